import Derived.Test.YtfebiipggcgmdaaGreatDoorAA
namespace Go.Proofs.YtfebiipggcgmdaaGreatDoor
open Go.RowKit

/-- Block b is a *sums that holds no error. -/
def IsS (w : World) (b : Nat) : Prop := w.heap[b]? = some (.cells #[.int .i64 0] 111 (0, 0))
theorem IsS.lt {w : World} {b : Nat} (h : IsS w b) : b < w.heap.size := by
  refine Nat.lt_of_not_le fun hn => ?_
  unfold IsS at h
  rw [Array.getElem?_eq_none hn] at h
  cases h
theorem IsS.below {w w' : World} {b B : Nat} (h : IsS w b) (hb : Below B w w') (hB : b < B) : IsS w' b := (hb.block b hB).trans h
theorem IsS.cell {w : World} {b : Nat} (h : IsS w b) : w.cell? ⟨b, 0, none⟩ = some (.int .i64 0) := by
  unfold IsS at h
  simp only [World.cell?, h]; rfl
theorem IsS.free {w : World} {b : Nat} (h : IsS w b) : w.frozen? ⟨b, 0, none⟩ = false := by
  unfold IsS at h
  simp only [World.frozen?, h]; rfl
theorem IsS.put {w : World} {b : Nat} (h : IsS w b) (B : Nat) : Below B w (w.setCell ⟨b, 0, none⟩ (.int .i64 0)) := by
  have h1 := heap_setCell_at (o := 0) h (.int .i64 0)
  refine ⟨rfl, rfl, rfl, by simp, fun i _ => ?_⟩
  by_cases hi : i = b
  · subst hi; rw [h1]; exact h.symm
  · exact Below.heap_setCell _ _ _ _ hi

set_option maxRecDepth 100000 in
theorem do_any (f b : Nat) (x y : ByteArray) (z : Int) (w : World) (hf : f = 104 ∨ f = 60 ∨ f = 94 ∨ f = 134 ∨ f = 110) (h : IsS w b) (hop : Calls Tryz.prog f #[.string x, .string y] w (OkEnd z w)) :
    Calls Tryz.prog 103 #[.pointer (some ⟨b, 0, none⟩), .func (.func f) #[] #[], .string x, .string y] w fun e w' => e = .returned (.string (it z)) ∧ Below w.heap.size w w' := by
  have hl := h.lt
  have hc := h.cell
  have HS := Lib.hid h
  have HO := Lib.hid hop
  clear h hop
  rcases hf with rfl | rfl | rfl | rfl | rfl
  all_goals go_enter Tryz.func103, Tryz.ntmps103
  all_goals go_wp2_with fail
  all_goals refine HO.out.mono ?_
  all_goals rintro e w1 ⟨rfl, hb1⟩
  all_goals have hs1 := HS.out.below hb1 hl
  all_goals have c1 := hs1.cell
  all_goals have f1 := hs1.free
  all_goals have HB := Lib.hid (hb1.trans ((hs1.put w.heap.size).mono (Nat.le_refl _)))
  all_goals clear hs1 hb1
  all_goals go_wp2
  all_goals go_ret
  all_goals exact ⟨rfl, HB.out⟩

set_option maxRecDepth 100000 in
theorem adds_any (b : Nat) (x y : Int) (w : World) (h : IsS w b) (ha : In x) (hb : In y) (hi : In (x + y)) (he : Env w) :
    Calls Tryz.prog 56 #[.pointer (some ⟨b, 0, none⟩), .string (it x), .string (it y)] w fun e w' => e = .returned (.string (it (x + y))) ∧ Below w.heap.size w w' := by
  have HO := Lib.hid (add_any x y w ha hb hi he)
  have HS := Lib.hid h
  clear h ha hb hi he
  go_enter Tryz.func56, Tryz.ntmps56
  go_wp2_with fail
  refine (do_any _ b (it x) (it y) (x + y) _ (by omega) HS.out HO.out).mono ?_
  rintro e w1 ⟨rfl, hb1⟩
  have HB1 := Lib.hid hb1
  clear hb1
  go_wp2
  go_ret
  exact ⟨rfl, HB1.out⟩
set_option maxRecDepth 100000 in
theorem subs_any (b : Nat) (x y : Int) (w : World) (h : IsS w b) (ha : In x) (hb : In y) (hi : In (x - y)) (he : Env w) :
    Calls Tryz.prog 100 #[.pointer (some ⟨b, 0, none⟩), .string (it x), .string (it y)] w fun e w' => e = .returned (.string (it (x - y))) ∧ Below w.heap.size w w' := by
  have HO := Lib.hid (subi_any x y w ha hb hi he)
  have HS := Lib.hid h
  clear h ha hb hi he
  go_enter Tryz.func100, Tryz.ntmps100
  go_wp2_with fail
  refine (do_any _ b (it x) (it y) (x - y) _ (by omega) HS.out HO.out).mono ?_
  rintro e w1 ⟨rfl, hb1⟩
  have HB1 := Lib.hid hb1
  clear hb1
  go_wp2
  go_ret
  exact ⟨rfl, HB1.out⟩
end Go.Proofs.YtfebiipggcgmdaaGreatDoor

namespace Go.Proofs.YtfebiipggcgmdaaGreatDoor
open Go.RowKit

set_option maxRecDepth 100000 in
set_option maxHeartbeats 1600000 in
theorem muls_any (b g : Nat) (x y : Int) (w : World) (h : IsS w b) (ha : In x) (hb : In y) (hi : In (x * y)) (he : Env w)
    (h0 : w.cell? ⟨g, 0, none⟩ = some (.string (it x))) (h1 : w.cell? ⟨g, 1, none⟩ = some (.string (it y))) :
    Calls Tryz.prog 57 #[.pointer (some ⟨b, 0, none⟩), .slice (some ⟨g, 0, none⟩) 2 2] w fun e w' => e = .returned (.string (it (x * y))) ∧ Below w.heap.size w w' := by
  have hg := World.block_lt_of_cell? w _ h0
  have HA := Lib.hid ha
  have HB := Lib.hid hb
  have HI := Lib.hid hi
  have HE := Lib.hid he
  have HS := Lib.hid h
  have H1 := Lib.hid it_one
  have HL := Lib.hid h.lt
  clear ha hb hi he h
  go_enter Tryz.func57, Tryz.ntmps57
  go_wp2
  go_loopg [5, 13] 2 (fun k o i wr => ∃ j : Nat, i = .int .i64 j ∧ j + k = 2 ∧ o = .string (it (if j = 0 then 1 else if j = 1 then x else x * y)) ∧ Below w.heap.size w wr)
  case atStart => exact ⟨0, rfl, rfl, by rw [if_pos rfl, H1.out], Below.refl _ _⟩
  case round =>
    obtain ⟨j, rfl, hk, rfl, hbl⟩ := hrel
    have c0 := (hbl.cell (p := ⟨g, 0, none⟩) hg).trans h0
    have c1 := (hbl.cell (p := ⟨g, 1, none⟩) hg).trans h1
    rcases (show j = 0 ∨ j = 1 ∨ j = 2 by omega) with rfl | rfl | rfl
    · rw [if_pos rfl]
      go_wp2_with fail
      refine (do_any _ b (it 1) (it x) (1 * x) _ (by omega) (HS.out.below hbl HL.out) (muli_any 1 x _ (In.of_abs P_one) HA.out (by rw [Int.one_mul]; exact HA.out) (HE.out.below hbl))).mono ?_
      rintro e w1 ⟨rfl, hb1⟩
      rw [Int.one_mul]
      have HB1 := Lib.hid (hbl.trans (hb1.mono hbl.size))
      clear hb1
      go_wp2
      go_roundg 1
      case rel => exact ⟨1, rfl, rfl, rfl, HB1.out⟩
      case measure => omega
    · rw [if_neg (by omega), if_pos rfl]
      go_wp2_with fail
      refine (do_any _ b (it x) (it y) (x * y) _ (by omega) (HS.out.below hbl HL.out) (muli_any x y _ HA.out HB.out HI.out (HE.out.below hbl))).mono ?_
      rintro e w1 ⟨rfl, hb1⟩
      have HB1 := Lib.hid (hbl.trans (hb1.mono hbl.size))
      clear hb1
      go_wp2
      go_roundg 0
      case rel => exact ⟨2, rfl, rfl, rfl, HB1.out⟩
      case measure => omega
    · rw [if_neg (by omega), if_neg (by omega)]
      go_wp2
      go_ret
      exact ⟨rfl, hbl⟩

theorem pre_it (z : Int) (h : 0 < z) (w : World) : Calls Tryz.prog 135 #[.string (it z), .string ⟨#[45]⟩] w fun e w' => e = .returned (.bool false) ∧ w' = w := by
  refine (Tryz.strings_HasPrefix (it z) ⟨#[45]⟩ w).mono ?_
  rintro e w1 ⟨rfl, rfl⟩
  refine ⟨?_, rfl⟩
  obtain ⟨n, rfl⟩ : ∃ n : Nat, z = n := ⟨z.toNat, by omega⟩
  have hd := dec_dig n
  rw [it_nat_list]
  show Ending.returned (.bool (Lib.hasPrefix (Lib.decDigits n) [45])) = _
  congr 2
  cases hl : Lib.decDigits n with
  | nil => exact absurd hl (dec_ne n)
  | cons c t =>
    rw [hl] at hd
    have hc := hd c (List.mem_cons_self ..)
    unfold Lib.hasPrefix
    by_cases h1 : c = 45
    · subst h1; exact absurd hc.1 (by decide)
    · simp [List.isPrefixOf]
      exact fun h => h1 h.symm

theorem gcd_parts (p : Int) (q : Nat) (hq : 0 < q) : 0 < Int.gcd p q ∧ p = (mkRat p q).num * (Int.gcd p q : Nat) ∧ q = (mkRat p q).den * Int.gcd p q := by
  have hg : Int.gcd p q = Nat.gcd q p.natAbs := by
    show Nat.gcd p.natAbs (q : Int).natAbs = _
    rw [Int.natAbs_natCast, Nat.gcd_comm]
  have h0 : q ≠ 0 := by omega
  rw [hg, Rat.num_mkRat, Rat.den_mkRat, if_neg h0, if_neg h0]
  refine ⟨Nat.gcd_pos_of_pos_left _ hq, ?_, ?_⟩
  · refine (Int.ediv_mul_cancel ?_).symm
    exact Int.ofNat_dvd_left.2 (Nat.gcd_dvd_right q p.natAbs)
  · exact (Nat.div_mul_cancel (Nat.gcd_dvd_left q p.natAbs)).symm

set_option maxRecDepth 100000 in
set_option maxHeartbeats 1600000 in
theorem lowest_any (b : Nat) (p : Int) (q : Nat) (w : World) (hq : 0 < q) (h : IsS w b) (ha : In p) (hb : In (q : Int)) (he : Env w) :
    Calls Tryz.prog 102 #[.pointer (some ⟨b, 0, none⟩), .string (it p), .string (it (q : Int))] w fun e w' => e = .returned (.string (rt (mkRat p q))) ∧ Below w.heap.size w w' := by
  obtain ⟨g, hgg⟩ : ∃ g, Int.gcd p q = g := ⟨_, rfl⟩
  obtain ⟨r, hr⟩ : ∃ r, mkRat p q = r := ⟨_, rfl⟩
  have hp := gcd_parts p q hq
  rw [hgg, hr] at hp
  obtain ⟨g0, g1, g2⟩ := hp
  have g2' : (q : Int) = (r.den : Int) * (g : Int) := by rw [g2]; exact Int.natCast_mul ..
  have hd0 : 0 < r.den := r.den_pos
  have ig : In (g : Int) := In.of_abs (by
    have h1 := hb.abs
    rw [Int.natAbs_natCast] at h1 ⊢
    have := Nat.le_mul_of_pos_left g hd0
    omega)
  have ir : In r.num := In.of_abs (by
    have h1 := ha.abs
    rw [g1, Int.natAbs_mul, Int.natAbs_natCast] at h1
    have := Nat.le_mul_of_pos_right r.num.natAbs g0
    omega)
  have id : In (r.den : Int) := In.of_abs (by
    have h1 := hb.abs
    rw [Int.natAbs_natCast] at h1 ⊢
    have := Nat.le_mul_of_pos_right r.den g0
    omega)
  have HG := Lib.hid (gcd_any p q)
  have HQ1 := Lib.hid (quo_exact r.num g)
  have HQ2 := Lib.hid (quo_exact r.den g)
  have HP := Lib.hid (pre_it q (by omega))
  rw [← g1] at HQ1
  rw [← g2'] at HQ2
  rw [hgg] at HG
  have HA := Lib.hid ha
  have HB := Lib.hid hb
  have HE := Lib.hid he
  have HS := Lib.hid h
  have HL := Lib.hid h.lt
  have HI1 := Lib.hid ig
  have HI2 := Lib.hid ir
  have HI3 := Lib.hid id
  have HZ := Lib.hid g0
  have HR := Lib.hid (rt_jn r)
  rw [hr]
  clear hgg hr hq ha hb he h ig ir id g0 g1 g2 g2' hd0
  go_enter Tryz.func102, Tryz.ntmps102
  go_wp2_with fail
  refine (do_any _ b (it p) (it (q : Int)) g _ (by omega) HS.out (HG.out _ HA.out HB.out HE.out)).mono ?_
  rintro e w1 ⟨rfl, hb1⟩
  have HB1 := Lib.hid hb1
  have hs1 := HS.out.below hb1 HL.out
  have HS1 := Lib.hid hs1
  have c1 := hs1.cell
  clear hb1 hs1
  go_wp2_with fail
  refine (HP.out _).mono ?_
  rintro e w2 ⟨rfl, rfl⟩
  go_wp2_with fail
  refine (do_any _ b (it p) (it (g : Int)) r.num _ (by omega) HS1.out (HQ1.out _ (by have := HZ.out; omega) HA.out HI1.out (HE.out.below HB1.out))).mono ?_
  rintro e w3 ⟨rfl, hb3⟩
  have HB3 := Lib.hid (HB1.out.trans (hb3.mono HB1.out.size))
  have HS3 := Lib.hid (HS.out.below HB3.out HL.out)
  clear hb3 c1
  go_wp2_with fail
  refine (do_any _ b (it (q : Int)) (it (g : Int)) r.den _ (by omega) HS3.out (HQ2.out _ (by have := HZ.out; omega) HB.out HI1.out (HE.out.below HB3.out))).mono ?_
  rintro e w4 ⟨rfl, hb4⟩
  have HB4 := Lib.hid (HB3.out.trans (hb4.mono HB3.out.size))
  clear hb4
  go_wp2_with fail
  refine (joined_any r.num r.den _ HI2.out HI3.out).mono ?_
  rintro e w5 ⟨rfl, rfl⟩
  rw [← HR.out]
  go_wp2
  go_ret
  exact ⟨rfl, HB4.out⟩
end Go.Proofs.YtfebiipggcgmdaaGreatDoor

namespace Go.Proofs.YtfebiipggcgmdaaGreatDoor
open Go.RowKit

/-- A rational number's text and no error. -/
def RatEnd (r : Rat) (w : World) (e : Ending) (w' : World) : Prop := e = .returned (.tuple #[.string (rt r), .int .i64 0]) ∧ Below w.heap.size w w'

theorem isS_new (w : World) : IsS (w.alloc (.cells #[.int .i64 0] 111)) w.heap.size := by
  unfold IsS; rw [heap_alloc_new]

set_option maxRecDepth 100000 in
set_option maxHeartbeats 1600000 in
theorem make_any (p : Int) (q : Nat) (w : World) (hq : 0 < q) (ha : In p) (hb : In (q : Int)) (he : Env w) :
    Calls Tryz.prog 109 #[.string (it p), .string (it (q : Int))] w (RatEnd (mkRat p q) w) := by
  have HA := Lib.hid ha
  have HB := Lib.hid hb
  have HE := Lib.hid he
  have HC := Lib.hid (two_cells w (.string (it p)) (.string (it (q : Int))) 63)
  have HB0 := Lib.hid ((Below.refl w.heap.size w).alloc (Nat.le_refl _) (.cells #[.string (it p), .string (it (q : Int))] 63))
  have HQ := Lib.hid hq
  have hz := it_ne_zero (show (q : Int) ≠ 0 by omega)
  clear ha hb he hq
  go_enter Tryz.func109, Tryz.ntmps109
  go_wp2
  go_loopg [15] 2 (fun k i wr => ∃ j : Nat, i = .int .i64 j ∧ j + k = 2 ∧ Below (w.heap.size + 1) (w.alloc (.cells #[.string (it p), .string (it (q : Int))] 63)) wr)
  case atStart => exact ⟨0, rfl, rfl, Below.refl _ _⟩
  case round =>
    obtain ⟨j, rfl, hk, hbl⟩ := hrel
    have c0 := (hbl.cell (p := ⟨w.heap.size, 0, none⟩) (Nat.lt_succ_self _)).trans HC.out.1
    have c1 := (hbl.cell (p := ⟨w.heap.size, 1, none⟩) (Nat.lt_succ_self _)).trans HC.out.2
    have hsz : w.heap.size + 1 ≤ wr.heap.size := by have := hbl.size; simpa using this
    rcases (show j = 0 ∨ j = 1 ∨ j = 2 by omega) with rfl | rfl | rfl
    · go_wp2_with fail
      refine (check_it p _ HA.out).mono ?_
      rintro e w1 ⟨rfl, hb1⟩
      have HB1 := Lib.hid (hbl.trans (hb1.mono hsz))
      clear hb1
      go_wp2
      go_roundg 1
      case rel => exact ⟨1, rfl, rfl, HB1.out⟩
      case measure => omega
    · go_wp2_with fail
      refine (check_it (q : Int) _ HB.out).mono ?_
      rintro e w1 ⟨rfl, hb1⟩
      have HB1 := Lib.hid (hbl.trans (hb1.mono hsz))
      clear hb1
      go_wp2
      go_roundg 0
      case rel => exact ⟨2, rfl, rfl, HB1.out⟩
      case measure => omega
    · have HB1 := Lib.hid (HB0.out.trans (hbl.mono (by omega)))
      have HN := Lib.hid (isS_new wr)
      have HB2 := Lib.hid (HB1.out.alloc HB1.out.size (.cells #[.int .i64 0] 111))
      have HL := Lib.hid (isS_new wr).lt
      clear hbl
      go_wp2_with fail
      refine (lowest_any wr.heap.size p q _ HQ.out HN.out HA.out HB.out (HE.out.below HB2.out)).mono ?_
      rintro e w3 ⟨rfl, hb3⟩
      have HB3 := Lib.hid (HB2.out.trans (hb3.mono HB2.out.size))
      have hs3 := HN.out.below hb3 HL.out
      have c3 := hs3.cell
      clear hb3 hs3
      go_wp2
      go_ret2
      exact ⟨rfl, HB3.out⟩
end Go.Proofs.YtfebiipggcgmdaaGreatDoor

namespace Go.Proofs.YtfebiipggcgmdaaGreatDoor
open Go.RowKit

theorem cut_rt (p : Rat) (w : World) (h : sm 1024 p) (he : Env w) : Calls Tryz.prog 74 #[.string (rt p)] w fun e w' =>
    e = .returned (.tuple #[.string (it p.num), .string (it (p.den : Int)), .bool (decide (p.den ≠ 1))]) ∧ Below w.heap.size w w' := by
  refine (cut_any (rt p) w (by have := rt_size h; omega) he).mono ?_
  rintro e w2 ⟨rfl, hd2⟩
  rw [splL_rt]
  have e2 : it (p.den : Int) = bt (Lib.decDigits p.den) := by apply ba_ext; rw [it_nat_list, bt_list]
  rw [e2]
  exact ⟨rfl, hd2.below _⟩

theorem two_cells_at (w : World) (n : Nat) (hn : w.heap.size = n) (x y : Value) (t : TypeId) : (w.alloc (.cells #[x, y] t)).cell? ⟨n, 0, none⟩ = some x ∧ (w.alloc (.cells #[x, y] t)).cell? ⟨n, 1, none⟩ = some y := by
  subst hn; exact two_cells w x y t

theorem In.num {p : Rat} (h : sm 1024 p) : In p.num := In.of_lt h.1
theorem In.den {p : Rat} (h : sm 1024 p) : In (p.den : Int) := In.of_lt (by rw [Int.natAbs_natCast]; exact h.2)

set_option maxRecDepth 100000 in
set_option maxHeartbeats 1600000 in
theorem rcompare_any (p q : Rat) (w : World) (hp : sm 1024 p) (hq : sm 1024 q) (h1 : In (p.num * q.den)) (h2 : In (q.num * p.den)) (he : Env w) :
    Calls Tryz.prog 31 #[.string (rt p), .string (rt q)] w (NumEnd (p.num * q.den - q.num * p.den).sign w) := by
  have HP := Lib.hid hp
  have HQ := Lib.hid hq
  have H1 := Lib.hid h1
  have H2 := Lib.hid h2
  have HE := Lib.hid he
  have HC := Lib.hid (two_cells w (.string (rt p)) (.string (rt q)) 26)
  have HB0 := Lib.hid ((Below.refl w.heap.size w).alloc (Nat.le_refl _) (.cells #[.string (rt p), .string (rt q)] 26))
  clear hp hq h1 h2 he
  go_enter Tryz.func31, Tryz.ntmps31
  go_wp2_with fail
  refine (checks_ok _ p q _ HP.out HQ.out (HE.out.below HB0.out) HC.out.1 HC.out.2).mono ?_
  rintro e w1 ⟨rfl, hb1⟩
  have HB1 := Lib.hid (HB0.out.trans (hb1.mono (by simp)))
  clear hb1
  go_wp2_with fail
  refine (cut_rt p _ HP.out (HE.out.below HB1.out)).mono ?_
  rintro e w2 ⟨rfl, hb2⟩
  have HB2 := Lib.hid (HB1.out.trans (hb2.mono HB1.out.size))
  clear hb2
  go_wp2_with fail
  refine (cut_rt q _ HQ.out (HE.out.below HB2.out)).mono ?_
  rintro e w3 ⟨rfl, hb3⟩
  have HB3 := Lib.hid (HB2.out.trans (hb3.mono HB2.out.size))
  clear hb3
  have HN := Lib.hid (isS_new w3)
  have HB4 := Lib.hid (HB3.out.alloc HB3.out.size (.cells #[.int .i64 0] 111))
  have HT := Lib.hid (two_cells_at (w3.alloc (.cells #[.int .i64 0] 111)) (w3.heap.size + 1) (by simp) (.string (it p.num)) (.string (it (q.den : Int))) 63)
  have HT0 := Lib.hid (HB4.out.alloc HB4.out.size (.cells #[.string (it p.num), .string (it (q.den : Int))] 63))
  have HNT := Lib.hid (HN.out.below ((Below.refl (w3.heap.size + 1) (w3.alloc (.cells #[.int .i64 0] 111))).alloc (by simp) (.cells #[.string (it p.num), .string (it (q.den : Int))] 63)) (Nat.lt_succ_self _))
  go_wp2_with fail
  refine (muls_any w3.heap.size (w3.heap.size + 1) p.num q.den _ HNT.out (In.num HP.out) (In.den HQ.out) H1.out (HE.out.below HT0.out) HT.out.1 HT.out.2).mono ?_
  rintro e w5 ⟨rfl, hb5⟩
  have HN5 := Lib.hid (HNT.out.below hb5 HNT.out.lt)
  have HB5 := Lib.hid (HT0.out.trans (hb5.mono HT0.out.size))
  clear hb5 HT HT0 HNT HN
  have HT := Lib.hid (two_cells w5 (.string (it q.num)) (.string (it (p.den : Int))) 63)
  have HT0 := Lib.hid ((Below.refl w5.heap.size w5).alloc (Nat.le_refl _) (.cells #[.string (it q.num), .string (it (p.den : Int))] 63))
  go_wp2_with fail
  refine (muls_any w3.heap.size w5.heap.size q.num p.den _ (HN5.out.below HT0.out HN5.out.lt) (In.num HQ.out) (In.den HP.out) H2.out (HE.out.below (HB5.out.trans (HT0.out.mono HB5.out.size))) HT.out.1 HT.out.2).mono ?_
  rintro e w6 ⟨rfl, hb6⟩
  have HN6 := Lib.hid (HN5.out.below (HT0.out.trans (hb6.mono (by simp))) HN5.out.lt)
  have HB6 := Lib.hid (HB5.out.trans ((HT0.out.trans (hb6.mono (by simp))).mono HB5.out.size))
  have c6 := HN6.out.cell
  clear hb6 HT HT0
  go_wp2_with fail
  refine (compare_any (p.num * q.den) (q.num * p.den) _ H1.out H2.out).mono ?_
  rintro e w7 ⟨rfl, hb7⟩
  have HB7 := Lib.hid (HB6.out.trans (hb7.mono HB6.out.size))
  clear hb7
  go_wp2
  go_ret2
  exact ⟨rfl, HB7.out⟩
end Go.Proofs.YtfebiipggcgmdaaGreatDoor

namespace Go.Proofs.YtfebiipggcgmdaaGreatDoor
open Go.RowKit

/-- mul called with a slice that has just been made -/
theorem muls_new (b : Nat) (x y : Int) (w : World) (h : IsS w b) (ha : In x) (hb : In y) (hi : In (x * y)) (he : Env w) :
    Calls Tryz.prog 57 #[.pointer (some ⟨b, 0, none⟩), .slice (some ⟨w.heap.size, 0, none⟩) 2 2] (w.alloc (.cells #[.string (it x), .string (it y)] 63)) fun e w' => e = .returned (.string (it (x * y))) ∧ Below w.heap.size w w' := by
  have h0 := (Below.refl w.heap.size w).alloc (Nat.le_refl _) (.cells #[.string (it x), .string (it y)] 63)
  have hc := two_cells w (.string (it x)) (.string (it y)) 63
  refine (muls_any b w.heap.size x y _ (h.below h0 h.lt) ha hb hi (he.below h0) hc.1 hc.2).mono ?_
  rintro e w1 ⟨rfl, hb1⟩
  exact ⟨rfl, h0.trans (hb1.mono (by simp))⟩

/-- What a function of 'terms' returns. -/
def TermsEnd (x y : Int) (w : World) (e : Ending) (w' : World) : Prop := e = .returned (.tuple #[.string (it x), .string (it y)]) ∧ Below w.heap.size w w'

set_option maxRecDepth 100000 in
set_option maxHeartbeats 1600000 in
theorem addt_any (b : Nat) (n p m q : Int) (w : World) (h : IsS w b) (i1 : In n) (i2 : In p) (i3 : In m) (i4 : In q) (i5 : In (n * q)) (i6 : In (m * p)) (i7 : In (n * q + m * p)) (i8 : In (p * q)) (he : Env w) :
    Calls Tryz.prog 55 #[.pointer (some ⟨b, 0, none⟩), .string (it n), .string (it p), .string (it m), .string (it q)] w (TermsEnd (n * q + m * p) (p * q) w) := by
  have HS := Lib.hid h
  have HL := Lib.hid h.lt
  have HE := Lib.hid he
  have H1 := Lib.hid i1
  have H2 := Lib.hid i2
  have H3 := Lib.hid i3
  have H4 := Lib.hid i4
  have H5 := Lib.hid i5
  have H6 := Lib.hid i6
  have H7 := Lib.hid i7
  have H8 := Lib.hid i8
  clear h he i1 i2 i3 i4 i5 i6 i7 i8
  go_enter Tryz.func55, Tryz.ntmps55
  go_wp2_with fail
  refine (muls_new b n q w HS.out H1.out H4.out H5.out HE.out).mono ?_
  rintro e w1 ⟨rfl, hb1⟩
  have HB1 := Lib.hid hb1
  clear hb1
  go_wp2_with fail
  refine (muls_new b m p w1 (HS.out.below HB1.out HL.out) H3.out H2.out H6.out (HE.out.below HB1.out)).mono ?_
  rintro e w2 ⟨rfl, hb2⟩
  have HB2 := Lib.hid (HB1.out.trans (hb2.mono HB1.out.size))
  clear hb2
  go_wp2_with fail
  refine (adds_any b (n * q) (m * p) w2 (HS.out.below HB2.out HL.out) H5.out H6.out H7.out (HE.out.below HB2.out)).mono ?_
  rintro e w3 ⟨rfl, hb3⟩
  have HB3 := Lib.hid (HB2.out.trans (hb3.mono HB2.out.size))
  clear hb3
  go_wp2_with fail
  refine (muls_new b p q w3 (HS.out.below HB3.out HL.out) H2.out H4.out H8.out (HE.out.below HB3.out)).mono ?_
  rintro e w4 ⟨rfl, hb4⟩
  have HB4 := Lib.hid (HB3.out.trans (hb4.mono HB3.out.size))
  clear hb4
  go_wp2
  go_ret2
  exact ⟨rfl, HB4.out⟩

set_option maxRecDepth 100000 in
set_option maxHeartbeats 1600000 in
theorem subt_any (b : Nat) (n p m q : Int) (w : World) (h : IsS w b) (i1 : In n) (i2 : In p) (i3 : In m) (i4 : In q) (i5 : In (n * q)) (i6 : In (m * p)) (i7 : In (n * q - m * p)) (i8 : In (p * q)) (he : Env w) :
    Calls Tryz.prog 99 #[.pointer (some ⟨b, 0, none⟩), .string (it n), .string (it p), .string (it m), .string (it q)] w (TermsEnd (n * q - m * p) (p * q) w) := by
  have HS := Lib.hid h
  have HL := Lib.hid h.lt
  have HE := Lib.hid he
  have H1 := Lib.hid i1
  have H2 := Lib.hid i2
  have H3 := Lib.hid i3
  have H4 := Lib.hid i4
  have H5 := Lib.hid i5
  have H6 := Lib.hid i6
  have H7 := Lib.hid i7
  have H8 := Lib.hid i8
  clear h he i1 i2 i3 i4 i5 i6 i7 i8
  go_enter Tryz.func99, Tryz.ntmps99
  go_wp2_with fail
  refine (muls_new b n q w HS.out H1.out H4.out H5.out HE.out).mono ?_
  rintro e w1 ⟨rfl, hb1⟩
  have HB1 := Lib.hid hb1
  clear hb1
  go_wp2_with fail
  refine (muls_new b m p w1 (HS.out.below HB1.out HL.out) H3.out H2.out H6.out (HE.out.below HB1.out)).mono ?_
  rintro e w2 ⟨rfl, hb2⟩
  have HB2 := Lib.hid (HB1.out.trans (hb2.mono HB1.out.size))
  clear hb2
  go_wp2_with fail
  refine (subs_any b (n * q) (m * p) w2 (HS.out.below HB2.out HL.out) H5.out H6.out H7.out (HE.out.below HB2.out)).mono ?_
  rintro e w3 ⟨rfl, hb3⟩
  have HB3 := Lib.hid (HB2.out.trans (hb3.mono HB2.out.size))
  clear hb3
  go_wp2_with fail
  refine (muls_new b p q w3 (HS.out.below HB3.out HL.out) H2.out H4.out H8.out (HE.out.below HB3.out)).mono ?_
  rintro e w4 ⟨rfl, hb4⟩
  have HB4 := Lib.hid (HB3.out.trans (hb4.mono HB3.out.size))
  clear hb4
  go_wp2
  go_ret2
  exact ⟨rfl, HB4.out⟩

set_option maxRecDepth 100000 in
set_option maxHeartbeats 1600000 in
theorem mult_any (b : Nat) (n p m q : Int) (w : World) (h : IsS w b) (i1 : In n) (i2 : In p) (i3 : In m) (i4 : In q) (i5 : In (n * m)) (i8 : In (p * q)) (he : Env w) :
    Calls Tryz.prog 86 #[.pointer (some ⟨b, 0, none⟩), .string (it n), .string (it p), .string (it m), .string (it q)] w (TermsEnd (n * m) (p * q) w) := by
  have HS := Lib.hid h
  have HL := Lib.hid h.lt
  have HE := Lib.hid he
  have H1 := Lib.hid i1
  have H2 := Lib.hid i2
  have H3 := Lib.hid i3
  have H4 := Lib.hid i4
  have H5 := Lib.hid i5
  have H8 := Lib.hid i8
  clear h he i1 i2 i3 i4 i5 i8
  go_enter Tryz.func86, Tryz.ntmps86
  go_wp2_with fail
  refine (muls_new b n m w HS.out H1.out H3.out H5.out HE.out).mono ?_
  rintro e w1 ⟨rfl, hb1⟩
  have HB1 := Lib.hid hb1
  clear hb1
  go_wp2_with fail
  refine (muls_new b p q w1 (HS.out.below HB1.out HL.out) H2.out H4.out H8.out (HE.out.below HB1.out)).mono ?_
  rintro e w4 ⟨rfl, hb4⟩
  have HB4 := Lib.hid (HB1.out.trans (hb4.mono HB1.out.size))
  clear hb4
  go_wp2
  go_ret2
  exact ⟨rfl, HB4.out⟩
end Go.Proofs.YtfebiipggcgmdaaGreatDoor
