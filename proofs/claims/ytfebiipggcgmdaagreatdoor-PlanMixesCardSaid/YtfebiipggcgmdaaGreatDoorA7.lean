import Derived.Test.YtfebiipggcgmdaaGreatDoorA6
namespace Go.Proofs.YtfebiipggcgmdaaGreatDoor
open Go.RowKit

def LIM : Nat := 1024
def P1024 : Nat := 10 ^ LIM
theorem LIM_pos : 1 ≤ LIM := by decide
theorem In.abs {z : Int} (h : In z) : z.natAbs < P1024 := (dl_le_iff (k := LIM) LIM_pos).1 h
theorem In.of_abs {z : Int} (h : z.natAbs < P1024) : In z := (dl_le_iff (k := LIM) LIM_pos).2 h
theorem pow_room {n k : Nat} (h : n + 1 ≤ 9 * k) : 10 ^ n * 10 ≤ BB ^ k := by
  rw [BB_pow, ← Nat.pow_succ]; exact Nat.pow_le_pow_right (by omega) h
theorem P_room : P1024 * 10 ≤ BB ^ 232 := by
  have h := @pow_room LIM 232 (by decide)
  unfold P1024
  exact h
theorem sv_abs (l : Bool) (V : Nat) : (sv l V).natAbs = V := by unfold sv; cases l <;> simp

/-- A text and no error. -/
def OkEnd (z : Int) (w : World) (e : Ending) (w' : World) : Prop := e = .returned (.tuple #[.string (it z), .int .i64 0]) ∧ Below w.heap.size w w'

set_option maxRecDepth 100000 in
theorem limited_any (b V : Nat) (l : Bool) (w : World) (h : IsW w b l (nw V) V) (he : Env w) (hi : In (sv l V)) :
    Calls Tryz.prog 132 #[.pointer (some ⟨b, 0, none⟩)] w (OkEnd (sv l V) w) := by
  go_enter Tryz.func132, Tryz.ntmps132
  go_wp2_with fail
  refine (text_any b V l _ h he).mono ?_
  rintro e w1 ⟨rfl, hb1⟩
  have HB1 := Lib.hid hb1
  clear hb1
  go_wp2_with fail
  refine (check_it (sv l V) _ hi).mono ?_
  rintro e w2 ⟨rfl, hb2⟩
  have HB2 := Lib.hid hb2
  clear hb2
  go_wp2
  go_ret2
  exact ⟨rfl, HB1.out.trans (HB2.out.mono HB1.out.size)⟩

set_option maxRecDepth 100000 in
theorem of_any (n : Int) (h0 : -9223372036854775808 ≤ n) (h1 : n ≤ 9223372036854775807) (w : World) (he : Env w) :
    Calls Tryz.prog 95 #[.int .i64 n] w fun e w' => e = .returned (.string (it n)) ∧ Below w.heap.size w w' := by
  go_enter Tryz.func95, Tryz.ntmps95
  go_wp2_with fail
  refine (itoa_any n h0 h1 _ he).mono ?_
  rintro e w1 ⟨rfl, hb1⟩
  have HB1 := Lib.hid hb1
  clear hb1
  go_wp2
  go_ret
  exact ⟨rfl, HB1.out⟩

set_option maxRecDepth 100000 in
theorem result_any (n : Int) (h0 : -9223372036854775808 ≤ n) (h1 : n ≤ 9223372036854775807) (w : World) (he : Env w) :
    Calls Tryz.prog 129 #[.int .i64 n] w (OkEnd n w) := by
  go_enter Tryz.func129, Tryz.ntmps129
  go_wp2_with fail
  refine (of_any n h0 h1 _ he).mono ?_
  rintro e w1 ⟨rfl, hb1⟩
  have HB1 := Lib.hid hb1
  clear hb1
  go_wp2
  go_ret2
  exact ⟨rfl, HB1.out⟩

set_option maxRecDepth 100000 in
theorem small_no (a b : Int) (w : World) (h : 9 < (it a).size ∨ 9 < (it b).size) (ha : In a) (hb : In b) :
    Calls Tryz.prog 128 #[.string (it a), .string (it b)] w fun e w' => e = .returned (.tuple #[.int .i64 0, .int .i64 0, .bool false]) ∧ w' = w := by
  have s1 := it_le ha
  have s2 := it_le hb
  by_cases h1 : 9 < (it a).size
  · go_enter Tryz.func128, Tryz.ntmps128
    go_wp2
    go_ret3
    exact ⟨rfl, rfl⟩
  · have h2 : 9 < (it b).size := by omega
    go_enter Tryz.func128, Tryz.ntmps128
    go_wp2
    go_ret3
    exact ⟨rfl, rfl⟩
set_option maxRecDepth 100000 in
theorem small_yes (a b : Int) (w : World) (h1 : (it a).size ≤ 9) (h2 : (it b).size ≤ 9) :
    Calls Tryz.prog 128 #[.string (it a), .string (it b)] w fun e w' => e = .returned (.tuple #[.int .i64 a, .int .i64 b, .bool true]) ∧ Below w.heap.size w w' := by
  go_enter Tryz.func128, Tryz.ntmps128
  go_wp2_with fail
  refine (atoi_any (it a) a (by omega) (by rw [it_list]; exact atoi_itoa a) _).mono ?_
  rintro e w1 ⟨rfl, hb1⟩
  have HB1 := Lib.hid hb1
  clear hb1
  go_wp2_with fail
  refine (atoi_any (it b) b (by omega) (by rw [it_list]; exact atoi_itoa b) _).mono ?_
  rintro e w2 ⟨rfl, hb2⟩
  have HB2 := Lib.hid hb2
  clear hb2
  go_wp2
  go_ret3
  exact ⟨rfl, HB1.out.trans (HB2.out.mono HB1.out.size)⟩
/-- a short text is a small number -/
theorem short_abs {z : Int} (h : (it z).size ≤ 9) : -1000000000 < z ∧ z < 1000000000 := by
  have h1 : dl z ≤ 9 := by rw [it_sz] at h; omega
  have h2 := (dl_le_iff (by omega)).1 h1
  omega

set_option maxRecDepth 100000 in
set_option maxHeartbeats 1600000 in
theorem sum_any (g : Nat) (a b : Int) (w : World) (ha : In a) (hb : In b) (he : Env w) (hi : In (a + b)) (h0 : w.cell? ⟨g, 0, none⟩ = some (.string (it a))) (h1 : w.cell? ⟨g, 1, none⟩ = some (.string (it b))) :
    Calls Tryz.prog 137 #[.slice (some ⟨g, 0, none⟩) 2 2] w (OkEnd (a + b) w) := by
  have hg := World.block_lt_of_cell? w _ h0
  have HA := Lib.hid ha
  have HB := Lib.hid hb
  have HE := Lib.hid he
  have HI := Lib.hid hi
  have HN := Lib.hid (isW_new0 w)
  clear ha hb he hi
  go_enter Tryz.func137, Tryz.ntmps137
  go_wp2
  go_loopg [6, 11] 2 (fun k s i wr => ∃ (j V : Nat) (l : Bool), i = .int .i64 j ∧ j + k = 2 ∧ Below w.heap.size w wr ∧ IsW wr w.heap.size l (nw V) V ∧ sv l V = (if j = 0 then 0 else if j = 1 then a else a + b))
  case atStart => exact ⟨0, 0, false, rfl, rfl, (Below.refl _ _).alloc (Nat.le_refl _) _, by rw [nw_zero]; exact HN.out, rfl⟩
  case round =>
    obtain ⟨j, V, l, rfl, hk, hbl, hw, hs⟩ := hrel
    have c0 := (hbl.cell (p := ⟨g, 0, none⟩) hg).trans h0
    have c1 := (hbl.cell (p := ⟨g, 1, none⟩) hg).trans h1
    have hwl := hw.lt_size
    have HS := Lib.hid hs
    have HW := Lib.hid hw
    have HBL := Lib.hid hbl
    clear hs hw hbl
    rcases (show j = 0 ∨ j = 1 ∨ j = 2 by omega) with rfl | rfl | rfl
    · go_wp2_with fail
      refine (read_any a _ HA.out).mono ?_
      rintro e w1 ⟨br, rfl, hbr, hr, hb1⟩
      have hx := HW.out.below hb1 hwl
      have hV : V = 0 := by have h := HS.out; have h2 := sv_abs l V; simp at h; rw [h] at h2; simpa using h2.symm
      have hroom : V + a.natAbs < BB ^ 232 := by have h3 := HA.out.abs; have h4 := P_room; omega
      have HB1 := Lib.hid (HBL.out.trans (hb1.mono HBL.out.size))
      have HX := Lib.hid hx
      have HR := Lib.hid hr
      clear hb1 hx hr hV
      go_wp2_with fail
      refine (plus_any w.heap.size V br a.natAbs l _ _ HX.out HR.out (by omega) hroom).mono ?_
      rintro e w2 ⟨rfl, l2, Z, hZ, hw2, hg2⟩
      have HZ := Lib.hid hZ
      have HW2 := Lib.hid hw2
      have HG2 := Lib.hid hg2
      clear hZ hw2 hg2 hroom
      go_wp2
      go_roundg 1
      case rel =>
        refine ⟨1, Z, l2, rfl, rfl, below_gb HB1.out HG2.out (Nat.le_refl _) HB1.out.size, HW2.out, ?_⟩
        have h1 := HZ.out
        have h2 := HS.out
        simp at h2
        rw [h1, h2]
        simp
        unfold sv; by_cases hz : a < 0 <;> simp [hz] <;> omega
      case measure => omega
    · go_wp2_with fail
      refine (read_any b _ HB.out).mono ?_
      rintro e w1 ⟨br, rfl, hbr, hr, hb1⟩
      have hx := HW.out.below hb1 hwl
      have hV : V = a.natAbs := by have h := HS.out; have h2 := sv_abs l V; simp at h; rw [h] at h2; exact h2.symm
      have hroom : V + b.natAbs < BB ^ 232 := by have h3 := HA.out.abs; have h4 := HB.out.abs; have h5 := P_room; omega
      have HB1 := Lib.hid (HBL.out.trans (hb1.mono HBL.out.size))
      have HX := Lib.hid hx
      have HR := Lib.hid hr
      clear hb1 hx hr hV
      go_wp2_with fail
      refine (plus_any w.heap.size V br b.natAbs l _ _ HX.out HR.out (by omega) hroom).mono ?_
      rintro e w2 ⟨rfl, l2, Z, hZ, hw2, hg2⟩
      have HZ := Lib.hid hZ
      have HW2 := Lib.hid hw2
      have HG2 := Lib.hid hg2
      clear hZ hw2 hg2 hroom
      go_wp2
      go_roundg 0
      case rel =>
        refine ⟨2, Z, l2, rfl, rfl, below_gb HB1.out HG2.out (Nat.le_refl _) HB1.out.size, HW2.out, ?_⟩
        have h1 := HZ.out
        have h2 := HS.out
        simp at h2
        rw [h1, h2]
        simp
        unfold sv; by_cases hz : b < 0 <;> simp [hz] <;> omega
      case measure => omega
    · have hs2 : sv l V = a + b := by have h := HS.out; simpa using h
      go_wp2_with fail
      refine (limited_any w.heap.size V l _ HW.out (HE.out.below HBL.out) (by rw [hs2]; exact HI.out)).mono ?_
      rintro e w1 ⟨rfl, hb1⟩
      have HB1 := Lib.hid hb1
      have HS2 := Lib.hid hs2
      clear hb1 hs2
      go_wp2
      go_ret2
      exact ⟨by rw [HS2.out]; rfl, HBL.out.trans (HB1.out.mono HBL.out.size)⟩
end Go.Proofs.YtfebiipggcgmdaaGreatDoor

namespace Go.Proofs.YtfebiipggcgmdaaGreatDoor
open Go.RowKit

theorem two_cells (w : World) (x y : Value) (t : TypeId) : (w.alloc (.cells #[x, y] t)).cell? ⟨w.heap.size, 0, none⟩ = some x ∧ (w.alloc (.cells #[x, y] t)).cell? ⟨w.heap.size, 1, none⟩ = some y := by
  constructor <;> (simp only [World.cell?, heap_alloc_new]; rfl)

set_option maxRecDepth 100000 in
set_option maxHeartbeats 1600000 in
theorem add_any (a b : Int) (w : World) (ha : In a) (hb : In b) (hi : In (a + b)) (he : Env w) :
    Calls Tryz.prog 104 #[.string (it a), .string (it b)] w (OkEnd (a + b) w) := by
  have HA := Lib.hid ha
  have HB := Lib.hid hb
  have HI := Lib.hid hi
  have HE := Lib.hid he
  have HC := Lib.hid (two_cells w (.string (it a)) (.string (it b)) 63)
  have HB0 := Lib.hid ((Below.refl w.heap.size w).alloc (Nat.le_refl _) (.cells #[.string (it a), .string (it b)] 63))
  clear ha hb hi he
  go_enter Tryz.func104, Tryz.ntmps104
  go_wp2_with fail
  refine (all_ok _ a b _ HA.out HB.out HC.out.1 HC.out.2).mono ?_
  rintro e w1 ⟨rfl, hb1⟩
  have HB1 := Lib.hid (HB0.out.trans (hb1.mono (by simp)))
  clear hb1
  by_cases hs : (it a).size ≤ 9 ∧ (it b).size ≤ 9
  · obtain ⟨hs1, hs2⟩ := hs
    have hab1 := short_abs hs1
    have hab2 := short_abs hs2
    obtain ⟨a1, a2⟩ := hab1
    obtain ⟨b1, b2⟩ := hab2
    go_wp2_with fail
    refine (small_yes a b _ hs1 hs2).mono ?_
    rintro e w2 ⟨rfl, hb2⟩
    have HB2 := Lib.hid (HB1.out.trans (hb2.mono HB1.out.size))
    clear hb2
    go_wp2_with fail
    refine (result_any (a + b) (by omega) (by omega) _ (HE.out.below HB2.out)).mono ?_
    rintro e w3 ⟨rfl, hb3⟩
    have HB3 := Lib.hid (HB2.out.trans (hb3.mono HB2.out.size))
    clear hb3
    go_wp2
    go_ret2
    exact ⟨rfl, HB3.out⟩
  · have hs2 : 9 < (it a).size ∨ 9 < (it b).size := by omega
    have HS := Lib.hid hs2
    clear hs hs2
    go_wp2_with fail
    refine (small_no a b _ HS.out HA.out HB.out).mono ?_
    rintro e w2 ⟨rfl, rfl⟩
    have HC2 := Lib.hid (two_cells w2 (.string (it a)) (.string (it b)) 63)
    have HB2 := Lib.hid (HB1.out.alloc HB1.out.size (.cells #[.string (it a), .string (it b)] 63))
    go_wp2_with fail
    refine (sum_any _ a b _ HA.out HB.out (HE.out.below HB2.out) HI.out HC2.out.1 HC2.out.2).mono ?_
    rintro e w3 ⟨rfl, hb3⟩
    have HB3 := Lib.hid (HB2.out.trans (hb3.mono HB2.out.size))
    clear hb3
    go_wp2
    go_ret2
    exact ⟨rfl, HB3.out⟩

set_option maxRecDepth 100000 in
theorem opposite_any (z : Int) (w : World) (hz : In z) : Calls Tryz.prog 107 #[.string (it z)] w fun e w' => e = .returned (.string (it (-z))) ∧ w' = w := by
  have HZ := Lib.hid (it_le hz)
  clear hz
  rcases Int.lt_trichotomy z 0 with h | h | h
  · have hs : z.sign = -1 := Int.sign_eq_neg_one_of_neg h
    have HS := Lib.hid hs
    have he : Lib.itoa z = 45 :: Lib.itoa (-z) := by
      unfold Lib.itoa; rw [if_pos h, if_neg (by omega)]; congr 2; omega
    have h2 : it z = ⟨(45 :: Lib.itoa (-z)).toArray⟩ := by unfold it; rw [he]
    have HI := Lib.hid h2
    clear h he h2 hs
    go_enter Tryz.func107, Tryz.ntmps107
    go_wp2_with fail
    refine (sign_any z _).mono ?_
    rintro e w1 ⟨rfl, rfl⟩
    rw [HS.out, HI.out]
    clear HS
    go_wp2
    go_ret
    refine ⟨?_, rfl⟩
    show Ending.returned (.string _) = _
    congr 2
    apply ba_ext
    rw [it_list, Lib.extract_data]
    simp
  · subst h
    go_enter Tryz.func107, Tryz.ntmps107
    go_wp2_with fail
    refine (sign_any 0 _).mono ?_
    rintro e w1 ⟨rfl, rfl⟩
    rw [Int.sign_zero]
    go_wp2
    exact ⟨rfl, _, results_tmp rfl _ _ _, rfl, rfl⟩
  · have hs : z.sign = 1 := Int.sign_eq_one_of_pos h
    have HS := Lib.hid hs
    have he : Lib.itoa (-z) = 45 :: Lib.itoa z := by
      unfold Lib.itoa; rw [if_pos (by omega), if_neg (by omega)]; congr 2; omega
    have HI := Lib.hid he
    clear h he hs
    go_enter Tryz.func107, Tryz.ntmps107
    go_wp2_with fail
    refine (sign_any z _).mono ?_
    rintro e w1 ⟨rfl, rfl⟩
    rw [HS.out]
    clear HS
    go_wp2
    · exfalso; have := HZ.out; omega
    refine ⟨rfl, _, results_tmp rfl _ _ _, ?_, rfl⟩
    show Ending.returned (.string _) = _
    congr 2
    apply ba_ext
    rw [it_list, HI.out, data_append', it_list]; rfl
end Go.Proofs.YtfebiipggcgmdaaGreatDoor

namespace Go.Proofs.YtfebiipggcgmdaaGreatDoor
open Go.RowKit

theorem In.neg {z : Int} (h : In z) : In (-z) := by
  refine In.of_abs ?_
  have := h.abs
  rw [Int.natAbs_neg]
  exact this

set_option maxRecDepth 100000 in
set_option maxHeartbeats 1600000 in
theorem subi_any (a b : Int) (w : World) (ha : In a) (hb : In b) (hi : In (a - b)) (he : Env w) :
    Calls Tryz.prog 60 #[.string (it a), .string (it b)] w (OkEnd (a - b) w) := by
  have HA := Lib.hid ha
  have HB := Lib.hid hb
  have HI := Lib.hid hi
  have HE := Lib.hid he
  have HC := Lib.hid (two_cells w (.string (it a)) (.string (it b)) 63)
  have HB0 := Lib.hid ((Below.refl w.heap.size w).alloc (Nat.le_refl _) (.cells #[.string (it a), .string (it b)] 63))
  clear ha hb hi he
  go_enter Tryz.func60, Tryz.ntmps60
  go_wp2_with fail
  refine (all_ok _ a b _ HA.out HB.out HC.out.1 HC.out.2).mono ?_
  rintro e w1 ⟨rfl, hb1⟩
  have HB1 := Lib.hid (HB0.out.trans (hb1.mono (by simp)))
  clear hb1
  go_wp2_with fail
  refine (opposite_any b _ HB.out).mono ?_
  rintro e w2 ⟨rfl, rfl⟩
  go_wp2_with fail
  refine (add_any a (-b) _ HA.out HB.out.neg (by rw [← Int.sub_eq_add_neg]; exact HI.out) (HE.out.below HB1.out)).mono ?_
  rintro e w3 ⟨rfl, hb3⟩
  have HB3 := Lib.hid (HB1.out.trans (hb3.mono HB1.out.size))
  clear hb3
  go_wp2
  go_ret2
  exact ⟨by rw [Int.sub_eq_add_neg]; rfl, HB3.out⟩

theorem P_half : P1024 ≤ BB ^ 116 := by
  have h := @pow_room LIM 116 (by decide)
  have h2 : P1024 = 10 ^ LIM := rfl
  omega
theorem nw_In {z : Int} (h : In z) : nw z.natAbs ≤ 116 := by
  have h1 := h.abs
  have h2 : P1024 ≤ BB ^ 116 := P_half
  refine nw_le ?_
  omega

theorem sv_mul (a b : Int) : sv (!(decide (a < 0) == decide (b < 0))) (a.natAbs * b.natAbs) = a * b := by
  have ea : (a.natAbs : Int) = if a < 0 then -a else a := by split <;> omega
  have eb : (b.natAbs : Int) = if b < 0 then -b else b := by split <;> omega
  unfold sv
  rw [Int.natCast_mul, ea, eb]
  by_cases h1 : a < 0 <;> by_cases h2 : b < 0 <;> simp only [h1, h2, decide_true, decide_false, beq_self_eq_true, Bool.not_true, if_true, if_false, Int.neg_mul, Int.mul_neg, Int.neg_neg] <;> simp

theorem mul_bd {a b A : Int} (ha : -A < a) (ha' : a < A) (hb : -A < b) (hb' : b < A) : -(A * A) ≤ a * b ∧ a * b ≤ A * A := by
  have h1 : 0 ≤ (A - a) * (A + b) := Int.mul_nonneg (by omega) (by omega)
  have h2 : 0 ≤ (A + a) * (A - b) := Int.mul_nonneg (by omega) (by omega)
  have h3 : 0 ≤ (A - a) * (A - b) := Int.mul_nonneg (by omega) (by omega)
  have h4 : 0 ≤ (A + a) * (A + b) := Int.mul_nonneg (by omega) (by omega)
  simp only [Int.sub_mul, Int.add_mul, Int.mul_sub, Int.mul_add] at h1 h2 h3 h4
  rw [Int.mul_comm a A] at h1 h2 h3 h4
  constructor <;> omega

set_option maxRecDepth 100000 in
set_option maxHeartbeats 1600000 in
theorem muli_any (a b : Int) (w : World) (ha : In a) (hb : In b) (hi : In (a * b)) (he : Env w) :
    Calls Tryz.prog 94 #[.string (it a), .string (it b)] w (OkEnd (a * b) w) := by
  have HA := Lib.hid ha
  have HB := Lib.hid hb
  have HI := Lib.hid hi
  have HE := Lib.hid he
  have HC := Lib.hid (two_cells w (.string (it a)) (.string (it b)) 63)
  have HB0 := Lib.hid ((Below.refl w.heap.size w).alloc (Nat.le_refl _) (.cells #[.string (it a), .string (it b)] 63))
  clear ha hb hi he
  go_enter Tryz.func94, Tryz.ntmps94
  go_wp2_with fail
  refine (all_ok _ a b _ HA.out HB.out HC.out.1 HC.out.2).mono ?_
  rintro e w1 ⟨rfl, hb1⟩
  have HB1 := Lib.hid (HB0.out.trans (hb1.mono (by simp)))
  clear hb1
  by_cases hs : (it a).size ≤ 9 ∧ (it b).size ≤ 9
  · obtain ⟨hs1, hs2⟩ := hs
    have hab1 := short_abs hs1
    have hab2 := short_abs hs2
    have hm := mul_bd (a := a) (b := b) (A := 1000000000) (by omega) (by omega) (by omega) (by omega)
    obtain ⟨m1, m2⟩ := hm
    clear hab1 hab2
    go_wp2_with fail
    refine (small_yes a b _ hs1 hs2).mono ?_
    rintro e w2 ⟨rfl, hb2⟩
    have HB2 := Lib.hid (HB1.out.trans (hb2.mono HB1.out.size))
    clear hb2
    go_wp2_with fail
    refine (result_any (a * b) (by omega) (by omega) _ (HE.out.below HB2.out)).mono ?_
    rintro e w3 ⟨rfl, hb3⟩
    have HB3 := Lib.hid (HB2.out.trans (hb3.mono HB2.out.size))
    clear hb3
    go_wp2
    go_ret2
    exact ⟨rfl, HB3.out⟩
  · have hs2 : 9 < (it a).size ∨ 9 < (it b).size := by omega
    have HS := Lib.hid hs2
    clear hs hs2
    go_wp2_with fail
    refine (small_no a b _ HS.out HA.out HB.out).mono ?_
    rintro e w2 ⟨rfl, rfl⟩
    go_wp2_with fail
    refine (read_any a _ HA.out).mono ?_
    rintro e w3 ⟨ba, rfl, hba, hwa, hb3⟩
    have HB3 := Lib.hid (HB1.out.trans (hb3.mono HB1.out.size))
    have HWA := Lib.hid hwa
    clear hb3 hwa
    go_wp2_with fail
    refine (read_any b _ HB.out).mono ?_
    rintro e w4 ⟨bb, rfl, hbb, hwb, hb4⟩
    have HWA2 := Lib.hid (HWA.out.below hb4 HWA.out.lt_size)
    have HB4 := Lib.hid (HB3.out.trans (hb4.mono HB3.out.size))
    have HWB := Lib.hid hwb
    clear hb4 hwb
    go_wp2_with fail
    refine (times_any ba a.natAbs bb b.natAbs _ _ _ HWA2.out HWB.out (by have := nw_In HA.out; have := nw_In HB.out; omega)).mono ?_
    rintro e w5 ⟨bp, rfl, hbp, hwp, hb5⟩
    have HB5 := Lib.hid (HB4.out.trans (hb5.mono HB4.out.size))
    have HWP := Lib.hid hwp
    clear hb5 hwp
    go_wp2_with fail
    refine (limited_any bp _ _ _ HWP.out (HE.out.below HB5.out) (by rw [sv_mul]; exact HI.out)).mono ?_
    rintro e w6 ⟨rfl, hb6⟩
    have HB6 := Lib.hid (HB5.out.trans (hb6.mono HB5.out.size))
    clear hb6
    go_wp2
    go_ret2
    exact ⟨by rw [sv_mul]; rfl, HB6.out⟩
end Go.Proofs.YtfebiipggcgmdaaGreatDoor
