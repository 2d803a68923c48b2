import Derived.Test.YtfebiipggcgmdaaGreatDoorS4
import Derived.RangeFuncBox
import Derived.Maps.AppendAt
import Derived.Laws.OwnMore
import Derived.Deep.Onto
namespace Go.Proofs.YtfebiipggcgmdaaGreatDoor
open Go.RowKit Go.Shelf

theorem rat_info : (Tryz.prog.info? 26).map (fun i => (i.zero, i.size, i.bytes)) = some (some (.string ⟨#[]⟩), 1, 16) := by kernel_rfl

theorem startC (N C lot : Nat) (w : World) : ∃ A4 : World,
    (((w.alloc (.cells #[.int .i64 N, .int .i64 C] 30)).alloc (.cells #[.int .i64 lot] 3)).alloc (.cells #[.slice none 0 0] 55)).alloc (.cells #[.int .i64 0] 27) = A4 ∧
    (A4.cell? ⟨w.heap.size, 0, none⟩ = some (.int .i64 N) ∧ A4.cell? ⟨w.heap.size, 1, none⟩ = some (.int .i64 C) ∧ Box A4 (w.heap.size + 1) (.int .i64 lot) ∧ Box A4 (w.heap.size + 1 + 1) (.slice none 0 0) ∧ Box A4 (w.heap.size + 1 + 1 + 1) (.int .i64 0)) ∧
    Below w.heap.size w A4 ∧ A4.heap.size = w.heap.size + 1 + 1 + 1 + 1 := by
  have h0 := two_cells w (.int .i64 N) (.int .i64 C) 30
  obtain ⟨p0, p1⟩ := h0
  have s1 : (w.alloc (.cells #[.int .i64 N, .int .i64 C] 30)).heap.size = w.heap.size + 1 := by simp
  have b1 := Box.new (w.alloc (.cells #[.int .i64 N, .int .i64 C] 30)) _ s1 (.int .i64 lot) 3
  have p0 := cell_old (.cells #[.int .i64 lot] 3) p0
  have p1 := cell_old (.cells #[.int .i64 lot] 3) p1
  have HB := (Below.refl w.heap.size w).alloc (Nat.le_refl _) (.cells #[.int .i64 N, .int .i64 C] 30)
  have HB := HB.alloc HB.size (.cells #[.int .i64 lot] 3)
  obtain ⟨A1, hA1⟩ : ∃ A1, (w.alloc (.cells #[.int .i64 N, .int .i64 C] 30)).alloc (.cells #[.int .i64 lot] 3) = A1 := ⟨_, rfl⟩
  have s2 : A1.heap.size = w.heap.size + 1 + 1 := by rw [← hA1]; simp
  rw [hA1] at p0 p1 b1 HB
  have b2 := Box.new A1 _ s2 (.slice none 0 0) 55
  have HB := HB.alloc HB.size (.cells #[.slice none 0 0] 55)
  have b1 := b1.alloc (.cells #[.slice none 0 0] 55)
  have p0 := cell_old (.cells #[.slice none 0 0] 55) p0
  have p1 := cell_old (.cells #[.slice none 0 0] 55) p1
  obtain ⟨A2, hA2⟩ : ∃ A2, A1.alloc (.cells #[.slice none 0 0] 55) = A2 := ⟨_, rfl⟩
  have s3 : A2.heap.size = w.heap.size + 1 + 1 + 1 := by rw [← hA2]; simp [s2]
  rw [hA2] at p0 p1 b1 b2 HB
  have b4 := Box.new A2 _ s3 (.int .i64 0) 27
  have HB := HB.alloc HB.size (.cells #[.int .i64 0] 27)
  have b1 := b1.alloc (.cells #[.int .i64 0] 27)
  have b2 := b2.alloc (.cells #[.int .i64 0] 27)
  have p0 := cell_old (.cells #[.int .i64 0] 27) p0
  have p1 := cell_old (.cells #[.int .i64 0] 27) p1
  obtain ⟨A4, hA4⟩ : ∃ A4, A2.alloc (.cells #[.int .i64 0] 27) = A4 := ⟨_, rfl⟩
  have s5 : A4.heap.size = w.heap.size + 1 + 1 + 1 + 1 := by rw [← hA4]; simp [s3]
  rw [hA4] at p0 p1 b1 b2 b4 HB
  exact ⟨A4, by rw [hA1, hA2, hA4], ⟨p0, p1, b1, b2, b4⟩, HB, s5⟩

/-- what comes, as cells -/
def pas (N C lot : Nat) (l : List (Bad lot)) : List Value := l.map fun x => .string (rt (pa N C lot x.1))
theorem pas_snoc (N C lot : Nat) (l : List (Bad lot)) (x : Bad lot) : pas N C lot (l ++ [x]) = pas N C lot l ++ [.string (rt (pa N C lot x.1))] := by simp [pas]
/-- what the rounds of the curve keep -/
def CI (N C lot g7 : Nat) (w W0 : World) (pre : List (Bad lot)) (W : World) : Prop :=
  (∃ v, Boxed W g7 55 v ∧ W.ownsRow W0.heap.size 26 1 v pre.length (pas N C lot pre) ∧ True) ∧ Keep3 W0.heap.size g7 g7 g7 W0 W ∧ Below w.heap.size w W
theorem CI.own {N C lot g7 : Nat} {w W0 : World} (hw : w.heap.size ≤ W0.heap.size) : OwnFrom W0.heap.size (CI N C lot g7 w W0) := by
  intro s A B row hs hg hr
  obtain ⟨hv, hk, hb⟩ := hs
  have hr2 := fun r e => (hr r e).2
  refine ⟨holdsRow_own W0.heap.size g7 55 26 1 (fun pre : List (Bad lot) => pre.length) (fun pre => pas N C lot pre) (fun _ _ => True) s A B row hv hg hr2, ⟨Nat.le_trans hk.size hg.size, fun i h1 h2 h3 h4 => (hg.block i (Nat.lt_of_lt_of_le h1 hk.size) (fun e => ?_)).trans (hk.blk i h1 h2 h3 h4)⟩, hb.grown hg hb.size (fun k e => Nat.le_trans hw (hr k e).1)⟩
  have := (hr i e.symm).1
  omega
theorem CI.next {N C lot g7 : Nat} {w W0 W w1 : World} {pre : List (Bad lot)} {x : Bad lot} {act : Act} {v v' : Value} {tmp : Obj} {xs : List Value} (hxs : pas N C lot pre = xs) (hI : Keep3 W0.heap.size g7 g7 g7 W0 W ∧ Below w.heap.size w W) (hw : w.heap.size ≤ g7) (hg : g7 < W0.heap.size)
    (hv : Boxed W g7 55 v) (hrow : W.ownsRow W0.heap.size 26 1 v pre.length xs)
    (hown' : w1.ownsRow W0.heap.size 26 1 v' (pre.length + 1) (xs ++ [.string (rt (pa N C lot x.1))])) (hgrow : (W.alloc tmp).grownBy w1 v.ownBlock) :
    ownPostK (Keep3 W0.heap.size g7 g7 g7) (CI N C lot g7 w W0) (fun _ _ _ => False) (pre ++ [x]) W .normal act (w1.setCell ⟨g7, 0, none⟩ v') := by
  obtain ⟨hk, hb⟩ := hI
  subst hxs
  have hsz := hk.size
  obtain ⟨a1, a2, -, a4, a5⟩ := hv.appended (n₀ := g7) (by decide) (hrow.mono (by omega)) (by omega) (Nat.le_refl g7) (hown'.mono (by omega)) hgrow
  have a3 := hown'.kept (grownBy_setCell' w1 g7 v') (.inr (a1.not_row (by decide) hown').symm)
  have kk : Keep3 W0.heap.size g7 g7 g7 W (w1.setCell ⟨g7, 0, none⟩ v') := ⟨a4.size, fun i h1 h2 _ _ => by
    refine (Below.heap_setCell _ _ _ _ h2).trans ((hgrow.block i (by rw [World.size_alloc]; omega) (fun e => ?_)).trans (Below.heap_alloc W tmp i (by omega)))
    have := (hrow.lt i e.symm).1
    omega⟩
  refine ⟨a4, kk, ⟨_, a2, ?_, trivial⟩, hk.trans kk, hb.trans (a5.mono hw)⟩
  rw [List.length_append, pas_snoc]
  exact a3
theorem set2' {w5 : World} {a b : Nat} {x y u v : Value} (h1 : Box w5 a x) (h2 : Box w5 b y) (hab : a ≠ b) :
    ∃ w6, (w5.setCell ⟨a, 0, none⟩ u).setCell ⟨b, 0, none⟩ v = w6 ∧ Box w6 a u ∧ Box w6 b v ∧ KeepsOthers w5 w6 ∧ (∀ B, B ≤ a → B ≤ b → Below B w5 w6) ∧
      (∀ base e size s k xs, a < base → b < base → w5.ownsRow base e size s k xs → w6.ownsRow base e size s k xs) := by
  refine ⟨_, rfl, ?_, ?_, ?_, ?_, ?_⟩
  · exact (h1.set u).other hab v
  · exact (h2.other (Ne.symm hab) u).set v
  · exact (KeepsOthers.setCell _ _ _).trans (KeepsOthers.setCell _ _ _)
  · intro B ha hb
    exact ((Below.refl B w5).setCell (p := ⟨a, 0, none⟩) ha _).setCell (p := ⟨b, 0, none⟩) hb _
  · intro base e size s k xs ha hb h
    have h6 := h.kept (grownBy_setCell' w5 a u) (.inr (fun e => by have := (h.lt a e).1; omega))
    exact h6.kept (grownBy_setCell' _ b v) (.inr (fun e => by have := (h6.lt b e).1; omega))

attribute [local go_sem] Oper.semAt_some
set_option maxRecDepth 100000 in
set_option maxHeartbeats 6400000 in
theorem curve_core (N C lot : Nat) (w : World) (h1 : 1 ≤ N) (hC : C ≤ N) (hN : N ≤ lot) (hL : lot ≤ 256) (he : Env w) :
    Calls Tryz.prog 30 #[pl N C, .int .i64 lot] w fun e w' => ∃ g cap, e = .returned (.tuple #[.slice (some ⟨g, 0, none⟩) (lot + 1) cap, .int .i64 0]) ∧ w'.ownsRow w.heap.size 26 1 (.slice (some ⟨g, 0, none⟩) (lot + 1) cap) (lot + 1) (pas N C lot (lotL lot (lot + 1))) ∧ Below w.heap.size w w' := by
  have hmf : ∀ (fn : Fn) (first cap : Array Value) (w : World), (Instr.makeFunc fn first cap).run Tryz.prog w = .ok (.func fn first cap) w := fun _ _ _ _ => rfl
  obtain ⟨i0, hi, hz0, hz1, hz2⟩ := info_parts rat_info
  have HE := Lib.hid he
  have hls : lsP N C lot = 0 := by
    unfold lsP szP chkP
    rw [if_neg (show ¬ ((N : Int) < 1 ∨ 256 < (N : Int) ∨ (C : Int) < 0 ∨ (N : Int) < C) by omega)]
    rw [if_pos (show (0 : Int) = 0 ∧ (N : Int) ≤ lot ∧ (lot : Int) ≤ 4096 by omega)]
    rw [if_pos rfl, if_pos (by omega)]
  have HLS := Lib.hid (fun w => listed_any N C lot w)
  rw [hls] at HLS
  obtain ⟨A4, hw4, hp4, hb4, hs4⟩ := startC N C lot w
  have HW4 := Lib.hid hw4
  have HP := Lib.hid hp4
  have HB4 := Lib.hid hb4
  have HS4 := Lib.hid hs4
  clear hw4 hp4 hb4 hs4 hls he
  have q0 := HP.out.1
  have q1 := HP.out.2.1
  have q2 := HP.out.2.2.1.1
  rw [← HW4.out] at q0 q1 q2
  refine (callsIn_wide (n := 6)).1 ?_
  unfold pl at HLS ⊢
  refine callsIn_of_wp_marks Tryz.func30 rfl trivial ?_ rfl
  simp only [Tryz.ntmps30, List.size_toArray, List.length_cons, List.length_nil, Nat.reduceAdd, Nat.reduceSub, Array.replicate_succ, Array.replicate_zero, List.push_toArray, List.append_toArray, List.nil_append, List.cons_append]
  gi_wp2_with fail
  rw [HW4.out]
  refine ⟨trivial, (callsIn_wide.2 (HLS.out _)).mono ?_⟩
  rintro e w1 ⟨rfl, hb1⟩
  have HQ1 := Lib.hid (HB4.out.trans (hb1.mono HB4.out.size))
  obtain ⟨x0, x1, x2, x3, x4⟩ := HP.out
  have HP1 := Lib.hid (show w1.cell? ⟨w.heap.size, 0, none⟩ = some (.int .i64 N) ∧ w1.cell? ⟨w.heap.size, 1, none⟩ = some (.int .i64 C) ∧ Box w1 (w.heap.size + 1) (.int .i64 lot) ∧ Box w1 (w.heap.size + 1 + 1) (.slice none 0 0) ∧ Box w1 (w.heap.size + 1 + 1 + 1) (.int .i64 0) ∧ w.heap.size + 1 + 1 + 1 + 1 ≤ w1.heap.size from
    ⟨(hb1.cell (p := ⟨w.heap.size, 0, none⟩) (World.block_lt_of_cell? _ _ x0)).trans x0, (hb1.cell (p := ⟨w.heap.size, 1, none⟩) (World.block_lt_of_cell? _ _ x1)).trans x1, x2.below hb1, x3.below hb1, x4.below hb1, by rw [← HS4.out]; exact hb1.size⟩)
  clear hb1 x0 x1 x2 x3 x4 q0 q1 q2
  have q3 := cell_old (.cells #[.slice none 0 0] 55) HP1.out.2.2.1.1
  obtain ⟨Wa, hwa, hva, hba, hsa⟩ : ∃ Wa, w1.alloc (.cells #[.slice none 0 0] 55) = Wa ∧ Boxed Wa w1.heap.size 55 (.slice none 0 0) ∧ Below w1.heap.size w1 Wa ∧ Wa.heap.size = w1.heap.size + 1 := ⟨_, rfl, Boxed.new _ _ _, (Below.refl _ _).alloc (Nat.le_refl _) _, by simp⟩
  have HWA := Lib.hid hwa
  obtain ⟨W0, hw0, z1, z2, hb0, hs0⟩ := start2 Wa (.int .i64 lot) (.func (.func 72) #[] #[.pointer (some ⟨w.heap.size, 0, none⟩), .pointer (some ⟨w.heap.size + 1, 0, none⟩)]) _ hsa
  have HW0 := Lib.hid hw0
  have HSA := Lib.hid hsa
  have HI0 := Lib.hid (show Boxed W0 w1.heap.size 55 (.slice none 0 0) from (hb0.block _ hva.lt).trans hva)
  have HZ := Lib.hid (show Box W0 (w1.heap.size + 1) (.int .i64 lot) ∧ Box W0 (w1.heap.size + 1 + 1) (.func (.func 72) #[] #[.pointer (some ⟨w.heap.size, 0, none⟩), .pointer (some ⟨w.heap.size + 1, 0, none⟩)]) from ⟨z1, z2⟩)
  have HB01 := Lib.hid (hba.trans (hb0.mono hba.size))
  have HS0 := Lib.hid hs0
  clear hwa hva hba hsa hw0 z1 z2 hb0 hs0
  gi_wp2_with fail
  rw [HWA.out]
  refine ⟨trivial, (callsIn_wide.2 (lots_any lot 72 #[.pointer (some ⟨w.heap.size, 0, none⟩), .pointer (some ⟨w.heap.size + 1, 0, none⟩)] Wa)).mono ?_⟩
  rintro e w2 ⟨rfl, rfl⟩
  rw [HW0.out, HSA.out]
  clear q3
  gi_wp2
  have hg8 : w.heap.size + 1 + 1 + 1 + 1 ≤ w1.heap.size := HP1.out.2.2.2.2.2
  have hs0 := HS0.out
  have hB0 : Below w.heap.size w W0 := HQ1.out.trans (HB01.out.mono HQ1.out.size)
  have hL0 : 0 < lot := by omega
  refine wpIn_rangeFunc_ownF (n := 6) rfl (by omega) (gf := 116) (lb := #[.pointer (some ⟨w1.heap.size + 1, 0, none⟩), .pointer (some ⟨w1.heap.size + 1 + 1, 0, none⟩)]) rfl trivial (enters_of Tryz.func116 (by kernel_rfl) rfl)
    (lots_stops_Curve (Keep3 W0.heap.size w1.heap.size w1.heap.size w1.heap.size) (w1.heap.size + 1) (w1.heap.size + 1 + 1) w.heap.size (w.heap.size + 1) lot (fun b => rt (pa N C lot b)) 5 W0 (by omega) (by omega)
      (fun h k => h.trans k) (fun h => h.size) (fun hs hb => Keep3.of_below hb hs)
      (fun w2 h => h.cell (p := ⟨w1.heap.size + 1, 0, none⟩) (by show w1.heap.size + 1 < _; omega) (by show w1.heap.size + 1 ≠ _; omega) (by show w1.heap.size + 1 ≠ _; omega) (by show w1.heap.size + 1 ≠ _; omega))
      (fun w2 h => h.cell (p := ⟨w1.heap.size + 1 + 1, 0, none⟩) (by show w1.heap.size + 1 + 1 < _; omega) (by show w1.heap.size + 1 + 1 ≠ _; omega) (by show w1.heap.size + 1 + 1 ≠ _; omega) (by show w1.heap.size + 1 + 1 ≠ _; omega))
      HZ.out.1.1 HZ.out.2.1 ?hop)
    (fun h k => h.trans k) (fun W l o o' hl hW hc hwk => ⟨by rw [World.putObj_size]; exact Nat.le_refl _, fun i h1 _ _ _ => World.putObj_heap_other (by omega)⟩) (Below.refl _ _) (fun _ => rfl)
    (CI N C lot w1.heap.size w W0) (fun _ _ _ => False) (CI.own (by omega)) (fun _ _ _ _ _ hs _ _ => hs) ?start ?a1 ?assign ?body ?done ?stop
  case hop =>
    intro bad w2 hbad hk
    have ce : ∀ o, w2.cell? ⟨w.heap.size, o, none⟩ = W0.cell? ⟨w.heap.size, o, none⟩ := fun o => hk.cell (p := ⟨w.heap.size, o, none⟩) (by show w.heap.size < _; omega) (by show w.heap.size ≠ _; omega) (by show w.heap.size ≠ _; omega) (by show w.heap.size ≠ _; omega)
    have ce1 : w2.cell? ⟨w.heap.size + 1, 0, none⟩ = W0.cell? ⟨w.heap.size + 1, 0, none⟩ := hk.cell (p := ⟨w.heap.size + 1, 0, none⟩) (by show w.heap.size + 1 < _; omega) (by show w.heap.size + 1 ≠ _; omega) (by show w.heap.size + 1 ≠ _; omega) (by show w.heap.size + 1 ≠ _; omega)
    obtain ⟨x0, x1, x2, -⟩ := HP1.out
    refine curveC_any w.heap.size (w.heap.size + 1) N C lot bad w2 ?_ ?_ ?_ hC hN hbad hL ?_
    · rw [ce 0]; exact (HB01.out.cell (p := ⟨w.heap.size, 0, none⟩) (World.block_lt_of_cell? _ _ x0)).trans x0
    · rw [ce 1]; exact (HB01.out.cell (p := ⟨w.heap.size, 1, none⟩) (World.block_lt_of_cell? _ _ x1)).trans x1
    · rw [ce1]; exact (x2.below HB01.out).1
    · exact HE.out.of_blocks fun i hi => (hk.blk i (by omega) (by omega) (by omega) (by omega)).trans (hB0.block i hi)
  case start =>
    exact ⟨⟨_, HI0.out, World.ownsRow_nil _ _ _ _, trivial⟩, ⟨Nat.le_refl _, fun _ _ _ _ _ => rfl⟩, hB0⟩
  case assign =>
    intro l x W K hK
    gi_wp2
    exact hK
  case stop =>
    rintro D c pre W _ _ h _
    exact h.elim
  case body =>
    rintro l pre x W ⟨⟨v, hv, hrow, -⟩, hk, hb⟩ hpl
    have hc := hv.cell
    obtain ⟨xs, hxs⟩ : ∃ xs, pas N C lot pre = xs := ⟨_, rfl⟩
    rw [hxs] at hrow
    have HXS := Lib.hid hxs
    have HKB := Lib.hid (And.intro hk hb)
    have hbs : W0.heap.size ≤ W.heap.size := hk.size
    clear hxs hk hb
    gi_wp2_with (gi_at_builtin; refine wpListIn_append_own _ rfl _ _ 55 rfl W0.heap.size 26 i0 (.string ⟨#[]⟩) 1 16 Tryz.underlying55 hi hz0 hz1 hz2 rfl (by decide) _ _ _ rfl (hrow.alloc _) ⟨W.heap.size, 0, none⟩ 1 1 [.string (rt (pa N C lot x.1))] rfl rfl (cell_one_new _ _ _) (by simp [Value.oneCell']) (by unfold maxLen; omega) (by omega) (by simp; omega) ?_; intro v' w3 hown' hgrow _; obtain ⟨g', cap', rfl⟩ := ownsRow_succ hown'; have hv3 := (hv.alloc _).kept hgrow (hv.not_row (by decide) hrow); have hc1 := hv3.cell; have hf1 := hv3.frozen)
    exact CI.next HXS.out HKB.out (by omega) (by omega) hv hrow hown' hgrow
  case done =>
    rintro D xs W hD hS ⟨⟨v, hv, hrow, -⟩, hk, hb⟩ hDef
    obtain rfl := hS
    rw [lotL_len lot (lot + 1) (Nat.le_refl _)] at hrow
    obtain ⟨g', cap', rfl⟩ := ownsRow_succ hrow
    have hc := hv.cell
    have HDE := Lib.hid hDef
    have HW := Lib.hid hb
    have RB := Lib.hid (show Box W (w.heap.size + 1 + 1) (.slice none 0 0) ∧ Box W (w.heap.size + 1 + 1 + 1) (.int .i64 0) from
      ⟨(HP1.out.2.2.2.1.below HB01.out).kept (hk.blk _ (by omega) (by omega) (by omega) (by omega)), (HP1.out.2.2.2.2.1.below HB01.out).kept (hk.blk _ (by omega) (by omega) (by omega) (by omega))⟩)
    have HRW := Lib.hid hrow
    clear hb hk hDef hrow
    obtain ⟨⟨k2, j2⟩, ⟨k3, j3⟩⟩ := RB.out
    obtain ⟨r2, r3⟩ := RB.out
    obtain ⟨w6, hw6, c2, c3, hk6, hB6, hR6⟩ := set2' (u := .slice (some ⟨g', 0, none⟩) (lot + 1) cap') (v := .int .i64 0) r2 r3 (by omega)
    have HW6 := Lib.hid hw6
    have HD6 := Lib.hid (hk6.same D _ HDE.out rfl)
    have HB6 := Lib.hid (HW.out.trans (hB6 w.heap.size (by omega) (by omega)))
    have HR6 := Lib.hid (hR6 _ _ _ _ _ _ (by omega) (by omega) HRW.out)
    have HC6 := Lib.hid (⟨c2.own (grownBy_putObj' w6 D (.deferred none)) (fun r e => by cases e; exact ⟨_, HD6.out, rfl⟩), c3.own (grownBy_putObj' w6 D (.deferred none)) (fun r e => by cases e; exact ⟨_, HD6.out, rfl⟩)⟩ : _ ∧ _)
    clear hw6 hk6 hB6 hR6 c2 c3 r2 r3
    gi_wp2
    rw [HW6.out]
    refine ⟨by simp, .inl ⟨_, _, rfl, run_takeDeferred HD6.out, ?_⟩⟩
    obtain ⟨⟨c2, -⟩, ⟨c3, -⟩⟩ := HC6.out
    refine ⟨.tuple #[.slice (some ⟨g', 0, none⟩) (lot + 1) cap', .int .i64 0], ?_, g', cap', rfl, ownsRow_putObj (HR6.out.mono (by omega)) _ HD6.out rfl, HB6.out.trans (belowK_b (w := w) (Nat.le_refl _) _ D _ _ (by omega) HD6.out rfl rfl)⟩
    simp [results, Tryz.f30, go_sem, c2, c3]
end Go.Proofs.YtfebiipggcgmdaaGreatDoor
