import Derived.Test.YtfebiipggcgmdaaGreatDoorS2
import Derived.BigRegion
namespace Go.Proofs.YtfebiipggcgmdaaGreatDoor
open Go.RowKit Go.Shelf

/-- the outgoing quality -/
def oq (N C lot b : Nat) : Rat := mkRat ((left N C lot b : Nat) : Int) (ch lot N * lot)
theorem sm_oq {N C lot b : Nat} (hC : C ≤ N) (hN : N ≤ lot) (hb : b ≤ lot) (hL : lot ≤ 256) (hl0 : 0 < lot) : sm SML (oq N C lot b) := by
  have h1 : ch lot N * b ≤ TT * 256 := Nat.mul_le_mul (ch_TT N hL) (by omega)
  have h2 : ch lot N * lot ≤ TT * 256 := Nat.mul_le_mul (ch_TT N hL) (by omega)
  exact sm_mk (Nat.mul_pos (ch_pos hN) hl0) (by rw [Int.natAbs_natCast]; exact lt_T2 (Nat.le_trans (left_le hC hb) h1)) (lt_T2 h2)
theorem rt_neg : rt (-1) = ⟨#[45, 49]⟩ := by
  have h : rt (-1) = it (-1) := rt_int (-1)
  rw [h]
  have e : (-1 : Int) = -((1 : Nat) : Int) := rfl
  apply ba_ext
  rw [it_list, e, itoa_neg 1 (by decide), dec_small (by decide)]
  rfl
theorem sm_neg : sm SML (-1) := ⟨one_P500, one_P500⟩

/-- one step of the search for the greatest: its value, its place, how many were seen -/
def stp (q : Nat → Rat) {lot : Nat} (s : Rat × Nat × Nat) (x : Bad lot) : Rat × Nat × Nat := if s.1 < q x.1 then (q x.1, s.2.2, s.2.2 + 1) else (s.1, s.2.1, s.2.2 + 1)
def bst (q : Nat → Rat) {lot : Nat} (l : List (Bad lot)) : Rat × Nat × Nat := l.foldl (stp q) (-1, 0, 0)
theorem bst_snoc (q : Nat → Rat) {lot : Nat} (l : List (Bad lot)) (x : Bad lot) : bst q (l ++ [x]) = stp q (bst q l) x := by simp [bst]
theorem bst_len (q : Nat → Rat) {lot : Nat} (l : List (Bad lot)) : (bst q l).2.2 = l.length := by
  refine snoc_ind (P := fun l => (bst q l).2.2 = l.length) rfl (fun r c h => ?_) l
  rw [bst_snoc, List.length_append, ← h]
  unfold stp; split <;> rfl
theorem bst_at (q : Nat → Rat) {lot : Nat} (l : List (Bad lot)) : (bst q l).2.1 ≤ l.length := by
  refine snoc_ind (P := fun l => (bst q l).2.1 ≤ l.length) (Nat.le_refl _) (fun r c h => ?_) l
  rw [bst_snoc, List.length_append]
  have := bst_len q r
  unfold stp; split <;> simp <;> omega
theorem bst_sm (q : Nat → Rat) {lot : Nat} (h : ∀ b, b ≤ lot → sm SML (q b)) (l : List (Bad lot)) : sm SML (bst q l).1 := by
  refine snoc_ind (P := fun l => sm SML (bst q l).1) sm_neg (fun r c hr => ?_) l
  rw [bst_snoc]
  unfold stp; split
  · exact h c.1 c.2
  · exact hr

theorem cell_old {w : World} (o : Obj) {p : Addr} {v : Value} (h : w.cell? p = some v) : (w.alloc o).cell? p = some v :=
  (((Below.refl w.heap.size w).alloc (Nat.le_refl _) o).cell (World.block_lt_of_cell? w p h)).trans h
theorem frozen_old {w : World} (o : Obj) {p : Addr} {v : Value} (h : w.cell? p = some v) (f : w.frozen? p = false) : (w.alloc o).frozen? p = false :=
  (frozen_below ((Below.refl w.heap.size w).alloc (Nat.le_refl _) o) (World.block_lt_of_cell? w p h)).trans f
/-- a cell that may be written -/
def Box (w : World) (g : Nat) (v : Value) : Prop := w.cell? ⟨g, 0, none⟩ = some v ∧ w.frozen? ⟨g, 0, none⟩ = false
theorem Box.lt {w : World} {g : Nat} {v : Value} (h : Box w g v) : g < w.heap.size := World.block_lt_of_cell? w _ h.1
theorem Box.alloc {w : World} {g : Nat} {v : Value} (h : Box w g v) (o : Obj) : Box (w.alloc o) g v := ⟨cell_old o h.1, frozen_old o h.1 h.2⟩
theorem Box.below {w w' : World} {g : Nat} {v : Value} (h : Box w g v) (hb : Below w.heap.size w w') : Box w' g v :=
  ⟨(hb.cell (p := ⟨g, 0, none⟩) h.lt).trans h.1, (frozen_below hb (a := ⟨g, 0, none⟩) h.lt).trans h.2⟩
theorem Box.new (w : World) (n : Nat) (hn : w.heap.size = n) (v : Value) (t : TypeId) : Box (w.alloc (.cells #[v] t)) n v := by
  subst hn; exact ⟨one_cell w v t, frozen_new w _ t 0 (.inl rfl)⟩
theorem Box.kept {w w' : World} {g : Nat} {v : Value} (h : Box w g v) (hk : w'.heap[g]? = w.heap[g]?) : Box w' g v :=
  ⟨(World.cell?_of_block (w := w) hk).trans h.1, (World.frozen?_of_block (w := w) hk).trans h.2⟩
theorem Box.set {w : World} {g : Nat} {v : Value} (h : Box w g v) (u : Value) : Box (w.setCell ⟨g, 0, none⟩ u) g u :=
  ⟨World.cell?_setCell_same' _ _ _ (by rw [h.1]; rfl), by rw [World.frozen?_setCell]; exact h.2⟩
theorem Box.other {w : World} {g g2 : Nat} {v : Value} (h : Box w g v) (hg : g ≠ g2) (u : Value) : Box (w.setCell ⟨g2, 0, none⟩ u) g v :=
  h.kept (Below.heap_setCell _ _ _ _ hg)

theorem start5 (N C lot : Nat) (w : World) : ∃ A4 : World,
    ((((w.alloc (.cells #[.int .i64 N, .int .i64 C] 30)).alloc (.cells #[.int .i64 lot] 3)).alloc (.cells #[.int .i64 0] 3)).alloc (.cells #[.string ⟨#[]⟩] 26)).alloc (.cells #[.int .i64 0] 27) = A4 ∧
    (A4.cell? ⟨w.heap.size, 0, none⟩ = some (.int .i64 N) ∧ A4.cell? ⟨w.heap.size, 1, none⟩ = some (.int .i64 C) ∧ Box A4 (w.heap.size + 1) (.int .i64 lot) ∧ Box A4 (w.heap.size + 1 + 1) (.int .i64 0) ∧ Box A4 (w.heap.size + 1 + 1 + 1) (.string ⟨#[]⟩) ∧ Box A4 (w.heap.size + 1 + 1 + 1 + 1) (.int .i64 0)) ∧
    Below w.heap.size w A4 ∧ A4.heap.size = w.heap.size + 1 + 1 + 1 + 1 + 1 := by
  have h0 := two_cells w (.int .i64 N) (.int .i64 C) 30
  obtain ⟨p0, p1⟩ := h0
  have s1 : (w.alloc (.cells #[.int .i64 N, .int .i64 C] 30)).heap.size = w.heap.size + 1 := by simp
  have b1 := Box.new (w.alloc (.cells #[.int .i64 N, .int .i64 C] 30)) _ s1 (.int .i64 lot) 3
  have p0 := cell_old (.cells #[.int .i64 lot] 3) p0
  have p1 := cell_old (.cells #[.int .i64 lot] 3) p1
  have HB := (Below.refl w.heap.size w).alloc (Nat.le_refl _) (.cells #[.int .i64 N, .int .i64 C] 30)
  have HB := HB.alloc HB.size (.cells #[.int .i64 lot] 3)
  obtain ⟨A1, hA1⟩ : ∃ A1, (w.alloc (.cells #[.int .i64 N, .int .i64 C] 30)).alloc (.cells #[.int .i64 lot] 3) = A1 := ⟨_, rfl⟩
  have s2 : A1.heap.size = w.heap.size + 1 + 1 := by rw [← hA1]; simp
  rw [hA1] at p0 p1 b1 HB
  have b2 := Box.new A1 _ s2 (.int .i64 0) 3
  have HB := HB.alloc HB.size (.cells #[.int .i64 0] 3)
  have b1 := b1.alloc (.cells #[.int .i64 0] 3)
  have p0 := cell_old (.cells #[.int .i64 0] 3) p0
  have p1 := cell_old (.cells #[.int .i64 0] 3) p1
  obtain ⟨A2, hA2⟩ : ∃ A2, A1.alloc (.cells #[.int .i64 0] 3) = A2 := ⟨_, rfl⟩
  have s3 : A2.heap.size = w.heap.size + 1 + 1 + 1 := by rw [← hA2]; simp [s2]
  rw [hA2] at p0 p1 b1 b2 HB
  have b3 := Box.new A2 _ s3 (.string ⟨#[]⟩) 26
  have HB := HB.alloc HB.size (.cells #[.string ⟨#[]⟩] 26)
  have b1 := b1.alloc (.cells #[.string ⟨#[]⟩] 26)
  have b2 := b2.alloc (.cells #[.string ⟨#[]⟩] 26)
  have p0 := cell_old (.cells #[.string ⟨#[]⟩] 26) p0
  have p1 := cell_old (.cells #[.string ⟨#[]⟩] 26) p1
  obtain ⟨A3, hA3⟩ : ∃ A3, A2.alloc (.cells #[.string ⟨#[]⟩] 26) = A3 := ⟨_, rfl⟩
  have s4 : A3.heap.size = w.heap.size + 1 + 1 + 1 + 1 := by rw [← hA3]; simp [s3]
  rw [hA3] at p0 p1 b1 b2 b3 HB
  have b4 := Box.new A3 _ s4 (.int .i64 0) 27
  have HB := HB.alloc HB.size (.cells #[.int .i64 0] 27)
  have b1 := b1.alloc (.cells #[.int .i64 0] 27)
  have b2 := b2.alloc (.cells #[.int .i64 0] 27)
  have b3 := b3.alloc (.cells #[.int .i64 0] 27)
  have p0 := cell_old (.cells #[.int .i64 0] 27) p0
  have p1 := cell_old (.cells #[.int .i64 0] 27) p1
  obtain ⟨A4, hA4⟩ : ∃ A4, A3.alloc (.cells #[.int .i64 0] 27) = A4 := ⟨_, rfl⟩
  have s5 : A4.heap.size = w.heap.size + 1 + 1 + 1 + 1 + 1 := by rw [← hA4]; simp [s4]
  rw [hA4] at p0 p1 b1 b2 b3 b4 HB
  have hw4 : ((((w.alloc (.cells #[.int .i64 N, .int .i64 C] 30)).alloc (.cells #[.int .i64 lot] 3)).alloc (.cells #[.int .i64 0] 3)).alloc (.cells #[.string ⟨#[]⟩] 26)).alloc (.cells #[.int .i64 0] 27) = A4 := by rw [hA1, hA2, hA3, hA4]
  exact ⟨A4, hw4, ⟨p0, p1, b1, b2, b3, b4⟩, HB, s5⟩

theorem start3 (w1 : World) : ∃ Wa : World,
    ((w1.alloc (.cells #[.string ⟨#[45, 49]⟩] 26)).alloc (.cells #[.int .i64 0] 3)).alloc (.cells #[.int .i64 0] 3) = Wa ∧
    (Box Wa w1.heap.size (.string ⟨#[45, 49]⟩) ∧ Box Wa (w1.heap.size + 1) (.int .i64 0) ∧ Box Wa (w1.heap.size + 1 + 1) (.int .i64 0)) ∧ Below w1.heap.size w1 Wa ∧ Wa.heap.size = w1.heap.size + 1 + 1 + 1 := by
  have b1 := Box.new w1 _ rfl (.string ⟨#[45, 49]⟩) 26
  have hb1 := (Below.refl w1.heap.size w1).alloc (Nat.le_refl _) (.cells #[.string ⟨#[45, 49]⟩] 26)
  obtain ⟨A1, hA1⟩ : ∃ A1, w1.alloc (.cells #[.string ⟨#[45, 49]⟩] 26) = A1 := ⟨_, rfl⟩
  have s1 : A1.heap.size = w1.heap.size + 1 := by rw [← hA1]; simp
  rw [hA1] at b1 hb1 ⊢
  have b2 := Box.new A1 _ s1 (.int .i64 0) 3
  have hb2 := hb1.alloc hb1.size (.cells #[.int .i64 0] 3)
  have b1' := b1.alloc (.cells #[.int .i64 0] 3)
  obtain ⟨A2, hA2⟩ : ∃ A2, A1.alloc (.cells #[.int .i64 0] 3) = A2 := ⟨_, rfl⟩
  have s2 : A2.heap.size = w1.heap.size + 1 + 1 := by rw [← hA2]; simp [s1]
  rw [hA2] at b2 hb2 b1' ⊢
  exact ⟨_, rfl, ⟨b1'.alloc _, b2.alloc _, Box.new A2 _ s2 (.int .i64 0) 3⟩, hb2.alloc hb2.size _, by simp [s2]⟩
theorem start2 (Wa : World) (x y : Value) (n : Nat) (hn : Wa.heap.size = n) : ∃ W0 : World, (Wa.alloc (.cells #[x] 3)).alloc (.cells #[y] 106) = W0 ∧
    Box W0 n x ∧ Box W0 (n + 1) y ∧ Below Wa.heap.size Wa W0 ∧ W0.heap.size = n + 1 + 1 := by
  subst hn
  have b1 := Box.new Wa _ rfl x 3
  obtain ⟨A1, hA1⟩ : ∃ A1, Wa.alloc (.cells #[x] 3) = A1 := ⟨_, rfl⟩
  have s1 : A1.heap.size = Wa.heap.size + 1 := by rw [← hA1]; simp
  have hb1 := (Below.refl Wa.heap.size Wa).alloc (Nat.le_refl _) (.cells #[x] 3)
  rw [hA1] at b1 hb1 ⊢
  exact ⟨_, rfl, b1.alloc _, Box.new A1 _ s1 y _, hb1.alloc hb1.size _, by simp [s1]⟩

theorem Box.own {A B : World} {row : Option Nat} {g : Nat} {v : Value} (h : Box A g v) (hg : A.grownBy B row) (hr : ∀ r, row = some r → ∃ o : Obj, A.heap[r]? = some o ∧ o.isCells = false) : Box B g v :=
  ⟨cell_kept h.1 hg hr, (frozen_kept h.1 hg hr).trans h.2⟩
/-- what the rounds of the search keep -/
def WI (q : Nat → Rat) (lot g8 : Nat) (w W0 : World) (pre : List (Bad lot)) (W : World) : Prop :=
  (Box W g8 (.string (rt (bst q pre).1)) ∧ Box W (g8 + 1) (.int .i64 ((bst q pre).2.1 : Nat)) ∧ Box W (g8 + 1 + 1) (.int .i64 (pre.length : Nat))) ∧ Keep3 W0.heap.size g8 (g8 + 1) (g8 + 1 + 1) W0 W ∧ Below w.heap.size w W
theorem WI.own {q : Nat → Rat} {lot g8 : Nat} {w W0 : World} (hw : w.heap.size ≤ W0.heap.size) : OwnFrom W0.heap.size (WI q lot g8 w W0) := by
  intro s A B row hs hg hr
  obtain ⟨⟨a1, a2, a3⟩, hk, hb⟩ := hs
  have hr2 := fun r e => (hr r e).2
  refine ⟨⟨a1.own hg hr2, a2.own hg hr2, a3.own hg hr2⟩, ⟨Nat.le_trans hk.size hg.size, fun i h1 h2 h3 h4 => (hg.block i (Nat.lt_of_lt_of_le h1 hk.size) (fun e => ?_)).trans (hk.blk i h1 h2 h3 h4)⟩, hb.grown hg hb.size (fun k e => Nat.le_trans hw (hr k e).1)⟩
  have := (hr i e.symm).1
  omega

/-- two stores into two boxes -/
theorem set2 {w5 : World} {a b c : Nat} {x y z u v : Value} (h1 : Box w5 a x) (h2 : Box w5 b y) (h3 : Box w5 c z) (hab : a ≠ b) (hac : a ≠ c) (hbc : b ≠ c) :
    ∃ w6, ((w5.setCell ⟨a, 0, none⟩ u).setCell ⟨b, 0, none⟩ v).drew = w6 ∧ Box w6 a u ∧ Box w6 b v ∧ Box w6 c z ∧ KeepsOthers w5 w6 ∧ w6.heap.size = w5.heap.size ∧ (∀ i, i ≠ a → i ≠ b → w6.heap[i]? = w5.heap[i]?) ∧ (∀ B, B ≤ a → B ≤ b → Below B w5 w6) := by
  refine ⟨_, rfl, ?_, ?_, ?_, ?_, ?_, ?_, ?_⟩
  · exact (h1.set u).other hab v
  · exact (h2.other (Ne.symm hab) u).set v
  · exact (h3.other (Ne.symm hac) u).other (Ne.symm hbc) v
  · exact ((KeepsOthers.setCell _ _ _).trans (KeepsOthers.setCell _ _ _)).trans (KeepsOthers.drew _)
  · show ((w5.setCell _ _).setCell _ _).heap.size = _
    simp [World.setCell]
  · intro i ha hb
    show ((w5.setCell _ _).setCell _ _).heap[i]? = _
    exact (Below.heap_setCell _ _ _ _ hb).trans (Below.heap_setCell _ _ _ _ ha)
  · intro B ha hb
    exact (((Below.refl B w5).setCell (p := ⟨a, 0, none⟩) ha _).setCell (p := ⟨b, 0, none⟩) hb _).drew
theorem set3 {w5 : World} {a b c : Nat} {x y z u v t : Value} (h1 : Box w5 a x) (h2 : Box w5 b y) (h3 : Box w5 c z) (hab : a ≠ b) (hac : a ≠ c) (hbc : b ≠ c) :
    ∃ w6, (((w5.setCell ⟨a, 0, none⟩ u).setCell ⟨b, 0, none⟩ v).setCell ⟨c, 0, none⟩ t).drew = w6 ∧ Box w6 a u ∧ Box w6 b v ∧ Box w6 c t ∧ KeepsOthers w5 w6 ∧ (∀ B, B ≤ a → B ≤ b → B ≤ c → Below B w5 w6) := by
  refine ⟨_, rfl, ?_, ?_, ?_, ?_, ?_⟩
  · exact ((h1.set u).other hab v).other hac t
  · exact ((h2.other (Ne.symm hab) u).set v).other hbc t
  · exact ((h3.other (Ne.symm hac) u).other (Ne.symm hbc) v).set t
  · exact (((KeepsOthers.setCell _ _ _).trans (KeepsOthers.setCell _ _ _)).trans (KeepsOthers.setCell _ _ _)).trans (KeepsOthers.drew _)
  · intro B ha hb hc
    exact ((((Below.refl B w5).setCell (p := ⟨a, 0, none⟩) ha _).setCell (p := ⟨b, 0, none⟩) hb _).setCell (p := ⟨c, 0, none⟩) hc _).drew
theorem WI.next {q : Nat → Rat} {lot g8 : Nat} {w W0 W W' : World} {pre : List (Bad lot)} {x : Bad lot} {act : Act} (hI : WI q lot g8 w W0 pre W)
    (b8 : Box W' g8 (.string (rt (bst q (pre ++ [x])).1))) (b9 : Box W' (g8 + 1) (.int .i64 ((bst q (pre ++ [x])).2.1 : Nat))) (b10 : Box W' (g8 + 1 + 1) (.int .i64 ((pre ++ [x]).length : Nat)))
    (hk : KeepsOthers W W') (hb : ∀ i, i < W.heap.size → i ≠ g8 → i ≠ g8 + 1 → i ≠ g8 + 1 + 1 → W'.heap[i]? = W.heap[i]?) (hB : Below w.heap.size W W') :
    ownPostK (Keep3 W0.heap.size g8 (g8 + 1) (g8 + 1 + 1)) (WI q lot g8 w W0) (fun _ _ _ => False) (pre ++ [x]) W .normal act W' := by
  obtain ⟨-, k0, hb0⟩ := hI
  have kk : Keep3 W0.heap.size g8 (g8 + 1) (g8 + 1 + 1) W W' := ⟨hk.size, fun i h1 h2 h3 h4 => hb i (Nat.lt_of_lt_of_le h1 k0.size) h2 h3 h4⟩
  exact ⟨hk, kk, ⟨b8, b9, b10⟩, k0.trans kk, hb0.trans hB⟩

attribute [local go_sem] Oper.semAt_some
set_option maxRecDepth 100000 in
set_option maxHeartbeats 6400000 in
theorem worst_core (N C lot : Nat) (w : World) (h1 : 1 ≤ N) (hC : C ≤ N) (hN : N ≤ lot) (hL : lot ≤ 256) (he : Env w) :
    Calls Tryz.prog 38 #[pl N C, .int .i64 lot] w fun e w' => e = .returned (.tuple #[.int .i64 ((bst (oq N C lot) (lotL lot (lot + 1))).2.1 : Nat), .string (rt (bst (oq N C lot) (lotL lot (lot + 1))).1), .int .i64 0]) ∧ Below w.heap.size w w' := by
  have hmf : ∀ (fn : Fn) (first cap : Array Value) (w : World), (Instr.makeFunc fn first cap).run Tryz.prog w = .ok (.func fn first cap) w := fun _ _ _ _ => rfl
  have HE := Lib.hid he
  have hls : lsP N C lot = 0 := by
    unfold lsP szP chkP
    rw [if_neg (show ¬ ((N : Int) < 1 ∨ 256 < (N : Int) ∨ (C : Int) < 0 ∨ (N : Int) < C) by omega)]
    rw [if_pos (show (0 : Int) = 0 ∧ (N : Int) ≤ lot ∧ (lot : Int) ≤ 4096 by omega)]
    rw [if_pos rfl, if_pos (by omega)]
  have HLS := Lib.hid (fun w => listed_any N C lot w)
  rw [hls] at HLS
  obtain ⟨A4, hw4, hp4, hb4, hs4⟩ := start5 N C lot w
  have HW4 := Lib.hid hw4
  have HP := Lib.hid hp4
  have HB4 := Lib.hid hb4
  have HS4 := Lib.hid hs4
  clear hw4 hp4 hb4 hs4 hls he
  have q0 := HP.out.1
  have q1 := HP.out.2.1
  have q2 := HP.out.2.2.1.1
  rw [← HW4.out] at q0 q1 q2
  refine (callsIn_wide (n := 6)).1 ?_
  unfold pl at HLS ⊢
  refine callsIn_of_wp_marks Tryz.func38 rfl trivial ?_ rfl
  simp only [Tryz.ntmps38, List.size_toArray, List.length_cons, List.length_nil, Nat.reduceAdd, Nat.reduceSub, Array.replicate_succ, Array.replicate_zero, List.push_toArray, List.append_toArray, List.nil_append, List.cons_append]
  gi_wp2_with fail
  rw [HW4.out]
  refine ⟨trivial, (callsIn_wide.2 (HLS.out _)).mono ?_⟩
  rintro e w1 ⟨rfl, hb1⟩
  have HQ1 := Lib.hid (HB4.out.trans (hb1.mono HB4.out.size))
  obtain ⟨x0, x1, x2, x3, x4, x5⟩ := HP.out
  have HP1 := Lib.hid (show w1.cell? ⟨w.heap.size, 0, none⟩ = some (.int .i64 N) ∧ w1.cell? ⟨w.heap.size, 1, none⟩ = some (.int .i64 C) ∧ Box w1 (w.heap.size + 1) (.int .i64 lot) ∧ Box w1 (w.heap.size + 1 + 1) (.int .i64 0) ∧ Box w1 (w.heap.size + 1 + 1 + 1) (.string ⟨#[]⟩) ∧ Box w1 (w.heap.size + 1 + 1 + 1 + 1) (.int .i64 0) ∧ w.heap.size + 1 + 1 + 1 + 1 + 1 ≤ w1.heap.size from
    ⟨(hb1.cell (p := ⟨w.heap.size, 0, none⟩) (World.block_lt_of_cell? _ _ x0)).trans x0, (hb1.cell (p := ⟨w.heap.size, 1, none⟩) (World.block_lt_of_cell? _ _ x1)).trans x1, x2.below hb1, x3.below hb1, x4.below hb1, x5.below hb1, by rw [← HS4.out]; exact hb1.size⟩)
  clear hb1 x0 x1 x2 x3 x4 x5 q0 q1 q2
  have q3 := cell_old (.cells #[.int .i64 0] 3) (cell_old (.cells #[.int .i64 0] 3) (cell_old (.cells #[.string ⟨#[45, 49]⟩] 26) HP1.out.2.2.1.1))
  obtain ⟨Wa, hwa, ⟨y8, y9, y10⟩, hba, hsa⟩ := start3 w1
  have HWA := Lib.hid hwa
  obtain ⟨W0, hw0, z1, z2, hb0, hs0⟩ := start2 Wa (.int .i64 lot) (.func (.func 87) #[] #[.pointer (some ⟨w.heap.size, 0, none⟩), .pointer (some ⟨w.heap.size + 1, 0, none⟩)]) _ hsa
  have HW0 := Lib.hid hw0
  have HSA := Lib.hid hsa
  have HI0 := Lib.hid (show Box W0 w1.heap.size (.string ⟨#[45, 49]⟩) ∧ Box W0 (w1.heap.size + 1) (.int .i64 0) ∧ Box W0 (w1.heap.size + 1 + 1) (.int .i64 0) from ⟨y8.below hb0, y9.below hb0, y10.below hb0⟩)
  have HZ := Lib.hid (show Box W0 (w1.heap.size + 1 + 1 + 1) (.int .i64 lot) ∧ Box W0 (w1.heap.size + 1 + 1 + 1 + 1) (.func (.func 87) #[] #[.pointer (some ⟨w.heap.size, 0, none⟩), .pointer (some ⟨w.heap.size + 1, 0, none⟩)]) from ⟨z1, z2⟩)
  have HB01 := Lib.hid (hba.trans (hb0.mono hba.size))
  have HS0 := Lib.hid hs0
  clear hwa y8 y9 y10 hba hsa hw0 z1 z2 hb0 hs0
  gi_wp2_with fail
  rw [HWA.out]
  refine ⟨trivial, (callsIn_wide.2 (lots_any lot 87 #[.pointer (some ⟨w.heap.size, 0, none⟩), .pointer (some ⟨w.heap.size + 1, 0, none⟩)] Wa)).mono ?_⟩
  rintro e w2 ⟨rfl, rfl⟩
  rw [HW0.out, HSA.out]
  clear q3
  gi_wp2
  have hg8 : w.heap.size + 1 + 1 + 1 + 1 + 1 ≤ w1.heap.size := HP1.out.2.2.2.2.2.2
  have hs0 := HS0.out
  have hB0 : Below w.heap.size w W0 := HQ1.out.trans (HB01.out.mono HQ1.out.size)
  have hL0 : 0 < lot := by omega
  refine wpIn_rangeFunc_ownF (n := 6) rfl (by omega) (gf := 116) (lb := #[.pointer (some ⟨w1.heap.size + 1 + 1 + 1, 0, none⟩), .pointer (some ⟨w1.heap.size + 1 + 1 + 1 + 1, 0, none⟩)]) rfl trivial (enters_of Tryz.func116 (by kernel_rfl) rfl)
    (lots_stops_Worst (Keep3 W0.heap.size w1.heap.size (w1.heap.size + 1) (w1.heap.size + 1 + 1)) (w1.heap.size + 1 + 1 + 1) (w1.heap.size + 1 + 1 + 1 + 1) w.heap.size (w.heap.size + 1) lot (fun b => rt (oq N C lot b)) 5 W0 (by omega) (by omega)
      (fun h k => h.trans k) (fun h => h.size) (fun hs hb => Keep3.of_below hb hs)
      (fun w2 h => h.cell (p := ⟨w1.heap.size + 1 + 1 + 1, 0, none⟩) (by show w1.heap.size + 1 + 1 + 1 < _; omega) (by show w1.heap.size + 1 + 1 + 1 ≠ _; omega) (by show w1.heap.size + 1 + 1 + 1 ≠ _; omega) (by show w1.heap.size + 1 + 1 + 1 ≠ _; omega))
      (fun w2 h => h.cell (p := ⟨w1.heap.size + 1 + 1 + 1 + 1, 0, none⟩) (by show w1.heap.size + 1 + 1 + 1 + 1 < _; omega) (by show w1.heap.size + 1 + 1 + 1 + 1 ≠ _; omega) (by show w1.heap.size + 1 + 1 + 1 + 1 ≠ _; omega) (by show w1.heap.size + 1 + 1 + 1 + 1 ≠ _; omega))
      HZ.out.1.1 HZ.out.2.1 ?hop)
    (fun h k => h.trans k) (fun W l o o' hl hW hc hwk => ⟨by rw [World.putObj_size]; exact Nat.le_refl _, fun i h1 _ _ _ => World.putObj_heap_other (by omega)⟩) (Below.refl _ _) (fun _ => rfl)
    (WI (oq N C lot) lot w1.heap.size w W0) (fun _ _ _ => False) (WI.own (by omega)) (fun _ _ _ _ _ hs _ _ => hs) ?start ?a1 ?assign ?body ?done ?stop
  case hop =>
    intro bad w2 hbad hk
    have ce : ∀ o, w2.cell? ⟨w.heap.size, o, none⟩ = W0.cell? ⟨w.heap.size, o, none⟩ := fun o => hk.cell (p := ⟨w.heap.size, o, none⟩) (by show w.heap.size < _; omega) (by show w.heap.size ≠ _; omega) (by show w.heap.size ≠ _; omega) (by show w.heap.size ≠ _; omega)
    have ce1 : w2.cell? ⟨w.heap.size + 1, 0, none⟩ = W0.cell? ⟨w.heap.size + 1, 0, none⟩ := hk.cell (p := ⟨w.heap.size + 1, 0, none⟩) (by show w.heap.size + 1 < _; omega) (by show w.heap.size + 1 ≠ _; omega) (by show w.heap.size + 1 ≠ _; omega) (by show w.heap.size + 1 ≠ _; omega)
    obtain ⟨x0, x1, x2, -⟩ := HP1.out
    refine worstC_any w.heap.size (w.heap.size + 1) N C lot bad w2 ?_ ?_ ?_ hC hN hbad hL hL0 ?_
    · rw [ce 0]; exact (HB01.out.cell (p := ⟨w.heap.size, 0, none⟩) (World.block_lt_of_cell? _ _ x0)).trans x0
    · rw [ce 1]; exact (HB01.out.cell (p := ⟨w.heap.size, 1, none⟩) (World.block_lt_of_cell? _ _ x1)).trans x1
    · rw [ce1]; exact (x2.below HB01.out).1
    · exact HE.out.of_blocks fun i hi => (hk.blk i (by omega) (by omega) (by omega) (by omega)).trans (hB0.block i hi)
  case start =>
    refine ⟨⟨?_, HI0.out.2.1, HI0.out.2.2⟩, ⟨Nat.le_refl _, fun _ _ _ _ _ => rfl⟩, hB0⟩
    rw [show (bst (oq N C lot) ([] : List (Bad lot))).1 = -1 from rfl, rt_neg]
    exact HI0.out.1
  case assign =>
    intro l x W K hK
    gi_wp2
    exact hK
  case body =>
    rintro l pre x W ⟨⟨i8, i9, i10⟩, hk, hb⟩ hpl
    have HX := Lib.hid (cmp_any (oq N C lot x.1) (bst (oq N C lot) pre).1 (sm_oq hC hN x.2 hL hL0) (bst_sm _ (fun b hb => sm_oq hC hN hb hL hL0) pre))
    obtain ⟨y, -, -, hy, hyc⟩ := HX.out
    have HYC := Lib.hid hyc
    have HY := Lib.hid hy
    have HI8 := Lib.hid i8
    have HI9 := Lib.hid i9
    have HI10 := Lib.hid i10
    have HK := Lib.hid hk
    have HB := Lib.hid hb
    have HWE := Lib.hid (HE.out.of_blocks fun i hi => (hk.blk i (by omega) (by omega) (by omega) (by omega)).trans (hB0.block i hi))
    have HPL := Lib.hid hpl
    obtain ⟨c8, -⟩ := i8
    clear hyc hy i9 i10 hk hb
    have hmx : Tryz.prog.follows .mixedOrders = true := by kernel_rfl
    have en : IntKind.i64.wrap ((pre.length : Int) + 1) = (pre.length : Int) + 1 := IntWalk.i64_in _ (by omega)
    obtain ⟨pn, hpn⟩ : ∃ pn, pre.length = pn := ⟨_, rfl⟩
    have HPN := Lib.hid hpn
    rw [hpn] at en HI10
    clear hpn hpl
    by_cases hlt : 0 < y
    · gi_wp2_with (first
        | (refine ⟨trivial, ?_⟩; gi_at_call 31; refine (CallsIn.inRound l (callsIn_wide.2 (HYC.out _ HWE.out))).mono ?_; rintro e w5 ⟨rfl, hb5⟩; have J8 := Lib.hid (HI8.out.below hb5); have J9 := Lib.hid (HI9.out.below hb5); have J10 := Lib.hid (HI10.out.below hb5); have HB5 := Lib.hid hb5; obtain ⟨k8, j8⟩ := J8.out; obtain ⟨k9, j9⟩ := J9.out; obtain ⟨k10, j10⟩ := J10.out; clear hb5 c8))
      obtain ⟨w6, hw6, b8, b9, b10, hk6, hs6, hn6, hB6⟩ := set2 (u := .string (rt (oq N C lot x.1))) (v := .int .i64 pn) J8.out J9.out J10.out (by omega) (by omega) (by omega)
      have hst : bst (oq N C lot) (pre ++ [x]) = (oq N C lot x.1, pn, pn + 1) := by
        rw [bst_snoc, stp, if_pos (HY.out.1 hlt), bst_len, HPN.out]
      have hwW := HB.out.size
      have KEY := Lib.hid (fun act => WI.next (act := act) (W' := w6.setCell ⟨w1.heap.size + 1 + 1, 0, none⟩ (.int .i64 ((pn : Int) + 1))) ⟨⟨HI8.out, HI9.out, by rw [HPN.out]; exact HI10.out⟩, HK.out, HB.out⟩
        (by rw [hst]; exact b8.other (by omega) _) (by rw [hst]; exact b9.other (by omega) _)
        (by rw [show (pre ++ [x]).length = pn + 1 from by simp [HPN.out]]; exact Box.set b10 (.int .i64 ((pn : Int) + 1)))
        (((KeepsOthers.of_grownBy (gb_below HB5.out none) (fun _ _ e => by cases e)).trans hk6).trans (KeepsOthers.setCell _ _ _))
        (fun i hi h1 h2 h3 => ((Below.heap_setCell _ _ _ _ h3).trans (hn6 i h1 h2)).trans (HB5.out.block i hi))
        (((HB5.out.mono hwW).trans (hB6 _ (by omega) (by omega))).setCell (p := ⟨w1.heap.size + 1 + 1, 0, none⟩) (by show w.heap.size ≤ w1.heap.size + 1 + 1; omega) _))
      have HW6 := Lib.hid hw6
      have HB10 := Lib.hid b10
      clear hw6 b8 b9 hn6 hB6 hk6 hs6 hst hwW b10
      gi_region_with_o (fail)
      all_goals rw [HW6.out]
      all_goals (obtain ⟨q10, r10⟩ := HB10.out)
      all_goals clear k8 j8 k9 j9 k10 j10
      all_goals gi_wp2
      all_goals exact KEY.out _
    · gi_wp2_with (first
        | (refine ⟨trivial, ?_⟩; gi_at_call 31; refine (CallsIn.inRound l (callsIn_wide.2 (HYC.out _ HWE.out))).mono ?_; rintro e w5 ⟨rfl, hb5⟩; have J8 := Lib.hid (HI8.out.below hb5); have J9 := Lib.hid (HI9.out.below hb5); have J10 := Lib.hid (HI10.out.below hb5); have HB5 := Lib.hid hb5; obtain ⟨k10, j10⟩ := J10.out; clear hb5 c8))
      have hst : bst (oq N C lot) (pre ++ [x]) = ((bst (oq N C lot) pre).1, (bst (oq N C lot) pre).2.1, pn + 1) := by
        rw [bst_snoc, stp, if_neg (fun h => absurd (HY.out.2 h) (by omega)), bst_len, HPN.out]
      refine WI.next ⟨⟨HI8.out, HI9.out, by rw [HPN.out]; exact HI10.out⟩, HK.out, HB.out⟩ ?_ ?_ ?_ ?_ ?_ ?_
      · rw [hst]; exact J8.out.other (by omega) _
      · rw [hst]; exact J9.out.other (by omega) _
      · rw [show (pre ++ [x]).length = pn + 1 from by simp [HPN.out]]
        exact Box.set ⟨k10, j10⟩ (.int .i64 ((pn : Int) + 1))
      · exact (KeepsOthers.of_grownBy (gb_below HB5.out none) (fun _ _ e => by cases e)).trans (KeepsOthers.setCell _ _ _)
      · intro i hi h1 h2 h3
        exact (Below.heap_setCell _ _ _ _ h3).trans (HB5.out.block i hi)
      · have hwW := HB.out.size
        exact (HB5.out.mono hwW).setCell (p := ⟨w1.heap.size + 1 + 1, 0, none⟩) (by show w.heap.size ≤ w1.heap.size + 1 + 1; omega) _
  case stop =>
    rintro D c pre W _ _ h _
    exact h.elim
  case done =>
    rintro D xs W hD hS ⟨⟨i8, i9, i10⟩, hk, hb⟩ hDef
    have hmx : Tryz.prog.follows .mixedOrders = true := by kernel_rfl
    obtain rfl := hS
    have HDE := Lib.hid hDef
    have HW := Lib.hid hb
    have RB := Lib.hid (show Box W (w.heap.size + 1 + 1) (.int .i64 0) ∧ Box W (w.heap.size + 1 + 1 + 1) (.string ⟨#[]⟩) ∧ Box W (w.heap.size + 1 + 1 + 1 + 1) (.int .i64 0) from
      ⟨(HP1.out.2.2.2.1.below HB01.out).kept (hk.blk _ (by omega) (by omega) (by omega) (by omega)), (HP1.out.2.2.2.2.1.below HB01.out).kept (hk.blk _ (by omega) (by omega) (by omega) (by omega)), (HP1.out.2.2.2.2.2.1.below HB01.out).kept (hk.blk _ (by omega) (by omega) (by omega) (by omega))⟩)
    have HHK := Lib.hid hk
    clear hb hk hDef i10
    obtain ⟨k8, j8⟩ := i8
    obtain ⟨k9, j9⟩ := i9
    obtain ⟨⟨k2, j2⟩, ⟨k3, j3⟩, ⟨k4, j4⟩⟩ := RB.out
    gi_wp2
    obtain ⟨r2, r3, r4⟩ := RB.out
    obtain ⟨w6, hw6, c2, c3, c4, hk6, hB6⟩ := set3 (u := .int .i64 ((bst (oq N C lot) (lotL lot (lot + 1))).2.1 : Nat)) (v := .string (rt (bst (oq N C lot) (lotL lot (lot + 1))).1)) (t := .int .i64 0) r2 r3 r4 (by omega) (by omega) (by omega)
    have HW6 := Lib.hid hw6
    have HD6 := Lib.hid (hk6.same D _ HDE.out rfl)
    have HB6 := Lib.hid (HW.out.trans (hB6 w.heap.size (by omega) (by omega) (by omega)))
    have HC6 := Lib.hid (⟨c2.own (grownBy_putObj' w6 D (.deferred none)) (fun r e => by cases e; exact ⟨_, HD6.out, rfl⟩), c3.own (grownBy_putObj' w6 D (.deferred none)) (fun r e => by cases e; exact ⟨_, HD6.out, rfl⟩), c4.own (grownBy_putObj' w6 D (.deferred none)) (fun r e => by cases e; exact ⟨_, HD6.out, rfl⟩)⟩ : _ ∧ _ ∧ _)
    clear hw6 hk6 hB6 c2 c3 c4 r2 r3 r4
    gi_region_with_o (fail)
    all_goals rw [HW6.out]
    all_goals clear k8 j8 k9 j9 k2 j2 k3 j3 k4 j4
    all_goals gi_wp2
    all_goals refine ⟨by simp, .inl ⟨_, _, rfl, run_takeDeferred HD6.out, ?_⟩⟩
    all_goals (obtain ⟨⟨c2, -⟩, ⟨c3, -⟩, ⟨c4, -⟩⟩ := HC6.out)
    all_goals refine ⟨.tuple #[.int .i64 ((bst (oq N C lot) (lotL lot (lot + 1))).2.1 : Nat), .string (rt (bst (oq N C lot) (lotL lot (lot + 1))).1), .int .i64 0], ?_, rfl, HB6.out.trans (belowK_b (w := w) (Nat.le_refl _) _ D _ _ (by omega) HD6.out rfl rfl)⟩
    all_goals simp [results, Tryz.f38, go_sem, c2, c3, c4]
end Go.Proofs.YtfebiipggcgmdaaGreatDoor
