import Derived.Test.YtfebiipggcgmdaaGreatDoorS1
import Derived.Test.YtfebiipggcgmdaaGreatDoorL2
namespace Go.Proofs.YtfebiipggcgmdaaGreatDoor
open Go.RowKit Go.Shelf

/-- what a loop's round keeps: all that lay below B but three blocks -/
structure Keep3 (B a b c : Nat) (W W' : World) : Prop where
  size : W.heap.size ≤ W'.heap.size
  blk : ∀ i, i < B → i ≠ a → i ≠ b → i ≠ c → W'.heap[i]? = W.heap[i]?
theorem Keep3.trans {B a b c : Nat} {U V W : World} (h : Keep3 B a b c U V) (k : Keep3 B a b c V W) : Keep3 B a b c U W :=
  ⟨Nat.le_trans h.size k.size, fun i h1 h2 h3 h4 => (k.blk i h1 h2 h3 h4).trans (h.blk i h1 h2 h3 h4)⟩
theorem Keep3.of_below {a b c : Nat} {B : Nat} {U V : World} (h : Below U.heap.size U V) (hB : B ≤ U.heap.size) : Keep3 B a b c U V :=
  ⟨h.size, fun i h1 _ _ _ => h.block i (by omega)⟩
theorem Keep3.cell {B a b c : Nat} {U V : World} (h : Keep3 B a b c U V) {p : Addr} (h1 : p.block < B) (h2 : p.block ≠ a) (h3 : p.block ≠ b) (h4 : p.block ≠ c) : V.cell? p = U.cell? p :=
  World.cell?_of_block (w := U) (h.blk p.block h1 h2 h3 h4)
theorem Env.of_blocks {w w' : World} (h : Env w) (hb : ∀ i, i < w.heap.size → w'.heap[i]? = w.heap[i]?) : Env w' := by
  obtain ⟨h1, m, hm⟩ := h
  refine ⟨?_, m, ?_⟩
  · unfold Lib.TabIs World.var? at *
    cases hg : Tryz.prog.globalNamed "internal/strconv.uint64pow10" with
    | none => rw [hg] at h1; cases h1
    | some g =>
      rw [hg] at h1
      simp only [Option.bind_some] at *
      cases hh : w.heap[g]? with
      | none => rw [hh] at h1; cases h1
      | some o =>
        have hlt : g < w.heap.size := (Array.getElem?_eq_some_iff.1 hh).1
        rw [hb g hlt]; exact h1
  · rw [World.cell?_of_block (w := w) (hb _ (World.block_lt_of_cell? w _ hm))]; exact hm

set_option maxRecDepth 100000 in
theorem lots_any (lot : Nat) (f : Nat) (lb : Array Value) (w : World) : Calls Tryz.prog 71 #[.int .i64 lot, .func (.func f) #[] lb] w fun e w' =>
    e = .returned (.func (.func 116) #[] #[.pointer (some ⟨w.heap.size, 0, none⟩), .pointer (some ⟨w.heap.size + 1, 0, none⟩)]) ∧
    w' = (w.alloc (.cells #[.int .i64 lot] 3)).alloc (.cells #[.func (.func f) #[] lb] 106) := by
  have hmf : ∀ (fn : Fn) (first cap : Array Value) (w : World), (Instr.makeFunc fn first cap).run Tryz.prog w = .ok (.func fn first cap) w := fun _ _ _ _ => rfl
  go_enter Tryz.func71, Tryz.ntmps71
  go_wp2
  go_ret
  exact ⟨rfl, rfl⟩

set_option maxRecDepth 100000 in
set_option maxHeartbeats 1600000 in
theorem worstC_any (g1 g2 N C lot bad : Nat) (w : World) (c0 : w.cell? ⟨g1, 0, none⟩ = some (.int .i64 N)) (c1 : w.cell? ⟨g1, 1, none⟩ = some (.int .i64 C)) (c2 : w.cell? ⟨g2, 0, none⟩ = some (.int .i64 lot))
    (hC : C ≤ N) (hN : N ≤ lot) (hb : bad ≤ lot) (hL : lot ≤ 256) (hl0 : 0 < lot) (he : Env w) :
    Calls Tryz.prog 87 #[.int .i64 bad, .pointer (some ⟨g1, 0, none⟩), .pointer (some ⟨g2, 0, none⟩)] w (TxtEnd (rt (mkRat ((left N C lot bad : Nat) : Int) (ch lot N * lot))) w) := by
  have HS := Lib.hid (outgoing_any N C lot bad w hC hN hb hL hl0 he)
  unfold pl at HS
  clear hC hN hb hL hl0 he
  go_enter Tryz.func87, Tryz.ntmps87
  go_wp2_with fail
  refine HS.out.mono ?_
  rintro e w3 ⟨rfl, hb3⟩
  have HB3 := Lib.hid hb3
  clear hb3
  go_wp2
  go_ret2
  exact ⟨rfl, HB3.out⟩

set_option maxRecDepth 100000 in
set_option maxHeartbeats 1600000 in
theorem curveC_any (g1 g2 N C lot bad : Nat) (w : World) (c0 : w.cell? ⟨g1, 0, none⟩ = some (.int .i64 N)) (c1 : w.cell? ⟨g1, 1, none⟩ = some (.int .i64 C)) (c2 : w.cell? ⟨g2, 0, none⟩ = some (.int .i64 lot))
    (hC : C ≤ N) (hN : N ≤ lot) (hb : bad ≤ lot) (hL : lot ≤ 256) (he : Env w) :
    Calls Tryz.prog 72 #[.int .i64 bad, .pointer (some ⟨g1, 0, none⟩), .pointer (some ⟨g2, 0, none⟩)] w (TxtEnd (rt (mkRat ((good N C lot bad : Nat) : Int) (ch lot N))) w) := by
  have HS := Lib.hid (accept_any N C lot bad w hC hN hb hL he)
  unfold pl at HS
  clear hC hN hb hL he
  go_enter Tryz.func72, Tryz.ntmps72
  go_wp2_with fail
  refine HS.out.mono ?_
  rintro e w3 ⟨rfl, hb3⟩
  have HB3 := Lib.hid hb3
  clear hb3
  go_wp2
  go_ret2
  exact ⟨rfl, HB3.out⟩
end Go.Proofs.YtfebiipggcgmdaaGreatDoor
