import Derived.Test.YtfebiipggcgmdaaGreatDoorRB
import Derived.Laws.MakeOwn
import Derived.Lib.BufferWrite
namespace Go.Proofs.YtfebiipggcgmdaaGreatDoor
open Go.RowKit

/-- bytes as cells -/
def bc (l : List UInt8) : Array Value := (l.map fun b => Value.int .u8 (b.toNat : Int)).toArray
theorem bc_size (l : List UInt8) : (bc l).size = l.length := by simp [bc]
theorem bc_get (l : List UInt8) (j : Nat) : (bc l)[j]? = l[j]?.map fun b => Value.int .u8 (b.toNat : Int) := by simp [bc]
theorem bc_set (l : List UInt8) (j : Nat) (b : UInt8) : (bc l).setIfInBounds j (.int .u8 (b.toNat : Int)) = bc (l.set j b) := by
  simp [bc, List.map_set]
/-- a block of bytes -/
def IsB (w : World) (g : Nat) (l : List UInt8) : Prop := w.heap[g]? = some (.cells (bc l) 5 (0, 0))
theorem IsB.lt {w : World} {g : Nat} {l : List UInt8} (h : IsB w g l) : g < w.heap.size := (Array.getElem?_eq_some_iff.1 h).1
theorem IsB.cell {w : World} {g : Nat} {l : List UInt8} (h : IsB w g l) {j : Nat} {b : UInt8} (hj : l[j]? = some b) : w.cell? ⟨g, j, none⟩ = some (.int .u8 (b.toNat : Int)) := by
  rw [cell_of_row w g j (bc l) 5 (0, 0) h, bc_get, hj]; rfl
theorem IsB.frozen {w : World} {g : Nat} {l : List UInt8} (h : IsB w g l) (j : Nat) : w.frozen? ⟨g, j, none⟩ = false := frozen_of_row w g j (bc l) 5 h
theorem IsB.set {w : World} {g : Nat} {l : List UInt8} (h : IsB w g l) (j : Nat) (b : UInt8) : IsB (w.setCell ⟨g, j, none⟩ (.int .u8 (b.toNat : Int))) g (l.set j b) := by
  have h1 := heap_setCell_same w g j (bc l) 5 (.int .u8 (b.toNat : Int)) h
  rw [bc_set] at h1
  exact h1
theorem IsB.new (w : World) (l : List UInt8) : IsB (w.alloc (.cells (bc l) 5)) w.heap.size l := heap_alloc_new w _
theorem IsB.below {w w' : World} {g : Nat} {l : List UInt8} (h : IsB w g l) (hb : Below w.heap.size w w') : IsB w' g l := (hb.block g h.lt).trans h
theorem byte_info : (Tryz.prog.info? 5).map (fun i => (i.zero, i.size, i.bytes)) = some (some (.int .u8 0), 1, 1) := by kernel_rfl
theorem make_bytes (n : Nat) (hn : n ≤ 1000000) (w : World) : (Instr.makeSlice 135 (.int .i64 (n : Int)) (.int .i64 (n : Int))).run Tryz.prog w = .ok (.slice (some ⟨w.heap.size, 0, none⟩) n n) (w.alloc (.cells (bc (List.replicate n 0)) 5)) := by
  obtain ⟨i0, hi, hz0, hz1, hz2⟩ := info_parts byte_info
  have hr := run_make (P := Tryz.prog) w 135 5 i0 (.int .u8 0) Tryz.underlying135 hi hz0 .i64 .i64 n n (by omega) (Int.le_refl _) (by rw [hz2]; omega) (by omega)
  rw [hz1] at hr
  simp only [Int.toNat_natCast, Nat.mul_one] at hr
  have e : madeCells (Value.int .u8 0).cells n = bc (List.replicate n 0) := by
    unfold bc
    rw [List.map_replicate]
    apply Array.ext'
    simp [madeCells, Value.cells, Nat.mod_one]
    rw [List.map_const', List.length_range]
  rw [e] at hr
  exact hr
theorem conv_bytes {w : World} {g : Nat} {l : List UInt8} (n c : Nat) (hn : n = l.length) (h : IsB w g l) : (convert 135 9 (.slice (some ⟨g, 0, none⟩) n c)).run Tryz.prog w = .ok (.string ⟨l.toArray⟩) w := by
  subst hn
  exact run_convert_bytes_back (P := Tryz.prog) w 135 9 5 ⟨g, 0, none⟩ c l Tryz.underlying135 Tryz.underlying5 Tryz.underlying9 (fun j hj => by
    have h1 := h.cell (List.getElem?_eq_getElem hj)
    have e : (⟨g, 0, none⟩ : Addr).add j = ⟨g, j, none⟩ := by simp [Addr.add]; omega
    rw [e]; exact h1)
end Go.Proofs.YtfebiipggcgmdaaGreatDoor
