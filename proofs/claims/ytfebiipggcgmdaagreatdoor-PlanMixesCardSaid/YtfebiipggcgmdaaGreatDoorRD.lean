import Derived.Test.YtfebiipggcgmdaaGreatDoorRC
namespace Go.Proofs.YtfebiipggcgmdaaGreatDoor
open Go.RowKit

def filled (j n : Nat) : List UInt8 := List.replicate j 48 ++ List.replicate (n - j) 0
theorem filled_set {j n : Nat} (h : j < n) : (filled j n).set j 48 = filled (j + 1) n := by
  unfold filled
  rw [List.set_append_right _ _ (by simp), List.length_replicate, Nat.sub_self, show n - j = (n - (j + 1)) + 1 by omega, List.replicate_succ, List.set_cons_zero, List.replicate_succ']
  simp
theorem filled_len {j n : Nat} (h : j ≤ n) : (filled j n).length = n := by simp [filled]; omega

theorem copy_bytes {wr : World} {g o dl dc : Nat} {l : List UInt8} {ty : TypeId} (s : ByteArray) (h : IsB wr g l) (hle : s.size ≤ dl) (hfit : o + s.size ≤ l.length) :
    ∃ w2, (Builtin.copy_ #[135, 9] ty #[.slice (some ⟨g, o, none⟩) dl dc, .string s]).run Tryz.prog wr = .ok (.int .i64 s.size) w2 ∧ IsB w2 g (l.take o ++ s.data.toList ++ l.drop (o + s.size)) ∧ Below g wr w2 := by
  obtain ⟨i0, hi, hz0, hz1, hz2⟩ := info_parts byte_info
  have hr := Lib.run_copy_row_string (P := Tryz.prog) wr 135 9 ty 5 g o dl dc s (bc l) 5 Tryz.underlying135 (by rw [hi]; simp [hz1]) h hle (by rw [bc_size]; exact hfit)
  refine ⟨_, hr, ?_, ⟨rfl, rfl, rfl, by simp [World.setRow], fun k hk => setRow_other _ _ _ _ (by omega)⟩⟩
  have e : ((bc l).toList.take o ++ Lib.byteCells s.data.toList ++ (bc l).toList.drop (o + s.size)).toArray = bc (l.take o ++ s.data.toList ++ l.drop (o + s.size)) := by
    simp [bc, Lib.byteCells, List.map_take, List.map_drop]
  show (wr.setRow g _).heap[g]? = _
  rw [setRow_heap wr g (bc l) _ 5 (0, 0) h, e]

set_option maxRecDepth 100000 in
set_option maxHeartbeats 1600000 in
theorem wide_any (s : ByteArray) (n : Nat) (w : World) (h0 : 0 < s.size) (hs : s.size ≤ n) (hn : n ≤ 1000000) :
    Calls Tryz.prog 147 #[.string s, .int .i64 n] w fun e w' => e = .returned (.string ⟨(List.replicate (n - s.size) 48 ++ s.data.toList).toArray⟩) ∧ Below w.heap.size w w' := by
  have hmk := make_bytes n hn
  have HB0 := Lib.hid ((Below.refl w.heap.size w).alloc (Nat.le_refl _) (.cells (bc (List.replicate n 0)) 5))
  have HI0 := Lib.hid (IsB.new w (List.replicate n 0))
  go_enter Tryz.func147, Tryz.ntmps147
  go_wp2
  go_loopg [6] n (fun k iv wr => ∃ j : Nat, iv = .int .i64 j ∧ j + k = n ∧ IsB wr w.heap.size (filled j n) ∧ Below w.heap.size w wr)
  case atStart => exact ⟨0, rfl, by omega, by unfold filled; exact HI0.out, HB0.out⟩
  case round =>
    obtain ⟨j, rfl, hk, hib, hbl⟩ := hrel
    have HIB := Lib.hid hib
    have HBL := Lib.hid hbl
    by_cases hz : gk = 0
    · obtain rfl : j = n := by omega
      have hnl : ¬ ((j : Int) < j) := by omega
      have e1 : IntKind.i64.wrap ((j : Int) - s.size) = ((j - s.size : Nat) : Int) := by rw [IntWalk.i64_in _ (by omega)]; omega
      obtain ⟨o, ho⟩ : ∃ o, j - s.size = o := ⟨_, rfl⟩
      rw [ho] at e1
      have hoj : (o : Int) ≤ j := by omega
      have HO := Lib.hid (show o < j by omega)
      have hfl : filled j j = List.replicate j 48 := by unfold filled; rw [Nat.sub_self]; simp
      rw [hfl] at hib
      obtain ⟨w2, hcp, hib2, hb2⟩ := copy_bytes (ty := 3) (o := o) (dl := j - o) (dc := j - o) s hib (by omega) (by rw [List.length_replicate]; omega)
      have hl2 : List.take o (List.replicate j (48 : UInt8)) ++ s.data.toList ++ List.drop (o + s.size) (List.replicate j 48) = List.replicate (j - s.size) 48 ++ s.data.toList := by
        rw [List.take_replicate, List.drop_replicate, show min o j = j - s.size by omega, show j - (o + s.size) = 0 by omega]
        simp
      rw [hl2] at hib2
      have hcv := conv_bytes j j (by rw [List.length_append, List.length_replicate, Array.length_toList]; show j = j - s.size + s.data.size; have : s.data.size = s.size := rfl; omega) hib2
      have HB2 := Lib.hid (hbl.trans hb2)
      clear hib hbl hib2 hb2 hfl hl2 ho
      go_wp2
      · exact absurd HO.out (by omega)
      go_ret
      exact ⟨rfl, HB2.out⟩
    · have hj : j < n := by omega
      have hji : (j : Int) < n := by omega
      have hlen : (filled j n).length = n := filled_len (by omega)
      obtain ⟨b, hb⟩ : ∃ b, (filled j n)[j]? = some b := ⟨_, List.getElem?_eq_getElem (show j < (filled j n).length by omega)⟩
      have hc := hib.cell hb
      have hf := hib.frozen j
      have e1 : IntKind.i64.wrap ((j : Int) + 1) = (j : Int) + 1 := IntWalk.i64_in _ (by omega)
      have HS := Lib.hid (hib.set j 48)
      have HBS := Lib.hid (hbl.setCell (p := ⟨w.heap.size, j, none⟩) (Nat.le_refl _) (.int .u8 48))
      have HF := Lib.hid (filled_set hj)
      have HK := Lib.hid hk
      clear hib hbl hk hb hlen
      go_wp2
      go_roundg (gk - 1)
      case rel => exact ⟨j + 1, by simp, by have := HK.out; omega, by rw [← HF.out]; exact HS.out, HBS.out⟩
      case measure => have := HK.out; omega
end Go.Proofs.YtfebiipggcgmdaaGreatDoor
