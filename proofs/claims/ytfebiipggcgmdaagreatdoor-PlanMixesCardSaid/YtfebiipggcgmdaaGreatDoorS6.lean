import Derived.Test.YtfebiipggcgmdaaGreatDoorS5
import Derived.BigRegion
namespace Go.Proofs.YtfebiipggcgmdaaGreatDoor
open Go.RowKit Go.Shelf

/-- a row of texts -/
structure IsR (w : World) (g n : Nat) (f : Nat → ByteArray) : Prop where
  cell : ∀ j, j < n → w.cell? ⟨g, j, none⟩ = some (.string (f j))
  lt : g < w.heap.size
theorem IsR.below {w w' : World} {g n : Nat} {f : Nat → ByteArray} (h : IsR w g n f) (hb : Below w.heap.size w w') : IsR w' g n f :=
  ⟨fun j hj => (hb.cell (p := ⟨g, j, none⟩) h.lt).trans (h.cell j hj), Nat.lt_of_lt_of_le h.lt hb.size⟩
theorem pas_at (N C lot : Nat) : ∀ (n j : Nat), n ≤ lot + 1 → j < n → (pas N C lot (lotL lot n))[j]? = some (.string (rt (pa N C lot j)))
  | n + 1, j, hn, hj => by
    rw [lotL_succ (by omega), pas_snoc]
    have hl : (pas N C lot (lotL lot n)).length = n := by rw [pas, List.length_map, lotL_len lot n (by omega)]
    by_cases h : j = n
    · subst h
      rw [List.getElem?_append_right (by rw [hl]; exact Nat.le_refl _), hl, Nat.sub_self]; rfl
    · rw [List.getElem?_append_left (by omega)]
      exact pas_at N C lot n j (by omega) (by omega)
theorem curve_ok (N C lot : Nat) (w : World) (h1 : 1 ≤ N) (hC : C ≤ N) (hN : N ≤ lot) (hL : lot ≤ 256) (he : Env w) :
    Calls Tryz.prog 30 #[pl N C, .int .i64 lot] w fun e w' => ∃ g cap, e = .returned (.tuple #[.slice (some ⟨g, 0, none⟩) (lot + 1) cap, .int .i64 0]) ∧ IsR w' g (lot + 1) (fun j => rt (pa N C lot j)) ∧ Below w.heap.size w w' := by
  refine (curve_core N C lot w h1 hC hN hL he).mono ?_
  rintro e w' ⟨g, cap, rfl, hown, hb⟩
  refine ⟨g, cap, rfl, ⟨fun j hj => ?_, (hown.lt g rfl).2⟩, hb⟩
  rw [hown.cellAt j (by omega)]
  exact pas_at N C lot (lot + 1) j (Nat.le_refl _) hj

theorem pa_zero {N C lot : Nat} (hN : N ≤ lot) : pa N C lot 0 = 1 := by
  have h : good N C lot 0 = ch lot N := by
    unfold good
    rw [su_head]
    have hz : su (fun i => ch 0 (i + 1) * ch (lot - 0) (N - (i + 1))) C = 0 := by
      have h0 : ∀ n, su (fun i => ch 0 (i + 1) * ch (lot - 0) (N - (i + 1))) n = 0 := fun n => by
        induction n with
        | zero => rfl
        | succ n ih => rw [su, ih]; show 0 + ch 0 (n + 1) * _ = 0; rw [show ch 0 (n + 1) = 0 from rfl]; omega
      exact h0 C
    rw [hz, ch_zero]; simp
  unfold pa
  rw [h]
  exact mkRat_one (ch_pos hN)
theorem pa_all {N lot b : Nat} (hN : N ≤ lot) (hb : b ≤ lot) : pa N N lot b = 1 := by
  unfold pa
  rw [good_all rfl hb]
  exact mkRat_one (ch_pos hN)
theorem pa_up {N C D lot b : Nat} (hN : N ≤ lot) (h : C ≤ D) : pa N C lot b ≤ pa N D lot b := by
  unfold pa
  exact (mkRat_le_iff (ch_pos hN) (ch_pos hN)).2 (Int.mul_le_mul_of_nonneg_right (Int.ofNat_le.2 (su_mono (by omega))) (by omega))
theorem pa_down {N C lot b : Nat} (hN : N ≤ lot) (hC : C ≤ N) (hb : b < lot) : pa N C lot (b + 1) ≤ pa N C lot b := by
  unfold pa
  have := good_falls (N := N) (C := C) hb hC
  exact (mkRat_le_iff (ch_pos hN) (ch_pos hN)).2 (Int.mul_le_mul_of_nonneg_right (Int.ofNat_le.2 (by omega)) (by omega))
end Go.Proofs.YtfebiipggcgmdaaGreatDoor
