import Derived.Test.YtfebiipggcgmdaaGreatDoorR8
namespace Go.Proofs.YtfebiipggcgmdaaGreatDoor
open Go.RowKit

set_option maxRecDepth 100000 in
set_option maxHeartbeats 1600000 in
theorem rWorst_bad (N C lot : Int) (w : World) (h : lsP N C lot ≠ 0) :
    Calls Tryz.prog 40 #[pl N C, .int .i64 lot] w fun e w' => e = .returned (.tuple #[.int .i64 0, .string ⟨#[]⟩, .int .i64 (lsP N C lot)]) ∧ Below w.heap.size w w' := by
  have HLT := Lib.hid (fun w => rlot_any N C lot w)
  have HP0 := Lib.hid (IsP.new w (.int .i64 N) (.int .i64 C) 23)
  have HB0 := Lib.hid ((Below.refl w.heap.size w).alloc (Nat.le_refl _) (.cells #[.int .i64 N, .int .i64 C] 23))
  obtain ⟨c0, c1, -⟩ := HP0.out
  have hz := szP_two N C lot
  unfold pl at HLT ⊢
  by_cases hs : szP N C lot = 0
  · have hl : ¬ lot ≤ 256 := fun e => h (by unfold lsP; rw [if_pos hs, if_pos e])
    have h5 : lsP N C lot = 5 := by unfold lsP; rw [if_pos hs, if_neg hl]
    rw [h5]
    rw [hs] at HLT
    have hl2 : 256 < lot := by omega
    clear h hz hs h5
    go_enter Tryz.func40, Tryz.ntmps40
    go_wp2_with fail
    refine (HLT.out _).mono ?_
    rintro e w1 ⟨rfl, hb1⟩
    have HB1 := Lib.hid (HB0.out.trans (hb1.mono HB0.out.size))
    clear hb1 c0 c1
    go_wp2
    go_ret3
    exact ⟨rfl, HB1.out⟩
  · have h5 : lsP N C lot = 2 := by unfold lsP; rw [if_neg hs]
    rw [h5]
    rw [hz.resolve_right (fun e => hs e.1)] at HLT
    clear h hz hs h5
    go_enter Tryz.func40, Tryz.ntmps40
    go_wp2_with fail
    refine (HLT.out _).mono ?_
    rintro e w1 ⟨rfl, hb1⟩
    have HB1 := Lib.hid (HB0.out.trans (hb1.mono HB0.out.size))
    clear hb1 c0 c1
    go_wp2
    go_ret3
    exact ⟨rfl, HB1.out⟩

set_option maxRecDepth 100000 in
set_option maxHeartbeats 1600000 in
theorem rCurve_bad (N C lot : Int) (w : World) (h : lsP N C lot ≠ 0) :
    Calls Tryz.prog 39 #[pl N C, .int .i64 lot] w fun e w' => e = .returned (.tuple #[.slice none 0 0, .int .i64 (lsP N C lot)]) ∧ Below w.heap.size w w' := by
  have HLT := Lib.hid (fun w => rlot_any N C lot w)
  have HP0 := Lib.hid (IsP.new w (.int .i64 N) (.int .i64 C) 23)
  have HB0 := Lib.hid ((Below.refl w.heap.size w).alloc (Nat.le_refl _) (.cells #[.int .i64 N, .int .i64 C] 23))
  obtain ⟨c0, c1, -⟩ := HP0.out
  have hz := szP_two N C lot
  unfold pl at HLT ⊢
  by_cases hs : szP N C lot = 0
  · have hl : ¬ lot ≤ 256 := fun e => h (by unfold lsP; rw [if_pos hs, if_pos e])
    have h5 : lsP N C lot = 5 := by unfold lsP; rw [if_pos hs, if_neg hl]
    rw [h5]
    rw [hs] at HLT
    have hl2 : 256 < lot := by omega
    clear h hz hs h5
    go_enter Tryz.func39, Tryz.ntmps39
    go_wp2_with fail
    refine (HLT.out _).mono ?_
    rintro e w1 ⟨rfl, hb1⟩
    have HB1 := Lib.hid (HB0.out.trans (hb1.mono HB0.out.size))
    clear hb1 c0 c1
    go_wp2
    go_ret2
    exact ⟨rfl, HB1.out⟩
  · have h5 : lsP N C lot = 2 := by unfold lsP; rw [if_neg hs]
    rw [h5]
    rw [hz.resolve_right (fun e => hs e.1)] at HLT
    clear h hz hs h5
    go_enter Tryz.func39, Tryz.ntmps39
    go_wp2_with fail
    refine (HLT.out _).mono ?_
    rintro e w1 ⟨rfl, hb1⟩
    have HB1 := Lib.hid (HB0.out.trans (hb1.mono HB0.out.size))
    clear hb1 c0 c1
    go_wp2
    go_ret2
    exact ⟨rfl, HB1.out⟩

theorem below_app {n0 : Nat} {w W w1 : World} {tmp : Obj} {e : TypeId} {size k : Nat} {v : Value} {xs : List Value} (hB : Below n0 w W) (hn : n0 ≤ W.heap.size) (hrow : W.ownsRow n0 e size v k xs) (hg : (W.alloc tmp).grownBy w1 v.ownBlock) : Below n0 w w1 :=
  hB.trans (((Below.refl n0 W).alloc hn tmp).grown hg (by simp; omega) fun j ej => (hrow.lt j ej).1)

set_option maxRecDepth 100000 in
set_option maxHeartbeats 3200000 in
theorem rCurve_ok (N C lot : Nat) (w : World) (h1 : 1 ≤ N) (hC : C ≤ N) (hN : N ≤ lot) (hL : lot ≤ 9) :
    Calls Tryz.prog 39 #[pl N C, .int .i64 lot] w fun e w' => ∃ g cap, e = .returned (.tuple #[.slice (some ⟨g, 0, none⟩) (lot + 1) cap, .int .i64 0]) ∧ IsR w' g (lot + 1) (fun j => rt (pa N C lot j)) ∧ Below w.heap.size w w' := by
  obtain ⟨i0, hi, hz0, hz1, hz2⟩ := info_parts rat_info
  have HCH := Lib.hid (fun (b : Nat) (hb : b ≤ lot) (w : World) => show Calls Tryz.prog 46 #[pl N C, .int .i64 lot, .int .i64 b] w fun e w' => e = .returned (.string (rt (pa N C lot b))) ∧ Below w.heap.size w w' from chance_any N C lot b w hN hL hb hC)
  have HLT := Lib.hid (fun w => rlot_any N C lot w)
  rw [show szP N C lot = 0 by
    have h2 := chkP_ok h1 (show N ≤ 256 by omega) hC
    unfold szP; rw [h2, if_pos (by omega)]] at HLT
  have HP0 := Lib.hid (IsP.new w (.int .i64 N) (.int .i64 C) 23)
  have HB0 := Lib.hid ((Below.refl w.heap.size w).alloc (Nat.le_refl _) (.cells #[.int .i64 N, .int .i64 C] 23))
  have HAT := Lib.hid (pas_at N C lot (lot + 1))
  obtain ⟨c0, c1, -⟩ := HP0.out
  have HF := Lib.hid (show ∀ j, j ≤ lot → pas N C lot (lotL lot (j + 1)) = pas N C lot (lotL lot j) ++ [.string (rt (pa N C lot j))] from fun j hj => by rw [lotL_succ hj, pas_snoc])
  unfold pl at HCH HLT ⊢
  clear h1 hC hN
  go_enter Tryz.func39, Tryz.ntmps39
  go_wp2_with fail
  refine (HLT.out _).mono ?_
  rintro e w1 ⟨rfl, hb1⟩
  have HP1 := Lib.hid (HP0.out.below hb1)
  have HB1 := Lib.hid (HB0.out.trans (hb1.mono HB0.out.size))
  clear hb1 c0 c1
  go_wp2
  go_loopg [7, 8] (lot + 1) (fun k ov iv wr => ∃ j : Nat, iv = .int .i64 j ∧ j + k = lot + 1 ∧ wr.ownsRow w1.heap.size 26 1 ov j (pas N C lot (lotL lot j)) ∧ Below w1.heap.size w1 wr)
  case atStart => exact ⟨0, rfl, by omega, World.ownsRow_nil _ _ _ _, Below.refl _ _⟩
  case round =>
    obtain ⟨j, rfl, hk, hrow, hbl⟩ := hrel
    have HBL := Lib.hid hbl
    have HBQ := Lib.hid (HB1.out.trans (hbl.mono HB1.out.size))
    by_cases hz : gk = 0
    · obtain rfl : j = lot + 1 := by omega
      obtain ⟨g, cap, rfl⟩ := ownsRow_succ hrow
      have HR := Lib.hid (show IsR wr g (lot + 1) (fun j => rt (pa N C lot j)) from ⟨fun j hj => by rw [hrow.cellAt j (by omega)]; exact HAT.out j (Nat.le_refl _) hj, (hrow.lt g rfl).2⟩)
      have hnl : ¬ ((lot : Int) + 1 ≤ lot) := by omega
      clear hbl hrow
      go_wp2
      go_ret2
      exact ⟨g, ⟨cap, rfl⟩, HR.out, HBQ.out⟩
    · have hj : j ≤ lot := by omega
      have hji : (j : Int) ≤ lot := by omega
      obtain ⟨c0, c1, -⟩ := HP1.out.below hbl
      have HJ := Lib.hid (HCH.out j hj)
      have HFJ := Lib.hid (HF.out j hj)
      obtain ⟨xs, hxs⟩ : ∃ xs, pas N C lot (lotL lot j) = xs := ⟨_, rfl⟩
      rw [hxs] at hrow HFJ
      have e2 : IntKind.i64.wrap ((j : Int) + 1) = (j : Int) + 1 := IntWalk.i64_in _ (by omega)
      have HROW := Lib.hid hrow
      have HK := Lib.hid hk
      clear hbl hxs hrow hk
      go_wp2_with fail
      refine (HJ.out _).mono ?_
      rintro e w2 ⟨rfl, hb2⟩
      have hrow := HROW.out.kept (gb_below hb2 none) (by cases u7.ownBlock <;> simp)
      have HB2 := Lib.hid (HBL.out.trans (hb2.mono HBL.out.size))
      have HROW2 := Lib.hid hrow
      clear hb2 c0 c1
      go_wp2_with (
        (at_builtin
         refine wpList_append_own _ rfl _ _ 55 rfl w1.heap.size 26 i0 (.string ⟨#[]⟩) 1 16 Tryz.underlying55 hi hz0 hz1 hz2 rfl (by decide) _ j xs rfl (hrow.alloc _) ⟨w2.heap.size, 0, none⟩ 1 1 [.string (rt (pa N C lot j))] rfl rfl (one_new _ _ (by first | rfl | simp) _ _) (one_cells _ rfl) (by unfold maxLen; omega) (by omega) (Nat.le_trans HB2.out.size (by simp)) ?_
         intro v3 w3 hown3 hgrow3 _
         have HB3 := Lib.hid (below_app HB2.out HB2.out.size HROW2.out hgrow3)
         have HOW := Lib.hid hown3
         clear hown3 hgrow3 hrow))
      go_wp2
      go_roundg (gk - 1)
      case rel => exact ⟨j + 1, by simp, by have := HK.out; omega, by rw [HFJ.out]; exact HOW.out, HB3.out⟩
      case measure => have := HK.out; omega
end Go.Proofs.YtfebiipggcgmdaaGreatDoor
