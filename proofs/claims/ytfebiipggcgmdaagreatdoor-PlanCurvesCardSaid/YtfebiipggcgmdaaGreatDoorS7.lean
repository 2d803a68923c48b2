import Derived.Test.YtfebiipggcgmdaaGreatDoorS6
namespace Go.Proofs.YtfebiipggcgmdaaGreatDoor
open Go.RowKit Go.Shelf

set_option maxRecDepth 100000 in
set_option maxHeartbeats 6400000 in
theorem falls_core (N C D lot : Nat) (f1 f2 : Nat → ByteArray) (w : World) (he : Env w) (hL : lot ≤ 40) (hN : N ≤ lot) (hC : C ≤ N) (hD : min (C + 1) N = D)
    (hf : f1 0 = ⟨#[49]⟩)
    (hR : ∀ w, Calls Tryz.prog 23 #[pl N C, .int .i64 lot] w fun e w' => e = .returned (.bool true) ∧ Below w.heap.size w w')
    (hC1 : ∀ w, Env w → Calls Tryz.prog 30 #[pl N C, .int .i64 lot] w fun e w' => ∃ g cap, e = .returned (.tuple #[.slice (some ⟨g, 0, none⟩) (lot + 1) cap, .int .i64 0]) ∧ IsR w' g (lot + 1) f1 ∧ Below w.heap.size w w')
    (hC2 : ∀ w, Env w → Calls Tryz.prog 30 #[pl N D, .int .i64 lot] w fun e w' => ∃ g cap, e = .returned (.tuple #[.slice (some ⟨g, 0, none⟩) (lot + 1) cap, .int .i64 0]) ∧ IsR w' g (lot + 1) f2 ∧ Below w.heap.size w w')
    (hC3 : ∀ w, Env w → Calls Tryz.prog 30 #[pl N N, .int .i64 lot] w fun e w' => ∃ g cap, e = .returned (.tuple #[.slice (some ⟨g, 0, none⟩) (lot + 1) cap, .int .i64 0]) ∧ IsR w' g (lot + 1) (fun _ => ⟨#[49]⟩) ∧ Below w.heap.size w w')
    (hX : ∀ j, j ≤ lot → ∃ x : Int, x ≤ 0 ∧ ∀ w, Env w → Calls Tryz.prog 31 #[.string (f1 j), .string (f2 j)] w (NumEnd x w))
    (hY : ∀ j, j < lot → ∃ x : Int, 0 ≤ x ∧ ∀ w, Env w → Calls Tryz.prog 31 #[.string (f1 j), .string (f1 (j + 1))] w (NumEnd x w)) :
    Calls Tryz.prog 7 #[pl N C, .int .i64 lot] w fun e w' => e = .returned (.bool true) ∧ Below w.heap.size w w' := by
  have HE := Lib.hid he
  have HR := Lib.hid hR
  have HC1 := Lib.hid hC1
  have HC2 := Lib.hid hC2
  have HC3 := Lib.hid hC3
  have HX := Lib.hid hX
  have HY := Lib.hid hY
  have HF := Lib.hid hf
  have HSE := Lib.hid (fun w => sent_any N C w)
  have e1 : IntKind.i64.wrap ((lot : Int) + 1) = (lot : Int) + 1 := IntWalk.i64_in _ (by omega)
  have e2 : IntKind.i64.wrap ((C : Int) + 1) = (C : Int) + 1 := IntWalk.i64_in _ (by omega)
  have hmi : min ((C : Int) + 1) (N : Int) = D := by omega
  have HP0 := Lib.hid (IsP.new w (.int .i64 N) (.int .i64 C) 23)
  have HB0 := Lib.hid ((Below.refl w.heap.size w).alloc (Nat.le_refl _) (.cells #[.int .i64 N, .int .i64 C] 23))
  obtain ⟨c0, c1, -⟩ := HP0.out
  unfold pl at HR HC1 HC2 HC3 HSE ⊢
  clear he hR hC1 hC2 hC3 hX hY hf hN hC hD
  go_enter Tryz.func7, Tryz.ntmps7
  go_wp2_with fail
  refine (HR.out _).mono ?_
  rintro e w1 ⟨rfl, hb1⟩
  have HQ1 := Lib.hid (HB0.out.trans (hb1.mono HB0.out.size))
  have HP1 := Lib.hid (HP0.out.below hb1)
  clear hb1 c0 c1
  obtain ⟨c0, c1, -⟩ := HP1.out
  go_wp2_with fail
  refine (HSE.out _).mono ?_
  rintro e w2 ⟨rfl, hb2⟩
  have HQ2 := Lib.hid (HQ1.out.trans (hb2.mono HQ1.out.size))
  have HP2 := Lib.hid (HP1.out.below hb2)
  clear hb2 c0 c1
  obtain ⟨c0, c1, -⟩ := HP2.out
  go_wp2_with fail
  refine (HC1.out _ (HE.out.below HQ2.out)).mono ?_
  rintro e w3 ⟨g1, cap1, rfl, hr1, hb3⟩
  have HQ3 := Lib.hid (HQ2.out.trans (hb3.mono HQ2.out.size))
  have HP3 := Lib.hid (HP2.out.below hb3)
  have HL3 := Lib.hid hr1
  clear hb3 c0 c1 hr1
  obtain ⟨c0, c1, -⟩ := HP3.out
  go_wp2_with fail
  refine (HC2.out _ (HE.out.below HQ3.out)).mono ?_
  rintro e w4 ⟨g2, cap2, rfl, hr2, hb4⟩
  have HQ4 := Lib.hid (HQ3.out.trans (hb4.mono HQ3.out.size))
  have HP4 := Lib.hid (HP3.out.below hb4)
  have HL4 := Lib.hid (HL3.out.below hb4)
  have HM4 := Lib.hid hr2
  clear hb4 c0 c1 hr2
  obtain ⟨c0, c1, -⟩ := HP4.out
  go_wp2_with fail
  refine (HC3.out _ (HE.out.below HQ4.out)).mono ?_
  rintro e w5 ⟨g3, cap3, rfl, hr3, hb5⟩
  have HQ5 := Lib.hid (HQ4.out.trans (hb5.mono HQ4.out.size))
  have HL5 := Lib.hid (HL4.out.below hb5)
  have HM5 := Lib.hid (HM4.out.below hb5)
  have HA5 := Lib.hid hr3
  clear hb5 c0 c1 hr3
  have d0 := HL5.out.cell 0 (by omega)
  rw [HF.out] at d0
  go_wp2
  clear d0
  go_loopg [87] (lot + 1) (fun k i wr => ∃ j : Nat, i = .int .i64 j ∧ j + k = lot + 1 ∧ Below w5.heap.size w5 wr)
  case atStart => exact ⟨0, rfl, by omega, Below.refl _ _⟩
  case round =>
    obtain ⟨j, rfl, hk, hbl⟩ := hrel
    have HBL := Lib.hid hbl
    have HQL := Lib.hid (HQ5.out.trans (hbl.mono HQ5.out.size))
    clear hbl
    by_cases hz : gk = 0
    · obtain rfl : j = lot + 1 := by omega
      go_wp2_with fail
      refine (awake_any _ (HE.out.below HQL.out)).mono ?_
      rintro e w7 ⟨rfl, hb7⟩
      have HQ7 := Lib.hid (HQL.out.trans (hb7.mono HQL.out.size))
      clear hb7
      go_wp2
      go_ret
      exact ⟨rfl, HQ7.out⟩
    · have hj : j < lot + 1 := by omega
      have hji : (j : Int) < (lot : Int) + 1 := by omega
      have HLR := Lib.hid (HL5.out.below HBL.out)
      have HMR := Lib.hid (HM5.out.below HBL.out)
      have HAR := Lib.hid (HA5.out.below HBL.out)
      have a1 := HLR.out.cell j hj
      have a2 := HMR.out.cell j hj
      obtain ⟨x, hx0, hx⟩ := HX.out j (by omega)
      have HXC := Lib.hid hx
      have e3 : IntKind.i64.wrap ((j : Int) + 1) = (j : Int) + 1 := IntWalk.i64_in _ (by omega)
      have hx1 : ¬ (0 < x) := by omega
      have HBW := Lib.hid (fun m => below_drewN HQL.out m)
      have HBX := Lib.hid (fun m => below_drewN HBL.out m)
      clear hx
      by_cases hj0 : j = 0
      · have hjz : ¬ (0 : Int) < j := by omega
        have HJ := Lib.hid hk
        clear hj0 hk hj
        go_wp2
        go_region_with (
          (go_at_call 31
           refine (HXC.out _ (HE.out.below (HBW.out _))).mono ?_
           rintro e w6 ⟨rfl, hb6⟩
           have HB6 := Lib.hid ((HBX.out _).trans (hb6.mono (HBX.out _).size))
           clear hb6))
        all_goals clear a1 a2
        all_goals have a3 := (HA5.out.below HB6.out).cell j (by have := HJ.out; omega)
        all_goals go_wp2
        all_goals go_roundg (gk - 1)
        all_goals first
          | exact ⟨j + 1, by simp, by have := HJ.out; omega, HB6.out⟩
          | omega
      · obtain ⟨i, hi⟩ : ∃ i, i + 1 = j := ⟨j - 1, by omega⟩
        have hjz : (0 : Int) < j := by omega
        have hii : (i : Int) < (lot : Int) + 1 := by omega
        have e4 : IntKind.i64.wrap ((j : Int) - 1) = (i : Int) := by rw [IntWalk.i64_in _ (by omega)]; omega
        obtain ⟨y, hy0, hy⟩ := HY.out i (by omega)
        rw [hi] at hy
        have HYC := Lib.hid hy
        have hy1 : ¬ (y < 0) := by omega
        have HJ := Lib.hid (And.intro hk hi)
        clear hj0 hk hj hi hy
        go_wp2
        go_region_with (
          (go_at_call 31
           refine (HXC.out _ (HE.out.below (HBW.out _))).mono ?_
           rintro e w6 ⟨rfl, hb6⟩
           have HB6 := Lib.hid ((HBX.out _).trans (hb6.mono (HBX.out _).size))
           clear hb6))
        all_goals clear a1 a2
        all_goals have a3 := (HA5.out.below HB6.out).cell j (by have := HJ.out; omega)
        all_goals have HL6 := Lib.hid (HL5.out.below HB6.out)
        all_goals have a4 := HL6.out.cell i (by have := HJ.out; omega)
        all_goals have a1 := HL6.out.cell j (by have := HJ.out; omega)
        all_goals have HQ6 := Lib.hid (HQ5.out.trans (HB6.out.mono HQ5.out.size))
        all_goals have HBV := Lib.hid (fun m => below_drewN HQ6.out m)
        all_goals have HBY := Lib.hid (fun m => below_drewN HB6.out m)
        all_goals go_wp2
        all_goals go_region_with (
          (go_at_call 31
           refine (HYC.out _ (HE.out.below (HBV.out _))).mono ?_
           rintro e w7 ⟨rfl, hb7⟩
           have HB7 := Lib.hid ((HBY.out _).trans (hb7.mono (HBY.out _).size))
           clear hb7))
        all_goals clear a1 a3 a4
        all_goals go_wp2
        all_goals go_roundg (gk - 1)
        all_goals first
          | exact ⟨j + 1, by simp, by have := HJ.out; omega, HB7.out⟩
          | omega
end Go.Proofs.YtfebiipggcgmdaaGreatDoor
