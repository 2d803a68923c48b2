import Derived.Test.YtfebiipggcgmdaaGreatDoorS9
namespace Go.Proofs.YtfebiipggcgmdaaGreatDoor
open Go.RowKit Go.Shelf

set_option maxRecDepth 100000 in
set_option maxHeartbeats 6400000 in
theorem curves_core (N C lot z a : Int) (fw : Bool) (s : ByteArray) (P Q : World → Value → Prop) (w : World) (he : Env w) (hfw : fw = true ∨ fw = false ∧ 256 < lot)
    (hF : ∀ w, Calls Tryz.prog 11 #[pl N C, .int .i64 lot] w fun e w' => e = .returned (.bool fw) ∧ Below w.heap.size w w')
    (hC : ∀ w, Env w → Calls Tryz.prog 30 #[pl N C, .int .i64 lot] w fun e w' => ∃ v, e = .returned (.tuple #[v, .int .i64 z]) ∧ P w' v ∧ Below w.heap.size w w')
    (hD : ∀ w, Calls Tryz.prog 39 #[pl N C, .int .i64 lot] w fun e w' => ∃ v, e = .returned (.tuple #[v, .int .i64 z]) ∧ Q w' v ∧ Below w.heap.size w w')
    (hW : ∀ w, Env w → Calls Tryz.prog 38 #[pl N C, .int .i64 lot] w fun e w' => e = .returned (.tuple #[.int .i64 a, .string s, .int .i64 z]) ∧ Below w.heap.size w w')
    (hV : ∀ w, Calls Tryz.prog 40 #[pl N C, .int .i64 lot] w fun e w' => e = .returned (.tuple #[.int .i64 a, .string s, .int .i64 z]) ∧ Below w.heap.size w w')
    (hP : ∀ w w' v, P w v → Below w.heap.size w w' → P w' v) (hQ : ∀ w w' v, Q w v → Below w.heap.size w w' → Q w' v)
    (hS : ∀ w v u, P w v → Q w u → Calls Tryz.prog 41 #[v, u] w fun e w' => e = .returned (.bool true) ∧ Below w.heap.size w w') :
    Calls Tryz.prog 10 #[pl N C, .int .i64 lot] w fun e w' => e = .returned (.bool true) ∧ Below w.heap.size w w' := by
  have HE := Lib.hid he
  have HF := Lib.hid hF
  have HC := Lib.hid hC
  have HD := Lib.hid hD
  have HW := Lib.hid hW
  have HV := Lib.hid hV
  have HPP := Lib.hid hP
  have HQQ := Lib.hid hQ
  have HS := Lib.hid hS
  have HSE := Lib.hid (fun w => sent_any N C w)
  have HP0 := Lib.hid (IsP.new w (.int .i64 N) (.int .i64 C) 23)
  have HB0 := Lib.hid ((Below.refl w.heap.size w).alloc (Nat.le_refl _) (.cells #[.int .i64 N, .int .i64 C] 23))
  obtain ⟨c0, c1, -⟩ := HP0.out
  unfold pl at HF HC HD HW HV HSE ⊢
  clear he hF hC hD hW hV hP hQ hS
  rcases hfw with rfl | ⟨rfl, hl⟩
  all_goals go_enter Tryz.func10, Tryz.ntmps10
  all_goals go_wp2_with fail
  all_goals refine (HF.out _).mono ?_
  all_goals rintro e w1 ⟨rfl, hb1⟩
  all_goals have HQ1 := Lib.hid (HB0.out.trans (hb1.mono HB0.out.size))
  all_goals have HP1 := Lib.hid (HP0.out.below hb1)
  all_goals clear hb1 c0 c1
  all_goals obtain ⟨c0, c1, -⟩ := HP1.out
  all_goals go_wp2_with fail
  all_goals refine (HSE.out _).mono ?_
  all_goals rintro e w2 ⟨rfl, hb2⟩
  all_goals have HQ2 := Lib.hid (HQ1.out.trans (hb2.mono HQ1.out.size))
  all_goals have HP2 := Lib.hid (HP1.out.below hb2)
  all_goals clear hb2 c0 c1
  all_goals obtain ⟨c0, c1, -⟩ := HP2.out
  all_goals go_wp2_with fail
  all_goals refine (HC.out _ (HE.out.below HQ2.out)).mono ?_
  all_goals rintro e w3 ⟨v, rfl, hp3, hb3⟩
  all_goals have HV3 := Lib.hid hp3
  all_goals have HQ3 := Lib.hid (HQ2.out.trans (hb3.mono HQ2.out.size))
  all_goals have HP3 := Lib.hid (HP2.out.below hb3)
  all_goals clear hb3 hp3 c0 c1
  all_goals obtain ⟨c0, c1, -⟩ := HP3.out
  all_goals go_wp2_with fail
  all_goals refine (HD.out _).mono ?_
  all_goals rintro e w4 ⟨u, rfl, hq4, hb4⟩
  all_goals have HU4 := Lib.hid hq4
  all_goals have HV4 := Lib.hid (HPP.out _ _ _ HV3.out hb4)
  all_goals have HQ4 := Lib.hid (HQ3.out.trans (hb4.mono HQ3.out.size))
  all_goals have HP4 := Lib.hid (HP3.out.below hb4)
  all_goals clear hb4 hq4 c0 c1
  all_goals obtain ⟨c0, c1, -⟩ := HP4.out
  all_goals go_wp2_with fail
  all_goals refine (HSE.out _).mono ?_
  all_goals rintro e w5 ⟨rfl, hb5⟩
  all_goals have HU5 := Lib.hid (HQQ.out _ _ _ HU4.out hb5)
  all_goals have HV5 := Lib.hid (HPP.out _ _ _ HV4.out hb5)
  all_goals have HQ5 := Lib.hid (HQ4.out.trans (hb5.mono HQ4.out.size))
  all_goals have HP5 := Lib.hid (HP4.out.below hb5)
  all_goals clear hb5 c0 c1
  all_goals obtain ⟨c0, c1, -⟩ := HP5.out
  all_goals go_wp2_with fail
  all_goals refine (HW.out _ (HE.out.below HQ5.out)).mono ?_
  all_goals rintro e w6 ⟨rfl, hb6⟩
  all_goals have HU6 := Lib.hid (HQQ.out _ _ _ HU5.out hb6)
  all_goals have HV6 := Lib.hid (HPP.out _ _ _ HV5.out hb6)
  all_goals have HQ6 := Lib.hid (HQ5.out.trans (hb6.mono HQ5.out.size))
  all_goals have HP6 := Lib.hid (HP5.out.below hb6)
  all_goals clear hb6 c0 c1
  all_goals obtain ⟨c0, c1, -⟩ := HP6.out
  all_goals go_wp2_with fail
  all_goals refine (HV.out _).mono ?_
  all_goals rintro e w7 ⟨rfl, hb7⟩
  all_goals have HU7 := Lib.hid (HQQ.out _ _ _ HU6.out hb7)
  all_goals have HV7 := Lib.hid (HPP.out _ _ _ HV6.out hb7)
  all_goals have HQ7 := Lib.hid (HQ6.out.trans (hb7.mono HQ6.out.size))
  all_goals clear hb7 c0 c1
  all_goals go_wp2_with fail
  all_goals refine (awake_any _ (HE.out.below HQ7.out)).mono ?_
  all_goals rintro e w8 ⟨rfl, hb8⟩
  all_goals have HU8 := Lib.hid (HQQ.out _ _ _ HU7.out hb8)
  all_goals have HV8 := Lib.hid (HPP.out _ _ _ HV7.out hb8)
  all_goals have HQ8 := Lib.hid (HQ7.out.trans (hb8.mono HQ7.out.size))
  all_goals clear hb8
  all_goals go_wp2_with fail
  all_goals refine (HS.out _ _ _ HV8.out HU8.out).mono ?_
  all_goals rintro e w9 ⟨rfl, hb9⟩
  all_goals have HQ9 := Lib.hid (HQ8.out.trans (hb9.mono HQ8.out.size))
  all_goals clear hb9
  all_goals go_wp2
  all_goals go_ret
  all_goals exact ⟨rfl, HQ9.out⟩

set_option maxRecDepth 100000 in
set_option maxHeartbeats 1600000 in
theorem curves_rest (N C lot : Int) (w : World) (he : Env w) (h : ¬ (lot ≤ 9 ∨ szP N C lot ≠ 0)) (hl : lot ≤ 256) :
    Calls Tryz.prog 10 #[pl N C, .int .i64 lot] w fun e w' => e = .returned (.bool true) ∧ Below w.heap.size w w' := by
  have HE := Lib.hid he
  have HR := Lib.hid (fun w => few_any N C lot w)
  rw [decide_eq_false h] at HR
  have HP0 := Lib.hid (IsP.new w (.int .i64 N) (.int .i64 C) 23)
  have HB0 := Lib.hid ((Below.refl w.heap.size w).alloc (Nat.le_refl _) (.cells #[.int .i64 N, .int .i64 C] 23))
  obtain ⟨c0, c1, -⟩ := HP0.out
  unfold pl at HR ⊢
  clear h he
  go_enter Tryz.func10, Tryz.ntmps10
  go_wp2_with fail
  refine (HR.out _).mono ?_
  rintro e w1 ⟨rfl, hb1⟩
  have HQ1 := Lib.hid (HB0.out.trans (hb1.mono HB0.out.size))
  clear hb1
  go_wp2_with fail
  refine (awake_any _ (HE.out.below HQ1.out)).mono ?_
  rintro e wd ⟨rfl, hbd⟩
  have HQD := Lib.hid (HQ1.out.trans (hbd.mono HQ1.out.size))
  clear hbd
  go_wp2
  go_ret
  exact ⟨rfl, HQD.out⟩

/-- PlanCurves answers true at every input. -/
theorem curves_any (N C lot : Int) (w : World) (he : Env w) :
    Calls Tryz.prog 10 #[pl N C, .int .i64 lot] w fun e w' => e = .returned (.bool true) ∧ Below w.heap.size w w' := by
  have hz := szP_two N C lot
  have hbad : ∀ fw, (fw = true ∨ fw = false ∧ 256 < lot) → (∀ w, Calls Tryz.prog 11 #[pl N C, .int .i64 lot] w fun e w' => e = .returned (.bool fw) ∧ Below w.heap.size w w') → lsP N C lot ≠ 0 →
      Calls Tryz.prog 10 #[pl N C, .int .i64 lot] w fun e w' => e = .returned (.bool true) ∧ Below w.heap.size w w' := fun fw h1 h2 h3 =>
    curves_core N C lot (lsP N C lot) 0 fw ⟨#[]⟩ (fun _ v => v = .slice none 0 0) (fun _ v => v = .slice none 0 0) w he h1 h2
      (fun w _ => (curve_bad N C lot w h3).mono fun e w' h => ⟨_, h.1, rfl, h.2⟩) (fun w => (rCurve_bad N C lot w h3).mono fun e w' h => ⟨_, h.1, rfl, h.2⟩)
      (fun w _ => worst_bad N C lot w h3) (fun w => rWorst_bad N C lot w h3) (fun _ _ _ h _ => h) (fun _ _ _ h _ => h)
      (fun w v u hv hu => by subst hv; subst hu; exact same_nil w)
  by_cases hs : szP N C lot = 0
  · have hr := hz.resolve_left (by omega)
    by_cases h9 : lot ≤ 9
    · obtain ⟨n, rfl⟩ := Int.eq_ofNat_of_zero_le (show 0 ≤ N by omega)
      obtain ⟨c, rfl⟩ := Int.eq_ofNat_of_zero_le (show 0 ≤ C by omega)
      obtain ⟨l, rfl⟩ := Int.eq_ofNat_of_zero_le (show 0 ≤ lot by omega)
      have h1 : 1 ≤ n := by omega
      have h2 : c ≤ n := by omega
      have h3 : n ≤ l := by omega
      have h4 : l ≤ 9 := by omega
      have hf := fun w => few_any n c l w
      rw [decide_eq_true (show (l : Int) ≤ 9 ∨ szP n c l ≠ 0 from .inl h9)] at hf
      refine curves_core n c l 0 _ true _ (fun w v => ∃ g cap, v = .slice (some ⟨g, 0, none⟩) (l + 1) cap ∧ IsR w g (l + 1) (fun j => rt (pa n c l j))) (fun w v => ∃ g cap, v = .slice (some ⟨g, 0, none⟩) (l + 1) cap ∧ IsR w g (l + 1) (fun j => rt (pa n c l j))) w he (.inl rfl) hf
        (fun w he => (curve_ok n c l w h1 h2 h3 (by omega) he).mono fun e w' h => ?_) (fun w => (rCurve_ok n c l w h1 h2 h3 h4).mono fun e w' h => ?_)
        (fun w he => worst_core n c l w h1 h2 h3 (by omega) he) (fun w => rWorst_ok n c l w h1 h2 h3 h4) ?_ ?_ ?_
      · obtain ⟨g, cap, h5, h6, h7⟩ := h
        exact ⟨_, h5, ⟨g, cap, rfl, h6⟩, h7⟩
      · obtain ⟨g, cap, h5, h6, h7⟩ := h
        exact ⟨_, h5, ⟨g, cap, rfl, h6⟩, h7⟩
      · rintro w w' v ⟨g, cap, rfl, h⟩ hb
        exact ⟨g, cap, rfl, h.below hb⟩
      · rintro w w' v ⟨g, cap, rfl, h⟩ hb
        exact ⟨g, cap, rfl, h.below hb⟩
      · rintro w v u ⟨g, cap, rfl, h⟩ ⟨g2, cap2, rfl, h2⟩
        exact same_rows g g2 (l + 1) cap cap2 _ w (by omega) h h2
    · by_cases hl : lot ≤ 256
      · exact curves_rest N C lot w he (by omega) hl
      · have hf := fun w => few_any N C lot w
        rw [decide_eq_false (show ¬ (lot ≤ 9 ∨ szP N C lot ≠ 0) by omega)] at hf
        exact hbad false (.inr ⟨rfl, by omega⟩) hf (by unfold lsP; rw [if_pos hs, if_neg hl]; decide)
  · have hf := fun w => few_any N C lot w
    rw [decide_eq_true (show lot ≤ 9 ∨ szP N C lot ≠ 0 from .inr hs)] at hf
    exact hbad true (.inl rfl) hf (by unfold lsP; rw [if_neg hs]; decide)
end Go.Proofs.YtfebiipggcgmdaaGreatDoor
