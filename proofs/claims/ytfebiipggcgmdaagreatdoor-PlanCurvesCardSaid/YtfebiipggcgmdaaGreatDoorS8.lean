import Derived.Test.YtfebiipggcgmdaaGreatDoorS7
namespace Go.Proofs.YtfebiipggcgmdaaGreatDoor
open Go.RowKit Go.Shelf

set_option maxRecDepth 100000 in
set_option maxHeartbeats 1600000 in
theorem falls_rest (N C lot : Int) (w : World) (he : Env w) (h : ¬ (lot ≤ 40 ∧ szP N C lot = 0)) :
    Calls Tryz.prog 7 #[pl N C, .int .i64 lot] w fun e w' => e = .returned (.bool true) ∧ Below w.heap.size w w' := by
  have HE := Lib.hid he
  have HR := Lib.hid (fun w => right_any N C lot w)
  rw [decide_eq_false h] at HR
  have HP0 := Lib.hid (IsP.new w (.int .i64 N) (.int .i64 C) 23)
  have HB0 := Lib.hid ((Below.refl w.heap.size w).alloc (Nat.le_refl _) (.cells #[.int .i64 N, .int .i64 C] 23))
  obtain ⟨c0, c1, -⟩ := HP0.out
  unfold pl at HR ⊢
  clear h he
  go_enter Tryz.func7, Tryz.ntmps7
  go_wp2_with fail
  refine (HR.out _).mono ?_
  rintro e w1 ⟨rfl, hb1⟩
  have HQ1 := Lib.hid (HB0.out.trans (hb1.mono HB0.out.size))
  clear hb1
  go_wp2_with fail
  refine (awake_any _ (HE.out.below HQ1.out)).mono ?_
  rintro e wd ⟨rfl, hbd⟩
  have HQD := Lib.hid (HQ1.out.trans (hbd.mono HQ1.out.size))
  clear hbd
  go_wp2
  go_ret
  exact ⟨rfl, HQD.out⟩

theorem falls_main (N C lot : Nat) (w : World) (he : Env w) (hN : 1 ≤ N) (hC : C ≤ N) (hNL : N ≤ lot) (hL : lot ≤ 40) :
    Calls Tryz.prog 7 #[pl N C, .int .i64 lot] w fun e w' => e = .returned (.bool true) ∧ Below w.heap.size w w' := by
  have hr : szP N C lot = 0 := by
    have h1 := chkP_ok hN (show N ≤ 256 by omega) hC
    unfold szP; rw [h1, if_pos (by omega)]
  have hL2 : lot ≤ 256 := by omega
  have o1 : rt 1 = ⟨#[49]⟩ := rt_one
  refine falls_core N C (min (C + 1) N) lot (fun j => rt (pa N C lot j)) (fun j => rt (pa N (min (C + 1) N) lot j)) w he hL hNL hC rfl (by show rt _ = _; rw [pa_zero hNL]; exact o1) ?_ ?_ ?_ ?_ ?_ ?_
  · intro w
    have h := right_any N C lot w
    rw [decide_eq_true (show (lot : Int) ≤ 40 ∧ szP N C lot = 0 from ⟨by omega, hr⟩)] at h
    exact h
  · exact fun w he => curve_ok N C lot w hN hC hNL hL2 he
  · exact fun w he => curve_ok N (min (C + 1) N) lot w hN (Nat.min_le_right _ _) hNL hL2 he
  · intro w he
    refine (curve_ok N N lot w hN (Nat.le_refl _) hNL hL2 he).mono ?_
    rintro e w' ⟨g, cap, rfl, hr, hb⟩
    refine ⟨g, cap, rfl, ⟨fun j hj => ?_, hr.lt⟩, hb⟩
    have h := hr.cell j hj
    rw [pa_all hNL (by omega), o1] at h
    exact h
  · intro j hj
    obtain ⟨x, -, h2, -, hx⟩ := cmp_any (pa N C lot j) (pa N (min (C + 1) N) lot j) (sm_good hC hNL hj hL2) (sm_good (Nat.min_le_right _ _) hNL hj hL2)
    exact ⟨x, h2.2 (pa_up hNL (Nat.le_min.2 ⟨by omega, hC⟩)), hx⟩
  · intro j hj
    obtain ⟨x, h2, -, -, hx⟩ := cmp_any (pa N C lot j) (pa N C lot (j + 1)) (sm_good hC hNL (Nat.le_of_lt hj) hL2) (sm_good hC hNL hj hL2)
    exact ⟨x, h2.2 (pa_down hNL hC hj), hx⟩

/-- PlanFalls answers true at every input. -/
theorem falls_any (N C lot : Int) (w : World) (he : Env w) :
    Calls Tryz.prog 7 #[pl N C, .int .i64 lot] w fun e w' => e = .returned (.bool true) ∧ Below w.heap.size w w' := by
  by_cases h : lot ≤ 40 ∧ szP N C lot = 0
  · have hz := szP_two N C lot
    obtain ⟨n, rfl⟩ := Int.eq_ofNat_of_zero_le (show 0 ≤ N by omega)
    obtain ⟨c, rfl⟩ := Int.eq_ofNat_of_zero_le (show 0 ≤ C by omega)
    obtain ⟨l, rfl⟩ := Int.eq_ofNat_of_zero_le (show 0 ≤ lot by omega)
    exact falls_main n c l w he (by omega) (by omega) (by omega) (by omega)
  · exact falls_rest N C lot w he h
end Go.Proofs.YtfebiipggcgmdaaGreatDoor
