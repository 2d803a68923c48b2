import Derived.Test.YtfebiipggcgmdaaGreatDoorL1
import Derived.Test.YtfebiipggcgmdaaGreatDoorR1
import Derived.BigRegion
namespace Go.Proofs.YtfebiipggcgmdaaGreatDoor
open Go.RowKit

/-! ## PlanOpposites: the plain law -/
theorem mk_parts {k lot : Nat} (hl : 0 < lot) (hk : k ≤ lot) : ∃ a b d : Nat, (mkRat (k : Int) lot).num = (a : Int) ∧ (mkRat (k : Int) lot).den = d ∧ (mkRat ((lot - k : Nat) : Int) lot).num = (b : Int) ∧ (mkRat ((lot - k : Nat) : Int) lot).den = d ∧ a + b = d ∧ 0 < d ∧ d ≤ lot := by
  have hg : Nat.gcd lot (lot - k) = Nat.gcd lot k := by
    have h1 : Nat.gcd lot (lot - k) = Nat.gcd lot k := by
      have e : lot = (lot - k) + k := by omega
      apply Nat.dvd_antisymm
      · refine Nat.dvd_gcd (Nat.gcd_dvd_left _ _) ?_
        have h2 := Nat.dvd_sub (Nat.gcd_dvd_left lot (lot - k)) (Nat.gcd_dvd_right lot (lot - k))
        rwa [show lot - (lot - k) = k by omega] at h2
      · exact Nat.dvd_gcd (Nat.gcd_dvd_left _ _) (Nat.dvd_sub (Nat.gcd_dvd_left lot k) (Nat.gcd_dvd_right lot k))
    exact h1
  obtain ⟨g, hgg⟩ : ∃ g, Nat.gcd lot k = g := ⟨_, rfl⟩
  have g0 : 0 < g := by rw [← hgg]; exact Nat.gcd_pos_of_pos_left _ hl
  obtain ⟨a, ha⟩ : g ∣ k := by rw [← hgg]; exact Nat.gcd_dvd_right lot k
  obtain ⟨d, hd⟩ : g ∣ lot := by rw [← hgg]; exact Nat.gcd_dvd_left lot k
  have had : a ≤ d := by
    rw [ha, hd] at hk
    exact Nat.le_of_mul_le_mul_left hk g0
  have hb : lot - k = g * (d - a) := by rw [ha, hd, Nat.mul_sub]
  have hd0 : 0 < d := Nat.pos_of_ne_zero fun e => by subst e; omega
  refine ⟨a, d - a, d, ?_, ?_, ?_, ?_, by omega, hd0, by rw [hd]; exact Nat.le_mul_of_pos_left d g0⟩
  · rw [Rat.num_mkRat, if_neg (by omega), Int.natAbs_natCast, hgg, ha, ← Int.natCast_ediv, Nat.mul_div_cancel_left _ g0]
  · rw [Rat.den_mkRat, if_neg (by omega), Int.natAbs_natCast, hgg, hd, Nat.mul_div_cancel_left _ g0]
  · rw [Rat.num_mkRat, if_neg (by omega), Int.natAbs_natCast, hg, hgg, hb, ← Int.natCast_ediv, Nat.mul_div_cancel_left _ g0]
  · rw [Rat.den_mkRat, if_neg (by omega), Int.natAbs_natCast, hg, hgg, hd, Nat.mul_div_cancel_left _ g0]

theorem pow40 {d N : Nat} (hd : d ≤ 40) (h0 : 0 < d) (hN : N ≤ 40) : d ^ N < P500 := by
  have h1 : d ^ N ≤ 64 ^ 40 := pw_le (by omega) (by decide) hN
  have h2 : (64 : Nat) ^ 40 ≤ TT := by
    have e : (64 : Nat) = 2 ^ 6 := by decide
    obtain ⟨m, hm⟩ : ∃ m, m = 40 := ⟨_, rfl⟩
    rw [← hm, e, ← Nat.pow_mul]
    exact Nat.pow_le_pow_right (by decide) (by rw [E256_eq]; omega)
  exact lt_T1 (Nat.le_trans h1 h2)

theorem add_one {a b n : Nat} (hn : 0 < n) (h : a + b = n) : mkRat (a : Int) n + mkRat (b : Int) n = 1 := by
  rw [mkRat_add_same _ _ hn, ← Int.natCast_add, h]
  exact mkRat_one hn

/-- a plan in a box -/
structure IsP (w : World) (g : Nat) (N C : Value) : Prop where
  n : w.cell? ⟨g, 0, none⟩ = some N
  c : w.cell? ⟨g, 1, none⟩ = some C
  l : g < w.heap.size
theorem IsP.below {w w' : World} {g : Nat} {N C : Value} (h : IsP w g N C) (hb : Below w.heap.size w w') : IsP w' g N C :=
  ⟨(hb.cell (p := ⟨g, 0, none⟩) h.l).trans h.n, (hb.cell (p := ⟨g, 1, none⟩) h.l).trans h.c, Nat.lt_of_lt_of_le h.l hb.size⟩
theorem IsP.new (w : World) (N C : Value) (t : TypeId) : IsP (w.alloc (.cells #[N, C] t)) w.heap.size N C :=
  ⟨(two_cells w N C t).1, (two_cells w N C t).2, by simp⟩
end Go.Proofs.YtfebiipggcgmdaaGreatDoor

namespace Go.Proofs.YtfebiipggcgmdaaGreatDoor
open Go.RowKit

set_option maxRecDepth 100000 in
set_option maxHeartbeats 6400000 in
theorem opp_core (N C lot k bad : Nat) (s1 s2 s3 s4 s5 s6 : ByteArray) (w : World) (he : Env w) (hN : 1 ≤ N) (hC : C < N) (hNL : N ≤ lot) (hL : lot ≤ 40) (hbad : bad ≤ 255) (hk : bad % (lot + 1) = k)
    (hR : ∀ w, Calls Tryz.prog 23 #[pl N C, .int .i64 lot] w fun e w' => e = .returned (.bool true) ∧ Below w.heap.size w w')
    (hA1 : ∀ w, Env w → Calls Tryz.prog 13 #[pl N C, .int .i64 lot, .int .i64 k] w (TxtEnd s1 w))
    (hA2 : ∀ w, Env w → Calls Tryz.prog 13 #[pl N ((N : Int) - C - 1), .int .i64 lot, .int .i64 ((lot : Int) - k)] w (TxtEnd s2 w))
    (hS1 : ∀ w, Env w → Calls Tryz.prog 24 #[.string s1, .string s2] w (TxtEnd ⟨#[49]⟩ w))
    (hO1 : ∀ w, Calls Tryz.prog 26 #[.int .i64 k, .int .i64 lot] w fun e w' => e = .returned (.string s3) ∧ Below w.heap.size w w')
    (hO2 : ∀ w, Calls Tryz.prog 26 #[.int .i64 ((lot : Int) - k), .int .i64 lot] w fun e w' => e = .returned (.string s4) ∧ Below w.heap.size w w')
    (hB1 : ∀ w, Env w → Calls Tryz.prog 25 #[pl N C, .string s3] w (TxtEnd s5 w))
    (hB2 : ∀ w, Env w → Calls Tryz.prog 25 #[pl N ((N : Int) - C - 1), .string s4] w (TxtEnd s6 w))
    (hS2 : ∀ w, Env w → Calls Tryz.prog 24 #[.string s5, .string s6] w (TxtEnd ⟨#[49]⟩ w)) :
    Calls Tryz.prog 5 #[pl N C, .int .i64 lot, .int .u8 bad] w fun e w' => e = .returned (.bool true) ∧ Below w.heap.size w w' := by
  have HE := Lib.hid he
  have HR := Lib.hid hR
  have HA1 := Lib.hid hA1
  have HA2 := Lib.hid hA2
  have HS1 := Lib.hid hS1
  have HO1 := Lib.hid hO1
  have HO2 := Lib.hid hO2
  have HB1 := Lib.hid hB1
  have HB2 := Lib.hid hB2
  have HS2 := Lib.hid hS2
  have HSE := Lib.hid (fun w => sent_any N C w)
  have hkl : k ≤ lot := by rw [← hk]; exact Nat.le_of_lt_succ (Nat.mod_lt _ (by omega))
  have e1 : IntKind.i64.wrap ((lot : Int) + 1) = (lot : Int) + 1 := IntWalk.i64_in _ (by omega)
  have e2 : (bad : Int) % ((lot : Int) + 1) = (k : Int) := by rw [← hk]; rfl
  have e3 : (bad : Int).tmod ((lot : Int) + 1) = (k : Int) := by rw [Int.tmod_eq_emod_of_nonneg (by omega)]; exact e2
  have e4 : ¬ ((lot : Int) + 1 = 0) := by omega
  have e5 : (((lot : Int) + 1) == 0) = false := by simp; omega
  have e6 : IntKind.i64.wrap ((N : Int) - C) = (N : Int) - C := IntWalk.i64_in _ (by omega)
  have e7 : IntKind.i64.wrap ((N : Int) - C - 1) = (N : Int) - C - 1 := IntWalk.i64_in _ (by omega)
  have e8 : IntKind.i64.wrap ((lot : Int) - k) = (lot : Int) - k := IntWalk.i64_in _ (by omega)
  have e9 : IntKind.i64.wrap (k : Int) = (k : Int) := IntWalk.i64_in _ (by omega)
  have ea : IntKind.i64.wrap (bad : Int) = (bad : Int) := IntWalk.i64_in _ (by omega)
  have eb : ((C : Int) == (N : Int)) = false := by simp; omega
  have ec : ¬ (C : Int) = N := by omega
  have HP0 := Lib.hid (IsP.new w (.int .i64 N) (.int .i64 C) 23)
  have HB0 := Lib.hid ((Below.refl w.heap.size w).alloc (Nat.le_refl _) (.cells #[.int .i64 N, .int .i64 C] 23))
  obtain ⟨c0, c1, -⟩ := HP0.out
  unfold pl at HR HA1 HA2 HB1 HB2 HSE ⊢
  clear he hR hA1 hA2 hS1 hO1 hO2 hB1 hB2 hS2 hk hN hC hNL hL
  go_enter Tryz.func5, Tryz.ntmps5
  go_wp2_with fail
  refine (HR.out _).mono ?_
  rintro e w1 ⟨rfl, hb1⟩
  have HQ1 := Lib.hid (HB0.out.trans (hb1.mono HB0.out.size))
  have HP1 := Lib.hid (HP0.out.below hb1)
  clear hb1 c0 c1
  obtain ⟨c0, c1, -⟩ := HP1.out
  have HP2 := Lib.hid (IsP.new w1 (.int .i64 N) (.int .i64 ((N : Int) - C - 1)) 30)
  have hb2 := (Below.refl w1.heap.size w1).alloc (Nat.le_refl _) (.cells #[.int .i64 N, .int .i64 ((N : Int) - C - 1)] 30)
  have HQ2 := Lib.hid (HQ1.out.trans (hb2.mono HQ1.out.size))
  have HP3 := Lib.hid (HP1.out.below hb2)
  clear hb2
  obtain ⟨d0, d1, -⟩ := HP2.out
  obtain ⟨f0, f1, -⟩ := HP3.out
  go_wp2_with fail
  refine (HSE.out _).mono ?_
  rintro e w4 ⟨rfl, hb4⟩
  have HQ4 := Lib.hid (HQ2.out.trans (hb4.mono HQ2.out.size))
  have HX4 := Lib.hid (HP3.out.below hb4)
  have HY4 := Lib.hid (HP2.out.below hb4)
  clear hb4
  clear f0 f1
  clear c0 c1 d0 d1
  obtain ⟨c0, c1, -⟩ := HX4.out
  obtain ⟨d0, d1, -⟩ := HY4.out
  go_wp2_with fail
  refine (HA1.out _ (HE.out.below HQ4.out)).mono ?_
  rintro e w5 ⟨rfl, hb5⟩
  have HQ5 := Lib.hid (HQ4.out.trans (hb5.mono HQ4.out.size))
  have HX5 := Lib.hid (HX4.out.below hb5)
  have HY5 := Lib.hid (HY4.out.below hb5)
  clear hb5
  clear c0 c1 d0 d1
  obtain ⟨c0, c1, -⟩ := HX5.out
  obtain ⟨d0, d1, -⟩ := HY5.out
  go_wp2_with fail
  refine (HA2.out _ (HE.out.below HQ5.out)).mono ?_
  rintro e w6 ⟨rfl, hb6⟩
  have HQ6 := Lib.hid (HQ5.out.trans (hb6.mono HQ5.out.size))
  have HX6 := Lib.hid (HX5.out.below hb6)
  have HY6 := Lib.hid (HY5.out.below hb6)
  clear hb6
  clear c0 c1 d0 d1
  obtain ⟨c0, c1, -⟩ := HX6.out
  obtain ⟨d0, d1, -⟩ := HY6.out
  go_wp2_with fail
  refine (HS1.out _ (HE.out.below HQ6.out)).mono ?_
  rintro e w7 ⟨rfl, hb7⟩
  have HQ7 := Lib.hid (HQ6.out.trans (hb7.mono HQ6.out.size))
  have HX7 := Lib.hid (HX6.out.below hb7)
  have HY7 := Lib.hid (HY6.out.below hb7)
  clear hb7
  clear c0 c1 d0 d1
  obtain ⟨c0, c1, -⟩ := HX7.out
  obtain ⟨d0, d1, -⟩ := HY7.out
  go_wp2_with fail
  refine (HSE.out _).mono ?_
  rintro e w8 ⟨rfl, hb8⟩
  have HQ8 := Lib.hid (HQ7.out.trans (hb8.mono HQ7.out.size))
  have HX8 := Lib.hid (HX7.out.below hb8)
  have HY8 := Lib.hid (HY7.out.below hb8)
  clear hb8
  clear c0 c1 d0 d1
  obtain ⟨c0, c1, -⟩ := HX8.out
  obtain ⟨d0, d1, -⟩ := HY8.out
  go_wp2_with fail
  refine (HO1.out _).mono ?_
  rintro e w9 ⟨rfl, hb9⟩
  have HQ9 := Lib.hid (HQ8.out.trans (hb9.mono HQ8.out.size))
  have HX9 := Lib.hid (HX8.out.below hb9)
  have HY9 := Lib.hid (HY8.out.below hb9)
  clear hb9
  clear c0 c1 d0 d1
  obtain ⟨c0, c1, -⟩ := HX9.out
  obtain ⟨d0, d1, -⟩ := HY9.out
  go_wp2_with fail
  refine (HB1.out _ (HE.out.below HQ9.out)).mono ?_
  rintro e w10 ⟨rfl, hb10⟩
  have HQ10 := Lib.hid (HQ9.out.trans (hb10.mono HQ9.out.size))
  have HX10 := Lib.hid (HX9.out.below hb10)
  have HY10 := Lib.hid (HY9.out.below hb10)
  clear hb10
  clear c0 c1 d0 d1
  obtain ⟨d0, d1, -⟩ := HY10.out
  go_wp2
  have HYD := Lib.hid (show IsP w10.drew w1.heap.size (.int .i64 N) (.int .i64 ((N : Int) - C - 1)) from ⟨HY10.out.n, HY10.out.c, HY10.out.l⟩)
  go_region_with (first
    | (go_at_call 26
       refine (HO2.out _).mono ?_
       rintro e wa ⟨rfl, hba⟩
       have HQA := Lib.hid (HQ10.out.drew.trans (hba.mono HQ10.out.drew.size))
       have hya := HYD.out.below hba
       have a0 := hya.n
       have a1 := hya.c
       clear hya hba)
    | (go_at_call 25
       refine (HB2.out _ (HE.out.below HQA.out)).mono ?_
       rintro e wb ⟨rfl, hbb⟩
       have HQB := Lib.hid (HQA.out.trans (hbb.mono HQA.out.size))
       clear hbb))
  all_goals clear d0 d1
  all_goals go_wp2_with fail
  all_goals refine (HS2.out _ (HE.out.below HQB.out)).mono ?_
  all_goals rintro e wc ⟨rfl, hbc⟩
  all_goals have HQC := Lib.hid (HQB.out.trans (hbc.mono HQB.out.size))
  all_goals clear hbc
  all_goals go_wp2_with fail
  all_goals refine (awake_any _ (HE.out.below HQC.out)).mono ?_
  all_goals rintro e wd ⟨rfl, hbd⟩
  all_goals have HQD := Lib.hid (HQC.out.trans (hbd.mono HQC.out.size))
  all_goals clear hbd
  all_goals go_wp2
  all_goals go_ret
  all_goals exact ⟨rfl, HQD.out⟩
end Go.Proofs.YtfebiipggcgmdaaGreatDoor

namespace Go.Proofs.YtfebiipggcgmdaaGreatDoor
open Go.RowKit

set_option maxRecDepth 100000 in
set_option maxHeartbeats 1600000 in
theorem opp_rest (N C lot : Int) (bad : Int) (w : World) (he : Env w) (h : ¬ (lot ≤ 40 ∧ szP N C lot = 0) ∨ C = N) :
    Calls Tryz.prog 5 #[pl N C, .int .i64 lot, .int .u8 bad] w fun e w' => e = .returned (.bool true) ∧ Below w.heap.size w w' := by
  have HE := Lib.hid he
  have HR := Lib.hid (fun w => right_any N C lot w)
  have HP0 := Lib.hid (IsP.new w (.int .i64 N) (.int .i64 C) 23)
  have HB0 := Lib.hid ((Below.refl w.heap.size w).alloc (Nat.le_refl _) (.cells #[.int .i64 N, .int .i64 C] 23))
  obtain ⟨c0, c1, -⟩ := HP0.out
  have hv : decide (lot ≤ 40 ∧ szP N C lot = 0) = false ∨ decide (lot ≤ 40 ∧ szP N C lot = 0) = true ∧ C = N := by
    by_cases hd : lot ≤ 40 ∧ szP N C lot = 0
    · exact .inr ⟨decide_eq_true hd, h.resolve_left (fun hn => hn hd)⟩
    · exact .inl (decide_eq_false hd)
  obtain ⟨v, hvv⟩ : ∃ v, decide (lot ≤ 40 ∧ szP N C lot = 0) = v := ⟨_, rfl⟩
  rw [hvv] at HR hv
  unfold pl at HR ⊢
  clear h hvv he
  rcases hv with rfl | ⟨rfl, rfl⟩
  · go_enter Tryz.func5, Tryz.ntmps5
    go_wp2_with fail
    refine (HR.out _).mono ?_
    rintro e w1 ⟨rfl, hb1⟩
    have HQ1 := Lib.hid (HB0.out.trans (hb1.mono HB0.out.size))
    clear hb1
    go_wp2_with fail
    refine (awake_any _ (HE.out.below HQ1.out)).mono ?_
    rintro e wd ⟨rfl, hbd⟩
    have HQD := Lib.hid (HQ1.out.trans (hbd.mono HQ1.out.size))
    clear hbd
    go_wp2
    go_ret
    exact ⟨rfl, HQD.out⟩
  · go_enter Tryz.func5, Tryz.ntmps5
    go_wp2_with fail
    refine (HR.out _).mono ?_
    rintro e w1 ⟨rfl, hb1⟩
    have HQ1 := Lib.hid (HB0.out.trans (hb1.mono HB0.out.size))
    have HP1 := Lib.hid (HP0.out.below hb1)
    clear hb1 c0 c1
    obtain ⟨c0, c1, -⟩ := HP1.out
    go_wp2_with fail
    refine (awake_any _ (HE.out.below HQ1.out)).mono ?_
    rintro e wd ⟨rfl, hbd⟩
    have HQD := Lib.hid (HQ1.out.trans (hbd.mono HQ1.out.size))
    clear hbd
    go_wp2
    go_ret
    exact ⟨rfl, HQD.out⟩

theorem txt_of {r : Rat} {w : World} {e : Ending} {w' : World} (h : RatEnd r w e w') : TxtEnd (rt r) w e w' := h

theorem opp_main (N C lot bad : Nat) (w : World) (he : Env w) (hN : 1 ≤ N) (hC : C < N) (hNL : N ≤ lot) (hL : lot ≤ 40) (hbad : bad ≤ 255) :
    Calls Tryz.prog 5 #[pl N C, .int .i64 lot, .int .u8 bad] w fun e w' => e = .returned (.bool true) ∧ Below w.heap.size w w' := by
  obtain ⟨k, hk⟩ : ∃ k, bad % (lot + 1) = k := ⟨_, rfl⟩
  have hkl : k ≤ lot := by rw [← hk]; exact Nat.le_of_lt_succ (Nat.mod_lt _ (by omega))
  have i1 : (N : Int) - C - 1 = ((N - C - 1 : Nat) : Int) := by omega
  have i2 : (lot : Int) - k = ((lot - k : Nat) : Int) := by omega
  have hr : szP N C lot = 0 := by
    have h1 := chkP_ok hN (show N ≤ 256 by omega) (Nat.le_of_lt hC)
    unfold szP; rw [h1, if_pos (by omega)]
  obtain ⟨a, b, d, ha, hd1, hb, hd2, hab, hd0, hdl⟩ := mk_parts (k := k) (lot := lot) (by omega) hkl
  have hp := pow40 (d := d) (N := N) (by omega) hd0 (by omega)
  have hD : 0 < d ^ N := Nat.pow_pos hd0
  have hC2 : N - C - 1 ≤ N := by omega
  have hba : b + a = d := by omega
  have g1 : good N C lot k + good N (N - C - 1) lot (lot - k) = ch lot N := good_opposite hC hkl
  have g2 : procs N C a b + procs N (N - C - 1) b a = d ^ N := by rw [← hab]; exact proc_opposite hC
  have l1 := procs_le (a := a) (b := b) (Nat.le_of_lt hC)
  have l2 := procs_le (a := b) (b := a) hC2
  rw [hab] at l1
  rw [hba] at l2
  refine opp_core N C lot k bad (rt (mkRat ((good N C lot k : Nat) : Int) (ch lot N))) (rt (mkRat ((good N (N - C - 1) lot (lot - k) : Nat) : Int) (ch lot N))) (rt (mkRat (k : Int) lot)) (rt (mkRat ((lot - k : Nat) : Int) lot)) (rt (mkRat ((procs N C a b : Nat) : Int) (d ^ N))) (rt (mkRat ((procs N (N - C - 1) b a : Nat) : Int) (d ^ N))) w he hN hC hNL hL hbad hk ?_ ?_ ?_ ?_ ?_ ?_ ?_ ?_ ?_
  · intro w
    have h := right_any N C lot w
    rw [decide_eq_true (show (lot : Int) ≤ 40 ∧ szP N C lot = 0 from ⟨by omega, hr⟩)] at h
    exact h
  · exact fun w he => (Accept_ok N C lot k w hN (Nat.le_of_lt hC) hNL hkl (by omega) he).mono fun _ _ h => txt_of h
  · rw [i1, i2]
    exact fun w he => (Accept_ok N (N - C - 1) lot (lot - k) w hN hC2 hNL (Nat.sub_le _ _) (by omega) he).mono fun _ _ h => txt_of h
  · intro w he
    have h := radd (w := w) (sm_good (Nat.le_of_lt hC) hNL hkl (show lot ≤ 256 by omega)) (sm_good hC2 hNL (Nat.sub_le lot k) (show lot ≤ 256 by omega)) he
    rw [add_one (ch_pos hNL) g1] at h
    rw [← rt_one]
    exact h
  · exact fun w => over_small k lot w (by omega) (by omega) (by omega)
  · rw [i2]
    exact fun w => over_small (lot - k) lot w (by omega) (by omega) (by omega)
  · intro w he
    have h := Binomial_ok N C a b (mkRat (k : Int) lot) w hN (by omega) (Nat.le_of_lt hC) ha (by rw [hd1, hab]) (by rw [hd1]; exact hp) he
    rw [hd1] at h
    exact h.mono fun _ _ h => txt_of h
  · intro w he
    rw [i1]
    have h := Binomial_ok N (N - C - 1) b a (mkRat ((lot - k : Nat) : Int) lot) w hN (by omega) hC2 hb (by rw [hd2, hba]) (by rw [hd2]; exact hp) he
    rw [hd2] at h
    exact h.mono fun _ _ h => txt_of h
  · intro w he
    have h := radd (w := w) (sm_mk hD (by rw [Int.natAbs_natCast]; exact Nat.lt_of_le_of_lt l1 hp) hp) (sm_mk hD (by rw [Int.natAbs_natCast]; exact Nat.lt_of_le_of_lt l2 hp) hp) he
    rw [add_one hD g2] at h
    rw [← rt_one]
    exact h

/-- PlanOpposites answers true at every input. -/
theorem opp_any (N C lot bad : Int) (w : World) (he : Env w) (h0 : 0 ≤ bad) (h1 : bad ≤ 255) :
    Calls Tryz.prog 5 #[pl N C, .int .i64 lot, .int .u8 bad] w fun e w' => e = .returned (.bool true) ∧ Below w.heap.size w w' := by
  by_cases h : lot ≤ 40 ∧ szP N C lot = 0
  · by_cases hC : C = N
    · exact opp_rest N C lot bad w he (.inr hC)
    · have hz := szP_two N C lot
      obtain ⟨n, rfl⟩ := Int.eq_ofNat_of_zero_le (show 0 ≤ N by omega)
      obtain ⟨c, rfl⟩ := Int.eq_ofNat_of_zero_le (show 0 ≤ C by omega)
      obtain ⟨l, rfl⟩ := Int.eq_ofNat_of_zero_le (show 0 ≤ lot by omega)
      obtain ⟨b, rfl⟩ := Int.eq_ofNat_of_zero_le h0
      exact opp_main n c l b w he (by omega) (by omega) (by omega) (by omega) (by omega)
  · exact opp_rest N C lot bad w he (.inl h)
end Go.Proofs.YtfebiipggcgmdaaGreatDoor
