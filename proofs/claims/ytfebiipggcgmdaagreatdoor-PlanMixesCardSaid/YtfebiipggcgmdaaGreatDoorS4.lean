import Derived.Test.YtfebiipggcgmdaaGreatDoorS3
namespace Go.Proofs.YtfebiipggcgmdaaGreatDoor
open Go.RowKit Go.Shelf

/-! ## PlanLeaves: the plain law -/
theorem left_good {N C lot bad : Nat} : left N C lot bad ≤ good N C lot bad * bad := by
  unfold left good
  refine Nat.le_trans (su_le (g := fun k => bad * (ch bad k * ch (lot - bad) (N - k))) fun k _ => ?_) ?_
  · rw [Nat.mul_comm bad]; exact Nat.mul_le_mul (Nat.le_refl _) (Nat.sub_le _ _)
  · rw [su_mul, Nat.mul_comm]
    exact Nat.mul_le_mul (su_mono (by omega)) (Nat.le_refl _)
theorem lead {N C lot k : Nat} : mkRat ((good N C lot k : Nat) : Int) (ch lot N) * mkRat (k : Int) lot = mkRat ((good N C lot k * k : Nat) : Int) (ch lot N * lot) := by
  rw [Rat.mkRat_mul_mkRat, Int.natCast_mul]
theorem oq_le {N C lot k : Nat} (hN : N ≤ lot) (hl : 0 < lot) : oq N C lot k ≤ mkRat ((good N C lot k * k : Nat) : Int) (ch lot N * lot) := by
  have h0 : 0 < ch lot N * lot := Nat.mul_pos (ch_pos hN) hl
  exact (mkRat_le_iff h0 h0).2 (Int.mul_le_mul_of_nonneg_right (Int.ofNat_le.2 left_good) (by omega))
theorem rlt_le {a b c : Rat} (h : a < b) (k : b ≤ c) : a < c := Rat.not_le.1 fun e => Rat.not_le.2 h (Rat.le_trans k e)
theorem rle_lt {a b c : Rat} (h : a ≤ b) (k : b < c) : a < c := Rat.not_le.1 fun e => Rat.not_le.2 k (Rat.le_trans e h)
theorem oq_pos {N C lot k : Nat} : (-1 : Rat) < oq N C lot k := by
  refine rlt_le (b := 0) (by decide) ?_
  unfold oq
  obtain ⟨d, hd⟩ : ∃ d, ch lot N * lot = d := ⟨_, rfl⟩
  obtain ⟨a, ha⟩ : ∃ a, left N C lot k = a := ⟨_, rfl⟩
  rw [hd, ha]
  by_cases h : d = 0
  · subst h; rw [Rat.mkRat_zero]; exact Rat.le_refl
  · have e : (0 : Rat) = mkRat 0 1 := by decide
    rw [e]
    exact (mkRat_le_iff (by decide) (by omega)).2 (by omega)
/-- the greatest is the first of the greatest -/
theorem bst_best (q : Nat → Rat) (hq : ∀ b, (-1 : Rat) < q b) (lot : Nat) : ∀ n, n ≤ lot → (bst q (lotL lot (n + 1))).2.1 ≤ n ∧ (bst q (lotL lot (n + 1))).1 = q (bst q (lotL lot (n + 1))).2.1 ∧ (∀ j, j ≤ n → q j ≤ (bst q (lotL lot (n + 1))).1) ∧ (∀ j, j < (bst q (lotL lot (n + 1))).2.1 → q j < (bst q (lotL lot (n + 1))).1)
  | 0, h => by
    rw [lotL_succ h, bst_snoc]
    show (stp q (-1, 0, 0) _).2.1 ≤ 0 ∧ _
    have e : stp q (-1, 0, 0) (⟨0, h⟩ : Bad lot) = (q 0, 0, 1) := if_pos (hq 0)
    have e' : stp q (bst q (lotL lot 0)) (⟨0, h⟩ : Bad lot) = (q 0, 0, 1) := e
    rw [e', e]
    exact ⟨Nat.le_refl _, rfl, fun j hj => by obtain rfl : j = 0 := by omega
                                              exact Rat.le_refl, fun j hj => absurd hj (Nat.not_lt_zero _)⟩
  | n + 1, h => by
    obtain ⟨h1, h2, h3, h4⟩ := bst_best q hq lot n (by omega)
    have hl := bst_len q (lotL lot (n + 1))
    rw [lotL_len lot (n + 1) (by omega)] at hl
    rw [lotL_succ h, bst_snoc]
    obtain ⟨s, hs⟩ : ∃ s, bst q (lotL lot (n + 1)) = s := ⟨_, rfl⟩
    rw [hs] at h1 h2 h3 h4 hl ⊢
    by_cases hc : s.1 < q (n + 1)
    · have e : stp q s (⟨n + 1, h⟩ : Bad lot) = (q (n + 1), n + 1, n + 1 + 1) := by
        unfold stp; rw [if_pos hc, hl]
      rw [e]
      refine ⟨Nat.le_refl _, rfl, fun j hj => ?_, fun j hj => ?_⟩
      · by_cases hj2 : j = n + 1
        · subst hj2; exact Rat.le_refl
        · exact Rat.le_trans (h3 j (by omega)) (Rat.le_of_lt hc)
      · exact rle_lt (h3 j (by have : j < n + 1 := hj; omega)) hc
    · have e : stp q s (⟨n + 1, h⟩ : Bad lot) = (s.1, s.2.1, n + 1 + 1) := by
        unfold stp; rw [if_neg hc, hl]
      rw [e]
      refine ⟨by show s.2.1 ≤ n + 1; omega, h2, fun j hj => ?_, h4⟩
      by_cases hj2 : j = n + 1
      · subst hj2; exact Rat.not_lt.1 hc
      · exact h3 j (by omega)

set_option maxRecDepth 100000 in
set_option maxHeartbeats 6400000 in
theorem leaves_core (N C lot k bad a : Nat) (n m : Int) (s1 s2 s3 s4 s5 : ByteArray) (w : World) (he : Env w) (hL : lot ≤ 40) (hbad : bad ≤ 255) (hk : bad % (lot + 1) = k)
    (ha : a ≤ lot) (hn : n ≤ 0) (hm : m < 0 ∨ m = 0 ∧ a ≤ k)
    (hR : ∀ w, Calls Tryz.prog 23 #[pl N C, .int .i64 lot] w fun e w' => e = .returned (.bool true) ∧ Below w.heap.size w w')
    (hO : ∀ w, Env w → Calls Tryz.prog 16 #[pl N C, .int .i64 lot, .int .i64 k] w (TxtEnd s1 w))
    (hA : ∀ w, Env w → Calls Tryz.prog 13 #[pl N C, .int .i64 lot, .int .i64 k] w (TxtEnd s2 w))
    (hV : ∀ w, Calls Tryz.prog 26 #[.int .i64 k, .int .i64 lot] w fun e w' => e = .returned (.string s3) ∧ Below w.heap.size w w')
    (hM : ∀ w, Env w → Calls Tryz.prog 37 #[.string s2, .string s3] w (TxtEnd s4 w))
    (hW : ∀ w, Env w → Calls Tryz.prog 38 #[pl N C, .int .i64 lot] w fun e w' => e = .returned (.tuple #[.int .i64 a, .string s5, .int .i64 0]) ∧ Below w.heap.size w w')
    (hC1 : ∀ w, Env w → Calls Tryz.prog 31 #[.string s1, .string s4] w (NumEnd n w))
    (hC2 : ∀ w, Env w → Calls Tryz.prog 31 #[.string s1, .string s5] w (NumEnd m w))
    (hO2 : ∀ w, Env w → Calls Tryz.prog 16 #[pl N C, .int .i64 lot, .int .i64 a] w (TxtEnd s5 w)) :
    Calls Tryz.prog 9 #[pl N C, .int .i64 lot, .int .u8 bad] w fun e w' => e = .returned (.bool true) ∧ Below w.heap.size w w' := by
  have HE := Lib.hid he
  have HR := Lib.hid hR
  have HO := Lib.hid hO
  have HA := Lib.hid hA
  have HV := Lib.hid hV
  have HM := Lib.hid hM
  have HW := Lib.hid hW
  have HC1 := Lib.hid hC1
  have HC2 := Lib.hid hC2
  have HO2 := Lib.hid hO2
  have HSE := Lib.hid (fun w => sent_any N C w)
  have e1 : IntKind.i64.wrap ((lot : Int) + 1) = (lot : Int) + 1 := IntWalk.i64_in _ (by omega)
  have e2 : (bad : Int) % ((lot : Int) + 1) = (k : Int) := by rw [← hk]; rfl
  have e3 : (bad : Int).tmod ((lot : Int) + 1) = (k : Int) := by rw [Int.tmod_eq_emod_of_nonneg (by omega)]; exact e2
  have e4 : ¬ ((lot : Int) + 1 = 0) := by omega
  have e5 : (((lot : Int) + 1) == 0) = false := by simp; omega
  have e9 : IntKind.i64.wrap (k : Int) = (k : Int) := IntWalk.i64_in _ (by have := Nat.mod_lt bad (show 0 < lot + 1 by omega); omega)
  have ea : IntKind.i64.wrap (bad : Int) = (bad : Int) := IntWalk.i64_in _ (by omega)
  have eb : ¬ ((a : Int) < 0) := by omega
  have ec : ¬ ((lot : Int) < a) := by omega
  have ef : decide ((a : Int) < 0) = false := decide_eq_false eb
  have eg : decide ((lot : Int) < a) = false := decide_eq_false ec
  have eh : decide (n ≤ 0) = true := decide_eq_true hn
  have HP0 := Lib.hid (IsP.new w (.int .i64 N) (.int .i64 C) 23)
  have HB0 := Lib.hid ((Below.refl w.heap.size w).alloc (Nat.le_refl _) (.cells #[.int .i64 N, .int .i64 C] 23))
  obtain ⟨c0, c1, -⟩ := HP0.out
  have hmm : m ≤ 0 ∧ (m < 0 ∨ ¬ m < 0 ∧ (a : Int) ≤ k) := by omega
  obtain ⟨hm0, hm1⟩ := hmm
  have ei : decide (m ≤ 0) = true := decide_eq_true hm0
  have ej : (m < 0 ∧ decide (m < 0) = true) ∨ (¬ m < 0 ∧ decide (m < 0) = false ∧ (a : Int) ≤ k ∧ decide ((a : Int) ≤ k) = true) := by
    rcases hm1 with h | ⟨h, h'⟩
    · exact .inl ⟨h, decide_eq_true h⟩
    · exact .inr ⟨h, decide_eq_false h, h', decide_eq_true h'⟩
  have HJ := Lib.hid ej
  unfold pl at HR HO HA HW HO2 HSE ⊢
  clear he hR hO hA hV hM hW hC1 hC2 hO2 hk hL ha hn hm hm1 hbad ej
  go_enter Tryz.func9, Tryz.ntmps9
  go_wp2_with fail
  refine (HR.out _).mono ?_
  rintro e w1 ⟨rfl, hb1⟩
  have HQ1 := Lib.hid (HB0.out.trans (hb1.mono HB0.out.size))
  have HP1 := Lib.hid (HP0.out.below hb1)
  clear hb1 c0 c1
  obtain ⟨c0, c1, -⟩ := HP1.out
  go_wp2_with fail
  refine (HSE.out _).mono ?_
  rintro e w2 ⟨rfl, hb2⟩
  have HQ2 := Lib.hid (HQ1.out.trans (hb2.mono HQ1.out.size))
  have HP2 := Lib.hid (HP1.out.below hb2)
  clear hb2 c0 c1
  obtain ⟨c0, c1, -⟩ := HP2.out
  go_wp2_with fail
  refine (HO.out _ (HE.out.below HQ2.out)).mono ?_
  rintro e w3 ⟨rfl, hb3⟩
  have HQ3 := Lib.hid (HQ2.out.trans (hb3.mono HQ2.out.size))
  have HP3 := Lib.hid (HP2.out.below hb3)
  clear hb3 c0 c1
  obtain ⟨c0, c1, -⟩ := HP3.out
  go_wp2_with fail
  refine (HSE.out _).mono ?_
  rintro e w4 ⟨rfl, hb4⟩
  have HQ4 := Lib.hid (HQ3.out.trans (hb4.mono HQ3.out.size))
  have HP4 := Lib.hid (HP3.out.below hb4)
  clear hb4 c0 c1
  obtain ⟨c0, c1, -⟩ := HP4.out
  go_wp2_with fail
  refine (HA.out _ (HE.out.below HQ4.out)).mono ?_
  rintro e w5 ⟨rfl, hb5⟩
  have HQ5 := Lib.hid (HQ4.out.trans (hb5.mono HQ4.out.size))
  have HP5 := Lib.hid (HP4.out.below hb5)
  clear hb5 c0 c1
  obtain ⟨c0, c1, -⟩ := HP5.out
  go_wp2_with fail
  refine (HV.out _).mono ?_
  rintro e w6 ⟨rfl, hb6⟩
  have HQ6 := Lib.hid (HQ5.out.trans (hb6.mono HQ5.out.size))
  have HP6 := Lib.hid (HP5.out.below hb6)
  clear hb6 c0 c1
  obtain ⟨c0, c1, -⟩ := HP6.out
  go_wp2_with fail
  refine (HM.out _ (HE.out.below HQ6.out)).mono ?_
  rintro e w7 ⟨rfl, hb7⟩
  have HQ7 := Lib.hid (HQ6.out.trans (hb7.mono HQ6.out.size))
  have HP7 := Lib.hid (HP6.out.below hb7)
  clear hb7 c0 c1
  obtain ⟨c0, c1, -⟩ := HP7.out
  go_wp2_with fail
  refine (HSE.out _).mono ?_
  rintro e w8 ⟨rfl, hb8⟩
  have HQ8 := Lib.hid (HQ7.out.trans (hb8.mono HQ7.out.size))
  have HP8 := Lib.hid (HP7.out.below hb8)
  clear hb8 c0 c1
  obtain ⟨c0, c1, -⟩ := HP8.out
  go_wp2_with fail
  refine (HW.out _ (HE.out.below HQ8.out)).mono ?_
  rintro e w9 ⟨rfl, hb9⟩
  have HQ9 := Lib.hid (HQ8.out.trans (hb9.mono HQ8.out.size))
  have HP9 := Lib.hid (HP8.out.below hb9)
  clear hb9 c0 c1
  obtain ⟨c0, c1, -⟩ := HP9.out
  go_wp2_with fail
  refine (HC1.out _ (HE.out.below HQ9.out)).mono ?_
  rintro e w10 ⟨rfl, hb10⟩
  have HQ10 := Lib.hid (HQ9.out.trans (hb10.mono HQ9.out.size))
  have HP10 := Lib.hid (HP9.out.below hb10)
  clear hb10 c0 c1
  obtain ⟨c0, c1, -⟩ := HP10.out
  go_wp2_with fail
  refine (HC2.out _ (HE.out.below HQ10.out)).mono ?_
  rintro e w11 ⟨rfl, hb11⟩
  have HQ11 := Lib.hid (HQ10.out.trans (hb11.mono HQ10.out.size))
  have HP11 := Lib.hid (HP10.out.below hb11)
  clear hb11 c0 c1
  obtain ⟨c0, c1, -⟩ := HP11.out
  go_wp2_with fail
  refine (HSE.out _).mono ?_
  rintro e w12 ⟨rfl, hb12⟩
  have HQ12 := Lib.hid (HQ11.out.trans (hb12.mono HQ11.out.size))
  have HP12 := Lib.hid (HP11.out.below hb12)
  clear hb12 c0 c1
  obtain ⟨c0, c1, -⟩ := HP12.out
  go_wp2_with fail
  refine (HO2.out _ (HE.out.below HQ12.out)).mono ?_
  rintro e w13 ⟨rfl, hb13⟩
  have HQ13 := Lib.hid (HQ12.out.trans (hb13.mono HQ12.out.size))
  have HP13 := Lib.hid (HP12.out.below hb13)
  clear hb13 c0 c1
  obtain ⟨c0, c1, -⟩ := HP13.out
  rcases HJ.out with ⟨j1, j2⟩ | ⟨j1, j2, j3, j4⟩
  all_goals go_wp2_with fail
  all_goals refine (awake_any _ (HE.out.below HQ13.out)).mono ?_
  all_goals rintro e wd ⟨rfl, hbd⟩
  all_goals have HQD := Lib.hid (HQ13.out.trans (hbd.mono HQ13.out.size))
  all_goals clear hbd
  all_goals go_wp2
  all_goals go_ret
  all_goals exact ⟨rfl, HQD.out⟩

set_option maxRecDepth 100000 in
set_option maxHeartbeats 1600000 in
theorem leaves_rest (N C lot : Int) (bad : Int) (w : World) (he : Env w) (h : ¬ (lot ≤ 40 ∧ szP N C lot = 0)) :
    Calls Tryz.prog 9 #[pl N C, .int .i64 lot, .int .u8 bad] w fun e w' => e = .returned (.bool true) ∧ Below w.heap.size w w' := by
  have HE := Lib.hid he
  have HR := Lib.hid (fun w => right_any N C lot w)
  rw [decide_eq_false h] at HR
  have HP0 := Lib.hid (IsP.new w (.int .i64 N) (.int .i64 C) 23)
  have HB0 := Lib.hid ((Below.refl w.heap.size w).alloc (Nat.le_refl _) (.cells #[.int .i64 N, .int .i64 C] 23))
  obtain ⟨c0, c1, -⟩ := HP0.out
  unfold pl at HR ⊢
  clear h he
  go_enter Tryz.func9, Tryz.ntmps9
  go_wp2_with fail
  refine (HR.out _).mono ?_
  rintro e w1 ⟨rfl, hb1⟩
  have HQ1 := Lib.hid (HB0.out.trans (hb1.mono HB0.out.size))
  clear hb1
  go_wp2_with fail
  refine (awake_any _ (HE.out.below HQ1.out)).mono ?_
  rintro e wd ⟨rfl, hbd⟩
  have HQD := Lib.hid (HQ1.out.trans (hbd.mono HQ1.out.size))
  clear hbd
  go_wp2
  go_ret
  exact ⟨rfl, HQD.out⟩

theorem in_T0' : 40 < P500 := Nat.lt_of_lt_of_le (by decide) (Nat.pow_le_pow_right (by decide) (show 2 ≤ 500 by decide))
theorem leaves_main (N C lot bad : Nat) (w : World) (he : Env w) (hN : 1 ≤ N) (hC : C ≤ N) (hNL : N ≤ lot) (hL : lot ≤ 40) (hbad : bad ≤ 255) :
    Calls Tryz.prog 9 #[pl N C, .int .i64 lot, .int .u8 bad] w fun e w' => e = .returned (.bool true) ∧ Below w.heap.size w w' := by
  obtain ⟨k, hk⟩ : ∃ k, bad % (lot + 1) = k := ⟨_, rfl⟩
  have hkl : k ≤ lot := by rw [← hk]; exact Nat.le_of_lt_succ (Nat.mod_lt _ (by omega))
  have hr : szP N C lot = 0 := by
    have h1 := chkP_ok hN (show N ≤ 256 by omega) hC
    unfold szP; rw [h1, if_pos (by omega)]
  have hl0 : 0 < lot := by omega
  have hL2 : lot ≤ 256 := by omega
  obtain ⟨b1, b2, b3, b4⟩ := bst_best (oq N C lot) (fun b => oq_pos) lot lot (Nat.le_refl _)
  have hWW := fun w he => worst_core N C lot w hN hC hNL hL2 he
  obtain ⟨s, hs⟩ : ∃ s, bst (oq N C lot) (lotL lot (lot + 1)) = s := ⟨_, rfl⟩
  rw [hs] at b1 b2 b3 b4 hWW
  have sq : ∀ b, b ≤ lot → sm SML (oq N C lot b) := fun b hb => sm_oq hC hNL hb hL2 hl0
  have h1 : ch lot N * k ≤ TT * 256 := Nat.mul_le_mul (ch_TT N hL2) (by omega)
  have h2 : ch lot N * lot ≤ TT * 256 := Nat.mul_le_mul (ch_TT N hL2) (by omega)
  have h3 : good N C lot k * k ≤ ch lot N * k := Nat.mul_le_mul_right _ (good_le hC hkl)
  have sp : sm SML (mkRat ((good N C lot k * k : Nat) : Int) (ch lot N * lot)) :=
    sm_mk (Nat.mul_pos (ch_pos hNL) hl0) (by rw [Int.natAbs_natCast]; exact lt_T2 (Nat.le_trans h3 h1)) (lt_T2 h2)
  have sk : sm SML (mkRat (k : Int) lot) := sm_mk hl0 (by rw [Int.natAbs_natCast]; exact Nat.lt_of_le_of_lt (by omega) in_T0') (Nat.lt_of_le_of_lt hL in_T0')
  obtain ⟨n, -, n2, -, hn⟩ := cmp_any (oq N C lot k) _ (sq k hkl) sp
  obtain ⟨m, m1, m2, -, hm⟩ := cmp_any (oq N C lot k) s.1 (sq k hkl) (by rw [b2]; exact sq _ b1)
  refine leaves_core N C lot k bad s.2.1 n m (rt (oq N C lot k)) (rt (mkRat ((good N C lot k : Nat) : Int) (ch lot N))) (rt (mkRat (k : Int) lot)) (rt (mkRat ((good N C lot k * k : Nat) : Int) (ch lot N * lot))) (rt s.1) w he hL hbad hk b1 (n2.2 (oq_le hNL hl0)) ?_ ?_ ?_ ?_ ?_ ?_ ?_ ?_ ?_ ?_
  · have hm0 : m ≤ 0 := m2.2 (b3 k hkl)
    by_cases h : m < 0
    · exact .inl h
    · refine .inr ⟨by omega, Nat.le_of_not_lt fun hlt => ?_⟩
      exact Rat.not_le.2 (b4 k hlt) (m1.1 (by omega))
  · intro w
    have h := right_any N C lot w
    rw [decide_eq_true (show (lot : Int) ≤ 40 ∧ szP N C lot = 0 from ⟨by omega, hr⟩)] at h
    exact h
  · exact fun w he => (Outgoing_ok N C lot k w hN hC hNL hkl hL2 he).mono fun _ _ h => txt_of h
  · exact fun w he => (Accept_ok N C lot k w hN hC hNL hkl hL2 he).mono fun _ _ h => txt_of h
  · exact fun w => over_small k lot w hl0 (by omega) (by omega)
  · intro w he
    have h := rmul (w := w) (sm_good hC hNL hkl hL2) sk he
    rw [lead] at h
    exact h.mono fun _ _ h => txt_of h
  · exact hWW
  · exact hn
  · exact hm
  · rw [b2]
    exact fun w he => (Outgoing_ok N C lot s.2.1 w hN hC hNL b1 hL2 he).mono fun _ _ h => txt_of h

/-- PlanLeaves answers true at every input. -/
theorem leaves_any (N C lot bad : Int) (w : World) (he : Env w) (h0 : 0 ≤ bad) (h1 : bad ≤ 255) :
    Calls Tryz.prog 9 #[pl N C, .int .i64 lot, .int .u8 bad] w fun e w' => e = .returned (.bool true) ∧ Below w.heap.size w w' := by
  by_cases h : lot ≤ 40 ∧ szP N C lot = 0
  · have hz := szP_two N C lot
    obtain ⟨n, rfl⟩ := Int.eq_ofNat_of_zero_le (show 0 ≤ N by omega)
    obtain ⟨c, rfl⟩ := Int.eq_ofNat_of_zero_le (show 0 ≤ C by omega)
    obtain ⟨l, rfl⟩ := Int.eq_ofNat_of_zero_le (show 0 ≤ lot by omega)
    obtain ⟨b, rfl⟩ := Int.eq_ofNat_of_zero_le h0
    exact leaves_main n c l b w he (by omega) (by omega) (by omega) (by omega) (by omega)
  · exact leaves_rest N C lot bad w he h
end Go.Proofs.YtfebiipggcgmdaaGreatDoor
