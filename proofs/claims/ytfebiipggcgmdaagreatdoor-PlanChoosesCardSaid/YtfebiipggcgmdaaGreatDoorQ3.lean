import Derived.Test.YtfebiipggcgmdaaGreatDoorQ2
namespace Go.Proofs.YtfebiipggcgmdaaGreatDoor
open Go.RowKit

theorem proc_of {N C n b : Nat} {q : Rat} (h1 : 1 ≤ N) (h8 : N ≤ 8) (hC : C ≤ N) (hq : q.num = (n : Int)) (hb : n + b = q.den) (hs : (rt q).size ≤ 12) : Proc N C n b q := by
  refine ⟨h1, h8, hC, hq, hb, ?_⟩
  have h5 : (rt q).size = (rt q).data.toList.length := by rw [Array.length_toList]; rfl
  rw [h5, rt_list] at hs
  have h2 : (Lib.decDigits q.den).length = dl (q.den : Int) := by rw [Lib.decDigits_length]; rfl
  by_cases hd : q.den = 1
  · rw [hd]
    exact Nat.le_trans ((dl_le_iff (k := 1) (by omega)).2 (by decide)) (by omega)
  · rw [if_neg hd] at hs
    simp at hs
    omega
theorem pow_P500 {N : Nat} {q : Rat} (h8 : N ≤ 8) (hd : dl (q.den : Int) ≤ 12) : q.den ^ N < P500 := by
  have h1 : q.den < 10 ^ 12 := by have := (dl_le_iff (z := (q.den : Int)) (k := 12) (by omega)).1 hd; rw [Int.natAbs_natCast] at this; exact this
  have h2 : q.den ^ N ≤ (10 ^ 12) ^ N := Nat.pow_le_pow_left (Nat.le_of_lt h1) N
  have h3 : ((10 : Nat) ^ 12) ^ N = 10 ^ (12 * N) := (Nat.pow_mul ..).symm
  have h4 : (10 : Nat) ^ (12 * N) < 10 ^ SML := Nat.pow_lt_pow_right (by omega) (by unfold SML; omega)
  unfold P500
  omega

set_option maxRecDepth 100000 in
set_option maxHeartbeats 800000 in
theorem rBinomial_ok (N C n b : Nat) (q : Rat) (w : World) (h : Proc N C n b q) (hq : sm 1024 q) :
    Calls Tryz.prog 27 #[pl N C, .string (rt q)] w (TxtEnd (rt (mkRat ((procs N C n b : Nat) : Int) (q.den ^ N))) w) := by
  have HCK := Lib.hid (fun w => rchk54_any N C w)
  rw [chkP_ok h.h1 (by have := h.h8; omega) h.hC] at HCK
  have HU := Lib.hid (fun w => runit_rt q w hq)
  rw [uP_ok h.hq (by have := h.hb; omega)] at HU
  have HPR := Lib.hid (fun w => process_any N C n b q w h)
  have HP0 := Lib.hid (IsP.new w (.int .i64 N) (.int .i64 C) 23)
  have HB0 := Lib.hid ((Below.refl w.heap.size w).alloc (Nat.le_refl _) (.cells #[.int .i64 N, .int .i64 C] 23))
  obtain ⟨c0, c1, -⟩ := HP0.out
  unfold pl at HCK HPR ⊢
  clear h hq
  go_enter Tryz.func27, Tryz.ntmps27
  go_wp2_with fail
  refine (HCK.out _).mono ?_
  rintro e w1 ⟨rfl, hb1⟩
  have HB1 := Lib.hid (HB0.out.trans (hb1.mono HB0.out.size))
  have HP1 := Lib.hid (HP0.out.below hb1)
  clear hb1 c0 c1
  go_wp2_with fail
  refine (HU.out _).mono ?_
  rintro e w2 ⟨rfl, hb2⟩
  have HB2 := Lib.hid (HB1.out.trans (hb2.mono HB1.out.size))
  have HP2 := Lib.hid (HP1.out.below hb2)
  clear hb2
  obtain ⟨c0, c1, -⟩ := HP2.out
  go_wp2_with fail
  refine (HPR.out _).mono ?_
  rintro e w3 ⟨rfl, hb3⟩
  have HB3 := Lib.hid (HB2.out.trans (hb3.mono HB2.out.size))
  clear hb3
  go_wp2
  go_ret2
  exact ⟨rfl, HB3.out⟩

set_option maxRecDepth 100000 in
set_option maxHeartbeats 1600000 in
theorem processes_core (N C B : Int) (s a : ByteArray) (ea : Int) (w : World) (he : Env w) (hg : ¬ (8 < N ∧ N ≤ 256) ∧ s.size ≤ 12)
    (hA : ∀ w, Env w → Calls Tryz.prog 25 #[pl N C, .string s] w fun e w' => e = .returned (.tuple #[.string a, .int .i64 ea]) ∧ Below w.heap.size w w')
    (hB : ∀ w, Calls Tryz.prog 27 #[pl N C, .string s] w fun e w' => e = .returned (.tuple #[.string a, .int .i64 ea]) ∧ Below w.heap.size w w') :
    Calls Tryz.prog 6 #[pl N C, .string s, .int .i64 B] w fun e w' => e = .returned (.bool true) ∧ Below w.heap.size w w' := by
  have HE := Lib.hid he
  have HA := Lib.hid hA
  have HB := Lib.hid hB
  have HSE := Lib.hid (fun w => sent_any N C w)
  have HDA := Lib.hid (fun w => pdecide N C B w)
  have HDB := Lib.hid (fun w => rdecide N C B w)
  have hs12 : ¬ (12 : Int) < s.size := by omega
  have hN : ¬ 8 < N ∨ 8 < N ∧ ¬ N ≤ 256 := by omega
  have HX2 := Lib.hid (IsP.new w (.int .i64 N) (.int .i64 C) 23)
  have HQ2 := Lib.hid ((Below.refl w.heap.size w).alloc (Nat.le_refl _) (.cells #[.int .i64 N, .int .i64 C] 23))
  unfold DecEnd at HDA HDB
  obtain ⟨db, hdb⟩ : ∃ db, decB N C B = db := ⟨_, rfl⟩
  obtain ⟨de, hde⟩ : ∃ de, decE N C B = de := ⟨_, rfl⟩
  rw [hdb, hde] at HDA HDB
  unfold pl at HA HB HSE HDA HDB ⊢
  clear he hg hA hB hdb hde
  rcases hN with hN | ⟨hN, hN2⟩
  all_goals
    go_enter Tryz.func6, Tryz.ntmps6
    obtain ⟨c0, c1, -⟩ := HX2.out
    go_wp2_with fail
    refine (HSE.out _).mono ?_
    rintro e w4 ⟨rfl, hb4⟩
    have HQ4 := Lib.hid (HQ2.out.trans (hb4.mono HQ2.out.size))
    have HX4 := Lib.hid (HX2.out.below hb4)
    clear hb4 c0 c1
    obtain ⟨c0, c1, -⟩ := HX4.out
    go_wp2_with fail
    refine (HA.out _ (HE.out.below HQ4.out)).mono ?_
    rintro e w5 ⟨rfl, hb5⟩
    have HQ5 := Lib.hid (HQ4.out.trans (hb5.mono HQ4.out.size))
    have HX5 := Lib.hid (HX4.out.below hb5)
    clear hb5 c0 c1
    obtain ⟨c0, c1, -⟩ := HX5.out
    go_wp2_with fail
    refine (HB.out _).mono ?_
    rintro e w6 ⟨rfl, hb6⟩
    have HQ6 := Lib.hid (HQ5.out.trans (hb6.mono HQ5.out.size))
    have HX6 := Lib.hid (HX5.out.below hb6)
    clear hb6 c0 c1
    obtain ⟨c0, c1, -⟩ := HX6.out
    go_wp2_with fail
    refine (HSE.out _).mono ?_
    rintro e w7 ⟨rfl, hb7⟩
    have HQ7 := Lib.hid (HQ6.out.trans (hb7.mono HQ6.out.size))
    have HX7 := Lib.hid (HX6.out.below hb7)
    clear hb7 c0 c1
    obtain ⟨c0, c1, -⟩ := HX7.out
    go_wp2_with fail
    refine (HDA.out _).mono ?_
    rintro e w8 ⟨rfl, hb8⟩
    have HQ8 := Lib.hid (HQ7.out.trans (hb8.mono HQ7.out.size))
    have HX8 := Lib.hid (HX7.out.below hb8)
    clear hb8 c0 c1
    obtain ⟨c0, c1, -⟩ := HX8.out
    go_wp2_with fail
    refine (HDB.out _).mono ?_
    rintro e w9 ⟨rfl, hb9⟩
    have HQ9 := Lib.hid (HQ8.out.trans (hb9.mono HQ8.out.size))
    clear hb9 c0 c1
    go_wp2_with fail
    refine (awake_any _ (HE.out.below HQ9.out)).mono ?_
    rintro e wa ⟨rfl, hba⟩
    have HQA := Lib.hid (HQ9.out.trans (hba.mono HQ9.out.size))
    clear hba
    go_wp2
    go_ret
    exact ⟨rfl, HQA.out⟩

set_option maxRecDepth 100000 in
set_option maxHeartbeats 800000 in
theorem processes_out (N C B : Int) (s : ByteArray) (w : World) (he : Env w) (h : (8 < N ∧ N ≤ 256) ∨ 12 < s.size) :
    Calls Tryz.prog 6 #[pl N C, .string s, .int .i64 B] w fun e w' => e = .returned (.bool true) ∧ Below w.heap.size w w' := by
  have HE := Lib.hid he
  have HX2 := Lib.hid (IsP.new w (.int .i64 N) (.int .i64 C) 23)
  have HQ2 := Lib.hid ((Below.refl w.heap.size w).alloc (Nat.le_refl _) (.cells #[.int .i64 N, .int .i64 C] 23))
  have hw : (8 < N ∧ N ≤ 256) ∨ (¬ 8 < N ∧ (12 : Int) < s.size) ∨ (8 < N ∧ ¬ N ≤ 256 ∧ (12 : Int) < s.size) := by omega
  unfold pl
  clear he h
  rcases hw with ⟨h1, h2⟩ | ⟨h1, h2⟩ | ⟨h1, h2, h3⟩
  all_goals
    go_enter Tryz.func6, Tryz.ntmps6
    obtain ⟨c0, c1, -⟩ := HX2.out
    go_wp2_with fail
    refine (awake_any _ (HE.out.below HQ2.out)).mono ?_
    rintro e wa ⟨rfl, hba⟩
    have HQA := Lib.hid (HQ2.out.trans (hba.mono HQ2.out.size))
    clear hba
    go_wp2
    go_ret
    exact ⟨rfl, HQA.out⟩

/-- PlanProcesses answers true at every input. -/
theorem processes_any (N C B : Int) (s : ByteArray) (w : World) (he : Env w) :
    Calls Tryz.prog 6 #[pl N C, .string s, .int .i64 B] w fun e w' => e = .returned (.bool true) ∧ Below w.heap.size w w' := by
  by_cases h : (8 < N ∧ N ≤ 256) ∨ 12 < s.size
  · exact processes_out N C B s w he h
  · have hg : ¬ (8 < N ∧ N ≤ 256) ∧ s.size ≤ 12 := by omega
    rcases chkP_two N C with hc | ⟨hc, h1, h2, h3, h4⟩
    · exact processes_core N C B s ⟨#[]⟩ 2 w he hg (fun w _ => Binomial_chk N C s w hc) (fun w => rBinomial_chk N C s w hc)
    · by_cases hr : rChk s = 0
      · obtain ⟨q, rfl, hq⟩ := rChk_zero hr
        obtain ⟨n, rfl⟩ := Int.eq_ofNat_of_zero_le (show 0 ≤ N by omega)
        obtain ⟨c, rfl⟩ := Int.eq_ofNat_of_zero_le (show 0 ≤ C by omega)
        have hsm : sm SML q := by
          have hs := hg.2
          have h5 : (rt q).size = (rt q).data.toList.length := by rw [Array.length_toList]; rfl
          rw [h5, rt_list] at hs
          have hl := itoa_length q.num
          have h12 : (10 : Nat) ^ 12 ≤ P500 := Nat.pow_le_pow_right (by omega) (by unfold SML; omega)
          by_cases hd : q.den = 1
          · rw [if_pos hd] at hs
            exact ⟨Nat.lt_of_lt_of_le ((dl_le_iff (k := 12) (by omega)).1 (by split at hl <;> omega)) h12, by rw [hd]; exact one_P500⟩
          · rw [if_neg hd] at hs
            have h2 : (Lib.decDigits q.den).length = dl (q.den : Int) := by rw [Lib.decDigits_length]; rfl
            simp at hs
            refine ⟨Nat.lt_of_lt_of_le ((dl_le_iff (k := 12) (by omega)).1 (by split at hl <;> omega)) h12, Nat.lt_of_lt_of_le ?_ h12⟩
            have := (dl_le_iff (z := (q.den : Int)) (k := 12) (by omega)).1 (by omega)
            rw [Int.natAbs_natCast] at this
            exact this
        by_cases hu : uP q = 0
        · have hu2 : ¬ (q.num < 0 ∨ (q.den : Int) < q.num) := fun hn => by unfold uP at hu; rw [if_pos hn] at hu; cases hu
          obtain ⟨a, ha⟩ := Int.eq_ofNat_of_zero_le (show 0 ≤ q.num by omega)
          obtain ⟨b, hb⟩ : ∃ b, a + b = q.den := ⟨q.den - a, by omega⟩
          have hp := proc_of (N := n) (C := c) (by omega) (by omega) (by omega) ha hb hg.2
          exact processes_core n c B (rt q) _ 0 w he hg (fun w he => Binomial_ok n c a b q w (by omega) (by omega) (by omega) ha hb (pow_P500 hp.h8 hp.hd) he) (fun w => rBinomial_ok n c a b q w hp hq)
        · exact processes_core n c B (rt q) ⟨#[]⟩ (uP q) w he hg (fun w he => Binomial_unit n c (rt q) _ w he hc hu (fun w he => unit_any q w hsm he)) (fun w => rBinomial_unit n c (rt q) _ w hc hu (fun w => runit_rt q w hq))
      · exact processes_core N C B s ⟨#[]⟩ (rChk s) w he hg (fun w he => Binomial_unit N C s _ w he hc hr (fun w he => unit_bad s w (by omega) hr he)) (fun w => rBinomial_unit N C s _ w hc hr (fun w => runit_bad s w (by omega) hr))
end Go.Proofs.YtfebiipggcgmdaaGreatDoor
