import Derived.Test.YtfebiipggcgmdaaGreatDoorRN
namespace Go.Proofs.YtfebiipggcgmdaaGreatDoor
open Go.RowKit

/-! ## The errors of a probability -/
theorem bg_of_sm {q : Rat} (h : sm 1024 q) : bg q := by
  have h1 : dl q.num ≤ 1024 := In.of_lt h.1
  have h2 : dl (q.den : Int) ≤ 1024 := In.of_lt (by rw [Int.natAbs_natCast]; exact h.2)
  exact ⟨by omega, by omega⟩
theorem bg_one : bg 1 := bg_of_sm sm_one.big
theorem sgn_facts (z : Int) : (z.sign < 0 ↔ z < 0) ∧ (0 < z.sign ↔ 0 < z) := by
  rcases Int.lt_trichotomy z 0 with h | h | h
  · rw [Int.sign_eq_neg_one_of_neg h]; omega
  · subst h; simp
  · rw [Int.sign_eq_one_of_pos h]; omega

set_option maxRecDepth 100000 in
theorem rsignum (q : Rat) (w : World) (hq : bg q) : Calls Tryz.prog 114 #[.string (rt q)] w fun e w' => e = .returned (.int .i64 q.num.sign) ∧ Below w.heap.size w w' := by
  have HS := Lib.hid (fun w => split_rt q w hq.size)
  have HO := Lib.hid (fun w => rorder_any q.num 0 w (by have := hq.1; omega) (dl_small (by decide)))
  rw [it_zero, Int.sub_zero] at HO
  clear hq
  go_enter Tryz.func114, Tryz.ntmps114
  go_wp2_with fail
  refine (HS.out _).mono ?_
  rintro e w1 ⟨rfl, hb1⟩
  have B1 := Lib.hid hb1
  clear hb1
  go_wp2_with fail
  refine (HO.out _).mono ?_
  rintro e w2 ⟨rfl, hb2⟩
  have B2 := Lib.hid (B1.out.trans (hb2.mono B1.out.size))
  clear hb2
  go_wp2
  go_ret
  exact ⟨rfl, B2.out⟩

set_option maxRecDepth 100000 in
theorem runit_rt (q : Rat) (w : World) (hq : sm 1024 q) : Calls Tryz.prog 68 #[.string (rt q)] w fun e w' => e = .returned (.int .i64 (uP q)) ∧ Below w.heap.size w w' := by
  obtain ⟨v, hv⟩ : ∃ v, uP q = v := ⟨_, rfl⟩
  have HV := Lib.hid hv
  rw [hv]
  have HCH := Lib.hid (fun w => rcheck02 (rt q) w (by have := rt_size hq; omega))
  rw [rChk_rt hq] at HCH
  have HSG := Lib.hid (fun w => rsignum q w (bg_of_sm hq))
  have HOR := Lib.hid (fun w => rorder02 q 1 w (bg_of_sm hq) bg_one)
  rw [rt_one] at HOR
  obtain ⟨n, hn⟩ : ∃ n, q.num.sign = n := ⟨_, rfl⟩
  obtain ⟨m, hm⟩ : ∃ m, (q.num * ((1 : Rat).den : Int) - (1 : Rat).num * (q.den : Int)).sign = m := ⟨_, rfl⟩
  have hn2 : n < 0 ↔ q.num < 0 := by rw [← hn]; exact (sgn_facts _).1
  have hm2 : 0 < m ↔ (q.den : Int) < q.num := by
    rw [← hm]
    refine (sgn_facts _).2.trans ?_
    show 0 < q.num * 1 - 1 * (q.den : Int) ↔ _
    omega
  rw [hn] at HSG
  rw [hm] at HOR
  have hway : n < 0 ∧ v = 2 ∨ ¬ n < 0 ∧ 0 < m ∧ v = 2 ∨ ¬ n < 0 ∧ ¬ 0 < m ∧ v = 0 := by
    unfold uP at hv
    split at hv <;> omega
  clear hv hn hm hn2 hm2 hq HV
  rcases hway with ⟨h1, rfl⟩ | ⟨h1, h2, rfl⟩ | ⟨h1, h2, rfl⟩
  · go_enter Tryz.func68, Tryz.ntmps68
    go_wp2_with fail
    refine (HCH.out _).mono ?_
    rintro e w1 ⟨rfl, hb1⟩
    have B1 := Lib.hid hb1
    clear hb1
    go_wp2_with fail
    refine (HSG.out _).mono ?_
    rintro e w2 ⟨rfl, hb2⟩
    have B2 := Lib.hid (B1.out.trans (hb2.mono B1.out.size))
    clear hb2
    go_wp2
    go_ret
    exact ⟨rfl, B2.out⟩
  · go_enter Tryz.func68, Tryz.ntmps68
    go_wp2_with fail
    refine (HCH.out _).mono ?_
    rintro e w1 ⟨rfl, hb1⟩
    have B1 := Lib.hid hb1
    clear hb1
    go_wp2_with fail
    refine (HSG.out _).mono ?_
    rintro e w2 ⟨rfl, hb2⟩
    have B2 := Lib.hid (B1.out.trans (hb2.mono B1.out.size))
    clear hb2
    go_wp2_with fail
    refine (HOR.out _).mono ?_
    rintro e w3 ⟨rfl, hb3⟩
    have B3 := Lib.hid (B2.out.trans (hb3.mono B2.out.size))
    clear hb3
    go_wp2
    go_ret
    exact ⟨rfl, B3.out⟩
  · go_enter Tryz.func68, Tryz.ntmps68
    go_wp2_with fail
    refine (HCH.out _).mono ?_
    rintro e w1 ⟨rfl, hb1⟩
    have B1 := Lib.hid hb1
    clear hb1
    go_wp2_with fail
    refine (HSG.out _).mono ?_
    rintro e w2 ⟨rfl, hb2⟩
    have B2 := Lib.hid (B1.out.trans (hb2.mono B1.out.size))
    clear hb2
    go_wp2_with fail
    refine (HOR.out _).mono ?_
    rintro e w3 ⟨rfl, hb3⟩
    have B3 := Lib.hid (B2.out.trans (hb3.mono B2.out.size))
    clear hb3
    go_wp2
    go_ret
    exact ⟨rfl, B3.out⟩

set_option maxRecDepth 100000 in
theorem runit_bad (s : ByteArray) (w : World) (hs : s.size ≤ 400000) (h : rChk s ≠ 0) : Calls Tryz.prog 68 #[.string s] w fun e w' => e = .returned (.int .i64 (rChk s)) ∧ Below w.heap.size w w' := by
  have HCH := Lib.hid (fun w => rcheck02 s w hs)
  obtain ⟨v, hv⟩ : ∃ v, rChk s = v := ⟨_, rfl⟩
  rw [hv] at HCH h ⊢
  have h2 : (v != 0) = true := by simpa using h
  clear hs hv
  go_enter Tryz.func68, Tryz.ntmps68
  go_wp2_with fail
  refine (HCH.out _).mono ?_
  rintro e w1 ⟨rfl, hb1⟩
  have B1 := Lib.hid hb1
  clear hb1
  go_wp2
  go_ret
  exact ⟨rfl, B1.out⟩

/-! the program's -/
set_option maxRecDepth 100000 in
theorem parts_bad (s : ByteArray) (w : World) (hs : s.size ≤ 400000) (h : rChk s ≠ 0) (he : Env w) : Calls Tryz.prog 59 #[.string s] w fun e w' => e = .returned (.tuple #[.string ⟨#[]⟩, .string ⟨#[]⟩, .int .i64 (rChk s)]) ∧ Below w.heap.size w w' := by
  have HCH := Lib.hid (fun w he => rcheck_any s w (by omega) he)
  have HE := Lib.hid he
  obtain ⟨v, hv⟩ : ∃ v, rChk s = v := ⟨_, rfl⟩
  rw [hv] at HCH h ⊢
  have h2 : (v != 0) = true := by simpa using h
  clear hs hv he
  go_enter Tryz.func59, Tryz.ntmps59
  go_wp2_with fail
  refine (HCH.out _ HE.out).mono ?_
  rintro e w1 ⟨rfl, hb1⟩
  have B1 := Lib.hid hb1
  clear hb1
  go_wp2
  go_ret3
  exact ⟨rfl, B1.out⟩
set_option maxRecDepth 100000 in
theorem sign_bad (s : ByteArray) (w : World) (hs : s.size ≤ 400000) (h : rChk s ≠ 0) (he : Env w) : Calls Tryz.prog 105 #[.string s] w fun e w' => e = .returned (.tuple #[.int .i64 0, .int .i64 (rChk s)]) ∧ Below w.heap.size w w' := by
  have HCH := Lib.hid (fun w he => parts_bad s w hs h he)
  have HE := Lib.hid he
  obtain ⟨v, hv⟩ : ∃ v, rChk s = v := ⟨_, rfl⟩
  rw [hv] at HCH h ⊢
  have h2 : (v != 0) = true := by simpa using h
  clear hs hv he
  go_enter Tryz.func105, Tryz.ntmps105
  go_wp2_with fail
  refine (HCH.out _ HE.out).mono ?_
  rintro e w1 ⟨rfl, hb1⟩
  have B1 := Lib.hid hb1
  clear hb1
  go_wp2
  go_ret2
  exact ⟨rfl, B1.out⟩
set_option maxRecDepth 100000 in
theorem unit_bad (s : ByteArray) (w : World) (hs : s.size ≤ 400000) (h : rChk s ≠ 0) (he : Env w) : Calls Tryz.prog 58 #[.string s] w fun e w' => e = .returned (.int .i64 (rChk s)) ∧ Below w.heap.size w w' := by
  have HCH := Lib.hid (fun w he => sign_bad s w hs h he)
  have HE := Lib.hid he
  obtain ⟨v, hv⟩ : ∃ v, rChk s = v := ⟨_, rfl⟩
  rw [hv] at HCH h ⊢
  have h2 : (v != 0) = true := by simpa using h
  clear hs hv he
  go_enter Tryz.func58, Tryz.ntmps58
  go_wp2_with fail
  refine (HCH.out _ HE.out).mono ?_
  rintro e w1 ⟨rfl, hb1⟩
  have B1 := Lib.hid hb1
  clear hb1
  go_wp2
  go_ret
  exact ⟨rfl, B1.out⟩

set_option maxRecDepth 100000 in
theorem Binomial_chk (N C : Int) (s : ByteArray) (w : World) (h : chkP N C = 2) :
    Calls Tryz.prog 25 #[pl N C, .string s] w fun e w' => e = .returned (.tuple #[.string ⟨#[]⟩, .int .i64 2]) ∧ Below w.heap.size w w' := by
  have HG := Lib.hid h
  obtain ⟨c0, c1⟩ := two_cells w (.int .i64 N) (.int .i64 C) 30
  have HB0 := Lib.hid ((Below.refl w.heap.size w).alloc (Nat.le_refl _) (.cells #[.int .i64 N, .int .i64 C] 30))
  unfold pl
  clear h
  go_enter Tryz.func25, Tryz.ntmps25
  go_wp2_with fail
  refine (pcheck_any N C _).mono ?_
  rintro e w1 ⟨rfl, hb1⟩
  rw [HG.out]
  have HB1 := Lib.hid (HB0.out.trans (hb1.mono HB0.out.size))
  clear hb1
  go_wp2
  go_ret2
  exact ⟨rfl, HB1.out⟩
set_option maxRecDepth 100000 in
theorem Binomial_unit (N C : Int) (s : ByteArray) (v : Int) (w : World) (he : Env w) (h : chkP N C = 0) (hv : v ≠ 0)
    (hU : ∀ w, Env w → Calls Tryz.prog 58 #[.string s] w fun e w' => e = .returned (.int .i64 v) ∧ Below w.heap.size w w') :
    Calls Tryz.prog 25 #[pl N C, .string s] w fun e w' => e = .returned (.tuple #[.string ⟨#[]⟩, .int .i64 v]) ∧ Below w.heap.size w w' := by
  have HG := Lib.hid h
  have HU := Lib.hid hU
  have HE := Lib.hid he
  have h2 : (v != 0) = true := by simpa using hv
  obtain ⟨c0, c1⟩ := two_cells w (.int .i64 N) (.int .i64 C) 30
  have HB0 := Lib.hid ((Below.refl w.heap.size w).alloc (Nat.le_refl _) (.cells #[.int .i64 N, .int .i64 C] 30))
  unfold pl
  clear h he hU
  go_enter Tryz.func25, Tryz.ntmps25
  go_wp2_with fail
  refine (pcheck_any N C _).mono ?_
  rintro e w1 ⟨rfl, hb1⟩
  rw [HG.out]
  have HB1 := Lib.hid (HB0.out.trans (hb1.mono HB0.out.size))
  clear hb1
  go_wp2_with fail
  refine (HU.out _ (HE.out.below HB1.out)).mono ?_
  rintro e w2 ⟨rfl, hb2⟩
  have HB2 := Lib.hid (HB1.out.trans (hb2.mono HB1.out.size))
  clear hb2
  go_wp2
  go_ret2
  exact ⟨rfl, HB2.out⟩

set_option maxRecDepth 100000 in
theorem rBinomial_chk (N C : Int) (s : ByteArray) (w : World) (h : chkP N C = 2) :
    Calls Tryz.prog 27 #[pl N C, .string s] w fun e w' => e = .returned (.tuple #[.string ⟨#[]⟩, .int .i64 2]) ∧ Below w.heap.size w w' := by
  have HG := Lib.hid h
  obtain ⟨c0, c1⟩ := two_cells w (.int .i64 N) (.int .i64 C) 23
  have HB0 := Lib.hid ((Below.refl w.heap.size w).alloc (Nat.le_refl _) (.cells #[.int .i64 N, .int .i64 C] 23))
  unfold pl
  clear h
  go_enter Tryz.func27, Tryz.ntmps27
  go_wp2_with fail
  refine (rchk54_any N C _).mono ?_
  rintro e w1 ⟨rfl, hb1⟩
  rw [HG.out]
  have HB1 := Lib.hid (HB0.out.trans (hb1.mono HB0.out.size))
  clear hb1
  go_wp2
  go_ret2
  exact ⟨rfl, HB1.out⟩
set_option maxRecDepth 100000 in
theorem rBinomial_unit (N C : Int) (s : ByteArray) (v : Int) (w : World) (h : chkP N C = 0) (hv : v ≠ 0)
    (hU : ∀ w, Calls Tryz.prog 68 #[.string s] w fun e w' => e = .returned (.int .i64 v) ∧ Below w.heap.size w w') :
    Calls Tryz.prog 27 #[pl N C, .string s] w fun e w' => e = .returned (.tuple #[.string ⟨#[]⟩, .int .i64 v]) ∧ Below w.heap.size w w' := by
  have HG := Lib.hid h
  have HU := Lib.hid hU
  have h2 : (v != 0) = true := by simpa using hv
  obtain ⟨c0, c1⟩ := two_cells w (.int .i64 N) (.int .i64 C) 23
  have HB0 := Lib.hid ((Below.refl w.heap.size w).alloc (Nat.le_refl _) (.cells #[.int .i64 N, .int .i64 C] 23))
  unfold pl
  clear h hU
  go_enter Tryz.func27, Tryz.ntmps27
  go_wp2_with fail
  refine (rchk54_any N C _).mono ?_
  rintro e w1 ⟨rfl, hb1⟩
  rw [HG.out]
  have HB1 := Lib.hid (HB0.out.trans (hb1.mono HB0.out.size))
  clear hb1
  go_wp2_with fail
  refine (HU.out _).mono ?_
  rintro e w2 ⟨rfl, hb2⟩
  have HB2 := Lib.hid (HB1.out.trans (hb2.mono HB1.out.size))
  clear hb2
  go_wp2
  go_ret2
  exact ⟨rfl, HB2.out⟩

/-! Decide -/
def decE (N C B : Int) : Int := if chkP N C = 0 ∧ 0 ≤ B ∧ B ≤ N then 0 else 2
def decB (N C B : Int) : Bool := if chkP N C = 0 ∧ 0 ≤ B ∧ B ≤ N then decide (B ≤ C) else false
def DecEnd (N C B : Int) (w : World) (e : Ending) (w' : World) : Prop := e = .returned (.tuple #[.bool (decB N C B), .int .i64 (decE N C B)]) ∧ Below w.heap.size w w'

set_option maxRecDepth 100000 in
theorem pdecide (N C B : Int) (w : World) : Calls Tryz.prog 28 #[pl N C, .int .i64 B] w (DecEnd N C B w) := by
  have HG := Lib.hid (fun w => pcheck_any N C w)
  obtain ⟨c0, c1⟩ := two_cells w (.int .i64 N) (.int .i64 C) 30
  have HB0 := Lib.hid ((Below.refl w.heap.size w).alloc (Nat.le_refl _) (.cells #[.int .i64 N, .int .i64 C] 30))
  have HSZ := Lib.hid (show (w.alloc (.cells #[.int .i64 N, .int .i64 C] 30)).heap.size = w.heap.size + 1 by simp)
  have hc := chkP_two N C
  obtain ⟨b, hb⟩ : ∃ b, decB N C B = b := ⟨_, rfl⟩
  obtain ⟨v, hv⟩ : ∃ v, decE N C B = v := ⟨_, rfl⟩
  have hw : (chkP N C = 2 ∧ b = false ∧ v = 2) ∨ (chkP N C = 0 ∧ B < 0 ∧ b = false ∧ v = 2) ∨ (chkP N C = 0 ∧ ¬ B < 0 ∧ N < B ∧ b = false ∧ v = 2) ∨ (chkP N C = 0 ∧ ¬ B < 0 ∧ ¬ N < B ∧ b = decide (B ≤ C) ∧ v = 0) := by
    unfold decB at hb
    unfold decE at hv
    by_cases hh : chkP N C = 0 ∧ 0 ≤ B ∧ B ≤ N
    · rw [if_pos hh] at hb hv
      exact .inr (.inr (.inr ⟨hh.1, by omega, by omega, hb.symm, hv.symm⟩))
    · rw [if_neg hh] at hb hv
      rcases hc with hc | hc
      · exact .inl ⟨hc, hb.symm, hv.symm⟩
      · by_cases h1 : B < 0
        · exact .inr (.inl ⟨hc.1, h1, hb.symm, hv.symm⟩)
        · exact .inr (.inr (.inl ⟨hc.1, h1, Classical.byContradiction fun h2 => hh ⟨hc.1, by omega, by omega⟩, hb.symm, hv.symm⟩))
  unfold DecEnd
  rw [hb, hv]
  clear hb hv hc
  unfold pl at HG ⊢
  rcases hw with ⟨h0, rfl, rfl⟩ | ⟨h0, h1, rfl, rfl⟩ | ⟨h0, h1, h2, rfl, rfl⟩ | ⟨h0, h1, h2, rfl, rfl⟩
  · rw [h0] at HG
    clear h0
    go_enter Tryz.func28, Tryz.ntmps28
    go_wp2_with fail
    refine (HG.out _).mono ?_
    rintro e w1 ⟨rfl, hb1⟩
    have HB1 := Lib.hid (HB0.out.trans (hb1.mono HB0.out.size))
    have d0 := (hb1.cell (p := ⟨w.heap.size, 0, none⟩) (by rw [HSZ.out]; exact Nat.lt_succ_self _)).trans c0
    have d1 := (hb1.cell (p := ⟨w.heap.size, 1, none⟩) (by rw [HSZ.out]; exact Nat.lt_succ_self _)).trans c1
    clear hb1 c0 c1
    go_wp2
    go_ret2
    exact ⟨rfl, HB1.out⟩
  · rw [h0] at HG
    clear h0
    go_enter Tryz.func28, Tryz.ntmps28
    go_wp2_with fail
    refine (HG.out _).mono ?_
    rintro e w1 ⟨rfl, hb1⟩
    have HB1 := Lib.hid (HB0.out.trans (hb1.mono HB0.out.size))
    have d0 := (hb1.cell (p := ⟨w.heap.size, 0, none⟩) (by rw [HSZ.out]; exact Nat.lt_succ_self _)).trans c0
    have d1 := (hb1.cell (p := ⟨w.heap.size, 1, none⟩) (by rw [HSZ.out]; exact Nat.lt_succ_self _)).trans c1
    clear hb1 c0 c1
    go_wp2
    go_ret2
    exact ⟨rfl, HB1.out⟩
  · rw [h0] at HG
    clear h0
    go_enter Tryz.func28, Tryz.ntmps28
    go_wp2_with fail
    refine (HG.out _).mono ?_
    rintro e w1 ⟨rfl, hb1⟩
    have HB1 := Lib.hid (HB0.out.trans (hb1.mono HB0.out.size))
    have d0 := (hb1.cell (p := ⟨w.heap.size, 0, none⟩) (by rw [HSZ.out]; exact Nat.lt_succ_self _)).trans c0
    have d1 := (hb1.cell (p := ⟨w.heap.size, 1, none⟩) (by rw [HSZ.out]; exact Nat.lt_succ_self _)).trans c1
    clear hb1 c0 c1
    go_wp2
    go_ret2
    exact ⟨rfl, HB1.out⟩
  · rw [h0] at HG
    clear h0
    go_enter Tryz.func28, Tryz.ntmps28
    go_wp2_with fail
    refine (HG.out _).mono ?_
    rintro e w1 ⟨rfl, hb1⟩
    have HB1 := Lib.hid (HB0.out.trans (hb1.mono HB0.out.size))
    have d0 := (hb1.cell (p := ⟨w.heap.size, 0, none⟩) (by rw [HSZ.out]; exact Nat.lt_succ_self _)).trans c0
    have d1 := (hb1.cell (p := ⟨w.heap.size, 1, none⟩) (by rw [HSZ.out]; exact Nat.lt_succ_self _)).trans c1
    clear hb1 c0 c1
    go_wp2
    go_ret2
    exact ⟨rfl, HB1.out⟩

set_option maxRecDepth 100000 in
theorem rdecide (N C B : Int) (w : World) : Calls Tryz.prog 29 #[pl N C, .int .i64 B] w (DecEnd N C B w) := by
  have HG := Lib.hid (fun w => rchk54_any N C w)
  obtain ⟨c0, c1⟩ := two_cells w (.int .i64 N) (.int .i64 C) 23
  have HB0 := Lib.hid ((Below.refl w.heap.size w).alloc (Nat.le_refl _) (.cells #[.int .i64 N, .int .i64 C] 23))
  have HSZ := Lib.hid (show (w.alloc (.cells #[.int .i64 N, .int .i64 C] 23)).heap.size = w.heap.size + 1 by simp)
  have hc := chkP_two N C
  obtain ⟨b, hb⟩ : ∃ b, decB N C B = b := ⟨_, rfl⟩
  obtain ⟨v, hv⟩ : ∃ v, decE N C B = v := ⟨_, rfl⟩
  have hw : (chkP N C = 2 ∧ b = false ∧ v = 2) ∨ (chkP N C = 0 ∧ B < 0 ∧ b = false ∧ v = 2) ∨ (chkP N C = 0 ∧ ¬ B < 0 ∧ N < B ∧ b = false ∧ v = 2) ∨ (chkP N C = 0 ∧ ¬ B < 0 ∧ ¬ N < B ∧ b = decide (B ≤ C) ∧ v = 0) := by
    unfold decB at hb
    unfold decE at hv
    by_cases hh : chkP N C = 0 ∧ 0 ≤ B ∧ B ≤ N
    · rw [if_pos hh] at hb hv
      exact .inr (.inr (.inr ⟨hh.1, by omega, by omega, hb.symm, hv.symm⟩))
    · rw [if_neg hh] at hb hv
      rcases hc with hc | hc
      · exact .inl ⟨hc, hb.symm, hv.symm⟩
      · by_cases h1 : B < 0
        · exact .inr (.inl ⟨hc.1, h1, hb.symm, hv.symm⟩)
        · exact .inr (.inr (.inl ⟨hc.1, h1, Classical.byContradiction fun h2 => hh ⟨hc.1, by omega, by omega⟩, hb.symm, hv.symm⟩))
  unfold DecEnd
  rw [hb, hv]
  clear hb hv hc
  unfold pl at HG ⊢
  rcases hw with ⟨h0, rfl, rfl⟩ | ⟨h0, h1, rfl, rfl⟩ | ⟨h0, h1, h2, rfl, rfl⟩ | ⟨h0, h1, h2, rfl, rfl⟩
  · rw [h0] at HG
    clear h0
    go_enter Tryz.func29, Tryz.ntmps29
    go_wp2_with fail
    refine (HG.out _).mono ?_
    rintro e w1 ⟨rfl, hb1⟩
    have HB1 := Lib.hid (HB0.out.trans (hb1.mono HB0.out.size))
    have d0 := (hb1.cell (p := ⟨w.heap.size, 0, none⟩) (by rw [HSZ.out]; exact Nat.lt_succ_self _)).trans c0
    have d1 := (hb1.cell (p := ⟨w.heap.size, 1, none⟩) (by rw [HSZ.out]; exact Nat.lt_succ_self _)).trans c1
    clear hb1 c0 c1
    go_wp2
    go_ret2
    exact ⟨rfl, HB1.out⟩
  · rw [h0] at HG
    clear h0
    go_enter Tryz.func29, Tryz.ntmps29
    go_wp2_with fail
    refine (HG.out _).mono ?_
    rintro e w1 ⟨rfl, hb1⟩
    have HB1 := Lib.hid (HB0.out.trans (hb1.mono HB0.out.size))
    have d0 := (hb1.cell (p := ⟨w.heap.size, 0, none⟩) (by rw [HSZ.out]; exact Nat.lt_succ_self _)).trans c0
    have d1 := (hb1.cell (p := ⟨w.heap.size, 1, none⟩) (by rw [HSZ.out]; exact Nat.lt_succ_self _)).trans c1
    clear hb1 c0 c1
    go_wp2
    go_ret2
    exact ⟨rfl, HB1.out⟩
  · rw [h0] at HG
    clear h0
    go_enter Tryz.func29, Tryz.ntmps29
    go_wp2_with fail
    refine (HG.out _).mono ?_
    rintro e w1 ⟨rfl, hb1⟩
    have HB1 := Lib.hid (HB0.out.trans (hb1.mono HB0.out.size))
    have d0 := (hb1.cell (p := ⟨w.heap.size, 0, none⟩) (by rw [HSZ.out]; exact Nat.lt_succ_self _)).trans c0
    have d1 := (hb1.cell (p := ⟨w.heap.size, 1, none⟩) (by rw [HSZ.out]; exact Nat.lt_succ_self _)).trans c1
    clear hb1 c0 c1
    go_wp2
    go_ret2
    exact ⟨rfl, HB1.out⟩
  · rw [h0] at HG
    clear h0
    go_enter Tryz.func29, Tryz.ntmps29
    go_wp2_with fail
    refine (HG.out _).mono ?_
    rintro e w1 ⟨rfl, hb1⟩
    have HB1 := Lib.hid (HB0.out.trans (hb1.mono HB0.out.size))
    have d0 := (hb1.cell (p := ⟨w.heap.size, 0, none⟩) (by rw [HSZ.out]; exact Nat.lt_succ_self _)).trans c0
    have d1 := (hb1.cell (p := ⟨w.heap.size, 1, none⟩) (by rw [HSZ.out]; exact Nat.lt_succ_self _)).trans c1
    clear hb1 c0 c1
    go_wp2
    go_ret2
    exact ⟨rfl, HB1.out⟩
end Go.Proofs.YtfebiipggcgmdaaGreatDoor
