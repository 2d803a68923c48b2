import Derived.Test.YtfebiipggcgmdaaGreatDoorC5
namespace Go.Proofs.YtfebiipggcgmdaaGreatDoor
open Go.RowKit

set_option maxRecDepth 100000 in
set_option maxHeartbeats 1600000 in
theorem chooses_out (L G B : Int) (s1 s2 : ByteArray) (b1 b2 : Bool) (w : World) (he : Env w) (h : (7 < L ∧ L ≤ 64) ∨ b1 = false ∨ b2 = false)
    (hS1 : ∀ w, Calls Tryz.prog 20 #[.string s1] w fun e w' => e = .returned (.bool b1) ∧ Below w.heap.size w w')
    (hS2 : ∀ w, Calls Tryz.prog 20 #[.string s2] w fun e w' => e = .returned (.bool b2) ∧ Below w.heap.size w w') :
    Calls Tryz.prog 4 #[nd L G B s1 s2] w fun e w' => e = .returned (.bool true) ∧ Below w.heap.size w w' := by
  have HE := Lib.hid he
  have H1 := Lib.hid hS1
  have H2 := Lib.hid hS2
  have hw : (7 < L ∧ L ≤ 64) ∨ (¬ 7 < L ∧ b1 = false) ∨ (7 < L ∧ ¬ L ≤ 64 ∧ b1 = false) ∨ (¬ 7 < L ∧ b1 = true ∧ b2 = false) ∨ (7 < L ∧ ¬ L ≤ 64 ∧ b1 = true ∧ b2 = false) := by
    by_cases g1 : 7 < L
    · by_cases g2 : L ≤ 64
      · exact .inl ⟨g1, g2⟩
      · cases b1
        · exact .inr (.inr (.inl ⟨g1, g2, rfl⟩))
        · exact .inr (.inr (.inr (.inr ⟨g1, g2, rfl, (h.resolve_left (fun h => g2 h.2)).resolve_left (fun h => by cases h)⟩)))
    · cases b1
      · exact .inr (.inl ⟨g1, rfl⟩)
      · exact .inr (.inr (.inr (.inl ⟨g1, rfl, (h.resolve_left (fun h => g1 h.1)).resolve_left (fun h => by cases h)⟩)))
  have HX0 := Lib.hid (IsNd.new w L G B s1 s2)
  have HQ0 := Lib.hid ((Below.refl w.heap.size w).alloc (Nat.le_refl _) (.cells #[.int .i64 L, .int .i64 G, .int .i64 B, .string s1, .string s2] 38))
  unfold nd
  clear he h hS1 hS2
  rcases hw with ⟨g1, g2⟩ | ⟨g1, rfl⟩ | ⟨g1, g2, rfl⟩ | ⟨g1, rfl, rfl⟩ | ⟨g1, g2, rfl, rfl⟩
  · obtain ⟨k0, k1, k2, k3, k4, -⟩ := HX0.out
    go_enter Tryz.func4, Tryz.ntmps4
    go_wp2_with fail
    refine (awake_any _ (HE.out.below HQ0.out)).mono ?_
    rintro e wa ⟨rfl, hba⟩
    have HQA := Lib.hid (HQ0.out.trans (hba.mono HQ0.out.size))
    clear hba k0 k1 k2 k3 k4
    go_wp2
    go_ret
    exact ⟨rfl, HQA.out⟩
  · obtain ⟨k0, k1, k2, k3, k4, -⟩ := HX0.out
    go_enter Tryz.func4, Tryz.ntmps4
    go_wp2_with fail
    refine (H1.out _).mono ?_
    rintro e w1 ⟨rfl, hb1⟩
    have HQ1 := Lib.hid (HQ0.out.trans (hb1.mono HQ0.out.size))
    clear hb1 k0 k1 k2 k3 k4
    go_wp2_with fail
    refine (awake_any _ (HE.out.below HQ1.out)).mono ?_
    rintro e wa ⟨rfl, hba⟩
    have HQA := Lib.hid (HQ1.out.trans (hba.mono HQ1.out.size))
    clear hba
    go_wp2
    go_ret
    exact ⟨rfl, HQA.out⟩
  · obtain ⟨k0, k1, k2, k3, k4, -⟩ := HX0.out
    go_enter Tryz.func4, Tryz.ntmps4
    go_wp2_with fail
    refine (H1.out _).mono ?_
    rintro e w1 ⟨rfl, hb1⟩
    have HQ1 := Lib.hid (HQ0.out.trans (hb1.mono HQ0.out.size))
    clear hb1 k0 k1 k2 k3 k4
    go_wp2_with fail
    refine (awake_any _ (HE.out.below HQ1.out)).mono ?_
    rintro e wa ⟨rfl, hba⟩
    have HQA := Lib.hid (HQ1.out.trans (hba.mono HQ1.out.size))
    clear hba
    go_wp2
    go_ret
    exact ⟨rfl, HQA.out⟩
  all_goals
    obtain ⟨k0, k1, k2, k3, k4, -⟩ := HX0.out
    go_enter Tryz.func4, Tryz.ntmps4
    go_wp2_with fail
    refine (H1.out _).mono ?_
    rintro e w1 ⟨rfl, hb1⟩
    have HQ1 := Lib.hid (HQ0.out.trans (hb1.mono HQ0.out.size))
    have HX1 := Lib.hid (HX0.out.below hb1)
    clear hb1 k0 k1 k2 k3 k4
    obtain ⟨k0, k1, k2, k3, k4, -⟩ := HX1.out
    go_wp2_with fail
    refine (H2.out _).mono ?_
    rintro e w2 ⟨rfl, hb2⟩
    have HQ2 := Lib.hid (HQ1.out.trans (hb2.mono HQ1.out.size))
    clear hb2 k0 k1 k2 k3 k4
    go_wp2_with fail
    refine (awake_any _ (HE.out.below HQ2.out)).mono ?_
    rintro e wa ⟨rfl, hba⟩
    have HQA := Lib.hid (HQ2.out.trans (hba.mono HQ2.out.size))
    clear hba
    go_wp2
    go_ret
    exact ⟨rfl, HQA.out⟩

/-! ## the least plan -/
theorem least_nat {P : Nat → Prop} (h : ∃ n, P n) : ∃ n, P n ∧ ∀ m, m < n → ¬ P m := by
  obtain ⟨n, hn⟩ := h
  induction n using Nat.strongRecOn with
  | _ n ih =>
    by_cases hs : ∃ m, m < n ∧ P m
    · obtain ⟨m, hm, hp⟩ := hs
      exact ih m hm hp
    · exact ⟨n, hn, fun m hm hp => hs ⟨m, hm, hp⟩⟩
def lastB (lot : Nat) : Bool := (List.range (lot + 1)).all fun G => good lot G lot G == 1 && (List.range (lot + 1)).all fun B => decide (B ≤ G) || good lot G lot B == 0
theorem last_ok : (List.range 10).all lastB = true := by decide +kernel
theorem last_at {lot G B : Nat} (hL : lot ≤ 9) (hG : G < B) (hB : B ≤ lot) : good lot G lot G = 1 ∧ good lot G lot B = 0 := by
  have h1 := List.all_eq_true.1 last_ok lot (List.mem_range.2 (by omega))
  unfold lastB at h1
  have h2 := List.all_eq_true.1 h1 G (List.mem_range.2 (by omega))
  simp only [Bool.and_eq_true, beq_iff_eq] at h2
  have h3 := List.all_eq_true.1 h2.2 B (List.mem_range.2 (by omega))
  simp only [Bool.or_eq_true, decide_eq_true_eq, beq_iff_eq] at h3
  exact ⟨h2.1, h3.resolve_left (by omega)⟩
theorem meets_last {lot G B : Nat} {p q : Rat} (hL : lot ≤ 9) (hG : G < B) (hB : B ≤ lot) (hp : 0 ≤ p.num) (hq : 0 ≤ q.num) : Meets lot G B p q lot G := by
  obtain ⟨h1, h2⟩ := last_at hL hG hB
  unfold Meets pa
  rw [h1, h2, ch_self]
  constructor
  · rw [one_sub, mkRat_le_iff p.den_pos (by omega)]
    show ((p.den : Int) - p.num) * 1 ≤ 1 * (p.den : Int)
    omega
  · rw [show mkRat ((0 : Nat) : Int) 1 = 0 from rfl, Rat.le_iff]
    show 0 * (q.den : Int) ≤ q.num * 1
    omega
theorem least_plan {lot G B : Nat} {p q : Rat} (hL : lot ≤ 9) (hG : G < B) (hB : B ≤ lot) (hp : 0 ≤ p.num) (hq : 0 ≤ q.num) :
    ∃ n0 c0, 1 ≤ n0 ∧ n0 ≤ lot ∧ c0 ≤ n0 ∧ Meets lot G B p q n0 c0 ∧ ∀ n c, 1 ≤ n → c ≤ n → n < n0 ∨ n = n0 ∧ c < c0 → ¬ Meets lot G B p q n c := by
  have hl := meets_last (p := p) (q := q) hL hG hB hp hq
  obtain ⟨n0, ⟨h1, c1, h2, h3⟩, hn⟩ := least_nat (P := fun n => 1 ≤ n ∧ ∃ c, c ≤ n ∧ Meets lot G B p q n c) ⟨lot, by omega, G, by omega, hl⟩
  obtain ⟨c0, ⟨h4, h5⟩, hc⟩ := least_nat (P := fun c => c ≤ n0 ∧ Meets lot G B p q n0 c) ⟨c1, h2, h3⟩
  refine ⟨n0, c0, h1, ?_, h4, h5, ?_⟩
  · exact Nat.le_of_not_lt fun h => hn lot h ⟨by omega, G, by omega, hl⟩
  · intro n c g1 g2 g3 gm
    rcases g3 with g3 | ⟨rfl, g3⟩
    · exact hn n g3 ⟨g1, c, g2, gm⟩
    · exact hc c g3 ⟨g2, gm⟩

/-! ## short texts -/
theorem spl_total {l n d : List UInt8} {wr : Bool} (h : splL l = (n, d, wr)) : l.length ≤ n.length + 1 + d.length := by
  unfold splL at h
  cases hc : cutL 47 l with
  | none =>
    rw [hc] at h
    simp only [Prod.mk.injEq] at h
    obtain ⟨rfl, rfl, -⟩ := h
    omega
  | some p =>
    obtain ⟨a, b⟩ := p
    rw [hc] at h
    simp only [Prod.mk.injEq] at h
    obtain ⟨rfl, rfl, -⟩ := h
    obtain ⟨rfl, -⟩ := cutL_some hc
    simp
    omega
theorem sm_size {q : Rat} (h : (rt q).size ≤ 250) : sm SML q := by
  have h5 : (rt q).size = (rt q).data.toList.length := by rw [Array.length_toList]; rfl
  rw [h5, rt_list] at h
  have hl := itoa_length q.num
  have h250 : (10 : Nat) ^ 250 ≤ P500 := Nat.pow_le_pow_right (by omega) (by unfold SML; omega)
  by_cases hd : q.den = 1
  · rw [if_pos hd] at h
    exact ⟨Nat.lt_of_lt_of_le ((dl_le_iff (k := 250) (by omega)).1 (by split at hl <;> omega)) h250, by rw [hd]; exact one_P500⟩
  · rw [if_neg hd] at h
    have h2 : (Lib.decDigits q.den).length = dl (q.den : Int) := by rw [Lib.decDigits_length]; rfl
    simp at h
    refine ⟨Nat.lt_of_lt_of_le ((dl_le_iff (k := 250) (by omega)).1 (by split at hl <;> omega)) h250, Nat.lt_of_lt_of_le ?_ h250⟩
    have := (dl_le_iff (z := (q.den : Int)) (k := 250) (by omega)).1 (by omega)
    rw [Int.natAbs_natCast] at this
    exact this
theorem uP_two (q : Rat) : uP q = 2 ∨ uP q = 0 ∧ 0 ≤ q.num ∧ q.num ≤ (q.den : Int) := by
  unfold uP
  split
  · exact .inl rfl
  · exact .inr ⟨rfl, by omega, by omega⟩
/-- the error of a text as a probability, where it is one -/
theorem unit_ex (s : ByteArray) (hs : s.size ≤ 250) : ∃ u : Int, (u = 2 ∨ u = 0) ∧ (rChk s = 0 → ErrIs 58 s u ∧ ErrR 68 s u ∧ ∀ q, s = rt q → uP q = u) := by
  by_cases h : rChk s = 0
  · obtain ⟨q, rfl, hq⟩ := rChk_zero h
    exact ⟨uP q, (uP_two q).imp id And.left, fun _ => ⟨fun w he => unit_any q w (sm_size hs) he, fun w => runit_rt q w hq, fun q2 e => by rw [rt_inj e]⟩⟩
  · exact ⟨0, .inr rfl, fun e => absurd e h⟩

/-- PlanChooses answers true at every input. -/
theorem chooses_any (L G B : Int) (s1 s2 : ByteArray) (w : World) (he : Env w) (h1 : s1.size ≤ 9223372036854775807) (h2 : s2.size ≤ 9223372036854775807) :
    Calls Tryz.prog 4 #[nd L G B s1 s2] w fun e w' => e = .returned (.bool true) ∧ Below w.heap.size w w' := by
  obtain ⟨n1, d1, w1, p1⟩ : ∃ n d wr, splL s1.data.toList = (n, d, wr) := ⟨_, _, _, rfl⟩
  obtain ⟨n2, d2, w2, p2⟩ : ∃ n d wr, splL s2.data.toList = (n, d, wr) := ⟨_, _, _, rfl⟩
  have S1 := fun w => short_any s1 n1 d1 w1 w h1 p1
  have S2 := fun w => short_any s2 n2 d2 w2 w h2 p2
  by_cases hout : (7 < L ∧ L ≤ 64) ∨ decide (n1.length ≤ 30 ∧ d1.length ≤ 30) = false ∨ decide (n2.length ≤ 30 ∧ d2.length ≤ 30) = false
  · exact chooses_out L G B s1 s2 _ _ w he hout S1 S2
  · simp only [not_or, Bool.not_eq_false] at hout
    obtain ⟨hL, e1, e2⟩ := hout
    rw [e1] at S1
    rw [e2] at S2
    have e1 := of_decide_eq_true e1
    have e2 := of_decide_eq_true e2
    have z1 : s1.size ≤ 61 := by have := spl_total p1; rw [Array.length_toList] at this; have e : s1.data.size = s1.size := rfl; omega
    have z2 : s2.size ≤ 61 := by have := spl_total p2; rw [Array.length_toList] at this; have e : s2.data.size = s2.size := rfl; omega
    by_cases hn : 1 ≤ L ∧ L ≤ 64 ∧ 0 ≤ G ∧ G < B ∧ B ≤ L
    · obtain ⟨g1, g2, g3, g4, g5⟩ := hn
      have c1 : ErrIs 98 s1 (rChk s1) := fun w he => rcheck_any s1 w (by omega) he
      have c2 : ErrIs 98 s2 (rChk s2) := fun w he => rcheck_any s2 w (by omega) he
      have r1 : ErrR 33 s1 (rChk s1) := fun w => rcheck02 s1 w (by omega)
      have r2 : ErrR 33 s2 (rChk s2) := fun w => rcheck02 s2 w (by omega)
      obtain ⟨u1, hu1, x1⟩ := unit_ex s1 (by omega)
      obtain ⟨u2, hu2, x2⟩ := unit_ex s2 (by omega)
      obtain ⟨v, hv⟩ : ∃ v : Int, v = if rChk s1 ≠ 0 then rChk s1 else if rChk s2 ≠ 0 then rChk s2 else if u1 ≠ 0 then u1 else u2 := ⟨_, rfl⟩
      have hv2 : v = if rChk s1 ≠ 0 then rChk s1 else if rChk s2 ≠ 0 then rChk s2 else if u1 ≠ 0 then 2 else if u2 ≠ 0 then 2 else 0 := by
        rw [hv]
        rcases hu1 with rfl | rfl <;> rcases hu2 with rfl | rfl <;> rfl
      have NE := fun w he => needs_txt L G B v _ _ u1 u2 s1 s2 w g1 g2 g3 g4 g5 c1 c2 (fun e => (x1 e).1) (fun e => (x2 e).1) hv he
      have RT := fun w => right_txt L G B v _ _ u1 u2 s1 s2 w g1 g2 g3 g4 g5 r1 r2 (fun e => (x1 e).2.1) (fun e => (x2 e).2.1) hv2
      by_cases hv0 : v = 0
      · have k1 : rChk s1 = 0 := Classical.byContradiction fun h => by rw [hv, if_pos h] at hv0; exact h hv0
        have k2 : rChk s2 = 0 := Classical.byContradiction fun h => by rw [hv, if_neg (not_not_intro k1), if_pos h] at hv0; exact h hv0
        obtain ⟨p, rfl, hp⟩ := rChk_zero k1
        obtain ⟨q, rfl, hq⟩ := rChk_zero k2
        have hup : uP p = 0 ∧ uP q = 0 := by
          have y1 : u1 = 0 := Classical.byContradiction fun h => by rw [hv, if_neg (not_not_intro k1), if_neg (not_not_intro k2), if_pos h] at hv0; exact h hv0
          have y2 : u2 = 0 := by rw [hv, if_neg (not_not_intro k1), if_neg (not_not_intro k2), if_neg (not_not_intro y1)] at hv0; exact hv0
          exact ⟨by rw [(x1 k1).2.2 p rfl]; exact y1, by rw [(x2 k2).2.2 q rfl]; exact y2⟩
        obtain ⟨l, rfl⟩ := Int.eq_ofNat_of_zero_le (show 0 ≤ L by omega)
        obtain ⟨g, rfl⟩ := Int.eq_ofNat_of_zero_le (show 0 ≤ G by omega)
        obtain ⟨b, rfl⟩ := Int.eq_ofNat_of_zero_le (show 0 ≤ B by omega)
        rcases uP_two p with up | ⟨up, up1, up2⟩
        · rw [hup.1] at up; cases up
        rcases uP_two q with uq | ⟨uq, uq1, uq2⟩
        · rw [hup.2] at uq; cases uq
        obtain ⟨n0, c0, m1, m2, m3, m4, m5⟩ := least_plan (lot := l) (G := g) (B := b) (p := p) (q := q) (by omega) (by omega) (by omega) up1 uq1
        subst hv0
        exact chooses_core l g b n0 c0 0 _ _ w he hL S1 S2 (fun w he => Least_ok l g b n0 c0 p q w (by omega) (by omega) (by omega) (sm_size (by omega)) (sm_size (by omega)) up uq m1 m2 m3 m4 m5 he)
          (fun w => rLeast_ok l g b n0 c0 p q w (by omega) (by omega) (by omega) ⟨bg_of_sm hp, up1⟩ up2 ⟨bg_of_sm hq, uq1⟩ m1 m2 m3 m4 m5 RT)
      · exact chooses_core L G B 0 0 v s1 s2 w he hL S1 S2 (fun w he => Least_bad L G B v s1 s2 w hv0 he NE) (fun w => rLeast_bad L G B v s1 s2 w hv0 RT)
    · obtain ⟨v, hv0, hw⟩ : ∃ v : Int, v ≠ 0 ∧ ((L < 1 ∧ v = 2) ∨ (¬ L < 1 ∧ 64 < L ∧ v = 2) ∨ (¬ L < 1 ∧ ¬ 64 < L ∧ ¬ (0 ≤ G ∧ G ≤ L) ∧ v = 2) ∨ (¬ L < 1 ∧ ¬ 64 < L ∧ (0 ≤ G ∧ G ≤ L) ∧ ¬ (0 ≤ B ∧ B ≤ L) ∧ v = 2) ∨ (¬ L < 1 ∧ ¬ 64 < L ∧ (0 ≤ G ∧ G ≤ L) ∧ (0 ≤ B ∧ B ≤ L) ∧ B ≤ G ∧ v = 9)) := by
        by_cases a1 : L < 1
        · exact ⟨2, by decide, .inl ⟨a1, rfl⟩⟩
        by_cases a2 : 64 < L
        · exact ⟨2, by decide, .inr (.inl ⟨a1, a2, rfl⟩)⟩
        by_cases a3 : 0 ≤ G ∧ G ≤ L
        · by_cases a4 : 0 ≤ B ∧ B ≤ L
          · exact ⟨9, by decide, .inr (.inr (.inr (.inr ⟨a1, a2, a3, a4, by omega, rfl⟩)))⟩
          · exact ⟨2, by decide, .inr (.inr (.inr (.inl ⟨a1, a2, a3, a4, rfl⟩)))⟩
        · exact ⟨2, by decide, .inr (.inr (.inl ⟨a1, a2, a3, rfl⟩))⟩
      exact chooses_core L G B 0 0 v s1 s2 w he hL S1 S2 (fun w he => Least_bad L G B v s1 s2 w hv0 he (fun w _ => needs_num L G B v s1 s2 w hw)) (fun w => rLeast_bad L G B v s1 s2 w hv0 (fun w => right_num L G B v s1 s2 w hw))
end Go.Proofs.YtfebiipggcgmdaaGreatDoor
