import Derived.Test.YtfebiipggcgmdaaGreatDoorP2
namespace Go.Proofs.YtfebiipggcgmdaaGreatDoor
open Go.RowKit

theorem rt_int (z : Int) : rt (z : Rat) = it z := by
  unfold rt; rw [if_pos (by rfl)]; rfl
theorem rt_one : rt 1 = ⟨#[49]⟩ := by rw [← it_one]; exact rt_int 1
theorem rt_zero : rt 0 = ⟨#[48]⟩ := by rw [← it_zero]; exact rt_int 0
theorem one_P500 : 1 < P500 := Nat.lt_of_le_of_lt TT_pos (lt_T1 (Nat.le_refl _))
theorem sm_one : sm SML 1 := ⟨one_P500, one_P500⟩
theorem sm_zero : sm SML 0 := ⟨Nat.lt_trans Nat.zero_lt_one one_P500, one_P500⟩
/-- the error of a probability -/
def uP (q : Rat) : Int := if q.num < 0 ∨ (q.den : Int) < q.num then 2 else 0

set_option maxRecDepth 100000 in
theorem unit_any (q : Rat) (w : World) (hq : sm SML q) (he : Env w) : Calls Tryz.prog 58 #[.string (rt q)] w fun e w' => e = .returned (.int .i64 (uP q)) ∧ Below w.heap.size w w' := by
  obtain ⟨v, hv⟩ : ∃ v, uP q = v := ⟨_, rfl⟩
  have HV := Lib.hid hv
  rw [hv]
  obtain ⟨n, hn⟩ : ∃ n, q.num.sign = n := ⟨_, rfl⟩
  obtain ⟨m, hm⟩ : ∃ m, (q.num * ((1 : Rat).den : Int) - (1 : Rat).num * (q.den : Int)).sign = m := ⟨_, rfl⟩
  have sg : ∀ z : Int, (z.sign < 0 ↔ z < 0) ∧ (0 < z.sign ↔ 0 < z) := fun z => by
    rcases Int.lt_trichotomy z 0 with h | h | h
    · rw [Int.sign_eq_neg_one_of_neg h]; omega
    · subst h; simp
    · rw [Int.sign_eq_one_of_pos h]; omega
  have hn2 : n < 0 ↔ q.num < 0 := by rw [← hn]; exact (sg _).1
  have hm2 : 0 < m ↔ (q.den : Int) < q.num := by
    rw [← hm]
    refine (sg _).2.trans ?_
    show 0 < q.num * 1 - 1 * (q.den : Int) ↔ _
    omega
  have HN := Lib.hid hn2
  have HM := Lib.hid hm2
  have HS := Lib.hid (fun w => sign_rt q w hq.big)
  rw [hn] at HS
  have HC := Lib.hid (fun w => rcompare_any q 1 w hq.big sm_one.big (by rw [show q.num * ((1 : Rat).den : Int) = q.num * 1 from rfl, Int.mul_one]; exact In.num hq.big) (by rw [show (1 : Rat).num * (q.den : Int) = 1 * q.den from rfl, Int.one_mul]; exact In.den hq.big))
  rw [hm] at HC
  have HR := Lib.hid rt_one
  have HE := Lib.hid he
  clear hv hn hm sg hn2 hm2 hq he
  go_enter Tryz.func58, Tryz.ntmps58
  go_wp2_with fail
  refine (HS.out _ HE.out).mono ?_
  rintro e w1 ⟨rfl, hb1⟩
  have HB1 := Lib.hid hb1
  clear hb1
  go_wp2_with fail
  rw [← HR.out]
  refine (HC.out _ (HE.out.below HB1.out)).mono ?_
  rintro e w2 ⟨rfl, hb2⟩
  have HB2 := Lib.hid (HB1.out.trans (hb2.mono HB1.out.size))
  clear hb2
  go_wp2
  all_goals go_ret
  all_goals refine ⟨?_, HB2.out⟩
  all_goals have hv := HV.out
  all_goals have hn := HN.out
  all_goals have hm := HM.out
  all_goals unfold uP at hv
  all_goals subst hv
  all_goals first
    | rw [if_pos (by omega)]; rfl
    | rw [if_neg (by omega)]; rfl
end Go.Proofs.YtfebiipggcgmdaaGreatDoor

namespace Go.Proofs.YtfebiipggcgmdaaGreatDoor
open Go.RowKit

theorem pw_le {a d n k : Nat} (h : a ≤ d) (hd : 0 < d) (hk : k ≤ n) : a ^ k ≤ d ^ n := Nat.le_trans (Nat.pow_le_pow_left h k) (Nat.pow_le_pow_right hd hk)
theorem in_prod {a b : Nat} (h1 : a < P500) (h2 : b < P500) : In ((a * b : Nat) : Int) := by
  rw [Int.natCast_mul]
  exact in_mul (by rw [Int.natAbs_natCast]; exact h1) (by rw [Int.natAbs_natCast]; exact h2)
theorem three_cells (w : World) (x y z : Value) (t : TypeId) : (w.alloc (.cells #[x, y, z] t)).cell? ⟨w.heap.size, 0, none⟩ = some x ∧ (w.alloc (.cells #[x, y, z] t)).cell? ⟨w.heap.size, 1, none⟩ = some y ∧ (w.alloc (.cells #[x, y, z] t)).cell? ⟨w.heap.size, 2, none⟩ = some z := by
  refine ⟨?_, ?_, ?_⟩ <;> (simp only [World.cell?, heap_alloc_new]; rfl)
theorem pow_nat (a k x : Nat) (w : World) (h : a ^ k = x) (hk : k ≤ 256) (ha : a < P500) (hx : x < P500) (he : Env w) : Calls Tryz.prog 61 #[.string (it (a : Int)), .int .i64 k] w (OkEnd ((x : Nat) : Int) w) := by
  have h2 : ((x : Nat) : Int) = (a : Int) ^ k := by rw [← h, Int.natCast_pow]
  rw [h2]
  exact pow_any (a : Int) k w (in_500 ha) (by omega) (by rw [← h2]; exact in_500 hx) he

set_option maxRecDepth 100000 in
set_option maxHeartbeats 3200000 in
theorem binomC_any (g1 g2 g3 N C a b d c : Nat) (w : World) (h : Box3 w g1 g2 g3 (.int .i64 N) (.int .i64 C) (.string (it (a : Int))) (.string (it (b : Int)))) (hd : a + b = d) (hd0 : 0 < d) (hc : c ≤ N) (hN1 : 1 ≤ N) (hN : N ≤ 256) (hP : d ^ N < P500) (he : Env w) :
    TermOk 63 g1 g2 g3 c (fun k => ch N k * (a ^ k * b ^ (N - k))) w := by
  intro k w2 hk hbl
  have hx := h.below hbl
  have HX := Lib.hid hx
  obtain ⟨c1, c2, c3, c4, -, -, -⟩ := hx
  have HE := Lib.hid (he.below hbl)
  have hkN : k ≤ N := by omega
  have e1 : IntKind.i64.wrap ((N : Int) - k) = ((N - k : Nat) : Int) := by rw [Int.ofNat_sub hkN]; exact IntWalk.i64_in _ (by omega)
  have hAk : a ^ k < P500 := Nat.lt_of_le_of_lt (pw_le (by omega) hd0 hkN) hP
  have hBk : b ^ (N - k) < P500 := Nat.lt_of_le_of_lt (pw_le (by omega) hd0 (Nat.sub_le _ _)) hP
  have hch : ch N k < P500 := lt_T1 (ch_TT k hN)
  have hdN : d ≤ d ^ N := Nat.le_self_pow (by omega) d
  have ha : a < P500 := by omega
  have hb : b < P500 := by omega
  have hall : ch N k * (a ^ k * b ^ (N - k)) < P500 := by
    have h1 : ch N k * (a ^ k * b ^ (N - k)) ≤ procs N N a b := su_term (f := fun k => ch N k * (a ^ k * b ^ (N - k))) (by omega)
    have h2 := procs_le (a := a) (b := b) (Nat.le_refl N)
    rw [hd] at h2
    omega
  show Calls _ _ _ _ (OkEnd ((ch N k * (a ^ k * b ^ (N - k)) : Nat) : Int) w2)
  obtain ⟨v, hv⟩ : ∃ v, N - k = v := ⟨_, rfl⟩
  rw [hv] at e1 hBk hall ⊢
  have hv2 : v ≤ 256 := by omega
  obtain ⟨x, hxx⟩ : ∃ x, a ^ k = x := ⟨_, rfl⟩
  obtain ⟨y, hyy⟩ : ∃ y, b ^ v = y := ⟨_, rfl⟩
  have HPX := Lib.hid (fun w => pow_nat a k x w hxx (by omega) ha (by rw [← hxx]; exact hAk))
  have HPY := Lib.hid (fun w => pow_nat b v y w hyy hv2 hb (by rw [← hyy]; exact hBk))
  rw [hxx] at hAk hall ⊢
  rw [hyy] at hBk hall ⊢
  have HU := Lib.hid (fun w => chosen_nat N k w hN)
  obtain ⟨u, hu⟩ : ∃ u, ch N k = u := ⟨_, rfl⟩
  rw [hu] at hch hall HU ⊢
  have HA := Lib.hid (in_500 hch)
  have HC := Lib.hid (in_500 hAk)
  have HD := Lib.hid (in_500 hBk)
  have HF := Lib.hid (in_prod hch hAk)
  have HG := Lib.hid (in_500 hall)
  have H1 := Lib.hid (in_500 one_P500)
  have hpr : pr [(u : Int), (x : Int), (y : Int)] 3 = ((u * (x * y) : Nat) : Int) := by simp [pr, Int.mul_assoc]
  have HPR := Lib.hid hpr
  have hpr2 : pr [(u : Int), (x : Int), (y : Int)] 2 = ((u * x : Nat) : Int) := by simp [pr]
  have HPR2 := Lib.hid hpr2
  clear he hbl h hd hd0 hP hAk hBk hch hdN ha hb hall hv hxx hyy hu hpr hpr2
  go_enter Tryz.func63, Tryz.ntmps63
  go_wp2_with fail
  refine (HU.out _ HE.out).mono ?_
  rintro e w3 ⟨rfl, hb3⟩
  have HB3 := Lib.hid hb3
  have hx3 := HX.out.below hb3
  have HX3 := Lib.hid hx3
  obtain ⟨d1, d2, d3, d4, -, -, -⟩ := hx3
  clear hb3 c1 c2 c3 c4
  go_wp2_with fail
  refine (HPX.out _ (HE.out.below HB3.out)).mono ?_
  rintro e w4 ⟨rfl, hb4⟩
  have HB4 := Lib.hid (HB3.out.trans (hb4.mono HB3.out.size))
  have hx4 := HX3.out.below hb4
  obtain ⟨c1, c2, c3, c4, -, -, -⟩ := hx4
  clear hb4 d1 d2 d3 d4
  go_wp2_with fail
  refine (HPY.out _ (HE.out.below HB4.out)).mono ?_
  rintro e w5 ⟨rfl, hb5⟩
  have HB5 := Lib.hid (HB4.out.trans (hb5.mono HB4.out.size))
  clear hb5 c1 c2 c3 c4
  have HC2 := Lib.hid (three_cells w5 (.string (it (u : Int))) (.string (it (x : Int))) (.string (it (y : Int))) 63)
  have HB6 := Lib.hid (HB5.out.alloc HB5.out.size (.cells #[.string (it (u : Int)), .string (it (x : Int)), .string (it (y : Int))] 63))
  have HS := Lib.hid (show w5.heap.size < (w5.alloc (.cells #[.string (it (u : Int)), .string (it (x : Int)), .string (it (y : Int))] 63)).heap.size by simp)
  go_wp2_with fail
  refine (product_any w5.heap.size [(u : Int), (x : Int), (y : Int)] _ (by simp) HS.out ?_ ?_ ?_ (HE.out.below HB6.out)).mono ?_
  · intro i z hi
    rcases i with _ | _ | _ | i
    · cases hi; exact HC2.out.1
    · cases hi; exact HC2.out.2.1
    · cases hi; exact HC2.out.2.2
    · cases hi
  · intro i z hi
    rcases i with _ | _ | _ | i
    · cases hi; exact HA.out
    · cases hi; exact HC.out
    · cases hi; exact HD.out
    · cases hi
  · intro j hj
    rcases (show j = 0 ∨ j = 1 ∨ j = 2 ∨ j = 3 by simp at hj; omega) with rfl | rfl | rfl | rfl
    · exact H1.out
    · have : pr [(u : Int), (x : Int), (y : Int)] 1 = (u : Int) := by simp [pr]
      rw [this]; exact HA.out
    · rw [HPR2.out]; exact HF.out
    · rw [HPR.out]; exact HG.out
  rintro e w7 ⟨rfl, hb7⟩
  have HB7 := Lib.hid (HB6.out.trans (hb7.mono HB6.out.size))
  clear hb7
  go_wp2
  go_ret2
  exact ⟨by rw [← HPR.out]; rfl, HB7.out⟩
end Go.Proofs.YtfebiipggcgmdaaGreatDoor

namespace Go.Proofs.YtfebiipggcgmdaaGreatDoor
open Go.RowKit

theorem gvP_ok {N C lot bad : Nat} (h1 : 1 ≤ N) (hC : C ≤ N) (hN : N ≤ lot) (hb : bad ≤ lot) (hL : lot ≤ 256) : gvP N C lot bad = 0 := by
  unfold gvP szP chkP
  rw [if_neg (show ¬ ((N : Int) < 1 ∨ 256 < (N : Int) ∨ (C : Int) < 0 ∨ (N : Int) < C) by omega)]
  rw [if_pos (show (0 : Int) = 0 ∧ (N : Int) ≤ lot ∧ (lot : Int) ≤ 4096 by omega)]
  rw [if_pos (by omega)]
theorem gvP_two (N C L B : Int) : gvP N C L B = 2 ∨ gvP N C L B = 0 ∧ 1 ≤ N ∧ N ≤ 256 ∧ 0 ≤ C ∧ C ≤ N ∧ N ≤ L ∧ L ≤ 4096 ∧ 0 ≤ B ∧ B ≤ L := by
  have := szP_two N C L
  unfold gvP; split <;> omega

set_option maxRecDepth 100000 in
set_option maxHeartbeats 1600000 in
theorem Accept_ok (N C lot bad : Nat) (w : World) (h1 : 1 ≤ N) (hC : C ≤ N) (hN : N ≤ lot) (hb : bad ≤ lot) (hL : lot ≤ 256) (he : Env w) :
    Calls Tryz.prog 13 #[pl N C, .int .i64 lot, .int .i64 bad] w (RatEnd (mkRat ((good N C lot bad : Nat) : Int) (ch lot N)) w) := by
  have HE := Lib.hid he
  have HG := Lib.hid (gvP_ok h1 hC hN hb hL)
  have hc := two_cells w (.int .i64 N) (.int .i64 C) 30
  obtain ⟨c0, c1⟩ := hc
  have HB0 := Lib.hid ((Below.refl w.heap.size w).alloc (Nat.le_refl _) (.cells #[.int .i64 N, .int .i64 C] 30))
  have HSZ := Lib.hid (show (w.alloc (.cells #[.int .i64 N, .int .i64 C] 30)).heap.size = w.heap.size + 1 by simp)
  have hl0 : 0 < lot := by omega
  unfold pl
  clear he
  go_enter Tryz.func13, Tryz.ntmps13
  go_wp2_with fail
  refine (given_any N C lot bad _).mono ?_
  rintro e w1 ⟨rfl, hb1⟩
  rw [HG.out]
  have HB1 := Lib.hid (HB0.out.trans (hb1.mono HB0.out.size))
  have d0 := (hb1.cell (p := ⟨w.heap.size, 0, none⟩) (by rw [HSZ.out]; exact Nat.lt_succ_self _)).trans c0
  have d1 := (hb1.cell (p := ⟨w.heap.size, 1, none⟩) (by rw [HSZ.out]; exact Nat.lt_succ_self _)).trans c1
  clear hb1 c0 c1
  go_wp2_with fail
  refine (accept_any N C lot bad _ hC hN hb hL (HE.out.below HB1.out)).mono ?_
  rintro e w2 ⟨rfl, hb2⟩
  have HB2 := Lib.hid (HB1.out.trans (hb2.mono HB1.out.size))
  clear hb2
  go_wp2
  go_ret2
  exact ⟨rfl, HB2.out⟩

set_option maxRecDepth 100000 in
set_option maxHeartbeats 1600000 in
theorem Accept_bad (N C lot bad : Int) (w : World) (h : gvP N C lot bad = 2) :
    Calls Tryz.prog 13 #[pl N C, .int .i64 lot, .int .i64 bad] w fun e w' => e = .returned (.tuple #[.string ⟨#[]⟩, .int .i64 2]) ∧ Below w.heap.size w w' := by
  have HG := Lib.hid h
  have hc := two_cells w (.int .i64 N) (.int .i64 C) 30
  obtain ⟨c0, c1⟩ := hc
  have HB0 := Lib.hid ((Below.refl w.heap.size w).alloc (Nat.le_refl _) (.cells #[.int .i64 N, .int .i64 C] 30))
  unfold pl
  clear h
  go_enter Tryz.func13, Tryz.ntmps13
  go_wp2_with fail
  refine (given_any N C lot bad _).mono ?_
  rintro e w1 ⟨rfl, hb1⟩
  rw [HG.out]
  have HB1 := Lib.hid (HB0.out.trans (hb1.mono HB0.out.size))
  clear hb1
  go_wp2
  go_ret2
  exact ⟨rfl, HB1.out⟩

set_option maxRecDepth 100000 in
set_option maxHeartbeats 1600000 in
theorem Outgoing_ok (N C lot bad : Nat) (w : World) (h1 : 1 ≤ N) (hC : C ≤ N) (hN : N ≤ lot) (hb : bad ≤ lot) (hL : lot ≤ 256) (he : Env w) :
    Calls Tryz.prog 16 #[pl N C, .int .i64 lot, .int .i64 bad] w (RatEnd (mkRat ((left N C lot bad : Nat) : Int) (ch lot N * lot)) w) := by
  have HE := Lib.hid he
  have HG := Lib.hid (gvP_ok h1 hC hN hb hL)
  have hc := two_cells w (.int .i64 N) (.int .i64 C) 30
  obtain ⟨c0, c1⟩ := hc
  have HB0 := Lib.hid ((Below.refl w.heap.size w).alloc (Nat.le_refl _) (.cells #[.int .i64 N, .int .i64 C] 30))
  have HSZ := Lib.hid (show (w.alloc (.cells #[.int .i64 N, .int .i64 C] 30)).heap.size = w.heap.size + 1 by simp)
  have hl0 : 0 < lot := by omega
  unfold pl
  clear he
  go_enter Tryz.func16, Tryz.ntmps16
  go_wp2_with fail
  refine (given_any N C lot bad _).mono ?_
  rintro e w1 ⟨rfl, hb1⟩
  rw [HG.out]
  have HB1 := Lib.hid (HB0.out.trans (hb1.mono HB0.out.size))
  have d0 := (hb1.cell (p := ⟨w.heap.size, 0, none⟩) (by rw [HSZ.out]; exact Nat.lt_succ_self _)).trans c0
  have d1 := (hb1.cell (p := ⟨w.heap.size, 1, none⟩) (by rw [HSZ.out]; exact Nat.lt_succ_self _)).trans c1
  clear hb1 c0 c1
  go_wp2_with fail
  refine (outgoing_any N C lot bad _ hC hN hb hL hl0 (HE.out.below HB1.out)).mono ?_
  rintro e w2 ⟨rfl, hb2⟩
  have HB2 := Lib.hid (HB1.out.trans (hb2.mono HB1.out.size))
  clear hb2
  go_wp2
  go_ret2
  exact ⟨rfl, HB2.out⟩

set_option maxRecDepth 100000 in
set_option maxHeartbeats 1600000 in
theorem Outgoing_bad (N C lot bad : Int) (w : World) (h : gvP N C lot bad = 2) :
    Calls Tryz.prog 16 #[pl N C, .int .i64 lot, .int .i64 bad] w fun e w' => e = .returned (.tuple #[.string ⟨#[]⟩, .int .i64 2]) ∧ Below w.heap.size w w' := by
  have HG := Lib.hid h
  have hc := two_cells w (.int .i64 N) (.int .i64 C) 30
  obtain ⟨c0, c1⟩ := hc
  have HB0 := Lib.hid ((Below.refl w.heap.size w).alloc (Nat.le_refl _) (.cells #[.int .i64 N, .int .i64 C] 30))
  unfold pl
  clear h
  go_enter Tryz.func16, Tryz.ntmps16
  go_wp2_with fail
  refine (given_any N C lot bad _).mono ?_
  rintro e w1 ⟨rfl, hb1⟩
  rw [HG.out]
  have HB1 := Lib.hid (HB0.out.trans (hb1.mono HB0.out.size))
  clear hb1
  go_wp2
  go_ret2
  exact ⟨rfl, HB1.out⟩
end Go.Proofs.YtfebiipggcgmdaaGreatDoor

namespace Go.Proofs.YtfebiipggcgmdaaGreatDoor
open Go.RowKit

theorem one_cell (w : World) (x : Value) (t : TypeId) : (w.alloc (.cells #[x] t)).cell? ⟨w.heap.size, 0, none⟩ = some x := by
  simp only [World.cell?, heap_alloc_new]; rfl
theorem chkP_ok {N C : Nat} (h1 : 1 ≤ N) (h2 : N ≤ 256) (hC : C ≤ N) : chkP N C = 0 := by
  unfold chkP; rw [if_neg (by omega)]
theorem uP_ok {q : Rat} {a : Nat} (h : q.num = (a : Int)) (hd : a ≤ q.den) : uP q = 0 := by
  unfold uP; rw [if_neg (by omega)]

set_option maxRecDepth 100000 in
set_option maxHeartbeats 3200000 in
theorem Binomial_ok (N C a b : Nat) (q : Rat) (w : World) (h1 : 1 ≤ N) (h2 : N ≤ 256) (hC : C ≤ N) (ha : q.num = (a : Int)) (hab : a + b = q.den) (hP : q.den ^ N < P500) (he : Env w) :
    Calls Tryz.prog 25 #[pl N C, .string (rt q)] w (RatEnd (mkRat ((procs N C a b : Nat) : Int) (q.den ^ N)) w) := by
  have hmf : ∀ (fn : Fn) (first cap : Array Value) (w : World), (Instr.makeFunc fn first cap).run Tryz.prog w = .ok (.func fn first cap) w := fun _ _ _ _ => rfl
  have hdP : q.den < P500 := Nat.lt_of_le_of_lt (Nat.le_self_pow (by omega) q.den) hP
  have hd0 : 0 < q.den := q.den_pos
  have haP : a < P500 := by omega
  have hbP : b < P500 := by omega
  have hsm : sm SML q := ⟨by rw [ha, Int.natAbs_natCast]; exact haP, hdP⟩
  have HQ := Lib.hid hsm
  have HU := Lib.hid (fun w => unit_any q w hsm)
  rw [uP_ok ha (by omega)] at HU
  have HR := Lib.hid (fun w => parts_rt q w hsm.big)
  rw [ha] at HR
  have HS := Lib.hid (fun w => subi_any (q.den : Int) (a : Int) w (in_500 hdP) (in_500 haP) (by rw [show (q.den : Int) - a = (b : Int) by omega]; exact in_500 hbP))
  rw [show (q.den : Int) - a = (b : Int) by omega] at HS
  have hle := procs_le (a := a) (b := b) hC
  rw [hab] at hle
  have HW := Lib.hid (fun w => pow_nat q.den N _ w rfl h2 hdP hP)
  have hc := two_cells w (.int .i64 N) (.int .i64 C) 30
  obtain ⟨c0, c1⟩ := hc
  have HB0 := Lib.hid ((Below.refl w.heap.size w).alloc (Nat.le_refl _) (.cells #[.int .i64 N, .int .i64 C] 30))
  have HSZ := Lib.hid (show (w.alloc (.cells #[.int .i64 N, .int .i64 C] 30)).heap.size = w.heap.size + 1 by simp)
  have HK := Lib.hid (chkP_ok h1 h2 hC)
  have HE := Lib.hid he
  have HT := Lib.hid (show procs N C a b < P500 from Nat.lt_of_le_of_lt hle hP)
  have HD := Lib.hid hd0
  have HPP := Lib.hid hP
  have HAB := Lib.hid hab
  obtain ⟨d, hd⟩ : ∃ d, q.den = d := ⟨_, rfl⟩
  rw [hd] at HR HS HW HPP HAB HD ⊢
  have h0 : 0 < d ^ N := Nat.pow_pos HD.out
  have H0 := Lib.hid h0
  obtain ⟨all, hall⟩ : ∃ all, d ^ N = all := ⟨_, rfl⟩
  have HALL := Lib.hid hall
  rw [hall] at HW H0 ⊢
  unfold pl
  clear he hP hdP hd0 haP hbP hsm ha hab hle hd h0 hall
  go_enter Tryz.func25, Tryz.ntmps25
  go_wp2_with fail
  refine (pcheck_any N C _).mono ?_
  rintro e w1 ⟨rfl, hb1⟩
  rw [HK.out]
  have HB1 := Lib.hid (HB0.out.trans (hb1.mono HB0.out.size))
  have d0 := (hb1.cell (p := ⟨w.heap.size, 0, none⟩) (by rw [HSZ.out]; exact Nat.lt_succ_self _)).trans c0
  have d1 := (hb1.cell (p := ⟨w.heap.size, 1, none⟩) (by rw [HSZ.out]; exact Nat.lt_succ_self _)).trans c1
  have hw1 : w.heap.size < w1.heap.size := Nat.lt_of_lt_of_le (by rw [HSZ.out]; exact Nat.lt_succ_self _) hb1.size
  have HW1 := Lib.hid hw1
  clear hb1 c0 c1 hw1
  go_wp2_with fail
  refine (HU.out _ (HE.out.below HB1.out)).mono ?_
  rintro e w2 ⟨rfl, hb2⟩
  have HB2 := Lib.hid (HB1.out.trans (hb2.mono HB1.out.size))
  have c0 := (hb2.cell (p := ⟨w.heap.size, 0, none⟩) HW1.out).trans d0
  have c1 := (hb2.cell (p := ⟨w.heap.size, 1, none⟩) HW1.out).trans d1
  have HW2 := Lib.hid (Nat.lt_of_lt_of_le HW1.out hb2.size)
  clear hb2 d0 d1
  go_wp2_with fail
  refine (HR.out _ (HE.out.below HB2.out)).mono ?_
  rintro e w3 ⟨rfl, hb3⟩
  have HB3 := Lib.hid (HB2.out.trans (hb3.mono HB2.out.size))
  have d0 := (hb3.cell (p := ⟨w.heap.size, 0, none⟩) HW2.out).trans c0
  have d1 := (hb3.cell (p := ⟨w.heap.size, 1, none⟩) HW2.out).trans c1
  have HW3 := Lib.hid (Nat.lt_of_lt_of_le HW2.out hb3.size)
  clear hb3 c0 c1
  have HB4 := Lib.hid (HB3.out.alloc HB3.out.size (.cells #[.string (it (a : Int))] 63))
  have HN4 := Lib.hid (one_cell w3 (.string (it (a : Int))) 63)
  have HS4 := Lib.hid (show (w3.alloc (.cells #[.string (it (a : Int))] 63)).heap.size = w3.heap.size + 1 by simp)
  have HBB4 := Lib.hid ((Below.refl w3.heap.size w3).alloc (Nat.le_refl _) (.cells #[.string (it (a : Int))] 63))
  go_wp2_with fail
  refine (HS.out _ (HE.out.below HB4.out)).mono ?_
  rintro e w5 ⟨rfl, hb5⟩
  have HB5 := Lib.hid (HB4.out.trans (hb5.mono HB4.out.size))
  have HX5 := Lib.hid (show w5.cell? ⟨w.heap.size, 0, none⟩ = some (.int .i64 N) ∧ w5.cell? ⟨w.heap.size, 1, none⟩ = some (.int .i64 C) ∧ w5.cell? ⟨w3.heap.size, 0, none⟩ = some (.string (it (a : Int))) ∧ w.heap.size < w5.heap.size ∧ w3.heap.size < w5.heap.size by
    have h3 := HW3.out
    have h4 := HS4.out
    have h5 := hb5.size
    refine ⟨?_, ?_, ?_, by omega, by omega⟩
    · exact (hb5.cell (p := ⟨w.heap.size, 0, none⟩) (by show w.heap.size < _; omega)).trans ((HBB4.out.cell (p := ⟨w.heap.size, 0, none⟩) h3).trans d0)
    · exact (hb5.cell (p := ⟨w.heap.size, 1, none⟩) (by show w.heap.size < _; omega)).trans ((HBB4.out.cell (p := ⟨w.heap.size, 1, none⟩) h3).trans d1)
    · exact (hb5.cell (p := ⟨w3.heap.size, 0, none⟩) (by show w3.heap.size < _; omega)).trans HN4.out)
  clear hb5 d0 d1
  have HB6 := Lib.hid (HB5.out.alloc HB5.out.size (.cells #[.string (it (b : Int))] 63))
  have HX6 := Lib.hid (show Box3 (w5.alloc (.cells #[.string (it (b : Int))] 63)) w.heap.size w3.heap.size w5.heap.size (.int .i64 N) (.int .i64 C) (.string (it (a : Int))) (.string (it (b : Int))) by
    obtain ⟨x1, x2, x3, x4, x5⟩ := HX5.out
    have hbb := (Below.refl w5.heap.size w5).alloc (Nat.le_refl _) (.cells #[.string (it (b : Int))] 63)
    have hs : (w5.alloc (.cells #[.string (it (b : Int))] 63)).heap.size = w5.heap.size + 1 := by simp
    exact ⟨(hbb.cell (p := ⟨w.heap.size, 0, none⟩) x4).trans x1, (hbb.cell (p := ⟨w.heap.size, 1, none⟩) x4).trans x2, (hbb.cell (p := ⟨w3.heap.size, 0, none⟩) x5).trans x3, one_cell w5 _ _, by omega, by omega, by omega⟩)
  have hx6 := HX6.out
  obtain ⟨c0, c1, c2, c3, -, -, -⟩ := hx6
  go_wp2_with fail
  refine (HW.out _ (HE.out.below HB6.out)).mono ?_
  rintro e w7 ⟨rfl, hb7⟩
  have HB7 := Lib.hid (HB6.out.trans (hb7.mono HB6.out.size))
  have hx7 := HX6.out.below hb7
  have HX7 := Lib.hid hx7
  obtain ⟨d0, d1, d2, d3, -, -, -⟩ := hx7
  clear hb7 c0 c1 c2 c3
  go_wp2_with fail
  refine (total_Binomial w.heap.size w3.heap.size w5.heap.size C all (fun k => ch N k * (a ^ k * b ^ (N - k))) w7 (binomC_any _ _ _ N C a b d C w7 HX7.out HAB.out HD.out hC h1 h2 HPP.out (HE.out.below HB7.out)) (by omega) H0.out (by rw [← HALL.out]; exact HPP.out) HT.out (HE.out.below HB7.out)).mono ?_
  rintro e w8 ⟨rfl, hb8⟩
  have HB8 := Lib.hid (HB7.out.trans (hb8.mono HB7.out.size))
  clear hb8
  go_wp2
  go_ret2
  exact ⟨rfl, HB8.out⟩
end Go.Proofs.YtfebiipggcgmdaaGreatDoor

namespace Go.Proofs.YtfebiipggcgmdaaGreatDoor
open Go.RowKit

set_option maxRecDepth 100000 in
theorem inside_any (g : Nat) (n lot : Int) (w : World) (h : w.cell? ⟨g, 0, none⟩ = some (.int .i64 lot)) :
    Calls Tryz.prog 97 #[.int .i64 n, .pointer (some ⟨g, 0, none⟩)] w fun e w' => e = .returned (.bool (decide (0 ≤ n ∧ n ≤ lot))) ∧ Below w.heap.size w w' := by
  obtain ⟨v, hv⟩ : ∃ v, decide (0 ≤ n ∧ n ≤ lot) = v := ⟨_, rfl⟩
  have HV := Lib.hid hv
  rw [hv]
  clear hv
  by_cases h0 : 0 ≤ n
  all_goals go_enter Tryz.func97, Tryz.ntmps97
  all_goals go_wp2
  all_goals go_ret
  all_goals refine ⟨?_, Below.refl _ _⟩
  all_goals have hv := HV.out
  all_goals subst hv
  all_goals first
    | (simp [h0]; done)
    | (simp; omega)

set_option maxRecDepth 100000 in
set_option maxHeartbeats 3200000 in
theorem needs_ok (lot good bad : Nat) (p q : Rat) (w : World) (h1 : bad ≤ lot) (h2 : good < bad) (hL : lot ≤ 64) (hp : sm SML p) (hq : sm SML q) (up : uP p = 0) (uq : uP q = 0) (he : Env w) :
    Calls Tryz.prog 50 #[.int .i64 lot, .int .i64 good, .int .i64 bad, .string (rt p), .string (rt q)] w fun e w' => e = .returned (.int .i64 0) ∧ Below w.heap.size w w' := by
  have hmf : ∀ (fn : Fn) (first cap : Array Value) (w : World), (Instr.makeFunc fn first cap).run Tryz.prog w = .ok (.func fn first cap) w := fun _ _ _ _ => rfl
  have HP := Lib.hid hp
  have HQ := Lib.hid hq
  have HE := Lib.hid he
  have UP := Lib.hid (fun w => unit_any p w hp)
  have UQ := Lib.hid (fun w => unit_any q w hq)
  rw [up] at UP
  rw [uq] at UQ
  have c0 := one_cell w (.int .i64 lot) 3
  have HC0 := Lib.hid c0
  have HB0 := Lib.hid ((Below.refl w.heap.size w).alloc (Nat.le_refl _) (.cells #[.int .i64 lot] 3))
  have HS0 := Lib.hid (show (w.alloc (.cells #[.int .i64 lot] 3)).heap.size = w.heap.size + 1 by simp)
  have IA := Lib.hid (fun (w2 : World) (h : w2.cell? ⟨w.heap.size, 0, none⟩ = some (.int .i64 lot)) => inside_any w.heap.size good lot w2 h)
  have IB := Lib.hid (fun (w2 : World) (h : w2.cell? ⟨w.heap.size, 0, none⟩ = some (.int .i64 lot)) => inside_any w.heap.size bad lot w2 h)
  rw [show decide (0 ≤ (good : Int) ∧ (good : Int) ≤ lot) = true from decide_eq_true (by omega)] at IA
  rw [show decide (0 ≤ (bad : Int) ∧ (bad : Int) ≤ lot) = true from decide_eq_true (by omega)] at IB
  have f1 : ¬ (lot : Int) < 1 := by omega
  have f2 : ¬ (64 : Int) < lot := by omega
  have f3 : (good : Int) < bad := by omega
  clear hp hq up uq he h1 h2 hL
  go_enter Tryz.func50, Tryz.ntmps50
  go_wp2_with fail
  refine (IA.out _ HC0.out).mono ?_
  rintro e w1 ⟨rfl, hb1⟩
  have HB1 := Lib.hid (HB0.out.trans (hb1.mono HB0.out.size))
  have hc1 := (hb1.cell (p := ⟨w.heap.size, 0, none⟩) (by rw [HS0.out]; exact Nat.lt_succ_self _)).trans HC0.out
  have HC1 := Lib.hid hc1
  clear hb1 hc1
  go_wp2_with fail
  refine (IB.out _ HC1.out).mono ?_
  rintro e w2 ⟨rfl, hb2⟩
  have HB2 := Lib.hid (HB1.out.trans (hb2.mono HB1.out.size))
  clear hb2
  have HC := Lib.hid (two_cells w2 (.string (rt p)) (.string (rt q)) 26)
  have HB3 := Lib.hid (HB2.out.alloc HB2.out.size (.cells #[.string (rt p), .string (rt q)] 26))
  have hd : decide (bad ≤ good) = false := decide_eq_false (by omega)
  go_wp2
  clear hd f3
  go_loopg [42] 2 (fun k i wr => ∃ j : Nat, i = .int .i64 j ∧ j + k = 2 ∧ Below (w2.heap.size + 1) (w2.alloc (.cells #[.string (rt p), .string (rt q)] 26)) wr)
  case atStart => exact ⟨0, rfl, rfl, Below.refl _ _⟩
  case round =>
    obtain ⟨j, rfl, hk, hbl⟩ := hrel
    have c0 := (hbl.cell (p := ⟨w2.heap.size, 0, none⟩) (Nat.lt_succ_self _)).trans HC.out.1
    have c1 := (hbl.cell (p := ⟨w2.heap.size, 1, none⟩) (Nat.lt_succ_self _)).trans HC.out.2
    have hsz : w2.heap.size + 1 ≤ wr.heap.size := by have := hbl.size; simpa using this
    have HB4 := Lib.hid (HB3.out.trans (hbl.mono (by have := HB2.out.size; omega)))
    rcases (show j = 0 ∨ j = 1 ∨ j = 2 by omega) with rfl | rfl | rfl
    · go_wp2_with fail
      refine (rcheck_rt p _ HP.out.big (HE.out.below HB4.out)).mono ?_
      rintro e w5 ⟨rfl, hb5⟩
      have HB5 := Lib.hid (hbl.trans (hb5.mono hsz))
      clear hb5
      go_wp2
      go_roundg 1
      case rel => exact ⟨1, rfl, rfl, HB5.out⟩
      case measure => omega
    · go_wp2_with fail
      refine (rcheck_rt q _ HQ.out.big (HE.out.below HB4.out)).mono ?_
      rintro e w5 ⟨rfl, hb5⟩
      have HB5 := Lib.hid (hbl.trans (hb5.mono hsz))
      clear hb5
      go_wp2
      go_roundg 0
      case rel => exact ⟨2, rfl, rfl, HB5.out⟩
      case measure => omega
    · obtain ⟨wa, rfl⟩ : ∃ wa, wa = wr := ⟨_, rfl⟩
      have HD := Lib.hid (two_cells wa (.string (rt p)) (.string (rt q)) 26)
      have HB5 := Lib.hid (HB4.out.alloc HB4.out.size (.cells #[.string (rt p), .string (rt q)] 26))
      clear hbl c0 c1
      go_wp2
      go_loopg [56] 2 (fun k i wz => ∃ j : Nat, i = .int .i64 j ∧ j + k = 2 ∧ Below (wa.heap.size + 1) (wa.alloc (.cells #[.string (rt p), .string (rt q)] 26)) wz)
      case atStart => exact ⟨0, rfl, rfl, Below.refl _ _⟩
      case round =>
        obtain ⟨j, rfl, hk, hbl⟩ := hrel
        have c0 := (hbl.cell (p := ⟨wa.heap.size, 0, none⟩) (Nat.lt_succ_self _)).trans HD.out.1
        have c1 := (hbl.cell (p := ⟨wa.heap.size, 1, none⟩) (Nat.lt_succ_self _)).trans HD.out.2
        have hsz : wa.heap.size + 1 ≤ wr.heap.size := by have := hbl.size; simpa using this
        have HB6 := Lib.hid (HB5.out.trans (hbl.mono (by have := HB4.out.size; omega)))
        rcases (show j = 0 ∨ j = 1 ∨ j = 2 by omega) with rfl | rfl | rfl
        · go_wp2_with fail
          refine (UP.out _ (HE.out.below HB6.out)).mono ?_
          rintro e w5 ⟨rfl, hb5⟩
          have HB7 := Lib.hid (hbl.trans (hb5.mono hsz))
          clear hb5
          go_wp2
          go_roundg 1
          case rel => exact ⟨1, rfl, rfl, HB7.out⟩
          case measure => omega
        · go_wp2_with fail
          refine (UQ.out _ (HE.out.below HB6.out)).mono ?_
          rintro e w5 ⟨rfl, hb5⟩
          have HB7 := Lib.hid (hbl.trans (hb5.mono hsz))
          clear hb5
          go_wp2
          go_roundg 0
          case rel => exact ⟨2, rfl, rfl, HB7.out⟩
          case measure => omega
        · clear hbl
          go_wp2
          go_ret
          exact ⟨rfl, HB6.out⟩
end Go.Proofs.YtfebiipggcgmdaaGreatDoor
