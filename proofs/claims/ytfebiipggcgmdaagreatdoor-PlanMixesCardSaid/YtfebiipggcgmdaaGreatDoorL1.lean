import Derived.Test.YtfebiipggcgmdaaGreatDoorP1
import Derived.Laws.ResultCell
import Derived.Test.YtfebiipggcgmdaaGreatDoorP3
import Derived.Test.YtfebiipggcgmdaaGreatDoorP4
namespace Go.Proofs.YtfebiipggcgmdaaGreatDoor
open Go.RowKit

set_option maxRecDepth 100000 in
theorem rchk54_any (N C : Int) (w : World) : Calls Tryz.prog 19 #[pl N C] w fun e w' => e = .returned (.int .i64 (chkP N C)) ∧ Below w.heap.size w w' := by
  have HB := Lib.hid ((Below.refl w.heap.size w).alloc (Nat.le_refl _) (.cells #[.int .i64 N, .int .i64 C] 23))
  obtain ⟨v, hv⟩ : ∃ v, chkP N C = v := ⟨_, rfl⟩
  rw [hv]
  have HV := Lib.hid hv
  have hc := two_cells w (.int .i64 N) (.int .i64 C) 23
  obtain ⟨c0, c1⟩ := hc
  unfold pl
  clear hv
  go_enter Tryz.func19, Tryz.ntmps19
  go_wp2
  all_goals go_ret
  all_goals refine ⟨?_, HB.out⟩
  all_goals have hv := HV.out
  all_goals unfold chkP at hv
  all_goals subst hv
  all_goals first
    | rw [if_pos (by omega)]; rfl
    | rw [if_neg (by omega)]; rfl

set_option maxRecDepth 100000 in
theorem rlot_any (N C L : Int) (w : World) : Calls Tryz.prog 42 #[pl N C, .int .i64 L] w fun e w' => e = .returned (.int .i64 (szP N C L)) ∧ Below w.heap.size w w' := by
  have HB := Lib.hid ((Below.refl w.heap.size w).alloc (Nat.le_refl _) (.cells #[.int .i64 N, .int .i64 C] 23))
  obtain ⟨v, hv⟩ : ∃ v, szP N C L = v := ⟨_, rfl⟩
  rw [hv]
  have HV := Lib.hid hv
  have hc := two_cells w (.int .i64 N) (.int .i64 C) 23
  obtain ⟨c0, c1⟩ := hc
  have hsz : (w.alloc (.cells #[.int .i64 N, .int .i64 C] 23)).heap.size = w.heap.size + 1 := by simp
  have HSZ := Lib.hid hsz
  obtain ⟨u, hu⟩ : ∃ u, chkP N C = u := ⟨_, rfl⟩
  have HU := Lib.hid hu
  have hu2 := chkP_two N C
  rw [hu] at hu2
  have HP := Lib.hid (rchk54_any N C)
  rw [hu] at HP
  unfold pl at HP ⊢
  clear hv hsz hu
  rcases hu2 with rfl | ⟨rfl, hr⟩
  all_goals go_enter Tryz.func42, Tryz.ntmps42
  all_goals go_wp2_with fail
  all_goals refine (HP.out _).mono ?_
  all_goals rintro e w1 ⟨rfl, hb1⟩
  all_goals have HB1 := Lib.hid (HB.out.trans (hb1.mono HB.out.size))
  all_goals have d0 := (hb1.cell (p := ⟨w.heap.size, 0, none⟩) (by rw [HSZ.out]; exact Nat.lt_succ_self _)).trans c0
  all_goals clear hb1
  all_goals go_wp2
  all_goals go_ret
  all_goals refine ⟨?_, HB1.out⟩
  all_goals have hv := HV.out
  all_goals unfold szP at hv
  all_goals rw [HU.out] at hv
  all_goals subst hv
  all_goals first
    | rw [if_pos (by omega)]; rfl
    | rw [if_neg (by omega)]; rfl

set_option maxRecDepth 100000 in
theorem sent_any (N C : Int) (w : World) : Calls Tryz.prog 14 #[pl N C] w fun e w' => e = .returned (pl N C) ∧ Below w.heap.size w w' := by
  have hc := two_cells w (.int .i64 N) (.int .i64 C) 23
  obtain ⟨c0, c1⟩ := hc
  have HB := Lib.hid (((Below.refl w.heap.size w).alloc (Nat.le_refl _) (.cells #[.int .i64 N, .int .i64 C] 23)).alloc (by simp) (.cells #[.int .i64 N, .int .i64 C] 30))
  unfold pl
  go_enter Tryz.func14, Tryz.ntmps14
  go_wp2
  (try simp only [Exit.inBlock, Exit.then])
  exact bodyPost_ret (results_cell_row rfl _ _ (w.heap.size + 1) 30 #[.int .i64 N, .int .i64 C] (0, 0) _ rfl (heap_alloc2_new w _ _) Tryz.underlying30 rfl (by kernel_rfl)) rfl ⟨rfl, HB.out⟩

set_option maxRecDepth 100000 in
theorem right_any (N C L : Int) (w : World) : Calls Tryz.prog 23 #[pl N C, .int .i64 L] w fun e w' => e = .returned (.bool (decide (L ≤ 40 ∧ szP N C L = 0))) ∧ Below w.heap.size w w' := by
  have HB := Lib.hid ((Below.refl w.heap.size w).alloc (Nat.le_refl _) (.cells #[.int .i64 N, .int .i64 C] 23))
  have hc := two_cells w (.int .i64 N) (.int .i64 C) 23
  obtain ⟨c0, c1⟩ := hc
  have HP := Lib.hid (fun w => rlot_any N C L w)
  have hz := szP_two N C L
  obtain ⟨s, hs⟩ : ∃ s, szP N C L = s := ⟨_, rfl⟩
  obtain ⟨v, hv⟩ : ∃ v, decide (L ≤ 40 ∧ s = 0) = v := ⟨_, rfl⟩
  rw [hs] at HP hz ⊢
  rw [hv]
  have HV := Lib.hid hv
  have hz2 : s = 2 ∨ s = 0 := by omega
  unfold pl at HP ⊢
  clear hs hv hz
  by_cases hL : L ≤ 40
  · rcases hz2 with rfl | rfl
    all_goals go_enter Tryz.func23, Tryz.ntmps23
    all_goals go_wp2_with fail
    all_goals refine (HP.out _).mono ?_
    all_goals rintro e w1 ⟨rfl, hb1⟩
    all_goals have HB1 := Lib.hid (HB.out.trans (hb1.mono HB.out.size))
    all_goals clear hb1
    all_goals go_wp2
    all_goals go_ret
    all_goals refine ⟨?_, HB1.out⟩
    all_goals have hv := HV.out
    all_goals subst hv
    all_goals simp [hL]
  · go_enter Tryz.func23, Tryz.ntmps23
    go_wp2
    go_ret
    refine ⟨?_, HB.out⟩
    have hv := HV.out
    subst hv
    simp
    omega
end Go.Proofs.YtfebiipggcgmdaaGreatDoor

namespace Go.Proofs.YtfebiipggcgmdaaGreatDoor
open Go.RowKit

theorem rt_lit (q : Rat) (n d : Nat) (hn : q.num = (n : Int)) (hd : q.den = d) (h1 : d ≠ 1) : rt q = ⟨(Lib.decDigits n ++ 47 :: Lib.decDigits d).toArray⟩ := by
  unfold rt
  rw [hd, hn, if_neg h1, itoa_nat]
theorem dec2 (a b : Nat) (ha : a < 10) (ha1 : 0 < a) (hb : b < 10) : Lib.decDigits (a * 10 + b) = [UInt8.ofNat (48 + a), UInt8.ofNat (48 + b)] := by
  rw [dec_step (by omega), show (a * 10 + b) / 10 = a by omega, show (a * 10 + b) % 10 = b by omega, dec_small ha]; rfl
theorem t3_10 : rt (mkRat 3 10) = ⟨#[51, 47, 49, 48]⟩ := by
  rw [rt_lit _ 3 10 (by decide +kernel) (by decide +kernel) (by decide), dec_small (by decide), dec2 1 0 (by decide) (by decide) (by decide)]; rfl
theorem t9_10 : rt (mkRat 9 10) = ⟨#[57, 47, 49, 48]⟩ := by
  rw [rt_lit _ 9 10 (by decide +kernel) (by decide +kernel) (by decide), dec_small (by decide), dec2 1 0 (by decide) (by decide) (by decide)]; rfl
theorem t3_25 : rt (mkRat 6 50) = ⟨#[51, 47, 50, 53]⟩ := by
  rw [rt_lit _ 3 25 (by decide +kernel) (by decide +kernel) (by decide), dec_small (by decide), dec2 2 5 (by decide) (by decide) (by decide)]; rfl
theorem t6_25 : rt (mkRat 12 50) = ⟨#[54, 47, 50, 53]⟩ := by
  rw [rt_lit _ 6 25 (by decide +kernel) (by decide +kernel) (by decide), dec_small (by decide), dec2 2 5 (by decide) (by decide) (by decide)]; rfl
theorem t20_27 : rt (mkRat 20 27) = ⟨#[50, 48, 47, 50, 55]⟩ := by
  rw [rt_lit _ 20 27 (by decide +kernel) (by decide +kernel) (by decide), dec2 2 0 (by decide) (by decide) (by decide), dec2 2 7 (by decide) (by decide) (by decide)]; rfl
theorem t1_3 : rt (mkRat 1 3) = ⟨#[49, 47, 51]⟩ := by
  rw [rt_lit _ 1 3 (by decide +kernel) (by decide +kernel) (by decide), dec_small (by decide), dec_small (by decide)]; rfl
theorem t1_2 : rt (mkRat 1 2) = ⟨#[49, 47, 50]⟩ := by
  rw [rt_lit _ 1 2 (by decide +kernel) (by decide +kernel) (by decide), dec_small (by decide), dec_small (by decide)]; rfl

def TxtEnd (s : ByteArray) (w : World) (e : Ending) (w' : World) : Prop := e = .returned (.tuple #[.string s, .int .i64 0]) ∧ Below w.heap.size w w'

theorem aw1 (w : World) (he : Env w) : Calls Tryz.prog 13 #[.agg #[.int .i64 2, .int .i64 0], .int .i64 5, .int .i64 2] w (TxtEnd ⟨#[51, 47, 49, 48]⟩ w) := by
  have h := Accept_ok 2 0 5 2 w (by decide) (by decide) (by decide) (by decide) (by decide) he
  rw [show good 2 0 5 2 = 3 from by decide +kernel, show ch 5 2 = 10 from by decide +kernel] at h
  unfold RatEnd at h
  rw [show mkRat ((3 : Nat) : Int) 10 = mkRat 3 10 from rfl, t3_10] at h
  exact h
theorem aw2 (w : World) (he : Env w) : Calls Tryz.prog 13 #[.agg #[.int .i64 2, .int .i64 1], .int .i64 5, .int .i64 2] w (TxtEnd ⟨#[57, 47, 49, 48]⟩ w) := by
  have h := Accept_ok 2 1 5 2 w (by decide) (by decide) (by decide) (by decide) (by decide) he
  rw [show good 2 1 5 2 = 9 from by decide +kernel, show ch 5 2 = 10 from by decide +kernel] at h
  unfold RatEnd at h
  rw [show mkRat ((9 : Nat) : Int) 10 = mkRat 9 10 from rfl, t9_10] at h
  exact h
theorem aw3 (w : World) (he : Env w) : Calls Tryz.prog 16 #[.agg #[.int .i64 2, .int .i64 0], .int .i64 5, .int .i64 2] w (TxtEnd ⟨#[51, 47, 50, 53]⟩ w) := by
  have h := Outgoing_ok 2 0 5 2 w (by decide) (by decide) (by decide) (by decide) (by decide) he
  rw [show left 2 0 5 2 = 6 from by decide +kernel, show ch 5 2 = 10 from by decide +kernel] at h
  unfold RatEnd at h
  rw [show mkRat ((6 : Nat) : Int) (10 * 5) = mkRat 6 50 from rfl, t3_25] at h
  exact h
theorem aw4 (w : World) (he : Env w) : Calls Tryz.prog 16 #[.agg #[.int .i64 2, .int .i64 1], .int .i64 5, .int .i64 2] w (TxtEnd ⟨#[54, 47, 50, 53]⟩ w) := by
  have h := Outgoing_ok 2 1 5 2 w (by decide) (by decide) (by decide) (by decide) (by decide) he
  rw [show left 2 1 5 2 = 12 from by decide +kernel, show ch 5 2 = 10 from by decide +kernel] at h
  unfold RatEnd at h
  rw [show mkRat ((12 : Nat) : Int) (10 * 5) = mkRat 12 50 from rfl, t6_25] at h
  exact h
theorem P500_27 : 27 < P500 := Nat.lt_of_le_of_lt (show 27 ≤ TT * 256 from Nat.le_trans (by decide) (Nat.le_mul_of_pos_left 256 TT_pos)) (lt_T2 (Nat.le_refl _))
theorem aw5 (w : World) (he : Env w) : Calls Tryz.prog 25 #[.agg #[.int .i64 3, .int .i64 1], .string ⟨#[49, 47, 51]⟩] w (TxtEnd ⟨#[50, 48, 47, 50, 55]⟩ w) := by
  have hd : (mkRat 1 3).den = 3 := by decide +kernel
  have h := Binomial_ok 3 1 1 2 (mkRat 1 3) w (by decide) (by decide) (by decide) (by decide +kernel) (by rw [hd]) (by rw [hd]; exact P500_27) he
  rw [hd, show procs 3 1 1 2 = 20 from by decide +kernel, t1_3] at h
  unfold RatEnd at h
  rw [show mkRat ((20 : Nat) : Int) (3 ^ 3) = mkRat 20 27 from rfl, t20_27] at h
  exact h
theorem sm_half : sm SML (mkRat 1 2) := sm_mk (by decide) (Nat.lt_trans (by decide) P500_27) (Nat.lt_trans (by decide) P500_27)
theorem aw6 (w : World) (he : Env w) : Calls Tryz.prog 21 #[.int .i64 5, .int .i64 1, .int .i64 3, .string ⟨#[48]⟩, .string ⟨#[49, 47, 50]⟩] w
    fun e w' => e = .returned (.tuple #[.agg #[.int .i64 3, .int .i64 1], .int .i64 0]) ∧ Below w.heap.size w w' := by
  have h := Least_ok 5 1 3 3 1 0 (mkRat 1 2) w (by decide) (by decide) (by decide) sm_zero sm_half (by decide +kernel) (by decide +kernel) (by decide) (by decide) (by decide)
    (by unfold Meets pa; decide +kernel) (fun n c h1 h2 h3 => by
      rcases (show n = 1 ∧ c = 0 ∨ n = 1 ∧ c = 1 ∨ n = 2 ∧ c = 0 ∨ n = 2 ∧ c = 1 ∨ n = 2 ∧ c = 2 ∨ n = 3 ∧ c = 0 by omega) with ⟨rfl, rfl⟩ | ⟨rfl, rfl⟩ | ⟨rfl, rfl⟩ | ⟨rfl, rfl⟩ | ⟨rfl, rfl⟩ | ⟨rfl, rfl⟩
      all_goals unfold Meets pa
      all_goals decide +kernel) he
  rw [rt_zero, t1_2] at h
  exact h

set_option maxRecDepth 100000 in
set_option maxHeartbeats 1600000 in
theorem awake_any (w : World) (he : Env w) : Calls Tryz.prog 12 #[] w fun e w' => e = .returned (.bool true) ∧ Below w.heap.size w w' := by
  have HE := Lib.hid he
  clear he
  go_enter Tryz.func12, Tryz.ntmps12
  go_wp2_with fail
  refine (aw1 _ HE.out).mono ?_
  rintro e w1 ⟨rfl, hb1⟩
  have HB1 := Lib.hid hb1
  clear hb1
  go_wp2_with fail
  refine (aw2 _ (HE.out.below HB1.out)).mono ?_
  rintro e w2 ⟨rfl, hb2⟩
  have HB2 := Lib.hid (HB1.out.trans (hb2.mono HB1.out.size))
  clear hb2
  go_wp2_with fail
  refine (aw3 _ (HE.out.below HB2.out)).mono ?_
  rintro e w3 ⟨rfl, hb3⟩
  have HB3 := Lib.hid (HB2.out.trans (hb3.mono HB2.out.size))
  clear hb3
  go_wp2_with fail
  refine (aw4 _ (HE.out.below HB3.out)).mono ?_
  rintro e w4 ⟨rfl, hb4⟩
  have HB4 := Lib.hid (HB3.out.trans (hb4.mono HB3.out.size))
  clear hb4
  go_wp2_with fail
  refine (aw5 _ (HE.out.below HB4.out)).mono ?_
  rintro e w5 ⟨rfl, hb5⟩
  have HB5 := Lib.hid (HB4.out.trans (hb5.mono HB4.out.size))
  clear hb5
  go_wp2_with fail
  refine (aw6 _ (HE.out.below HB5.out)).mono ?_
  rintro e w6 ⟨rfl, hb6⟩
  have HB6 := Lib.hid (HB5.out.trans (hb6.mono HB5.out.size))
  clear hb6
  have HC := Lib.hid (two_cells w6 (.int .i64 3) (.int .i64 1) 30)
  have HB7 := Lib.hid (HB6.out.alloc HB6.out.size (.cells #[.int .i64 3, .int .i64 1] 30))
  obtain ⟨c0, c1⟩ := HC.out
  go_wp2
  go_ret
  exact ⟨rfl, HB7.out⟩
end Go.Proofs.YtfebiipggcgmdaaGreatDoor
