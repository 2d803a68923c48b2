import Derived.Test.YtfebiipggcgmdaaGreatDoorAC
import Derived.Test.YtfebiipggcgmdaaGreatDoorA1
namespace Go.Proofs.YtfebiipggcgmdaaGreatDoor
open Go.RowKit

/-- A plan. -/
def pl (N C : Int) : Value := .agg #[.int .i64 N, .int .i64 C]
def chkP (N C : Int) : Int := if N < 1 ∨ 256 < N ∨ C < 0 ∨ N < C then 2 else 0

set_option maxRecDepth 100000 in
theorem pcheck_any (N C : Int) (w : World) : Calls Tryz.prog 18 #[pl N C] w fun e w' => e = .returned (.int .i64 (chkP N C)) ∧ Below w.heap.size w w' := by
  have HB := Lib.hid ((Below.refl w.heap.size w).alloc (Nat.le_refl _) (.cells #[.int .i64 N, .int .i64 C] 30))
  obtain ⟨v, hv⟩ : ∃ v, chkP N C = v := ⟨_, rfl⟩
  rw [hv]
  have HV := Lib.hid hv
  have hc := two_cells w (.int .i64 N) (.int .i64 C) 30
  obtain ⟨c0, c1⟩ := hc
  unfold pl
  clear hv
  go_enter Tryz.func18, Tryz.ntmps18
  go_wp2
  all_goals go_ret
  all_goals refine ⟨?_, HB.out⟩
  all_goals have hv := HV.out
  all_goals unfold chkP at hv
  all_goals subst hv
  all_goals first
    | rw [if_pos (by omega)]; rfl
    | rw [if_neg (by omega)]; rfl

theorem chkP_two (N C : Int) : chkP N C = 2 ∨ chkP N C = 0 ∧ 1 ≤ N ∧ N ≤ 256 ∧ 0 ≤ C ∧ C ≤ N := by
  unfold chkP; split <;> omega

/-- the error of a plan with a lot -/
def szP (N C L : Int) : Int := if chkP N C = 0 ∧ N ≤ L ∧ L ≤ 4096 then 0 else 2

set_option maxRecDepth 100000 in
theorem sized_any (N C L : Int) (w : World) : Calls Tryz.prog 89 #[pl N C, .int .i64 L] w fun e w' => e = .returned (.int .i64 (szP N C L)) ∧ Below w.heap.size w w' := by
  have HB := Lib.hid ((Below.refl w.heap.size w).alloc (Nat.le_refl _) (.cells #[.int .i64 N, .int .i64 C] 30))
  obtain ⟨v, hv⟩ : ∃ v, szP N C L = v := ⟨_, rfl⟩
  rw [hv]
  have HV := Lib.hid hv
  have hc := two_cells w (.int .i64 N) (.int .i64 C) 30
  obtain ⟨c0, c1⟩ := hc
  have hsz : (w.alloc (.cells #[.int .i64 N, .int .i64 C] 30)).heap.size = w.heap.size + 1 := by simp
  have HSZ := Lib.hid hsz
  obtain ⟨u, hu⟩ : ∃ u, chkP N C = u := ⟨_, rfl⟩
  have HU := Lib.hid hu
  have hu2 := chkP_two N C
  rw [hu] at hu2
  have HP := Lib.hid (pcheck_any N C)
  rw [hu] at HP
  unfold pl at HP ⊢
  clear hv hsz hu
  rcases hu2 with rfl | ⟨rfl, hr⟩
  all_goals go_enter Tryz.func89, Tryz.ntmps89
  all_goals go_wp2_with fail
  all_goals refine (HP.out _).mono ?_
  all_goals rintro e w1 ⟨rfl, hb1⟩
  all_goals have HB1 := Lib.hid (HB.out.trans (hb1.mono HB.out.size))
  all_goals have d0 := (hb1.cell (p := ⟨w.heap.size, 0, none⟩) (by rw [HSZ.out]; exact Nat.lt_succ_self _)).trans c0
  all_goals clear hb1
  all_goals go_wp2
  all_goals go_ret
  all_goals refine ⟨?_, HB1.out⟩
  all_goals have hv := HV.out
  all_goals unfold szP at hv
  all_goals rw [HU.out] at hv
  all_goals subst hv
  all_goals first
    | rw [if_pos (by omega)]; rfl
    | rw [if_neg (by omega)]; rfl
end Go.Proofs.YtfebiipggcgmdaaGreatDoor

namespace Go.Proofs.YtfebiipggcgmdaaGreatDoor
open Go.RowKit

theorem szP_two (N C L : Int) : szP N C L = 2 ∨ szP N C L = 0 ∧ 1 ≤ N ∧ N ≤ 256 ∧ 0 ≤ C ∧ C ≤ N ∧ N ≤ L ∧ L ≤ 4096 := by
  have := chkP_two N C
  unfold szP; split <;> omega
/-- the error of a plan with a lot that has bad parts -/
def gvP (N C L B : Int) : Int := if szP N C L = 0 ∧ 0 ≤ B ∧ B ≤ L then 0 else 2
/-- the error of a plan with a lot that is gone through -/
def lsP (N C L : Int) : Int := if szP N C L = 0 then (if L ≤ 256 then 0 else 5) else 2

set_option maxRecDepth 100000 in
theorem given_any (N C L B : Int) (w : World) : Calls Tryz.prog 43 #[pl N C, .int .i64 L, .int .i64 B] w fun e w' => e = .returned (.int .i64 (gvP N C L B)) ∧ Below w.heap.size w w' := by
  have HB := Lib.hid ((Below.refl w.heap.size w).alloc (Nat.le_refl _) (.cells #[.int .i64 N, .int .i64 C] 30))
  obtain ⟨v, hv⟩ : ∃ v, gvP N C L B = v := ⟨_, rfl⟩
  rw [hv]
  have HV := Lib.hid hv
  obtain ⟨c0, c1⟩ := two_cells w (.int .i64 N) (.int .i64 C) 30
  obtain ⟨u, hu⟩ : ∃ u, szP N C L = u := ⟨_, rfl⟩
  have HU := Lib.hid hu
  have hu2 := szP_two N C L
  rw [hu] at hu2
  have HP := Lib.hid (sized_any N C L)
  rw [hu] at HP
  unfold pl at HP ⊢
  clear hv hu
  rcases hu2 with rfl | ⟨rfl, hr⟩
  all_goals go_enter Tryz.func43, Tryz.ntmps43
  all_goals go_wp2_with fail
  all_goals refine (HP.out _).mono ?_
  all_goals rintro e w1 ⟨rfl, hb1⟩
  all_goals have HB1 := Lib.hid (HB.out.trans (hb1.mono HB.out.size))
  all_goals clear hb1
  all_goals go_wp2
  all_goals go_ret
  all_goals refine ⟨?_, HB1.out⟩
  all_goals have hv := HV.out
  all_goals unfold gvP at hv
  all_goals rw [HU.out] at hv
  all_goals subst hv
  all_goals first
    | rw [if_pos (by omega)]; rfl
    | rw [if_neg (by omega)]; rfl

set_option maxRecDepth 100000 in
theorem listed_any (N C L : Int) (w : World) : Calls Tryz.prog 70 #[pl N C, .int .i64 L] w fun e w' => e = .returned (.int .i64 (lsP N C L)) ∧ Below w.heap.size w w' := by
  have HB := Lib.hid ((Below.refl w.heap.size w).alloc (Nat.le_refl _) (.cells #[.int .i64 N, .int .i64 C] 30))
  obtain ⟨v, hv⟩ : ∃ v, lsP N C L = v := ⟨_, rfl⟩
  rw [hv]
  have HV := Lib.hid hv
  obtain ⟨c0, c1⟩ := two_cells w (.int .i64 N) (.int .i64 C) 30
  obtain ⟨u, hu⟩ : ∃ u, szP N C L = u := ⟨_, rfl⟩
  have HU := Lib.hid hu
  have hu2 := szP_two N C L
  rw [hu] at hu2
  have HP := Lib.hid (sized_any N C L)
  rw [hu] at HP
  unfold pl at HP ⊢
  clear hv hu
  rcases hu2 with rfl | ⟨rfl, hr⟩
  all_goals go_enter Tryz.func70, Tryz.ntmps70
  all_goals go_wp2_with fail
  all_goals refine (HP.out _).mono ?_
  all_goals rintro e w1 ⟨rfl, hb1⟩
  all_goals have HB1 := Lib.hid (HB.out.trans (hb1.mono HB.out.size))
  all_goals clear hb1
  all_goals go_wp2
  all_goals go_ret
  all_goals refine ⟨?_, HB1.out⟩
  all_goals have hv := HV.out
  all_goals unfold lsP at hv
  all_goals rw [HU.out] at hv
  all_goals subst hv
  all_goals first
    | rw [if_pos rfl, if_pos (by omega)]; rfl
    | rw [if_pos rfl, if_neg (by omega)]; rfl
    | rw [if_neg (by omega)]; rfl
end Go.Proofs.YtfebiipggcgmdaaGreatDoor

namespace Go.Proofs.YtfebiipggcgmdaaGreatDoor
open Go.RowKit

/-- the product of the first numbers of a list -/
def pr (l : List Int) (j : Nat) : Int := (l.take j).foldl (· * ·) 1
theorem pr_zero (l : List Int) : pr l 0 = 1 := rfl
theorem pr_succ {l : List Int} {j : Nat} {z : Int} (h : l[j]? = some z) : pr l (j + 1) = pr l j * z := by
  unfold pr
  rw [List.take_add_one, h]
  simp

set_option maxRecDepth 100000 in
theorem product_any (g : Nat) (l : List Int) (w : World) (hl : l.length ≤ 8) (hg : g < w.heap.size) (hc : ∀ (i : Nat) (z : Int), l[i]? = some z → w.cell? ⟨g, i, none⟩ = some (.string (it z)))
    (h1 : ∀ (i : Nat) (z : Int), l[i]? = some z → In z) (h2 : ∀ j, j ≤ l.length → In (pr l j)) (he : Env w) :
    Calls Tryz.prog 65 #[.slice (some ⟨g, 0, none⟩) l.length l.length] w (OkEnd (pr l l.length) w) := by
  have HC := Lib.hid hc
  have H1 := Lib.hid h1
  have H2 := Lib.hid h2
  have HE := Lib.hid he
  have HO := Lib.hid it_one
  obtain ⟨n, hn⟩ : ∃ n, l.length = n := ⟨_, rfl⟩
  rw [hn] at hl ⊢
  have HN := Lib.hid hn
  clear hc h1 h2 he hn
  go_enter Tryz.func65, Tryz.ntmps65
  go_wp2
  go_loopg [4, 10] n (fun k s i wr => ∃ j : Nat, s = .string (it (pr l j)) ∧ i = .int .i64 j ∧ j + k = n ∧ Below w.heap.size w wr)
  case atStart => exact ⟨0, by rw [pr_zero, HO.out], rfl, by omega, Below.refl _ _⟩
  case round =>
    obtain ⟨j, rfl, rfl, hk, hbl⟩ := hrel
    by_cases hz : gk = 0
    · obtain rfl : j = n := by omega
      go_wp2
      go_ret2
      exact ⟨rfl, hbl⟩
    · have hj : j < l.length := by rw [HN.out]; omega
      have hji : (j : Int) < n := by omega
      obtain ⟨z, hzz⟩ : ∃ z, l[j]? = some z := ⟨_, List.getElem?_eq_getElem hj⟩
      have c0 := (hbl.cell (p := ⟨g, j, none⟩) hg).trans (HC.out j z hzz)
      have HZ := Lib.hid hzz
      have HB := Lib.hid hbl
      have e1 : IntKind.i64.wrap ((j : Int) + 1) = (j : Int) + 1 := IntWalk.i64_in _ (by omega)
      have HP := Lib.hid (pr_succ hzz)
      have HI := Lib.hid (H2.out (j + 1) hj)
      have HJ := Lib.hid (H2.out j (Nat.le_of_lt hj))
      clear hbl hzz
      go_wp2_with fail
      refine (muli_any (pr l j) z _ HJ.out (H1.out j z HZ.out) (by rw [← HP.out]; exact HI.out) (HE.out.below HB.out)).mono ?_
      rintro e w2 ⟨rfl, hb2⟩
      have HB2 := Lib.hid (HB.out.trans (hb2.mono HB.out.size))
      clear hb2
      go_wp2
      go_roundg (gk - 1)
      case rel => exact ⟨j + 1, by rw [HP.out], by simp, by omega, HB2.out⟩
      case measure => omega
end Go.Proofs.YtfebiipggcgmdaaGreatDoor

namespace Go.Proofs.YtfebiipggcgmdaaGreatDoor
open Go.RowKit

set_option maxRecDepth 100000 in
theorem chosen_out (n k : Int) (w : World) (h : k < 0 ∨ n < k) : Calls Tryz.prog 64 #[.int .i64 n, .int .i64 k] w (OkEnd 0 w) := by
  have HZ := Lib.hid it_zero
  rcases h with h | h
  · go_enter Tryz.func64, Tryz.ntmps64
    go_wp2
    go_ret2
    exact ⟨by rw [HZ.out]; rfl, Below.refl _ _⟩
  · by_cases hk : k < 0
    all_goals go_enter Tryz.func64, Tryz.ntmps64
    all_goals go_wp2
    all_goals go_ret2
    all_goals exact ⟨by rw [HZ.out]; rfl, Below.refl _ _⟩

set_option maxRecDepth 100000 in
set_option maxHeartbeats 1600000 in
theorem chosen_low (n k m : Nat) (w : World) (hk : k ≤ n) (hn : n ≤ 4096) (hm : m = min k (n - k)) (hb : ∀ i, i < m → In ((ch n i * (n - i) : Nat) : Int)) (he : Env w) :
    Calls Tryz.prog 64 #[.int .i64 n, .int .i64 k] w (OkEnd ((ch n m : Nat) : Int) w) := by
  have hki : (k : Int) ≤ n := by omega
  have e0 : IntKind.i64.wrap ((n : Int) - k) = (n : Int) - k := IntWalk.i64_in _ (by omega)
  have hmi : min (k : Int) ((n : Int) - k) = m := by omega
  have HB := Lib.hid hb
  have HE := Lib.hid he
  have HO := Lib.hid it_one
  clear hb he
  go_enter Tryz.func64, Tryz.ntmps64
  go_wp2
  rw [← hm]
  have hm1 : m ≤ n := by omega
  clear hm hmi
  have hd : decide (n < k) = false := decide_eq_false (by omega)
  rw [hd, Bool.or_false]
  clear hd
  go_loopg [6, 23] m (fun l s i wr => ∃ j : Nat, s = .string (it ((ch n j : Nat) : Int)) ∧ i = .int .i64 j ∧ j + l = m ∧ Below w.heap.size w wr)
  case atStart => exact ⟨0, by rw [ch_zero]; exact congrArg Value.string HO.out.symm, rfl, by omega, Below.refl _ _⟩
  case round =>
    obtain ⟨j, rfl, rfl, hl, hbl⟩ := hrel
    have HBL := Lib.hid hbl
    by_cases hz : gk = 0
    · obtain rfl : j = m := by omega
      go_wp2
      go_ret2
      exact ⟨rfl, hbl⟩
    · have hj : j < m := by omega
      have hji : (j : Int) < m := by omega
      have e1 : IntKind.i64.wrap ((n : Int) - j) = (n : Int) - j := IntWalk.i64_in _ (by omega)
      have e2 : IntKind.i64.wrap ((j : Int) + 1) = (j : Int) + 1 := IntWalk.i64_in _ (by omega)
      have hs : ((ch n j : Nat) : Int) * ((n : Int) - j) = ((ch n (j + 1) : Nat) : Int) * ((j : Int) + 1) := by
        have h := ch_step (n := n) (k := j) (by omega)
        have h2 : ((ch n j * (n - j) : Nat) : Int) = ((ch n (j + 1) * (j + 1) : Nat) : Int) := by rw [h]
        rw [Int.natCast_mul, Int.natCast_mul, Int.ofNat_sub (by omega)] at h2
        exact h2
      have hi : In (((ch n j : Nat) : Int) * ((n : Int) - j)) := by
        have h := HB.out j hj
        rw [Int.natCast_mul, Int.ofNat_sub (by omega)] at h
        exact h
      have ic : In ((ch n j : Nat) : Int) := In.of_abs (by
        have h := (HB.out j hj).abs
        rw [Int.natAbs_natCast] at h ⊢
        have := Nat.le_mul_of_pos_right (ch n j) (show 0 < n - j by omega)
        omega)
      have P4 : 5000 < P1024 := by
        have h : 10 ^ 4 ≤ P1024 := Nat.pow_le_pow_right (by omega) (by decide)
        omega
      have in1 : In ((n : Int) - j) := In.of_abs (by omega)
      have in2 : In ((j : Int) + 1) := In.of_abs (by omega)
      have HS := Lib.hid hs
      have HI := Lib.hid hi
      have HC := Lib.hid ic
      have H1 := Lib.hid in1
      have H2 := Lib.hid in2
      have HQ := Lib.hid (quo_exact ((ch n (j + 1) : Nat) : Int) ((j : Int) + 1))
      clear hs hi ic in1 in2 hbl P4
      go_wp2_with fail
      refine (of_any ((n : Int) - j) (by omega) (by omega) _ (HE.out.below HBL.out)).mono ?_
      rintro e w1 ⟨rfl, hb1⟩
      have HB1 := Lib.hid (HBL.out.trans (hb1.mono HBL.out.size))
      clear hb1
      go_wp2_with fail
      refine (muli_any ((ch n j : Nat) : Int) ((n : Int) - j) _ HC.out H1.out HI.out (HE.out.below HB1.out)).mono ?_
      rintro e w2 ⟨rfl, hb2⟩
      have HB2 := Lib.hid (HB1.out.trans (hb2.mono HB1.out.size))
      clear hb2
      go_wp2_with fail
      refine (of_any ((j : Int) + 1) (by omega) (by omega) _ (HE.out.below HB2.out)).mono ?_
      rintro e w3 ⟨rfl, hb3⟩
      have HB3 := Lib.hid (HB2.out.trans (hb3.mono HB2.out.size))
      clear hb3
      go_wp2_with fail
      rw [HS.out]
      refine (HQ.out _ (by omega) (by rw [← HS.out]; exact HI.out) H2.out (HE.out.below HB3.out)).mono ?_
      rintro e w4 ⟨rfl, hb4⟩
      have HB4 := Lib.hid (HB3.out.trans (hb4.mono HB3.out.size))
      clear hb4
      go_wp2
      go_roundg (gk - 1)
      case rel => exact ⟨j + 1, rfl, by simp, by omega, HB4.out⟩
      case measure => omega
end Go.Proofs.YtfebiipggcgmdaaGreatDoor
