import Derived.Test.YtfebiipggcgmdaaGreatDoorR2
import Derived.Test.YtfebiipggcgmdaaGreatDoorL2
namespace Go.Proofs.YtfebiipggcgmdaaGreatDoor
open Go.RowKit

/-! ## counting the reference's lists -/
/-- how many numbers of a list are below a bound -/
def cntB (bad : Nat) (l : List Nat) : Nat := l.countP (· < bad)
theorem cntB_take {bad : Nat} {l : List Nat} {j z : Nat} (h : l[j]? = some z) : cntB bad (l.take (j + 1)) = cntB bad (l.take j) + if z < bad then 1 else 0 := by
  unfold cntB
  rw [List.take_add_one, h, List.countP_append]
  simp only [Option.toList, List.countP_singleton, decide_eq_true_eq]

set_option maxRecDepth 100000 in
set_option maxHeartbeats 1600000 in
theorem found_any (x : Value) (l : List Nat) (bad : Nat) (w : World) (hl : l.length ≤ 9) (hx : IsL w x l) :
    Calls Tryz.prog 93 #[x, .int .i64 bad] w fun e w' => e = .returned (.int .i64 (cntB bad l)) ∧ w' = w := by
  have hc : ∃ a cap, x = .slice a l.length cap ∧ ∀ (j z : Nat), l[j]? = some z → ∃ h, a = some ⟨h, 0, none⟩ ∧ w.cell? ⟨h, j, none⟩ = some (.int .i64 z) := by
    rcases hx with ⟨rfl, rfl⟩ | ⟨h0, h, cap, cur, rfl, hh, hcur⟩
    · exact ⟨none, 0, rfl, fun j z hz => by cases hz⟩
    · exact ⟨_, cap, rfl, fun j z hz => ⟨h, rfl, by simp only [World.cell?, hh]; exact hcur j z hz⟩⟩
  obtain ⟨a, cap, rfl, hc⟩ := hc
  have HC := Lib.hid hc
  clear hc hx
  go_enter Tryz.func93, Tryz.ntmps93
  go_wp2
  go_loopg [5, 6] l.length (fun k nv iv wr => ∃ j : Nat, nv = .int .i64 ((cntB bad (l.take j) : Nat) : Int) ∧ iv = .int .i64 j ∧ j + k = l.length ∧ wr = w)
  case atStart => exact ⟨0, rfl, rfl, by omega, rfl⟩
  case round =>
    obtain ⟨j, rfl, rfl, hk, rfl⟩ := hrel
    by_cases hz : gk = 0
    · obtain rfl : j = l.length := by omega
      have hn : ¬ ((l.length : Nat) : Int) < (l.length : Nat) := by omega
      rw [List.take_length]
      go_wp2
      go_ret
      exact ⟨rfl, rfl⟩
    · have hj : j < l.length := by omega
      have hji : (j : Int) < l.length := by omega
      obtain ⟨z, hzz⟩ : ∃ z, l[j]? = some z := ⟨_, List.getElem?_eq_getElem hj⟩
      obtain ⟨h, rfl, hcell⟩ := HC.out j z hzz
      have HT := Lib.hid (cntB_take (bad := bad) hzz)
      have hle : cntB bad (l.take j) ≤ 9 := Nat.le_trans List.countP_le_length (by rw [List.length_take]; omega)
      obtain ⟨c, hcc⟩ : ∃ c, cntB bad (l.take j) = c := ⟨_, rfl⟩
      rw [hcc] at HT hle ⊢
      have e1 : IntKind.i64.wrap ((c : Int) + 1) = (c : Int) + 1 := IntWalk.i64_in _ (by omega)
      have e2 : IntKind.i64.wrap ((j : Int) + 1) = (j : Int) + 1 := IntWalk.i64_in _ (by omega)
      clear hcc hzz
      by_cases hzb : z < bad
      · have hzi : (z : Int) < bad := by omega
        have HZ := Lib.hid hzb
        clear hzb
        go_wp2
        go_roundg (gk - 1)
        case rel => exact ⟨j + 1, by rw [HT.out, if_pos HZ.out]; rfl, by simp, by omega, rfl⟩
        case measure => omega
      · have hzi : ¬ (z : Int) < bad := by omega
        have HZ := Lib.hid hzb
        clear hzb
        go_wp2
        go_roundg (gk - 1)
        case rel => exact ⟨j + 1, by rw [HT.out, if_neg HZ.out]; rfl, by simp, by omega, rfl⟩
        case measure => omega

/-- how many lists have at most C bad numbers; how many good ones they leave -/
def gcnt (bad C : Nat) (L : List (List Nat)) : Nat := L.countP fun l => cntB bad l ≤ C
def wsum (bad C : Nat) (L : List (List Nat)) : Nat := (L.map fun l => if cntB bad l ≤ C then bad - cntB bad l else 0).sum
def finB (lot : Nat) : Bool := (List.range (lot + 1)).all fun N => (lists lot N).length == ch lot N && (List.range (lot + 1)).all fun bad => ((lists lot N).all fun l => decide (cntB bad l ≤ bad)) && (List.range (N + 1)).all fun C =>
  gcnt bad C (lists lot N) == good N C lot bad && wsum bad C (lists lot N) == left N C lot bad
set_option maxRecDepth 100000 in
theorem fin_ok : (List.range 10).all finB = true := by decide +kernel
theorem fin_at {lot N C bad : Nat} (h1 : lot ≤ 9) (h2 : N ≤ lot) (h3 : bad ≤ lot) (h4 : C ≤ N) : (lists lot N).length = ch lot N ∧ gcnt bad C (lists lot N) = good N C lot bad ∧ wsum bad C (lists lot N) = left N C lot bad ∧ ∀ l ∈ lists lot N, cntB bad l ≤ bad := by
  have h := List.all_eq_true.1 fin_ok lot (List.mem_range.2 (by omega))
  unfold finB at h
  have hh := List.all_eq_true.1 h N (List.mem_range.2 (by omega))
  simp only [Bool.and_eq_true, beq_iff_eq] at hh
  have hb := List.all_eq_true.1 hh.2 bad (List.mem_range.2 (by omega))
  simp only [Bool.and_eq_true] at hb
  have hc := List.all_eq_true.1 hb.2 C (List.mem_range.2 (by omega))
  simp only [Bool.and_eq_true, beq_iff_eq] at hc
  exact ⟨hh.1, hc.1, hc.2, fun l hl => of_decide_eq_true (List.all_eq_true.1 hb.1 l hl)⟩
theorem gcnt_take {bad C : Nat} {L : List (List Nat)} {j : Nat} {l : List Nat} (h : L[j]? = some l) : gcnt bad C (L.take (j + 1)) = gcnt bad C (L.take j) + if cntB bad l ≤ C then 1 else 0 := by
  unfold gcnt
  rw [List.take_add_one, h, List.countP_append]
  simp only [Option.toList, List.countP_singleton, decide_eq_true_eq]
theorem wsum_take {bad C : Nat} {L : List (List Nat)} {j : Nat} {l : List Nat} (h : L[j]? = some l) : wsum bad C (L.take (j + 1)) = wsum bad C (L.take j) + if cntB bad l ≤ C then bad - cntB bad l else 0 := by
  unfold wsum
  rw [List.take_add_one, h, List.map_append, List.sum_append]
  simp [Option.toList]
theorem gcnt_le (bad C : Nat) (L : List (List Nat)) (j : Nat) : gcnt bad C (L.take j) ≤ j := Nat.le_trans List.countP_le_length (by rw [List.length_take]; omega)
theorem wsum_le (bad C : Nat) : ∀ (L : List (List Nat)) (j : Nat), wsum bad C (L.take j) ≤ j * bad
  | [], j => by simp [wsum]
  | a :: L, 0 => by simp [wsum]
  | a :: L, j + 1 => by
    have := wsum_le bad C L j
    unfold wsum at *
    rw [List.take_succ_cons, List.map_cons, List.sum_cons, Nat.succ_mul]
    split <;> omega
end Go.Proofs.YtfebiipggcgmdaaGreatDoor
