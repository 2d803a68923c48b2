import Derived.Test.YtfebiipggcgmdaaGreatDoorR3
namespace Go.Proofs.YtfebiipggcgmdaaGreatDoor
open Go.RowKit

set_option maxRecDepth 100000 in
theorem rgiven_any (N C L B : Int) (w : World) : Calls Tryz.prog 45 #[pl N C, .int .i64 L, .int .i64 B] w fun e w' => e = .returned (.int .i64 (gvP N C L B)) ∧ Below w.heap.size w w' := by
  have HB := Lib.hid ((Below.refl w.heap.size w).alloc (Nat.le_refl _) (.cells #[.int .i64 N, .int .i64 C] 23))
  obtain ⟨v, hv⟩ : ∃ v, gvP N C L B = v := ⟨_, rfl⟩
  rw [hv]
  have HV := Lib.hid hv
  have hc := two_cells w (.int .i64 N) (.int .i64 C) 23
  obtain ⟨c0, c1⟩ := hc
  obtain ⟨u, hu⟩ : ∃ u, szP N C L = u := ⟨_, rfl⟩
  have HU := Lib.hid hu
  have hu2 := szP_two N C L
  rw [hu] at hu2
  have HP := Lib.hid (rlot_any N C L)
  rw [hu] at HP
  unfold pl at HP ⊢
  clear hv hu
  rcases hu2 with rfl | ⟨rfl, hr⟩
  all_goals go_enter Tryz.func45, Tryz.ntmps45
  all_goals go_wp2_with fail
  all_goals refine (HP.out _).mono ?_
  all_goals rintro e w1 ⟨rfl, hb1⟩
  all_goals have HB1 := Lib.hid (HB.out.trans (hb1.mono HB.out.size))
  all_goals clear hb1
  all_goals go_wp2
  all_goals go_ret
  all_goals refine ⟨?_, HB1.out⟩
  all_goals have hv := HV.out
  all_goals unfold gvP at hv
  all_goals rw [HU.out] at hv
  all_goals subst hv
  all_goals first
    | rw [if_pos (by omega)]; rfl
    | rw [if_neg (by omega)]; rfl

set_option maxRecDepth 100000 in
theorem few_any (N C L : Int) (w : World) : Calls Tryz.prog 11 #[pl N C, .int .i64 L] w fun e w' => e = .returned (.bool (decide (L ≤ 9 ∨ szP N C L ≠ 0))) ∧ Below w.heap.size w w' := by
  have HB := Lib.hid ((Below.refl w.heap.size w).alloc (Nat.le_refl _) (.cells #[.int .i64 N, .int .i64 C] 23))
  have hc := two_cells w (.int .i64 N) (.int .i64 C) 23
  obtain ⟨c0, c1⟩ := hc
  have HP := Lib.hid (fun w => rlot_any N C L w)
  have hz := szP_two N C L
  obtain ⟨s, hs⟩ : ∃ s, szP N C L = s := ⟨_, rfl⟩
  obtain ⟨v, hv⟩ : ∃ v, decide (L ≤ 9 ∨ s ≠ 0) = v := ⟨_, rfl⟩
  rw [hs] at HP hz ⊢
  rw [hv]
  have HV := Lib.hid hv
  have hz2 : s = 2 ∨ s = 0 := by omega
  unfold pl at HP ⊢
  clear hs hv hz
  by_cases hL : L ≤ 9
  · go_enter Tryz.func11, Tryz.ntmps11
    go_wp2
    go_ret
    refine ⟨?_, HB.out⟩
    have hv := HV.out
    subst hv
    simp [hL]
  · rcases hz2 with rfl | rfl
    all_goals go_enter Tryz.func11, Tryz.ntmps11
    all_goals go_wp2_with fail
    all_goals refine (HP.out _).mono ?_
    all_goals rintro e w1 ⟨rfl, hb1⟩
    all_goals have HB1 := Lib.hid (HB.out.trans (hb1.mono HB.out.size))
    all_goals clear hb1
    all_goals go_wp2
    all_goals go_ret
    all_goals refine ⟨?_, HB1.out⟩
    all_goals have hv := HV.out
    all_goals subst hv
    all_goals simp
    all_goals omega

/-- The lists, as the loops read them. -/
theorem lists_read {w1 : World} {v : Value} {xs : List Value} {b : Nat} {L : List (List Nat)} (hown : w1.ownsRow b 124 1 v L.length xs) (hls : IsLs w1 xs L) (hp : 0 < L.length) :
    ∃ g cap, v = .slice (some ⟨g, 0, none⟩) L.length cap ∧ g < w1.heap.size ∧ ∀ (j : Nat) (l : List Nat), L[j]? = some l → ∃ x, w1.cell? ⟨g, j, none⟩ = some x ∧ IsL w1 x l := by
  obtain ⟨hxl, hown⟩ := hown
  obtain ⟨g0, c0, cur0, rfl, hg0, hh0, -, -, -, ht0⟩ := hown.resolve_left (fun h => by omega)
  refine ⟨g0, c0, rfl, (Array.getElem?_eq_some_iff.1 hh0).1, fun j l hl => ?_⟩
  obtain ⟨x, h1, h2⟩ := hls.2 j l hl
  refine ⟨x, ?_, h2⟩
  have h3 : cur0.toList[j]? = some x := by
    rw [← ht0, List.getElem?_take] at h1
    split at h1
    · exact h1
    · cases h1
  simp only [World.cell?, hh0]
  simpa using h3

set_option maxRecDepth 100000 in
set_option maxHeartbeats 3200000 in
theorem chance_any (N C lot bad : Nat) (w : World) (hN : N ≤ lot) (hL : lot ≤ 9) (hb : bad ≤ lot) (hC : C ≤ N) :
    Calls Tryz.prog 46 #[pl N C, .int .i64 lot, .int .i64 bad] w fun e w' => e = .returned (.string (rt (mkRat ((good N C lot bad : Nat) : Int) (ch lot N)))) ∧ Below w.heap.size w w' := by
  obtain ⟨f1, f2, -, -⟩ := fin_at hL hN hb hC
  have HLI := Lib.hid (fun w => lists_any lot hL N hN w)
  have HMEM := Lib.hid (fun (l : List Nat) (h : l ∈ lists lot N) => lists_mem h)
  have hpos : 0 < (lists lot N).length := List.length_pos_of_mem (range_in hN)
  have hle : (lists lot N).length ≤ 387420489 := Nat.le_trans (lists_len lot N) (pow9 hL (by omega))
  rw [← f1, ← f2]
  obtain ⟨L, hLL⟩ : ∃ L, lists lot N = L := ⟨_, rfl⟩
  rw [hLL] at HLI HMEM hpos hle ⊢
  have HO := Lib.hid (fun w => over_small (gcnt bad C L) L.length w hpos (by have := gcnt_le bad C L L.length; rw [List.take_length] at this; omega) (by omega))
  have HP0 := Lib.hid (IsP.new w (.int .i64 N) (.int .i64 C) 23)
  have HB0 := Lib.hid ((Below.refl w.heap.size w).alloc (Nat.le_refl _) (.cells #[.int .i64 N, .int .i64 C] 23))
  obtain ⟨c0, c1, -⟩ := HP0.out
  have hN9 : N ≤ 9 := by omega
  unfold pl
  clear f1 f2 hLL
  go_enter Tryz.func46, Tryz.ntmps46
  go_wp2_with fail
  refine (HLI.out _).mono ?_
  rintro e w1 ⟨v, xs, rfl, hown, hls, hb1⟩
  obtain ⟨g, cap, rfl, hg, hread⟩ := lists_read hown hls hpos
  have HP1 := Lib.hid (HP0.out.below hb1)
  have HB1 := Lib.hid (HB0.out.trans (hb1.mono HB0.out.size))
  have HR := Lib.hid hread
  have HG := Lib.hid hg
  clear hb1 hown hls hread hg c0 c1
  go_wp2
  go_loopg [8, 9] L.length (fun k nv iv wr => ∃ j : Nat, nv = .int .i64 ((gcnt bad C (L.take j) : Nat) : Int) ∧ iv = .int .i64 j ∧ j + k = L.length ∧ Below w1.heap.size w1 wr)
  case atStart => exact ⟨0, rfl, rfl, by omega, Below.refl _ _⟩
  case round =>
    obtain ⟨j, rfl, rfl, hk, hbl⟩ := hrel
    have HBL := Lib.hid hbl
    by_cases hz : gk = 0
    · obtain rfl : j = L.length := by omega
      rw [List.take_length]
      clear hbl
      go_wp2_with fail
      refine (HO.out _).mono ?_
      rintro e w3 ⟨rfl, hb3⟩
      have HB3 := Lib.hid (HB1.out.trans ((HBL.out.trans (hb3.mono HBL.out.size)).mono HB1.out.size))
      clear hb3
      go_wp2
      go_ret
      exact ⟨rfl, HB3.out⟩
    · have hj : j < L.length := by omega
      have hji : (j : Int) < L.length := by omega
      obtain ⟨l, hl⟩ : ∃ l, L[j]? = some l := ⟨_, List.getElem?_eq_getElem hj⟩
      obtain ⟨x, hcx, hil⟩ := HR.out j l hl
      have hcx2 := (hbl.cell (p := ⟨g, j, none⟩) HG.out).trans hcx
      have HF := Lib.hid (fun m => found_any x l bad (wr.drewN m) (by rw [(HMEM.out l (List.mem_of_getElem? hl)).1]; exact hN9) (hil.below (below_drewN hbl m)))
      have HX := HP1.out.below hbl
      obtain ⟨c0, c1, -⟩ := HX
      have HT := Lib.hid (gcnt_take (bad := bad) (C := C) hl)
      have hgl := gcnt_le bad C L j
      obtain ⟨n, hn⟩ : ∃ n, gcnt bad C (L.take j) = n := ⟨_, rfl⟩
      rw [hn] at HT hgl ⊢
      obtain ⟨c, hc⟩ : ∃ c, cntB bad l = c := ⟨_, rfl⟩
      rw [hc] at HT HF
      have e1 : IntKind.i64.wrap ((n : Int) + 1) = (n : Int) + 1 := IntWalk.i64_in _ (by omega)
      have e2 : IntKind.i64.wrap ((j : Int) + 1) = (j : Int) + 1 := IntWalk.i64_in _ (by omega)
      clear hn hc hl hil hcx hbl
      by_cases hcC : c ≤ C
      · have hci : (c : Int) ≤ C := by omega
        have HZ := Lib.hid hcC
        clear hcC
        go_wp2
        go_quiet ((go_at_call 93; exact Calls.quiet_of_same (HF.out _)))
        go_wp2
        go_roundg (gk - 1)
        case rel => exact ⟨j + 1, by rw [HT.out, if_pos HZ.out]; rfl, by simp, by omega, below_drewN HBL.out _⟩
        case measure => omega
      · have hci : ¬ (c : Int) ≤ C := by omega
        have HZ := Lib.hid hcC
        clear hcC
        go_wp2
        go_quiet ((go_at_call 93; exact Calls.quiet_of_same (HF.out _)))
        go_wp2
        go_roundg (gk - 1)
        case rel => exact ⟨j + 1, by rw [HT.out, if_neg HZ.out]; rfl, by simp, by omega, below_drewN HBL.out _⟩
        case measure => omega

set_option maxRecDepth 100000 in
set_option maxHeartbeats 3200000 in
theorem rleft_any (N C lot bad : Nat) (w : World) (hN : N ≤ lot) (hL : lot ≤ 9) (hb : bad ≤ lot) (hC : C ≤ N) (hl0 : 0 < lot) :
    Calls Tryz.prog 48 #[pl N C, .int .i64 lot, .int .i64 bad] w fun e w' => e = .returned (.string (rt (mkRat ((left N C lot bad : Nat) : Int) (ch lot N * lot)))) ∧ Below w.heap.size w w' := by
  obtain ⟨f1, -, f2, f4⟩ := fin_at hL hN hb hC
  have HB4 := Lib.hid f4
  have HLI := Lib.hid (fun w => lists_any lot hL N hN w)
  have HMEM := Lib.hid (fun (l : List Nat) (h : l ∈ lists lot N) => lists_mem h)
  have hpos : 0 < (lists lot N).length := List.length_pos_of_mem (range_in hN)
  have hle : (lists lot N).length ≤ 387420489 := Nat.le_trans (lists_len lot N) (pow9 hL (by omega))
  rw [← f1, ← f2]
  obtain ⟨L, hLL⟩ : ∃ L, lists lot N = L := ⟨_, rfl⟩
  rw [hLL] at HLI HMEM HB4 hpos hle ⊢
  have hml : L.length * lot ≤ 387420489 * 9 := Nat.mul_le_mul hle hL
  have hmb : L.length * bad ≤ 387420489 * 9 := Nat.mul_le_mul hle (by omega)
  have HO := Lib.hid (fun w => over_small (wsum bad C L) (L.length * lot) w (Nat.mul_pos hpos hl0) (by have := wsum_le bad C L L.length; rw [List.take_length] at this; omega) (by omega))
  have em : IntKind.i64.wrap ((lot : Int) * (L.length : Int)) = ((L.length * lot : Nat) : Int) := by
    rw [show (lot : Int) * (L.length : Int) = ((L.length * lot : Nat) : Int) by rw [Int.natCast_mul, Int.mul_comm]]
    exact IntWalk.i64_in _ (by omega)
  obtain ⟨ml, hmm⟩ : ∃ ml, L.length * lot = ml := ⟨_, rfl⟩
  rw [hmm] at HO em ⊢
  have HP0 := Lib.hid (IsP.new w (.int .i64 N) (.int .i64 C) 23)
  have HB0 := Lib.hid ((Below.refl w.heap.size w).alloc (Nat.le_refl _) (.cells #[.int .i64 N, .int .i64 C] 23))
  obtain ⟨c0, c1, -⟩ := HP0.out
  have hN9 : N ≤ 9 := by omega
  have HMB := Lib.hid hmb
  have hb9 : bad ≤ 9 := by omega
  unfold pl
  clear f1 f2 f4 hLL hmm hml hmb hb hN hL
  go_enter Tryz.func48, Tryz.ntmps48
  go_wp2_with fail
  refine (HLI.out _).mono ?_
  rintro e w1 ⟨v, xs, rfl, hown, hls, hb1⟩
  obtain ⟨g, cap, rfl, hg, hread⟩ := lists_read hown hls hpos
  have HP1 := Lib.hid (HP0.out.below hb1)
  have HB1 := Lib.hid (HB0.out.trans (hb1.mono HB0.out.size))
  have HR := Lib.hid hread
  have HG := Lib.hid hg
  clear hb1 hown hls hread hg c0 c1
  go_wp2
  go_loopg [8, 9] L.length (fun k nv iv wr => ∃ j : Nat, nv = .int .i64 ((wsum bad C (L.take j) : Nat) : Int) ∧ iv = .int .i64 j ∧ j + k = L.length ∧ Below w1.heap.size w1 wr)
  case atStart => exact ⟨0, rfl, rfl, by omega, Below.refl _ _⟩
  case round =>
    obtain ⟨j, rfl, rfl, hk, hbl⟩ := hrel
    have HBL := Lib.hid hbl
    by_cases hz : gk = 0
    · obtain rfl : j = L.length := by omega
      rw [List.take_length]
      clear hbl
      go_wp2_with fail
      refine (HO.out _).mono ?_
      rintro e w3 ⟨rfl, hb3⟩
      have HB3 := Lib.hid (HB1.out.trans ((HBL.out.trans (hb3.mono HBL.out.size)).mono HB1.out.size))
      clear hb3
      go_wp2
      go_ret
      exact ⟨rfl, HB3.out⟩
    · have hj : j < L.length := by omega
      have hji : (j : Int) < L.length := by omega
      obtain ⟨l, hl⟩ : ∃ l, L[j]? = some l := ⟨_, List.getElem?_eq_getElem hj⟩
      obtain ⟨x, hcx, hil⟩ := HR.out j l hl
      have hcx2 := (hbl.cell (p := ⟨g, j, none⟩) HG.out).trans hcx
      have HF := Lib.hid (found_any x l bad wr (by rw [(HMEM.out l (List.mem_of_getElem? hl)).1]; exact hN9) (hil.below hbl))
      have HX := HP1.out.below hbl
      obtain ⟨c0, c1, -⟩ := HX
      have HT := Lib.hid (wsum_take (bad := bad) (C := C) hl)
      have hgl : wsum bad C (L.take j) ≤ 387420489 * 9 := Nat.le_trans (wsum_le bad C L j) (Nat.le_trans (Nat.mul_le_mul (Nat.le_of_lt hj) (Nat.le_refl _)) HMB.out)
      obtain ⟨n, hn⟩ : ∃ n, wsum bad C (L.take j) = n := ⟨_, rfl⟩
      rw [hn] at HT hgl ⊢
      have hcb : cntB bad l ≤ 9 := Nat.le_trans List.countP_le_length (by rw [(HMEM.out l (List.mem_of_getElem? hl)).1]; exact hN9)
      have hcbad := HB4.out l (List.mem_of_getElem? hl)
      obtain ⟨c, hc⟩ : ∃ c, cntB bad l = c := ⟨_, rfl⟩
      rw [hc] at HT HF hcb hcbad
      have e2 : IntKind.i64.wrap ((j : Int) + 1) = (j : Int) + 1 := IntWalk.i64_in _ (by omega)
      clear hn hc hl hil hcx hbl
      by_cases hcC : c ≤ C
      · have hci : (c : Int) ≤ C := by omega
        have HZ := Lib.hid hcC
        have e3 : IntKind.i64.wrap ((bad : Int) - c) = ((bad - c : Nat) : Int) := by rw [Int.ofNat_sub hcbad]; exact IntWalk.i64_in _ (by omega)
        have e4 : IntKind.i64.wrap ((n : Int) + ((bad - c : Nat) : Int)) = ((n + (bad - c) : Nat) : Int) := by
          rw [Int.natCast_add]; exact IntWalk.i64_in _ (by omega)
        obtain ⟨dd, hdd⟩ : ∃ dd, bad - c = dd := ⟨_, rfl⟩
        rw [hdd] at e3 e4 HT
        obtain ⟨nn, hnn⟩ : ∃ nn, n + dd = nn := ⟨_, rfl⟩
        rw [hnn] at e4
        have HN := Lib.hid hnn
        clear hcC hdd hnn
        go_wp2_with fail
        refine HF.out.mono ?_
        rintro e w5 ⟨rfl, rfl⟩
        go_wp2
        go_roundg (gk - 1)
        case rel => exact ⟨j + 1, by rw [HT.out, if_pos HZ.out, HN.out], by simp, by omega, HBL.out⟩
        case measure => omega
      · have hci : ¬ (c : Int) ≤ C := by omega
        have HZ := Lib.hid hcC
        clear hcC
        go_wp2_with fail
        refine HF.out.mono ?_
        rintro e w5 ⟨rfl, rfl⟩
        go_wp2
        go_roundg (gk - 1)
        case rel => exact ⟨j + 1, by rw [HT.out, if_neg HZ.out]; rfl, by simp, by omega, HBL.out⟩
        case measure => omega
end Go.Proofs.YtfebiipggcgmdaaGreatDoor
