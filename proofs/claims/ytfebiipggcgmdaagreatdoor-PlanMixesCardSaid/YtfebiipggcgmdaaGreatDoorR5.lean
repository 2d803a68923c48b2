import Derived.Test.YtfebiipggcgmdaaGreatDoorR4
import Derived.BigRegion
import Derived.Deep.RegionHeld3
namespace Go.Proofs.YtfebiipggcgmdaaGreatDoor
open Go.RowKit

set_option maxRecDepth 100000 in
set_option maxHeartbeats 1600000 in
theorem rAccept_ok (N C lot bad : Nat) (w : World) (h1 : 1 ≤ N) (hC : C ≤ N) (hN : N ≤ lot) (hb : bad ≤ lot) (hL : lot ≤ 9) :
    Calls Tryz.prog 15 #[pl N C, .int .i64 lot, .int .i64 bad] w (TxtEnd (rt (mkRat ((good N C lot bad : Nat) : Int) (ch lot N))) w) := by
  have HG := Lib.hid (gvP_ok h1 hC hN hb (show lot ≤ 256 by omega))
  have hc := two_cells w (.int .i64 N) (.int .i64 C) 23
  obtain ⟨c0, c1⟩ := hc
  have HB0 := Lib.hid ((Below.refl w.heap.size w).alloc (Nat.le_refl _) (.cells #[.int .i64 N, .int .i64 C] 23))
  have HSZ := Lib.hid (show (w.alloc (.cells #[.int .i64 N, .int .i64 C] 23)).heap.size = w.heap.size + 1 by simp)
  have hl0 : 0 < lot := by omega
  unfold pl
  go_enter Tryz.func15, Tryz.ntmps15
  go_wp2_with fail
  refine (rgiven_any N C lot bad _).mono ?_
  rintro e w1 ⟨rfl, hb1⟩
  rw [HG.out]
  have HB1 := Lib.hid (HB0.out.trans (hb1.mono HB0.out.size))
  have d0 := (hb1.cell (p := ⟨w.heap.size, 0, none⟩) (by rw [HSZ.out]; exact Nat.lt_succ_self _)).trans c0
  have d1 := (hb1.cell (p := ⟨w.heap.size, 1, none⟩) (by rw [HSZ.out]; exact Nat.lt_succ_self _)).trans c1
  clear hb1 c0 c1
  go_wp2_with fail
  refine (chance_any N C lot bad _ hN hL hb hC).mono ?_
  rintro e w2 ⟨rfl, hb2⟩
  have HB2 := Lib.hid (HB1.out.trans (hb2.mono HB1.out.size))
  clear hb2
  go_wp2
  go_ret2
  exact ⟨rfl, HB2.out⟩

set_option maxRecDepth 100000 in
set_option maxHeartbeats 1600000 in
theorem rAccept_bad (N C lot bad : Int) (w : World) (h : gvP N C lot bad = 2) :
    Calls Tryz.prog 15 #[pl N C, .int .i64 lot, .int .i64 bad] w fun e w' => e = .returned (.tuple #[.string ⟨#[]⟩, .int .i64 2]) ∧ Below w.heap.size w w' := by
  have HG := Lib.hid h
  have hc := two_cells w (.int .i64 N) (.int .i64 C) 23
  obtain ⟨c0, c1⟩ := hc
  have HB0 := Lib.hid ((Below.refl w.heap.size w).alloc (Nat.le_refl _) (.cells #[.int .i64 N, .int .i64 C] 23))
  unfold pl
  clear h
  go_enter Tryz.func15, Tryz.ntmps15
  go_wp2_with fail
  refine (rgiven_any N C lot bad _).mono ?_
  rintro e w1 ⟨rfl, hb1⟩
  rw [HG.out]
  have HB1 := Lib.hid (HB0.out.trans (hb1.mono HB0.out.size))
  clear hb1
  go_wp2
  go_ret2
  exact ⟨rfl, HB1.out⟩

set_option maxRecDepth 100000 in
set_option maxHeartbeats 1600000 in
theorem rOutgoing_ok (N C lot bad : Nat) (w : World) (h1 : 1 ≤ N) (hC : C ≤ N) (hN : N ≤ lot) (hb : bad ≤ lot) (hL : lot ≤ 9) :
    Calls Tryz.prog 17 #[pl N C, .int .i64 lot, .int .i64 bad] w (TxtEnd (rt (mkRat ((left N C lot bad : Nat) : Int) (ch lot N * lot))) w) := by
  have HG := Lib.hid (gvP_ok h1 hC hN hb (show lot ≤ 256 by omega))
  have hc := two_cells w (.int .i64 N) (.int .i64 C) 23
  obtain ⟨c0, c1⟩ := hc
  have HB0 := Lib.hid ((Below.refl w.heap.size w).alloc (Nat.le_refl _) (.cells #[.int .i64 N, .int .i64 C] 23))
  have HSZ := Lib.hid (show (w.alloc (.cells #[.int .i64 N, .int .i64 C] 23)).heap.size = w.heap.size + 1 by simp)
  have hl0 : 0 < lot := by omega
  unfold pl
  go_enter Tryz.func17, Tryz.ntmps17
  go_wp2_with fail
  refine (rgiven_any N C lot bad _).mono ?_
  rintro e w1 ⟨rfl, hb1⟩
  rw [HG.out]
  have HB1 := Lib.hid (HB0.out.trans (hb1.mono HB0.out.size))
  have d0 := (hb1.cell (p := ⟨w.heap.size, 0, none⟩) (by rw [HSZ.out]; exact Nat.lt_succ_self _)).trans c0
  have d1 := (hb1.cell (p := ⟨w.heap.size, 1, none⟩) (by rw [HSZ.out]; exact Nat.lt_succ_self _)).trans c1
  clear hb1 c0 c1
  go_wp2_with fail
  refine (rleft_any N C lot bad _ hN hL hb hC hl0).mono ?_
  rintro e w2 ⟨rfl, hb2⟩
  have HB2 := Lib.hid (HB1.out.trans (hb2.mono HB1.out.size))
  clear hb2
  go_wp2
  go_ret2
  exact ⟨rfl, HB2.out⟩

set_option maxRecDepth 100000 in
set_option maxHeartbeats 1600000 in
theorem rOutgoing_bad (N C lot bad : Int) (w : World) (h : gvP N C lot bad = 2) :
    Calls Tryz.prog 17 #[pl N C, .int .i64 lot, .int .i64 bad] w fun e w' => e = .returned (.tuple #[.string ⟨#[]⟩, .int .i64 2]) ∧ Below w.heap.size w w' := by
  have HG := Lib.hid h
  have hc := two_cells w (.int .i64 N) (.int .i64 C) 23
  obtain ⟨c0, c1⟩ := hc
  have HB0 := Lib.hid ((Below.refl w.heap.size w).alloc (Nat.le_refl _) (.cells #[.int .i64 N, .int .i64 C] 23))
  unfold pl
  clear h
  go_enter Tryz.func17, Tryz.ntmps17
  go_wp2_with fail
  refine (rgiven_any N C lot bad _).mono ?_
  rintro e w1 ⟨rfl, hb1⟩
  rw [HG.out]
  have HB1 := Lib.hid (HB0.out.trans (hb1.mono HB0.out.size))
  clear hb1
  go_wp2
  go_ret2
  exact ⟨rfl, HB1.out⟩

set_option maxRecDepth 100000 in
set_option maxHeartbeats 6400000 in
theorem accepts_core (N C L B : Int) (a c : ByteArray) (ea ec : Int) (w : World) (he : Env w)
    (hF : ∀ w, Calls Tryz.prog 11 #[pl N C, .int .i64 L] w fun e w' => e = .returned (.bool true) ∧ Below w.heap.size w w')
    (hA : ∀ w, Env w → Calls Tryz.prog 13 #[pl N C, .int .i64 L, .int .i64 B] w fun e w' => e = .returned (.tuple #[.string a, .int .i64 ea]) ∧ Below w.heap.size w w')
    (hB : ∀ w, Calls Tryz.prog 15 #[pl N C, .int .i64 L, .int .i64 B] w fun e w' => e = .returned (.tuple #[.string a, .int .i64 ea]) ∧ Below w.heap.size w w')
    (hC : ∀ w, Env w → Calls Tryz.prog 16 #[pl N C, .int .i64 L, .int .i64 B] w fun e w' => e = .returned (.tuple #[.string c, .int .i64 ec]) ∧ Below w.heap.size w w')
    (hD : ∀ w, Calls Tryz.prog 17 #[pl N C, .int .i64 L, .int .i64 B] w fun e w' => e = .returned (.tuple #[.string c, .int .i64 ec]) ∧ Below w.heap.size w w') :
    Calls Tryz.prog 3 #[pl N C, .int .i64 L, .int .i64 B] w fun e w' => e = .returned (.bool true) ∧ Below w.heap.size w w' := by
  have HE := Lib.hid he
  have HF := Lib.hid hF
  have HA := Lib.hid hA
  have HB := Lib.hid hB
  have HC := Lib.hid hC
  have HD := Lib.hid hD
  have HSE := Lib.hid (fun w => sent_any N C w)
  have HCA := Lib.hid (fun w => pcheck_any N C w)
  have HCB := Lib.hid (fun w => rchk54_any N C w)
  obtain ⟨ck, hck⟩ : ∃ ck, chkP N C = ck := ⟨_, rfl⟩
  rw [hck] at HCA HCB
  have HX2 := Lib.hid (IsP.new w (.int .i64 N) (.int .i64 C) 23)
  have HQ2 := Lib.hid ((Below.refl w.heap.size w).alloc (Nat.le_refl _) (.cells #[.int .i64 N, .int .i64 C] 23))
  unfold pl at HF HA HB HC HD HSE HCA HCB ⊢
  clear he hF hA hB hC hD hck
  go_enter Tryz.func3, Tryz.ntmps3
  obtain ⟨c0, c1, -⟩ := HX2.out
  go_wp2_with fail
  refine (HF.out _).mono ?_
  rintro e w3 ⟨rfl, hb3⟩
  have HQ3 := Lib.hid (HQ2.out.trans (hb3.mono HQ2.out.size))
  have HX3 := Lib.hid (HX2.out.below hb3)
  clear hb3 c0 c1
  obtain ⟨c0, c1, -⟩ := HX3.out
  go_wp2_with fail
  refine (HSE.out _).mono ?_
  rintro e w4 ⟨rfl, hb4⟩
  have HQ4 := Lib.hid (HQ3.out.trans (hb4.mono HQ3.out.size))
  have HX4 := Lib.hid (HX3.out.below hb4)
  clear hb4 c0 c1
  obtain ⟨c0, c1, -⟩ := HX4.out
  go_wp2_with fail
  refine (HA.out _ (HE.out.below HQ4.out)).mono ?_
  rintro e w5 ⟨rfl, hb5⟩
  have HQ5 := Lib.hid (HQ4.out.trans (hb5.mono HQ4.out.size))
  have HX5 := Lib.hid (HX4.out.below hb5)
  clear hb5 c0 c1
  obtain ⟨c0, c1, -⟩ := HX5.out
  go_wp2_with fail
  refine (HB.out _).mono ?_
  rintro e w6 ⟨rfl, hb6⟩
  have HQ6 := Lib.hid (HQ5.out.trans (hb6.mono HQ5.out.size))
  have HX6 := Lib.hid (HX5.out.below hb6)
  clear hb6 c0 c1
  obtain ⟨c0, c1, -⟩ := HX6.out
  go_wp2_with fail
  refine (HSE.out _).mono ?_
  rintro e w7 ⟨rfl, hb7⟩
  have HQ7 := Lib.hid (HQ6.out.trans (hb7.mono HQ6.out.size))
  have HX7 := Lib.hid (HX6.out.below hb7)
  clear hb7 c0 c1
  obtain ⟨c0, c1, -⟩ := HX7.out
  go_wp2_with fail
  refine (HC.out _ (HE.out.below HQ7.out)).mono ?_
  rintro e w8 ⟨rfl, hb8⟩
  have HQ8 := Lib.hid (HQ7.out.trans (hb8.mono HQ7.out.size))
  have HX8 := Lib.hid (HX7.out.below hb8)
  clear hb8 c0 c1
  obtain ⟨c0, c1, -⟩ := HX8.out
  go_wp2_with fail
  refine (HD.out _).mono ?_
  rintro e w9 ⟨rfl, hb9⟩
  have HQ9 := Lib.hid (HQ8.out.trans (hb9.mono HQ8.out.size))
  have HX9 := Lib.hid (HX8.out.below hb9)
  clear hb9 c0 c1
  obtain ⟨c0, c1, -⟩ := HX9.out
  go_wp2_with fail
  go_region_held3 (fun w' => w'.cell? ⟨w.heap.size, 0, none⟩ = some (.int .i64 N) ∧ w'.cell? ⟨w.heap.size, 1, none⟩ = some (.int .i64 C)) (first | exact ⟨c0, c1⟩ | exact ⟨a0, a1⟩ | exact ⟨b0, b1⟩ | exact ⟨e0, e1⟩ | exact ⟨g0, g1⟩ | go_keep) (first
    | (go_at_call 12; refine (awake_any _ (HE.out.below HQ9.out.drew)).mono ?_; rintro e wa ⟨rfl, hba⟩; have HQA := Lib.hid (HQ9.out.drew.trans (hba.mono HQ9.out.drew.size)); have HXA := Lib.hid ((show IsP w9.drew w.heap.size (.int .i64 N) (.int .i64 C) from ⟨HX9.out.n, HX9.out.c, HX9.out.l⟩).below hba); have a0 := HXA.out.n; have a1 := HXA.out.c; clear hba)
    | (go_at_call 14; refine (HSE.out _).mono ?_; rintro e wb ⟨rfl, hbb⟩; have HQB := Lib.hid (HQA.out.trans (hbb.mono HQA.out.size)); have HXB := Lib.hid (HXA.out.below hbb); have b0 := HXB.out.n; have b1 := HXB.out.c; clear hbb)
    | (go_at_call 18; refine (HCA.out _).mono ?_; rintro e wc ⟨rfl, hbc⟩; have HQC := Lib.hid (HQB.out.trans (hbc.mono HQB.out.size)); have HXC := Lib.hid (HXB.out.below hbc); have e0 := HXC.out.n; have e1 := HXC.out.c; clear hbc)
    | (go_at_call 19; refine (HCB.out _).mono ?_; rintro e wd ⟨rfl, hbd⟩; have HQD := Lib.hid (HQC.out.trans (hbd.mono HQC.out.size)); have HXD := Lib.hid (HXC.out.below hbd); have g0 := HXD.out.n; have g1 := HXD.out.c; clear hbd))
  go_wp2
  go_ret
  exact ⟨rfl, HQD.out⟩

set_option maxRecDepth 100000 in
set_option maxHeartbeats 1600000 in
theorem accepts_many (N C L B : Int) (w : World) (he : Env w) (h : ¬ (L ≤ 9 ∨ szP N C L ≠ 0)) :
    Calls Tryz.prog 3 #[pl N C, .int .i64 L, .int .i64 B] w fun e w' => e = .returned (.bool true) ∧ Below w.heap.size w w' := by
  have HE := Lib.hid he
  have HF := Lib.hid (fun w => few_any N C L w)
  rw [decide_eq_false h] at HF
  have HX2 := Lib.hid (IsP.new w (.int .i64 N) (.int .i64 C) 23)
  have HQ2 := Lib.hid ((Below.refl w.heap.size w).alloc (Nat.le_refl _) (.cells #[.int .i64 N, .int .i64 C] 23))
  unfold pl at HF ⊢
  clear he h
  go_enter Tryz.func3, Tryz.ntmps3
  obtain ⟨c0, c1, -⟩ := HX2.out
  go_wp2_with fail
  refine (HF.out _).mono ?_
  rintro e w3 ⟨rfl, hb3⟩
  have HQ3 := Lib.hid (HQ2.out.trans (hb3.mono HQ2.out.size))
  clear hb3 c0 c1
  go_wp2_with fail
  refine (awake_any _ (HE.out.below HQ3.out)).mono ?_
  rintro e wd ⟨rfl, hbd⟩
  have HQD := Lib.hid (HQ3.out.trans (hbd.mono HQ3.out.size))
  clear hbd
  go_wp2
  go_ret
  exact ⟨rfl, HQD.out⟩

/-- PlanAccepts answers true at every input. -/
theorem accepts_any (N C L B : Int) (w : World) (he : Env w) :
    Calls Tryz.prog 3 #[pl N C, .int .i64 L, .int .i64 B] w fun e w' => e = .returned (.bool true) ∧ Below w.heap.size w w' := by
  by_cases h : L ≤ 9 ∨ szP N C L ≠ 0
  · have hF : ∀ w, Calls Tryz.prog 11 #[pl N C, .int .i64 L] w fun e w' => e = .returned (.bool true) ∧ Below w.heap.size w w' := fun w => by
      have h2 := few_any N C L w
      rw [decide_eq_true h] at h2
      exact h2
    rcases gvP_two N C L B with hg | ⟨hg, h1, h2, h3, h4, h5, h6, h7, h8⟩
    · exact accepts_core N C L B ⟨#[]⟩ ⟨#[]⟩ 2 2 w he hF (fun w _ => Accept_bad N C L B w hg) (fun w => rAccept_bad N C L B w hg) (fun w _ => Outgoing_bad N C L B w hg) (fun w => rOutgoing_bad N C L B w hg)
    · have hs : szP N C L = 0 := by
        have hk : chkP N C = 0 := by unfold chkP; rw [if_neg (by omega)]
        unfold szP
        rw [if_pos ⟨by omega, h5, h6⟩]
      have hL : L ≤ 9 := h.resolve_right (fun hn => hn hs)
      obtain ⟨n, rfl⟩ := Int.eq_ofNat_of_zero_le (show 0 ≤ N by omega)
      obtain ⟨c, rfl⟩ := Int.eq_ofNat_of_zero_le (show 0 ≤ C by omega)
      obtain ⟨l, rfl⟩ := Int.eq_ofNat_of_zero_le (show 0 ≤ L by omega)
      obtain ⟨b, rfl⟩ := Int.eq_ofNat_of_zero_le (show 0 ≤ B by omega)
      exact accepts_core n c l b _ _ 0 0 w he hF (fun w he => Accept_ok n c l b w (by omega) (by omega) (by omega) (by omega) (by omega) he) (fun w => rAccept_ok n c l b w (by omega) (by omega) (by omega) (by omega) (by omega))
        (fun w he => Outgoing_ok n c l b w (by omega) (by omega) (by omega) (by omega) (by omega) he) (fun w => rOutgoing_ok n c l b w (by omega) (by omega) (by omega) (by omega) (by omega))
  · exact accepts_many N C L B w he h
end Go.Proofs.YtfebiipggcgmdaaGreatDoor
