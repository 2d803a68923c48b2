import Derived.Test.YtfebiipggcgmdaaGreatDoorRI
namespace Go.Proofs.YtfebiipggcgmdaaGreatDoor
open Go.RowKit

set_option maxRecDepth 100000 in
set_option maxHeartbeats 800000 in
theorem rtimes_any (a b : Int) (w : World) (ha : dl a ≤ 100000) (hb : dl b ≤ 100000) :
    Calls Tryz.prog 76 #[.string (it a), .string (it b)] w fun e w' => e = .returned (.string (it (a * b))) ∧ Below w.heap.size w w' := by
  have hsa := sz_le a
  have hsb := sz_le b
  by_cases hs : ¬ Long a b ∧ (it a).size + (it b).size ≤ 18
  · obtain ⟨h1, h2⟩ := not_long hs.1
    refine rtimes_small a b w h1 h2 hs.2 ?_
    have h3 := dl_mul a b
    have h4 : dl a ≤ (it a).size := by rw [it_sz]; omega
    have h5 : dl b ≤ (it b).size := by rw [it_sz]; omega
    have h6 := (dl_le_iff (z := a * b) (k := 18) (by omega)).1 (by omega)
    have h18 : (10 : Nat) ^ 18 = 1000000000000000000 := by decide
    omega
  · have SA := Lib.hid (fun w => rsize_it a w)
    have SB := Lib.hid (fun w => rsize_it b w)
    have BA := Lib.hid (fun w => rbelow_it a w)
    have BB' := Lib.hid (fun w => rbelow_it b w)
    have za := dl_abs a
    have zb := dl_abs b
    have e1 : IntKind.i64.wrap (((it a).size : Int) + (it b).size) = ((it a).size : Int) + (it b).size := IntWalk.i64_in _ (by omega)
    obtain ⟨x, hx⟩ : ∃ x : Nat, a.natAbs = x := ⟨_, rfl⟩
    obtain ⟨y, hy⟩ : ∃ y : Nat, b.natAbs = y := ⟨_, rfl⟩
    rw [hx] at SA za
    rw [hy] at SB zb
    have PR := Lib.hid (fun w => product_ref x y w (by rw [sz_nat]; omega) (by rw [sz_nat]; omega))
    have SG := Lib.hid (fun w => rsigned_big (x * y) (!(decide (a < 0) == decide (b < 0))) w (by
      rw [sz_nat, Int.natCast_mul]
      have := dl_mul (x : Int) y
      omega))
    rw [show (if (!(decide (a < 0) == decide (b < 0))) = true then -((x * y : Nat) : Int) else ((x * y : Nat) : Int)) = a * b by
      rw [Int.natCast_mul]
      by_cases h1 : a < 0 <;> by_cases h2 : b < 0
      · rw [decide_eq_true h1, decide_eq_true h2, if_neg (by decide), show (x : Int) = -a by omega, show (y : Int) = -b by omega, Int.neg_mul_neg]
      · rw [decide_eq_true h1, decide_eq_false h2, if_pos (by decide), show (x : Int) = -a by omega, show (y : Int) = b by omega, Int.neg_mul, Int.neg_neg]
      · rw [decide_eq_false h1, decide_eq_true h2, if_pos (by decide), show (x : Int) = a by omega, show (y : Int) = -b by omega, Int.mul_neg, Int.neg_neg]
      · rw [decide_eq_false h1, decide_eq_false h2, if_neg (by decide), show (x : Int) = a by omega, show (y : Int) = b by omega]] at SG
    obtain ⟨m, hm⟩ : ∃ m, decide (a < 0) = m := ⟨_, rfl⟩
    obtain ⟨n, hn⟩ : ∃ n, decide (b < 0) = n := ⟨_, rfl⟩
    rw [hm] at BA SG
    rw [hn] at BB' SG
    by_cases hl : Long a b
    · have HB := Lib.hid (fun w => brief_long a b w hl)
      obtain ⟨s, hs'⟩ : ∃ s, it a = s := ⟨_, rfl⟩
      obtain ⟨t, ht⟩ : ∃ t, it b = t := ⟨_, rfl⟩
      rw [hs'] at HB SA BA e1 ⊢
      rw [ht] at HB SB BB' e1 ⊢
      clear ha hb hsa hsb hs za zb hx hy hm hn hl hs' ht
      go_enter Tryz.func76, Tryz.ntmps76
      go_wp2_with fail
      refine (HB.out _).mono ?_
      rintro e w1 ⟨rfl, rfl⟩
      go_wp2_with fail
      refine (SA.out _).mono ?_
      rintro e w1 ⟨rfl, rfl⟩
      go_wp2_with fail
      refine (SB.out _).mono ?_
      rintro e w1 ⟨rfl, rfl⟩
      go_wp2_with fail
      refine (PR.out _).mono ?_
      rintro e w2 ⟨rfl, hb2⟩
      have HB2 := Lib.hid hb2
      clear hb2
      go_wp2_with fail
      refine (BA.out _).mono ?_
      rintro e w3 ⟨rfl, rfl⟩
      go_wp2_with fail
      refine (BB'.out _).mono ?_
      rintro e w3 ⟨rfl, rfl⟩
      go_wp2_with fail
      refine (SG.out _).mono ?_
      rintro e w3 ⟨rfl, rfl⟩
      go_wp2
      go_ret
      exact ⟨rfl, HB2.out⟩
    · obtain ⟨h1, h2⟩ := not_long hl
      have HB := Lib.hid (fun w => brief_it a b w h1 h2)
      have e2 : ¬ ((it a).size : Int) + (it b).size ≤ 18 := fun h => hs ⟨hl, by omega⟩
      obtain ⟨s, hs'⟩ : ∃ s, it a = s := ⟨_, rfl⟩
      obtain ⟨t, ht⟩ : ∃ t, it b = t := ⟨_, rfl⟩
      rw [hs'] at HB SA BA e1 e2 ⊢
      rw [ht] at HB SB BB' e1 e2 ⊢
      clear ha hb hsa hsb hs za zb hx hy hm hn hl hs' ht h1 h2
      go_enter Tryz.func76, Tryz.ntmps76
      go_wp2_with fail
      refine (HB.out _).mono ?_
      rintro e w1 ⟨rfl, hb1⟩
      have HB1 := Lib.hid hb1
      clear hb1
      go_wp2_with fail
      refine (SA.out _).mono ?_
      rintro e w2 ⟨rfl, rfl⟩
      go_wp2_with fail
      refine (SB.out _).mono ?_
      rintro e w2 ⟨rfl, rfl⟩
      go_wp2_with fail
      refine (PR.out _).mono ?_
      rintro e w2 ⟨rfl, hb2⟩
      have HB2 := Lib.hid (HB1.out.trans (hb2.mono HB1.out.size))
      clear hb2
      go_wp2_with fail
      refine (BA.out _).mono ?_
      rintro e w3 ⟨rfl, rfl⟩
      go_wp2_with fail
      refine (BB'.out _).mono ?_
      rintro e w3 ⟨rfl, rfl⟩
      go_wp2_with fail
      refine (SG.out _).mono ?_
      rintro e w3 ⟨rfl, rfl⟩
      go_wp2
      go_ret
      exact ⟨rfl, HB2.out⟩

theorem nat_neg (n : Nat) : decide ((n : Int) < 0) = false := decide_eq_false (by omega)

set_option maxRecDepth 100000 in
set_option maxHeartbeats 400000 in
theorem parted_any (n g : Nat) (w : World) (hg : 0 < g) (hn : dl (n : Int) ≤ 50000) (hg2 : dl (g : Int) ≤ 50000) :
    Calls Tryz.prog 113 #[.string (it (n : Int)), .string (it (g : Int))] w fun e w' => e = .returned (.tuple #[.string (it ((n / g : Nat) : Int)), .string (it ((n % g : Nat) : Int))]) ∧ Below w.heap.size w w' := by
  have hle := Nat.mod_le n g
  have hq := Nat.div_le_self n g
  have hlt := Nat.mod_lt n hg
  have hdm := Nat.div_add_mod n g
  by_cases hl : Long (n : Int) (g : Int)
  · have HB := Lib.hid (fun w => brief_long (n : Int) (g : Int) w hl)
    have SA := Lib.hid (fun w => rsize_it (n : Int) w)
    have SB := Lib.hid (fun w => rsize_it (g : Int) w)
    rw [Int.natAbs_natCast] at SA SB
    have BA := Lib.hid (fun w => rbelow_it (n : Int) w)
    have BG := Lib.hid (fun w => rbelow_it (g : Int) w)
    rw [nat_neg] at BA BG
    have DV := Lib.hid (fun w => divided_ref n g w hg (by rw [sz_nat]; omega) (by rw [sz_nat]; omega))
    have dq : dl ((n / g : Nat) : Int) ≤ 50000 := Nat.le_trans (dl_mono (by rw [Int.natAbs_natCast, Int.natAbs_natCast]; exact hq)) hn
    have SG := Lib.hid (fun w => rsigned_big (n / g) false w (by rw [sz_nat]; omega))
    rw [if_neg (by decide)] at SG
    have TM := Lib.hid (fun w => rtimes_any ((n / g : Nat) : Int) (g : Int) w (by omega) (by omega))
    have dt : dl (((n / g : Nat) : Int) * (g : Int)) ≤ 100000 := Nat.le_trans (dl_mul _ _) (by omega)
    have MN := Lib.hid (fun w => rminus_any (n : Int) (((n / g : Nat) : Int) * (g : Int)) w (by omega) dt)
    rw [show (n : Int) - ((n / g : Nat) : Int) * (g : Int) = ((n % g : Nat) : Int) by
      have : (n : Int) = (g : Int) * ((n / g : Nat) : Int) + ((n % g : Nat) : Int) := by rw [← Int.natCast_mul, ← Int.natCast_add, hdm]
      rw [Int.mul_comm (g : Int)] at this; omega] at MN
    obtain ⟨q, hq'⟩ : ∃ q, n / g = q := ⟨_, rfl⟩
    obtain ⟨r, hr'⟩ : ∃ r, n % g = r := ⟨_, rfl⟩
    rw [hq'] at DV SG TM MN ⊢
    rw [hr'] at DV MN ⊢
    have hr0 : r = 0 ∨ r ≠ 0 := by omega
    clear hle hq hlt hdm hl hn hg2 dq dt hq' hr' hg
    rcases hr0 with rfl | hr0
    · rw [show it ((0 : Nat) : Int) = ⟨#[48]⟩ from it_zero] at DV MN ⊢
      go_enter Tryz.func113, Tryz.ntmps113
      go_wp2_with fail
      refine (HB.out _).mono ?_
      rintro e w1 ⟨rfl, rfl⟩
      go_wp2_with fail
      refine (SA.out _).mono ?_
      rintro e w1 ⟨rfl, rfl⟩
      go_wp2_with fail
      refine (SB.out _).mono ?_
      rintro e w1 ⟨rfl, rfl⟩
      go_wp2_with fail
      refine (DV.out _).mono ?_
      rintro e w2 ⟨rfl, hb2⟩
      have HB2 := Lib.hid hb2
      clear hb2
      go_wp2_with fail
      refine (BA.out _).mono ?_
      rintro e w3 ⟨rfl, rfl⟩
      go_wp2_with fail
      refine (BG.out _).mono ?_
      rintro e w3 ⟨rfl, rfl⟩
      go_wp2_with fail
      refine (SG.out _).mono ?_
      rintro e w3 ⟨rfl, rfl⟩
      go_wp2_with fail
      refine (TM.out _).mono ?_
      rintro e w4 ⟨rfl, hb4⟩
      have HB4 := Lib.hid (HB2.out.trans (hb4.mono HB2.out.size))
      clear hb4
      go_wp2_with fail
      refine (MN.out _).mono ?_
      rintro e w5 ⟨rfl, hb5⟩
      have HB5 := Lib.hid (HB4.out.trans (hb5.mono HB4.out.size))
      clear hb5
      go_wp2
      go_ret2
      exact ⟨rfl, HB5.out⟩
    · have hz := it_ne_zero (show (r : Int) ≠ 0 by omega)
      obtain ⟨R, hR⟩ : ∃ R, it (r : Int) = R := ⟨_, rfl⟩
      rw [hR] at DV MN hz ⊢
      clear hR hr0
      go_enter Tryz.func113, Tryz.ntmps113
      go_wp2_with fail
      refine (HB.out _).mono ?_
      rintro e w1 ⟨rfl, rfl⟩
      go_wp2_with fail
      refine (SA.out _).mono ?_
      rintro e w1 ⟨rfl, rfl⟩
      go_wp2_with fail
      refine (SB.out _).mono ?_
      rintro e w1 ⟨rfl, rfl⟩
      go_wp2_with fail
      refine (DV.out _).mono ?_
      rintro e w2 ⟨rfl, hb2⟩
      have HB2 := Lib.hid hb2
      clear hb2
      go_wp2_with fail
      refine (BA.out _).mono ?_
      rintro e w3 ⟨rfl, rfl⟩
      go_wp2_with fail
      refine (BG.out _).mono ?_
      rintro e w3 ⟨rfl, rfl⟩
      go_wp2_with fail
      refine (SG.out _).mono ?_
      rintro e w3 ⟨rfl, rfl⟩
      go_wp2_with fail
      refine (BA.out _).mono ?_
      rintro e w3 ⟨rfl, rfl⟩
      go_wp2_with fail
      refine (BG.out _).mono ?_
      rintro e w3 ⟨rfl, rfl⟩
      go_wp2_with fail
      refine (TM.out _).mono ?_
      rintro e w4 ⟨rfl, hb4⟩
      have HB4 := Lib.hid (HB2.out.trans (hb4.mono HB2.out.size))
      clear hb4
      go_wp2_with fail
      refine (MN.out _).mono ?_
      rintro e w5 ⟨rfl, hb5⟩
      have HB5 := Lib.hid (HB4.out.trans (hb5.mono HB4.out.size))
      clear hb5
      go_wp2
      go_ret2
      exact ⟨rfl, HB5.out⟩
  · obtain ⟨h1, h2⟩ := not_long hl
    rw [Int.natAbs_natCast] at h1 h2
    have BR := Lib.hid (fun w => brief_it (n : Int) (g : Int) w (by rw [Int.natAbs_natCast]; exact h1) (by rw [Int.natAbs_natCast]; exact h2))
    have HC := Lib.hid (fun w => rof_nat (n / g) w (by omega))
    have HZ := Lib.hid (fun w => rof_nat (n % g) w (by omega))
    have e0 : ((g : Int) == 0) = false := by simp; omega
    have e1 : ¬ (g : Int) = 0 := by omega
    have em : (n : Int) % (g : Int) = ((n % g : Nat) : Int) := by rw [Int.natCast_emod]
    have ez : IntKind.i64.wrap ((n % g : Nat) : Int) = ((n % g : Nat) : Int) := IntWalk.i64_in _ (by omega)
    have hng : n / g * g ≤ n := Nat.div_mul_le_self n g
    have hdm2 : n / g * g + n % g = n := by rw [Nat.mul_comm]; exact hdm
    have e3 : ((n / g * g : Nat) : Int).tdiv g = ((n / g : Nat) : Int) := by rw [← Int.ofNat_tdiv, Nat.mul_div_cancel _ hg]
    have e5 : ((n / g * g : Nat) : Int) / g = ((n / g : Nat) : Int) := by rw [← Int.natCast_ediv, Nat.mul_div_cancel _ hg]
    have hr0 : ¬ ((n % g : Nat) : Int) < 0 := by omega
    have hg0 : ¬ (g : Int) < 0 := by omega
    obtain ⟨q, hq'⟩ : ∃ q, n / g = q := ⟨_, rfl⟩
    obtain ⟨r, hr'⟩ : ∃ r, n % g = r := ⟨_, rfl⟩
    obtain ⟨u, hu'⟩ : ∃ u, n / g * g = u := ⟨_, rfl⟩
    rw [hu'] at e3 e5 hng hdm2
    rw [hq'] at HC e3 e5 hq ⊢
    have e6 : IntKind.i64.wrap (q : Int) = (q : Int) := IntWalk.i64_in _ (by omega)
    rw [hr'] at HZ em ez hr0 hdm2 ⊢
    have es : (n : Int) - (r : Int) = (u : Int) := by omega
    have hn18 : (n : Int) < 1000000000000000000 := by omega
    have es2 : IntKind.i64.wrap ((n : Int) - (r : Int)) = (u : Int) := by rw [es]; exact IntWalk.i64_in _ (by omega)
    have en : IntKind.i64.wrap (n : Int) = (n : Int) := IntWalk.i64_in _ (by omega)
    have eu : IntKind.i64.wrap (u : Int) = (u : Int) := IntWalk.i64_in _ (by omega)
    have hd1 : decide ((r : Int) < 0) = false := decide_eq_false hr0
    have hd2 : decide ((g : Int) < 0) = false := decide_eq_false hg0
    have hrc : r = 0 ∨ r ≠ 0 := by omega
    clear hle hq hlt hdm hl hn hg2 h1 h2 hg hng hq' hr' hu' hdm2 hn18
    rcases hrc with hrc | hrc
    · subst hrc
      have en0 : (n : Int) = (u : Int) := by omega
      have HU := Lib.hid en0
      rw [en0] at em es en es2 BR ⊢
      rw [show ((0 : Nat) : Int) = 0 from rfl] at em es es2 ez HZ
      rw [show ((0 : Nat) : Int) = 0 from rfl]
      clear es es2 hr0 hd1 ez en0
      go_enter Tryz.func113, Tryz.ntmps113
      go_wp2_with fail
      refine (BR.out _).mono ?_
      rintro e w2 ⟨rfl, hb2⟩
      have HB2 := Lib.hid hb2
      clear hb2
      go_wp2_with fail
      refine (HC.out _).mono ?_
      rintro e w3 ⟨rfl, hb3⟩
      have HB3 := Lib.hid (HB2.out.trans (hb3.mono HB2.out.size))
      clear hb3
      go_wp2_with fail
      refine (HZ.out _).mono ?_
      rintro e w4 ⟨rfl, hb4⟩
      have HB4 := Lib.hid (HB3.out.trans (hb4.mono HB3.out.size))
      clear hb4
      go_wp2
      go_ret2
      exact ⟨rfl, HB4.out⟩
    · have hr1 : ¬ (r : Int) = 0 := by omega
      have hr2 : ((r : Int) == 0) = false := by simpa using hrc
      have hr3 : ((r : Int) != 0) = true := by simpa using hrc
      clear hrc
      go_enter Tryz.func113, Tryz.ntmps113
      go_wp2_with fail
      refine (BR.out _).mono ?_
      rintro e w2 ⟨rfl, hb2⟩
      have HB2 := Lib.hid hb2
      clear hb2
      go_wp2_with fail
      refine (HC.out _).mono ?_
      rintro e w3 ⟨rfl, hb3⟩
      have HB3 := Lib.hid (HB2.out.trans (hb3.mono HB2.out.size))
      clear hb3
      go_wp2_with fail
      refine (HZ.out _).mono ?_
      rintro e w4 ⟨rfl, hb4⟩
      have HB4 := Lib.hid (HB3.out.trans (hb4.mono HB3.out.size))
      clear hb4
      go_wp2
      go_ret2
      exact ⟨rfl, HB4.out⟩
end Go.Proofs.YtfebiipggcgmdaaGreatDoor
