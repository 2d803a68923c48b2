import Derived.Test.YtfebiipggcgmdaaGreatDoorRJ
namespace Go.Proofs.YtfebiipggcgmdaaGreatDoor
open Go.RowKit

set_option maxRecDepth 100000 in
set_option maxHeartbeats 1600000 in
/-- the greatest common divisor of integers of any length -/
theorem shared_any (a b : Int) (w : World) (ha : dl a ≤ 50000) (hb : dl b ≤ 50000) :
    Calls Tryz.prog 82 #[.string (it a), .string (it b)] w fun e w' => e = .returned (.string (it ((Int.gcd a b : Nat) : Int))) ∧ Below w.heap.size w w' := by
  have hg : Int.gcd a b = Nat.gcd a.natAbs b.natAbs := rfl
  rw [hg]
  have SA := Lib.hid (fun w => rsize_it a w)
  have SB := Lib.hid (fun w => rsize_it b w)
  have ia := dl_abs a
  have ib := dl_abs b
  obtain ⟨x, hx⟩ : ∃ x, a.natAbs = x := ⟨_, rfl⟩
  obtain ⟨y, hy⟩ : ∃ y, b.natAbs = y := ⟨_, rfl⟩
  rw [hx] at SA ia ⊢
  rw [hy] at SB ib ⊢
  have GA := Lib.hid (fun w => rsigned_big x false w (by rw [sz_nat]; omega))
  have GB := Lib.hid (fun w => rsigned_big y false w (by rw [sz_nat]; omega))
  have HX := Lib.hid (show dl (x : Int) ≤ 50000 by omega)
  have HY := Lib.hid (show dl (y : Int) ≤ 50000 by omega)
  obtain ⟨G, hG⟩ : ∃ G, Nat.gcd x y = G := ⟨_, rfl⟩
  rw [hG]
  have HG := Lib.hid hG
  clear hx hy hg ia ib ha hb hG
  go_enter Tryz.func82, Tryz.ntmps82
  go_wp2_with fail
  refine (SA.out _).mono ?_
  rintro e w1 ⟨rfl, rfl⟩
  go_wp2_with fail
  refine (GA.out _).mono ?_
  rintro e w1 ⟨rfl, rfl⟩
  go_wp2_with fail
  refine (SB.out _).mono ?_
  rintro e w1 ⟨rfl, rfl⟩
  go_wp2_with fail
  refine (GB.out _).mono ?_
  rintro e w1 ⟨rfl, rfl⟩
  simp only [Bool.false_eq_true, if_false]
  go_wp2
  go_loopg [0, 1] y (fun k av bv wr => ∃ x2 : Nat, av = .string (it (x2 : Int)) ∧ bv = .string (it (k : Int)) ∧ Nat.gcd x2 k = G ∧ dl (x2 : Int) ≤ 50000 ∧ dl (k : Int) ≤ 50000 ∧ Below w1.heap.size w1 wr)
  case atStart => exact ⟨x, rfl, rfl, HG.out, HX.out, HY.out, Below.refl _ _⟩
  case round =>
    obtain ⟨x2, rfl, rfl, hgc, hdx, hdk, hbl⟩ := hrel
    have HBL := Lib.hid hbl
    have HGC := Lib.hid hgc
    clear hbl hgc
    by_cases hy : gk = 0
    · subst hy
      rw [show it ((0 : Nat) : Int) = ⟨#[48]⟩ from it_zero]
      go_wp2
      go_ret
      exact ⟨by rw [← HGC.out, Nat.gcd_zero_right]; rfl, HBL.out⟩
    · have hz := it_ne_zero (show (gk : Int) ≠ 0 by omega)
      obtain ⟨ok, hok⟩ : ∃ ok, ok = gk := ⟨_, rfl⟩
      have HY0 := Lib.hid hy
      by_cases hl : Long (x2 : Int) (gk : Int)
      · have HBR := Lib.hid (fun w => brief_long (x2 : Int) (gk : Int) w hl)
        have HPT := Lib.hid (fun w => parted_any x2 gk w (by omega) hdx hdk)
        have HLT := Lib.hid (Nat.mod_lt x2 (show 0 < gk by omega))
        have HGN := Lib.hid (show Nat.gcd gk (x2 % gk) = G by rw [← HGC.out, Nat.gcd_comm, ← Nat.gcd_rec, Nat.gcd_comm])
        have HDR := Lib.hid (show dl ((x2 % gk : Nat) : Int) ≤ 50000 from Nat.le_trans (dl_mono (by rw [Int.natAbs_natCast, Int.natAbs_natCast]; exact Nat.mod_le _ _)) hdx)
        have HDK := Lib.hid hdk
        obtain ⟨r, hr⟩ : ∃ r, x2 % gk = r := ⟨_, rfl⟩
        obtain ⟨q, hq⟩ : ∃ q, x2 / gk = q := ⟨_, rfl⟩
        rw [hr] at HPT HLT HGN HDR
        rw [hq] at HPT
        clear hy hl hdx hdk hr hq hok
        go_wp2_with fail
        refine (HBR.out _).mono ?_
        rintro e w2 ⟨rfl, rfl⟩
        clear hz
        go_wp2_with fail
        refine (HPT.out _).mono ?_
        rintro e w3 ⟨rfl, hb3⟩
        have HB3 := Lib.hid (HBL.out.trans (hb3.mono HBL.out.size))
        clear hb3
        go_wp2
        go_roundg r
        case rel => exact ⟨gk, rfl, rfl, HGN.out, HDK.out, HDR.out, HB3.out⟩
        case measure => exact HLT.out
      · obtain ⟨h1, h2⟩ := not_long hl
        rw [Int.natAbs_natCast] at h1 h2
        have HBR := Lib.hid (fun w => brief_it (x2 : Int) (gk : Int) w (by rw [Int.natAbs_natCast]; exact h1) (by rw [Int.natAbs_natCast]; exact h2))
        have HA := Lib.hid h1
        have HB := Lib.hid h2
        have HSZ := Lib.hid HBL.out.size
        clear hy hl hdx hdk hok h1 h2
        go_wp2_with fail
        refine (HBR.out _).mono ?_
        rintro e w2 ⟨rfl, hb2⟩
        have HB2 := Lib.hid (HBL.out.trans (hb2.mono HBL.out.size))
        clear hb2
        clear hz
        go_wp2
        go_loopg [5, 6] gk (fun k pm pn wz => ∃ m : Nat, pm = .int .i64 m ∧ pn = .int .i64 k ∧ Nat.gcd m k = G ∧ m < 1000000000000000000 ∧ k < 1000000000000000000 ∧ Below w1.heap.size w1 wz)
        case atStart => exact ⟨x2, rfl, rfl, HGC.out, HA.out, HB.out, HB2.out⟩
        case round =>
          obtain ⟨m, rfl, rfl, hg, hm, hk2, hbz⟩ := hrel
          have HG2 := Lib.hid hg
          have HBZ := Lib.hid hbz
          clear hg hbz
          by_cases hz2 : gk = 0
          · subst hz2
            go_wp2_with fail
            refine (rof_nat m _ (by omega)).mono ?_
            rintro e w7 ⟨rfl, hb7⟩
            have HB7 := Lib.hid (HBZ.out.trans (hb7.mono HBZ.out.size))
            clear hb7
            go_wp2
            go_ret
            have e1 : m = G := by have := HG2.out; simpa using this
            exact ⟨by rw [← e1]; rfl, HB7.out⟩
          · have hb4 : ((gk : Int) == 0) = false := by simp; omega
            have hb5 : ¬ (gk : Int) = 0 := by omega
            have hb6 : (0 : Int) < gk := by omega
            have e1 : (m : Int).tmod gk = ((m % gk : Nat) : Int) := (Int.ofNat_tmod m gk).symm
            have hlt := Nat.mod_lt m (show 0 < gk by omega)
            have e2 : IntKind.i64.wrap ((m : Int).tmod gk) = ((m % gk : Nat) : Int) := by rw [e1]; exact IntWalk.i64_in _ (by omega)
            go_wp2
            go_quiet (fail)
            go_wp2
            go_roundg (m % gk)
            case rel => exact ⟨gk, rfl, rfl, by rw [Nat.gcd_comm, ← Nat.gcd_rec, Nat.gcd_comm]; exact HG2.out, hk2, by omega, below_drewN HBZ.out _⟩
            case measure => exact hlt

set_option maxRecDepth 100000 in
set_option maxHeartbeats 1600000 in
theorem rlowest_nat (p q : Nat) (w : World) (hq : 0 < q) (hp1 : dl (p : Int) ≤ 50000) (hq1 : dl (q : Int) ≤ 50000) :
    Calls Tryz.prog 66 #[.string (it (p : Int)), .string (it (q : Int))] w fun e w' => e = .returned (.string (rt (mkRat p q))) ∧ Below w.heap.size w w' := by
  obtain ⟨g, hg⟩ : ∃ g, Nat.gcd p q = g := ⟨_, rfl⟩
  have hg0 : 0 < g := by rw [← hg]; exact Nat.gcd_pos_of_pos_right _ hq
  obtain ⟨c, hc⟩ : g ∣ p := by rw [← hg]; exact Nat.gcd_dvd_left p q
  obtain ⟨d, hd⟩ : g ∣ q := by rw [← hg]; exact Nat.gcd_dvd_right p q
  have hc1 : (mkRat p q).num = (c : Int) := by
    rw [Rat.num_mkRat, if_neg (by omega), Int.natAbs_natCast, Nat.gcd_comm, hg, hc, ← Int.natCast_ediv, Nat.mul_div_cancel_left _ hg0]
  have hd1 : (mkRat p q).den = d := by
    rw [Rat.den_mkRat, if_neg (by omega), Int.natAbs_natCast, Nat.gcd_comm, hg, hd, Nat.mul_div_cancel_left _ hg0]
  rw [rt_jn, hc1, hd1]
  have SH := Lib.hid (fun w => shared_any (p : Int) (q : Int) w hp1 hq1)
  rw [show Int.gcd (p : Int) (q : Int) = g from hg] at SH
  have BL := Lib.hid (fun w => rbelow_it (q : Int) w)
  rw [show decide ((q : Int) < 0) = false from decide_eq_false (by omega)] at BL
  have hcg : c * g = p := by rw [hc, Nat.mul_comm]
  have hdg : d * g = q := by rw [hd, Nat.mul_comm]
  have hd0 : 0 < d := Nat.pos_of_ne_zero fun e => by subst e; omega
  have hgq : g ≤ q := by rw [← hdg]; exact Nat.le_mul_of_pos_left _ hd0
  have mono : ∀ {x y : Nat}, x ≤ y → dl (x : Int) ≤ dl (y : Int) := fun h => dl_mono (by rw [Int.natAbs_natCast, Int.natAbs_natCast]; exact h)
  have hg1 : dl (g : Int) ≤ 50000 := Nat.le_trans (mono hgq) hq1
  have hcp : dl (c : Int) ≤ 50000 := Nat.le_trans (mono (by rw [← hcg]; exact Nat.le_mul_of_pos_right _ hg0)) hp1
  have hdq : dl (d : Int) ≤ 50000 := Nat.le_trans (mono (by rw [← hdg]; exact Nat.le_mul_of_pos_right _ hg0)) hq1
  have PC := Lib.hid (fun w => parted_any p g w hg0 hp1 hg1)
  have PD := Lib.hid (fun w => parted_any q g w hg0 hq1 hg1)
  rw [show p / g = c by rw [← hcg]; exact Nat.mul_div_cancel _ hg0, show p % g = 0 by rw [← hcg]; exact Nat.mul_mod_left _ _] at PC
  rw [show q / g = d by rw [← hdg]; exact Nat.mul_div_cancel _ hg0, show q % g = 0 by rw [← hdg]; exact Nat.mul_mod_left _ _] at PD
  have s1 : (it (c : Int)).size ≤ 50001 := Nat.le_trans (sz_le _) (by omega)
  have s2 : (it (d : Int)).size ≤ 50001 := Nat.le_trans (sz_le _) (by omega)
  clear hg hg0 hc hd hc1 hd1 hcg hdg hd0 hg1 hcp hdq hp1 hq1 hq hgq mono
  by_cases h : d = 1
  · subst h
    have h2 : it ((1 : Nat) : Int) = ⟨#[49]⟩ := it_one
    rw [h2] at PD
    go_enter Tryz.func66, Tryz.ntmps66
    go_wp2_with fail
    refine (SH.out _).mono ?_
    rintro e w1 ⟨rfl, hb1⟩
    have HB1 := Lib.hid hb1
    clear hb1
    go_wp2_with fail
    refine (BL.out _).mono ?_
    rintro e w2 ⟨rfl, rfl⟩
    go_wp2_with fail
    refine (PC.out _).mono ?_
    rintro e w3 ⟨rfl, hb3⟩
    have HB3 := Lib.hid (HB1.out.trans (hb3.mono HB1.out.size))
    clear hb3
    go_wp2_with fail
    refine (PD.out _).mono ?_
    rintro e w4 ⟨rfl, hb4⟩
    have HB4 := Lib.hid (HB3.out.trans (hb4.mono HB3.out.size))
    clear hb4
    go_wp2
    go_ret
    exact ⟨rfl, HB4.out⟩
  · have hz := it_ne_one h
    have HJ := Lib.hid (show jn (c : Int) d = bt (Lib.itoa (c : Int) ++ 47 :: Lib.decDigits d) by unfold jn; rw [if_neg h])
    clear h
    go_enter Tryz.func66, Tryz.ntmps66
    go_wp2_with fail
    refine (SH.out _).mono ?_
    rintro e w1 ⟨rfl, hb1⟩
    have HB1 := Lib.hid hb1
    clear hb1
    go_wp2_with fail
    refine (BL.out _).mono ?_
    rintro e w2 ⟨rfl, rfl⟩
    go_wp2_with fail
    refine (PC.out _).mono ?_
    rintro e w3 ⟨rfl, hb3⟩
    have HB3 := Lib.hid (HB1.out.trans (hb3.mono HB1.out.size))
    clear hb3
    go_wp2_with fail
    refine (PD.out _).mono ?_
    rintro e w4 ⟨rfl, hb4⟩
    have HB4 := Lib.hid (HB3.out.trans (hb4.mono HB3.out.size))
    clear hb4
    go_wp2
    go_ret
    refine ⟨?_, HB4.out⟩
    rw [HJ.out]
    show Ending.returned (.string _) = _
    congr 2
    apply ba_ext
    rw [bt_list, data_append', data_append', it_list, it_nat_list]
    simp
end Go.Proofs.YtfebiipggcgmdaaGreatDoor
