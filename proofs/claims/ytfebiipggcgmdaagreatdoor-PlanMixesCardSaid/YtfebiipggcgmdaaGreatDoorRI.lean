import Derived.Test.YtfebiipggcgmdaaGreatDoorRH
namespace Go.Proofs.YtfebiipggcgmdaaGreatDoor
open Go.RowKit

/-! ## The reference's integers of any length -/
theorem dl_mono {a b : Int} (h : a.natAbs ≤ b.natAbs) : dl a ≤ dl b := (dl_le_iff (dl_pos b)).2 (Nat.lt_of_le_of_lt h ((dl_le_iff (dl_pos b)).1 (Nat.le_refl _)))
theorem dl_neg (a : Int) : dl (-a) = dl a := by unfold dl; rw [Int.natAbs_neg]
theorem dl_abs (a : Int) : dl (a.natAbs : Int) = dl a := by unfold dl; rw [Int.natAbs_natCast]
theorem dl_lt (a : Int) : a.natAbs < 10 ^ dl a := (dl_le_iff (dl_pos a)).1 (Nat.le_refl _)
theorem dl_mul (a b : Int) : dl (a * b) ≤ dl a + dl b := by
  have ha := dl_pos a
  refine (dl_le_iff (by omega)).2 ?_
  rw [Int.natAbs_mul, Nat.pow_add]
  exact Nat.mul_lt_mul'' (dl_lt a) (dl_lt b)
theorem dl_add {a b : Int} {k : Nat} (ha : dl a ≤ k) (hb : dl b ≤ k) : dl (a + b) ≤ k + 1 := by
  have h1 := dl_pos a
  have h2 := (dl_le_iff (show 1 ≤ k by omega)).1 ha
  have h3 := (dl_le_iff (show 1 ≤ k by omega)).1 hb
  refine (dl_le_iff (by omega)).2 ?_
  rw [Nat.pow_succ]
  have := Int.natAbs_add_le a b
  omega
theorem sz_le (z : Int) : (it z).size ≤ dl z + 1 := by rw [it_sz]; split <;> omega
theorem sz_nat (n : Nat) : (it (n : Int)).size = dl (n : Int) := by rw [it_sz, if_neg (by omega)]; rfl

set_option maxRecDepth 100000 in
theorem rsigned_big (u : Nat) (m : Bool) (w : World) (hu : (it (u : Int)).size ≤ 1000000) : Calls Tryz.prog 122 #[.string (it (u : Int)), .bool m] w fun e w' => e = .returned (.string (it (if m then -(u : Int) else u))) ∧ w' = w := by
  have HL := Lib.hid hu
  clear hu
  cases m
  · go_enter Tryz.func122, Tryz.ntmps122
    go_wp2
    go_ret
    exact ⟨rfl, rfl⟩
  · by_cases h : u = 0
    · subst h
      have HZ := Lib.hid it_zero
      rw [show it ((0 : Nat) : Int) = ⟨#[48]⟩ from it_zero]
      go_enter Tryz.func122, Tryz.ntmps122
      go_wp2
      go_ret
      exact ⟨by show Ending.returned (.string _) = _; rw [← HZ.out], rfl⟩
    · have hz := it_ne_zero (show (u : Int) ≠ 0 by omega)
      have he : Lib.itoa (-(u : Int)) = 45 :: Lib.itoa (u : Int) := by
        unfold Lib.itoa; rw [if_pos (by omega), if_neg (by omega)]; congr 2; omega
      have HI := Lib.hid he
      clear h he
      go_enter Tryz.func122, Tryz.ntmps122
      go_wp2
      · exfalso; have := HL.out; omega
      refine ⟨rfl, _, results_tmp rfl _ _ _, ?_, rfl⟩
      show Ending.returned (.string _) = _
      congr 2
      apply ba_ext
      rw [it_list, HI.out, data_append', it_list]; rfl

set_option maxRecDepth 100000 in
theorem rturned_big (z : Int) (w : World) (hz : dl z ≤ 500000) : Calls Tryz.prog 112 #[.string (it z)] w fun e w' => e = .returned (.string (it (-z))) ∧ w' = w := by
  have hu : (it (z.natAbs : Int)).size ≤ 1000000 := by rw [sz_nat, dl_abs]; omega
  have HU := Lib.hid hu
  have he : (if (!decide (z < 0)) = true then -(z.natAbs : Int) else (z.natAbs : Int)) = -z := by
    by_cases h : z < 0
    · rw [decide_eq_true h]; simp; omega
    · rw [decide_eq_false h]; simp; omega
  have HS := Lib.hid he
  obtain ⟨m, hm⟩ : ∃ m, decide (z < 0) = m := ⟨_, rfl⟩
  have HM := Lib.hid (fun w => rbelow_it z w)
  rw [hm] at HM HS
  clear hz hu he hm
  go_enter Tryz.func112, Tryz.ntmps112
  go_wp2_with fail
  refine (rsize_it z _).mono ?_
  rintro e w1 ⟨rfl, rfl⟩
  go_wp2_with fail
  refine (HM.out _).mono ?_
  rintro e w1 ⟨rfl, rfl⟩
  go_wp2_with fail
  refine (rsigned_big z.natAbs (!m) _ HU.out).mono ?_
  rintro e w1 ⟨rfl, rfl⟩
  rw [HS.out]
  go_wp2
  go_ret
  exact ⟨rfl, rfl⟩

/-- two numbers that are not both short -/
def Long (a b : Int) : Prop := 1000000000000000000 ≤ a.natAbs ∨ 1000000000000000000 ≤ b.natAbs
theorem not_long {a b : Int} (h : ¬ Long a b) : a.natAbs < 1000000000000000000 ∧ b.natAbs < 1000000000000000000 := by unfold Long at h; omega

set_option maxRecDepth 100000 in
theorem brief_long (a b : Int) (w : World) (h : Long a b) :
    Calls Tryz.prog 121 #[.string (it a), .string (it b)] w fun e w' => e = .returned (.tuple #[.int .i64 0, .int .i64 0, .bool false]) ∧ w' = w := by
  have sz : ∀ z : Int, 1000000000000000000 ≤ z.natAbs → 18 < (it (z.natAbs : Int)).size := fun z hz => by
    rw [sz_nat]
    refine Nat.lt_of_not_le fun hl => ?_
    have := (dl_le_iff (z := (z.natAbs : Int)) (k := 18) (by omega)).1 hl
    rw [Int.natAbs_natCast] at this
    omega
  have SA := Lib.hid (fun w => rsize_it a w)
  have SB := Lib.hid (fun w => rsize_it b w)
  have h1 : 18 < (it (a.natAbs : Int)).size ∨ (it (a.natAbs : Int)).size ≤ 18 ∧ 18 < (it (b.natAbs : Int)).size := by
    rcases h with h | h
    · exact .inl (sz a h)
    · have := sz b h
      omega
  obtain ⟨x, hx⟩ : ∃ x, it (a.natAbs : Int) = x := ⟨_, rfl⟩
  obtain ⟨y, hy⟩ : ∃ y, it (b.natAbs : Int) = y := ⟨_, rfl⟩
  rw [hx] at SA h1
  rw [hy] at SB h1
  clear sz h hx hy
  rcases h1 with h1 | ⟨h1, h2⟩
  · have f1 : (18 : Int) < x.size := by omega
    clear h1
    go_enter Tryz.func121, Tryz.ntmps121
    go_wp2_with fail
    refine (SA.out _).mono ?_
    rintro e w1 ⟨rfl, rfl⟩
    go_wp2
    go_ret3
    exact ⟨rfl, rfl⟩
  · have f1 : ¬ (18 : Int) < x.size := by omega
    have f2 : (18 : Int) < y.size := by omega
    clear h1 h2
    go_enter Tryz.func121, Tryz.ntmps121
    go_wp2_with fail
    refine (SA.out _).mono ?_
    rintro e w1 ⟨rfl, rfl⟩
    go_wp2_with fail
    refine (SB.out _).mono ?_
    rintro e w1 ⟨rfl, rfl⟩
    go_wp2
    go_ret3
    exact ⟨rfl, rfl⟩

set_option maxRecDepth 100000 in
set_option maxHeartbeats 800000 in
theorem rplus_any (a b : Int) (w : World) (ha : dl a ≤ 100000) (hb : dl b ≤ 100000) :
    Calls Tryz.prog 84 #[.string (it a), .string (it b)] w fun e w' => e = .returned (.string (it (a + b))) ∧ Below w.heap.size w w' := by
  by_cases hl : Long a b
  · have HB := Lib.hid (fun w => brief_long a b w hl)
    have SA := Lib.hid (fun w => rsize_it a w)
    have SB := Lib.hid (fun w => rsize_it b w)
    have BA := Lib.hid (fun w => rbelow_it a w)
    have BB' := Lib.hid (fun w => rbelow_it b w)
    have za := dl_abs a
    have zb := dl_abs b
    have hsum : dl ((a.natAbs : Int) + (b.natAbs : Int)) ≤ 100001 := dl_add (by omega) (by omega)
    obtain ⟨x, hx⟩ : ∃ x : Nat, a.natAbs = x := ⟨_, rfl⟩
    obtain ⟨y, hy⟩ : ∃ y : Nat, b.natAbs = y := ⟨_, rfl⟩
    rw [hx] at SA za hsum
    rw [hy] at SB zb hsum
    have PA := Lib.hid (fun w => paper_any true x y w (by rw [sz_nat]; omega) (by rw [sz_nat]; omega) (fun h => by cases h))
    have HLT := Lib.hid (fun w => less_any x y w)
    rw [show pv true x y = x + y from rfl] at PA
    have hs1 : (it ((x + y : Nat) : Int)).size ≤ 1000000 := by rw [sz_nat, Int.natCast_add]; omega
    have sub_sz : ∀ p q : Nat, dl (p : Int) ≤ 100000 → (it ((p - q : Nat) : Int)).size ≤ 1000000 := fun p q hp => by
      rw [sz_nat]
      have : dl ((p - q : Nat) : Int) ≤ dl (p : Int) := dl_mono (by rw [Int.natAbs_natCast, Int.natAbs_natCast]; omega)
      omega
    by_cases hs : decide (a < 0) = decide (b < 0)
    · have SG := Lib.hid (fun w => rsigned_big (x + y) (decide (a < 0)) w hs1)
      rw [show (if decide (a < 0) = true then -((x + y : Nat) : Int) else ((x + y : Nat) : Int)) = a + b by
        by_cases h : a < 0
        · rw [decide_eq_true h] at hs ⊢
          have := of_decide_eq_true hs.symm
          rw [if_pos rfl]; omega
        · rw [decide_eq_false h] at hs ⊢
          have := of_decide_eq_false hs.symm
          rw [if_neg (by decide)]; omega] at SG
      rw [← hs] at BB'
      obtain ⟨m, hm⟩ : ∃ m, decide (a < 0) = m := ⟨_, rfl⟩
      rw [hm] at BA BB' SG
      clear ha hb hl za zb hsum hx hy HLT hs1 sub_sz hs hm
      go_enter Tryz.func84, Tryz.ntmps84
      go_wp2_with fail
      refine (HB.out _).mono ?_
      rintro e w1 ⟨rfl, rfl⟩
      go_wp2_with fail
      refine (SA.out _).mono ?_
      rintro e w1 ⟨rfl, rfl⟩
      go_wp2_with fail
      refine (SB.out _).mono ?_
      rintro e w1 ⟨rfl, rfl⟩
      go_wp2_with fail
      refine (BA.out _).mono ?_
      rintro e w1 ⟨rfl, rfl⟩
      go_wp2_with fail
      refine (BB'.out _).mono ?_
      rintro e w1 ⟨rfl, rfl⟩
      go_wp2_with fail
      refine (PA.out _).mono ?_
      rintro e w2 ⟨rfl, hb2⟩
      have HB2 := Lib.hid hb2
      clear hb2
      go_wp2_with fail
      refine (BA.out _).mono ?_
      rintro e w3 ⟨rfl, rfl⟩
      go_wp2_with fail
      refine (SG.out _).mono ?_
      rintro e w3 ⟨rfl, rfl⟩
      go_wp2
      go_ret
      exact ⟨rfl, HB2.out⟩
    · have hne : ((decide (a < 0)) == (decide (b < 0))) = false := by simpa using hs
      have hcase : a < 0 ∧ ¬ b < 0 ∨ ¬ a < 0 ∧ b < 0 := by
        by_cases h1 : a < 0 <;> by_cases h2 : b < 0
        · rw [decide_eq_true h1, decide_eq_true h2] at hs; exact absurd rfl hs
        · exact .inl ⟨h1, h2⟩
        · exact .inr ⟨h1, h2⟩
        · rw [decide_eq_false h1, decide_eq_false h2] at hs; exact absurd rfl hs
      by_cases hxy : x < y
      · have PB := Lib.hid (fun w => paper_any false y x w (by rw [sz_nat]; omega) (by rw [sz_nat]; omega) (fun _ => by omega))
        rw [show pv false y x = y - x from rfl] at PB
        have SG := Lib.hid (fun w => rsigned_big (y - x) (decide (b < 0)) w (sub_sz y x (by omega)))
        rw [show (if decide (b < 0) = true then -((y - x : Nat) : Int) else ((y - x : Nat) : Int)) = a + b by
          rcases hcase with ⟨h1, h2⟩ | ⟨h1, h2⟩
          · rw [decide_eq_false h2, if_neg (by decide)]; omega
          · rw [decide_eq_true h2, if_pos rfl]; omega] at SG
        rw [decide_eq_true hxy] at HLT
        obtain ⟨m, hm⟩ : ∃ m, decide (a < 0) = m := ⟨_, rfl⟩
        obtain ⟨n, hn⟩ : ∃ n, decide (b < 0) = n := ⟨_, rfl⟩
        rw [hm] at BA hne
        rw [hn] at BB' SG hne
        clear ha hb hl za zb hsum hx hy PA hs1 sub_sz hs hm hn hcase hxy
        go_enter Tryz.func84, Tryz.ntmps84
        go_wp2_with fail
        refine (HB.out _).mono ?_
        rintro e w1 ⟨rfl, rfl⟩
        go_wp2_with fail
        refine (SA.out _).mono ?_
        rintro e w1 ⟨rfl, rfl⟩
        go_wp2_with fail
        refine (SB.out _).mono ?_
        rintro e w1 ⟨rfl, rfl⟩
        go_wp2_with fail
        refine (BA.out _).mono ?_
        rintro e w1 ⟨rfl, rfl⟩
        go_wp2_with fail
        refine (BB'.out _).mono ?_
        rintro e w1 ⟨rfl, rfl⟩
        go_wp2_with fail
        refine (HLT.out _).mono ?_
        rintro e w1 ⟨rfl, rfl⟩
        go_wp2_with fail
        refine (PB.out _).mono ?_
        rintro e w2 ⟨rfl, hb2⟩
        have HB2 := Lib.hid hb2
        clear hb2
        go_wp2_with fail
        refine (BB'.out _).mono ?_
        rintro e w3 ⟨rfl, rfl⟩
        go_wp2_with fail
        refine (SG.out _).mono ?_
        rintro e w3 ⟨rfl, rfl⟩
        go_wp2
        go_ret
        exact ⟨rfl, HB2.out⟩
      · have PB := Lib.hid (fun w => paper_any false x y w (by rw [sz_nat]; omega) (by rw [sz_nat]; omega) (fun _ => by omega))
        rw [show pv false x y = x - y from rfl] at PB
        have SG := Lib.hid (fun w => rsigned_big (x - y) (decide (a < 0)) w (sub_sz x y (by omega)))
        rw [show (if decide (a < 0) = true then -((x - y : Nat) : Int) else ((x - y : Nat) : Int)) = a + b by
          rcases hcase with ⟨h1, h2⟩ | ⟨h1, h2⟩
          · rw [decide_eq_true h1, if_pos rfl]; omega
          · rw [decide_eq_false h1, if_neg (by decide)]; omega] at SG
        rw [decide_eq_false hxy] at HLT
        obtain ⟨m, hm⟩ : ∃ m, decide (a < 0) = m := ⟨_, rfl⟩
        obtain ⟨n, hn⟩ : ∃ n, decide (b < 0) = n := ⟨_, rfl⟩
        rw [hm] at BA SG hne
        rw [hn] at BB' hne
        clear ha hb hl za zb hsum hx hy PA hs1 sub_sz hs hm hn hcase hxy
        go_enter Tryz.func84, Tryz.ntmps84
        go_wp2_with fail
        refine (HB.out _).mono ?_
        rintro e w1 ⟨rfl, rfl⟩
        go_wp2_with fail
        refine (SA.out _).mono ?_
        rintro e w1 ⟨rfl, rfl⟩
        go_wp2_with fail
        refine (SB.out _).mono ?_
        rintro e w1 ⟨rfl, rfl⟩
        go_wp2_with fail
        refine (BA.out _).mono ?_
        rintro e w1 ⟨rfl, rfl⟩
        go_wp2_with fail
        refine (BB'.out _).mono ?_
        rintro e w1 ⟨rfl, rfl⟩
        go_wp2_with fail
        refine (HLT.out _).mono ?_
        rintro e w1 ⟨rfl, rfl⟩
        go_wp2_with fail
        refine (PB.out _).mono ?_
        rintro e w2 ⟨rfl, hb2⟩
        have HB2 := Lib.hid hb2
        clear hb2
        go_wp2_with fail
        refine (BA.out _).mono ?_
        rintro e w3 ⟨rfl, rfl⟩
        go_wp2_with fail
        refine (SG.out _).mono ?_
        rintro e w3 ⟨rfl, rfl⟩
        go_wp2
        go_ret
        exact ⟨rfl, HB2.out⟩
  · obtain ⟨h1, h2⟩ := not_long hl
    exact rplus_small a b w h1 h2

set_option maxRecDepth 100000 in
theorem rminus_any (a b : Int) (w : World) (ha : dl a ≤ 100000) (hb : dl b ≤ 100000) :
    Calls Tryz.prog 125 #[.string (it a), .string (it b)] w fun e w' => e = .returned (.string (it (a - b))) ∧ Below w.heap.size w w' := by
  have HP := Lib.hid (fun w => rplus_any a (-b) w ha (by rw [dl_neg]; exact hb))
  rw [show a + -b = a - b by omega] at HP
  have HI := Lib.hid (show dl b ≤ 500000 by omega)
  clear ha hb
  go_enter Tryz.func125, Tryz.ntmps125
  go_wp2_with fail
  refine (rturned_big b _ HI.out).mono ?_
  rintro e w1 ⟨rfl, rfl⟩
  go_wp2_with fail
  refine (HP.out _).mono ?_
  rintro e w2 ⟨rfl, hb2⟩
  have HB2 := Lib.hid hb2
  clear hb2
  go_wp2
  go_ret
  exact ⟨rfl, HB2.out⟩
theorem rorder_of_minus (a b : Int) (w : World) (hm : ∀ w, Calls Tryz.prog 125 #[.string (it a), .string (it b)] w fun e w' => e = .returned (.string (it (a - b))) ∧ Below w.heap.size w w') :
    Calls Tryz.prog 81 #[.string (it a), .string (it b)] w fun e w' => e = .returned (.int .i64 (a - b).sign) ∧ Below w.heap.size w w' := by
  have HM := Lib.hid hm
  obtain ⟨d, hd⟩ : ∃ d, a - b = d := ⟨_, rfl⟩
  rw [hd] at HM ⊢
  have HBW := Lib.hid (fun w => rbelow_it d w)
  clear hm hd
  rcases Int.lt_trichotomy d 0 with h | h | h
  · have hz := it_ne_zero (show d ≠ 0 by omega)
    rw [decide_eq_true h] at HBW
    rw [Int.sign_eq_neg_one_of_neg h]
    obtain ⟨x, hx⟩ : ∃ x, it d = x := ⟨_, rfl⟩
    rw [hx] at HM HBW hz
    clear hx
    go_enter Tryz.func81, Tryz.ntmps81
    go_wp2_with fail
    refine (HM.out _).mono ?_
    rintro e w2 ⟨rfl, hb2⟩
    have HB2 := Lib.hid hb2
    clear hb2
    go_wp2_with fail
    refine (HBW.out _).mono ?_
    rintro e w3 ⟨rfl, rfl⟩
    go_wp2
    go_ret
    exact ⟨rfl, HB2.out⟩
  · subst h
    rw [it_zero] at HM
    clear HBW
    go_enter Tryz.func81, Tryz.ntmps81
    go_wp2_with fail
    refine (HM.out _).mono ?_
    rintro e w2 ⟨rfl, hb2⟩
    have HB2 := Lib.hid hb2
    clear hb2
    go_wp2
    go_ret
    exact ⟨rfl, HB2.out⟩
  · have hz := it_ne_zero (show d ≠ 0 by omega)
    rw [decide_eq_false (show ¬ d < 0 by omega)] at HBW
    rw [Int.sign_eq_one_of_pos h]
    obtain ⟨x, hx⟩ : ∃ x, it d = x := ⟨_, rfl⟩
    rw [hx] at HM HBW hz
    clear hx
    go_enter Tryz.func81, Tryz.ntmps81
    go_wp2_with fail
    refine (HM.out _).mono ?_
    rintro e w2 ⟨rfl, hb2⟩
    have HB2 := Lib.hid hb2
    clear hb2
    go_wp2_with fail
    refine (HBW.out _).mono ?_
    rintro e w3 ⟨rfl, rfl⟩
    go_wp2
    go_ret
    exact ⟨rfl, HB2.out⟩
theorem rorder_any (a b : Int) (w : World) (ha : dl a ≤ 100000) (hb : dl b ≤ 100000) :
    Calls Tryz.prog 81 #[.string (it a), .string (it b)] w fun e w' => e = .returned (.int .i64 (a - b).sign) ∧ Below w.heap.size w w' :=
  rorder_of_minus a b w (fun w => rminus_any a b w ha hb)
end Go.Proofs.YtfebiipggcgmdaaGreatDoor
