import Derived.Test.YtfebiipggcgmdaaGreatDoorR5
namespace Go.Proofs.YtfebiipggcgmdaaGreatDoor
open Go.RowKit

/-! ## The reference's short numbers with a sign -/
set_option maxRecDepth 100000 in
theorem rof_neg (u : Nat) (w : World) (hn : u < 9223372036854775808) (h0 : 0 < u) :
    Calls Tryz.prog 67 #[.int .i64 (-(u : Int))] w fun e w' => e = .returned (.string (it (-(u : Int)))) ∧ Below w.heap.size w w' := by
  have e0 : IntKind.i64.wrap (u : Int) = (u : Int) := IntWalk.i64_in _ (by omega)
  have e1 : (-(u : Int) == (u : Int)) = false := by simp; omega
  have e3 : ¬ (-(u : Int) = (u : Int)) := by omega
  have e2 : -(u : Int) < 0 := by omega
  have HO := Lib.hid (fun w => rof_nat u w hn)
  have HI := Lib.hid (show In (u : Int) from In.of_abs (by
    have h1 : 10 ^ 19 ≤ P1024 := Nat.pow_le_pow_right (by omega) (by decide)
    have h2 : (10 : Nat) ^ 19 = 10000000000000000000 := by decide
    rw [Int.natAbs_natCast]; omega))
  clear hn
  go_enter Tryz.func67, Tryz.ntmps67
  go_wp2_with fail
  refine (HO.out _).mono ?_
  rintro e w1 ⟨rfl, hb1⟩
  have HB1 := Lib.hid hb1
  clear hb1
  go_wp2_with fail
  refine (rturned_it (u : Int) _ HI.out).mono ?_
  rintro e w2 ⟨rfl, rfl⟩
  go_wp2
  go_ret
  exact ⟨rfl, HB1.out⟩
theorem rof_any (z : Int) (w : World) (hz : z.natAbs < 9223372036854775808) :
    Calls Tryz.prog 67 #[.int .i64 z] w fun e w' => e = .returned (.string (it z)) ∧ Below w.heap.size w w' := by
  by_cases h : 0 ≤ z
  · obtain ⟨n, rfl⟩ := Int.eq_ofNat_of_zero_le h
    exact rof_nat n w (by omega)
  · obtain ⟨n, hn⟩ := Int.eq_ofNat_of_zero_le (show 0 ≤ -z by omega)
    obtain rfl : z = -(n : Int) := by omega
    exact rof_neg n w (by omega) (by omega)

set_option maxRecDepth 100000 in
theorem rplus_small (a b : Int) (w : World) (ha : a.natAbs < 1000000000000000000) (hb : b.natAbs < 1000000000000000000) :
    Calls Tryz.prog 84 #[.string (it a), .string (it b)] w fun e w' => e = .returned (.string (it (a + b))) ∧ Below w.heap.size w w' := by
  have e0 : IntKind.i64.wrap (a + b) = a + b := IntWalk.i64_in _ (by omega)
  have HO := Lib.hid (fun w => rof_any (a + b) w (by omega))
  have HB := Lib.hid (fun w => brief_it a b w ha hb)
  clear ha hb
  go_enter Tryz.func84, Tryz.ntmps84
  go_wp2_with fail
  refine (HB.out _).mono ?_
  rintro e w1 ⟨rfl, hb1⟩
  have HB1 := Lib.hid hb1
  clear hb1
  go_wp2_with fail
  refine (HO.out _).mono ?_
  rintro e w2 ⟨rfl, hb2⟩
  have HB2 := Lib.hid (HB1.out.trans (hb2.mono HB1.out.size))
  clear hb2
  go_wp2
  go_ret
  exact ⟨rfl, HB2.out⟩
set_option maxRecDepth 100000 in
theorem rminus_small (a b : Int) (w : World) (ha : a.natAbs < 1000000000000000000) (hb : b.natAbs < 1000000000000000000) :
    Calls Tryz.prog 125 #[.string (it a), .string (it b)] w fun e w' => e = .returned (.string (it (a - b))) ∧ Below w.heap.size w w' := by
  have HP := Lib.hid (fun w => rplus_small a (-b) w ha (by rw [Int.natAbs_neg]; exact hb))
  rw [show a + -b = a - b by omega] at HP
  have HI := Lib.hid (in_e18 hb)
  clear ha hb
  go_enter Tryz.func125, Tryz.ntmps125
  go_wp2_with fail
  refine (rturned_it b _ HI.out).mono ?_
  rintro e w1 ⟨rfl, rfl⟩
  go_wp2_with fail
  refine (HP.out _).mono ?_
  rintro e w2 ⟨rfl, hb2⟩
  have HB2 := Lib.hid hb2
  clear hb2
  go_wp2
  go_ret
  exact ⟨rfl, HB2.out⟩
set_option maxRecDepth 100000 in
theorem rtimes_small (a b : Int) (w : World) (ha : a.natAbs < 1000000000000000000) (hb : b.natAbs < 1000000000000000000) (hl : (it a).size + (it b).size ≤ 18) (hab : (a * b).natAbs < 1000000000000000000) :
    Calls Tryz.prog 76 #[.string (it a), .string (it b)] w fun e w' => e = .returned (.string (it (a * b))) ∧ Below w.heap.size w w' := by
  have e0 : IntKind.i64.wrap (a * b) = a * b := IntWalk.i64_in _ (by omega)
  have HO := Lib.hid (fun w => rof_any (a * b) w (by omega))
  have HB := Lib.hid (fun w => brief_it a b w ha hb)
  have e1 : IntKind.i64.wrap (((it a).size : Int) + (it b).size) = ((it a).size : Int) + (it b).size := IntWalk.i64_in _ (by omega)
  have e2 : ((it a).size : Int) + (it b).size ≤ 18 := by omega
  obtain ⟨x, hx⟩ : ∃ x, it a = x := ⟨_, rfl⟩
  obtain ⟨y, hy⟩ : ∃ y, it b = y := ⟨_, rfl⟩
  rw [hx] at HB e1 e2 ⊢
  rw [hy] at HB e1 e2 ⊢
  clear ha hb hl hab hx hy
  go_enter Tryz.func76, Tryz.ntmps76
  go_wp2_with fail
  refine (HB.out _).mono ?_
  rintro e w1 ⟨rfl, hb1⟩
  have HB1 := Lib.hid hb1
  clear hb1
  go_wp2_with fail
  refine (HO.out _).mono ?_
  rintro e w2 ⟨rfl, hb2⟩
  have HB2 := Lib.hid (HB1.out.trans (hb2.mono HB1.out.size))
  clear hb2
  go_wp2
  go_ret
  exact ⟨rfl, HB2.out⟩
set_option maxRecDepth 100000 in
theorem rorder_small (a b : Int) (w : World) (ha : a.natAbs < 1000000000000000000) (hb : b.natAbs < 1000000000000000000) :
    Calls Tryz.prog 81 #[.string (it a), .string (it b)] w fun e w' => e = .returned (.int .i64 (a - b).sign) ∧ Below w.heap.size w w' := by
  have HM := Lib.hid (fun w => rminus_small a b w ha hb)
  obtain ⟨d, hd⟩ : ∃ d, a - b = d := ⟨_, rfl⟩
  rw [hd] at HM ⊢
  have HBW := Lib.hid (fun w => rbelow_it d w)
  clear ha hb hd
  rcases Int.lt_trichotomy d 0 with h | h | h
  · have hz := it_ne_zero (show d ≠ 0 by omega)
    rw [decide_eq_true h] at HBW
    rw [Int.sign_eq_neg_one_of_neg h]
    obtain ⟨x, hx⟩ : ∃ x, it d = x := ⟨_, rfl⟩
    rw [hx] at HM HBW hz
    clear hx
    go_enter Tryz.func81, Tryz.ntmps81
    go_wp2_with fail
    refine (HM.out _).mono ?_
    rintro e w2 ⟨rfl, hb2⟩
    have HB2 := Lib.hid hb2
    clear hb2
    go_wp2_with fail
    refine (HBW.out _).mono ?_
    rintro e w3 ⟨rfl, rfl⟩
    go_wp2
    go_ret
    exact ⟨rfl, HB2.out⟩
  · subst h
    rw [it_zero] at HM
    clear HBW
    go_enter Tryz.func81, Tryz.ntmps81
    go_wp2_with fail
    refine (HM.out _).mono ?_
    rintro e w2 ⟨rfl, hb2⟩
    have HB2 := Lib.hid hb2
    clear hb2
    go_wp2
    go_ret
    exact ⟨rfl, HB2.out⟩
  · have hz := it_ne_zero (show d ≠ 0 by omega)
    rw [decide_eq_false (show ¬ d < 0 by omega)] at HBW
    rw [Int.sign_eq_one_of_pos h]
    obtain ⟨x, hx⟩ : ∃ x, it d = x := ⟨_, rfl⟩
    rw [hx] at HM HBW hz
    clear hx
    go_enter Tryz.func81, Tryz.ntmps81
    go_wp2_with fail
    refine (HM.out _).mono ?_
    rintro e w2 ⟨rfl, hb2⟩
    have HB2 := Lib.hid hb2
    clear hb2
    go_wp2_with fail
    refine (HBW.out _).mono ?_
    rintro e w3 ⟨rfl, rfl⟩
    go_wp2
    go_ret
    exact ⟨rfl, HB2.out⟩
end Go.Proofs.YtfebiipggcgmdaaGreatDoor
