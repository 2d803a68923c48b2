import Derived.Test.YtfebiipggcgmdaaGreatDoorR7
import Derived.Test.YtfebiipggcgmdaaGreatDoorS8
namespace Go.Proofs.YtfebiipggcgmdaaGreatDoor
open Go.RowKit

/-! ## small numbers -/
def tiny (q : Rat) : Prop := q.num.natAbs < 10000 ∧ q.den < 10000
theorem tiny_mk {a d : Nat} (hd : 0 < d) (ha : a < 10000) (hd2 : d < 10000) : tiny (mkRat (a : Int) d) := by
  have hg : 0 < d.gcd (a : Int).natAbs := Nat.gcd_pos_of_pos_left _ hd
  refine ⟨?_, ?_⟩
  · rw [Rat.num_mkRat, if_neg (by omega)]
    refine Nat.lt_of_le_of_lt ?_ ha
    rw [Int.natAbs_natCast, ← Int.natCast_ediv, Int.natAbs_natCast]
    exact Nat.div_le_self _ _
  · rw [Rat.den_mkRat, if_neg (by omega)]
    exact Nat.lt_of_le_of_lt (Nat.div_le_self _ _) hd2
theorem tiny_size {q : Rat} (h : tiny q) : (rt q).size < 4294967296 := by
  have h1 : 10000 ≤ P500 := Nat.le_trans (show 10000 ≤ 10 ^ 4 by decide) (Nat.pow_le_pow_right (by omega) (show 4 ≤ 500 by decide))
  have hs : sm SML q := ⟨Nat.lt_of_lt_of_le h.1 h1, Nat.lt_of_lt_of_le h.2 h1⟩
  have := rt_size hs.big
  omega
theorem times_tiny {a b : Int} (ha : a.natAbs < 10000) (hb : b.natAbs < 10000) : TimesOk a b := by
  intro w
  have sz : ∀ z : Int, z.natAbs < 10000 → (it z).size ≤ 5 := fun z hz => by
    have h : dl z ≤ 4 := (dl_le_iff (by omega)).2 (by simpa using hz)
    rw [it_sz]; split <;> omega
  have h1 := sz a ha
  have h2 := sz b hb
  have h3 : (a * b).natAbs < 1000000000000000000 := by
    rw [Int.natAbs_mul]
    have := Nat.mul_le_mul (Nat.le_of_lt ha) (Nat.le_of_lt hb)
    omega
  exact rtimes_small a b w (by omega) (by omega) (by omega) h3
theorem rorder_tiny {a b : Rat} (ha : tiny a) (hb : tiny b) : ∃ x : Int, (0 < x ↔ b < a) ∧ ∀ w, Calls Tryz.prog 88 #[.string (rt a), .string (rt b)] w fun e w' => e = .returned (.int .i64 x) ∧ Below w.heap.size w w' := by
  obtain ⟨a1, a2⟩ := ha
  obtain ⟨b1, b2⟩ := hb
  have ad : (a.den : Int).natAbs < 10000 := by rw [Int.natAbs_natCast]; exact a2
  have bd : (b.den : Int).natAbs < 10000 := by rw [Int.natAbs_natCast]; exact b2
  have pr : ∀ x y : Int, x.natAbs < 10000 → y.natAbs < 10000 → (x * y).natAbs < 1000000000000000000 := fun x y hx hy => by
    rw [Int.natAbs_mul]
    have := Nat.mul_le_mul (Nat.le_of_lt hx) (Nat.le_of_lt hy)
    omega
  refine ⟨(a.num * b.den - b.num * a.den).sign, ?_, fun w => rorder_of a b _ w (tiny_size ⟨a1, a2⟩) (tiny_size ⟨b1, b2⟩) (times_tiny a1 bd) (times_tiny b1 ad) (times_tiny ad bd) (times_tiny a1 b1) (times_tiny ad b1)
    (fun w => rorder_small _ _ w (pr _ _ a1 bd) (pr _ _ b1 ad))⟩
  rw [Int.sign_pos_iff, Rat.lt_iff]
  omega
theorem ch_tiny {lot N : Nat} (hL : lot ≤ 9) (hN : N ≤ lot) : ch lot N ≤ 126 := by
  have h : ∀ l : Fin 10, ∀ n : Fin 10, ch l.1 n.1 ≤ 126 := by decide +kernel
  exact h ⟨lot, by omega⟩ ⟨N, by omega⟩
theorem tiny_oq {N C lot b : Nat} (hL : lot ≤ 9) (hN : N ≤ lot) (hC : C ≤ N) (hb : b ≤ lot) (hl0 : 0 < lot) : tiny (oq N C lot b) := by
  have h1 := ch_tiny hL hN
  have h2 : ch lot N * b ≤ 126 * 9 := Nat.mul_le_mul h1 (by omega)
  have h3 : ch lot N * lot ≤ 126 * 9 := Nat.mul_le_mul h1 hL
  have h4 := left_le (N := N) (C := C) (lot := lot) hC hb
  exact tiny_mk (Nat.mul_pos (ch_pos hN) hl0) (by omega) (by omega)

/-! ## the reference's search for the worst lot -/
def rb (q : Nat → Rat) (lot j : Nat) : Rat × Nat := if j = 0 then (0, 0) else ((bst q (lotL lot j)).1, (bst q (lotL lot j)).2.1)
theorem rb_succ {q : Nat → Rat} {lot j : Nat} (h : j ≤ lot) (h0 : q 0 = 0) : rb q lot (j + 1) = if (rb q lot j).1 < q j then (q j, j) else rb q lot j := by
  have e1 : rb q lot (j + 1) = ((bst q (lotL lot (j + 1))).1, (bst q (lotL lot (j + 1))).2.1) := by unfold rb; rw [if_neg (by omega)]
  rw [e1, lotL_succ h, bst_snoc]
  cases j with
  | zero =>
    have e2 : bst q (lotL lot 0) = (-1, 0, 0) := rfl
    have e3 : rb q lot 0 = (0, 0) := rfl
    rw [e2, e3, h0, if_neg (by decide)]
    unfold stp
    rw [if_pos (by rw [h0]; decide)]
    show (q 0, 0) = _
    rw [h0]
  | succ i =>
    have hl := bst_len q (lotL lot (i + 1))
    rw [lotL_len lot (i + 1) (by omega)] at hl
    have e2 : rb q lot (i + 1) = ((bst q (lotL lot (i + 1))).1, (bst q (lotL lot (i + 1))).2.1) := by unfold rb; rw [if_neg (by omega)]
    rw [e2]
    unfold stp
    by_cases hc : (bst q (lotL lot (i + 1))).1 < q (i + 1)
    · rw [if_pos hc, if_pos hc, hl]
    · rw [if_neg hc, if_neg hc]
theorem rb_tiny {q : Nat → Rat} {lot : Nat} (h0 : q 0 = 0) (hq : ∀ b, b ≤ lot → tiny (q b)) : ∀ j, j ≤ lot + 1 → tiny (rb q lot j).1 ∧ (rb q lot j).2 ≤ j
  | 0, _ => (show tiny (0 : Rat) ∧ (0 : Nat) ≤ 0 from ⟨⟨by decide, by decide⟩, Nat.le_refl _⟩)
  | j + 1, h => by
    obtain ⟨h1, h2⟩ := rb_tiny h0 hq j (by omega)
    rw [rb_succ (by omega) h0]
    split
    · exact ⟨hq j (by omega), by show j ≤ j + 1; omega⟩
    · exact ⟨h1, by omega⟩
theorem oq_zero {N C lot : Nat} : oq N C lot 0 = 0 := by
  have h : left N C lot 0 = 0 := by
    unfold left
    rw [show min C 0 + 1 = 1 by omega]
    show 0 + ch 0 0 * ch (lot - 0) (N - 0) * (0 - 0) = 0
    simp
  unfold oq
  rw [h]
  exact Rat.zero_mkRat _

set_option maxRecDepth 100000 in
set_option maxHeartbeats 3200000 in
theorem rWorst_ok (N C lot : Nat) (w : World) (h1 : 1 ≤ N) (hC : C ≤ N) (hN : N ≤ lot) (hL : lot ≤ 9) :
    Calls Tryz.prog 40 #[pl N C, .int .i64 lot] w fun e w' => e = .returned (.tuple #[.int .i64 ((bst (oq N C lot) (lotL lot (lot + 1))).2.1 : Nat), .string (rt (bst (oq N C lot) (lotL lot (lot + 1))).1), .int .i64 0]) ∧ Below w.heap.size w w' := by
  have hl0 : 0 < lot := by omega
  have HT := Lib.hid (fun j hj => rb_tiny (q := oq N C lot) (lot := lot) oq_zero (fun b hb => tiny_oq hL hN hC hb hl0) j hj)
  have HS := Lib.hid (fun j hj => rb_succ (q := oq N C lot) (lot := lot) (j := j) hj oq_zero)
  have HQ := Lib.hid (fun b hb => tiny_oq (N := N) (C := C) (lot := lot) (b := b) hL hN hC hb hl0)
  have HLF := Lib.hid (fun (b : Nat) (hb : b ≤ lot) (w : World) => rleft_any N C lot b w hN hL hb hC hl0)
  have HE := Lib.hid (show rb (oq N C lot) lot (lot + 1) = ((bst (oq N C lot) (lotL lot (lot + 1))).1, (bst (oq N C lot) (lotL lot (lot + 1))).2.1) by unfold rb; rw [if_neg (by omega)])
  have HLT := Lib.hid (fun w => rlot_any N C lot w)
  rw [show szP N C lot = 0 by
    have h2 := chkP_ok h1 (show N ≤ 256 by omega) hC
    unfold szP; rw [h2, if_pos (by omega)]] at HLT
  have HP0 := Lib.hid (IsP.new w (.int .i64 N) (.int .i64 C) 23)
  have HB0 := Lib.hid ((Below.refl w.heap.size w).alloc (Nat.le_refl _) (.cells #[.int .i64 N, .int .i64 C] 23))
  have HZ := Lib.hid rt_zero
  obtain ⟨q, hq⟩ : ∃ q, oq N C lot = q := ⟨_, rfl⟩
  have HLF2 := Lib.hid (fun (b : Nat) (hb : b ≤ lot) (w : World) => show Calls Tryz.prog 48 #[pl N C, .int .i64 lot, .int .i64 b] w fun e w' => e = .returned (.string (rt (q b))) ∧ Below w.heap.size w w' by rw [← hq]; exact HLF.out b hb w)
  rw [hq] at HT HS HQ HE ⊢
  unfold pl at HLF2 HLT ⊢
  obtain ⟨c0, c1, -⟩ := HP0.out
  clear h1 hC hN hq HLF
  go_enter Tryz.func40, Tryz.ntmps40
  go_wp2_with fail
  refine (HLT.out _).mono ?_
  rintro e w1 ⟨rfl, hb1⟩
  have HP1 := Lib.hid (HP0.out.below hb1)
  have HB1 := Lib.hid (HB0.out.trans (hb1.mono HB0.out.size))
  clear hb1 c0 c1
  go_wp2
  go_loopg [8, 9, 10] (lot + 1) (fun k av bv iv wr => ∃ j : Nat, av = .int .i64 ((rb q lot j).2 : Nat) ∧ bv = .string (rt (rb q lot j).1) ∧ iv = .int .i64 j ∧ j + k = lot + 1 ∧ Below w1.heap.size w1 wr)
  case atStart => exact ⟨0, rfl, by rw [← HZ.out]; rfl, rfl, by omega, Below.refl _ _⟩
  case round =>
    obtain ⟨j, rfl, rfl, rfl, hk, hbl⟩ := hrel
    have HBL := Lib.hid hbl
    have HBQ := Lib.hid (HB1.out.trans (hbl.mono HB1.out.size))
    by_cases hz : gk = 0
    · obtain rfl : j = lot + 1 := by omega
      rw [HE.out]
      have hnl : ¬ ((lot : Int) + 1 ≤ lot) := by omega
      have hnl2 : ¬ (((lot + 1 : Nat) : Int) ≤ lot) := by omega
      clear hbl
      go_wp2
      go_ret3
      exact ⟨rfl, HBQ.out⟩
    · have hj : j ≤ lot := by omega
      have hji : (j : Int) ≤ lot := by omega
      obtain ⟨c0, c1, -⟩ := HP1.out.below hbl
      obtain ⟨t1, t2⟩ := HT.out j (by omega)
      have HS2 := Lib.hid (HS.out j hj)
      obtain ⟨x, hx, ho⟩ := rorder_tiny (HQ.out j hj) t1
      have HO := Lib.hid ho
      have HX := Lib.hid hx
      have HLJ := Lib.hid (HLF2.out j hj)
      obtain ⟨r, hr⟩ : ∃ r, rb q lot j = r := ⟨_, rfl⟩
      rw [hr] at HS2 HO HX ⊢
      have e2 : IntKind.i64.wrap ((j : Int) + 1) = (j : Int) + 1 := IntWalk.i64_in _ (by omega)
      have HK := Lib.hid hk
      clear hr ho hx t1 t2 hbl hk hj
      by_cases hx0 : 0 < x
      · have hlt := Lib.hid (HX.out.1 hx0)
        go_wp2_with fail
        refine (HLJ.out _).mono ?_
        rintro e w2 ⟨rfl, hb2⟩
        have HB2 := Lib.hid (HBL.out.trans (hb2.mono HBL.out.size))
        clear hb2 c0 c1
        go_wp2_with fail
        refine (HO.out _).mono ?_
        rintro e w3 ⟨rfl, hb3⟩
        have HB3 := Lib.hid (HB2.out.trans (hb3.mono HB2.out.size))
        clear hb3
        go_wp2
        go_roundg (gk - 1)
        case rel => exact ⟨j + 1, by rw [HS2.out, if_pos hlt.out], by rw [HS2.out, if_pos hlt.out], by simp, by have := HK.out; omega, HB3.out⟩
        case measure => have := HK.out; omega
      · have hlt := Lib.hid (show ¬ r.1 < q j from fun h => hx0 (HX.out.2 h))
        go_wp2_with fail
        refine (HLJ.out _).mono ?_
        rintro e w2 ⟨rfl, hb2⟩
        have HB2 := Lib.hid (HBL.out.trans (hb2.mono HBL.out.size))
        clear hb2 c0 c1
        go_wp2_with fail
        refine (HO.out _).mono ?_
        rintro e w3 ⟨rfl, hb3⟩
        have HB3 := Lib.hid (HB2.out.trans (hb3.mono HB2.out.size))
        clear hb3
        go_wp2
        go_roundg (gk - 1)
        case rel => exact ⟨j + 1, by rw [HS2.out, if_neg hlt.out], by rw [HS2.out, if_neg hlt.out], by simp, by have := HK.out; omega, HB3.out⟩
        case measure => have := HK.out; omega
end Go.Proofs.YtfebiipggcgmdaaGreatDoor
