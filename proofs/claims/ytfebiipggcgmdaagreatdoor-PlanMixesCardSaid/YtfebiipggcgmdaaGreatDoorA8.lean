import Derived.Test.YtfebiipggcgmdaaGreatDoorA7
import Derived.BigRegion
namespace Go.Proofs.YtfebiipggcgmdaaGreatDoor
open Go.RowKit

theorem it_ne_zero {z : Int} (h : z ≠ 0) : ((it z).toList == [48]) = false := by
  rw [Lib.toList_data, it_list]
  have := itoa_zero_iff z
  simp only [beq_eq_false_iff_ne]
  exact fun hc => h (this.1 hc)

theorem nat_exact (c : Int) {b : Int} (h : 0 < b) : (c * b).natAbs / b.natAbs = c.natAbs ∧ (c * b).natAbs % b.natAbs = 0 := by
  rw [Int.natAbs_mul]
  have : 0 < b.natAbs := by omega
  exact ⟨Nat.mul_div_cancel _ this, Nat.mul_mod_left ..⟩

theorem sv_exact (c : Int) {b : Int} (h : 0 < b) : sv (!(decide (c * b < 0) == decide (b < 0))) c.natAbs = c := by
  have hb : ¬ b < 0 := by omega
  have hc : c * b < 0 ↔ c < 0 := by
    constructor
    · intro h1
      refine Int.not_le.1 fun h2 => ?_
      have := Int.mul_nonneg h2 (Int.le_of_lt h)
      omega
    · intro h1
      exact Int.mul_neg_of_neg_of_pos h1 h
  unfold sv
  by_cases h1 : c < 0 <;> simp [hb, hc, h1] <;> omega

theorem IsW.drew {w : World} {b n V : Nat} {l : Bool} (h : IsW w b l n V) : IsW w.drew b l n V := h.kept rfl

def PartEnd (q r : Int) (w : World) (e : Ending) (w' : World) : Prop := e = .returned (.tuple #[.string (it q), .string (it r), .int .i64 0]) ∧ Below w.heap.size w w'

theorem short_exact (c : Int) {b : Int} (h : 0 < b) : (c * b).tdiv b = c ∧ (c * b).tmod b = 0 := by
  exact ⟨Int.mul_tdiv_cancel _ (by omega), Int.mul_tmod_left ..⟩

set_option maxRecDepth 100000 in
set_option maxHeartbeats 3200000 in
theorem parted_exact (c b : Int) (w : World) (h0 : 0 < b) (ha : In (c * b)) (hb : In b) (he : Env w) :
    Calls Tryz.prog 140 #[.string (it (c * b)), .string (it b)] w (PartEnd c 0 w) := by
  have HA := Lib.hid ha
  have HB := Lib.hid hb
  have HE := Lib.hid he
  have HC := Lib.hid (two_cells w (.string (it (c * b))) (.string (it b)) 63)
  have HB0 := Lib.hid ((Below.refl w.heap.size w).alloc (Nat.le_refl _) (.cells #[.string (it (c * b)), .string (it b)] 63))
  have hz := it_ne_zero (show b ≠ 0 by omega)
  have HX := Lib.hid (nat_exact c h0)
  have HS := Lib.hid (sv_exact c h0)
  have HT := Lib.hid (short_exact c h0)
  have HP := Lib.hid h0
  clear ha hb he h0
  go_enter Tryz.func140, Tryz.ntmps140
  go_wp2_with fail
  refine (all_ok _ (c * b) b _ HA.out HB.out HC.out.1 HC.out.2).mono ?_
  rintro e w1 ⟨rfl, hb1⟩
  have HB1 := Lib.hid (HB0.out.trans (hb1.mono (by simp)))
  clear hb1
  by_cases hs : (it (c * b)).size ≤ 9 ∧ (it b).size ≤ 9
  · obtain ⟨hs1, hs2⟩ := hs
    obtain ⟨a1, a2⟩ := short_abs hs1
    obtain ⟨b1, b2⟩ := short_abs hs2
    obtain ⟨t1, t2⟩ := HT.out
    have hp := HP.out
    have hcb : -1000000000 < c ∧ c < 1000000000 := by
      have h1 := (nat_exact c hp).1
      have h2 := Nat.div_le_self (c * b).natAbs b.natAbs
      omega
    obtain ⟨c1, c2⟩ := hcb
    go_wp2_with fail
    refine (small_yes (c * b) b _ hs1 hs2).mono ?_
    rintro e w2 ⟨rfl, hb2⟩
    have HB2 := Lib.hid (HB1.out.trans (hb2.mono HB1.out.size))
    clear hb2
    have hb3 : ¬ b = 0 := by omega
    have hb4 : (b == 0) = false := by simpa using hb3
    have e1 : IntKind.i64.wrap ((c * b).tdiv b) = c := by rw [t1]; exact IntWalk.i64_in _ (by omega)
    have e2 : IntKind.i64.wrap ((c * b).tmod b) = 0 := by rw [t2]; exact IntWalk.i64_in _ (by omega)
    have e3 : IntKind.i64.wrap c = c := IntWalk.i64_in _ (by omega)
    have hd : decide ((0 : Int) ≠ 0) = false := rfl
    go_wp2
    go_quiet (fail)
    go_wp2_with fail
    refine (of_any c (by omega) (by omega) _ (HE.out.below (below_drewN HB2.out _))).mono ?_
    rintro e w3 ⟨rfl, hb3'⟩
    have HB3 := Lib.hid ((below_drewN HB2.out nq).trans (hb3'.mono (below_drewN HB2.out nq).size))
    clear hb3'
    go_wp2_with fail
    refine (of_any 0 (by omega) (by omega) _ (HE.out.below HB3.out)).mono ?_
    rintro e w4 ⟨rfl, hb4'⟩
    have HB4 := Lib.hid (HB3.out.trans (hb4'.mono HB3.out.size))
    clear hb4'
    go_wp2
    go_ret3
    exact ⟨rfl, HB4.out⟩
  · have hs2 : 9 < (it (c * b)).size ∨ 9 < (it b).size := by omega
    have HL := Lib.hid hs2
    clear hs hs2
    go_wp2_with fail
    refine (small_no (c * b) b _ HL.out HA.out HB.out).mono ?_
    rintro e w2 ⟨rfl, rfl⟩
    go_wp2_with fail
    refine (read_any (c * b) _ HA.out).mono ?_
    rintro e w3 ⟨bx, rfl, hbx, hwx, hb3⟩
    have HB3 := Lib.hid (HB1.out.trans (hb3.mono HB1.out.size))
    have HWX := Lib.hid hwx
    clear hb3 hwx
    go_wp2_with fail
    refine (read_any b _ HB.out).mono ?_
    rintro e w4 ⟨by', rfl, hby, hwy, hb4⟩
    have HWX2 := Lib.hid (HWX.out.below hb4 HWX.out.lt_size)
    have HB4 := Lib.hid (HB3.out.trans (hb4.mono HB3.out.size))
    have HWY := Lib.hid hwy
    clear hb4 hwy
    go_wp2_with fail
    refine (divided_any bx _ by' _ _ _ _ HWX2.out HWY.out (by have := HP.out; omega)).mono ?_
    rintro e w5 ⟨q, r, rfl, hq, hr, hqr, hwq, hwr, hb5⟩
    rw [HX.out.1] at hwq
    rw [HX.out.2] at hwr
    have hx5 := HWX2.out.below hb5 HWX2.out.lt_size
    have hy5 := HWY.out.below hb5 HWY.out.lt_size
    have xl := HWX2.out.lt_size
    have yl := HWY.out.lt_size
    have HB5 := Lib.hid (HB4.out.trans (hb5.mono HB4.out.size))
    have x1 := hx5.sgn
    have y1 := hy5.sgn
    have q1 := hwq.sgn
    have r1 := hwr.sgn
    have rn := hwr.num
    have fq := hwq.free 0
    have fr := hwr.free 0
    rw [nw_zero] at rn
    have HWQ := Lib.hid hwq
    have HWR := Lib.hid hwr
    have HX5 := Lib.hid hx5
    have HY5 := Lib.hid hy5
    clear hwq hwr hx5 hy5 hb5
    have n1 : q ≠ bx := by omega
    have n2 : q ≠ by' := by omega
    have n3 : r ≠ bx := by omega
    have n4 : r ≠ by' := by omega
    have n5 : r ≠ q := fun h => hqr h.symm
    have bq : w.heap.size ≤ q := by have h1 := HB4.out.size; omega
    have br : w.heap.size ≤ r := by have h1 := HB4.out.size; omega
    have HQ6 := Lib.hid (IsW.drew ((HWQ.out.sets (!(decide (c * b < 0) == decide (b < 0)))).other (a := ⟨r, 0, none⟩) hqr (.bool (decide (c * b < 0)))))
    have HR6 := Lib.hid (IsW.drew ((HWR.out.other (a := ⟨q, 0, none⟩) n5 (.bool (!(decide (c * b < 0) == decide (b < 0))))).sets (decide (c * b < 0))))
    have HB6 := Lib.hid ((below_gb (below_gb HB5.out (gb_setCell (gb_refl w5 (some q)) 0 (.bool (!(decide (c * b < 0) == decide (b < 0))))) bq HB5.out.size) (gb_setCell (gb_refl _ (some r)) 0 (.bool (decide (c * b < 0)))) br (by simpa using HB5.out.size)).drew)
    go_wp2
    go_region
    generalize ((w5.setCell ⟨q, 0, none⟩ (.bool (!(decide (c * b < 0) == decide (b < 0))))).setCell ⟨r, 0, none⟩ (.bool (decide (c * b < 0)))).drew = w6 at *
    clear q1 r1 rn fq fr x1 y1
    have rn := HR6.out.num
    rw [nw_zero] at rn
    have rn2 : w6.cell? ⟨r, 1, none⟩ = some (.int .i64 0) := rn
    clear rn
    have hd : decide ((0 : Int) < 0) = false := rfl
    go_wp2
    go_quiet (fail)
    go_wp2_with fail
    refine (text_any q _ _ _ (HQ6.out.drewN _) (HE.out.below (below_drewN HB6.out _))).mono ?_
    rintro e w7 ⟨rfl, hb7⟩
    have HB7 := Lib.hid ((below_drewN HB6.out nq).trans (hb7.mono (below_drewN HB6.out nq).size))
    have HR7 := Lib.hid ((HR6.out.drewN nq).below hb7 (HR6.out.drewN nq).lt_size)
    rw [HS.out]
    clear hb7
    go_wp2_with fail
    refine (text_any r _ _ _ HR7.out (HE.out.below HB7.out)).mono ?_
    rintro e w8 ⟨rfl, hb8⟩
    have HB8 := Lib.hid (HB7.out.trans (hb8.mono HB7.out.size))
    have hz0 : sv (decide (c * b < 0)) 0 = 0 := by unfold sv; split <;> rfl
    rw [hz0]
    clear hb8
    go_wp2
    go_ret3
    exact ⟨rfl, HB8.out⟩

set_option maxRecDepth 100000 in
theorem quo_exact (c b : Int) (w : World) (h0 : 0 < b) (ha : In (c * b)) (hb : In b) (he : Env w) :
    Calls Tryz.prog 110 #[.string (it (c * b)), .string (it b)] w (OkEnd c w) := by
  have HC := Lib.hid (show In c from In.of_abs (by have h1 := ha.abs; have h2 := (nat_exact c h0).1; have h3 := Nat.div_le_self (c * b).natAbs b.natAbs; omega))
  have HP := Lib.hid (parted_exact c b w h0 ha hb he)
  clear ha hb he h0
  go_enter Tryz.func110, Tryz.ntmps110
  go_wp2_with fail
  refine HP.out.mono ?_
  rintro e w1 ⟨rfl, hb1⟩
  have HB1 := Lib.hid hb1
  clear hb1
  go_wp2_with fail
  refine (check_it c _ HC.out).mono ?_
  rintro e w2 ⟨rfl, hb2⟩
  have HB2 := Lib.hid (HB1.out.trans (hb2.mono HB1.out.size))
  clear hb2
  go_wp2
  go_ret2
  exact ⟨rfl, HB2.out⟩
end Go.Proofs.YtfebiipggcgmdaaGreatDoor
