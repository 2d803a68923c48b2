import Derived.Test.YtfebiipggcgmdaaGreatDoorP2
import Derived.Test.YtfebiipggcgmdaaGreatDoorP3
import Derived.Laws.IdiomStrings
import Derived.Laws.Concat
namespace Go.Proofs.YtfebiipggcgmdaaGreatDoor
open Go.RowKit

/-! ## the reference's arithmetic: signs -/
theorem it_minus {z : Int} (h : z < 0) : it z = ⟨(45 :: Lib.itoa (z.natAbs : Int)).toArray⟩ := by
  have he : Lib.itoa z = 45 :: Lib.itoa (z.natAbs : Int) := by
    unfold Lib.itoa; rw [if_pos h, if_neg (by omega)]; rfl
  unfold it; rw [he]

set_option maxRecDepth 100000 in
theorem rsize_it (z : Int) (w : World) : Calls Tryz.prog 124 #[.string (it z)] w fun e w' => e = .returned (.string (it (z.natAbs : Int))) ∧ w' = w := by
  by_cases h : z < 0
  · rw [it_minus h]
    clear h
    go_enter Tryz.func124, Tryz.ntmps124
    go_wp2
    go_ret
    refine ⟨?_, rfl⟩
    show Ending.returned (.string _) = _
    congr 2
    apply ba_ext
    rw [it_list, Lib.extract_data]
    simp
  · have e0 : (z.natAbs : Int) = z := by omega
    rw [e0]
    obtain ⟨c, t, h1, h2⟩ := it_bytes z
    have hn : ((c.toNat : Int) == 45) = false := by
      have := itoa_head_neg h1
      simp only [beq_eq_false_iff_ne, ne_eq]
      intro hc
      have hc2 : c.toNat = 45 := by omega
      have h45 : c = 45 := UInt8.toNat_inj.1 hc2
      exact h (this.1 h45)
    have HN := Lib.hid hn
    rw [h2]
    clear h1 h2 h e0 hn
    go_enter Tryz.func124, Tryz.ntmps124
    go_wp2
    · have h2 : ((c.toNat : Int) == 45) = true := by assumption
      rw [HN.out] at h2
      cases h2
    · go_ret
      exact ⟨rfl, rfl⟩

set_option maxRecDepth 100000 in
theorem rbelow_it (z : Int) (w : World) : Calls Tryz.prog 111 #[.string (it z)] w fun e w' => e = .returned (.bool (decide (z < 0))) ∧ w' = w := by
  obtain ⟨c, t, h1, h2⟩ := it_bytes z
  have hd : decide (z < 0) = ((c.toNat : Int) == 45) := by
    have h := itoa_head_neg h1
    have h3 : ((c.toNat : Int) == 45) = decide (c = 45) := by
      rw [Bool.eq_iff_iff]
      simp only [beq_iff_eq, decide_eq_true_eq]
      constructor
      · intro hc; exact UInt8.toNat_inj.1 (by have : (45 : UInt8).toNat = 45 := rfl; omega)
      · rintro rfl; rfl
    rw [h3, decide_eq_decide]
    exact h.symm
  rw [h2, hd]
  clear h1 h2 hd
  go_enter Tryz.func111, Tryz.ntmps111
  go_wp2
  go_ret
  exact ⟨rfl, rfl⟩

set_option maxRecDepth 100000 in
theorem rsigned_it (u : Nat) (m : Bool) (w : World) (hu : In (u : Int)) : Calls Tryz.prog 122 #[.string (it (u : Int)), .bool m] w fun e w' => e = .returned (.string (it (if m then -(u : Int) else u))) ∧ w' = w := by
  have HL := Lib.hid (it_le hu)
  clear hu
  cases m
  · go_enter Tryz.func122, Tryz.ntmps122
    go_wp2
    go_ret
    exact ⟨rfl, rfl⟩
  · by_cases h : u = 0
    · subst h
      have HZ := Lib.hid it_zero
      rw [show it ((0 : Nat) : Int) = ⟨#[48]⟩ from it_zero]
      go_enter Tryz.func122, Tryz.ntmps122
      go_wp2
      go_ret
      exact ⟨by show Ending.returned (.string _) = _; rw [← HZ.out], rfl⟩
    · have hz := it_ne_zero (show (u : Int) ≠ 0 by omega)
      have he : Lib.itoa (-(u : Int)) = 45 :: Lib.itoa (u : Int) := by
        unfold Lib.itoa; rw [if_pos (by omega), if_neg (by omega)]; congr 2; omega
      have HI := Lib.hid he
      clear h he
      go_enter Tryz.func122, Tryz.ntmps122
      go_wp2
      · exfalso; have := HL.out; omega
      refine ⟨rfl, _, results_tmp rfl _ _ _, ?_, rfl⟩
      show Ending.returned (.string _) = _
      congr 2
      apply ba_ext
      rw [it_list, HI.out, data_append', it_list]; rfl

set_option maxRecDepth 100000 in
theorem rturned_it (z : Int) (w : World) (hz : In z) : Calls Tryz.prog 112 #[.string (it z)] w fun e w' => e = .returned (.string (it (-z))) ∧ w' = w := by
  have hu : In (z.natAbs : Int) := In.of_abs (by rw [Int.natAbs_natCast]; exact hz.abs)
  have HU := Lib.hid hu
  have he : (if (!decide (z < 0)) = true then -(z.natAbs : Int) else (z.natAbs : Int)) = -z := by
    by_cases h : z < 0
    · rw [decide_eq_true h]; simp; omega
    · rw [decide_eq_false h]; simp; omega
  have HS := Lib.hid he
  obtain ⟨m, hm⟩ : ∃ m, decide (z < 0) = m := ⟨_, rfl⟩
  have HM := Lib.hid (fun w => rbelow_it z w)
  rw [hm] at HM HS
  clear hz hu he hm
  go_enter Tryz.func112, Tryz.ntmps112
  go_wp2_with fail
  refine (rsize_it z _).mono ?_
  rintro e w1 ⟨rfl, rfl⟩
  go_wp2_with fail
  refine (HM.out _).mono ?_
  rintro e w1 ⟨rfl, rfl⟩
  go_wp2_with fail
  refine (rsigned_it z.natAbs (!m) _ HU.out).mono ?_
  rintro e w1 ⟨rfl, rfl⟩
  rw [HS.out]
  go_wp2
  go_ret
  exact ⟨rfl, rfl⟩
end Go.Proofs.YtfebiipggcgmdaaGreatDoor

namespace Go.Proofs.YtfebiipggcgmdaaGreatDoor
open Go.RowKit

theorem dec_len19 {n : Nat} (h : n < 9223372036854775808) : (Lib.decDigits n).length ≤ 19 := by
  rw [Lib.decDigits_length]; exact (nDigits_le_iff (by omega)).2 (Nat.lt_trans h (by decide))

theorem dig_nat {d : Nat} (h : d < 10) : (UInt8.ofNat (48 + d)).toNat = 48 + d := toNat_digit d h
theorem conv_dig (w : World) (d : Nat) (h : d < 10) : (convert 135 9 (.slice (some ⟨w.heap.size, 0, none⟩) 1 1)).run Tryz.prog (w.alloc (.cells #[.int .u8 (48 + (d : Int))] 5)) =
    .ok (.string ⟨#[UInt8.ofNat (48 + d)]⟩) (w.alloc (.cells #[.int .u8 (48 + (d : Int))] 5)) := by
  have h1 := run_convert_bytes_back (P := Tryz.prog) (w.alloc (.cells #[.int .u8 (48 + (d : Int))] 5)) 135 9 5 ⟨w.heap.size, 0, none⟩ 1 [UInt8.ofNat (48 + d)] Tryz.underlying135 Tryz.underlying5 Tryz.underlying9 (fun j hj => by
    have hj0 : j = 0 := by simp at hj; omega
    subst hj0
    show (w.alloc _).cell? ⟨w.heap.size, 0, none⟩ = some (.int .u8 (((UInt8.ofNat (48 + d)).toNat : Nat) : Int))
    rw [dig_nat h, one_cell w _ _]; rfl)
  exact h1
theorem dec48 {k : Nat} (h : k < 10) : IntKind.u8.wrap (48 + (k : Int)) = 48 + (k : Int) := by
  rcases (show k = 0 ∨ k = 1 ∨ k = 2 ∨ k = 3 ∨ k = 4 ∨ k = 5 ∨ k = 6 ∨ k = 7 ∨ k = 8 ∨ k = 9 by omega) with rfl | rfl | rfl | rfl | rfl | rfl | rfl | rfl | rfl | rfl <;> rfl

set_option maxRecDepth 100000 in
set_option maxHeartbeats 1600000 in
theorem rof_pos (n : Nat) (w : World) (hn : n < 9223372036854775808) (h0 : 0 < n) :
    Calls Tryz.prog 67 #[.int .i64 n] w fun e w' => e = .returned (.string (it (n : Int))) ∧ Below w.heap.size w w' := by
  have e0 : IntKind.i64.wrap (-(n : Int)) = -(n : Int) := IntWalk.i64_in _ (by omega)
  have HL := Lib.hid (dec_len19 hn)
  have hlt : ¬ (n : Int) < 0 := by omega
  obtain ⟨u, hu⟩ : ∃ u, Lib.decDigits n = u := ⟨_, rfl⟩
  have HU := Lib.hid hu
  have hit : it (n : Int) = ⟨u.toArray⟩ := by unfold it; rw [itoa_nat, ← hu]
  rw [hit]
  rw [hu] at HL
  have HN := Lib.hid hn
  clear hu hit
  go_enter Tryz.func67, Tryz.ntmps67
  go_wp2
  clear e0 hlt h0 hn
  go_loopg [0, 3] n (fun k nv sv wr => ∃ s : ByteArray, nv = .int .i64 k ∧ sv = .string s ∧ Lib.decDigits k ++ s.data.toList = u ∧ k ≤ n ∧ Below w.heap.size w wr)
  case atStart => exact ⟨⟨#[]⟩, rfl, rfl, by show Lib.decDigits n ++ [] = u; rw [List.append_nil]; exact HU.out, Nat.le_refl _, Below.refl _ _⟩
  case round =>
    obtain ⟨s, rfl, rfl, hs, hkn, hbl⟩ := hrel
    have hsz : s.size ≤ 19 := by
      have h1 := congrArg List.length hs
      have h2 := HL.out
      rw [List.length_append] at h1
      have h3 : s.data.toList.length = s.size := by rw [Array.length_toList]; rfl
      omega
    have hk63 : gk < 9223372036854775808 := by have := HN.out; omega
    have HS := Lib.hid hs
    have HB := Lib.hid hbl
    clear hs hbl
    by_cases hz : 9 < gk
    · have hzi : (9 : Int) < gk := by omega
      have hm : gk % 10 < 10 := Nat.mod_lt _ (by omega)
      obtain ⟨d, hd⟩ : ∃ d, gk % 10 = d := ⟨_, rfl⟩
      obtain ⟨q, hq⟩ : ∃ q, gk / 10 = q := ⟨_, rfl⟩
      rw [hd] at hm
      have em : (gk : Int) % 10 = (d : Int) := by omega
      have eq : (gk : Int) / 10 = (q : Int) := by omega
      obtain ⟨x, hx⟩ : ∃ x, UInt8.ofNat (48 + d) = x := ⟨_, rfl⟩
      have hcv := conv_dig wr d hm
      rw [hx] at hcv
      have HB2 := Lib.hid (HB.out.alloc HB.out.size (.cells #[.int .u8 (48 + (d : Int))] 5))
      have hroom : s.size + 1 < 9223372036854775808 := by omega
      have HD := Lib.hid (show Lib.decDigits gk = Lib.decDigits q ++ [UInt8.ofNat (48 + d)] by rw [← hd, ← hq]; exact dec_step (by omega))
      rw [hx] at HD
      have HQ := Lib.hid (show q < gk by omega)
      clear hd hq hx
      go_wp2
      go_roundg q
      case rel =>
        refine ⟨⟨#[x]⟩ ++ s, rfl, rfl, ?_, by have := HQ.out; omega, HB2.out⟩
        have h := HS.out
        rw [HD.out] at h
        rw [← h, data_append', List.append_assoc]
      case measure => exact HQ.out
    · have hk : gk < 10 := by omega
      have hzi : ¬ (9 : Int) < gk := by omega
      obtain ⟨x, hx⟩ : ∃ x, UInt8.ofNat (48 + gk) = x := ⟨_, rfl⟩
      have hcv := conv_dig wr gk hk
      rw [hx] at hcv
      have HB2 := Lib.hid (HB.out.alloc HB.out.size (.cells #[.int .u8 (48 + (gk : Int))] 5))
      have HD := Lib.hid (show Lib.decDigits gk = [UInt8.ofNat (48 + gk)] from dec_small hk)
      rw [hx] at HD
      have hroom : s.size + 1 < 9223372036854775808 := by omega
      clear hx
      go_wp2
      go_ret
      refine ⟨?_, HB2.out⟩
      show Ending.returned (.string _) = _
      congr 2
      apply ba_ext
      have h := HS.out
      rw [HD.out] at h
      rw [data_append', ← h]
set_option maxRecDepth 100000 in
set_option maxHeartbeats 1600000 in
theorem rof_zero (n : Nat) (w : World) (hn : n < 9223372036854775808) (h0 : n = 0) :
    Calls Tryz.prog 67 #[.int .i64 n] w fun e w' => e = .returned (.string (it (n : Int))) ∧ Below w.heap.size w w' := by
  have e0 : IntKind.i64.wrap (-(n : Int)) = -(n : Int) := IntWalk.i64_in _ (by omega)
  have HL := Lib.hid (dec_len19 hn)
  have hlt : ¬ (n : Int) < 0 := by omega
  obtain ⟨u, hu⟩ : ∃ u, Lib.decDigits n = u := ⟨_, rfl⟩
  have HU := Lib.hid hu
  have hit : it (n : Int) = ⟨u.toArray⟩ := by unfold it; rw [itoa_nat, ← hu]
  rw [hit]
  rw [hu] at HL
  have HN := Lib.hid hn
  clear hu hit e0 hlt hn
  subst h0
  go_enter Tryz.func67, Tryz.ntmps67
  go_wp2
  go_loopg [0, 3] 0 (fun k nv sv wr => ∃ s : ByteArray, nv = .int .i64 k ∧ sv = .string s ∧ Lib.decDigits k ++ s.data.toList = u ∧ k ≤ 0 ∧ Below w.heap.size w wr)
  case atStart => exact ⟨⟨#[]⟩, rfl, rfl, by show Lib.decDigits 0 ++ [] = u; rw [List.append_nil]; exact HU.out, Nat.le_refl _, Below.refl _ _⟩
  case round =>
    obtain ⟨s, rfl, rfl, hs, hkn, hbl⟩ := hrel
    have hsz : s.size ≤ 19 := by
      have h1 := congrArg List.length hs
      have h2 := HL.out
      rw [List.length_append] at h1
      have h3 : s.data.toList.length = s.size := by rw [Array.length_toList]; rfl
      omega
    have hk63 : gk < 9223372036854775808 := by have := HN.out; omega
    have HS := Lib.hid hs
    have HB := Lib.hid hbl
    clear hs hbl
    by_cases hz : 9 < gk
    · omega
    · have hk : gk < 10 := by omega
      have hzi : ¬ (9 : Int) < gk := by omega
      obtain ⟨x, hx⟩ : ∃ x, UInt8.ofNat (48 + gk) = x := ⟨_, rfl⟩
      have hcv := conv_dig wr gk hk
      rw [hx] at hcv
      have HB2 := Lib.hid (HB.out.alloc HB.out.size (.cells #[.int .u8 (48 + (gk : Int))] 5))
      have HD := Lib.hid (show Lib.decDigits gk = [UInt8.ofNat (48 + gk)] from dec_small hk)
      rw [hx] at HD
      have hroom : s.size + 1 < 9223372036854775808 := by omega
      clear hx
      go_wp2
      go_ret
      refine ⟨?_, HB2.out⟩
      show Ending.returned (.string _) = _
      congr 2
      apply ba_ext
      have h := HS.out
      rw [HD.out] at h
      rw [data_append', ← h]
theorem rof_nat (n : Nat) (w : World) (hn : n < 9223372036854775808) :
    Calls Tryz.prog 67 #[.int .i64 n] w fun e w' => e = .returned (.string (it (n : Int))) ∧ Below w.heap.size w w' := by
  rcases Nat.eq_zero_or_pos n with h | h
  · exact rof_zero n w hn h
  · exact rof_pos n w hn h
end Go.Proofs.YtfebiipggcgmdaaGreatDoor

namespace Go.Proofs.YtfebiipggcgmdaaGreatDoor
open Go.RowKit

theorem dv_take {l : List UInt8} {j : Nat} {b : UInt8} (h : l[j]? = some b) : dv (l.take (j + 1)) = dv (l.take j) * 10 + (b.toNat - 48) := by
  rw [List.take_add_one, h]
  exact dv_snoc _ _

theorem u8_in {n : Nat} (h : n < 256) : IntKind.u8.wrap (n : Int) = n := by
  simp only [IntKind.wrap, IntKind.bits, IntKind.signed, Bool.false_and, Bool.false_eq_true, if_false]
  omega
set_option maxRecDepth 100000 in
set_option maxHeartbeats 1600000 in
theorem number_it (z : Int) (w : World) (hz : z.natAbs < 1000000000000000000) :
    Calls Tryz.prog 145 #[.string (it z)] w fun e w' => e = .returned (.int .i64 z) ∧ Below w.heap.size w w' := by
  obtain ⟨s, hs⟩ : ∃ s, it (z.natAbs : Int) = s := ⟨_, rfl⟩
  have HSZ := Lib.hid (fun w => rsize_it z w)
  have HBL := Lib.hid (fun w => rbelow_it z w)
  rw [hs] at HSZ
  have hl : s.data.toList = Lib.decDigits z.natAbs := by rw [← hs, it_list, itoa_nat]
  have hd : Dig s.data.toList := by rw [hl]; exact dec_dig _
  have hv : dv s.data.toList = z.natAbs := by rw [hl]; exact dv_dec _
  have h18 : s.size ≤ 18 := by
    have h1 : (Lib.decDigits z.natAbs).length ≤ 18 := by rw [Lib.decDigits_length]; exact (nDigits_le_iff (by omega)).2 hz
    rw [← hl, Array.length_toList] at h1
    exact h1
  have HD := Lib.hid hd
  have HV := Lib.hid hv
  obtain ⟨m, hm⟩ : ∃ m, decide (z < 0) = m := ⟨_, rfl⟩
  rw [hm] at HBL
  have HM := Lib.hid hm
  have HZ := Lib.hid hz
  clear hs hl hd hv hm hz
  go_enter Tryz.func145, Tryz.ntmps145
  go_wp2_with fail
  refine (HSZ.out _).mono ?_
  rintro e w1 ⟨rfl, rfl⟩
  go_wp2
  go_loopg [3, 5] s.size (fun k nv iv wr => ∃ j : Nat, nv = .int .i64 ((dv (s.data.toList.take j) : Nat) : Int) ∧ iv = .int .i64 j ∧ j + k = s.size ∧ wr = w1)
  case atStart => exact ⟨0, rfl, rfl, by omega, rfl⟩
  case round =>
    obtain ⟨j, rfl, rfl, hk, rfl⟩ := hrel
    by_cases hz : gk = 0
    · obtain rfl : j = s.size := by omega
      have hnl : ¬ ((s.size : Nat) : Int) < (s.size : Nat) := by omega
      have HV2 := Lib.hid (show dv (s.data.toList.take s.size) = z.natAbs by
        rw [List.take_of_length_le (by rw [Array.length_toList]; exact Nat.le_refl _)]; exact HV.out)
      have e1 : IntKind.i64.wrap (-((z.natAbs : Nat) : Int)) = -((z.natAbs : Nat) : Int) := IntWalk.i64_in _ (by have := HZ.out; omega)
      rw [HV2.out]
      cases m
      · go_wp2_with fail
        refine (HBL.out _).mono ?_
        rintro e w1 ⟨rfl, rfl⟩
        go_wp2
        go_ret
        exact ⟨by have := HM.out; rw [decide_eq_false_iff_not] at this; show Ending.returned (.int .i64 ((z.natAbs : Nat) : Int)) = _; congr 2; omega, Below.refl _ _⟩
      · go_wp2_with fail
        refine (HBL.out _).mono ?_
        rintro e w1 ⟨rfl, rfl⟩
        go_wp2
        go_ret
        exact ⟨by have := HM.out; rw [decide_eq_true_eq] at this; show Ending.returned (.int .i64 (-((z.natAbs : Nat) : Int))) = _; congr 2; omega, Below.refl _ _⟩
    · have hj : j < s.size := by omega
      have hji : (j : Int) < s.size := by omega
      have hjl : j < s.data.toList.length := by rw [Array.length_toList]; exact hj
      obtain ⟨b, hb⟩ : ∃ b, s[j] = b := ⟨_, rfl⟩
      have hb2 : s.data.toList[j]? = some b := by rw [List.getElem?_eq_getElem hjl, ← hb]; rfl
      have hb3 := HD.out b (List.mem_of_getElem? hb2)
      have hdv := dv_take hb2
      have hlt : dv (s.data.toList.take j) < 10 ^ 17 := by
        refine Nat.lt_of_lt_of_le (dv_lt (dig_take HD.out j)) (Nat.pow_le_pow_right (by omega) ?_)
        rw [List.length_take]; omega
      have h17 : (10 : Nat) ^ 17 = 100000000000000000 := by decide
      rw [h17] at hlt
      obtain ⟨v, hv⟩ : ∃ v, dv (s.data.toList.take j) = v := ⟨_, rfl⟩
      rw [hv] at hdv hlt ⊢
      have e1 : IntKind.i64.wrap (10 * (v : Int)) = 10 * (v : Int) := IntWalk.i64_in _ (by omega)
      have e2 : IntKind.u8.wrap ((b.toNat : Int) - 48) = ((b.toNat - 48 : Nat) : Int) := by
        have h3 : (b.toNat : Int) - 48 = ((b.toNat - 48 : Nat) : Int) := by omega
        rw [h3]
        exact u8_in (by omega)
      obtain ⟨d, hd⟩ : ∃ d, b.toNat - 48 = d := ⟨_, rfl⟩
      rw [hd] at e2 hdv
      have hd9 : d ≤ 9 := by omega
      have e3 : IntKind.i64.wrap (10 * (v : Int) + d) = 10 * (v : Int) + d := IntWalk.i64_in _ (by omega)
      have e4 : IntKind.i64.wrap ((j : Int) + 1) = (j : Int) + 1 := IntWalk.i64_in _ (by omega)
      have HDV := Lib.hid hdv
      have HJ := Lib.hid hj
      clear hb2 hb3 hdv hv hd h17
      go_wp2
      go_roundg (gk - 1)
      case rel => exact ⟨j + 1, by rw [HDV.out]; congr 1; omega, by simp, by omega, rfl⟩
      case measure => omega

set_option maxRecDepth 100000 in
set_option maxHeartbeats 1600000 in
theorem brief_it (a b : Int) (w : World) (ha : a.natAbs < 1000000000000000000) (hb : b.natAbs < 1000000000000000000) :
    Calls Tryz.prog 121 #[.string (it a), .string (it b)] w fun e w' => e = .returned (.tuple #[.int .i64 a, .int .i64 b, .bool true]) ∧ Below w.heap.size w w' := by
  have sz : ∀ z : Int, z.natAbs < 1000000000000000000 → (it (z.natAbs : Int)).size ≤ 18 := fun z hz => by
    rw [it_sz, if_neg (by omega)]
    exact (dl_le_iff (by omega)).2 (by rw [Int.natAbs_natCast]; exact hz)
  have h1 := sz a ha
  have h2 := sz b hb
  have f1 : ¬ (18 : Int) < (it (a.natAbs : Int)).size := by omega
  have f2 : ¬ (18 : Int) < (it (b.natAbs : Int)).size := by omega
  have HA := Lib.hid (fun w => number_it a w ha)
  have HB := Lib.hid (fun w => number_it b w hb)
  have SA := Lib.hid (fun w => rsize_it a w)
  have SB := Lib.hid (fun w => rsize_it b w)
  obtain ⟨x, hx⟩ : ∃ x, it (a.natAbs : Int) = x := ⟨_, rfl⟩
  obtain ⟨y, hy⟩ : ∃ y, it (b.natAbs : Int) = y := ⟨_, rfl⟩
  rw [hx] at SA f1
  rw [hy] at SB f2
  clear sz h1 h2 ha hb hx hy
  go_enter Tryz.func121, Tryz.ntmps121
  go_wp2_with fail
  refine (SA.out _).mono ?_
  rintro e w1 ⟨rfl, rfl⟩
  go_wp2_with fail
  refine (SB.out _).mono ?_
  rintro e w1 ⟨rfl, rfl⟩
  go_wp2_with fail
  refine (HA.out _).mono ?_
  rintro e w2 ⟨rfl, hb2⟩
  have HB2 := Lib.hid hb2
  clear hb2
  go_wp2_with fail
  refine (HB.out _).mono ?_
  rintro e w3 ⟨rfl, hb3⟩
  have HB3 := Lib.hid (HB2.out.trans (hb3.mono HB2.out.size))
  clear hb3
  go_wp2
  go_ret3
  exact ⟨rfl, HB3.out⟩
end Go.Proofs.YtfebiipggcgmdaaGreatDoor

namespace Go.Proofs.YtfebiipggcgmdaaGreatDoor
open Go.RowKit

theorem in_e18 {z : Int} (h : z.natAbs < 1000000000000000000) : In z := In.of_abs (by
  have h1 : 10 ^ 18 ≤ P1024 := Nat.pow_le_pow_right (by omega) (by decide)
  have h2 : (10 : Nat) ^ 18 = 1000000000000000000 := by decide
  omega)

set_option maxRecDepth 100000 in
set_option maxHeartbeats 3200000 in
theorem shared_small (a b : Int) (w : World) (ha : a.natAbs < 1000000000000000000) (hb : b.natAbs < 1000000000000000000) :
    Calls Tryz.prog 82 #[.string (it a), .string (it b)] w fun e w' => e = .returned (.string (it ((Int.gcd a b : Nat) : Int))) ∧ Below w.heap.size w w' := by
  have hg : Int.gcd a b = Nat.gcd a.natAbs b.natAbs := rfl
  rw [hg]
  have SA := Lib.hid (fun w => rsize_it a w)
  have SB := Lib.hid (fun w => rsize_it b w)
  have ia : In (a.natAbs : Int) := in_e18 (by rw [Int.natAbs_natCast]; exact ha)
  have ib : In (b.natAbs : Int) := in_e18 (by rw [Int.natAbs_natCast]; exact hb)
  obtain ⟨x, hx⟩ : ∃ x, a.natAbs = x := ⟨_, rfl⟩
  obtain ⟨y, hy⟩ : ∃ y, b.natAbs = y := ⟨_, rfl⟩
  rw [hx] at SA ia ha ⊢
  rw [hy] at SB ib hb ⊢
  have GA := Lib.hid (fun w => rsigned_it x false w ia)
  have GB := Lib.hid (fun w => rsigned_it y false w ib)
  have BR := Lib.hid (fun w => brief_it (x : Int) (y : Int) w (by rw [Int.natAbs_natCast]; exact ha) (by rw [Int.natAbs_natCast]; exact hb))
  have HA := Lib.hid ha
  have HB := Lib.hid hb
  have HZ := Lib.hid it_zero
  obtain ⟨G, hG⟩ : ∃ G, Nat.gcd x y = G := ⟨_, rfl⟩
  rw [hG]
  have HG := Lib.hid hG
  clear hx hy hg ia ib ha hb hG
  go_enter Tryz.func82, Tryz.ntmps82
  go_wp2_with fail
  refine (SA.out _).mono ?_
  rintro e w1 ⟨rfl, rfl⟩
  go_wp2_with fail
  refine (GA.out _).mono ?_
  rintro e w1 ⟨rfl, rfl⟩
  go_wp2_with fail
  refine (SB.out _).mono ?_
  rintro e w1 ⟨rfl, rfl⟩
  go_wp2_with fail
  refine (GB.out _).mono ?_
  rintro e w1 ⟨rfl, rfl⟩
  simp only [Bool.false_eq_true, if_false]
  go_wp2
  go_loopg [0, 1] 0 (fun k av bv wr => av = .string (it (x : Int)) ∧ bv = .string (it (y : Int)) ∧ wr = w1)
  case atStart => exact ⟨rfl, rfl, rfl⟩
  case round =>
    obtain ⟨rfl, rfl, rfl⟩ := hrel
    by_cases hy : y = 0
    · subst hy
      rw [show it ((0 : Nat) : Int) = ⟨#[48]⟩ from it_zero]
      go_wp2
      go_ret
      exact ⟨by rw [← HG.out, Nat.gcd_zero_right]; rfl, Below.refl _ _⟩
    · have hz := it_ne_zero (show (y : Int) ≠ 0 by omega)
      have HY := Lib.hid hy
      clear hy
      go_wp2_with fail
      refine (BR.out _).mono ?_
      rintro e w2 ⟨rfl, hb2⟩
      have HB2 := Lib.hid hb2
      clear hb2
      clear hz
      go_wp2
      go_loopg [5, 6] y (fun k pm pn wz => ∃ m : Nat, pm = .int .i64 m ∧ pn = .int .i64 k ∧ Nat.gcd m k = G ∧ m < 1000000000000000000 ∧ k < 1000000000000000000 ∧ Below wr.heap.size wr wz)
      case atStart => exact ⟨x, rfl, rfl, HG.out, HA.out, HB.out, HB2.out⟩
      case round =>
        obtain ⟨m, rfl, rfl, hg, hm, hk2, hbz⟩ := hrel
        have HG2 := Lib.hid hg
        have HBZ := Lib.hid hbz
        clear hg hbz
        by_cases hz2 : gk = 0
        · subst hz2
          go_wp2_with fail
          refine (rof_nat m _ (by omega)).mono ?_
          rintro e w7 ⟨rfl, hb7⟩
          have HB7 := Lib.hid (HBZ.out.trans (hb7.mono HBZ.out.size))
          clear hb7
          go_wp2
          go_ret
          have e1 : m = G := by have := HG2.out; simpa using this
          exact ⟨by rw [← e1]; rfl, HB7.out⟩
        · have hb4 : ((gk : Int) == 0) = false := by simp; omega
          have hb5 : ¬ (gk : Int) = 0 := by omega
          have hb6 : (0 : Int) < gk := by omega
          have e1 : (m : Int).tmod gk = ((m % gk : Nat) : Int) := (Int.ofNat_tmod m gk).symm
          have hlt := Nat.mod_lt m (show 0 < gk by omega)
          have e2 : IntKind.i64.wrap ((m : Int).tmod gk) = ((m % gk : Nat) : Int) := by rw [e1]; exact IntWalk.i64_in _ (by omega)
          go_wp2
          go_quiet (fail)
          go_wp2
          go_roundg (m % gk)
          case rel => exact ⟨gk, rfl, rfl, by rw [Nat.gcd_comm, ← Nat.gcd_rec, Nat.gcd_comm]; exact HG2.out, hk2, by omega, below_drewN HBZ.out _⟩
          case measure => exact hlt

set_option maxRecDepth 100000 in
set_option maxHeartbeats 3200000 in
theorem parted_nat (c g : Nat) (w : World) (hg : 0 < g) (hc : c * g < 1000000000000000000) (hg2 : g < 1000000000000000000) :
    Calls Tryz.prog 113 #[.string (it ((c * g : Nat) : Int)), .string (it (g : Int))] w fun e w' => e = .returned (.tuple #[.string (it (c : Int)), .string ⟨#[48]⟩]) ∧ Below w.heap.size w w' := by
  obtain ⟨n, hn⟩ : ∃ n, c * g = n := ⟨_, rfl⟩
  rw [hn] at hc ⊢
  have BR := Lib.hid (fun w => brief_it (n : Int) (g : Int) w (by rw [Int.natAbs_natCast]; exact hc) (by rw [Int.natAbs_natCast]; exact hg2))
  have hcn : c ≤ n := by rw [← hn]; exact Nat.le_mul_of_pos_right c hg
  have HC := Lib.hid (fun w => rof_nat c w (by omega))
  have HZ := Lib.hid (fun w => rof_nat 0 w (by omega))
  rw [show it ((0 : Nat) : Int) = ⟨#[48]⟩ from it_zero] at HZ
  have e0 : ((g : Int) == 0) = false := by simp; omega
  have e1 : ¬ (g : Int) = 0 := by omega
  have em : (n : Int) % (g : Int) = 0 := by rw [← hn, ← Int.natCast_emod, Nat.mul_mod_left]; rfl
  have e3 : (n : Int).tdiv g = (c : Int) := by rw [← hn, ← Int.ofNat_tdiv, Nat.mul_div_cancel _ hg]
  have e5 : (n : Int) / g = (c : Int) := by rw [← hn, ← Int.natCast_ediv, Nat.mul_div_cancel _ hg]
  have e4 : IntKind.i64.wrap (n : Int) = n := IntWalk.i64_in _ (by omega)
  have e6 : IntKind.i64.wrap (c : Int) = c := IntWalk.i64_in _ (by omega)
  clear hn hc hg2 hcn hg
  go_enter Tryz.func113, Tryz.ntmps113
  go_wp2_with fail
  refine (BR.out _).mono ?_
  rintro e w2 ⟨rfl, hb2⟩
  have HB2 := Lib.hid hb2
  clear hb2
  go_wp2_with fail
  refine (HC.out _).mono ?_
  rintro e w3 ⟨rfl, hb3⟩
  have HB3 := Lib.hid (HB2.out.trans (hb3.mono HB2.out.size))
  clear hb3
  go_wp2_with fail
  refine (HZ.out _).mono ?_
  rintro e w4 ⟨rfl, hb4⟩
  have HB4 := Lib.hid (HB3.out.trans (hb4.mono HB3.out.size))
  clear hb4
  go_wp2
  go_ret2
  exact ⟨rfl, HB4.out⟩
end Go.Proofs.YtfebiipggcgmdaaGreatDoor

namespace Go.Proofs.YtfebiipggcgmdaaGreatDoor
open Go.RowKit

theorem small_e18 {a b : Nat} (h : a * b < 1000000000000000000) (hb : 0 < b) : a < 1000000000000000000 := by
  have := Nat.le_mul_of_pos_right a hb
  omega

set_option maxRecDepth 100000 in
set_option maxHeartbeats 3200000 in
theorem lowest_small (p q : Nat) (w : World) (hq : 0 < q) (hp1 : p < 1000000000000000000) (hq1 : q < 1000000000000000000) :
    Calls Tryz.prog 66 #[.string (it (p : Int)), .string (it (q : Int))] w fun e w' => e = .returned (.string (rt (mkRat p q))) ∧ Below w.heap.size w w' := by
  obtain ⟨g, hg⟩ : ∃ g, Nat.gcd p q = g := ⟨_, rfl⟩
  have hg0 : 0 < g := by rw [← hg]; exact Nat.gcd_pos_of_pos_right _ hq
  obtain ⟨c, hc⟩ : g ∣ p := by rw [← hg]; exact Nat.gcd_dvd_left p q
  obtain ⟨d, hd⟩ : g ∣ q := by rw [← hg]; exact Nat.gcd_dvd_right p q
  have hc1 : (mkRat p q).num = (c : Int) := by
    rw [Rat.num_mkRat, if_neg (by omega), Int.natAbs_natCast, Nat.gcd_comm, hg, hc, ← Int.natCast_ediv, Nat.mul_div_cancel_left _ hg0]
  have hd1 : (mkRat p q).den = d := by
    rw [Rat.den_mkRat, if_neg (by omega), Int.natAbs_natCast, Nat.gcd_comm, hg, hd, Nat.mul_div_cancel_left _ hg0]
  rw [rt_jn, hc1, hd1]
  have SH := Lib.hid (fun w => shared_small (p : Int) (q : Int) w (by rw [Int.natAbs_natCast]; exact hp1) (by rw [Int.natAbs_natCast]; exact hq1))
  rw [show Int.gcd (p : Int) (q : Int) = g from hg] at SH
  have BL := Lib.hid (fun w => rbelow_it (q : Int) w)
  rw [show decide ((q : Int) < 0) = false from decide_eq_false (by omega)] at BL
  have hcg : c * g = p := by rw [hc, Nat.mul_comm]
  have hdg : d * g = q := by rw [hd, Nat.mul_comm]
  have hd0 : 0 < d := Nat.pos_of_ne_zero fun e => by subst e; omega
  have hg1 : g < 1000000000000000000 := small_e18 (a := g) (b := d) (by rw [← hd]; exact hq1) hd0
  have hcc : c < 1000000000000000000 := small_e18 (by rw [hcg]; exact hp1) hg0
  have hdd : d < 1000000000000000000 := small_e18 (by rw [hdg]; exact hq1) hg0
  have PC := Lib.hid (fun w => parted_nat c g w hg0 (by rw [hcg]; exact hp1) hg1)
  have PD := Lib.hid (fun w => parted_nat d g w hg0 (by rw [hdg]; exact hq1) hg1)
  rw [hcg] at PC
  rw [hdg] at PD
  have s1 := it_le (in_e18 (z := (c : Int)) (by rw [Int.natAbs_natCast]; exact hcc))
  have s2 := it_le (in_e18 (z := (d : Int)) (by rw [Int.natAbs_natCast]; exact hdd))
  clear hg hg0 hc hd hc1 hd1 hcg hdg hd0 hg1 hcc hdd hp1 hq1 hq
  by_cases h : d = 1
  · subst h
    have h2 : it ((1 : Nat) : Int) = ⟨#[49]⟩ := it_one
    rw [h2] at PD
    go_enter Tryz.func66, Tryz.ntmps66
    go_wp2_with fail
    refine (SH.out _).mono ?_
    rintro e w1 ⟨rfl, hb1⟩
    have HB1 := Lib.hid hb1
    clear hb1
    go_wp2_with fail
    refine (BL.out _).mono ?_
    rintro e w2 ⟨rfl, rfl⟩
    go_wp2_with fail
    refine (PC.out _).mono ?_
    rintro e w3 ⟨rfl, hb3⟩
    have HB3 := Lib.hid (HB1.out.trans (hb3.mono HB1.out.size))
    clear hb3
    go_wp2_with fail
    refine (PD.out _).mono ?_
    rintro e w4 ⟨rfl, hb4⟩
    have HB4 := Lib.hid (HB3.out.trans (hb4.mono HB3.out.size))
    clear hb4
    go_wp2
    go_ret
    exact ⟨rfl, HB4.out⟩
  · have hz := it_ne_one h
    have HJ := Lib.hid (show jn (c : Int) d = bt (Lib.itoa (c : Int) ++ 47 :: Lib.decDigits d) by unfold jn; rw [if_neg h])
    clear h
    go_enter Tryz.func66, Tryz.ntmps66
    go_wp2_with fail
    refine (SH.out _).mono ?_
    rintro e w1 ⟨rfl, hb1⟩
    have HB1 := Lib.hid hb1
    clear hb1
    go_wp2_with fail
    refine (BL.out _).mono ?_
    rintro e w2 ⟨rfl, rfl⟩
    go_wp2_with fail
    refine (PC.out _).mono ?_
    rintro e w3 ⟨rfl, hb3⟩
    have HB3 := Lib.hid (HB1.out.trans (hb3.mono HB1.out.size))
    clear hb3
    go_wp2_with fail
    refine (PD.out _).mono ?_
    rintro e w4 ⟨rfl, hb4⟩
    have HB4 := Lib.hid (HB3.out.trans (hb4.mono HB3.out.size))
    clear hb4
    go_wp2
    go_ret
    refine ⟨?_, HB4.out⟩
    rw [HJ.out]
    show Ending.returned (.string _) = _
    congr 2
    apply ba_ext
    rw [bt_list, data_append', data_append', it_list, it_nat_list]
    simp

set_option maxRecDepth 100000 in
theorem over_small (p q : Nat) (w : World) (hq : 0 < q) (hp1 : p < 1000000000000000000) (hq1 : q < 1000000000000000000) :
    Calls Tryz.prog 26 #[.int .i64 p, .int .i64 q] w fun e w' => e = .returned (.string (rt (mkRat p q))) ∧ Below w.heap.size w w' := by
  have HL := Lib.hid (fun w => lowest_small p q w hq hp1 hq1)
  have HP := Lib.hid (fun w => rof_nat p w (by omega))
  have HQ := Lib.hid (fun w => rof_nat q w (by omega))
  clear hq hp1 hq1
  go_enter Tryz.func26, Tryz.ntmps26
  go_wp2_with fail
  refine (HP.out _).mono ?_
  rintro e w1 ⟨rfl, hb1⟩
  have HB1 := Lib.hid hb1
  clear hb1
  go_wp2_with fail
  refine (HQ.out _).mono ?_
  rintro e w3 ⟨rfl, hb3⟩
  have HB3 := Lib.hid (HB1.out.trans (hb3.mono HB1.out.size))
  clear hb3
  go_wp2_with fail
  refine (HL.out _).mono ?_
  rintro e w4 ⟨rfl, hb4⟩
  have HB4 := Lib.hid (HB3.out.trans (hb4.mono HB3.out.size))
  clear hb4
  go_wp2
  go_ret
  exact ⟨rfl, HB4.out⟩
end Go.Proofs.YtfebiipggcgmdaaGreatDoor
