import Derived.Test.YtfebiipggcgmdaaGreatDoorRG
namespace Go.Proofs.YtfebiipggcgmdaaGreatDoor
open Go.RowKit

/-! ## The reference's division on paper -/
/-- behind i digits -/
structure Divd (A Q : List UInt8) (b r i : Nat) : Prop where
  len : Q.length = i
  dig : Dig Q
  val : dv (A.take i) = dv Q * b + r
  lt : r < b
theorem Divd.start (A : List UInt8) {b : Nat} (hb : 0 < b) : Divd A [] b 0 0 := ⟨rfl, (by intro b hb; cases hb), by simp [dv], hb⟩
theorem Divd.step {A Q : List UInt8} {b r i t s : Nat} {x : UInt8} (h : Divd A Q b r i) (hx : A[i]? = some x) (ht : t < 10) (hs : s < b) (he : t * b + s = r * 10 + (x.toNat - 48)) :
    Divd A (Q ++ [UInt8.ofNat (48 + t)]) b s (i + 1) := by
  refine ⟨by simp [h.len], ?_, ?_, hs⟩
  · intro y hy
    rcases List.mem_append.1 hy with hy | hy
    · exact h.dig y hy
    · rw [List.mem_singleton.1 hy]; exact dig_digit ht
  · rw [dv_take hx, h.val, dv_snoc, toNat_digit _ ht, Nat.add_sub_cancel_left, Nat.add_mul, Nat.add_mul]
    have e : dv Q * b * 10 = dv Q * 10 * b := by ac_rfl
    omega
theorem Divd.done {A Q : List UInt8} {b r : Nat} (h : Divd A Q b r A.length) : dv Q = dv A / b ∧ r = dv A % b := by
  have hv := h.val
  rw [List.take_length] at hv
  have hb : 0 < b := Nat.lt_of_le_of_lt (Nat.zero_le _) h.lt
  rw [hv, Nat.mul_comm, Nat.mul_add_div hb, Nat.mul_add_mod, Nat.div_eq_of_lt h.lt, Nat.mod_eq_of_lt h.lt]
  simp

theorem q_small {b r d t s : Nat} (hr : r < b) (hd : d ≤ 9) (h : t * b + s = r * 10 + d) : t < 10 := by
  refine Nat.lt_of_not_le fun hle => ?_
  have : 10 * b ≤ t * b := Nat.mul_le_mul_right _ hle
  omega

set_option maxRecDepth 100000 in
set_option maxHeartbeats 6400000 in
theorem divided_ref (a b : Nat) (w : World) (hb0 : 0 < b) (ha : (it (a : Int)).size ≤ 400000) (hb : (it (b : Int)).size ≤ 400000) :
    Calls Tryz.prog 141 #[.string (it (a : Int)), .string (it (b : Int))] w fun e w' => e = .returned (.tuple #[.string (it ((a / b : Nat) : Int)), .string (it ((a % b : Nat) : Int))]) ∧ Below w.heap.size w w' := by
  have hl : (it (a : Int)).data.toList = Lib.decDigits a := it_nat_list a
  have hz : (it (a : Int)).size = (Lib.decDigits a).length := it_nat_size a
  have hpos := List.length_pos_iff.2 (dec_ne a)
  obtain ⟨A, hA⟩ : ∃ A, it (a : Int) = A := ⟨_, rfl⟩
  rw [hA] at hl hz ha ⊢
  have hlA : A.data.toList.length = A.size := by rw [Array.length_toList]; rfl
  have HLA := Lib.hid hlA
  have HDA := Lib.hid (show Dig A.data.toList by rw [hl]; exact dec_dig a)
  have HVA := Lib.hid (show dv A.data.toList = a by rw [hl]; exact dv_dec a)
  have HP := Lib.hid (show 0 < A.size by omega)
  have HB0 := Lib.hid hb0
  have HSB := Lib.hid hb
  have hsA : A.size ≤ 400000 := by omega
  have h0 := Lib.hid (show it ((0 : Nat) : Int) = ⟨#[48]⟩ from it_zero)
  obtain ⟨qq, hqq⟩ : ∃ qq, a / b = qq := ⟨_, rfl⟩
  obtain ⟨rr, hrr⟩ : ∃ rr, a % b = rr := ⟨_, rfl⟩
  rw [hqq, hrr]
  have HQQ := Lib.hid hqq
  have HRR := Lib.hid hrr
  clear hl hz hpos hA hlA ha hb0 hqq hrr
  go_enter Tryz.func141, Tryz.ntmps141
  go_wp2
  go_loopg [6, 7, 8] A.size (fun k qv rv iv wr => ∃ (j : Nat) (Q : List UInt8) (r : Nat), qv = .string ⟨Q.toArray⟩ ∧ rv = .string (it (r : Int)) ∧ iv = .int .i64 j ∧ j + k = A.size ∧ Divd A.data.toList Q b r j ∧ Below w.heap.size w wr)
  case atStart => exact ⟨0, [], 0, rfl, by rw [h0.out], rfl, by omega, Divd.start _ HB0.out, Below.refl _ _⟩
  case round =>
    obtain ⟨j, Q, r, rfl, rfl, rfl, hk, hd, hbl⟩ := hrel
    have HBL := Lib.hid hbl
    have HD := Lib.hid hd
    clear hbl hd
    by_cases hz : gk = 0
    · obtain rfl : j = A.size := by omega
      have hnl : ¬ ((A.size : Nat) : Int) < (A.size : Nat) := by omega
      have hQ : Q.length = A.size := HD.out.len
      have hQ0 : Q ≠ [] := fun e => by rw [e] at hQ; have := HP.out; simp at hQ; omega
      have hdn := (show Divd A.data.toList Q b r A.data.toList.length by rw [HLA.out]; exact HD.out).done
      rw [HVA.out, HQQ.out, HRR.out] at hdn
      have HBR := Lib.hid (fun w => bare_any ⟨Q.toArray⟩ w HD.out.dig hQ0)
      rw [show dv (ByteArray.mk Q.toArray).data.toList = qq from hdn.1] at HBR
      have HR := Lib.hid hdn.2
      clear hQ hQ0 hdn
      go_wp2_with fail
      refine (HBR.out _).mono ?_
      rintro e w2 ⟨rfl, rfl⟩
      go_wp2
      go_ret2
      exact ⟨by rw [← HR.out]; rfl, HBL.out⟩
    · have hj : j < A.size := by omega
      have hji : (j : Int) < A.size := by omega
      have hji2 : (j : Int) + 1 ≤ A.size := by omega
      obtain ⟨x, hx⟩ : ∃ x, A.data.toList[j]? = some x := ⟨_, List.getElem?_eq_getElem (by rw [HLA.out]; exact hj)⟩
      have HX := Lib.hid hx
      have hxd := HDA.out x (List.mem_of_getElem? hx)
      have e1 : IntKind.i64.wrap ((j : Int) + 1) = (j : Int) + 1 := IntWalk.i64_in _ (by omega)
      have hrb := HD.out.lt
      have hrl : (it (r : Int)).size ≤ 400000 := Nat.le_trans (by rw [it_sz, it_sz, if_neg (by omega), if_neg (by omega)]; exact (dl_le_iff (dl_pos _)).2 (Nat.lt_of_le_of_lt (by rw [Int.natAbs_natCast]; omega) ((dl_le_iff (z := (b : Int)) (dl_pos _)).1 (Nat.le_refl _)))) HSB.out
      obtain ⟨X, hX⟩ : ∃ X, A.extract j (j + 1) = X := ⟨_, rfl⟩
      have hXl : X.data.toList = [x] := by
        rw [← hX, Lib.extract_data, drop_at hx]; simp
      have hXs : X.size = 1 := by
        have h := congrArg List.length hXl
        rw [Array.length_toList] at h
        exact h
      obtain ⟨R, hR⟩ : ∃ R, it (r : Int) = R := ⟨_, rfl⟩
      have hRl : R.data.toList = Lib.decDigits r := by rw [← hR]; exact it_nat_list r
      have HBR := Lib.hid (fun w => bare_any (R ++ X) w (by
          rw [data_append', hRl, hXl]
          intro y hy
          rcases List.mem_append.1 hy with hy | hy
          · exact dec_dig r y hy
          · rw [List.mem_singleton.1 hy]; exact hxd) (by rw [data_append', hXl]; simp))
      rw [show dv (R ++ X).data.toList = r * 10 + (x.toNat - 48) by rw [data_append', hRl, hXl, dv_snoc, dv_dec]] at HBR
      rw [hR] at hrl ⊢
      obtain ⟨S, hS⟩ : ∃ S : ByteArray, (⟨Q.toArray⟩ : ByteArray) = S := ⟨_, rfl⟩
      have hSl : S.data.toList = Q := by rw [← hS]
      have hSz : S.size = j := by
        have h := congrArg List.length hSl
        rw [Array.length_toList, HD.out.len] at h
        exact h
      rw [hS]
      have HSL := Lib.hid hSl
      have hroomS : S.size + 1 < 9223372036854775808 := by omega
      have hroom : R.size + 1 < 9223372036854775808 := by omega
      have hroom2 : R.size + X.size < 9223372036854775808 := by omega
      obtain ⟨d, hdd⟩ : ∃ d, x.toNat - 48 = d := ⟨_, rfl⟩
      rw [hdd] at HBR
      obtain ⟨u, hu⟩ : ∃ u, r * 10 + d = u := ⟨_, rfl⟩
      rw [hu] at HBR
      have HU := Lib.hid hu
      have hd9 : d ≤ 9 := by omega
      have HXD := Lib.hid hdd
      have HD9 := Lib.hid hd9
      have HXX := Lib.hid hX
      have HRB := Lib.hid hrb
      have HJ := Lib.hid hj
      have HK := Lib.hid hk
      obtain ⟨ok, hok⟩ : ∃ ok, ok = gk := ⟨_, rfl⟩
      have HOK := Lib.hid (show j + ok = A.size ∧ 0 < ok by omega)
      have HGK := Lib.hid hok
      obtain ⟨wo, hwo⟩ : ∃ wo : World, wo = wr := ⟨_, rfl⟩
      subst hwo
      clear hx hxd hrb hXl hXs hR hRl hdd hd9 hrl hk hz hok hu hS hSl hSz
      go_wp2_with fail
      refine (HBR.out _).mono ?_
      rintro e w2 ⟨rfl, rfl⟩
      go_wp2
      clear hX hroom hroom2 hji hji2 e1
      have e1 : IntKind.i64.wrap ((j : Int) + 1) = (j : Int) + 1 := IntWalk.i64_in _ (by omega)
      go_loopg [7, 9] u (fun k rv bv wz => ∃ t : Nat, rv = .string (it (k : Int)) ∧ bv = .int .u8 (48 + (t : Int)) ∧ t * b + k = u ∧ Below w.heap.size w wz)
      case atStart => exact ⟨0, rfl, rfl, by omega, HBL.out⟩
      case round =>
        obtain ⟨t, rfl, rfl, htk, hbl⟩ := hrel
        have HBL2 := Lib.hid hbl
        have HT := Lib.hid htk
        have hu := HU.out
        have hd9 := HD9.out
        have ht10 : t < 10 := q_small (s := gk) HRB.out hd9 (by omega)
        have HLS := Lib.hid (fun w => less_any gk b w)
        have hszk : (it (gk : Int)).size ≤ 500000 := by
          have h1 : dl (gk : Int) ≤ dl (b : Int) + 1 := by
            refine (dl_le_iff (by omega)).2 ?_
            have h2 := (dl_le_iff (z := (b : Int)) (dl_pos _)).1 (Nat.le_refl _)
            have hrb := HRB.out
            rw [Int.natAbs_natCast] at h2 ⊢
            rw [Nat.pow_succ]
            omega
          have h2 := HSB.out
          rw [it_sz, if_neg (by omega)] at h2 ⊢
          omega
        by_cases hlt : gk < b
        · rw [decide_eq_true hlt] at HLS
          have hcv := conv_dig wr t ht10
          have HST := Lib.hid (HD.out.step HX.out ht10 hlt (by rw [HXD.out]; omega))
          have HB3 := Lib.hid (hbl.alloc hbl.size (.cells #[.int .u8 (48 + (t : Int))] 5))
          obtain ⟨c, hc⟩ : ∃ c, UInt8.ofNat (48 + t) = c := ⟨_, rfl⟩
          rw [hc] at hcv HST
          clear hbl htk hu hd9 hszk hc
          go_wp2_with fail
          refine (HLS.out _).mono ?_
          rintro e w3 ⟨rfl, rfl⟩
          go_wp2
          go_roundg (ok - 1)
          case rel => exact ⟨j + 1, _, gk, by congr 1; apply ba_ext; rw [data_append', HSL.out], rfl, by simp, by have := HOK.out; omega, HST.out, HB3.out⟩
          case measure => have := HOK.out; have := HGK.out; omega
        · rw [decide_eq_false hlt] at HLS
          have HPA := Lib.hid (fun w => paper_any false gk b w hszk (by have := HSB.out; omega) (fun _ => by omega))
          rw [show pv false gk b = gk - b from rfl] at HPA
          have hb0 := HB0.out
          have HN := Lib.hid (show (t + 1) * b + (gk - b) = u ∧ gk - b < gk by rw [Nat.add_mul]; omega)
          obtain ⟨v, hv⟩ : ∃ v, gk - b = v := ⟨_, rfl⟩
          rw [hv] at HPA HN
          have e3 : IntKind.u8.wrap (48 + (t : Int) + 1) = 48 + ((t + 1 : Nat) : Int) := by
            rw [show 48 + (t : Int) + 1 = ((49 + t : Nat) : Int) by omega, u8_in (by omega)]; omega
          clear hbl htk hu hd9 hszk hb0 hv
          go_wp2_with fail
          refine (HLS.out _).mono ?_
          rintro e w3 ⟨rfl, rfl⟩
          go_wp2_with fail
          refine (HPA.out _).mono ?_
          rintro e w4 ⟨rfl, hb4⟩
          have HB4 := Lib.hid (HBL2.out.trans (hb4.mono HBL2.out.size))
          clear hb4
          go_wp2
          go_roundg v
          case rel => exact ⟨t + 1, rfl, rfl, HN.out.1, HB4.out⟩
          case measure => exact HN.out.2
end Go.Proofs.YtfebiipggcgmdaaGreatDoor
