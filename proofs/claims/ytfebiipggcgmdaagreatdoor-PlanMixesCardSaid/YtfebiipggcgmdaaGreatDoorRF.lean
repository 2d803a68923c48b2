import Derived.Test.YtfebiipggcgmdaaGreatDoorRE
namespace Go.Proofs.YtfebiipggcgmdaaGreatDoor
open Go.RowKit

theorem IsB.drew {w : World} {g : Nat} {l : List UInt8} (h : IsB w g l) : IsB w.drew g l := h
theorem ba_of {l : List UInt8} {s : ByteArray} (h : s.data.toList = l) : (⟨l.toArray⟩ : ByteArray) = s := ba_ext (by simp [h])
theorem IsB.setd {w : World} {g : Nat} {l : List UInt8} (h : IsB w g l) (j : Nat) {d : Nat} (hd : d < 10) : IsB (w.setCell ⟨g, j, none⟩ (.int .u8 (48 + (d : Int)))) g (l.set j (UInt8.ofNat (48 + d))) := by
  have h1 := h.set j (UInt8.ofNat (48 + d))
  rw [toNat_digit _ hd] at h1
  exact h1
/-- digits with zeros in front, as a text -/
structure WT (s : ByteArray) (n v : Nat) : Prop where
  size : s.size = n
  dig : Dig s.data.toList
  val : dv s.data.toList = v
theorem wt_of (v n : Nat) (h : (it (v : Int)).size ≤ n) : ∃ s : ByteArray, WT s n v ∧ (⟨(List.replicate (n - (it (v : Int)).size) 48 ++ (it (v : Int)).data.toList).toArray⟩ : ByteArray) = s := by
  have hl : (it (v : Int)).data.toList = Lib.decDigits v := it_nat_list v
  have hz : (it (v : Int)).size = (Lib.decDigits v).length := it_nat_size v
  refine ⟨_, ⟨?_, ?_, ?_⟩, rfl⟩
  · show (List.replicate _ _ ++ _).toArray.size = n
    rw [hl, hz]
    simp
    rw [hz] at h
    omega
  · rw [hl, hz]
    show Dig (wz n (Lib.decDigits v))
    exact wz_dig (dec_dig v)
  · rw [hl, hz]
    show dv (wz n (Lib.decDigits v)) = v
    rw [wz_dv, dv_dec]
theorem WT.at {s : ByteArray} {n v k : Nat} (h : WT s n v) (hk : k < n) : ∃ b, s.data.toList[k]? = some b ∧ 48 ≤ b.toNat ∧ b.toNat ≤ 57 := by
  have hl : s.data.toList.length = n := by rw [Array.length_toList]; exact h.size
  refine ⟨_, List.getElem?_eq_getElem (by omega), ?_⟩
  exact h.dig _ (List.getElem_mem _)
theorem ba_at {s : ByteArray} {k : Nat} {b : UInt8} (h : s.data.toList[k]? = some b) : ∃ hk : k < s.size, s[k] = b := by
  obtain ⟨hk, hb⟩ := List.getElem?_eq_some_iff.1 h
  have hk2 : k < s.size := by rw [Array.length_toList] at hk; exact hk
  exact ⟨hk2, by rw [← hb]; rfl⟩

set_option maxRecDepth 100000 in
set_option maxHeartbeats 1600000 in
theorem paper_wide (add : Bool) (a b n : Nat) (w : World) (ha : (it (a : Int)).size ≤ 500000) (hb : (it (b : Int)).size ≤ 500000) (hle : add = false → b ≤ a) (hn : max (it (a : Int)).size (it (b : Int)).size + 1 = n) :
    Calls Tryz.prog 126 #[.string (it (a : Int)), .string (it (b : Int)), .bool add] w fun e w' => e = .returned (.string (it ((pv add a b : Nat) : Int))) ∧ Below w.heap.size w w' := by
  have pa := it_nat_size a
  have pb := it_nat_size b
  have qa := List.length_pos_iff.2 (dec_ne a)
  have qb := List.length_pos_iff.2 (dec_ne b)
  have sa : (it (a : Int)).size ≤ n := by omega
  have sb : (it (b : Int)).size ≤ n := by omega
  have hn1 : n ≤ 500001 := by omega
  have WA := Lib.hid (fun w => wide_any (it (a : Int)) n w (by omega) sa (by omega))
  have WB := Lib.hid (fun w => wide_any (it (b : Int)) n w (by omega) sb (by omega))
  obtain ⟨A, hA, eA⟩ := wt_of a n sa
  obtain ⟨B, hB, eB⟩ := wt_of b n sb
  rw [eA] at WA
  rw [eB] at WB
  have HA := Lib.hid hA
  have HB := Lib.hid hB
  have hlA : A.data.toList.length = n := by rw [Array.length_toList]; exact hA.size
  have hlB : B.data.toList.length = n := by rw [Array.length_toList]; exact hB.size
  have HLA := Lib.hid hlA
  have HLB := Lib.hid hlB
  have HSUM := Lib.hid (show dv A.data.toList + dv B.data.toList < 10 ^ A.data.toList.length by
    rw [hA.val, hB.val, hlA]
    have h1 : a < 10 ^ (n - 1) := by
      have h := dv_lt (dec_dig a)
      rw [dv_dec] at h
      exact Nat.lt_of_lt_of_le h (Nat.pow_le_pow_right (by omega) (by omega))
    have h2 : b < 10 ^ (n - 1) := by
      have h := dv_lt (dec_dig b)
      rw [dv_dec] at h
      exact Nat.lt_of_lt_of_le h (Nat.pow_le_pow_right (by omega) (by omega))
    have h3 : (10 : Nat) ^ n = 10 ^ (n - 1) * 10 := by rw [← Nat.pow_succ]; congr 1; omega
    omega)
  have HLE := Lib.hid (show add = false → dv B.data.toList ≤ dv A.data.toList by rw [hA.val, hB.val]; exact hle)
  have HV := Lib.hid (show pv add (dv A.data.toList) (dv B.data.toList) = pv add a b by rw [hA.val, hB.val])
  have hsA : A.size = n := hA.size
  have hsB : B.size = n := hB.size
  have HSA := Lib.hid hsA
  have HSB := Lib.hid hsB
  have hmk := make_bytes n (by omega)
  have HNI := Lib.hid hn
  obtain ⟨x, hx⟩ : ∃ x, it (a : Int) = x := ⟨_, rfl⟩
  obtain ⟨y, hy⟩ : ∃ y, it (b : Int) = y := ⟨_, rfl⟩
  rw [hx] at WA HNI ha ⊢
  rw [hy] at WB HNI hb ⊢
  have e0 : max (x.size : Int) (y.size : Int) + 1 = (n : Int) := by have := HNI.out; omega
  have e1 : IntKind.i64.wrap ((n : Int) - 1) = (n : Int) - 1 := IntWalk.i64_in _ (by omega)
  clear pa pb qa qb sa sb eA eB hA hB hlA hlB hle hn hsA hsB hx hy
  go_enter Tryz.func126, Tryz.ntmps126
  go_wp2_with fail
  refine (WA.out _).mono ?_
  rintro e w1 ⟨rfl, hb1⟩
  have HB1 := Lib.hid hb1
  clear hb1
  go_wp2_with fail
  refine (WB.out _).mono ?_
  rintro e w2 ⟨rfl, hb2⟩
  have HB2 := Lib.hid (HB1.out.trans (hb2.mono HB1.out.size))
  clear hb2
  have HB3 := Lib.hid (HB2.out.alloc HB2.out.size (.cells (bc (List.replicate n 0)) 5))
  have HI3 := Lib.hid (IsB.new w2 (List.replicate n 0))
  go_wp2
  clear e0 e1 hmk
  go_loopg [9, 10] n (fun k cv iv wr => ∃ (D : List UInt8) (c : Nat), cv = .int .i64 c ∧ iv = .int .i64 ((k : Int) - 1) ∧ Cols add A.data.toList B.data.toList D c k ∧ IsB wr w2.heap.size (List.replicate k 0 ++ D) ∧ Below w.heap.size w wr)
  case atStart => exact ⟨[], 0, rfl, rfl, by rw [← HLA.out]; exact Cols.start (by rw [HLA.out, HLB.out]), by rw [List.append_nil]; exact HI3.out, HB3.out⟩
  case round =>
    obtain ⟨D, c, rfl, rfl, hcol, hib, hbl⟩ := hrel
    have HC := Lib.hid hcol
    have HIB := Lib.hid hib
    have HBL := Lib.hid hbl
    cases gk with
    | zero =>
      rw [show ((0 : Nat) : Int) - 1 = -1 from rfl]
      have hD : D.length = n := by have h := hcol.len; rw [HLA.out] at h; omega
      have hDn := hcol.done HSUM.out HLE.out
      rw [HV.out] at hDn
      rw [show List.replicate 0 (0 : UInt8) ++ D = D from rfl] at hib
      have hcv := conv_bytes n n hD.symm hib
      have HBR := Lib.hid (fun w => bare_any ⟨D.toArray⟩ w hcol.dig (fun e => by
        have h : D.length = 0 := by rw [show D = [] from e]; rfl
        have := HNI.out
        omega))
      rw [show dv (ByteArray.mk D.toArray).data.toList = pv add a b from hDn] at HBR
      clear hcol hib hbl hD hDn
      go_wp2_with fail
      refine (HBR.out _).mono ?_
      rintro e w4 ⟨rfl, rfl⟩
      go_wp2
      go_ret
      exact ⟨rfl, HBL.out⟩
    | succ k =>
      rw [show ((k + 1 : Nat) : Int) - 1 = (k : Int) by omega]
      have hkn : k < n := by have h := hcol.len; rw [HLA.out] at h; omega
      obtain ⟨x, hx, hxd⟩ := HA.out.at hkn
      obtain ⟨y, hy, hyd⟩ := HB.out.at hkn
      have hst := hcol.step HA.out.dig HB.out.dig hx hy
      have hcd := cdg_lt add (x.toNat - 48) (y.toNat - 48) c
      have HCA := Lib.hid (fun w => show Calls Tryz.prog 148 #[.int .u8 x.toNat, .int .u8 y.toNat, .int .i64 c, .bool add] w fun e w' => e = .returned (.tuple #[.int .u8 (48 + ((cdg add (x.toNat - 48) (y.toNat - 48) c : Nat) : Int)), .int .i64 ((ccr add (x.toNat - 48) (y.toNat - 48) c : Nat) : Int)]) ∧ w' = w from column_any add x y c w hxd hyd hcol.c1)
      obtain ⟨hxa, hxb⟩ := ba_at hx
      obtain ⟨hya, hyb⟩ := ba_at hy
      obtain ⟨d, hd⟩ : ∃ d, cdg add (x.toNat - 48) (y.toNat - 48) c = d := ⟨_, rfl⟩
      obtain ⟨c2, hc2⟩ : ∃ c2, ccr add (x.toNat - 48) (y.toNat - 48) c = c2 := ⟨_, rfl⟩
      rw [hd] at HCA hcd hst
      rw [hc2] at HCA hst
      have HST := Lib.hid hst
      have hbk : (List.replicate (k + 1) 0 ++ D)[k]? = some (0 : UInt8) := by
        rw [List.getElem?_append_left (by simp), List.getElem?_replicate, if_pos (by omega)]
      have hcell := hib.cell hbk
      have hfz := hib.frozen k
      have HIB2 := Lib.hid (hib.setd k hcd)
      rw [set_back] at HIB2
      have HBS := Lib.hid (hbl.setCell (p := ⟨w2.heap.size, k, none⟩) HB2.out.size (.int .u8 (48 + (d : Int))))
      have e2 : IntKind.i64.wrap ((k : Int) - 1) = (k : Int) - 1 := IntWalk.i64_in _ (by omega)
      have hki : (k : Int) < n := by omega
      have hkA : (k : Int) < A.size := by omega
      have hkB : (k : Int) < B.size := by omega
      clear hcol hib hbl hx hy hst hbk hd hc2 hxd hyd hcd
      go_wp2_with fail
      go_region_with ((go_at_call 148; refine (HCA.out _).mono ?_; rintro e w4 ⟨rfl, rfl⟩))
      all_goals go_wp2
      all_goals go_roundg k
      all_goals first
        | exact ⟨_, _, rfl, rfl, HST.out, HIB2.out, HBS.out.drew⟩
        | omega
theorem paper_any (add : Bool) (a b : Nat) (w : World) (ha : (it (a : Int)).size ≤ 500000) (hb : (it (b : Int)).size ≤ 500000) (hle : add = false → b ≤ a) :
    Calls Tryz.prog 126 #[.string (it (a : Int)), .string (it (b : Int)), .bool add] w fun e w' => e = .returned (.string (it ((pv add a b : Nat) : Int))) ∧ Below w.heap.size w w' :=
  paper_wide add a b _ w ha hb hle rfl
end Go.Proofs.YtfebiipggcgmdaaGreatDoor
