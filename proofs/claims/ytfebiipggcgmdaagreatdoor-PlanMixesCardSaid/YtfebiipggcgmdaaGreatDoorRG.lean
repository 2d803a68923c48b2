import Derived.Test.YtfebiipggcgmdaaGreatDoorRF
import Derived.BigRegion
namespace Go.Proofs.YtfebiipggcgmdaaGreatDoor
open Go.RowKit

/-! ## The reference's products on paper -/
/-- the value of columns -/
def cv : List Nat → Nat
  | [] => 0
  | c :: r => c * 10 ^ r.length + cv r
theorem cv_set : ∀ (l : List Nat) (j x y : Nat), l[j]? = some y → cv (l.set j (y + x)) = cv l + x * 10 ^ (l.length - 1 - j)
  | [], j, _, _, h => by simp at h
  | c :: r, 0, x, y, h => by
    simp at h
    subst h
    simp only [List.set_cons_zero, cv, List.length_cons, Nat.add_mul]
    rw [show r.length + 1 - 1 - 0 = r.length by omega]
    omega
  | c :: r, j + 1, x, y, h => by
    have h2 : r[j]? = some y := by simpa using h
    have ih := cv_set r j x y h2
    simp only [List.set_cons_succ, cv, List.length_cons, List.length_set]
    rw [ih, show r.length + 1 - 1 - (j + 1) = r.length - 1 - j by omega]
    omega
theorem cv_zeros (n : Nat) : cv (List.replicate n 0) = 0 := by
  induction n with
  | zero => rfl
  | succ n ih => rw [List.replicate_succ, cv, ih]; simp
/-- a digit of a list, 0 behind its end -/
def dg (l : List UInt8) (i : Nat) : Nat := (l.getD i 48).toNat - 48
theorem dg_at {l : List UInt8} {i : Nat} {b : UInt8} (h : l[i]? = some b) : dg l i = b.toNat - 48 := by unfold dg; rw [List.getD_eq_getElem?_getD, h]; rfl
/-- what the columns hold behind i digits and k more products -/
structure Prods (A B : List UInt8) (C : List Nat) (i k : Nat) : Prop where
  len : C.length = A.length + B.length
  bd : ∀ (j y : Nat), C[j]? = some y → y ≤ 81 * (i * B.length + k)
  val : cv C = dv (A.take i) * 10 ^ (A.length - i) * dv B + dg A i * 10 ^ (A.length - 1 - i) * (dv (B.take k) * 10 ^ (B.length - k))
theorem Prods.start (A B : List UInt8) : Prods A B (List.replicate (A.length + B.length) 0) 0 0 :=
  ⟨by simp, (by intro j y h; rw [List.getElem?_replicate] at h; split at h <;> simp at h; omega), by rw [cv_zeros]; simp [dv]⟩
theorem Prods.step {A B : List UInt8} {C : List Nat} {i k y : Nat} {a b : UInt8} (h : Prods A B C i k) (hA : Dig A) (hB : Dig B) (ha : A[i]? = some a) (hb : B[k]? = some b) (hy : C[i + k + 1]? = some y) :
    Prods A B (C.set (i + k + 1) (y + (a.toNat - 48) * (b.toNat - 48))) i (k + 1) := by
  have da := hA a (List.mem_of_getElem? ha)
  have db := hB b (List.mem_of_getElem? hb)
  have hi := (List.getElem?_eq_some_iff.1 ha).1
  have hk := (List.getElem?_eq_some_iff.1 hb).1
  have hp : (a.toNat - 48) * (b.toNat - 48) ≤ 9 * 9 := Nat.mul_le_mul (by omega) (by omega)
  refine ⟨by rw [List.length_set]; exact h.len, ?_, ?_⟩
  · intro j z hz
    by_cases e : j = i + k + 1
    · subst e
      rw [List.getElem?_set_self (List.getElem?_eq_some_iff.1 hy).1] at hz
      have := h.bd _ _ hy
      injection hz with hz
      omega
    · rw [List.getElem?_set_ne (fun h => e h.symm)] at hz
      have := h.bd _ _ hz
      omega
  · rw [cv_set _ _ _ _ hy, h.val, h.len, dg_at ha, dv_take hb]
    have e1 : A.length + B.length - 1 - (i + k + 1) = (A.length - 1 - i) + (B.length - (k + 1)) := by omega
    have e2 : B.length - k = (B.length - (k + 1)) + 1 := by omega
    rw [e1, Nat.pow_add, e2, Nat.pow_succ, Nat.add_assoc]
    congr 1
    obtain ⟨p, hp⟩ : ∃ p : Nat, 10 ^ (A.length - 1 - i) = p := ⟨_, rfl⟩
    obtain ⟨q, hq⟩ : ∃ q : Nat, 10 ^ (B.length - (k + 1)) = q := ⟨_, rfl⟩
    rw [hp, hq, Nat.add_mul, Nat.mul_add]
    congr 1
    · ac_rfl
    · ac_rfl
theorem Prods.next {A B : List UInt8} {C : List Nat} {i : Nat} (h : Prods A B C i B.length) (hi : i < A.length) : Prods A B C (i + 1) 0 := by
  obtain ⟨a, ha⟩ : ∃ a, A[i]? = some a := ⟨_, List.getElem?_eq_getElem hi⟩
  refine ⟨h.len, fun j y hj => ?_, ?_⟩
  · have := h.bd j y hj
    rw [Nat.add_mul]; omega
  · rw [h.val, List.take_length, dv_take ha, dg_at ha, show A.length - i = (A.length - (i + 1)) + 1 by omega, show A.length - 1 - i = A.length - (i + 1) by omega, Nat.sub_self, Nat.pow_succ]
    obtain ⟨p, hp⟩ : ∃ p : Nat, 10 ^ (A.length - (i + 1)) = p := ⟨_, rfl⟩
    rw [hp, List.take_zero, dv_nil]
    simp only [Nat.pow_zero, Nat.mul_one, Nat.zero_mul, Nat.mul_zero, Nat.add_zero, Nat.add_mul]
    congr 1
    ac_rfl
theorem Prods.done {A B : List UInt8} {C : List Nat} (h : Prods A B C A.length 0) : cv C = dv A * dv B := by
  rw [h.val, List.take_length, List.take_zero, dv_nil, Nat.sub_self]
  simp

/-- what holds when the columns behind some are carried -/
structure Carr (C : List Nat) (D : List UInt8) (c k M : Nat) : Prop where
  len : k + D.length = C.length
  dig : Dig D
  val : cv (C.drop k) = dv D + c * 10 ^ D.length
  cM : c ≤ M
theorem Carr.start (C : List Nat) (M : Nat) : Carr C [] 0 C.length M :=
  ⟨by simp, (by intro b hb; cases hb), by rw [List.drop_length]; simp [cv, dv], by omega⟩
theorem drop_atN {l : List Nat} {k : Nat} {b : Nat} (h : l[k]? = some b) : l.drop k = b :: l.drop (k + 1) := by
  obtain ⟨hk, hb⟩ := List.getElem?_eq_some_iff.1 h
  rw [List.drop_eq_getElem_cons hk, hb]
theorem Carr.step {C : List Nat} {D : List UInt8} {c k M y : Nat} (h : Carr C D c (k + 1) M) (hy : C[k]? = some y) (hM : y ≤ M) :
    Carr C (UInt8.ofNat (48 + (c + y) % 10) :: D) ((c + y) / 10) k M := by
  have hl := h.len
  have hc := h.cM
  refine ⟨by rw [List.length_cons]; omega, ?_, ?_, by omega⟩
  · intro x hx
    rcases List.mem_cons.1 hx with rfl | hx
    · exact dig_digit (Nat.mod_lt _ (by omega))
    · exact h.dig x hx
  · rw [drop_atN hy, cv, List.length_drop, h.val, show C.length - (k + 1) = D.length by omega, dv_cons, toNat_digit _ (Nat.mod_lt _ (by omega)), Nat.add_sub_cancel_left, List.length_cons, Nat.pow_succ]
    obtain ⟨p, hp⟩ : ∃ p : Nat, 10 ^ D.length = p := ⟨_, rfl⟩
    rw [hp]
    have e1 : (c + y) / 10 * (p * 10) = ((c + y) / 10 * 10) * p := by rw [Nat.mul_comm p, Nat.mul_assoc]
    have e2 : (c + y) % 10 * p + (c + y) / 10 * 10 * p = c * p + y * p := by
      rw [← Nat.add_mul, ← Nat.add_mul]; congr 1; omega
    rw [e1]
    omega
theorem Carr.done {C : List Nat} {D : List UInt8} {c M : Nat} (h : Carr C D c 0 M) (hlt : cv C < 10 ^ C.length) : dv D = cv C := by
  have hv := h.val
  have hl := h.len
  rw [List.drop_zero] at hv
  rw [show C.length = D.length by omega] at hlt
  rcases Nat.eq_zero_or_pos c with rfl | hc
  · omega
  · have : 1 * 10 ^ D.length ≤ c * 10 ^ D.length := Nat.mul_le_mul_right _ hc
    omega

/-- naturals as cells -/
def nc (l : List Nat) : Array Value := (l.map fun (n : Nat) => Value.int .i64 (n : Int)).toArray
theorem nc_size (l : List Nat) : (nc l).size = l.length := by simp [nc]
theorem nc_get (l : List Nat) (j : Nat) : (nc l)[j]? = l[j]?.map fun (n : Nat) => Value.int .i64 (n : Int) := by simp [nc]
theorem nc_set (l : List Nat) (j n : Nat) : (nc l).setIfInBounds j (.int .i64 (n : Int)) = nc (l.set j n) := by
  simp [nc, List.map_set]
/-- a block of naturals -/
def IsN (w : World) (g : Nat) (l : List Nat) : Prop := w.heap[g]? = some (.cells (nc l) 3 (0, 0))
theorem IsN.lt {w : World} {g : Nat} {l : List Nat} (h : IsN w g l) : g < w.heap.size := (Array.getElem?_eq_some_iff.1 h).1
theorem IsN.cell {w : World} {g : Nat} {l : List Nat} (h : IsN w g l) {j n : Nat} (hj : l[j]? = some n) : w.cell? ⟨g, j, none⟩ = some (.int .i64 (n : Int)) := by
  rw [cell_of_row w g j (nc l) 3 (0, 0) h, nc_get, hj]; rfl
theorem IsN.frozen {w : World} {g : Nat} {l : List Nat} (h : IsN w g l) (j : Nat) : w.frozen? ⟨g, j, none⟩ = false := frozen_of_row w g j (nc l) 3 h
theorem IsN.set {w : World} {g : Nat} {l : List Nat} (h : IsN w g l) (j n : Nat) : IsN (w.setCell ⟨g, j, none⟩ (.int .i64 (n : Int))) g (l.set j n) := by
  have h1 := heap_setCell_same w g j (nc l) 3 (.int .i64 (n : Int)) h
  rw [nc_set] at h1
  exact h1
theorem IsN.new (w : World) (l : List Nat) : IsN (w.alloc (.cells (nc l) 3)) w.heap.size l := heap_alloc_new w _
theorem IsN.drew {w : World} {g : Nat} {l : List Nat} (h : IsN w g l) : IsN w.drew g l := h
theorem IsN.alloc {w : World} {g : Nat} {l : List Nat} (h : IsN w g l) (o : Obj) : IsN (w.alloc o) g l := (Below.heap_alloc _ _ _ h.lt).trans h
theorem IsN.other {w : World} {g : Nat} {l : List Nat} (h : IsN w g l) {a : Addr} (ha : g ≠ a.block) (v : Value) : IsN (w.setCell a v) g l := (Below.heap_setCell _ _ _ _ ha).trans h
theorem make_ints (n : Nat) (hn : n ≤ 1000000) (w : World) : (Instr.makeSlice 124 (.int .i64 (n : Int)) (.int .i64 (n : Int))).run Tryz.prog w = .ok (.slice (some ⟨w.heap.size, 0, none⟩) n n) (w.alloc (.cells (nc (List.replicate n 0)) 3)) := by
  obtain ⟨i0, hi, hz0, hz1, hz2⟩ := info_parts int_info
  have hr := run_make (P := Tryz.prog) w 124 3 i0 (.int .i64 0) Tryz.underlying124 hi hz0 .i64 .i64 n n (by omega) (Int.le_refl _) (by rw [hz2]; omega) (by omega)
  rw [hz1] at hr
  simp only [Int.toNat_natCast, Nat.mul_one] at hr
  have e : madeCells (Value.int .i64 0).cells n = nc (List.replicate n 0) := by
    unfold nc
    rw [List.map_replicate]
    apply Array.ext'
    simp [madeCells, Value.cells, Nat.mod_one]
    rw [List.map_const', List.length_range]
  rw [e] at hr
  exact hr

structure WD (s : ByteArray) (v : Nat) : Prop where
  dig : Dig s.data.toList
  val : dv s.data.toList = v
  len : s.data.toList.length = s.size
  pos : 0 < s.size
theorem wd_of (v : Nat) : WD (it (v : Int)) v := by
  have hl : (it (v : Int)).data.toList = Lib.decDigits v := it_nat_list v
  have hz : (it (v : Int)).size = (Lib.decDigits v).length := it_nat_size v
  have hp := List.length_pos_iff.2 (dec_ne v)
  exact ⟨by rw [hl]; exact dec_dig v, by rw [hl]; exact dv_dec v, by rw [hl, hz], by omega⟩

set_option maxRecDepth 100000 in
set_option maxHeartbeats 3200000 in
theorem product_ref (a b : Nat) (w : World) (ha : (it (a : Int)).size ≤ 400000) (hb : (it (b : Int)).size ≤ 400000) :
    Calls Tryz.prog 123 #[.string (it (a : Int)), .string (it (b : Int))] w fun e w' => e = .returned (.string (it ((a * b : Nat) : Int))) ∧ Below w.heap.size w w' := by
  have hwa := wd_of a
  have hwb := wd_of b
  obtain ⟨A, hA⟩ : ∃ A, it (a : Int) = A := ⟨_, rfl⟩
  obtain ⟨B, hB⟩ : ∃ B, it (b : Int) = B := ⟨_, rfl⟩
  rw [hA] at hwa ha ⊢
  rw [hB] at hwb hb ⊢
  have HWA := Lib.hid hwa
  have HWB := Lib.hid hwb
  obtain ⟨n, hn⟩ : ∃ n, A.size + B.size = n := ⟨_, rfl⟩
  have HN := Lib.hid hn
  have hn8 : n ≤ 800000 := by omega
  have hmk := make_ints n (by omega)
  have hmkb := make_bytes n (by omega)
  have e0 : (A.size : Int) + B.size = (n : Int) := by omega
  have HB1 := Lib.hid ((Below.refl w.heap.size w).alloc (Nat.le_refl _) (.cells (nc (List.replicate n 0)) 3))
  have HI1 := Lib.hid (IsN.new w (List.replicate n 0))
  have HM := Lib.hid (show ∀ i k, i ≤ A.size → k ≤ B.size → 81 * (i * B.size + k) ≤ 13000000000000 from fun i k hi hk => by
    have : i * B.size ≤ 400000 * 400000 := Nat.mul_le_mul (by omega) hb
    omega)
  clear hA hB hwa hwb hn
  go_enter Tryz.func123, Tryz.ntmps123
  go_wp2
  clear hmk e0
  go_loopg [6] A.size (fun k iv wr => ∃ (i : Nat) (C : List Nat), iv = .int .i64 i ∧ i + k = A.size ∧ Prods A.data.toList B.data.toList C i 0 ∧ IsN wr w.heap.size C ∧ Below w.heap.size w wr)
  case atStart => exact ⟨0, _, rfl, by omega, by have h := Prods.start A.data.toList B.data.toList; rw [HWA.out.len, HWB.out.len, HN.out] at h; exact h, HI1.out, HB1.out⟩
  case round =>
    obtain ⟨i, C, rfl, hik, hpr, hin, hbl⟩ := hrel
    have HPR := Lib.hid hpr
    have HIN := Lib.hid hin
    have HBL := Lib.hid hbl
    by_cases hz : gk = 0
    · obtain rfl : i = A.size := by omega
      have hnl : ¬ ((A.size : Nat) : Int) < (A.size : Nat) := by omega
      have hCl : C.length = n := by rw [hpr.len, HWA.out.len, HWB.out.len, HN.out]
      have HCL := Lib.hid hCl
      have HVC := Lib.hid (show cv C = a * b by
        have h := (show Prods A.data.toList B.data.toList C A.data.toList.length 0 by rw [HWA.out.len]; exact hpr).done
        rw [HWA.out.val, HWB.out.val] at h
        exact h)
      have HLT := Lib.hid (show cv C < 10 ^ C.length by
        rw [HVC.out, hCl, ← HN.out, Nat.pow_add]
        have h1 := dv_lt HWA.out.dig
        have h2 := dv_lt HWB.out.dig
        rw [HWA.out.val, HWA.out.len] at h1
        rw [HWB.out.val, HWB.out.len] at h2
        exact Nat.mul_lt_mul'' h1 h2)
      have HBD := Lib.hid (show ∀ k y, C[k]? = some y → y ≤ 13000000000000 from fun k y h => Nat.le_trans (by have h2 := hpr.bd k y h; rw [HWB.out.len] at h2; exact h2) (HM.out A.size 0 (Nat.le_refl _) (Nat.zero_le _)))
      have HNE := Lib.hid (show w.heap.size ≠ wr.heap.size from fun e => by have h := hin.lt; rw [e] at h; exact absurd h (Nat.lt_irrefl _))
      have HSZ := Lib.hid (show w.heap.size ≤ wr.heap.size from hbl.size)
      have HIN3 := Lib.hid (hin.alloc (.cells (bc (List.replicate n 0)) 5))
      have HIB3 := Lib.hid (IsB.new wr (List.replicate n 0))
      have HBL3 := Lib.hid (hbl.alloc hbl.size (.cells (bc (List.replicate n 0)) 5))
      have HPN := Lib.hid (show 0 < n by have := HWA.out.pos; have := HN.out; omega)
      have e0 : IntKind.i64.wrap ((n : Int) - 1) = (n : Int) - 1 := IntWalk.i64_in _ (by omega)
      obtain ⟨wo, hwo⟩ : ∃ wo : World, wo = wr := ⟨_, rfl⟩
      subst hwo
      clear hpr hin hbl hCl hz hik
      go_wp2
      clear e0 hmkb
      go_loopg [9, 10] n (fun k yv iv wz => ∃ (D : List UInt8) (c : Nat), yv = .int .i64 c ∧ iv = .int .i64 ((k : Int) - 1) ∧ Carr C D c k 13000000000000 ∧ IsN wz w.heap.size C ∧ IsB wz wo.heap.size (List.replicate k 0 ++ D) ∧ Below w.heap.size w wz)
      case atStart => exact ⟨[], 0, rfl, rfl, by have h := Carr.start C 13000000000000; rw [HCL.out] at h; exact h, HIN3.out, by rw [List.append_nil]; exact HIB3.out, HBL3.out⟩
      case round =>
        obtain ⟨D, c, rfl, rfl, hca, hin, hib, hbl⟩ := hrel
        have HBLZ := Lib.hid hbl
        cases gk with
        | zero =>
          rw [show ((0 : Nat) : Int) - 1 = -1 from rfl]
          have hD : D.length = n := by have h := hca.len; rw [HCL.out] at h; omega
          have hDn := hca.done HLT.out
          rw [HVC.out] at hDn
          rw [show List.replicate 0 (0 : UInt8) ++ D = D from rfl] at hib
          have hcv := conv_bytes n n hD.symm hib
          have HBR := Lib.hid (fun w => bare_any ⟨D.toArray⟩ w hca.dig (fun e => by
            have h : D.length = 0 := by rw [show D = [] from e]; rfl
            have := HPN.out
            omega))
          rw [show dv (ByteArray.mk D.toArray).data.toList = a * b from hDn] at HBR
          clear hca hin hib hbl hD hDn hnl
          go_wp2_with fail
          refine (HBR.out _).mono ?_
          rintro e w4 ⟨rfl, rfl⟩
          go_wp2
          go_ret
          exact ⟨rfl, HBLZ.out⟩
        | succ k =>
          rw [show ((k + 1 : Nat) : Int) - 1 = (k : Int) by omega]
          have hkn : k < n := by have h := hca.len; rw [HCL.out] at h; omega
          obtain ⟨y, hy⟩ : ∃ y, C[k]? = some y := ⟨_, List.getElem?_eq_getElem (by rw [HCL.out]; exact hkn)⟩
          have hyb := HBD.out k y hy
          have HST := Lib.hid (hca.step hy hyb)
          have hcM := hca.cM
          obtain ⟨s, hs⟩ : ∃ s, c + y = s := ⟨_, rfl⟩
          rw [hs] at HST
          obtain ⟨d, hd⟩ : ∃ d, s % 10 = d := ⟨_, rfl⟩
          obtain ⟨q, hq⟩ : ∃ q, s / 10 = q := ⟨_, rfl⟩
          rw [hd, hq] at HST
          have hd10 : d < 10 := by omega
          have hs26 : s ≤ 26000000000000 := by omega
          have hsi : (s : Int) ≤ 26000000000000 := by omega
          have esw : IntKind.i64.wrap (s : Int) = (s : Int) := IntWalk.i64_in _ (by omega)
          have hc := hin.cell hy
          have hbk : (List.replicate (k + 1) 0 ++ D)[k]? = some (0 : UInt8) := by
            rw [List.getElem?_append_left (by simp), List.getElem?_replicate, if_pos (by omega)]
          have hcb := hib.cell hbk
          have hfb := hib.frozen k
          have HIB4 := Lib.hid (hib.setd k hd10)
          rw [set_back] at HIB4
          have HIN4 := Lib.hid (hin.other (a := ⟨wo.heap.size, k, none⟩) HNE.out (.int .u8 (48 + (d : Int))))
          have HBS := Lib.hid (hbl.setCell (p := ⟨wo.heap.size, k, none⟩) HSZ.out (.int .u8 (48 + (d : Int))))
          have e1 : (c : Int) + y = (s : Int) := by omega
          have e1w : IntKind.i64.wrap ((c : Int) + y) = (s : Int) := by rw [e1]; exact IntWalk.i64_in _ (by omega)
          have e2 : (s : Int) % 10 = (d : Int) := by omega
          have e2t : (s : Int).tmod 10 = (d : Int) := by rw [← hd]; exact (Int.ofNat_tmod s 10).symm
          have e3 : (s : Int) / 10 = (q : Int) := by omega
          have e3t : (s : Int).tdiv 10 = (q : Int) := by rw [← hq]; exact (Int.ofNat_tdiv s 10).symm
          have e4 : IntKind.i64.wrap (48 + (d : Int)) = 48 + (d : Int) := IntWalk.i64_in _ (by omega)
          have e5 := dec48 hd10
          have e6 : IntKind.i64.wrap ((k : Int) - 1) = (k : Int) - 1 := IntWalk.i64_in _ (by omega)
          have e7 : IntKind.i64.wrap (d : Int) = (d : Int) := IntWalk.i64_in _ (by omega)
          have e8 : IntKind.i64.wrap (q : Int) = (q : Int) := IntWalk.i64_in _ (by omega)
          have hki : (k : Int) < n := by omega
          clear hca hin hib hbl hy hs hd hq hbk hcM hyb hnl
          go_wp2
          go_roundg k
          case rel => exact ⟨_, _, rfl, rfl, HST.out, HIN4.out, HIB4.out, HBS.out⟩
          case measure => omega
    · have hi : i < A.size := by omega
      have hii : (i : Int) < A.size := by omega
      obtain ⟨x, hx⟩ : ∃ x, A.data.toList[i]? = some x := ⟨_, List.getElem?_eq_getElem (by rw [HWA.out.len]; exact hi)⟩
      have hxd := HWA.out.dig x (List.mem_of_getElem? hx)
      obtain ⟨hxa, hxb⟩ := ba_at hx
      have HX := Lib.hid hx
      obtain ⟨p, hp⟩ : ∃ p, x.toNat - 48 = p := ⟨_, rfl⟩
      have HP := Lib.hid hp
      have hp9 : p ≤ 9 := by omega
      have ex : IntKind.u8.wrap ((x.toNat : Int) - 48) = (p : Int) := by rw [show (x.toNat : Int) - 48 = (p : Int) by omega]; exact u8_in (by omega)
      obtain ⟨ok, hok⟩ : ∃ ok, ok = gk := ⟨_, rfl⟩
      have HOK := Lib.hid (show i + ok = A.size ∧ 0 < ok by omega)
      have HGK := Lib.hid hok
      obtain ⟨wo, hwo⟩ : ∃ wo : World, wo = wr := ⟨_, rfl⟩
      subst hwo
      clear hpr hin hbl hx hxd hp hik hz hok
      go_wp2
      go_loopg [7] B.size (fun k kv wz => ∃ (j : Nat) (C : List Nat), kv = .int .i64 j ∧ j + k = B.size ∧ Prods A.data.toList B.data.toList C i j ∧ IsN wz w.heap.size C ∧ Below w.heap.size w wz)
      case atStart => exact ⟨0, C, rfl, by omega, HPR.out, HIN.out, HBL.out⟩
      case round =>
        obtain ⟨j, C2, rfl, hjk, hpr, hin, hbl⟩ := hrel
        have HPR2 := Lib.hid hpr
        have HIN2 := Lib.hid hin
        have HBL2 := Lib.hid hbl
        by_cases hz : gk = 0
        · obtain rfl : j = B.size := by omega
          have hnl : ¬ ((B.size : Nat) : Int) < (B.size : Nat) := by omega
          have HNX := Lib.hid ((show Prods A.data.toList B.data.toList C2 i B.data.toList.length by rw [HWB.out.len]; exact HPR2.out).next (by rw [HWA.out.len]; exact hi))
          have e1 : IntKind.i64.wrap ((i : Int) + 1) = (i : Int) + 1 := IntWalk.i64_in _ (by omega)
          clear hpr hin hbl hjk
          go_wp2
          go_roundg (ok - 1)
          case rel => exact ⟨i + 1, C2, by simp, by have := HOK.out; omega, HNX.out, HIN2.out, HBL2.out⟩
          case measure => have := HOK.out; have := HGK.out; omega
        · have hj : j < B.size := by omega
          have hji : (j : Int) < B.size := by omega
          obtain ⟨y, hy⟩ : ∃ y, B.data.toList[j]? = some y := ⟨_, List.getElem?_eq_getElem (by rw [HWB.out.len]; exact hj)⟩
          have hyd := HWB.out.dig y (List.mem_of_getElem? hy)
          obtain ⟨hya, hyb⟩ := ba_at hy
          obtain ⟨q, hq⟩ : ∃ q, y.toNat - 48 = q := ⟨_, rfl⟩
          have hq9 : q ≤ 9 := by omega
          have ey : IntKind.u8.wrap ((y.toNat : Int) - 48) = (q : Int) := by rw [show (y.toNat : Int) - 48 = (q : Int) by omega]; exact u8_in (by omega)
          have hCl : C2.length = n := by rw [hpr.len, HWA.out.len, HWB.out.len, HN.out]
          obtain ⟨m, hm⟩ : ∃ m, i + j + 1 = m := ⟨_, rfl⟩
          have hmn : m < n := by have := HN.out; omega
          obtain ⟨z, hz2⟩ : ∃ z, C2[m]? = some z := ⟨_, List.getElem?_eq_getElem (by omega)⟩
          have hzb : z ≤ 13000000000000 := Nat.le_trans (by have h := hpr.bd m z hz2; rw [HWB.out.len] at h; exact h) (HM.out i j (by omega) (by omega))
          have HST := Lib.hid (hpr.step HWA.out.dig HWB.out.dig HX.out hy (by rw [hm]; exact hz2))
          rw [HP.out, hq, hm] at HST
          have hc := hin.cell hz2
          have hf := hin.frozen m
          have hpq : p * q ≤ 9 * 9 := Nat.mul_le_mul hp9 hq9
          obtain ⟨u, hu⟩ : ∃ u, p * q = u := ⟨_, rfl⟩
          have e1 : (p : Int) * (q : Int) = (u : Int) := by rw [← hu, Int.natCast_mul]
          have e1w : IntKind.i64.wrap ((p : Int) * (q : Int)) = (u : Int) := by rw [e1]; exact IntWalk.i64_in _ (by omega)
          obtain ⟨v, hv⟩ : ∃ v, z + u = v := ⟨_, rfl⟩
          rw [hu, hv] at HST
          have e2 : (z : Int) + (u : Int) = (v : Int) := by omega
          have e2w : IntKind.i64.wrap ((z : Int) + (u : Int)) = (v : Int) := by rw [e2]; exact IntWalk.i64_in _ (by omega)
          have HS := Lib.hid (hin.set m v)
          have HBS := Lib.hid (hbl.setCell (p := ⟨w.heap.size, m, none⟩) (Nat.le_refl _) (.int .i64 (v : Int)))
          have e3 : IntKind.i64.wrap ((i : Int) + j) = (i : Int) + j := IntWalk.i64_in _ (by omega)
          have e4 : IntKind.i64.wrap ((i : Int) + j + 1) = (m : Int) := by rw [IntWalk.i64_in _ (by omega)]; omega
          have e4b : (i : Int) + j + 1 = (m : Int) := by omega
          have e5 : IntKind.i64.wrap ((j : Int) + 1) = (j : Int) + 1 := IntWalk.i64_in _ (by omega)
          have hmi : (m : Int) < n := by omega
          have em : IntKind.i64.wrap (m : Int) = (m : Int) := IntWalk.i64_in _ (by omega)
          have ezv : IntKind.i64.wrap (v : Int) = (v : Int) := IntWalk.i64_in _ (by omega)
          have euv : IntKind.i64.wrap (u : Int) = (u : Int) := IntWalk.i64_in _ (by omega)
          have hm0 : 0 ≤ (m : Int) := by omega
          have HJK := Lib.hid (show j + gk = B.size ∧ 0 < gk by omega)
          have ep : IntKind.i64.wrap (p : Int) = (p : Int) := IntWalk.i64_in _ (by omega)
          have eq : IntKind.i64.wrap (q : Int) = (q : Int) := IntWalk.i64_in _ (by omega)
          clear hpr hin hbl hy hyd hq hz2 hm hu hv hpq hjk hz
          go_wp2
          go_still_tail 20, (by kernel_rfl)
          change wpList _ _ _ _ _ wr.drew
          go_wp2
          go_roundg (gk - 1)
          case rel => exact ⟨j + 1, _, by simp, by have := HJK.out; omega, HST.out, HS.out, HBS.out.drew⟩
          case measure => have := HJK.out; omega
end Go.Proofs.YtfebiipggcgmdaaGreatDoor
