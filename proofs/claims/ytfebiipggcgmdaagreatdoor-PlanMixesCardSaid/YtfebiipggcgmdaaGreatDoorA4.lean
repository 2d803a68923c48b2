import Derived.Test.YtfebiipggcgmdaaGreatDoorA3
import Derived.Laws.CopyOwn
namespace Go.Proofs.YtfebiipggcgmdaaGreatDoor
open Go.RowKit

/-! ## the long division: what the loops hold -/
/-- the rest, and the quotient's words, when the words from k on have been gone through -/
def dR (X Y k : Nat) : Nat := X / BB ^ k % Y
def dQ (X Y k : Nat) : Nat := X / BB ^ k / Y * BB ^ k
/-- the number that is divided next -/
def dS (X Y k : Nat) : Nat := dR X Y (k + 1) * BB + wd X k

theorem dS_lt {X Y k : Nat} (hY : 0 < Y) : dS X Y k < Y * BB := by
  unfold dS dR
  have h1 := Nat.mod_lt (X / BB ^ (k + 1)) hY
  have h2 := wd_lt X k
  have h3 : (X / BB ^ (k + 1) % Y + 1) * BB ≤ Y * BB := Nat.mul_le_mul_right _ h1
  rw [Nat.add_mul] at h3
  omega
theorem dS_eq (X Y k : Nat) : X / BB ^ k = X / BB ^ (k + 1) / Y * BB * Y + dS X Y k := by
  unfold dS dR
  rw [div_word X k]
  have h := Nat.div_add_mod (X / BB ^ (k + 1)) Y
  generalize X / BB ^ (k + 1) = a at *
  have e : a * BB = a / Y * BB * Y + a % Y * BB := by
    conv => lhs; rw [← h]
    rw [Nat.add_mul]; congr 1; ac_rfl
  omega
theorem dR_step {X Y k : Nat} : dS X Y k % Y = dR X Y k := by
  unfold dR
  rw [dS_eq X Y k, Nat.mul_add_mod_self_right]
theorem dQ_step {X Y k : Nat} (hY : 0 < Y) : dQ X Y k = setw (dQ X Y (k + 1)) k (dS X Y k / Y) := by
  have hd : dS X Y k / Y < BB := (Nat.div_lt_iff_lt_mul hY).2 (by rw [Nat.mul_comm]; exact dS_lt hY)
  have h1 : X / BB ^ k / Y = X / BB ^ (k + 1) / Y * BB + dS X Y k / Y := by
    rw [dS_eq X Y k, Nat.add_comm, Nat.add_mul_div_right _ _ hY, Nat.add_comm]
  have h2 : dQ X Y (k + 1) % BB ^ k = 0 := by
    unfold dQ; rw [Nat.pow_succ, Nat.mul_comm (BB ^ k), ← Nat.mul_assoc]; exact Nat.mul_mod_left _ _
  have h3 : dQ X Y (k + 1) / BB ^ (k + 1) = X / BB ^ (k + 1) / Y := by unfold dQ; exact Nat.mul_div_cancel _ (BBp _)
  unfold setw
  rw [h2, h3, Nat.zero_add]
  unfold dQ
  rw [h1, Nat.add_mul, Nat.pow_succ, Nat.add_comm]
  congr 1; ac_rfl
theorem dR_le (X Y k : Nat) : dR X Y k ≤ X / BB ^ k := Nat.mod_le _ _
theorem dR_nw {X Y k n : Nat} (h : X < BB ^ n) : nw (dR X Y k) ≤ n - k := by
  refine nw_le (Nat.lt_of_le_of_lt (dR_le X Y k) ?_)
  rcases Nat.lt_or_ge k n with hk | hk
  · refine (Nat.div_lt_iff_lt_mul (BBp _)).2 ?_
    rw [← Nat.pow_add, Nat.sub_add_cancel (by omega)]; exact h
  · rw [Nat.div_eq_of_lt (Nat.lt_of_lt_of_le h (Nat.pow_le_pow_right BB_pos hk))]; exact BBp _
theorem dS_le (X Y k : Nat) : dS X Y k ≤ X := by
  have h := dS_eq X Y k
  have h2 := Nat.div_le_self X (BB ^ k)
  omega
theorem wd_shift (R a i : Nat) (ha : a < BB) : wd (R * BB + a) i = if i = 0 then a else wd R (i - 1) := by
  cases i with
  | zero => unfold wd; simp [Nat.mod_eq_of_lt ha]
  | succ i =>
    rw [if_neg (by omega), Nat.add_sub_cancel]
    unfold wd
    rw [Nat.pow_succ', ← Nat.div_div_eq_div_mul, Nat.add_comm, Nat.add_mul_div_right _ _ BB_pos, Nat.div_eq_of_lt ha, Nat.zero_add]

/-- the words as a list of values -/
def wList (V n : Nat) : List Value := (List.range n).map fun i => .int .i64 (wd V i)
theorem wList_length (V n : Nat) : (wList V n).length = n := by simp [wList]
theorem wList_at (V n i : Nat) (h : i < n) : (wList V n)[i]? = some (.int .i64 (wd V i)) := by unfold wList; rw [List.getElem?_map, List.getElem?_range h]; rfl

theorem splice_at {α : Type} (L cs : List α) (off j : Nat) (h : off ≤ L.length) : (splice L off cs)[j]? = if j < off then L[j]? else if j < off + cs.length then cs[j - off]? else L[j]? := by
  unfold splice
  have e : (L.take off).length = off := by simp [h]
  by_cases h1 : j < off
  · rw [if_pos h1, List.getElem?_append_left (by omega), List.getElem?_take_of_lt h1]
  · rw [if_neg h1, List.getElem?_append_right (by omega), e]
    by_cases h2 : j < off + cs.length
    · rw [if_pos h2, List.getElem?_append_left (by omega)]
    · rw [if_neg h2, List.getElem?_append_right (by omega), List.getElem?_drop]
      congr 1; omega

/-- Behind the copy: all words are one place higher; the first one is still to be written. -/
theorem shifted {w' : World} {b R a : Nat} {l : Bool} (hn : nw R ≤ 231) (ha : a < BB)
    (h : w'.heap[b]? = some (.cells (splice (wArr l (nw R) R).toList 3 (wList R (nw R))).toArray 167 (0, 0))) :
    IsW (w'.setCell ⟨b, 2, none⟩ (.int .i64 a)) b l (nw R) (R * BB + a) ∧ w'.cell? ⟨b, 2, none⟩ = some (.int .i64 (wd R 0)) ∧ w'.frozen? ⟨b, 2, none⟩ = false := by
  have hz := wArr_size l (nw R) R
  have hs : (splice (wArr l (nw R) R).toList 3 (wList R (nw R))).length = 234 := by
    unfold splice; simp [wList_length, hz]; omega
  have hl3 : 3 ≤ (wArr l (nw R) R).toList.length := by simp [hz]
  have hlo : ∀ j, j < 3 → (splice (wArr l (nw R) R).toList 3 (wList R (nw R)))[j]? = (wArr l (nw R) R)[j]? := by
    intro j hj
    rw [splice_at _ _ _ _ hl3, if_pos hj, Array.getElem?_toList]
  have hmid : ∀ j, j < nw R → (splice (wArr l (nw R) R).toList 3 (wList R (nw R)))[3 + j]? = some (.int .i64 (wd R j)) := by
    intro j hj
    rw [splice_at _ _ _ _ hl3, if_neg (by omega), if_pos (by rw [wList_length]; omega), show 3 + j - 3 = j by omega]
    exact wList_at _ _ _ hj
  have hhi : ∀ j, nw R ≤ j → j < 231 → (splice (wArr l (nw R) R).toList 3 (wList R (nw R)))[3 + j]? = some (.int .i64 0) := by
    intro j hj hj2
    rw [splice_at _ _ _ _ hl3, if_neg (by omega), if_neg (by rw [wList_length]; omega), Array.getElem?_toList, show 3 + j = 2 + (j + 1) by omega, wArr_at _ _ _ _ (by omega), wd_high (lt_nw R) (by omega)]; rfl
  refine ⟨⟨⟨_, heap_setCell_at h _, by simp [hs], ?_, ?_, fun i hi => ?_⟩, ?_, by omega⟩, ?_, ?_⟩
  · rw [Array.getElem?_setIfInBounds_ne (by omega), List.getElem?_toArray, hlo 0 (by omega)]; rfl
  · rw [Array.getElem?_setIfInBounds_ne (by omega), List.getElem?_toArray, hlo 1 (by omega)]; rfl
  · rw [wd_shift _ _ _ ha]
    by_cases h0 : i = 0
    · subst h0
      rw [if_pos rfl, Array.getElem?_setIfInBounds_self_of_lt (by simp [hs])]
    · rw [if_neg h0, Array.getElem?_setIfInBounds_ne (by omega), List.getElem?_toArray, show 2 + i = 3 + (i - 1) by omega]
      by_cases h1 : i - 1 < nw R
      · exact hmid _ h1
      · rw [hhi _ (by omega) (by omega), wd_high (lt_nw R) (by omega)]; rfl
  · have h1 := lt_nw R
    have h2 : (R + 1) * BB ≤ BB ^ (nw R) * BB := Nat.mul_le_mul_right _ h1
    have h3 := Nat.pow_le_pow_right BB_pos (show nw R + 1 ≤ 232 by omega)
    rw [Nat.pow_succ] at h3
    rw [Nat.add_mul] at h2; omega
  · simp only [World.cell?, h]
    rw [List.getElem?_toArray, hlo 2 (by omega)]
    exact wArr_at l (nw R) R 0 (by omega)
  · simp [World.frozen?, h]
end Go.Proofs.YtfebiipggcgmdaaGreatDoor

namespace Go.Proofs.YtfebiipggcgmdaaGreatDoor
open Go.RowKit

/-- What 'divided' returns: pointers to the quotient and the rest. -/
def DivEnd (X Y : Nat) (w : World) (e : Ending) (w' : World) : Prop :=
  ∃ q r, e = .returned (.tuple #[.pointer (some ⟨q, 0, none⟩), .pointer (some ⟨r, 0, none⟩)]) ∧ w.heap.size ≤ q ∧ w.heap.size ≤ r ∧ q ≠ r ∧
    IsW w' q false (nw (X / Y)) (X / Y) ∧ IsW w' r false (nw (X % Y)) (X % Y) ∧ Below w.heap.size w w'

theorem slice_words (b o n : Nat) (hn : n ≤ 232) (w : World) :
    (Instr.sliceAt 165 (.pointer (some ⟨b, o, none⟩)) none (some (.int .i64 n)) none).run Tryz.prog w = .ok (.slice (some ⟨b, o, none⟩) n 232) w := by
  have hi : (Tryz.prog.info? 3).isSome = true := by kernel_rfl
  obtain ⟨i, hi⟩ := Option.isSome_iff_exists.1 hi
  simp [Instr.sliceAt, Instr.sliceBounds, Instr.sliceBound, Instr.sureAddr, run_underlying Tryz.underlying165, asIntOf, sizeOf, typeInfo, hi, hn, Addr.add]

theorem still_slice_hi {P : Program} {ops : Array Oper} {w : World} {Q : Act → Prop} {a : Act} {o : Oper} {rest : List Oper} (t : TypeId) (x y : Operand) (A : Addr) (n : Int) (v : Value)
    (hg : o.guard = none) (ho : o.op = .slice t x none (some y) none) (hx : a.eval x = .pointer (some A)) (hy : a.eval y = .int .i64 n)
    (hrun : ∀ w, (Instr.sliceAt t (.pointer (some A)) none (some (.int .i64 n)) none).run P w = .ok v w) (h : wpStill P ops w Q rest (a.put o.dst v)) : wpStill P ops w Q (o :: rest) a := by
  refine wpStill_step fun K hK => ?_
  have hw : Region.wanted o (yielded ops a.tmps) = true := by simp [Region.wanted, hg]
  rw [if_pos hw]
  unfold Oper.still execOp
  simp only [ho, hx, hy, Option.map_none, Option.map_some, Sem.run_bind, Sem.run_pure, hrun, Result.andThen_ok, Oper.stillUpon, true_and]
  exact hK _ h

theorem int_size : (Tryz.prog.info? 3).map (·.size) = some 1 := by kernel_rfl

/-- Between two rounds. -/
structure DivRel (w wr : World) (X Y k : Nat) : Prop where
  q : ∃ nq, dQ X Y k < BB ^ nq ∧ IsW wr w.heap.size false nq (dQ X Y k)
  r : IsW wr (w.heap.size + 1) false (nw (dR X Y k)) (dR X Y k)
  b : Below w.heap.size w wr

theorem splice_low {w : World} {b R : Nat} (h : w.heap[b]? = some (.cells (splice (wArr false (nw R) R).toList 3 (wList R (nw R))).toArray 167 (0, 0))) :
    w.cell? ⟨b, 1, none⟩ = some (.int .i64 (nw R)) ∧ w.frozen? ⟨b, 1, none⟩ = false := by
  constructor
  · have h1 : (splice (wArr false (nw R) R).toList 3 (wList R (nw R)))[1]? = (wArr false (nw R) R)[1]? := by
      rw [splice_at _ _ _ _ (by simp [wArr_size]), if_pos (by omega), Array.getElem?_toList]
    simp only [World.cell?, h]
    rw [List.getElem?_toArray, h1]; rfl
  · simp [World.frozen?, h]

/-- The end of a round. -/
theorem div_close {w w' : World} {X Y k nq m dd R2 : Nat} (hY : 0 < Y) (hX : nw X ≤ 232) (hk : k < nw X) (hq : IsW w' w.heap.size false nq (dQ X Y (k + 1))) (hq1 : dQ X Y (k + 1) < BB ^ nq)
    (hr : IsW w' (w.heap.size + 1) false (nw R2) R2) (hS : dS X Y k = dd * Y + R2) (hlt : R2 < Y) (hb : Below w.heap.size w w') (hm1 : nq ≤ m) (hm2 : k + 1 ≤ m) (hm : m ≤ 232) :
    DivRel w ((w'.setCell ⟨w.heap.size, 2 + k, none⟩ (.int .i64 dd)).setCell ⟨w.heap.size, 1, none⟩ (.int .i64 m)) X Y k := by
  have hdd : dS X Y k / Y = dd := by rw [hS, Nat.add_comm, Nat.add_mul_div_right _ _ hY, Nat.div_eq_of_lt hlt, Nat.zero_add]
  have hR2 : dR X Y k = R2 := by rw [← dR_step, hS, Nat.mul_add_mod_self_right, Nat.mod_eq_of_lt hlt]
  have hdb : dd < BB := by rw [← hdd]; exact (Nat.div_lt_iff_lt_mul hY).2 (by rw [Nat.mul_comm]; exact dS_lt hY)
  refine ⟨⟨m, ?_, ?_⟩, ?_, (hb.setCell (p := ⟨w.heap.size, 2 + k, none⟩) (Nat.le_refl _) _).setCell (p := ⟨w.heap.size, 1, none⟩) (Nat.le_refl _) _⟩
  · rw [dQ_step hY, hdd]
    exact setw_lt hdb (Nat.lt_of_lt_of_le hq1 (Nat.pow_le_pow_right BB_pos hm1)) (by omega)
  · rw [dQ_step hY, hdd]
    exact (hq.setw (by omega) hdb).setn hm
  · rw [hR2]
    exact (hr.other (a := ⟨w.heap.size, 2 + k, none⟩) (by simp) _).other (a := ⟨w.heap.size, 1, none⟩) (by simp) _

set_option maxRecDepth 100000 in
set_option maxHeartbeats 6400000 in
theorem divided_any (bx X by' Y : Nat) (lx ly : Bool) (w : World) (hx : IsW w bx lx (nw X) X) (hy : IsW w by' ly (nw Y) Y) (hY : 0 < Y) :
    Calls Tryz.prog 154 #[.pointer (some ⟨bx, 0, none⟩), .pointer (some ⟨by', 0, none⟩)] w (DivEnd X Y w) := by
  have xn : ∀ o o', ((w.alloc o).alloc o').cell? ⟨bx, 1, none⟩ = some (.int .i64 (nw X)) := fun o o' => ((hx.alloc o).alloc o').num
  have hxl := hx.lt_size
  have hyl := hy.lt_size
  have hx2 := hx.le
  have HX := Lib.hid hx
  have HY := Lib.hid hy
  clear hx hy
  go_enter Tryz.func154, Tryz.ntmps154
  go_wp2
  have h0 : DivRel w ((w.alloc (.cells Tryz.zeroCells167 167)).alloc (.cells Tryz.zeroCells167 167)) X Y (nw X) := by
    have e1 : dQ X Y (nw X) = 0 := by unfold dQ; rw [Nat.div_eq_of_lt (lt_nw X)]; simp
    have e2 : dR X Y (nw X) = 0 := by unfold dR; rw [Nat.div_eq_of_lt (lt_nw X)]; simp
    refine ⟨⟨0, by rw [e1]; exact BBp _, ?_⟩, ?_, ((Below.refl _ _).alloc (Nat.le_refl _) _).alloc (by simp) _⟩
    · rw [e1]; exact (isW_new0 w).alloc _
    · rw [e2, nw_zero]; have := isW_new0 (w.alloc (.cells Tryz.zeroCells167 167)); simpa using this
  have H0 := Lib.hid h0
  clear h0 xn
  go_loopg [8, 9, 10] (nw X) (fun k i d u wr => ∃ q : Int, i = .int .i64 q ∧ q = (k : Int) - 1 ∧ k ≤ nw X ∧ DivRel w wr X Y k)
  case atStart => exact ⟨_, rfl, rfl, Nat.le_refl _, H0.out⟩
  case round =>
    obtain ⟨q, rfl, hq, hk, hD⟩ := hrel
    obtain ⟨⟨nq, hq1, hq2⟩, hr, hb⟩ := hD
    by_cases hz : gk = 0
    · obtain rfl : q = -1 := by omega
      subst hz
      clear hq
      go_wp2_with fail
      refine (trimmed_any _ nq _ _ _ hq2 hq1).mono ?_
      rintro e w1 ⟨rfl, hw1, hg1⟩
      have HW1 := Lib.hid hw1
      have HG1 := Lib.hid hg1
      have hr1 := Lib.hid (hr.gb hg1 (by simp))
      clear hw1 hg1
      go_wp2
      go_ret2
      have e1 : dQ X Y 0 = X / Y := by unfold dQ; simp
      have e2 : dR X Y 0 = X % Y := by unfold dR; simp
      refine ⟨_, _, rfl, Nat.le_refl _, by omega, by omega, ?_, ?_, below_gb hb HG1.out (Nat.le_refl _) hb.size⟩
      · rw [← e1]; exact HW1.out
      · rw [← e2]; exact hr1.out
    · obtain ⟨k, rfl⟩ : ∃ k, gk = k + 1 := ⟨gk - 1, by omega⟩
      obtain rfl : q = (k : Int) := by omega
      clear hq hz
      have hS := dS_le X Y k
      have hRn := dR_nw (X := X) (Y := Y) (k := k + 1) (lt_nw X)
      have hXw := HX.out.below hb hxl
      have hYw := HY.out.below hb hyl
      have rn := hr.num
      have rl := hr.le
      generalize hR : dR X Y (k + 1) = R at *
      generalize hn : nw R = n at *
      generalize hN : nw X = nx at *
      have HR := Lib.hid hR
      have HN := Lib.hid hn
      have HNX := Lib.hid hN
      have Hr := Lib.hid hr
      have Hq2 := Lib.hid hq2
      have Hxw := Lib.hid hXw
      have Hyw := Lib.hid hYw
      have HS := Lib.hid hS
      clear hR hn hN hr hq2 hXw hYw hS
      have hsl := slice_words (w.heap.size + 1) 2 n (by omega)
      have HSL := Lib.hid hsl
      clear hsl
      go_wp2_with fail
      refine wp_region_still_tail 12 (by kernel_rfl) (by kernel_rfl) ?_
      simp only [List.take_succ_cons, List.take_zero, List.drop_succ_cons, List.drop_zero]
      iterate 11 still_step
      refine still_slice_hi 165 _ _ ⟨w.heap.size + 1, 2, none⟩ n _ rfl rfl rfl rfl HSL.out ?_
      refine wpStill_nil ?_
      change wpList _ _ _ _ _ wr.drew
      refine wpList_copy_splice rfl _ _ _ _ rfl 3 Tryz.underlying124 int_size _ _ _ _ _ _ rfl rfl (w.heap.size + 1) 3 (wArr false n R).toList 167 ?hg (wList R n) ?hn ?hpos ?hfit ?h1 (w.heap.size + 1) wr (Below.refl _ _).drew (Nat.le_refl _) ?_
      case hg => rw [Array.toArray_toList]; exact Hr.out.arr
      case hn => rw [wList_length]; exact (Nat.min_eq_left (by omega)).symm
      case hpos =>
        intro _
        refine ⟨rfl, _, rfl, fun j v hj => ?_⟩
        have hjn : j < n := by
          have := (List.getElem?_eq_some_iff.1 hj).1
          rwa [wList_length] at this
        rw [wList_at _ _ _ hjn] at hj
        injection hj with hj
        subst hj
        have := Hr.out.word j (by omega)
        rw [← this]
        unfold Addr.add
        split
        · rename_i h0; subst h0; rfl
        · rfl
      case hfit => rw [wList_length]; simp [wArr_size]; omega
      case h1 =>
        intro v hv
        unfold wList at hv
        simp only [List.mem_map] at hv
        obtain ⟨_, _, rfl⟩ := hv
        rfl
      clear HSL
      intro w2 hsp hb2
      obtain rfl : nw R = n := HN.out
      have ha := wd_lt X k
      have sh := shifted (l := false) (R := R) (b := w.heap.size + 1) (by omega) ha hsp.out
      obtain ⟨sh1, sh2, sh3⟩ := sh
      obtain ⟨c1, f1⟩ := splice_low hsp.out
      have hS2 : dS X Y k = R * BB + wd X k := by unfold dS; rw [HR.out]
      have hSlt : R * BB + wd X k < BB ^ (nw R + 1) := by
        have h1 := lt_nw R
        have h2 : (R + 1) * BB ≤ BB ^ (nw R) * BB := Nat.mul_le_mul_right _ h1
        rw [Nat.pow_succ]; rw [Nat.add_mul] at h2; omega
      have xk : w2.cell? ⟨bx, 2 + k, none⟩ = some (.int .i64 (wd X k)) := (Hxw.out.below hb2 (by omega)).word k (by omega)
      have Hq3 := Lib.hid (Hq2.out.below hb2 (by omega))
      have Hy3 := Lib.hid (Hyw.out.below hb2 (by omega))
      have HB := Lib.hid (hb.trans (hb2.mono (by omega)))
      have HSL := Lib.hid hSlt
      have HS2 := Lib.hid hS2
      have SH1 := Lib.hid sh1
      clear sh1 hSlt hS2 hsp hb2 hb Hq2 Hxw Hyw
      generalize wd X k = a at *
      have rb : nw R ≤ 231 := by omega
      have k2 : (k : Int) < 232 := by omega
      have k3 : k < 232 := by omega
      go_wp2_with fail
      go_still_tail 10, (by kernel_rfl)
      change wpList _ _ _ _ _ w2.drew
      go_wp2_with fail
      refine (trimmed_any (w.heap.size + 1) (nw R + 1) (R * BB + a) false _ ((SH1.out.setn (m := nw R + 1) (by omega)).drewN 1) HSL.out).mono ?_
      rintro e w4 ⟨rfl, hw4, hg4⟩
      have hq4 := Lib.hid (((((Hq3.out.other (a := ⟨w.heap.size + 1, 2, none⟩) (by simp) (.int .i64 a)).other (a := ⟨w.heap.size + 1, 1, none⟩) (by simp) (.int .i64 ((nw R + 1 : Nat) : Int))).drewN 1).gb hg4 (by simp)))
      have hy4 := Lib.hid (((((Hy3.out.other (a := ⟨w.heap.size + 1, 2, none⟩) (by simp; omega) (.int .i64 a)).other (a := ⟨w.heap.size + 1, 1, none⟩) (by simp; omega) (.int .i64 ((nw R + 1 : Nat) : Int))).drewN 1).gb hg4 (by simp; omega)))
      have hb4 := Lib.hid (below_gb (((HB.out.setCell (p := ⟨w.heap.size + 1, 2, none⟩) (by simp) (.int .i64 a)).setCell (p := ⟨w.heap.size + 1, 1, none⟩) (by simp) (.int .i64 ((nw R + 1 : Nat) : Int))).drew) hg4 (by omega) (by have := HB.out.size; simp [World.setCell]; omega))
      rw [← HS2.out] at hw4
      have HW4 := Lib.hid hw4
      have hSY := Lib.hid (dS_lt (X := X) (k := k) hY)
      clear hw4 hg4 SH1 HSL Hq3 Hy3 HB c1 f1 sh2 sh3 xk
      generalize hSS : dS X Y k = S at *
      have HSS := Lib.hid hSS
      clear hSS
      go_wp2_with fail
      go_loopg [9, 10] S (fun m d u wz => ∃ (R2 dd : Nat), d = .int .i64 dd ∧ R2 ≤ m ∧ S = dd * Y + R2 ∧ IsW wz (w.heap.size + 1) false (nw R2) R2 ∧ w4.grownBy wz (some (w.heap.size + 1)))
      case atStart => exact ⟨S, 0, rfl, Nat.le_refl _, by omega, HW4.out, gb_refl _ _⟩
      case round =>
        obtain ⟨R2, dd, rfl, hm, hS3, hw5, hg5⟩ := hrel
        have hy5 := hy4.out.gb hg5 (by simp; omega)
        have hdd : dd * Y ≤ S := by omega
        have HS3 := Lib.hid hS3
        clear hS3
        go_wp2_with fail
        refine (beyond_any (w.heap.size + 1) R2 by' Y false ly _ hw5 hy5).mono ?_
        rintro e w5 ⟨d, rfl, hc, _, _, md, rfl⟩
        have HC := Lib.hid hc
        clear hc
        by_cases hd : 0 ≤ d
        · have hYR : Y ≤ R2 := Nat.le_of_not_lt fun h => by have := HC.out.1.2 h; omega
          have hR2 : R2 < BB ^ (nw Y + 1) := by
            have h1 := hSY.out
            have h2 := HS3.out
            have h3 : Y * BB ≤ BB ^ (nw Y) * BB := Nat.mul_le_mul_right _ (Nat.le_of_lt (lt_nw Y))
            rw [Nat.pow_succ]
            omega
          have HYR := Lib.hid hYR
          have HR2 := Lib.hid hR2
          clear hYR hR2 HC
          go_wp2_with fail
          refine (estimate_any (w.heap.size + 1) R2 by' Y false ly _ (hw5.drewN _) (hy5.drewN _) (by omega) HR2.out HYR.out).mono ?_
          rintro e w6 ⟨kq, rfl, hk1, hk2, hk3, me, rfl⟩
          obtain ⟨kk, rfl⟩ := Int.eq_ofNat_of_zero_le (show 0 ≤ kq by omega)
          have hk4 : kk * Y ≤ R2 := by have := hk3; rw [← Int.natCast_mul] at this; omega
          have hk5 : dd + kk < BB := by
            have h1 := hSY.out
            have h2 := HS3.out
            have h3 : (dd + kk) * Y < BB * Y := by rw [Nat.add_mul, Nat.mul_comm BB]; omega
            exact Nat.lt_of_mul_lt_mul_right h3
          have hk6 : (kk : Int) * Y = ((kk * Y : Nat) : Int) := by rw [Int.natCast_mul]
          unfold BB at hk5
          have HK3 := Lib.hid hk3
          have HK4 := Lib.hid hk4
          have HK6 := Lib.hid hk6
          clear hk3 hk4 hk6 hdd
          go_wp2_with fail
          have hR3 := hw5.lt
          refine (carry_any (w.heap.size + 1) R2 by' Y 0 (-kk) false ly _ (hw5.drewN _) (hy5.drewN _) (by omega) (by omega) (by omega) (by have := hy5.le; omega)
            (by have h1 := HK4.out; have h2 := HK6.out; simp only [Int.pow_zero, Int.mul_one, Int.neg_mul, h2]; omega)
            (by have h1 := HK4.out; have h2 := HK6.out; simp only [Int.pow_zero, Int.mul_one, Int.neg_mul, h2, ← Int.natCast_pow]; omega)).mono ?_
          rintro e w7 ⟨rfl, Z, hZ, hw7, hg7⟩
          have hZ2 : Z + kk * Y = R2 := by
            have h1 := HK4.out; have h2 := HK6.out; simp only [Int.pow_zero, Int.mul_one, Int.neg_mul, h2] at hZ; omega
          have HZ2 := Lib.hid hZ2
          have HW7 := Lib.hid hw7
          have HG7 := Lib.hid (gb_trans (gb_drewN hg5 _) hg7)
          clear hZ hZ2 hw7 hg7 hR3
          go_wp2
          have hlt : Z < R2 := by
            have h1 := HZ2.out
            have : 1 * 1 ≤ kk * Y := Nat.mul_le_mul (by omega) hY
            omega
          go_roundg Z
          case rel =>
            refine ⟨Z, dd + kk, by go_num, Nat.le_refl _, ?_, HW7.out, HG7.out⟩
            have h1 := HZ2.out
            have h2 := HS3.out
            rw [Nat.add_mul]; omega
          case measure => omega
        · have hlt : R2 < Y := HC.out.1.1 (by omega)
          have HLT := Lib.hid hlt
          have hq5 := hq4.out.gb hg5 (by simp)
          have q1 := hq5.word k (by omega)
          have q2 := hq5.free (2 + k)
          have q3 := hq5.num
          have q4 := hq5.free 1
          have q5 := hq5.le
          have HW5 := Lib.hid (hw5.drewN md)
          have HQ5 := Lib.hid (hq5.drewN md)
          have HB5 := Lib.hid ((below_gb hb4.out hg5 (by omega) hb4.out.size).trans ((Dr.of _ md).below _))
          have hdb : dd < BB := by
            have h1 := hSY.out
            have h2 := HS3.out
            have h3 : dd * Y < BB * Y := by rw [Nat.mul_comm BB]; omega
            exact Nat.lt_of_mul_lt_mul_right h3
          unfold BB at hdb
          clear hlt hw5 hq5 HC
          go_wp2
          · go_roundg k
            case rel => exact ⟨_, rfl, rfl, by omega, div_close (m := k + 1) hY (by rw [HNX.out]; omega) (by rw [HNX.out]; omega) HQ5.out hq1 HW5.out (by rw [HSS.out]; exact HS3.out) HLT.out HB5.out (by omega) (by omega) (by omega)⟩
            case measure => omega
          · go_roundg k
            case rel => exact ⟨_, rfl, rfl, by omega, div_close (m := nq) hY (by rw [HNX.out]; omega) (by rw [HNX.out]; omega) HQ5.out hq1 HW5.out (by rw [HSS.out]; exact HS3.out) HLT.out HB5.out (by omega) (by omega) (by omega)⟩
            case measure => omega
end Go.Proofs.YtfebiipggcgmdaaGreatDoor
