import Derived.Test.YtfebiipggcgmdaaGreatDoorRD
namespace Go.Proofs.YtfebiipggcgmdaaGreatDoor
open Go.RowKit

/-! ## The reference's sums and differences on paper -/
/-- a column: its digit and what is carried -/
def cdg (add : Bool) (x y c : Nat) : Nat := if add then (x + y + c) % 10 else (x + 10 - y - c) % 10
def ccr (add : Bool) (x y c : Nat) : Nat := if add then (x + y + c) / 10 else 1 - (x + 10 - y - c) / 10
theorem cdg_lt (add : Bool) (x y c : Nat) : cdg add x y c < 10 := by unfold cdg; split <;> exact Nat.mod_lt _ (by omega)
theorem ccr_le {add : Bool} {x y c : Nat} (hx : x ≤ 9) (hy : y ≤ 9) (hc : c ≤ 1) : ccr add x y c ≤ 1 := by unfold ccr; split <;> omega
theorem column_any (add : Bool) (a b : UInt8) (c : Nat) (w : World) (ha : 48 ≤ a.toNat ∧ a.toNat ≤ 57) (hb : 48 ≤ b.toNat ∧ b.toNat ≤ 57) (hc : c ≤ 1) :
    Calls Tryz.prog 148 #[.int .u8 a.toNat, .int .u8 b.toNat, .int .i64 c, .bool add] w fun e w' =>
      e = .returned (.tuple #[.int .u8 ((48 + cdg add (a.toNat - 48) (b.toNat - 48) c : Nat) : Int), .int .i64 ((ccr add (a.toNat - 48) (b.toNat - 48) c : Nat) : Int)]) ∧ w' = w := by
  cases add
  · exact column_sub a b c w ha hb hc
  · exact column_add a b c w ha hb hc

/-- what holds when the columns behind some digits are done -/
def Pap (add : Bool) (x y : Nat) (d c p : Nat) : Prop := if add then x + y = d + c * p else x + c * p = d + y
theorem pap_step {add : Bool} {x y d c p a b : Nat} (h : Pap add x y d c p) (ha : a ≤ 9) (hb : b ≤ 9) (hc : c ≤ 1) :
    Pap add (a * p + x) (b * p + y) (cdg add a b c * p + d) (ccr add a b c) (p * 10) := by
  unfold Pap cdg ccr at *
  cases add
  · simp only [Bool.false_eq_true, if_false] at *
    have e : a * p + (1 - (a + 10 - b - c) / 10) * (p * 10) = (a + 10 - b - c) % 10 * p + b * p + c * p := by
      have e1 : (1 - (a + 10 - b - c) / 10) * (p * 10) = ((1 - (a + 10 - b - c) / 10) * 10) * p := by rw [Nat.mul_comm p, Nat.mul_assoc]
      rw [e1, ← Nat.add_mul, ← Nat.add_mul, ← Nat.add_mul]
      congr 1
      omega
    omega
  · simp only [if_true] at *
    have e : (a + b + c) % 10 * p + (a + b + c) / 10 * (p * 10) = a * p + b * p + c * p := by
      have e1 : (a + b + c) / 10 * (p * 10) = ((a + b + c) / 10 * 10) * p := by rw [Nat.mul_comm p, Nat.mul_assoc]
      rw [e1, ← Nat.add_mul, ← Nat.add_mul, ← Nat.add_mul]
      congr 1
      omega
    omega
def pv (add : Bool) (x y : Nat) : Nat := if add then x + y else x - y
theorem pap_end {add : Bool} {x y d c p : Nat} (h : Pap add x y d c p) (hd : d < p) (hxy : x + y < p) (hle : add = false → y ≤ x) : d = pv add x y := by
  unfold Pap pv at *
  cases add
  · simp only [Bool.false_eq_true, if_false] at *
    have := hle trivial
    rcases Nat.eq_zero_or_pos c with rfl | hc
    · omega
    · have : 1 * p ≤ c * p := Nat.mul_le_mul_right _ hc
      omega
  · simp only [if_true] at *
    rcases Nat.eq_zero_or_pos c with rfl | hc
    · omega
    · have : 1 * p ≤ c * p := Nat.mul_le_mul_right _ hc
      omega

theorem set_back (k : Nat) (x : UInt8) (D : List UInt8) : (List.replicate (k + 1) 0 ++ D).set k x = List.replicate k 0 ++ (x :: D) := by
  rw [List.replicate_succ', List.append_assoc, List.set_append_right _ _ (by simp), List.length_replicate, Nat.sub_self]
  rfl
theorem drop_at {l : List UInt8} {k : Nat} {b : UInt8} (h : l[k]? = some b) : l.drop k = b :: l.drop (k + 1) := by
  obtain ⟨hk, hb⟩ := List.getElem?_eq_some_iff.1 h
  rw [List.drop_eq_getElem_cons hk, hb]
theorem dig_digit {d : Nat} (h : d < 10) : 48 ≤ (UInt8.ofNat (48 + d)).toNat ∧ (UInt8.ofNat (48 + d)).toNat ≤ 57 := by rw [toNat_digit _ h]; omega
/-- zeros in front -/
def wz (n : Nat) (l : List UInt8) : List UInt8 := List.replicate (n - l.length) 48 ++ l
theorem wz_len {n : Nat} {l : List UInt8} (h : l.length ≤ n) : (wz n l).length = n := by unfold wz; simp; omega
theorem wz_dig {n : Nat} {l : List UInt8} (h : Dig l) : Dig (wz n l) := fun b hb => by
  unfold wz at hb
  rcases List.mem_append.1 hb with hb | hb
  · rw [List.eq_of_mem_replicate hb]; decide
  · exact h b hb
theorem dv_zs (k : Nat) : dv (List.replicate k 48) = 0 := by
  induction k with
  | zero => rfl
  | succ k ih => rw [List.replicate_succ, dv_cons, ih]; simp
theorem wz_dv (n : Nat) (l : List UInt8) : dv (wz n l) = dv l := by unfold wz; rw [dv_append, dv_zs]; simp
/-- the invariant of the columns -/
structure Cols (add : Bool) (A B D : List UInt8) (c k : Nat) : Prop where
  len : k + D.length = A.length
  same : B.length = A.length
  dig : Dig D
  c1 : c ≤ 1
  pap : Pap add (dv (A.drop k)) (dv (B.drop k)) (dv D) c (10 ^ D.length)
theorem Cols.start {add : Bool} {A B : List UInt8} (h : B.length = A.length) : Cols add A B [] 0 A.length :=
  ⟨rfl, h, (by intro b hb; cases hb), by omega, by
    rw [List.drop_length, ← h, List.drop_length]
    unfold Pap; cases add <;> simp [dv]⟩
theorem Cols.step {add : Bool} {A B D : List UInt8} {c k : Nat} {a b : UInt8} (h : Cols add A B D c (k + 1)) (hA : Dig A) (hB : Dig B) (ha : A[k]? = some a) (hb : B[k]? = some b) :
    Cols add A B (UInt8.ofNat (48 + cdg add (a.toNat - 48) (b.toNat - 48) c) :: D) (ccr add (a.toNat - 48) (b.toNat - 48) c) k := by
  have da := hA a (List.mem_of_getElem? ha)
  have db := hB b (List.mem_of_getElem? hb)
  have hx := dig_digit (cdg_lt add (a.toNat - 48) (b.toNat - 48) c)
  have hl := h.len
  have hs := h.same
  refine ⟨by rw [List.length_cons]; omega, hs, ?_, ccr_le (by omega) (by omega) h.c1, ?_⟩
  · intro x hx2
    rcases List.mem_cons.1 hx2 with rfl | hx2
    · exact hx
    · exact h.dig x hx2
  · have hp := pap_step (a := a.toNat - 48) (b := b.toNat - 48) h.pap (by omega) (by omega) h.c1
    rw [drop_at ha, drop_at hb, dv_cons, dv_cons, dv_cons, List.length_drop, List.length_drop, List.length_cons, toNat_digit _ (cdg_lt _ _ _ _)]
    rw [show A.length - (k + 1) = D.length by omega, show B.length - (k + 1) = D.length by omega, Nat.pow_succ, Nat.add_sub_cancel_left]
    exact hp
theorem Cols.done {add : Bool} {A B D : List UInt8} {c : Nat} (h : Cols add A B D c 0) (hs : dv A + dv B < 10 ^ A.length) (hle : add = false → dv B ≤ dv A) : dv D = pv add (dv A) (dv B) := by
  have hp := h.pap
  have hl := h.len
  rw [List.drop_zero, List.drop_zero] at hp
  rw [show A.length = D.length by omega] at hs
  exact pap_end hp (dv_lt h.dig) hs hle
end Go.Proofs.YtfebiipggcgmdaaGreatDoor
