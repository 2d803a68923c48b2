import Derived.Lib.ItoaNum
import Derived.Lib.AtoiAll
import Derived.Test.YtfebiipggcgmdaaGreatDoorProg
import Derived.WalkKit
import Derived.WalkSmall
import Derived.WalkSpells
import Derived.WalkLawsBesides
import Derived.LoopTactic
import Derived.Below
import Derived.Lib.Hide
import Derived.OwnWalk
import Derived.Deep.OwnRows
import Derived.Deep.QuietTactic
import Derived.BigQuiet
import Derived.BigRegion
import Derived.StillTailTactics
import Derived.Deep.RegionHeld3
import Derived.Deep.LoopGhost
import Derived.Deep.DeepCutAuto
import Derived.Deep.Draws
import Derived.Deep.RegionWith
import Derived.Laws.NewBlocks
import Derived.Outline
namespace Go.Proofs.YtfebiipggcgmdaaGreatDoor
open Go.Lib

/-! ## digits -/
def Dig (l : List UInt8) : Prop := ∀ b ∈ l, 48 ≤ b.toNat ∧ b.toNat ≤ 57
def dv (l : List UInt8) : Nat := l.foldl (fun a b => a * 10 + (b.toNat - 48)) 0

theorem dv_fold (l : List UInt8) : ∀ a, l.foldl (fun a b => a * 10 + (b.toNat - 48)) a = a * 10 ^ l.length + dv l := by
  induction l with
  | nil => intro a; simp [dv]
  | cons c r ih =>
    intro a
    have h1 := ih (a * 10 + (c.toNat - 48))
    have h2 := ih (0 * 10 + (c.toNat - 48))
    simp only [List.foldl_cons, dv, List.length_cons, Nat.pow_succ] at *
    rw [h1, h2]
    simp only [Nat.zero_mul, Nat.zero_add, Nat.add_mul]
    have : a * 10 * 10 ^ r.length = a * (10 ^ r.length * 10) := by rw [Nat.mul_assoc, Nat.mul_comm 10]
    omega

theorem dv_nil : dv [] = 0 := rfl
theorem dv_append (l m : List UInt8) : dv (l ++ m) = dv l * 10 ^ m.length + dv m := by
  unfold dv; rw [List.foldl_append]; exact dv_fold m _
theorem dv_one (c : UInt8) : dv [c] = c.toNat - 48 := by simp [dv]
theorem dv_snoc (l : List UInt8) (c : UInt8) : dv (l ++ [c]) = dv l * 10 + (c.toNat - 48) := by rw [dv_append, dv_one]; simp
theorem dv_cons (c : UInt8) (l : List UInt8) : dv (c :: l) = (c.toNat - 48) * 10 ^ l.length + dv l := by
  rw [show c :: l = [c] ++ l from rfl, dv_append, dv_one]
theorem dv_lt {l : List UInt8} (h : Dig l) : dv l < 10 ^ l.length := by
  induction l with
  | nil => simp [dv]
  | cons c r ih =>
    have h1 := ih (fun b hb => h b (List.mem_cons_of_mem _ hb))
    have h2 := h c (List.mem_cons_self ..)
    rw [dv_cons, List.length_cons, Nat.pow_succ]
    have : (c.toNat - 48) * 10 ^ r.length ≤ 9 * 10 ^ r.length := Nat.mul_le_mul_right _ (by omega)
    omega

theorem toNat_digit (k : Nat) (h : k < 10) : (UInt8.ofNat (48 + k)).toNat = 48 + k := by simp; omega

theorem dec_dig (u : Nat) : Dig (decDigits u) := by
  induction u using Nat.strongRecOn with
  | _ u ih =>
    intro b hb
    rw [decDigits] at hb
    split at hb
    · rename_i h
      simp only [List.mem_singleton] at hb; subst hb
      rw [toNat_digit _ h]; omega
    · rename_i h
      rcases List.mem_append.1 hb with hb | hb
      · exact ih (u / 10) (by omega) b hb
      · simp only [List.mem_singleton] at hb; subst hb
        rw [toNat_digit _ (by omega)]; omega

theorem dec_ne (u : Nat) : decDigits u ≠ [] := by
  intro h
  have := decDigits_length u
  rw [h] at this
  have := nDigits_pos u
  simp at *; omega

theorem dv_dec (u : Nat) : dv (decDigits u) = u := by
  induction u using Nat.strongRecOn with
  | _ u ih =>
    rw [decDigits]
    split
    · rename_i h; rw [dv_one, toNat_digit _ h]; omega
    · rename_i h
      rw [dv_snoc, ih (u / 10) (by omega), toNat_digit _ (by omega)]; omega

theorem dec_step {u : Nat} (h : 10 ≤ u) : decDigits u = decDigits (u / 10) ++ [UInt8.ofNat (48 + u % 10)] := by
  rw [decDigits, dif_neg (by omega)]
theorem dec_small {u : Nat} (h : u < 10) : decDigits u = [UInt8.ofNat (48 + u)] := by rw [decDigits, dif_pos h]
theorem dec_zero : decDigits 0 = [48] := by rw [dec_small (by omega)]; rfl

theorem digit_eq (c : UInt8) (h : 48 ≤ c.toNat) : UInt8.ofNat (48 + (c.toNat - 48)) = c := by
  rw [show 48 + (c.toNat - 48) = c.toNat by omega]; simp

theorem snoc_ind {α : Type} {P : List α → Prop} (h0 : P []) (h1 : ∀ r c, P r → P (r ++ [c])) (l : List α) : P l := by
  have key : ∀ n (l : List α), l.length = n → P l := by
    intro n
    induction n with
    | zero => intro l hl; rw [List.eq_nil_of_length_eq_zero hl]; exact h0
    | succ n ih =>
      intro l hl
      have hne : l ≠ [] := by intro e; rw [e] at hl; simp at hl
      rw [← List.dropLast_concat_getLast hne]
      exact h1 _ _ (ih _ (by simp [hl]))
  exact key _ l rfl

/-- what is written without zeros in front is the decimal text of its value -/
theorem dec_of {l : List UInt8} (h : Dig l) (hne : l ≠ []) (h0 : l.length = 1 ∨ l.head? ≠ some 48) : l = decDigits (dv l) := by
  induction l using snoc_ind with
  | h0 => exact absurd rfl hne
  | h1 r c ih =>
    have hc := h c (by simp)
    rw [dv_snoc]
    cases r with
    | nil =>
      rw [dv_nil, dec_small (by omega)]; simp [digit_eq c hc.1]
    | cons a r =>
      have ha := h a (by simp)
      have hr : (a :: r).head? ≠ some 48 := by
        rcases h0 with h0 | h0
        · simp at h0
        · simpa using h0
      have hd : Dig (a :: r) := fun b hb => h b (by simp only [List.mem_append]; exact .inl hb)
      have hi := ih hd (by simp) (.inr hr)
      have hpos : 1 ≤ dv (a :: r) := by
        rw [dv_cons]
        have : a.toNat ≠ 48 := by
          intro e; apply hr; simp; exact UInt8.toNat_inj.1 (by simpa using e)
        have : 1 * 10 ^ r.length ≤ (a.toNat - 48) * 10 ^ r.length := Nat.mul_le_mul_right _ (by omega)
        have := Nat.one_le_pow r.length 10 (by omega)
        omega
      rw [dec_step (by omega)]
      rw [show (dv (a :: r) * 10 + (c.toNat - 48)) / 10 = dv (a :: r) by omega, show (dv (a :: r) * 10 + (c.toNat - 48)) % 10 = c.toNat - 48 by omega, ← hi, digit_eq c hc.1]

theorem dec_head {u : Nat} (h : 1 ≤ u) : (decDigits u).head? ≠ some 48 := by
  induction u using Nat.strongRecOn with
  | _ u ih =>
    by_cases h9 : u < 10
    · rw [dec_small h9]
      intro e
      have := congrArg (Option.map UInt8.toNat) e
      simp at this; omega
    · rw [dec_step (by omega), List.head?_append]
      have hn := dec_ne (u / 10)
      cases hd : decDigits (u / 10) with
      | nil => exact absurd hd hn
      | cons a r =>
        have := ih (u / 10) (by omega) (by omega)
        rw [hd] at this
        simpa using this

theorem dec_inj {u v : Nat} (h : decDigits u = decDigits v) : u = v := by rw [← dv_dec u, h, dv_dec]

/-- zeros in front are left out, but one digit stays -/
def bareL : List UInt8 → List UInt8
  | [] => []
  | [c] => [c]
  | c :: d :: r => if c = 48 then bareL (d :: r) else c :: d :: r

theorem bareL_eq {l : List UInt8} (h : Dig l) (hne : l ≠ []) : bareL l = decDigits (dv l) := by
  induction l with
  | nil => exact absurd rfl hne
  | cons c r ih =>
    cases r with
    | nil => rw [bareL]; exact dec_of h hne (.inl rfl)
    | cons d r =>
      rw [bareL]
      split
      · rename_i hc; subst hc
        rw [ih (fun b hb => h b (List.mem_cons_of_mem _ hb)) (by simp), dv_cons 48]
        have e : (48 : UInt8).toNat - 48 = 0 := by decide
        rw [e, Nat.zero_mul, Nat.zero_add]
      · rename_i hc
        exact dec_of h hne (.inr (by simpa using hc))

theorem nDigits_le_iff {u k : Nat} (hk : 1 ≤ k) : nDigits u ≤ k ↔ u < 10 ^ k := by
  constructor
  · intro h
    exact Nat.lt_of_lt_of_le (lt_pow_nDigits u) (Nat.pow_le_pow_right (by omega) h)
  · intro h
    rcases Nat.lt_or_ge k (nDigits u) with h2 | h2
    · exfalso
      -- 10 ^ (nDigits u - 1) ≤ u when nDigits u ≥ 2
      have key : ∀ u, 2 ≤ nDigits u → 10 ^ (nDigits u - 1) ≤ u := by
        intro u
        induction u using Nat.strongRecOn with
        | _ u ih =>
          intro hu
          by_cases h9 : u < 10
          · rw [nDigits_small h9] at hu; omega
          · rw [nDigits_big h9] at hu ⊢
            by_cases h99 : u / 10 < 10
            · rw [nDigits_small h99]; simp; omega
            · have h3 := nDigits_big h99
              have := ih (u / 10) (by omega) (by have := nDigits_pos (u / 10 / 10); omega)
              have hp := nDigits_pos (u / 10)
              rw [show nDigits (u / 10) + 1 - 1 = (nDigits (u / 10) - 1) + 1 by omega, Nat.pow_succ]
              omega
      have := key u (by omega)
      have := Nat.pow_le_pow_right (n := 10) (by omega) (show k ≤ nDigits u - 1 by omega)
      omega
    · exact h2

/-! ## texts of integers -/
def it (z : Int) : ByteArray := ⟨(itoa z).toArray⟩
theorem it_list (z : Int) : (it z).data.toList = itoa z := by simp [it]
theorem it_size (z : Int) : (it z).size = (itoa z).length := by simp [it, ByteArray.size]
theorem ba_ext {a b : ByteArray} (h : a.data.toList = b.data.toList) : a = b := by
  cases a; cases b; congr; exact Array.toList_inj.1 h

theorem itoa_nat (n : Nat) : itoa (n : Int) = decDigits n := by simp [itoa]
theorem itoa_neg (n : Nat) (h : 1 ≤ n) : itoa (-(n : Int)) = 45 :: decDigits n := by
  rw [itoa, if_pos (by omega)]; simp
theorem not45 {u : Nat} {r : List UInt8} : decDigits u ≠ 45 :: r := by
  intro h
  have := dec_dig u 45 (by rw [h]; simp)
  simp at this

theorem itoa_inj {a b : Int} (h : itoa a = itoa b) : a = b := by
  unfold itoa at h
  split at h <;> split at h
  · have := dec_inj (List.cons.inj h).2; omega
  · exact absurd h.symm not45
  · exact absurd h not45
  · have := dec_inj h; omega
theorem it_inj {a b : Int} (h : it a = it b) : a = b := itoa_inj (by rw [← it_list, h, it_list])
theorem itoa_ne (z : Int) : itoa z ≠ [] := by
  unfold itoa; split
  · simp
  · exact dec_ne _

end Go.Proofs.YtfebiipggcgmdaaGreatDoor

namespace Go.Proofs.YtfebiipggcgmdaaGreatDoor
open Go.Lib

instance (l : List UInt8) : Decidable (Dig l) := inferInstanceAs (Decidable (∀ b ∈ l, 48 ≤ b.toNat ∧ b.toNat ≤ 57))

/-- the magnitude that digits say, where they are written without zeros in front -/
def canN (l : List UInt8) : Option Nat := if l ≠ [] ∧ Dig l ∧ (l.length = 1 ∨ l.head? ≠ some 48) then some (dv l) else none

theorem canN_dec (u : Nat) : canN (decDigits u) = some u := by
  unfold canN
  rw [if_pos, dv_dec]
  refine ⟨dec_ne u, dec_dig u, ?_⟩
  by_cases h : u < 10
  · left; rw [dec_small h]; rfl
  · right; exact dec_head (by omega)
theorem canN_some {l : List UInt8} {u : Nat} (h : canN l = some u) : l = decDigits u := by
  unfold canN at h
  split at h
  · rename_i hc
    injection h with h; subst h
    exact dec_of hc.2.1 hc.1 hc.2.2
  · cases h

/-- the integer that a canonical text says -/
def canL (l : List UInt8) : Option Int :=
  if l.head? = some 45 then
    match canN l.tail with
    | some 0 => none
    | some u => some (-(u : Int))
    | none => none
  else (canN l).map fun (u : Nat) => (u : Int)

theorem canL_itoa (z : Int) : canL (itoa z) = some z := by
  rcases Int.eq_nat_or_neg z with ⟨n, rfl | rfl⟩
  · rw [itoa_nat, canL, if_neg, canN_dec]; rfl
    intro h
    cases hd : decDigits n with
    | nil => rw [hd] at h; cases h
    | cons a r => rw [hd] at h; simp at h; subst h; exact not45 hd
  · rcases Nat.eq_zero_or_pos n with rfl | hn
    · decide +kernel
    · rw [itoa_neg n hn, canL, if_pos (by simp), List.tail_cons, canN_dec]
      cases n with
      | zero => omega
      | succ n => rfl
theorem canL_some {l : List UInt8} {z : Int} (h : canL l = some z) : l = itoa z := by
  unfold canL at h
  split at h
  · rename_i h45
    cases l with
    | nil => cases h45
    | cons a r =>
      simp at h45; subst h45
      rw [List.tail_cons] at h
      split at h
      · cases h
      · rename_i u hu hc
        injection h with h; subst h
        rw [itoa_neg _ (by rcases Nat.eq_zero_or_pos u with h0 | h0; exact absurd h0 hu; exact h0), canN_some hc]
      · cases h
  · cases hc : canN l with
    | none => rw [hc] at h; cases h
    | some u =>
      rw [hc] at h
      simp at h; subst h
      rw [itoa_nat]; exact canN_some hc

/-- how many digits an integer has -/
def dl (z : Int) : Nat := nDigits z.natAbs
theorem itoa_length (z : Int) : (itoa z).length = dl z + if z < 0 then 1 else 0 := by
  unfold itoa dl
  split
  · simp [decDigits_length]
  · simp [decDigits_length]; congr 1; omega
theorem dl_le_iff {z : Int} {k : Nat} (hk : 1 ≤ k) : dl z ≤ k ↔ z.natAbs < 10 ^ k := nDigits_le_iff hk
theorem dl_pos (z : Int) : 1 ≤ dl z := nDigits_pos _

/-- Check of an integer's text: 0, 3 or 11 -/
def wChkL (l : List UInt8) : Int := match canL l with | none => 3 | some z => if dl z ≤ 1024 then 0 else 11
def wChk (s : ByteArray) : Int := wChkL s.data.toList
theorem wChk_it (z : Int) : wChk (it z) = if dl z ≤ 1024 then 0 else 11 := by
  unfold wChk wChkL; rw [it_list, canL_itoa]
theorem wChk_cases (s : ByteArray) : wChk s = 3 ∧ canL s.data.toList = none ∨ ∃ z, s = it z ∧ wChk s = if dl z ≤ 1024 then 0 else 11 := by
  unfold wChk wChkL
  cases h : canL s.data.toList with
  | none => left; exact ⟨rfl, rfl⟩
  | some z => right; refine ⟨z, ?_, rfl⟩; apply ba_ext; rw [it_list]; exact canL_some h
theorem wChk_zero {s : ByteArray} (h : wChk s = 0) : ∃ z, s = it z ∧ dl z ≤ 1024 := by
  rcases wChk_cases s with ⟨h3, _⟩ | ⟨z, hz, hc⟩
  · omega
  · refine ⟨z, hz, ?_⟩
    rw [h] at hc; split at hc
    · assumption
    · omega

/-! ## texts of rational numbers -/
def rt (q : Rat) : ByteArray := if q.den = 1 then it q.num else ⟨(itoa q.num ++ 47 :: decDigits q.den).toArray⟩

/-- what stands in front of the first sign c, and behind it -/
def cutL (c : UInt8) : List UInt8 → Option (List UInt8 × List UInt8)
  | [] => none
  | a :: r => if a = c then some ([], r) else (cutL c r).map fun p => (a :: p.1, p.2)
theorem cutL_none {c : UInt8} {l : List UInt8} (h : c ∉ l) : cutL c l = none := by
  induction l with
  | nil => rfl
  | cons a r ih =>
    simp only [List.mem_cons, not_or] at h
    rw [cutL, if_neg (fun e => h.1 e.symm), ih h.2]; rfl
theorem cutL_mid {c : UInt8} {l m : List UInt8} (h : c ∉ l) : cutL c (l ++ c :: m) = some (l, m) := by
  induction l with
  | nil => simp [cutL]
  | cons a r ih =>
    simp only [List.mem_cons, not_or] at h
    rw [List.cons_append, cutL, if_neg (fun e => h.1 e.symm), ih h.2]; rfl
theorem cutL_some {c : UInt8} {l a b : List UInt8} (h : cutL c l = some (a, b)) : l = a ++ c :: b ∧ c ∉ a := by
  induction l generalizing a with
  | nil => cases h
  | cons x r ih =>
    rw [cutL] at h
    split at h
    · rename_i e; subst e; simp at h; obtain ⟨rfl, rfl⟩ := h; simp
    · rename_i e
      cases hc : cutL c r with
      | none => rw [hc] at h; cases h
      | some p =>
        rw [hc] at h; simp at h
        obtain ⟨rfl, rfl⟩ := h
        obtain ⟨h1, h2⟩ := ih (a := p.1) (by rw [hc])
        refine ⟨by rw [h1]; rfl, ?_⟩
        simp only [List.mem_cons, not_or]
        exact ⟨fun e' => e e'.symm, h2⟩

theorem no47_dec (u : Nat) : (47 : UInt8) ∉ decDigits u := fun h => by have := dec_dig u 47 h; simp at this
theorem no47_itoa (z : Int) : (47 : UInt8) ∉ itoa z := by
  unfold itoa; split
  · simp only [List.mem_cons, not_or]; exact ⟨by decide, no47_dec _⟩
  · exact no47_dec _

/-- numerator, denominator, and whether the latter is written -/
def splL (l : List UInt8) : List UInt8 × List UInt8 × Bool := match cutL 47 l with | none => (l, [49], false) | some (a, b) => (a, b, true)

theorem rt_list (q : Rat) : (rt q).data.toList = if q.den = 1 then itoa q.num else itoa q.num ++ 47 :: decDigits q.den := by
  unfold rt; split <;> simp [it_list]
theorem splL_rt (q : Rat) : splL (rt q).data.toList = (itoa q.num, decDigits q.den, decide (q.den ≠ 1)) := by
  rw [rt_list]
  by_cases h : q.den = 1
  · rw [if_pos h, splL, cutL_none (no47_itoa _), h]
    have e : decDigits 1 = [49] := by rw [dec_small (by omega)]; rfl
    rw [e]; rfl
  · rw [if_neg h, splL, cutL_mid (no47_itoa _)]; simp [h]
theorem rt_inj {p q : Rat} (h : rt p = rt q) : p = q := by
  have := congrArg (fun s : ByteArray => splL s.data.toList) h
  simp only [splL_rt, Prod.mk.injEq] at this
  exact Rat.ext (itoa_inj this.1) (dec_inj this.2.1)

/-- Check of a rational number's text -/
def rChkL (l : List UInt8) : Int :=
  let (n, d, w) := splL l
  if wChkL n = 3 ∨ wChkL d = 3 then 3
  else if wChkL n ≠ 0 ∨ wChkL d ≠ 0 then 11
  else if w = true ∧ (((canL d).getD 0 ≤ 1) ∨ Int.gcd ((canL n).getD 0) ((canL d).getD 0) ≠ 1) then 3
  else 0
def rChk (s : ByteArray) : Int := rChkL s.data.toList

/-- numerator and denominator have at most k digits -/
def sm (k : Nat) (q : Rat) : Prop := q.num.natAbs < 10 ^ k ∧ q.den < 10 ^ k
theorem sm.mono {k m : Nat} {q : Rat} (h : sm k q) (hkm : k ≤ m) : sm m q := by
  have := Nat.pow_le_pow_right (n := 10) (by omega) hkm
  exact ⟨by have := h.1; omega, by have := h.2; omega⟩

theorem one_lt_p10 {k : Nat} (h : 1 ≤ k) : 1 < 10 ^ k := Nat.one_lt_pow (by omega) (by omega)
theorem canL_dec (u : Nat) : canL (decDigits u) = some (u : Int) := by rw [← itoa_nat]; exact canL_itoa _

theorem rChk_rt {q : Rat} (h : sm 1024 q) : rChk (rt q) = 0 := by
  unfold rChk rChkL
  rw [splL_rt]
  have e1 : wChkL (itoa q.num) = 0 := by
    unfold wChkL; rw [canL_itoa]; simp only [dl_le_iff (show 1 ≤ 1024 by omega)]; rw [if_pos h.1]
  have e2 : wChkL (decDigits q.den) = 0 := by
    unfold wChkL; rw [canL_dec]; simp only [dl_le_iff (show 1 ≤ 1024 by omega)]; rw [if_pos (by rw [Int.natAbs_natCast]; exact h.2)]
  simp only [e1, e2, canL_itoa, canL_dec, Option.getD_some]
  rw [if_neg (by omega), if_neg (by omega), if_neg]
  rintro ⟨hw, h1 | h1⟩
  · have := q.den_pos; simp at hw; omega
  · apply h1; exact q.reduced

theorem rChk_zero {s : ByteArray} (h : rChk s = 0) : ∃ q, s = rt q ∧ sm 1024 q := by
  unfold rChk rChkL at h
  cases hc : cutL 47 s.data.toList with
  | none =>
    have hs : splL s.data.toList = (s.data.toList, [49], false) := by unfold splL; rw [hc]
    rw [hs] at h
    simp only at h
    split at h
    · omega
    · split at h
      · omega
      · rename_i h1 h2
        have h0 : wChk s = 0 := by unfold wChk; omega
        obtain ⟨z, rfl, hz⟩ := wChk_zero h0
        refine ⟨(z : Rat), ?_, ?_⟩
        · unfold rt; simp
        · rw [dl_le_iff (by omega)] at hz
          refine ⟨hz, ?_⟩
          rw [Rat.den_intCast]
          exact @one_lt_p10 1024 (Nat.le_add_left 1 1023)
  | some p =>
    obtain ⟨a, b⟩ := p
    have hs : splL s.data.toList = (a, b, true) := by unfold splL; rw [hc]
    rw [hs] at h
    obtain ⟨hl, _⟩ := cutL_some hc
    simp only at h
    split at h
    · omega
    · split at h
      · omega
      · rename_i h1 h2
        have ha : wChk ⟨a.toArray⟩ = 0 := by unfold wChk; simp; omega
        have hb : wChk ⟨b.toArray⟩ = 0 := by unfold wChk; simp; omega
        obtain ⟨n, hn, hn1⟩ := wChk_zero ha
        obtain ⟨d, hd, hd1⟩ := wChk_zero hb
        have ea : a = itoa n := by have := congrArg (fun s : ByteArray => s.data.toList) hn; simpa [it_list] using this
        have eb : b = itoa d := by have := congrArg (fun s : ByteArray => s.data.toList) hd; simpa [it_list] using this
        subst ea eb
        simp only [canL_itoa, Option.getD_some, true_and] at h
        split at h
        · omega
        · rename_i h3
          simp only [not_or, Int.not_le] at h3
          obtain ⟨h3, h4⟩ := h3
          rw [dl_le_iff (by omega)] at hn1 hd1
          have hg : n.natAbs.Coprime d.natAbs := by
            have : Int.gcd n d = 1 := by omega
            exact this
          refine ⟨⟨n, d.natAbs, by omega, hg⟩, ?_, hn1, hd1⟩
          apply ba_ext
          rw [rt_list, hl]
          simp only
          rw [if_neg (by omega)]
          congr 2
          rw [← itoa_nat]; congr 1; omega

end Go.Proofs.YtfebiipggcgmdaaGreatDoor

namespace Go.Proofs.YtfebiipggcgmdaaGreatDoor

/-! ## binomials -/
def ch : Nat → Nat → Nat
  | _, 0 => 1
  | 0, _ + 1 => 0
  | n + 1, k + 1 => ch n k + ch n (k + 1)

theorem ch_zero (n : Nat) : ch n 0 = 1 := by cases n <;> rfl
theorem ch_zs (k : Nat) : ch 0 (k + 1) = 0 := rfl
theorem ch_ss (n k : Nat) : ch (n + 1) (k + 1) = ch n k + ch n (k + 1) := rfl
theorem ch_gt : ∀ {n k : Nat}, n < k → ch n k = 0
  | 0, 0, h => by omega
  | 0, k + 1, _ => rfl
  | n + 1, 0, h => by omega
  | n + 1, k + 1, h => by rw [ch_ss, ch_gt (by omega), ch_gt (by omega)]
theorem ch_self : ∀ n : Nat, ch n n = 1
  | 0 => rfl
  | n + 1 => by rw [ch_ss, ch_self n, ch_gt (by omega)]
theorem ch_pos : ∀ {n k : Nat}, k ≤ n → 0 < ch n k
  | n, 0, _ => by rw [ch_zero]; omega
  | 0, k + 1, h => by omega
  | n + 1, k + 1, h => by rw [ch_ss]; have := ch_pos (n := n) (k := k) (by omega); omega
theorem ch_symm : ∀ {n k : Nat}, k ≤ n → ch n (n - k) = ch n k
  | n, 0, _ => by rw [ch_zero]; exact ch_self n
  | 0, k + 1, h => by omega
  | n + 1, k + 1, h => by
    rw [ch_ss]
    by_cases hk : k = n
    · subst hk; rw [show k + 1 - (k + 1) = 0 by omega, ch_zero, ch_self, ch_gt (by omega)]
    · rw [show n + 1 - (k + 1) = (n - (k + 1)) + 1 by omega, ch_ss, ch_symm (by omega : k + 1 ≤ n), show n - (k + 1) + 1 = n - k by omega, ch_symm (by omega : k ≤ n)]
      omega
/-- the step by which binomials are computed -/
theorem ch_mul : ∀ (n k : Nat), (k + 1) * ch n (k + 1) + k * ch n k = n * ch n k
  | 0, 0 => rfl
  | 0, k + 1 => by simp [ch_zs]
  | n + 1, 0 => by
    have := ch_mul n 0
    rw [ch_ss]
    simp only [ch_zero] at *
    omega
  | n + 1, k + 1 => by
    have h1 := ch_mul n k
    have h2 := ch_mul n (k + 1)
    rw [ch_ss n (k + 1), ch_ss n k]
    simp only [Nat.add_mul, Nat.mul_add, Nat.one_mul] at *
    omega
theorem ch_step {n k : Nat} (h : k ≤ n) : ch n k * (n - k) = ch n (k + 1) * (k + 1) := by
  have := ch_mul n k
  have h2 : (n - k) * ch n k + k * ch n k = n * ch n k := by rw [← Nat.add_mul, Nat.sub_add_cancel h]
  rw [Nat.mul_comm _ (n - k), Nat.mul_comm _ (k + 1)]
  omega

/-! ## sums -/
/-- the sum of f i for i below n -/
def su (f : Nat → Nat) : Nat → Nat
  | 0 => 0
  | n + 1 => su f n + f n
theorem su_congr {f g : Nat → Nat} {n : Nat} (h : ∀ i, i < n → f i = g i) : su f n = su g n := by
  induction n with
  | zero => rfl
  | succ n ih => rw [su, su, ih (fun i hi => h i (by omega)), h n (by omega)]
theorem su_le {f g : Nat → Nat} {n : Nat} (h : ∀ i, i < n → f i ≤ g i) : su f n ≤ su g n := by
  induction n with
  | zero => exact Nat.le_refl _
  | succ n ih => rw [su, su]; have := ih (fun i hi => h i (by omega)); have := h n (by omega); omega
theorem su_add (f g : Nat → Nat) (n : Nat) : su (fun i => f i + g i) n = su f n + su g n := by
  induction n with
  | zero => rfl
  | succ n ih => simp only [su]; omega
theorem su_mul (c : Nat) (f : Nat → Nat) (n : Nat) : su (fun i => c * f i) n = c * su f n := by
  induction n with
  | zero => rfl
  | succ n ih => simp only [su, ih, Nat.mul_add]
theorem su_head (f : Nat → Nat) (n : Nat) : su f (n + 1) = f 0 + su (fun i => f (i + 1)) n := by
  induction n with
  | zero => simp [su]
  | succ n ih => rw [su, ih]; simp only [su]; omega
theorem su_split (f : Nat → Nat) (a b : Nat) : su f (a + b) = su f a + su (fun i => f (a + i)) b := by
  induction b with
  | zero => rfl
  | succ b ih => rw [← Nat.add_assoc, su, ih]; simp only [su]; omega
theorem su_rev (f : Nat → Nat) (n : Nat) : su (fun i => f (n - 1 - i)) n = su f n := by
  induction n with
  | zero => rfl
  | succ n ih =>
    rw [su_head, su]
    rw [← ih]
    simp only [Nat.add_sub_cancel, Nat.sub_zero]
    rw [su_congr (g := fun i => f (n - 1 - i)) (fun i hi => by show f (n - (i + 1)) = _; congr 1; omega)]
    omega
theorem su_zero {f : Nat → Nat} {n : Nat} (h : ∀ i, i < n → f i = 0) : su f n = 0 := by
  rw [su_congr (g := fun _ => 0) h]
  induction n with
  | zero => rfl
  | succ n ih => rw [su]; simp only [Nat.add_zero]; exact ih (fun i hi => h i (by omega))
theorem su_mono {f : Nat → Nat} {m n : Nat} (h : m ≤ n) : su f m ≤ su f n := by
  obtain ⟨d, rfl⟩ := Nat.exists_eq_add_of_le h
  rw [su_split]; omega
theorem su_swap (f : Nat → Nat → Nat) (m n : Nat) : su (fun i => su (fun j => f i j) n) m = su (fun j => su (fun i => f i j) m) n := by
  induction m with
  | zero => simp only [su]; exact (su_zero (fun _ _ => rfl)).symm
  | succ m ih => simp only [su, su_add, ih]

theorem vander (a b n : Nat) : su (fun j => ch a j * ch b (n - j)) (n + 1) = ch (a + b) n := by
  induction a generalizing n with
  | zero =>
    rw [su_head]
    rw [su_zero (fun i _ => by rw [ch_zs]; simp)]
    simp [ch_zero]
  | succ a ih =>
    cases n with
    | zero => simp [su, ch_zero]
    | succ n =>
      rw [su_head, ch_zero]
      have e : su (fun i => ch (a + 1) (i + 1) * ch b (n + 1 - (i + 1))) (n + 1) = su (fun i => ch a i * ch b (n - i)) (n + 1) + su (fun i => ch a (i + 1) * ch b (n + 1 - (i + 1))) (n + 1) := by
        rw [← su_add]
        exact su_congr fun i _ => by rw [ch_ss, Nat.add_mul, Nat.add_sub_add_right]
      rw [e, ih n]
      have h2 := ih (n + 1)
      rw [su_head, ch_zero] at h2
      rw [show a + 1 + b = (a + b) + 1 by omega, ch_ss]
      omega

theorem binom (x y n : Nat) : su (fun j => ch n j * (x ^ j * y ^ (n - j))) (n + 1) = (x + y) ^ n := by
  induction n with
  | zero => simp [su, ch_zero]
  | succ n ih =>
    rw [su_head, ch_zero]
    have e : su (fun i => ch (n + 1) (i + 1) * (x ^ (i + 1) * y ^ (n + 1 - (i + 1)))) (n + 1)
        = x * su (fun i => ch n i * (x ^ i * y ^ (n - i))) (n + 1) + su (fun i => ch n (i + 1) * (x ^ (i + 1) * y ^ (n - i))) (n + 1) := by
      rw [← su_mul, ← su_add]
      exact su_congr fun i _ => by rw [ch_ss, Nat.add_sub_add_right, Nat.add_mul, Nat.pow_succ]; congr 1; ac_rfl
    have h3 : y * su (fun j => ch n j * (x ^ j * y ^ (n - j))) (n + 1) = 1 * (x ^ 0 * y ^ (n + 1 - 0)) + su (fun i => ch n (i + 1) * (x ^ (i + 1) * y ^ (n - i))) (n + 1) := by
      rw [su_head, Nat.mul_add, ← su_mul, ch_zero]
      congr 1
      · simp [Nat.pow_succ, Nat.mul_comm]
      · rw [su]
        rw [ch_gt (Nat.lt_succ_self n)]
        simp only [Nat.zero_mul, Nat.add_zero]
        exact su_congr fun i hi => by
          rw [show y ^ (n - i) = y ^ (n - (i + 1)) * y by rw [← Nat.pow_succ]; congr 1; omega]; ac_rfl
    rw [e, ih, Nat.pow_succ, Nat.mul_comm _ (x + y), Nat.add_mul]
    rw [ih] at h3
    omega

/-! ## samples -/
/-- how many samples of N parts of a lot with some bad parts have at most C bad ones -/
def good (N C lot bad : Nat) : Nat := su (fun k => ch bad k * ch (lot - bad) (N - k)) (C + 1)

theorem good_all {N C lot bad : Nat} (hC : C = N) (hb : bad ≤ lot) : good N C lot bad = ch lot N := by
  subst hC; unfold good; rw [vander]; congr 1; omega

theorem good_opposite {N C lot bad : Nat} (hC : C < N) (hb : bad ≤ lot) : good N C lot bad + good N (N - C - 1) lot (lot - bad) = ch lot N := by
  have hv := good_all (N := N) (C := N) rfl hb
  unfold good at *
  rw [show N + 1 = (C + 1) + (N - C) by omega, su_split] at hv
  rw [← hv]
  congr 1
  rw [show N - C - 1 + 1 = N - C by omega, show lot - (lot - bad) = bad by omega]
  rw [← su_rev]
  exact su_congr fun i hi => by
    rw [show N - (N - C - 1 - i) = C + 1 + i by omega, show N - (C + 1 + i) = N - C - 1 - i by omega, Nat.mul_comm]

theorem proc_opposite {N C n g : Nat} (hC : C < N) : su (fun j => ch N j * (n ^ j * g ^ (N - j))) (C + 1) + su (fun j => ch N j * (g ^ j * n ^ (N - j))) (N - C - 1 + 1) = (n + g) ^ N := by
  have hs := su_split (fun j => ch N j * (n ^ j * g ^ (N - j))) (C + 1) (N - C)
  rw [show C + 1 + (N - C) = N + 1 by omega, binom] at hs
  rw [hs]
  congr 1
  rw [show N - C - 1 + 1 = N - C by omega, ← su_rev]
  exact su_congr fun i hi => by
    rw [show N - (N - C - 1 - i) = C + 1 + i by omega, show N - (C + 1 + i) = N - C - 1 - i by omega, Nat.mul_comm (g ^ _)]
    congr 1
    rw [← ch_symm (show C + 1 + i ≤ N by omega)]; congr 1; omega

/-- one bad part more makes acceptance less likely -/
theorem good_falls {N C lot bad : Nat} (hb : bad < lot) (hC : C ≤ N) : good N C lot (bad + 1) + (if C < N then ch bad C * ch (lot - bad - 1) (N - C - 1) else 0) = good N C lot bad := by
  induction C with
  | zero =>
    unfold good
    simp only [su, ch_zero, Nat.zero_add, Nat.one_mul, Nat.sub_zero]
    rw [show lot - bad = (lot - bad - 1) + 1 by omega, show lot - (bad + 1) = lot - bad - 1 by omega, Nat.add_sub_cancel]
    cases N with
    | zero => simp [ch_zero]
    | succ N => rw [if_pos (by omega), ch_ss, Nat.add_sub_cancel]; omega
  | succ C ih =>
    have h := ih (by omega)
    rw [if_pos (by omega)] at h
    unfold good at *
    rw [su, show su (fun k => ch bad k * ch (lot - bad) (N - k)) (C + 1 + 1) = su (fun k => ch bad k * ch (lot - bad) (N - k)) (C + 1) + ch bad (C + 1) * ch (lot - bad) (N - (C + 1)) from rfl, ← h]
    rw [show lot - bad = (lot - bad - 1) + 1 by omega, show lot - (bad + 1) = lot - bad - 1 by omega, Nat.add_sub_cancel, ch_ss]
    generalize lot - bad - 1 = m
    by_cases hN : C + 1 < N
    · rw [if_pos hN, show N - (C + 1) = (N - (C + 1) - 1) + 1 by omega, show N - C - 1 = (N - (C + 1) - 1) + 1 by omega, ch_ss, Nat.add_sub_cancel]
      simp only [Nat.add_mul, Nat.mul_add]
      omega
    · rw [if_neg hN, show N - (C + 1) = 0 by omega, show N - C - 1 = 0 by omega]
      simp only [ch_zero, Nat.add_mul]
      omega

end Go.Proofs.YtfebiipggcgmdaaGreatDoor

namespace Go.Proofs.YtfebiipggcgmdaaGreatDoor

def fa : Nat → Nat
  | 0 => 1
  | n + 1 => (n + 1) * fa n
theorem fa_pos : ∀ n, 0 < fa n
  | 0 => by simp [fa]
  | n + 1 => by rw [fa]; exact Nat.mul_pos (by omega) (fa_pos n)

theorem ch_fa : ∀ {n k : Nat}, k ≤ n → ch n k * (fa k * fa (n - k)) = fa n
  | n, 0, _ => by simp [ch_zero, fa]
  | 0, k + 1, h => by omega
  | n + 1, k + 1, h => by
    have h1 := ch_fa (n := n) (k := k) (by omega)
    rw [ch_ss, Nat.add_mul, Nat.add_sub_add_right]
    have e1 : ch n k * (fa (k + 1) * fa (n - k)) = (k + 1) * fa n := by rw [fa, ← h1]; ac_rfl
    rw [e1]
    by_cases hk : k = n
    · subst hk; rw [ch_gt (by omega)]; simp [fa]
    · have h2 := ch_fa (n := n) (k := k + 1) (by omega)
      have e2 : ch n (k + 1) * (fa (k + 1) * fa (n - k)) = (n - k) * fa n := by
        rw [show fa (n - k) = (n - k) * fa (n - (k + 1)) by rw [show n - k = (n - (k + 1)) + 1 by omega, fa], ← h2]; ac_rfl
      rw [e2, fa, ← Nat.add_mul]; congr 1; omega

theorem mix_term {L N k j : Nat} (hN : N ≤ L) (hk : k ≤ L) (hj : j ≤ k) (hjN : j ≤ N) :
    ch L k * (ch k j * ch (L - k) (N - j)) = ch L N * (ch N j * ch (L - N) (k - j)) := by
  by_cases h : N - j ≤ L - k
  · have a1 := ch_fa hk
    have a2 := ch_fa hj
    have a3 := ch_fa h
    have b1 := ch_fa hN
    have b2 := ch_fa hjN
    have b3 := ch_fa (show k - j ≤ L - N by omega)
    rw [show L - N - (k - j) = L - k - (N - j) by omega] at b3
    have hp : 0 < fa j * fa (k - j) * (fa (N - j) * fa (L - k - (N - j))) := Nat.mul_pos (Nat.mul_pos (fa_pos _) (fa_pos _)) (Nat.mul_pos (fa_pos _) (fa_pos _))
    refine Nat.eq_of_mul_eq_mul_right hp ?_
    have l : ch L k * (ch k j * ch (L - k) (N - j)) * (fa j * fa (k - j) * (fa (N - j) * fa (L - k - (N - j)))) = ch L k * ((ch k j * (fa j * fa (k - j))) * (ch (L - k) (N - j) * (fa (N - j) * fa (L - k - (N - j))))) := by ac_rfl
    have r : ch L N * (ch N j * ch (L - N) (k - j)) * (fa j * fa (k - j) * (fa (N - j) * fa (L - k - (N - j)))) = ch L N * ((ch N j * (fa j * fa (N - j))) * (ch (L - N) (k - j) * (fa (k - j) * fa (L - k - (N - j))))) := by ac_rfl
    rw [l, r, a2, a3, a1, b2, b3, b1]
  · rw [ch_gt (show L - k < N - j by omega), ch_gt (show L - N < k - j by omega)]
    simp

theorem su_shift {f : Nat → Nat} {j n : Nat} (hj : j ≤ n) (h : ∀ i, i < j → f i = 0) : su f n = su (fun i => f (j + i)) (n - j) := by
  rw [show n = j + (n - j) by omega, su_split, su_zero h, Nat.zero_add]
  congr 1; omega
theorem su_trim {f : Nat → Nat} {m n : Nat} (hm : m ≤ n) (h : ∀ i, m ≤ i → i < n → f i = 0) : su f n = su f m := by
  rw [show n = m + (n - m) by omega, su_split, su_zero (fun i hi => h (m + i) (by omega) (by omega)), Nat.add_zero]

theorem mixed {L N C n g : Nat} (hN : N ≤ L) (hC : C ≤ N) :
    su (fun k => ch L k * (n ^ k * g ^ (L - k)) * good N C L k) (L + 1) = ch L N * ((n + g) ^ (L - N) * su (fun j => ch N j * (n ^ j * g ^ (N - j))) (C + 1)) := by
  unfold good
  have e1 : su (fun k => ch L k * (n ^ k * g ^ (L - k)) * su (fun j => ch k j * ch (L - k) (N - j)) (C + 1)) (L + 1)
      = su (fun j => su (fun k => ch L k * (n ^ k * g ^ (L - k)) * (ch k j * ch (L - k) (N - j))) (L + 1)) (C + 1) := by
    rw [← su_swap]
    exact su_congr fun k _ => by rw [su_mul]
  rw [e1, ← su_mul, ← su_mul]
  refine su_congr fun j hj => ?_
  have hjN : j ≤ N := by omega
  rw [su_shift (j := j) (by omega) (fun i hi => by rw [ch_gt hi]; simp)]
  have e2 : su (fun i => ch L (j + i) * (n ^ (j + i) * g ^ (L - (j + i))) * (ch (j + i) j * ch (L - (j + i)) (N - j))) (L + 1 - j)
      = su (fun i => ch L N * (ch N j * (n ^ j * g ^ (N - j))) * (ch (L - N) i * (n ^ i * g ^ (L - N - i)))) (L + 1 - j) := by
    refine su_congr fun i hi => ?_
    have hm := mix_term hN (show j + i ≤ L by omega) (by omega) hjN
    rw [show j + i - j = i by omega] at hm
    have e : ch L (j + i) * (n ^ (j + i) * g ^ (L - (j + i))) * (ch (j + i) j * ch (L - (j + i)) (N - j)) = (ch L (j + i) * (ch (j + i) j * ch (L - (j + i)) (N - j))) * (n ^ (j + i) * g ^ (L - (j + i))) := by ac_rfl
    rw [e, hm]
    by_cases h : i ≤ L - N
    · rw [Nat.pow_add, show L - (j + i) = (N - j) + (L - N - i) by omega, Nat.pow_add]; ac_rfl
    · rw [ch_gt (show L - N < i by omega)]; simp
  rw [e2, su_mul, su_trim (m := L - N + 1) (by omega) (fun i h1 _ => by rw [ch_gt (show L - N < i by omega)]; simp), binom]
  ac_rfl

end Go.Proofs.YtfebiipggcgmdaaGreatDoor

namespace Go.Proofs.YtfebiipggcgmdaaGreatDoor

/-- the base of the words -/
def BB : Nat := 1000000000
theorem BB_pos : 0 < BB := by unfold BB; omega
theorem BB_two : 2 ≤ BB := by unfold BB; omega
theorem BBp (k : Nat) : 0 < BB ^ k := Nat.pow_pos BB_pos

/-- word i of a magnitude -/
def wd (V i : Nat) : Nat := V / BB ^ i % BB
theorem wd_lt (V i : Nat) : wd V i < BB := Nat.mod_lt _ BB_pos
theorem wd_zero (i : Nat) : wd 0 i = 0 := by simp [wd]

theorem mod_pow_succ (V i : Nat) : V % BB ^ (i + 1) = V % BB ^ i + wd V i * BB ^ i := by
  unfold wd
  rw [Nat.pow_succ, Nat.mod_mul]
  rw [Nat.mul_comm (BB ^ i)]

theorem wd_of_lt {V i : Nat} (h : V < BB ^ i) : wd V i = 0 := by
  unfold wd; rw [Nat.div_eq_of_lt h]; simp
theorem wd_high {V n i : Nat} (h : V < BB ^ n) (hi : n ≤ i) : wd V i = 0 :=
  wd_of_lt (Nat.lt_of_lt_of_le h (Nat.pow_le_pow_right BB_pos hi))

/-- equal words, equal numbers -/
theorem eq_of_wd {n U V : Nat} (hU : U < BB ^ n) (hV : V < BB ^ n) (h : ∀ i, i < n → wd U i = wd V i) : U = V := by
  have key : ∀ k, k ≤ n → U % BB ^ k = V % BB ^ k := by
    intro k
    induction k with
    | zero => intro _; simp [Nat.mod_one]
    | succ k ih =>
      intro hk
      rw [mod_pow_succ, mod_pow_succ, ih (by omega), h k (by omega)]
  have := key n (Nat.le_refl _)
  rwa [Nat.mod_eq_of_lt hU, Nat.mod_eq_of_lt hV] at this

/-- another word j -/
def setw (V j s : Nat) : Nat := V % BB ^ j + s * BB ^ j + V / BB ^ (j + 1) * BB ^ (j + 1)

theorem split3 (V j : Nat) : V = V % BB ^ j + wd V j * BB ^ j + V / BB ^ (j + 1) * BB ^ (j + 1) := by
  have := Nat.mod_add_div V (BB ^ (j + 1))
  rw [mod_pow_succ, Nat.mul_comm (BB ^ (j+1))] at this
  exact this.symm

theorem setw_int (V j s : Nat) : (setw V j s : Int) = V + (s - wd V j) * (BB : Int) ^ j := by
  have h := split3 V j
  unfold setw
  have h' : (V : Int) = (V % BB ^ j : Nat) + (wd V j : Int) * (BB : Int) ^ j + ((V / BB ^ (j + 1) * BB ^ (j + 1) : Nat) : Int) := by
    conv => lhs; rw [h]
    simp only [Int.natCast_add, Int.natCast_mul, Int.natCast_pow]
  rw [Int.natCast_add, Int.natCast_add, Int.natCast_mul, Int.natCast_pow]
  rw [Int.sub_mul]
  omega

theorem setw_mod_lo (V j s k : Nat) (hk : k ≤ j) : setw V j s % BB ^ k = V % BB ^ k := by
  obtain ⟨d, rfl⟩ := Nat.exists_eq_add_of_le hk
  unfold setw
  have e1 : s * BB ^ (k + d) = BB ^ k * (s * BB ^ d) := by rw [Nat.pow_add]; ac_rfl
  have e2 : V / BB ^ (k + d + 1) * BB ^ (k + d + 1) = BB ^ k * (V / BB ^ (k + d + 1) * BB ^ (d + 1)) := by
    rw [show BB ^ (k + d + 1) = BB ^ k * BB ^ (d + 1) by rw [← Nat.pow_add]; congr 1]; ac_rfl
  rw [e1, e2, Nat.add_assoc, ← Nat.mul_add, Nat.add_mul_mod_self_left]
  rw [Nat.mod_mod_of_dvd _ (Nat.pow_dvd_pow _ (by omega))]

theorem setw_div_hi (V j s k : Nat) (hs : s < BB) (hk : j + 1 ≤ k) : setw V j s / BB ^ k = V / BB ^ k := by
  obtain ⟨d, rfl⟩ := Nat.exists_eq_add_of_le hk
  rw [Nat.pow_add, ← Nat.div_div_eq_div_mul, ← Nat.div_div_eq_div_mul]
  congr 1
  unfold setw
  rw [Nat.add_mul_div_right _ _ (BBp _)]
  have : V % BB ^ j + s * BB ^ j < BB ^ (j + 1) := by
    have h1 := Nat.mod_lt V (BBp j)
    have h2 : (s + 1) * BB ^ j ≤ BB * BB ^ j := Nat.mul_le_mul_right _ hs
    rw [Nat.pow_succ, Nat.mul_comm (BB ^ j)]
    rw [Nat.add_mul] at h2; omega
  rw [Nat.div_eq_of_lt this, Nat.zero_add]

theorem wd_setw (V j s i : Nat) (hs : s < BB) : wd (setw V j s) i = if i = j then s else wd V i := by
  rcases Nat.lt_trichotomy i j with h | h | h
  · rw [if_neg (by omega)]
    have e : ∀ W, wd W i = W % BB ^ (i + 1) / BB ^ i := by
      intro W; unfold wd
      rw [Nat.pow_succ, Nat.mod_mul_right_div_self]
    rw [e, e, setw_mod_lo _ _ _ _ (by omega)]
  · subst h
    rw [if_pos rfl]
    unfold wd setw
    have e2 : V / BB ^ (i + 1) * BB ^ (i + 1) = V / BB ^ (i + 1) * BB * BB ^ i := by rw [Nat.pow_succ]; ac_rfl
    rw [e2, Nat.add_assoc, ← Nat.add_mul, Nat.add_mul_div_right _ _ (BBp _), Nat.div_eq_of_lt (Nat.mod_lt _ (BBp _)), Nat.zero_add,
      Nat.add_mul_mod_self_right, Nat.mod_eq_of_lt hs]
  · rw [if_neg (by omega)]
    unfold wd
    rw [setw_div_hi _ _ _ _ hs (by omega)]

theorem setw_lt {V j s n : Nat} (hs : s < BB) (hV : V < BB ^ n) (hj : j < n) : setw V j s < BB ^ n := by
  have h := setw_div_hi V j s n hs (by omega)
  rw [Nat.div_eq_of_lt hV] at h
  exact Nat.lt_of_not_le fun hle => by
    have := Nat.div_pos hle (BBp n); omega

/-- how many words a magnitude has -/
def nw (V : Nat) : Nat := if h : V = 0 then 0 else nw (V / BB) + 1
termination_by V
decreasing_by exact Nat.div_lt_self (by omega) BB_two

theorem nw_zero : nw 0 = 0 := by rw [nw]; simp
theorem nw_succ {V : Nat} (h : V ≠ 0) : nw V = nw (V / BB) + 1 := by rw [nw, dif_neg h]
theorem lt_nw (V : Nat) : V < BB ^ nw V := by
  induction V using Nat.strongRecOn with
  | _ V ih =>
    by_cases h : V = 0
    · subst h; rw [nw_zero]; simp
    · rw [nw_succ h, Nat.pow_succ]
      have := ih (V / BB) (Nat.div_lt_self (by omega) BB_two)
      exact (Nat.div_lt_iff_lt_mul BB_pos).1 this
theorem nw_le {V n : Nat} (h : V < BB ^ n) : nw V ≤ n := by
  induction n generalizing V with
  | zero => have : V = 0 := by simpa using h
            subst this; rw [nw_zero]; omega
  | succ n ih =>
    by_cases h0 : V = 0
    · subst h0; rw [nw_zero]; omega
    · rw [nw_succ h0]
      have := ih (V := V / BB) ((Nat.div_lt_iff_lt_mul BB_pos).2 (by rw [Nat.pow_succ] at h; exact h))
      omega
theorem nw_le_iff {V n : Nat} : nw V ≤ n ↔ V < BB ^ n :=
  ⟨fun h => Nat.lt_of_lt_of_le (lt_nw V) (Nat.pow_le_pow_right BB_pos h), nw_le⟩
theorem nw_pos {V : Nat} (h : V ≠ 0) : 1 ≤ nw V := by rw [nw_succ h]; omega
theorem nw_eq_zero {V : Nat} : nw V = 0 ↔ V = 0 := by
  constructor
  · intro h; exact Classical.byContradiction fun hv => by have := nw_pos hv; omega
  · rintro rfl; exact nw_zero
/-- the greatest word is not 0 -/
theorem wd_top {V : Nat} (h : V ≠ 0) : wd V (nw V - 1) ≠ 0 := by
  intro hw
  have h1 := nw_pos h
  have h2 := lt_nw V
  have h3 := mod_pow_succ V (nw V - 1)
  rw [show nw V - 1 + 1 = nw V by omega, Nat.mod_eq_of_lt h2, hw] at h3
  have : V < BB ^ (nw V - 1) := by
    have h4 := Nat.mod_lt V (BBp (nw V - 1))
    rw [Nat.zero_mul, Nat.add_zero] at h3
    omega
  have := nw_le this; omega
theorem nw_ge {V n : Nat} (h : BB ^ n ≤ V) : n < nw V := Nat.lt_of_not_le fun hl => by have := nw_le_iff.1 hl; omega
theorem pow_le_of_nw {V : Nat} (h : V ≠ 0) : BB ^ (nw V - 1) ≤ V := Nat.le_of_not_lt fun hl => by have := nw_le hl; have := nw_pos h; omega

/-! ## one step of carry -/
theorem carry_step (X' Yi j : Nat) (rest f S : Int) (hS : S = wd X' j + rest + f * Yi) :
    ((setw X' j (S % (BB : Int)).toNat : Nat) : Int) + S / (BB : Int) * (BB : Int) ^ (j + 1) = X' + rest * (BB : Int) ^ j + f * Yi * (BB : Int) ^ j := by
  rw [setw_int]
  have hB : (BB : Int) ≠ 0 := by have := BB_pos; omega
  have h0 : 0 ≤ S % (BB : Int) := Int.emod_nonneg _ hB
  rw [Int.toNat_of_nonneg h0]
  have hd := Int.emod_add_mul_ediv S (BB : Int)
  have e : S / (BB : Int) * (BB : Int) ^ (j + 1) = (BB : Int) * (S / BB) * (BB : Int) ^ j := by rw [Int.pow_succ]; ac_rfl
  rw [e, Int.sub_mul]
  have : S % (BB : Int) * (BB : Int) ^ j + (BB : Int) * (S / BB) * (BB : Int) ^ j = S * (BB : Int) ^ j := by rw [← Int.add_mul, hd]
  rw [hS] at this ⊢
  rw [Int.add_mul, Int.add_mul] at this
  omega

theorem BBi : ((BB : Nat) : Int) = 1000000000 := rfl
/-- quotient and rest of the truncated division, as far as carry needs them -/
theorem tdiv_near (S : Int) : -1000000000 < S - S.tdiv 1000000000 * 1000000000 ∧ S - S.tdiv 1000000000 * 1000000000 < 1000000000 := by
  have h := Int.mul_tdiv_add_tmod S 1000000000
  have h1 := Int.tmod_lt_of_pos S (show (0 : Int) < 1000000000 by omega)
  have h2 : -1000000000 < S.tmod 1000000000 := by
    have := Int.tmod_lt_of_pos (-S) (show (0 : Int) < 1000000000 by omega)
    rw [Int.neg_tmod] at this; omega
  omega
/-- a multiple of P that differs by less than P from something from 0 to P is 0 -/
theorem rest_zero {X T rest P : Int} (h : X + rest * P = T) (h0 : 0 ≤ T) (h1 : T < P) (h2 : 0 ≤ X) (h3 : X < P) : rest = 0 := by
  rcases Int.lt_trichotomy rest 0 with hr | hr | hr
  · have : rest * P ≤ -1 * P := Int.mul_le_mul_of_nonneg_right (by omega) (by omega)
    omega
  · exact hr
  · have : 1 * P ≤ rest * P := Int.mul_le_mul_of_nonneg_right (by omega) (by omega)
    omega
/-- a product of words fits -/
theorem prod_bd {f c : Int} (h1 : -1000000000 < f) (h2 : f < 1000000000) (h3 : 0 ≤ c) (h4 : c < 1000000000) : -999999998000000001 ≤ f * c ∧ f * c ≤ 999999998000000001 := by
  have a1 : f * c ≤ 999999999 * c := Int.mul_le_mul_of_nonneg_right (by omega) h3
  have a2 : -999999999 * c ≤ f * c := Int.mul_le_mul_of_nonneg_right (by omega) h3
  omega
/-- one round of carry, told by the words -/
theorem carry_round {X' Y i up : Nat} {X rest f q s : Int} (hI : (X' : Int) + rest * (BB : Int) ^ (i + up) = X + f * ((Y % BB ^ i : Nat) : Int) * (BB : Int) ^ up)
    (hq : q * 1000000000 + s = wd X' (i + up) + rest + f * wd Y i) (h0 : 0 ≤ s) (h1 : s < 1000000000) :
    ((setw X' (i + up) s.toNat : Nat) : Int) + q * (BB : Int) ^ (i + 1 + up) = X + f * ((Y % BB ^ (i + 1) : Nat) : Int) * (BB : Int) ^ up := by
  have hs : s = (wd X' (i + up) + rest + f * wd Y i) % (BB : Int) := by rw [← hq, BBi]; omega
  have hd : q = (wd X' (i + up) + rest + f * wd Y i) / (BB : Int) := by rw [← hq, BBi]; omega
  have h := carry_step X' (wd Y i) (i + up) rest f _ rfl
  rw [← hs, ← hd] at h
  rw [show i + 1 + up = i + up + 1 by omega, h, hI, mod_pow_succ, Int.natCast_add, Int.natCast_mul, Int.natCast_pow, Int.mul_add, Int.add_mul, Int.pow_add]
  rw [Int.add_assoc]; congr 2; ac_rfl
theorem mod_nw {Y i : Nat} (h : nw Y ≤ i) : Y % BB ^ i = Y := Nat.mod_eq_of_lt (nw_le_iff.1 h)

/-! ## comparing -/
theorem div_word (V i : Nat) : V / BB ^ i = V / BB ^ (i + 1) * BB + wd V i := by
  unfold wd
  rw [Nat.pow_succ, ← Nat.div_div_eq_div_mul, Nat.div_add_mod']
theorem lt_of_div_lt {U V k : Nat} (h : U / k < V / k) : U < V := Nat.lt_of_not_le fun hl => by have := Nat.div_le_div_right (c := k) hl; omega
theorem lt_of_nw {U V : Nat} (h : nw U < nw V) : U < V := Nat.lt_of_not_le fun hl => by
  have := nw_le (V := V) (n := nw U) (Nat.lt_of_le_of_lt hl (lt_nw U)); omega

/-! ## with a sign -/
def sv (less : Bool) (V : Nat) : Int := if less then -(V : Int) else V

end Go.Proofs.YtfebiipggcgmdaaGreatDoor

namespace Go.Proofs.YtfebiipggcgmdaaGreatDoor
open Go.RowKit

/-! ## worlds -/
theorem gb_refl (w : World) (r : Option Nat) : w.grownBy w r := ⟨rfl, rfl, rfl, Nat.le_refl _, fun _ _ _ => rfl⟩
theorem gb_trans {w w1 w2 : World} {r : Option Nat} (h : w.grownBy w1 r) (k : w1.grownBy w2 r) : w.grownBy w2 r :=
  ⟨k.os.trans h.os, k.tape.trans h.tape, k.output.trans h.output, Nat.le_trans h.size k.size, fun i hi hr => (k.block i (Nat.lt_of_lt_of_le hi h.size) hr).trans (h.block i hi hr)⟩
theorem gb_drewN {w w1 : World} {r : Option Nat} (h : w.grownBy w1 r) (n : Nat) : w.grownBy (w1.drewN n) r := ⟨h.os, h.tape, h.output, h.size, h.block⟩
theorem gb_setCell {w w1 : World} {b : Nat} (h : w.grownBy w1 (some b)) (o : Nat) (v : Value) : w.grownBy (w1.setCell ⟨b, o, none⟩ v) (some b) := by
  refine gb_trans h ⟨rfl, rfl, rfl, by simp [World.setCell], fun i _ hr => ?_⟩
  exact Below.heap_setCell _ _ _ _ (fun e => hr (by rw [e]))
theorem gb_alloc {w w1 : World} {r : Option Nat} (h : w.grownBy w1 r) (o : Obj) : w.grownBy (w1.alloc o) r := gb_trans h (World.grownBy_alloc _ _ _)
theorem gb_below {w w1 : World} (h : Below w.heap.size w w1) (r : Option Nat) : w.grownBy w1 r := ⟨h.os, h.tape, h.output, h.size, fun i hi _ => h.block i hi⟩
theorem gb_new {w w1 w2 : World} {r : Option Nat} {k : Nat} (h : w.grownBy w1 r) (g : w1.grownBy w2 (some k)) (hk : w.heap.size ≤ k) : w.grownBy w2 r :=
  ⟨g.os.trans h.os, g.tape.trans h.tape, g.output.trans h.output, Nat.le_trans h.size g.size, fun i hi hr => (g.block i (Nat.lt_of_lt_of_le hi h.size) (fun e => by injection e with e; omega)).trans (h.block i hi hr)⟩
theorem below_gb {B : Nat} {w w1 w2 : World} {b : Nat} (h : Below B w w1) (k : w1.grownBy w2 (some b)) (hb : B ≤ b) (hB : B ≤ w1.heap.size) : Below B w w2 :=
  ⟨k.os.trans h.os, k.tape.trans h.tape, k.output.trans h.output, Nat.le_trans h.size k.size, fun i hi => (k.block i (by omega) (fun e => by injection e with e; omega)).trans (h.block i hi)⟩

/-- The world is the old one, some orders having been drawn. -/
def Dr (w w' : World) : Prop := ∃ m, w' = w.drewN m
theorem Dr.refl (w : World) : Dr w w := ⟨0, rfl⟩
theorem Dr.of (w : World) (m : Nat) : Dr w (w.drewN m) := ⟨m, rfl⟩
theorem Dr.step {w w' : World} (h : Dr w w') (n : Nat) : Dr w (w'.drewN n) := by
  obtain ⟨m, rfl⟩ := h
  exact ⟨m + n, World.drewN_drewN ..⟩
theorem Dr.drew {w w' : World} (h : Dr w w') : Dr w w'.drew := h.step 1
theorem Dr.trans {w w1 w2 : World} (h : Dr w w1) (k : Dr w1 w2) : Dr w w2 := by
  obtain ⟨m, rfl⟩ := k
  exact h.step m
theorem Dr.below {w w' : World} (h : Dr w w') (B : Nat) : Below B w w' := by
  obtain ⟨m, rfl⟩ := h
  exact ⟨rfl, rfl, rfl, Nat.le_refl _, fun _ _ => rfl⟩

/-! ## integers of many words -/
/-- Block b is a wide integer: its sign, its number of words, its words. -/
structure IsW (w : World) (b : Nat) (less : Bool) (n V : Nat) : Prop where
  blk : ∃ cs : Array Value, w.heap[b]? = some (.cells cs 167 (0, 0)) ∧ cs.size = 234 ∧ cs[0]? = some (.bool less) ∧ cs[1]? = some (.int .i64 n) ∧ ∀ i, i < 232 → cs[2 + i]? = some (.int .i64 (wd V i))
  lt : V < BB ^ 232
  le : n ≤ 232

section
variable {w w' : World} {b n V : Nat} {less : Bool}
theorem IsW.sgn (h : IsW w b less n V) : w.cell? ⟨b, 0, none⟩ = some (.bool less) := by
  obtain ⟨cs, hb, _, h0, _⟩ := h.blk
  simp [World.cell?, hb, h0]
theorem IsW.num (h : IsW w b less n V) : w.cell? ⟨b, 1, none⟩ = some (.int .i64 n) := by
  obtain ⟨cs, hb, _, _, h0, _⟩ := h.blk
  simp [World.cell?, hb, h0]
theorem IsW.word (h : IsW w b less n V) (i : Nat) (hi : i < 232) : w.cell? ⟨b, 2 + i, none⟩ = some (.int .i64 (wd V i)) := by
  obtain ⟨cs, hb, _, _, _, h0⟩ := h.blk
  simp [World.cell?, hb, h0 i hi]
theorem IsW.free (h : IsW w b less n V) (o : Nat) : w.frozen? ⟨b, o, none⟩ = false := by
  obtain ⟨cs, hb, _⟩ := h.blk
  simp [World.frozen?, hb]
theorem IsW.lt_size (h : IsW w b less n V) : b < w.heap.size := by
  obtain ⟨cs, hb, _⟩ := h.blk
  exact (Array.getElem?_eq_some_iff.1 hb).1
theorem IsW.kept (h : IsW w b less n V) (hk : w'.heap[b]? = w.heap[b]?) : IsW w' b less n V := by
  obtain ⟨cs, hb, r⟩ := h.blk
  exact ⟨⟨cs, by rw [hk]; exact hb, r⟩, h.lt, h.le⟩
theorem IsW.drewN (h : IsW w b less n V) (k : Nat) : IsW (w.drewN k) b less n V := h.kept rfl
theorem IsW.below (h : IsW w b less n V) {B : Nat} (hb : Below B w w') (hB : b < B) : IsW w' b less n V := h.kept (hb.block b hB)
theorem IsW.gb (h : IsW w b less n V) {r : Option Nat} (hg : w.grownBy w' r) (hr : some b ≠ r) : IsW w' b less n V := h.kept (hg.block b h.lt_size hr)
theorem IsW.alloc (h : IsW w b less n V) (o : Obj) : IsW (w.alloc o) b less n V := h.kept (Below.heap_alloc _ _ _ h.lt_size)
theorem IsW.other (h : IsW w b less n V) {a : Addr} (ha : b ≠ a.block) (v : Value) : IsW (w.setCell a v) b less n V := h.kept (Below.heap_setCell _ _ _ _ ha)

theorem heap_setCell_at {w : World} {b o : Nat} {cs : Array Value} {t : TypeId} {fz : Nat × Nat} (h : w.heap[b]? = some (.cells cs t fz)) (v : Value) :
    (w.setCell ⟨b, o, none⟩ v).heap[b]? = some (.cells (cs.setIfInBounds o v) t fz) := by
  show (w.heap.modify b _)[b]? = _
  rw [Array.getElem?_modify, if_pos rfl, h]
  rfl

theorem cell_set_ne {w : World} {b o o' : Nat} {v : Value} (h : o ≠ o') : (w.setCell ⟨b, o, none⟩ v).cell? ⟨b, o', none⟩ = w.cell? ⟨b, o', none⟩ := by
  simp only [World.cell?, World.setCell, Array.getElem?_modify, if_pos]
  cases w.heap[b]? with
  | none => rfl
  | some x =>
    cases x <;> simp [Array.getElem?_setIfInBounds_ne h]

/-- The number of words is written. -/
theorem IsW.setn (h : IsW w b less n V) {m : Nat} (hm : m ≤ 232) : IsW (w.setCell ⟨b, 1, none⟩ (.int .i64 m)) b less m V := by
  obtain ⟨cs, hb, hs, h0, h1, h2⟩ := h.blk
  refine ⟨⟨_, heap_setCell_at hb _, by simp [hs], ?_, ?_, fun i hi => ?_⟩, h.lt, hm⟩
  · rw [Array.getElem?_setIfInBounds_ne (by omega)]; exact h0
  · rw [Array.getElem?_setIfInBounds_self_of_lt (by omega)]
  · rw [Array.getElem?_setIfInBounds_ne (by omega)]; exact h2 i hi
/-- The sign is written. -/
theorem IsW.sets (h : IsW w b less n V) (l : Bool) : IsW (w.setCell ⟨b, 0, none⟩ (.bool l)) b l n V := by
  obtain ⟨cs, hb, hs, h0, h1, h2⟩ := h.blk
  refine ⟨⟨_, heap_setCell_at hb _, by simp [hs], ?_, ?_, fun i hi => ?_⟩, h.lt, h.le⟩
  · rw [Array.getElem?_setIfInBounds_self_of_lt (by omega)]
  · rw [Array.getElem?_setIfInBounds_ne (by omega)]; exact h1
  · rw [Array.getElem?_setIfInBounds_ne (by omega)]; exact h2 i hi
/-- A word is written. -/
theorem IsW.setw (h : IsW w b less n V) {j : Nat} (hj : j < 232) {s : Nat} (hs : s < BB) : IsW (w.setCell ⟨b, 2 + j, none⟩ (.int .i64 s)) b less n (setw V j s) := by
  obtain ⟨cs, hb, hz, h0, h1, h2⟩ := h.blk
  refine ⟨⟨_, heap_setCell_at hb _, by simp [hz], ?_, ?_, fun i hi => ?_⟩, setw_lt hs h.lt hj, h.le⟩
  · rw [Array.getElem?_setIfInBounds_ne (by omega)]; exact h0
  · rw [Array.getElem?_setIfInBounds_ne (by omega)]; exact h1
  · rw [wd_setw _ _ _ _ hs]
    by_cases e : i = j
    · subst e; rw [if_pos rfl, Array.getElem?_setIfInBounds_self_of_lt (by omega)]
    · rw [if_neg e, Array.getElem?_setIfInBounds_ne (by omega)]; exact h2 i hi
end
end Go.Proofs.YtfebiipggcgmdaaGreatDoor
