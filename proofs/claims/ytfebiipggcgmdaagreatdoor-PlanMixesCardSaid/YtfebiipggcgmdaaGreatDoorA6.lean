import Derived.Test.YtfebiipggcgmdaaGreatDoorA5
import Derived.Test.YtfebiipggcgmdaaGreatDoorA4
namespace Go.Proofs.YtfebiipggcgmdaaGreatDoor
open Go.RowKit

/-! ## the texts of integers, as the walk meets them -/
theorem it_bytes (z : Int) : ∃ c t, Lib.itoa z = c :: t ∧ it z = ⟨(c :: t).toArray⟩ := by
  obtain ⟨c, t, h⟩ := List.exists_cons_of_ne_nil (itoa_ne z)
  exact ⟨c, t, h, by unfold it; rw [h]⟩

theorem itoa_head_neg {z : Int} {c : UInt8} {t : List UInt8} (h : Lib.itoa z = c :: t) : c = 45 ↔ z < 0 := by
  constructor
  · intro hc
    refine Int.not_le.1 fun hz => ?_
    obtain ⟨n, rfl⟩ := Int.eq_ofNat_of_zero_le hz
    have h2 : Lib.itoa (n : Int) = Lib.decDigits n := itoa_nat n
    rw [h2, hc] at h
    exact not45 h
  · intro hz
    unfold Lib.itoa at h
    rw [if_pos hz] at h
    exact (List.cons.inj h).1.symm
theorem itoa_0 : Lib.itoa 0 = [48] := by rw [show (0 : Int) = ((0 : Nat) : Int) from rfl, itoa_nat, dec_zero]
theorem itoa_zero_iff (z : Int) : Lib.itoa z = [48] ↔ z = 0 := by
  constructor
  · intro h; exact itoa_inj (h.trans itoa_0.symm)
  · rintro rfl; exact itoa_0
theorem first_byte (c : UInt8) (t : List UInt8) (h : 0 < (⟨(c :: t).toArray⟩ : ByteArray).size) : (⟨(c :: t).toArray⟩ : ByteArray)[0] = c := rfl

set_option maxRecDepth 100000 in
theorem sign_any (z : Int) (w : World) : Calls Tryz.prog 118 #[.string (it z)] w fun e w' => e = .returned (.int .i64 z.sign) ∧ w' = w := by
  obtain ⟨c, t, h1, h2⟩ := it_bytes z
  rw [h2]
  have hn := itoa_head_neg h1
  have hz := itoa_zero_iff z
  rw [h1] at hz
  have HN := Lib.hid hn
  have HZ := Lib.hid hz
  clear hn hz h1 h2
  go_enter Tryz.func118, Tryz.ntmps118
  go_wp2
  · have h1 : (c == 48) = true ∧ t.isEmpty = true := by assumption
    have hz := HZ.out.1 (by rw [eq_of_beq h1.1, List.isEmpty_iff.1 h1.2])
    go_ret
    exact ⟨by rw [hz]; rfl, rfl⟩
  · have h2 : ((c.toNat : Int) == 45) = true := by assumption
    have hz := HN.out.1 (UInt8.toNat_inj.1 (by have := eq_of_beq h2; exact Int.ofNat.inj this))
    go_ret
    exact ⟨by rw [Int.sign_eq_neg_one_of_neg hz]; rfl, rfl⟩
  · have h1 : (c == 48) = false ∨ t.isEmpty = false := by assumption
    have h2 : ((c.toNat : Int) == 45) = false := by assumption
    have hz0 : z ≠ 0 := fun e => by
      have := HZ.out.2 e
      injection this with a b
      subst a b
      simp at h1
    have hz1 : ¬ z < 0 := fun e => by
      have := HN.out.2 e
      subst this
      simp at h2
    go_ret
    exact ⟨by rw [Int.sign_eq_one_of_pos (by omega)]; rfl, rfl⟩

theorem decFrom_dig {l : List UInt8} (h : Dig l) : ∀ acc, Lib.decFrom acc l = some (acc * 10 ^ l.length + dv l) := by
  induction l with
  | nil => intro acc; simp [Lib.decFrom, dv_nil]
  | cons c r ih =>
    intro acc
    have hc := h c (by simp)
    have hv : Lib.digitVal c = some (c.toNat - 48) := by unfold Lib.digitVal; rw [if_pos hc]
    simp only [Lib.decFrom, hv]
    rw [ih (fun b hb => h b (by simp [hb])), dv_cons, List.length_cons, Nat.pow_succ, Nat.add_mul]
    congr 1
    have : acc * 10 * 10 ^ r.length = acc * (10 ^ r.length * 10) := by rw [Nat.mul_assoc, Nat.mul_comm 10]
    omega
theorem decNat_dec (u : Nat) : Lib.decNat (Lib.decDigits u) = some u := by
  unfold Lib.decNat
  have hne := dec_ne u
  rw [if_neg (by simpa using hne), decFrom_dig (dec_dig u), dv_dec]; simp
theorem atoi_itoa (z : Int) : Lib.atoi (Lib.itoa z) = some z := by
  rcases Int.eq_nat_or_neg z with ⟨n, rfl | rfl⟩
  · rw [itoa_nat]
    obtain ⟨c, t, h⟩ := List.exists_cons_of_ne_nil (dec_ne n)
    have hc := dec_dig n c (by rw [h]; simp)
    have h1 : (c == 45) = false := by rw [beq_eq_false_iff_ne]; rintro rfl; simp at hc
    have h2 : (c == 43) = false := by rw [beq_eq_false_iff_ne]; rintro rfl; simp at hc
    have := decNat_dec n
    rw [h] at this ⊢
    simp only [Lib.atoi, h1, h2, this]; rfl
  · rcases Nat.eq_zero_or_pos n with rfl | hn
    · rw [show -((0 : Nat) : Int) = 0 from rfl, itoa_0]; rfl
    · rw [itoa_neg n hn]
      have := decNat_dec n
      simp only [Lib.atoi, this]; rfl

/-- an integer whose text is not too long -/
def In (z : Int) : Prop := dl z ≤ 1024
theorem it_sz (z : Int) : (it z).size = dl z + if z < 0 then 1 else 0 := by rw [it_size, itoa_length]
theorem it_le {z : Int} (h : In z) : (it z).size ≤ 1025 := by rw [it_sz]; unfold In at h; split <;> omega
theorem In.of_lt {z : Int} (h : z.natAbs < 10 ^ 1024) : In z := (dl_le_iff (by omega)).2 h

theorem check_it (z : Int) (w : World) (h : In z) : Calls Tryz.prog 108 #[.string (it z)] w fun e w' => e = .returned (.int .i64 0) ∧ Below w.heap.size w w' := by
  refine (check_any (it z) w (by have := it_le h; omega)).mono ?_
  rintro e w' ⟨rfl, hb⟩
  rw [wChk_it, if_pos (show dl z ≤ 1024 from h)]
  exact ⟨rfl, hb⟩

set_option maxRecDepth 100000 in
set_option maxHeartbeats 800000 in
theorem all_ok (g : Nat) (a b : Int) (w : World) (ha : In a) (hb : In b) (h0 : w.cell? ⟨g, 0, none⟩ = some (.string (it a))) (h1 : w.cell? ⟨g, 1, none⟩ = some (.string (it b))) :
    Calls Tryz.prog 106 #[.slice (some ⟨g, 0, none⟩) 2 2] w fun e w' => e = .returned (.int .i64 0) ∧ Below w.heap.size w w' := by
  have hg := World.block_lt_of_cell? w _ h0
  have HA := Lib.hid ha
  have HB := Lib.hid hb
  clear ha hb
  go_enter Tryz.func106, Tryz.ntmps106
  go_wp2
  go_loopg [8] 2 (fun k i wr => ∃ j : Nat, i = .int .i64 j ∧ j + k = 2 ∧ Below w.heap.size w wr)
  case atStart => exact ⟨0, rfl, rfl, Below.refl _ _⟩
  case round =>
    obtain ⟨j, rfl, hk, hbl⟩ := hrel
    have c0 := (hbl.cell (p := ⟨g, 0, none⟩) hg).trans h0
    have c1 := (hbl.cell (p := ⟨g, 1, none⟩) hg).trans h1
    rcases (show j = 0 ∨ j = 1 ∨ j = 2 by omega) with rfl | rfl | rfl
    · go_wp2_with fail
      refine (check_it a _ HA.out).mono ?_
      rintro e w1 ⟨rfl, hb1⟩
      have HB1 := Lib.hid (hbl.trans (hb1.mono hbl.size))
      clear hb1
      go_wp2
      go_roundg 1
      case rel => exact ⟨1, rfl, rfl, HB1.out⟩
      case measure => omega
    · go_wp2_with fail
      refine (check_it b _ HB.out).mono ?_
      rintro e w1 ⟨rfl, hb1⟩
      have HB1 := Lib.hid (hbl.trans (hb1.mono hbl.size))
      clear hb1
      go_wp2
      go_roundg 0
      case rel => exact ⟨2, rfl, rfl, HB1.out⟩
      case measure => omega
    · go_wp2
      go_ret
      exact ⟨rfl, hbl⟩
end Go.Proofs.YtfebiipggcgmdaaGreatDoor

namespace Go.Proofs.YtfebiipggcgmdaaGreatDoor
open Go.RowKit

/-! ## whole.read: the plain part -/
theorem dig_take {l : List UInt8} (h : Dig l) (n : Nat) : Dig (l.take n) := fun b hb => h b (List.mem_of_mem_take hb)
theorem dig_drop {l : List UInt8} (h : Dig l) (n : Nat) : Dig (l.drop n) := fun b hb => h b (List.mem_of_mem_drop hb)
theorem BB_pow (j : Nat) : BB ^ j = 10 ^ (9 * j) := by rw [Nat.pow_mul]; rfl

/-- atoi of digits -/
theorem atoi_dig {l : List UInt8} (h : Dig l) (hne : l ≠ []) : Lib.atoi l = some (dv l : Int) := by
  obtain ⟨c, t, rfl⟩ := List.exists_cons_of_ne_nil hne
  have hc := h c (by simp)
  have h1 : (c == 45) = false := by rw [beq_eq_false_iff_ne]; rintro rfl; simp at hc
  have h2 : (c == 43) = false := by rw [beq_eq_false_iff_ne]; rintro rfl; simp at hc
  have h3 : Lib.decNat (c :: t) = some (dv (c :: t)) := by
    unfold Lib.decNat
    rw [if_neg (by simp), decFrom_dig h]; simp
  simp only [Lib.atoi, h1, h2, h3]; rfl

/-- one round: nine digits more, or all that are left -/
theorem read_step {D : List UInt8} (hD : Dig D) {m j : Nat} (hm : m ≤ D.length) (hm0 : 0 < m) (hl : D.length - m = 9 * j) :
    dv (D.drop m) < BB ^ j ∧ dv ((D.take m).drop (m - 9)) < BB ∧ dv (D.drop (m - 9)) = setw (dv (D.drop m)) j (dv ((D.take m).drop (m - 9))) := by
  have h1 : dv (D.drop m) < BB ^ j := by
    have := dv_lt (dig_drop hD m)
    rw [List.length_drop, hl] at this
    rw [BB_pow]; exact this
  have h2 : dv ((D.take m).drop (m - 9)) < BB := by
    have := dv_lt (dig_drop (dig_take hD m) (m - 9))
    refine Nat.lt_of_lt_of_le this ?_
    rw [List.length_drop, List.length_take, Nat.min_eq_left hm]
    have e : BB = 10 ^ 9 := rfl
    rw [e]; exact Nat.pow_le_pow_right (by omega) (by omega)
  refine ⟨h1, h2, ?_⟩
  have h3 : D.drop (m - 9) = (D.take m).drop (m - 9) ++ D.drop m := by
    conv => lhs; rw [← List.take_append_drop m D]
    rw [List.drop_append_of_le_length (by rw [List.length_take]; omega)]
  rw [h3, dv_append, List.length_drop, hl, ← BB_pow]
  unfold setw
  rw [Nat.mod_eq_of_lt h1, Nat.div_eq_of_lt (Nat.lt_of_lt_of_le h1 (Nat.pow_le_pow_right BB_pos (by omega)))]
  omega

theorem mag_itoa (z : Int) : Lib.trimPrefix (Lib.itoa z) [45] = Lib.decDigits z.natAbs := by
  have h := mag_eq (Lib.itoa z)
  unfold mag at h
  rw [h]
  by_cases hz : z < 0
  · have e : Lib.itoa z = 45 :: Lib.decDigits z.natAbs := by unfold Lib.itoa; rw [if_pos hz]
    rw [e]; simp
  · have e : Lib.itoa z = Lib.decDigits z.natAbs := by unfold Lib.itoa; rw [if_neg hz]; congr 1; omega
    rw [e, if_neg]
    intro h2
    cases hd : Lib.decDigits z.natAbs with
    | nil => rw [hd] at h2; cases h2
    | cons c t => rw [hd] at h2; simp at h2; subst h2; exact not45 hd

set_option maxRecDepth 100000 in
set_option maxHeartbeats 3200000 in
theorem read_any (z : Int) (w : World) (h : In z) :
    Calls Tryz.prog 130 #[.string (it z)] w (NewW (decide (z < 0)) z.natAbs w) := by
  have hlen : (Lib.decDigits z.natAbs).length ≤ 1024 := by rw [Lib.decDigits_length]; exact h
  have hmag := mag_itoa z
  rw [← it_list] at hmag
  have hdig := dec_dig z.natAbs
  have hdv := dv_dec z.natAbs
  obtain ⟨c, t, h1, h2⟩ := it_bytes z
  rw [h2] at hmag ⊢
  have hn := itoa_head_neg h1
  generalize Lib.decDigits z.natAbs = D at *
  have HN := Lib.hid hn
  have HM := Lib.hid hmag
  have HDIG := Lib.hid hdig
  have HDV := Lib.hid hdv
  clear hn hmag hdig hdv h1 h2 h
  go_enter Tryz.func130, Tryz.ntmps130
  go_wp2_with fail
  refine (Tryz.strings_TrimPrefix _ _ _).mono ?_
  rintro e w1 ⟨rfl, rfl⟩
  rw [show ({ data := #[45] } : ByteArray).data.toList = [45] from rfl, HM.out]
  clear HM
  go_wp2_with fail
  have hb0 : (((c.toNat : Int) == 45) : Bool) = decide (z < 0) := by
    by_cases hz : z < 0
    · rw [HN.out.2 hz, decide_eq_true hz]; rfl
    · rw [decide_eq_false hz, beq_eq_false_iff_ne]
      intro e
      exact hz (HN.out.1 (UInt8.toNat_inj.1 (Int.ofNat.inj e)))
  have hnew := isW_new w ((c.toNat : Int) == 45)
  have HB0 := Lib.hid hb0
  have HNEW := Lib.hid hnew
  clear hnew hb0 HN
  have hdn : D.drop D.length = [] := List.drop_length
  have HDN := Lib.hid hdn
  clear hdn
  go_loopg [3, 5] D.length (fun k s f wr => ∃ (u : ByteArray) (j : Nat), s = .string u ∧ u.data.toList = D.take k ∧ k ≤ D.length ∧ (k = 0 ∨ D.length - k = 9 * j) ∧ 9 * j ≤ D.length + 8 ∧ dv (D.drop k) < BB ^ j ∧ IsW wr w.heap.size ((c.toNat : Int) == 45) j (dv (D.drop k)) ∧ Below w.heap.size w wr)
  case atStart => exact ⟨⟨D.toArray⟩, 0, rfl, by simp, Nat.le_refl _, .inr (by omega), by omega, by rw [HDN.out]; exact BBp _, by rw [HDN.out]; exact HNEW.out, (Below.refl _ _).alloc (Nat.le_refl _) _⟩
  case round =>
    obtain ⟨u, j, rfl, hu, hk, hkj, hj9, hlt, hw, hb⟩ := hrel
    have hus : u.size = gk := by
      have : u.data.toList.length = gk := by rw [hu, List.length_take]; omega
      exact this
    by_cases h0 : gk = 0
    · have hus0 : u.size ≤ 0 := by omega
      have HK := Lib.hid h0
      have HU := Lib.hid hu
      have HUS := Lib.hid hus
      clear h0 hu hus hkj
      go_wp2_with fail
      refine (trimmed_any _ j _ _ _ hw hlt).mono ?_
      rintro e w3 ⟨rfl, hw3, hg3⟩
      have HW3 := Lib.hid hw3
      have HG3 := Lib.hid hg3
      clear hw3 hg3
      go_wp2
      go_ret
      have e0 : dv (D.drop gk) = z.natAbs := by rw [HK.out, List.drop_zero, HDV.out]
      refine ⟨_, rfl, Nat.le_refl _, ?_, below_gb hb HG3.out (Nat.le_refl _) hb.size⟩
      rw [← e0, ← HB0.out]; exact HW3.out
    · have hm0 : 0 < gk := by omega
      have hst := read_step HDIG.out hk hm0 (by omega) (j := j)
      have HST := Lib.hid hst
      have HU := Lib.hid hu
      have hkj2 : D.length - gk = 9 * j := by omega
      have HKJ := Lib.hid hkj2
      have hj : j < 232 := by omega
      have c1 := hw.num
      have HW := Lib.hid hw
      clear hu hst hw hkj hkj2
      obtain ⟨m, hm, hm2, hm3⟩ : ∃ m, m = gk - 9 ∧ m ≤ gk ∧ m < gk := ⟨gk - 9, rfl, by omega, by omega⟩
      have hmx : max (0 : Int) ((gk : Int) - 9) = m := by omega
      have HUS := Lib.hid hus
      subst hus
      have hex : (u.extract m u.size).data.toList = (D.take u.size).drop (u.size - 9) := by
        rw [Lib.extract_to_end, HU.out, hm]
      have hat : Lib.atoi (u.extract m u.size).data.toList = some (dv ((D.take u.size).drop (u.size - 9)) : Int) := by
        rw [hex]
        refine atoi_dig (dig_drop (dig_take HDIG.out _) _) (fun e => ?_)
        have := congrArg List.length e
        rw [List.length_drop, List.length_take] at this
        simp at this; omega
      have hsz : (u.extract m u.size).size ≤ 18 := by
        have : (u.extract m u.size).data.toList.length ≤ 18 := by rw [hex, List.length_drop, List.length_take]; omega
        exact this
      have HAT := Lib.hid hat
      have HSZ := Lib.hid hsz
      have HM := Lib.hid hm
      have c2 := HW.out.word j hj
      have f2 := HW.out.free (2 + j)
      have hlw := HW.out.lt_size
      clear hex hat hsz hm
      generalize dv (D.drop u.size) = P at *
      have hj1 : (0 : Int) ≤ j := by omega
      have hj2 : (j : Int) < 232 := by omega
      have hm1 : (0 : Int) ≤ m := by omega
      go_wp2_with fail
      go_region_held3 (fun w' => w'.cell? ⟨w.heap.size, 1, none⟩ = some (.int .i64 j)) (first | go_keep | exact (hbA.cell (p := ⟨w.heap.size, 1, none⟩) hlw).trans c1 | exact (cell_set_ne (by omega)).trans ((hbA.cell (p := ⟨w.heap.size, 1, none⟩) hlw).trans c1)) (first | (go_at_call 149; refine (atoi_any _ _ HSZ.out HAT.out _).mono ?_; rintro e w2 ⟨rfl, hbA⟩; have c2' := (hbA.cell (p := ⟨w.heap.size, 2 + j, none⟩) hlw).trans c2; have f2' := (hbA.frozen (p := ⟨w.heap.size, 2 + j, none⟩) hlw).trans f2))
      have c1' := (hbA.cell (p := ⟨w.heap.size, 1, none⟩) hlw).trans c1
      have f1' := (hbA.frozen (p := ⟨w.heap.size, 1, none⟩) hlw).trans (HW.out.free 1)
      have HW2 := Lib.hid ((HW.out.drewN 1).below hbA hlw)
      have HB2 := Lib.hid (hb.drew.trans (hbA.mono hb.size))
      clear c2' f2' hbA hb c1 c2 f2 hj1
      go_wp2
      obtain ⟨s1, s2, s3⟩ := HST.out
      go_roundg m
      case rel =>
        have hM := HM.out
        have hK := HKJ.out
        refine ⟨_, j + 1, rfl, ?_, by omega, by omega, by omega, ?_, ?_, (HB2.out.setCell (p := ⟨w.heap.size, 2 + j, none⟩) (Nat.le_refl _) _).setCell (p := ⟨w.heap.size, 1, none⟩) (Nat.le_refl _) _⟩
        · rw [Lib.extract_from_zero, HU.out, List.take_take, Nat.min_eq_left hm2]
        · rw [hM, s3]
          exact setw_lt s2 (Nat.lt_of_lt_of_le s1 (Nat.pow_le_pow_right BB_pos (by omega))) (by omega)
        · rw [show D.drop m = D.drop (u.size - 9) by rw [hM], s3]
          exact (HW2.out.setw hj s2).setn (m := j + 1) (by omega)
      case measure => omega
end Go.Proofs.YtfebiipggcgmdaaGreatDoor

namespace Go.Proofs.YtfebiipggcgmdaaGreatDoor
open Go.RowKit

/-! ## (*wide).text: the plain part -/
def pad9 (c : Nat) : List UInt8 := List.replicate (9 - (Lib.decDigits c).length) 48 ++ Lib.decDigits c
theorem dv_zeros (n : Nat) (l : List UInt8) : dv (List.replicate n 48 ++ l) = dv l := by
  rw [dv_append]
  have : dv (List.replicate n 48) = 0 := by
    induction n with
    | zero => rfl
    | succ n ih => rw [List.replicate_succ, dv_cons, ih]; simp
  rw [this]; simp
theorem dec_len9 {c : Nat} (h : c < BB) : (Lib.decDigits c).length ≤ 9 := by
  rw [Lib.decDigits_length]; exact (nDigits_le_iff (by omega)).2 h
theorem pad9_length {c : Nat} (h : c < BB) : (pad9 c).length = 9 := by
  have := dec_len9 h
  unfold pad9; simp; omega
theorem dec_pad {u c : Nat} (hu : 1 ≤ u) (hc : c < BB) : Lib.decDigits (u * BB + c) = Lib.decDigits u ++ pad9 c := by
  have hd : Dig (Lib.decDigits u ++ pad9 c) := by
    intro b hb
    unfold pad9 at hb
    rcases List.mem_append.1 hb with h | h
    · exact dec_dig _ b h
    · rcases List.mem_append.1 h with h | h
      · rw [(List.mem_replicate.1 h).2]; decide
      · exact dec_dig _ b h
  have hh : (Lib.decDigits u ++ pad9 c).head? ≠ some 48 := by
    rw [List.head?_append]
    have := dec_head hu
    have hn := dec_ne u
    cases h : Lib.decDigits u with
    | nil => exact absurd h hn
    | cons a r => rw [h] at this; simpa using this
  have hv : dv (Lib.decDigits u ++ pad9 c) = u * BB + c := by
    rw [dv_append, pad9_length hc, dv_dec]
    unfold pad9; rw [dv_zeros, dv_dec]; rfl
  rw [← hv]
  exact (dec_of hd (by simp [dec_ne]) (.inr hh)).symm

/-- what the text begins with -/
def sgnL (l : Bool) : List UInt8 := if l then [45] else []
theorem itoa_sv {l : Bool} {V : Nat} (h : V ≠ 0) : Lib.itoa (sv l V) = sgnL l ++ Lib.decDigits V := by
  unfold sv sgnL
  cases l with
  | true => exact itoa_neg V (by omega)
  | false => exact itoa_nat V

theorem it_sv {l : Bool} {V : Nat} (h : V ≠ 0) : it (sv l V) = ⟨(sgnL l ++ Lib.decDigits V).toArray⟩ := by unfold it; rw [itoa_sv h]

theorem ownsRow_below {w w' : World} {B n : Nat} {e : TypeId} {size : Nat} {v : Value} {xs : List Value} (h : w.ownsRow B e size v n xs) (hb : Below w.heap.size w w') : w'.ownsRow B e size v n xs :=
  h.kept (gb_below hb none) (by cases v.ownBlock <;> simp)
theorem bld_below {w w' : World} {B b : Nat} {T e : TypeId} {bs : List Value} (h : Lib.IsBuilder T e B b bs w) (hb : Below w.heap.size w w') : Lib.IsBuilder T e B b bs w' := by
  have key : ∀ p, Lib.BuilderAt T e B b p bs w → Lib.BuilderAt T e B b p bs w' := by
    rintro p ⟨h1, v, h2, h3, h4⟩
    exact ⟨h1, v, by rw [hb.block b (Array.getElem?_eq_some_iff.1 h2).1]; exact h2, ownsRow_below h3 hb, h4⟩
  rcases h with h | h
  · exact .inl (key _ h)
  · exact .inr (key _ h)
theorem bld_new (w : World) (T e : TypeId) : Lib.IsBuilder T e w.heap.size w.heap.size [] (w.alloc (.cells #[.pointer none, .slice none 0 0] T)) :=
  .inl ⟨Nat.le_refl _, _, heap_alloc_new w _, World.ownsRow_nil _ _ _ _, by simp [Value.ownBlock]⟩

theorem it_nat_list (n : Nat) : (it (n : Int)).data.toList = Lib.decDigits n := by rw [it_list, itoa_nat]
theorem it_wd_size (V m : Nat) : (it (wd V m : Int)).size ≤ 9 := by
  have h := dec_len9 (wd_lt V m)
  rw [← it_nat_list] at h; exact h
theorem len_ok (l : Bool) (V m : Nat) : (Lib.byteCells (sgnL l)).length + (it (wd V m : Int)).size ≤ 140737488355328 := by
  have := it_wd_size V m
  have h2 : (Lib.byteCells (sgnL l)).length ≤ 1 := by cases l <;> simp [Lib.byteCells, sgnL]
  omega

theorem dec_len_big {V k n : Nat} (h : V < BB ^ n) (hn : 1 ≤ n) : (Lib.decDigits (V / BB ^ k)).length ≤ 9 * n := by
  rw [Lib.decDigits_length]
  refine (nDigits_le_iff (by omega)).2 ?_
  rw [← BB_pow]
  exact Nat.lt_of_le_of_lt (Nat.div_le_self _ _) h
theorem data_append' (a b : ByteArray) : (a ++ b).data.toList = a.data.toList ++ b.data.toList := by
  rw [ByteArray.data_append]; simp
theorem byteCells_append (a b : List UInt8) : Lib.byteCells (a ++ b) = Lib.byteCells a ++ Lib.byteCells b := by simp [Lib.byteCells]
/-- the zeros in front, and the digits -/
theorem pad_text (c : Nat) (hc : c < BB) : ((⟨#[48, 48, 48, 48, 48, 48, 48, 48, 48]⟩ : ByteArray).extract (it (c : Int)).size 9 ++ it (c : Int)).data.toList = pad9 c := by
  rw [data_append', Lib.extract_data, it_nat_list]
  unfold pad9
  congr 1
  have h := dec_len9 hc
  have hs : (it (c : Int)).size = (Lib.decDigits c).length := by rw [← it_nat_list]; rfl
  rw [hs]
  have e : (⟨#[48, 48, 48, 48, 48, 48, 48, 48, 48]⟩ : ByteArray).data.toList = List.replicate 9 48 := rfl
  rw [e, List.drop_replicate, List.take_replicate, Nat.min_self]
theorem text_step {l : Bool} {V k : Nat} (hu : 1 ≤ V / BB ^ (k + 1)) : sgnL l ++ Lib.decDigits (V / BB ^ k) = (sgnL l ++ Lib.decDigits (V / BB ^ (k + 1))) ++ pad9 (wd V k) := by
  rw [div_word V k, dec_pad hu (wd_lt V k), List.append_assoc]

theorem blen (l : Bool) (D : List UInt8) : (Lib.byteCells (sgnL l ++ D)).length ≤ 1 + D.length := by
  rw [Lib.byteCells_length, List.length_append]
  have : (sgnL l).length ≤ 1 := by cases l <;> simp [sgnL]
  omega
theorem sgn_len' (l : Bool) : (sgnL l).length ≤ 1 := by cases l <;> simp [sgnL]

/-- The text of an integer is returned. -/
def TextEnd (z : Int) (w : World) (e : Ending) (w' : World) : Prop := e = .returned (.string (it z)) ∧ Below w.heap.size w w'

set_option maxRecDepth 100000 in
set_option maxHeartbeats 3200000 in
theorem text_any (b V : Nat) (l : Bool) (w : World) (h : IsW w b l (nw V) V) (he : Env w) :
    Calls Tryz.prog 152 #[.pointer (some ⟨b, 0, none⟩)] w (TextEnd (sv l V) w) := by
  by_cases h0 : V = 0
  · subst h0
    have hn : w.cell? ⟨b, 1, none⟩ = some (.int .i64 0) := by rw [h.num, nw_zero]; rfl
    go_enter Tryz.func152, Tryz.ntmps152
    go_wp2
    go_ret
    refine ⟨?_, Below.refl _ _⟩
    have : it (sv l 0) = ⟨#[48]⟩ := by
      have e : sv l 0 = 0 := by unfold sv; split <;> rfl
      rw [e]; unfold it; rw [itoa_0]
    rw [this]; rfl
  · have hn := h.num
    have hl := h.le
    have hs := h.sgn
    have hp := nw_pos h0
    have hbl := h.lt_size
    have H := Lib.hid h
    have HE := Lib.hid he
    clear h he
    generalize hN : nw V = n at *
    have HN := Lib.hid hN
    clear hN
    obtain ⟨m, rfl⟩ : ∃ m, n = m + 1 := ⟨n - 1, by omega⟩
    have hw1 := H.out.word m (by omega)
    have hwb := wd_lt V m
    unfold BB at hwb
    cases l
    case' true =>
      have HL1 := Lib.hid (len_ok true V m)
      have hbn := bld_new w 184 5
      have HBN := Lib.hid hbn
      clear hbn
      go_enter Tryz.func152, Tryz.ntmps152
      go_wp2_with fail
      refine (writeByte_any w.heap.size w.heap.size [] 45 _ HBN.out (by simp) (by simp)).mono ?_
      rintro e w1 ⟨rfl, hB1, hb1⟩
      have HBL : Hid (Lib.IsBuilder 184 5 w.heap.size w.heap.size (Lib.byteCells (sgnL true)) w1) := Lib.hid (.inr hB1)
      have HB1 := Lib.hid (((Below.refl w.heap.size w).alloc (Nat.le_refl _) (.cells #[.pointer none, .slice none 0 0] 184)).trans hb1)
      clear hB1 hb1 HBN
      go_wp2_with fail
    case' false =>
      have HL1 := Lib.hid (len_ok false V m)
      have hbn := bld_new w 184 5
      have HB0 := Lib.hid ((Below.refl w.heap.size w).alloc (Nat.le_refl _) (.cells #[.pointer none, .slice none 0 0] 184))
      have HBN := Lib.hid hbn
      clear hbn
      go_enter Tryz.func152, Tryz.ntmps152
      go_upto_region 6 with (fail)
      have HBL : Hid (Lib.IsBuilder 184 5 w.heap.size w.heap.size (Lib.byteCells (sgnL false)) (w.alloc (.cells #[.pointer none, .slice none 0 0] 184))) := HBN
      have HB1 := HB0
      clear HBN HB0
      generalize (w.alloc (.cells #[.pointer none, .slice none 0 0] 184)) = w1 at *
    all_goals
      have HE1 := Lib.hid (HE.out.below HB1.out)
      have HX1 := Lib.hid (H.out.below HB1.out hbl)
      have c1 := HX1.out.num
      have c2 := HX1.out.word m (by omega)
      have hbl1 := HX1.out.lt_size
      have HBD := Lib.hid (bld_below HBL.out ((Dr.of w1 1).below _))
      have hB1s := HB1.out.size
      clear hn hw1 hs
      have m0 : (0 : Int) ≤ m := by omega
      have m1 : (m : Int) < 232 := by omega
      have m2 : IntKind.i64.wrap (m : Int) = m := IntWalk.i64_in _ (by omega)
      have m3 : IntKind.i64.wrap ((m : Int) + 1 - 1) = m := by rw [IntWalk.i64_in _ (by omega)]; omega
      go_region_held3 (fun w' => w'.cell? ⟨b, 1, none⟩ = some (.int .i64 ((m + 1 : Nat) : Int)) ∧ w'.cell? ⟨b, 2 + m, none⟩ = some (.int .i64 (wd V m))) (first | exact ⟨c1, c2⟩ | exact ⟨(hbI.cell (p := ⟨b, 1, none⟩) hbl1).trans c1, (hbI.cell (p := ⟨b, 2 + m, none⟩) hbl1).trans c2⟩ | exact ⟨(hbW.cell (p := ⟨b, 1, none⟩) hbl).trans ((hbI.cell (p := ⟨b, 1, none⟩) hbl1).trans c1), (hbW.cell (p := ⟨b, 2 + m, none⟩) hbl).trans ((hbI.cell (p := ⟨b, 2 + m, none⟩) hbl1).trans c2)⟩ | go_keep) (first | (go_at_call 133; refine (itoa_any (wd V m) (by omega) (by omega) _ (HE1.out.drewN 1)).mono ?_; rintro e w2 ⟨rfl, hbI⟩; have HBI := Lib.hid hbI) | (go_at_call 169; refine (writeString_any w.heap.size w.heap.size _ _ _ (bld_below HBD.out hbI) HL1.out (Nat.le_trans hB1s hbI.size)).mono ?_; rintro e w3 ⟨rfl, hBW, hbW⟩))
      have c1' := (hbW.cell (p := ⟨b, 1, none⟩) hbl).trans ((hbI.cell (p := ⟨b, 1, none⟩) hbl1).trans c1)
      have HB3 := Lib.hid ((HB1.out.drew.trans (hbI.mono hB1s)).trans hbW)
      have HVB := Lib.hid (H.out.lt)
      have hVm : V / BB ^ m = wd V m := by
        rw [div_word V m, Nat.div_eq_of_lt (by rw [← HN.out]; exact lt_nw V)]; simp
      have HBW := Lib.hid (show Lib.IsBuilder 184 5 w.heap.size w.heap.size (Lib.byteCells (sgnL _ ++ Lib.decDigits (V / BB ^ m))) w3 from .inr (by rw [byteCells_append, hVm, ← it_nat_list]; exact hBW))
      clear hVm
      clear hbI hbW HBI c1 c2 HX1 HE1 HBD HBL hBW HL1
      clear m2 m3
      have hm2 : ((m + 1 : Nat) : Int) - 2 = (m : Int) - 1 := by omega
      have hu1 : ∀ k, k ≤ m → 1 ≤ V / BB ^ k := fun k hk => by
        have h1 := pow_le_of_nw h0
        rw [HN.out, Nat.add_sub_cancel] at h1
        have h2 := Nat.pow_le_pow_right BB_pos hk
        exact (Nat.one_le_div_iff (BBp _)).2 (by omega)
      have HU1 := Lib.hid hu1
      clear hu1
      go_wp2_with fail
      go_loopg [4, 5] m (fun k i s wr => ∃ q : Int, i = .int .i64 q ∧ q = (k : Int) - 1 ∧ k ≤ m ∧ Lib.IsBuilder 184 5 w.heap.size w.heap.size (Lib.byteCells (sgnL _ ++ Lib.decDigits (V / BB ^ k))) wr ∧ Below w.heap.size w wr)
      case atStart => exact ⟨_, rfl, by omega, Nat.le_refl _, HBW.out, HB3.out⟩
      case round =>
        obtain ⟨q, rfl, hq, hk, hbd, hb⟩ := hrel
        have hwsz := hb.size
        by_cases hz : gk = 0
        · obtain rfl : q = -1 := by omega
          subst hz
          have HBD := Lib.hid hbd
          have HB := Lib.hid hb
          clear hq hbd hb
          go_wp2_with fail
          refine (Tryz.Builder_String_any w.heap.size w.heap.size _ _ HBD.out hwsz).mono ?_
          rintro e w4 ⟨rfl, hb4⟩
          have HB4 := Lib.hid (HB.out.trans hb4)
          clear hb4
          go_wp2
          go_ret
          refine ⟨?_, HB4.out⟩
          rw [it_sv h0]; rfl
        · obtain ⟨k, rfl⟩ : ∃ k, gk = k + 1 := ⟨gk - 1, by omega⟩
          obtain rfl : q = (k : Int) := by omega
          clear hq hz
          have hXr := H.out.below hb hbl
          have xk := hXr.word k (by omega)
          have wk := wd_lt V k
          have HST := Lib.hid (fun l => text_step (l := l) (V := V) (k := k) (HU1.out (k + 1) hk))
          have HPT := Lib.hid (pad_text (wd V k) wk)
          have hsz9 := it_wd_size V k
          have HPL := Lib.hid (pad9_length wk)
          have HDL := Lib.hid (dec_len_big (V := V) (k := k + 1) (n := 232) HVB.out (by omega))
          have HE2 := Lib.hid (HE.out.below hb)
          have HBD := Lib.hid hbd
          have HB := Lib.hid hb
          unfold BB at wk
          clear hbd hb hXr c1'
          go_wp2_with fail
          refine (itoa_any (wd V k) (by omega) (by omega) _ HE2.out).mono ?_
          rintro e w4 ⟨rfl, hb4⟩
          have HB4 := Lib.hid hb4
          clear hb4
          go_wp2_with fail
          have hb4s := HB4.out.size
          refine (writeString_any w.heap.size w.heap.size _ _ _ (bld_below HBD.out HB4.out) ?hlen (by omega)).mono ?_
          case hlen =>
            have a1 := HDL.out
            have a4 : (({ data := #[48, 48, 48, 48, 48, 48, 48, 48, 48] } : ByteArray).extract (it (wd V k : Int)).size 9 ++ it (wd V k : Int)).size = 9 := by
              have := HPT.out
              have h2 := HPL.out
              rw [← this] at h2
              exact h2
            exact Nat.le_trans (Nat.add_le_add (blen _ _) (Nat.le_of_eq a4)) (by omega)
          rintro e w5 ⟨rfl, hB5, hb5⟩
          have HB5 := Lib.hid hB5
          have HBB := Lib.hid ((HB.out.trans (HB4.out.mono hwsz)).trans hb5)
          clear hB5 hb5
          go_wp2
          go_roundg k
          case rel =>
            refine ⟨_, rfl, rfl, by omega, .inr ?_, HBB.out⟩
            have := HB5.out
            rw [Lib.strCells_eq, HPT.out, ← byteCells_append, ← HST.out] at this
            exact this
          case measure => omega
end Go.Proofs.YtfebiipggcgmdaaGreatDoor
