import Derived.Test.YtfebiipggcgmdaaGreatDoorRA
namespace Go.Proofs.YtfebiipggcgmdaaGreatDoor
open Go.RowKit

theorem bl_dig : ∀ (l m : List UInt8), Dig l → Dig m → l.length = m.length → Op.bytesLess l m = decide (dv l < dv m)
  | [], [], _, _, _ => by simp [Op.bytesLess, dv]
  | [], _ :: _, _, _, h => by cases h
  | _ :: _, [], _, _, h => by cases h
  | a :: x, b :: y, hl, hm, h => by
    have hx : Dig x := fun c hc => hl c (List.mem_cons_of_mem _ hc)
    have hy : Dig y := fun c hc => hm c (List.mem_cons_of_mem _ hc)
    have hn : x.length = y.length := by simpa using h
    have ih := bl_dig x y hx hy hn
    have ha := hl a (by simp)
    have hb := hm b (by simp)
    have h1 := dv_lt hx
    have h2 := dv_lt hy
    rw [hn] at h1
    rw [Op.bytesLess, ih, dv_cons, dv_cons, hn]
    obtain ⟨p, hp⟩ : ∃ p : Nat, 10 ^ y.length = p := ⟨_, rfl⟩
    rw [hp] at h1 h2 ⊢
    have hab : (a < b) = (a.toNat < b.toNat) := rfl
    rcases Nat.lt_trichotomy a.toNat b.toNat with hlt | heq | hgt
    · have h3 : (a.toNat - 48 + 1) * p ≤ (b.toNat - 48) * p := Nat.mul_le_mul_right _ (by omega)
      rw [Nat.add_mul] at h3
      have hg : (a.toNat - 48) * p + dv x < (b.toNat - 48) * p + dv y := by omega
      rw [decide_eq_true (show a < b from hlt), decide_eq_true hg]
      rfl
    · have e : a = b := UInt8.toNat_inj.1 heq
      subst e
      simp
    · have h3 : (b.toNat - 48 + 1) * p ≤ (a.toNat - 48) * p := Nat.mul_le_mul_right _ (by omega)
      rw [Nat.add_mul] at h3
      have hne : ¬ a = b := fun e => by subst e; omega
      have hg : ¬ (a.toNat - 48) * p + dv x < (b.toNat - 48) * p + dv y := by omega
      rw [decide_eq_false (show ¬ a < b from fun h => by have : a.toNat < b.toNat := h; omega), decide_eq_false hg]
      simp [hne]
theorem dec_len_lt {a b : Nat} (h : (Lib.decDigits a).length < (Lib.decDigits b).length) : a < b := by
  have h1 := dv_lt (dec_dig a)
  rw [dv_dec] at h1
  rcases Nat.lt_or_ge a b with h2 | h2
  · exact h2
  · have h3 : (Lib.decDigits b).length ≤ (Lib.decDigits a).length := by
      rw [Lib.decDigits_length, Lib.decDigits_length]
      have hk : 1 ≤ Lib.nDigits a := by
        by_cases h9 : a < 10
        · rw [Lib.nDigits_small h9]; exact Nat.le_refl _
        · rw [Lib.nDigits_big h9]; omega
      refine (nDigits_le_iff hk).2 (Nat.lt_of_le_of_lt h2 ?_)
      rw [Lib.decDigits_length] at h1
      exact h1
    omega
theorem bl_it (a b : Nat) (h : (it (a : Int)).size = (it (b : Int)).size) : Op.bytesLess (it (a : Int)).toList (it (b : Int)).toList = decide (a < b) := by
  have ta : (it (a : Int)).toList = Lib.decDigits a := by rw [Lib.toList_data]; exact it_nat_list a
  have tb : (it (b : Int)).toList = Lib.decDigits b := by rw [Lib.toList_data]; exact it_nat_list b
  rw [ta, tb, bl_dig _ _ (dec_dig a) (dec_dig b) (by rw [it_nat_size, it_nat_size] at h; exact h), dv_dec, dv_dec]

set_option maxRecDepth 100000 in
theorem less_any (a b : Nat) (w : World) :
    Calls Tryz.prog 127 #[.string (it (a : Int)), .string (it (b : Int))] w fun e w' => e = .returned (.bool (decide (a < b))) ∧ w' = w := by
  have h1 := Lib.hid (bl_it a b)
  have h2 := Lib.hid (show (it (a : Int)).size < (it (b : Int)).size → a < b from fun h => dec_len_lt (by rw [it_nat_size, it_nat_size] at h; exact h))
  have h3 := Lib.hid (show (it (b : Int)).size < (it (a : Int)).size → b < a from fun h => dec_len_lt (by rw [it_nat_size, it_nat_size] at h; exact h))
  obtain ⟨s, hs⟩ : ∃ s, it (a : Int) = s := ⟨_, rfl⟩
  obtain ⟨t, ht⟩ : ∃ t, it (b : Int) = t := ⟨_, rfl⟩
  rw [hs] at h1 h2 h3 ⊢
  rw [ht] at h1 h2 h3 ⊢
  clear hs ht
  rcases Nat.lt_trichotomy s.size t.size with h | h | h
  · have hi : (s.size : Int) < t.size := by omega
    rw [decide_eq_true (h2.out h)]
    clear h
    go_enter Tryz.func127, Tryz.ntmps127
    go_wp2
    go_ret
    exact ⟨rfl, rfl⟩
  · have hi : ¬ (s.size : Int) < t.size := by omega
    have hb := h1.out h
    go_enter Tryz.func127, Tryz.ntmps127
    go_wp2
    go_ret
    refine ⟨?_, rfl⟩
    rw [← hb]
    simp
  · have hi : ¬ (s.size : Int) < t.size := by omega
    have hn : ¬ (s.size : Int) = t.size := by omega
    have hx := h3.out h
    have hab : decide (a < b) = false := decide_eq_false (by omega)
    rw [hab]
    clear hx hab
    go_enter Tryz.func127, Tryz.ntmps127
    go_wp2
    go_ret
    refine ⟨?_, rfl⟩
    simp
end Go.Proofs.YtfebiipggcgmdaaGreatDoor
