import Derived.Test.YtfebiipggcgmdaaGreatDoorRM
namespace Go.Proofs.YtfebiipggcgmdaaGreatDoor
open Go.RowKit

/-! ## The reference's Check of any text -/
theorem bt_mag (l : List UInt8) : (bt (mag l)).data.toList = mag l := by simp [bt]
theorem mag_len (l : List UInt8) : (mag l).length ≤ l.length := by rw [mag_eq]; split <;> simp
theorem bt_self (s : ByteArray) : bt s.data.toList = s := ba_ext (by simp [bt])
theorem bt_cons (c : UInt8) (t : List UInt8) : (⟨(c :: t).toArray⟩ : ByteArray) = bt (c :: t) := rfl

set_option maxRecDepth 100000 in
theorem rsize_any (s : ByteArray) (w : World) : Calls Tryz.prog 124 #[.string s] w fun e w' => e = .returned (.string (bt (mag s.data.toList))) ∧ w' = w := by
  obtain ⟨l, hl⟩ : ∃ l, s.data.toList = l := ⟨_, rfl⟩
  obtain rfl : s = bt l := by rw [← hl]; exact (bt_self s).symm
  rw [bt_list]
  clear hl
  cases l with
  | nil =>
    rw [show mag [] = [] from rfl]
    unfold bt
    go_enter Tryz.func124, Tryz.ntmps124
    go_wp2
    go_ret
    exact ⟨rfl, rfl⟩
  | cons c t =>
    have hm := mag_eq (c :: t)
    by_cases h : c = 45
    · subst h
      rw [hm, if_pos (show (45 :: t).head? = some (45 : UInt8) from rfl), List.tail_cons]
      unfold bt
      clear hm
      go_enter Tryz.func124, Tryz.ntmps124
      go_wp2
      go_ret
      refine ⟨?_, rfl⟩
      show Ending.returned (.string _) = _
      congr 2
      apply ba_ext
      rw [Lib.extract_data]
      simp
    · rw [hm, if_neg (by simpa using h)]
      have hn : ((c.toNat : Int) == 45) = false := by
        simp only [beq_eq_false_iff_ne, ne_eq]
        intro hc
        exact h (UInt8.toNat_inj.1 (by have : (45 : UInt8).toNat = 45 := rfl; omega))
      have HN := Lib.hid hn
      unfold bt
      clear hm h hn
      go_enter Tryz.func124, Tryz.ntmps124
      go_wp2
      · have h2 : ((c.toNat : Int) == 45) = true := by assumption
        rw [HN.out] at h2
        cases h2
      · go_ret
        exact ⟨rfl, rfl⟩

/-- what the text's Check says -/
theorem wchk_cases (l : List UInt8) : (mag l = [] ∧ wChkL l = 3) ∨ (∃ c t, mag l = c :: t ∧ c = 48 ∧ (1 < (mag l).length ∨ 1 < l.length) ∧ wChkL l = 3) ∨
    (∃ c t, mag l = c :: t ∧ (c ≠ 48 ∨ ((mag l).length ≤ 1 ∧ l.length ≤ 1)) ∧ wChkL l = if ¬ Dig (mag l) then 3 else if 1024 < (mag l).length then 11 else 0) := by
  have hs := wChkL_spec l
  cases hm : mag l with
  | nil => left; rw [hm, if_pos (.inl rfl)] at hs; exact ⟨rfl, hs⟩
  | cons c t =>
    right
    rw [hm] at hs
    by_cases h48 : c = 48
    · by_cases hl : l = [48]
      · right
        refine ⟨c, t, rfl, .inr ?_, ?_⟩
        · subst hl
          have : mag [48] = [48] := by rw [mag_eq]; rfl
          rw [this] at hm
          rw [← hm]; simp
        · by_cases hd : ¬ Dig (c :: t)
          · rw [if_pos (.inr hd)] at hs; rw [if_pos hd]; exact hs
          · rw [if_neg (by simp only [not_or]; exact ⟨by simp, hd⟩), if_neg (fun h => h.2 hl)] at hs
            rw [if_neg hd]; exact hs
      · left
        refine ⟨c, t, rfl, h48, ?_, ?_⟩
        · refine Classical.byContradiction fun hn => ?_
          simp only [not_or, Nat.not_lt] at hn
          have hme := mag_eq l
          rw [hm] at hme
          cases l with
          | nil => simp at hme
          | cons x r =>
            have hr : r = [] := by have := hn.2; simp at this; exact this
            subst hr
            split at hme
            · simp at hme
            · injection hme with h1 h2
              exact hl (by rw [← h1, h48])
        · by_cases hd : ¬ Dig (c :: t)
          · rw [if_pos (.inr hd)] at hs; exact hs
          · rw [if_neg (by simp only [not_or]; exact ⟨by simp, hd⟩), if_pos ⟨by rw [h48]; rfl, hl⟩] at hs; exact hs
    · right
      refine ⟨c, t, rfl, .inl h48, ?_⟩
      by_cases hd : ¬ Dig (c :: t)
      · rw [if_pos (.inr hd)] at hs; rw [if_pos hd]; exact hs
      · rw [if_neg (by simp only [not_or]; exact ⟨by simp, hd⟩), if_neg (fun h => h48 (by have := h.1; simpa using this))] at hs
        rw [if_neg hd]; exact hs

set_option maxRecDepth 100000 in
set_option maxHeartbeats 800000 in
theorem rcheck01 (s : ByteArray) (w : World) (hs : s.size ≤ 1000000) :
    Calls Tryz.prog 79 #[.string s] w fun e w' => e = .returned (.int .i64 (wChk s)) ∧ w' = w := by
  have HSZ := Lib.hid (fun w => rsize_any s w)
  have hc := wchk_cases s.data.toList
  have hsl : s.data.toList.length = s.size := by rw [Array.length_toList]; rfl
  have hml := mag_len s.data.toList
  unfold wChk
  obtain ⟨L, hL⟩ : ∃ L, mag s.data.toList = L := ⟨_, rfl⟩
  obtain ⟨r, hr⟩ : ∃ r, wChkL s.data.toList = r := ⟨_, rfl⟩
  rw [hL] at HSZ hc hml
  rw [hr] at hc ⊢
  rw [hsl] at hc hml
  clear hL hr hsl
  rcases hc with ⟨rfl, rfl⟩ | ⟨c, t, rfl, rfl, hlen, rfl⟩ | ⟨c, t, rfl, hne, hv⟩
  · unfold bt at HSZ
    go_enter Tryz.func79, Tryz.ntmps79
    go_wp2_with fail
    refine (HSZ.out _).mono ?_
    rintro e w1 ⟨rfl, rfl⟩
    go_wp2
    go_ret
    exact ⟨rfl, rfl⟩
  · have hln : (48 :: t).length = t.length + 1 := rfl
    rw [hln] at hlen hml
    have hcase : 0 < t.length ∨ t.length = 0 ∧ 1 < s.size := by omega
    unfold bt at HSZ
    clear hlen hln
    rcases hcase with h1 | ⟨h1, h2⟩
    · have h1i : (1 : Int) < (t.length : Int) + 1 := by omega
      go_enter Tryz.func79, Tryz.ntmps79
      go_wp2_with fail
      refine (HSZ.out _).mono ?_
      rintro e w1 ⟨rfl, rfl⟩
      go_wp2
      go_ret
      exact ⟨rfl, rfl⟩
    · have ht : t = [] := List.eq_nil_of_length_eq_zero h1
      subst ht
      have h2i : (1 : Int) < (s.size : Int) := by omega
      clear h1
      go_enter Tryz.func79, Tryz.ntmps79
      go_wp2_with fail
      refine (HSZ.out _).mono ?_
      rintro e w1 ⟨rfl, rfl⟩
      go_wp2
      go_ret
      exact ⟨rfl, rfl⟩
  · obtain ⟨M, hM⟩ : ∃ M, bt (c :: t) = M := ⟨_, rfl⟩
    have hMl : M.data.toList = c :: t := by rw [← hM, bt_list]
    rw [hM] at HSZ
    have hMs : M.size = t.length + 1 := by
      have h := congrArg List.length hMl
      rw [Array.length_toList] at h
      exact h
    rw [← hMl] at hv hne hml
    have hMl2 : M.data.toList.length = M.size := by rw [Array.length_toList]; rfl
    rw [hMl2] at hv hne hml
    have hb0 : M.data.toList[0]? = some c := by rw [hMl]; rfl
    obtain ⟨hj0, hc0⟩ := ba_at hb0
    have he1 : M.toList ≠ [] := by rw [Lib.toList_data, hMl]; simp
    have he2 : M.toList.isEmpty = false := by rw [Lib.toList_data, hMl]; rfl
    have he3 : (M.toList == []) = false := by simpa using he1
    have HML := Lib.hid hMl2
    have HV := Lib.hid hv
    have hcase : c ≠ 48 ∨ c = 48 ∧ M.size ≤ 1 ∧ s.size ≤ 1 := by
      by_cases h : c = 48
      · rcases hne with h2 | h2
        · exact absurd h h2
        · exact .inr ⟨h, h2⟩
      · exact .inl h
    clear hM hMl hMs hne hb0 hMl2 hv
    rcases hcase with hc48 | ⟨rfl, hm1, hs1⟩
    · have hn48 : ¬ (c.toNat : Int) = 48 := fun h => hc48 (UInt8.toNat_inj.1 (by have : (48 : UInt8).toNat = 48 := rfl; omega))
      have hn48b : ((c.toNat : Int) == 48) = false := by simpa using hn48
      clear hc48
      go_enter Tryz.func79, Tryz.ntmps79
      go_wp2_with fail
      refine (HSZ.out _).mono ?_
      rintro e w1 ⟨rfl, rfl⟩
      go_wp2
      go_loopg [4] M.size (fun k iv wr => ∃ j : Nat, iv = .int .i64 j ∧ j + k = M.size ∧ Dig (M.data.toList.take j) ∧ wr = w1)
      case atStart => exact ⟨0, rfl, by omega, by intro x hx; simp at hx, rfl⟩
      case round =>
        obtain ⟨j, rfl, hk, hd, rfl⟩ := hrel
        by_cases hz : gk = 0
        · obtain rfl : j = M.size := by omega
          rw [List.take_of_length_le (by rw [HML.out]; exact Nat.le_refl _)] at hd
          have hv := HV.out
          rw [if_neg (not_not_intro hd)] at hv
          have hnl : ¬ ((M.size : Nat) : Int) < (M.size : Nat) := by omega
          clear hd hk hz
          by_cases h10 : 1024 < M.size
          · rw [if_pos h10] at hv
            subst hv
            have h10i : (1024 : Int) < M.size := by omega
            clear h10
            go_wp2
            go_ret
            exact ⟨rfl, rfl⟩
          · rw [if_neg h10] at hv
            subst hv
            have h10i : ¬ (1024 : Int) < M.size := by omega
            clear h10
            go_wp2
            go_ret
            exact ⟨rfl, rfl⟩
        · have hj : j < M.size := by omega
          have hji : (j : Int) < M.size := by omega
          obtain ⟨b, hb⟩ : ∃ b, M.data.toList[j]? = some b := ⟨_, List.getElem?_eq_getElem (by rw [HML.out]; exact hj)⟩
          have HB := Lib.hid hb
          obtain ⟨hja, hjb⟩ := ba_at hb
          have e1 : IntKind.i64.wrap ((j : Int) + 1) = (j : Int) + 1 := IntWalk.i64_in _ (by omega)
          have hw : b.toNat < 48 ∨ 48 ≤ b.toNat ∧ 57 < b.toNat ∨ 48 ≤ b.toNat ∧ b.toNat ≤ 57 := by omega
          have HK := Lib.hid hk
          have HD := Lib.hid hd
          have hbad : ¬ (48 ≤ b.toNat ∧ b.toNat ≤ 57) → r = 3 := fun hn => by
            have hv := HV.out
            rw [if_pos (fun h => hn (h b (List.mem_of_getElem? HB.out)))] at hv
            exact hv
          have HBAD := Lib.hid hbad
          clear hb hk hd hz hbad
          rcases hw with h1 | ⟨h1, h2⟩ | ⟨h1, h2⟩
          · have hr := HBAD.out (by omega)
            subst hr
            have h1i : (b.toNat : Int) < 48 := by omega
            clear h1
            go_wp2
            go_ret
            exact ⟨rfl, rfl⟩
          · have hr := HBAD.out (by omega)
            subst hr
            have h1i : ¬ (b.toNat : Int) < 48 := by omega
            have h2i : (57 : Int) < (b.toNat : Int) := by omega
            clear h1 h2
            go_wp2
            go_ret
            exact ⟨rfl, rfl⟩
          · have h1i : ¬ (b.toNat : Int) < 48 := by omega
            have h2i : ¬ (57 : Int) < (b.toNat : Int) := by omega
            have HN := Lib.hid (show Dig (M.data.toList.take (j + 1)) from fun x hx => by
              rw [List.take_add_one, HB.out] at hx
              rcases List.mem_append.1 hx with hx | hx
              · exact HD.out x hx
              · simp at hx; subst hx; exact ⟨h1, h2⟩)
            clear h1 h2
            go_wp2
            go_roundg (gk - 1)
            case rel => exact ⟨j + 1, by simp, by have := HK.out; omega, HN.out, rfl⟩
            case measure => have := HK.out; omega
    · have hm1i : ¬ (1 : Int) < M.size := by omega
      have hs1i : ¬ (1 : Int) < s.size := by omega
      have d1 : decide ((1 : Int) < M.size) = false := decide_eq_false hm1i
      have d2 : decide ((1 : Int) < s.size) = false := decide_eq_false hs1i
      go_enter Tryz.func79, Tryz.ntmps79
      go_wp2_with fail
      refine (HSZ.out _).mono ?_
      rintro e w1 ⟨rfl, rfl⟩
      go_wp2
      go_loopg [4] M.size (fun k iv wr => ∃ j : Nat, iv = .int .i64 j ∧ j + k = M.size ∧ Dig (M.data.toList.take j) ∧ wr = w1)
      case atStart => exact ⟨0, rfl, by omega, by intro x hx; simp at hx, rfl⟩
      case round =>
        obtain ⟨j, rfl, hk, hd, rfl⟩ := hrel
        by_cases hz : gk = 0
        · obtain rfl : j = M.size := by omega
          rw [List.take_of_length_le (by rw [HML.out]; exact Nat.le_refl _)] at hd
          have hv := HV.out
          rw [if_neg (not_not_intro hd)] at hv
          have hnl : ¬ ((M.size : Nat) : Int) < (M.size : Nat) := by omega
          clear hd hk hz
          by_cases h10 : 1024 < M.size
          · rw [if_pos h10] at hv
            subst hv
            have h10i : (1024 : Int) < M.size := by omega
            clear h10
            go_wp2
            go_ret
            exact ⟨rfl, rfl⟩
          · rw [if_neg h10] at hv
            subst hv
            have h10i : ¬ (1024 : Int) < M.size := by omega
            clear h10
            go_wp2
            go_ret
            exact ⟨rfl, rfl⟩
        · have hj : j < M.size := by omega
          have hji : (j : Int) < M.size := by omega
          obtain ⟨b, hb⟩ : ∃ b, M.data.toList[j]? = some b := ⟨_, List.getElem?_eq_getElem (by rw [HML.out]; exact hj)⟩
          have HB := Lib.hid hb
          obtain ⟨hja, hjb⟩ := ba_at hb
          have e1 : IntKind.i64.wrap ((j : Int) + 1) = (j : Int) + 1 := IntWalk.i64_in _ (by omega)
          have hw : b.toNat < 48 ∨ 48 ≤ b.toNat ∧ 57 < b.toNat ∨ 48 ≤ b.toNat ∧ b.toNat ≤ 57 := by omega
          have HK := Lib.hid hk
          have HD := Lib.hid hd
          have hbad : ¬ (48 ≤ b.toNat ∧ b.toNat ≤ 57) → r = 3 := fun hn => by
            have hv := HV.out
            rw [if_pos (fun h => hn (h b (List.mem_of_getElem? HB.out)))] at hv
            exact hv
          have HBAD := Lib.hid hbad
          clear hb hk hd hz hbad
          rcases hw with h1 | ⟨h1, h2⟩ | ⟨h1, h2⟩
          · have hr := HBAD.out (by omega)
            subst hr
            have h1i : (b.toNat : Int) < 48 := by omega
            clear h1
            go_wp2
            go_ret
            exact ⟨rfl, rfl⟩
          · have hr := HBAD.out (by omega)
            subst hr
            have h1i : ¬ (b.toNat : Int) < 48 := by omega
            have h2i : (57 : Int) < (b.toNat : Int) := by omega
            clear h1 h2
            go_wp2
            go_ret
            exact ⟨rfl, rfl⟩
          · have h1i : ¬ (b.toNat : Int) < 48 := by omega
            have h2i : ¬ (57 : Int) < (b.toNat : Int) := by omega
            have HN := Lib.hid (show Dig (M.data.toList.take (j + 1)) from fun x hx => by
              rw [List.take_add_one, HB.out] at hx
              rcases List.mem_append.1 hx with hx | hx
              · exact HD.out x hx
              · simp at hx; subst hx; exact ⟨h1, h2⟩)
            clear h1 h2
            go_wp2
            go_roundg (gk - 1)
            case rel => exact ⟨j + 1, by simp, by have := HK.out; omega, HN.out, rfl⟩
            case measure => have := HK.out; omega
end Go.Proofs.YtfebiipggcgmdaaGreatDoor
