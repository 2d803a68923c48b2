import Derived.Test.YtfebiipggcgmdaaGreatDoorRK
namespace Go.Proofs.YtfebiipggcgmdaaGreatDoor
open Go.RowKit

set_option maxRecDepth 100000 in
/-- Split of any text -/
theorem split_any (s : ByteArray) (n d : List UInt8) (wr : Bool) (w : World) (hs : s.size < 4294967296) (hsp : splL s.data.toList = (n, d, wr)) :
    Calls Tryz.prog 49 #[.string s] w fun e w' => e = .returned (.tuple #[.string (bt n), .string (bt d)]) ∧ Below w.heap.size w w' := by
  have HS := Lib.hid (fun w => slash_any s w hs)
  unfold splL at hsp
  cases hc : cutL 47 s.data.toList with
  | none =>
    rw [hc] at hsp
    simp only [Prod.mk.injEq] at hsp
    obtain ⟨rfl, rfl, rfl⟩ := hsp
    have h1 : sl s.data.toList = -1 := by unfold sl; rw [hc]
    rw [h1] at HS
    rw [bt_self, show bt [49] = ⟨#[49]⟩ from rfl]
    clear h1 hs hc
    go_enter Tryz.func49, Tryz.ntmps49
    go_wp2_with fail
    refine (HS.out _).mono ?_
    rintro e w1 ⟨rfl, rfl⟩
    go_wp2
    go_ret2
    exact ⟨rfl, Below.refl _ _⟩
  | some p =>
    obtain ⟨a, b⟩ := p
    rw [hc] at hsp
    simp only [Prod.mk.injEq] at hsp
    obtain ⟨rfl, rfl, rfl⟩ := hsp
    obtain ⟨hl, -⟩ := cutL_some hc
    have h1 : sl s.data.toList = (a.length : Int) := by unfold sl; rw [hc]
    rw [h1] at HS
    have hsz : s.size = a.length + 1 + b.length := by
      have h := congrArg List.length hl
      rw [Array.length_toList, List.length_append, List.length_cons] at h
      show s.data.size = _
      omega
    obtain ⟨n, hn⟩ : ∃ n, a.length = n := ⟨_, rfl⟩
    rw [hn] at HS hsz
    have e1 : IntKind.i64.wrap ((n : Int) + 1) = (n : Int) + 1 := IntWalk.i64_in _ (by omega)
    have hns : (n : Int) ≤ (s.size : Int) := by omega
    have hns2 : (n : Int) + 1 ≤ (s.size : Int) := by omega
    have HL := Lib.hid hl
    have HN := Lib.hid hn
    clear hl hn hc h1
    go_enter Tryz.func49, Tryz.ntmps49
    go_wp2_with fail
    refine (HS.out _).mono ?_
    rintro e w1 ⟨rfl, rfl⟩
    go_wp2
    go_quiet (fail)
    go_wp2
    go_ret2
    refine ⟨?_, below_drewN (Below.refl _ _) _⟩
    have hl := HL.out
    have hn := HN.out
    have g1 : s.extract 0 n = bt a := by
      apply ba_ext
      rw [bt_list, Lib.extract_data, hl, ← hn]
      simp
    have g2 : s.extract (n + 1) (n + 1 + b.length) = bt b := by
      apply ba_ext
      rw [bt_list, Lib.extract_data, hl, ← hn]
      simp [List.drop_append]
      rw [List.drop_of_length_le (by omega), List.nil_append, List.take_length]
    rw [← g1, ← g2]
    rfl
theorem spl_len {l n d : List UInt8} {wr : Bool} (h : splL l = (n, d, wr)) : n.length ≤ l.length + 1 ∧ d.length ≤ l.length + 1 := by
  have := splL_len l
  rw [h] at this
  simpa using this
theorem sl_wr {l n d : List UInt8} {wr : Bool} (h : splL l = (n, d, wr)) : (wr = false → sl l = -1) ∧ (wr = true → 0 ≤ sl l) := by
  unfold splL at h
  unfold sl
  cases hc : cutL 47 l with
  | none =>
    rw [hc] at h
    simp only [Prod.mk.injEq] at h
    obtain ⟨-, -, rfl⟩ := h
    exact ⟨fun _ => rfl, (by intro h; cases h)⟩
  | some p =>
    rw [hc] at h
    simp only [Prod.mk.injEq] at h
    obtain ⟨-, -, rfl⟩ := h
    exact ⟨(by intro h; cases h), fun _ => by show (0 : Int) ≤ (p.1.length : Int); omega⟩

set_option maxRecDepth 100000 in
theorem rc2_3a (s : ByteArray) (n d : List UInt8) (wr : Bool) (w : World) (hs : s.size ≤ 400000) (hsp : splL s.data.toList = (n, d, wr)) (hn : wChk (bt n) = 3) :
    Calls Tryz.prog 33 #[.string s] w fun e w' => e = .returned (.int .i64 3) ∧ Below w.heap.size w w' := by
  have hsl : s.data.toList.length = s.size := by rw [Array.length_toList]; rfl
  have HSP := Lib.hid (fun w => split_any s n d wr w (by omega) hsp)
  have HN := Lib.hid (fun w => rcheck01 (bt n) w (by rw [bt_size]; have := spl_len hsp; rw [hsl] at this; omega))
  have HD := Lib.hid (fun w => rcheck01 (bt d) w (by rw [bt_size]; have := spl_len hsp; rw [hsl] at this; omega))
  rw [hn] at HN
  clear hs hsp hsl hn HD
  go_enter Tryz.func33, Tryz.ntmps33
  go_wp2_with fail
  refine (HSP.out _).mono ?_
  rintro e w1 ⟨rfl, hb1⟩
  have B1 := Lib.hid hb1
  clear hb1
  go_wp2_with fail
  refine (HN.out _).mono ?_
  rintro e w2 ⟨rfl, rfl⟩
  go_wp2
  go_ret
  exact ⟨rfl, B1.out⟩

set_option maxRecDepth 100000 in
theorem rc2_3b (s : ByteArray) (n d : List UInt8) (wr : Bool) (w : World) (hs : s.size ≤ 400000) (hsp : splL s.data.toList = (n, d, wr)) (en : Int) (hen : en = 11 ∨ en = 0) (hn : wChk (bt n) = en) (hd : wChk (bt d) = 3) :
    Calls Tryz.prog 33 #[.string s] w fun e w' => e = .returned (.int .i64 3) ∧ Below w.heap.size w w' := by
  have hsl : s.data.toList.length = s.size := by rw [Array.length_toList]; rfl
  have HSP := Lib.hid (fun w => split_any s n d wr w (by omega) hsp)
  have HN := Lib.hid (fun w => rcheck01 (bt n) w (by rw [bt_size]; have := spl_len hsp; rw [hsl] at this; omega))
  have HD := Lib.hid (fun w => rcheck01 (bt d) w (by rw [bt_size]; have := spl_len hsp; rw [hsl] at this; omega))
  rw [hn] at HN
  rw [hd] at HD
  have h1 : ¬ en = 3 := by omega
  have h2 : (en == 3) = false := by simpa using h1
  clear hs hsp hsl hn hd hen
  go_enter Tryz.func33, Tryz.ntmps33
  go_wp2_with fail
  refine (HSP.out _).mono ?_
  rintro e w1 ⟨rfl, hb1⟩
  have B1 := Lib.hid hb1
  clear hb1
  go_wp2_with fail
  refine (HN.out _).mono ?_
  rintro e w2 ⟨rfl, rfl⟩
  go_wp2_with fail
  refine (HD.out _).mono ?_
  rintro e w2 ⟨rfl, rfl⟩
  go_wp2
  go_ret
  exact ⟨rfl, B1.out⟩

set_option maxRecDepth 100000 in
theorem rc2_11a (s : ByteArray) (n d : List UInt8) (wr : Bool) (w : World) (hs : s.size ≤ 400000) (hsp : splL s.data.toList = (n, d, wr)) (ed : Int) (hed : ed = 11 ∨ ed = 0) (hn : wChk (bt n) = 11) (hd : wChk (bt d) = ed) :
    Calls Tryz.prog 33 #[.string s] w fun e w' => e = .returned (.int .i64 11) ∧ Below w.heap.size w w' := by
  have hsl : s.data.toList.length = s.size := by rw [Array.length_toList]; rfl
  have HSP := Lib.hid (fun w => split_any s n d wr w (by omega) hsp)
  have HN := Lib.hid (fun w => rcheck01 (bt n) w (by rw [bt_size]; have := spl_len hsp; rw [hsl] at this; omega))
  have HD := Lib.hid (fun w => rcheck01 (bt d) w (by rw [bt_size]; have := spl_len hsp; rw [hsl] at this; omega))
  rw [hn] at HN
  rw [hd] at HD
  have h1 : ¬ ed = 3 := by omega
  have h2 : (ed == 3) = false := by simpa using h1
  clear hs hsp hsl hn hd hed
  go_enter Tryz.func33, Tryz.ntmps33
  go_wp2_with fail
  refine (HSP.out _).mono ?_
  rintro e w1 ⟨rfl, hb1⟩
  have B1 := Lib.hid hb1
  clear hb1
  go_wp2_with fail
  refine (HN.out _).mono ?_
  rintro e w2 ⟨rfl, rfl⟩
  go_wp2_with fail
  refine (HD.out _).mono ?_
  rintro e w2 ⟨rfl, rfl⟩
  go_wp2_with fail
  refine (HN.out _).mono ?_
  rintro e w2 ⟨rfl, rfl⟩
  go_wp2
  go_ret
  exact ⟨rfl, B1.out⟩

set_option maxRecDepth 100000 in
theorem rc2_11b (s : ByteArray) (n d : List UInt8) (wr : Bool) (w : World) (hs : s.size ≤ 400000) (hsp : splL s.data.toList = (n, d, wr)) (hn : wChk (bt n) = 0) (hd : wChk (bt d) = 11) :
    Calls Tryz.prog 33 #[.string s] w fun e w' => e = .returned (.int .i64 11) ∧ Below w.heap.size w w' := by
  have hsl : s.data.toList.length = s.size := by rw [Array.length_toList]; rfl
  have HSP := Lib.hid (fun w => split_any s n d wr w (by omega) hsp)
  have HN := Lib.hid (fun w => rcheck01 (bt n) w (by rw [bt_size]; have := spl_len hsp; rw [hsl] at this; omega))
  have HD := Lib.hid (fun w => rcheck01 (bt d) w (by rw [bt_size]; have := spl_len hsp; rw [hsl] at this; omega))
  rw [hn] at HN
  rw [hd] at HD
  clear hs hsp hsl hn hd
  go_enter Tryz.func33, Tryz.ntmps33
  go_wp2_with fail
  refine (HSP.out _).mono ?_
  rintro e w1 ⟨rfl, hb1⟩
  have B1 := Lib.hid hb1
  clear hb1
  go_wp2_with fail
  refine (HN.out _).mono ?_
  rintro e w2 ⟨rfl, rfl⟩
  go_wp2_with fail
  refine (HD.out _).mono ?_
  rintro e w2 ⟨rfl, rfl⟩
  go_wp2_with fail
  refine (HN.out _).mono ?_
  rintro e w2 ⟨rfl, rfl⟩
  go_wp2_with fail
  refine (HD.out _).mono ?_
  rintro e w2 ⟨rfl, rfl⟩
  go_wp2
  go_ret
  exact ⟨rfl, B1.out⟩

set_option maxRecDepth 100000 in
theorem rc2_0 (s : ByteArray) (n d : List UInt8) (wr : Bool) (w : World) (hs : s.size ≤ 400000) (hsp : splL s.data.toList = (n, d, wr)) (hwr : wr = false) (hn : wChk (bt n) = 0) (hd : wChk (bt d) = 0) :
    Calls Tryz.prog 33 #[.string s] w fun e w' => e = .returned (.int .i64 0) ∧ Below w.heap.size w w' := by
  have hsl : s.data.toList.length = s.size := by rw [Array.length_toList]; rfl
  have HSP := Lib.hid (fun w => split_any s n d wr w (by omega) hsp)
  have HN := Lib.hid (fun w => rcheck01 (bt n) w (by rw [bt_size]; have := spl_len hsp; rw [hsl] at this; omega))
  have HD := Lib.hid (fun w => rcheck01 (bt d) w (by rw [bt_size]; have := spl_len hsp; rw [hsl] at this; omega))
  rw [hn] at HN
  rw [hd] at HD
  have HSL := Lib.hid (fun w => slash_any s w (by omega))
  rw [(sl_wr hsp).1 hwr] at HSL
  clear hs hsp hsl hn hd hwr
  go_enter Tryz.func33, Tryz.ntmps33
  go_wp2_with fail
  refine (HSP.out _).mono ?_
  rintro e w1 ⟨rfl, hb1⟩
  have B1 := Lib.hid hb1
  clear hb1
  go_wp2_with fail
  refine (HN.out _).mono ?_
  rintro e w2 ⟨rfl, rfl⟩
  go_wp2_with fail
  refine (HD.out _).mono ?_
  rintro e w2 ⟨rfl, rfl⟩
  go_wp2_with fail
  refine (HN.out _).mono ?_
  rintro e w2 ⟨rfl, rfl⟩
  go_wp2_with fail
  refine (HD.out _).mono ?_
  rintro e w2 ⟨rfl, rfl⟩
  go_wp2_with fail
  refine (HSL.out _).mono ?_
  rintro e w2 ⟨rfl, rfl⟩
  go_wp2
  go_ret
  exact ⟨rfl, B1.out⟩

theorem dl_small {z : Int} (h : z.natAbs < 10) : dl z ≤ 100000 := Nat.le_trans ((dl_le_iff (k := 1) (by omega)).2 (by simpa using h)) (by omega)
theorem dl_one : dl 1 ≤ 100000 := dl_small (by decide)
theorem gcd_one_text {g : Nat} : ((it (g : Int)).toList == [49]) = decide (g = 1) := by
  by_cases h : g = 1
  · subst h; rw [show it ((1 : Nat) : Int) = ⟨#[49]⟩ from it_one, Lib.toList_data]; rfl
  · rw [decide_eq_false h]; exact it_ne_one h

set_option maxRecDepth 100000 in
set_option maxHeartbeats 400000 in
theorem rc2_long (a b : Int) (s : ByteArray) (n d : List UInt8) (wr : Bool) (w : World) (hs : s.size ≤ 400000) (hsp : splL s.data.toList = (n, d, wr)) (hwr : wr = true) (ha : bt n = it a) (hb : bt d = it b) (ia : In a) (ib : In b) (hn : wChk (bt n) = 0) (hd : wChk (bt d) = 0) :
    Calls Tryz.prog 33 #[.string s] w fun e w' => e = .returned (.int .i64 (if b ≤ 1 ∨ Int.gcd a b ≠ 1 then 3 else 0)) ∧ Below w.heap.size w w' := by
  have hsl : s.data.toList.length = s.size := by rw [Array.length_toList]; rfl
  have HSP := Lib.hid (fun w => split_any s n d wr w (by omega) hsp)
  have HN := Lib.hid (fun w => rcheck01 (bt n) w (by rw [bt_size]; have := spl_len hsp; rw [hsl] at this; omega))
  have HD := Lib.hid (fun w => rcheck01 (bt d) w (by rw [bt_size]; have := spl_len hsp; rw [hsl] at this; omega))
  have HSL := Lib.hid (fun w => slash_any s w (by omega))
  have h0 := (sl_wr hsp).2 hwr
  obtain ⟨x, hx⟩ : ∃ x, sl s.data.toList = x := ⟨_, rfl⟩
  rw [hx] at HSL h0
  rw [hn] at HN
  rw [hd] at HD
  rw [ha, hb] at HSP
  rw [ha] at HN
  rw [hb] at HD
  unfold In at ia ib
  have HO := Lib.hid (fun w => rorder_any b 1 w (by omega) dl_one)
  rw [it_one] at HO
  have HG := Lib.hid (fun w => shared_any a b w (by omega) (by omega))
  obtain ⟨g, hg⟩ : ∃ g, Int.gcd a b = g := ⟨_, rfl⟩
  rw [hg] at HG ⊢
  obtain ⟨o, ho⟩ : ∃ o, (b - 1).sign = o := ⟨_, rfl⟩
  rw [ho] at HO
  have hob : o ≤ 0 ↔ b ≤ 1 := by
    rw [← ho]
    rcases Int.lt_trichotomy (b - 1) 0 with h | h | h
    · rw [Int.sign_eq_neg_one_of_neg h]; omega
    · rw [h]; simp; omega
    · rw [Int.sign_eq_one_of_pos h]; omega
  obtain ⟨p, hp⟩ : ∃ p, it a = p := ⟨_, rfl⟩
  obtain ⟨q, hq⟩ : ∃ q, it b = q := ⟨_, rfl⟩
  rw [hp] at HSP HN HG
  rw [hq] at HSP HD HG HO
  have ht := @gcd_one_text g
  obtain ⟨v, hv⟩ : ∃ v : Int, (if b ≤ 1 ∨ g ≠ 1 then 3 else 0) = v := ⟨_, rfl⟩
  rw [hv]
  clear hs hsp hsl hn hd hwr hx ha hb ia ib hg ho hp hq
  by_cases hb1 : b ≤ 1
  · rw [if_pos (.inl hb1)] at hv
    subst hv
    have ho := hob.2 hb1
    clear ht hob hb1
    go_enter Tryz.func33, Tryz.ntmps33
    go_wp2_with fail
    refine (HSP.out _).mono ?_
    rintro e w1 ⟨rfl, hb1⟩
    have B1 := Lib.hid hb1
    clear hb1
    go_wp2_with fail
    refine (HN.out _).mono ?_
    rintro e w2 ⟨rfl, rfl⟩
    go_wp2_with fail
    refine (HD.out _).mono ?_
    rintro e w2 ⟨rfl, rfl⟩
    go_wp2_with fail
    refine (HN.out _).mono ?_
    rintro e w2 ⟨rfl, rfl⟩
    go_wp2_with fail
    refine (HD.out _).mono ?_
    rintro e w2 ⟨rfl, rfl⟩
    go_wp2_with fail
    refine (HSL.out _).mono ?_
    rintro e w2 ⟨rfl, rfl⟩
    go_wp2_with fail
    refine (HO.out _).mono ?_
    rintro e w3 ⟨rfl, hb3⟩
    have B3 := Lib.hid (B1.out.trans (hb3.mono B1.out.size))
    clear hb3
    go_wp2
    go_ret
    exact ⟨rfl, B3.out⟩
  · have ho : ¬ o ≤ 0 := fun h => hb1 (hob.1 h)
    obtain ⟨t, htt⟩ : ∃ t, it (g : Int) = t := ⟨_, rfl⟩
    rw [htt] at HG ht
    have hgc : g = 1 ∨ g ≠ 1 := by omega
    rcases hgc with hgc | hgc
    · rw [if_neg (fun h => h.elim hb1 (fun h => h hgc))] at hv
      subst hv
      rw [decide_eq_true hgc] at ht
      clear hob hb1 hgc htt
      go_enter Tryz.func33, Tryz.ntmps33
      go_wp2_with fail
      refine (HSP.out _).mono ?_
      rintro e w1 ⟨rfl, hb1⟩
      have B1 := Lib.hid hb1
      clear hb1
      go_wp2_with fail
      refine (HN.out _).mono ?_
      rintro e w2 ⟨rfl, rfl⟩
      go_wp2_with fail
      refine (HD.out _).mono ?_
      rintro e w2 ⟨rfl, rfl⟩
      go_wp2_with fail
      refine (HN.out _).mono ?_
      rintro e w2 ⟨rfl, rfl⟩
      go_wp2_with fail
      refine (HD.out _).mono ?_
      rintro e w2 ⟨rfl, rfl⟩
      go_wp2_with fail
      refine (HSL.out _).mono ?_
      rintro e w2 ⟨rfl, rfl⟩
      go_wp2_with fail
      refine (HO.out _).mono ?_
      rintro e w3 ⟨rfl, hb3⟩
      have B3 := Lib.hid (B1.out.trans (hb3.mono B1.out.size))
      clear hb3
      go_wp2_with fail
      refine (HG.out _).mono ?_
      rintro e w4 ⟨rfl, hb4⟩
      have B4 := Lib.hid (B3.out.trans (hb4.mono B3.out.size))
      clear hb4
      go_wp2
      go_ret
      exact ⟨rfl, B4.out⟩
    · rw [if_pos (.inr hgc)] at hv
      subst hv
      rw [decide_eq_false hgc] at ht
      clear hob hb1 hgc htt
      go_enter Tryz.func33, Tryz.ntmps33
      go_wp2_with fail
      refine (HSP.out _).mono ?_
      rintro e w1 ⟨rfl, hb1⟩
      have B1 := Lib.hid hb1
      clear hb1
      go_wp2_with fail
      refine (HN.out _).mono ?_
      rintro e w2 ⟨rfl, rfl⟩
      go_wp2_with fail
      refine (HD.out _).mono ?_
      rintro e w2 ⟨rfl, rfl⟩
      go_wp2_with fail
      refine (HN.out _).mono ?_
      rintro e w2 ⟨rfl, rfl⟩
      go_wp2_with fail
      refine (HD.out _).mono ?_
      rintro e w2 ⟨rfl, rfl⟩
      go_wp2_with fail
      refine (HSL.out _).mono ?_
      rintro e w2 ⟨rfl, rfl⟩
      go_wp2_with fail
      refine (HO.out _).mono ?_
      rintro e w3 ⟨rfl, hb3⟩
      have B3 := Lib.hid (B1.out.trans (hb3.mono B1.out.size))
      clear hb3
      go_wp2_with fail
      refine (HG.out _).mono ?_
      rintro e w4 ⟨rfl, hb4⟩
      have B4 := Lib.hid (B3.out.trans (hb4.mono B3.out.size))
      clear hb4
      go_wp2
      go_ret
      exact ⟨rfl, B4.out⟩

/-- Check of any text -/
theorem rcheck02 (s : ByteArray) (w : World) (hs : s.size ≤ 400000) :
    Calls Tryz.prog 33 #[.string s] w fun e w' => e = .returned (.int .i64 (rChk s)) ∧ Below w.heap.size w w' := by
  obtain ⟨n, d, wr, hsp⟩ : ∃ n d wr, splL s.data.toList = (n, d, wr) := ⟨_, _, _, rfl⟩
  have hrc : rChk s = rChkL s.data.toList := rfl
  unfold rChkL at hrc
  rw [hsp] at hrc
  simp only at hrc
  rw [← bt_chk, ← bt_chk] at hrc
  rcases wChk_three (bt n) with hn | hn | hn
  · rw [show rChk s = 3 by rw [hrc, if_pos (Or.inl hn)]]
    exact rc2_3a s n d wr w hs hsp hn
  · rcases wChk_three (bt d) with hd | hd | hd
    · rw [show rChk s = 3 by rw [hrc, if_pos (Or.inr hd)]]
      exact rc2_3b s n d wr w hs hsp 11 (.inl rfl) hn hd
    · rw [show rChk s = 11 by rw [hrc, hn, hd]; rfl]
      exact rc2_11a s n d wr w hs hsp 11 (.inl rfl) hn hd
    · rw [show rChk s = 11 by rw [hrc, hn, hd]; rfl]
      exact rc2_11a s n d wr w hs hsp 0 (.inr rfl) hn hd
  · rcases wChk_three (bt d) with hd | hd | hd
    · rw [show rChk s = 3 by rw [hrc, if_pos (Or.inr hd)]]
      exact rc2_3b s n d wr w hs hsp 0 (.inr rfl) hn hd
    · rw [show rChk s = 11 by rw [hrc, hn, hd]; rfl]
      exact rc2_11b s n d wr w hs hsp hn hd
    · cases wr with
      | false =>
        rw [show rChk s = 0 by rw [hrc, hn, hd]; simp]
        exact rc2_0 s n d false w hs hsp rfl hn hd
      | true =>
        obtain ⟨a, b, ha, hb, ia, ib, hr⟩ := spl_right hn hd hsp
        rw [hr]
        exact rc2_long a b s n d true w hs hsp rfl ha hb ia ib hn hd
end Go.Proofs.YtfebiipggcgmdaaGreatDoor
