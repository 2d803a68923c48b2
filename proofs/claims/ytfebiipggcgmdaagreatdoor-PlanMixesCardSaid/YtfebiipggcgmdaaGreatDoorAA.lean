import Derived.Test.YtfebiipggcgmdaaGreatDoorA9
namespace Go.Proofs.YtfebiipggcgmdaaGreatDoor
open Go.RowKit

theorem index_cut (c : UInt8) (l : List UInt8) : Lib.index l [c] = match cutL c l with | none => -1 | some p => (p.1.length : Int) := by
  induction l with
  | nil => rfl
  | cons a r ih =>
    rw [cutL, Lib.index]
    by_cases h : a = c
    · subst h; simp [List.isPrefixOf]
    · rw [if_neg h, if_neg (by simp [List.isPrefixOf]; exact fun e => h e.symm), ih]
      cases hc : cutL c r with
      | none => rfl
      | some p =>
        simp only [Option.map_some]
        rw [if_neg (by simp)]
        try simp

theorem cut_split (l : List UInt8) : Lib.cut l [47] = match cutL 47 l with | none => (l, [], false) | some (a, b) => (a, b, true) := by
  unfold Lib.cut
  rw [index_cut]
  cases hc : cutL 47 l with
  | none => rfl
  | some p =>
    obtain ⟨a, b⟩ := p
    obtain ⟨h1, h2⟩ := cutL_some hc
    simp only
    rw [if_pos (by omega), h1]
    simp

/-- a text of these bytes -/
def bt (l : List UInt8) : ByteArray := ⟨l.toArray⟩
theorem bt_list (l : List UInt8) : (bt l).data.toList = l := by simp [bt]

/-- What 'cut' returns. -/
def CutEnd (s : ByteArray) (w : World) (e : Ending) (w' : World) : Prop :=
  e = .returned (.tuple #[.string (bt (splL s.data.toList).1), .string (bt (splL s.data.toList).2.1), .bool (splL s.data.toList).2.2]) ∧ Dr w w'

set_option maxRecDepth 100000 in
theorem cut_any (s : ByteArray) (w : World) (hs : s.size < 4294967281) (he : Env w) : Calls Tryz.prog 74 #[.string s] w (CutEnd s w) := by
  obtain ⟨m, hm⟩ := he.mx
  have HM := Lib.hid hm
  have hc := cut_split s.data.toList
  cases hl : cutL 47 s.data.toList with
  | none =>
    rw [hl] at hc
    have HC := Lib.hid (show Lib.cut s.data.toList (ByteArray.mk #[47]).data.toList = _ from hc)
    have HL := Lib.hid (show splL s.data.toList = (s.data.toList, [49], false) by unfold splL; rw [hl])
    clear hm hc hl he
    go_enter Tryz.func74, Tryz.ntmps74
    go_wp2_with fail
    refine (Tryz.strings_Cut s ⟨#[47]⟩ m _ hs HM.out).mono ?_
    rintro e w1 ⟨rfl, n, rfl⟩
    rw [HC.out]
    go_wp2
    go_ret3
    refine ⟨?_, Dr.of _ _⟩
    rw [HL.out]; rfl
  | some p =>
    obtain ⟨a, b⟩ := p
    rw [hl] at hc
    have HC := Lib.hid (show Lib.cut s.data.toList (ByteArray.mk #[47]).data.toList = _ from hc)
    have HL := Lib.hid (show splL s.data.toList = (a, b, true) by unfold splL; rw [hl])
    clear hm hc hl he
    go_enter Tryz.func74, Tryz.ntmps74
    go_wp2_with fail
    refine (Tryz.strings_Cut s ⟨#[47]⟩ m _ hs HM.out).mono ?_
    rintro e w1 ⟨rfl, n, rfl⟩
    rw [HC.out]
    go_wp2
    go_ret3
    refine ⟨?_, Dr.of _ _⟩
    rw [HL.out]; rfl

/-- a quotient's text -/
def jn (p : Int) (q : Nat) : ByteArray := if q = 1 then it p else bt (Lib.itoa p ++ 47 :: Lib.decDigits q)
theorem rt_jn (r : Rat) : rt r = jn r.num r.den := rfl

theorem it_ne_one {q : Nat} (h : q ≠ 1) : ((it (q : Int)).toList == [49]) = false := by
  rw [Lib.toList_data, it_nat_list]
  simp only [beq_eq_false_iff_ne]
  intro hc
  have h1 : Lib.decDigits 1 = [49] := by rw [dec_small (by omega)]; rfl
  exact h (dec_inj (hc.trans h1.symm))

set_option maxRecDepth 100000 in
theorem joined_any (p : Int) (q : Nat) (w : World) (hp : In p) (hq : In (q : Int)) : Calls Tryz.prog 136 #[.string (it p), .string (it (q : Int))] w fun e w' => e = .returned (.string (jn p q)) ∧ w' = w := by
  have s1 := it_le hp
  have s2 := it_le hq
  by_cases h : q = 1
  · subst h
    have h2 : it ((1 : Nat) : Int) = ⟨#[49]⟩ := it_one
    rw [h2]
    go_enter Tryz.func136, Tryz.ntmps136
    go_wp2
    go_ret
    exact ⟨rfl, rfl⟩
  · have hz := it_ne_one h
    have HJ := Lib.hid (show jn p q = bt (Lib.itoa p ++ 47 :: Lib.decDigits q) by unfold jn; rw [if_neg h])
    clear h
    go_enter Tryz.func136, Tryz.ntmps136
    go_wp2
    go_ret
    refine ⟨?_, rfl⟩
    rw [HJ.out]
    show Ending.returned (.string _) = _
    congr 2
    apply ba_ext
    rw [bt_list, data_append', data_append', it_list, it_nat_list]
    simp
end Go.Proofs.YtfebiipggcgmdaaGreatDoor

namespace Go.Proofs.YtfebiipggcgmdaaGreatDoor
open Go.RowKit

theorem wChk_three (s : ByteArray) : wChk s = 3 ∨ wChk s = 11 ∨ wChk s = 0 := by
  rcases wChk_cases s with ⟨h, _⟩ | ⟨z, _, h⟩
  · exact Or.inl h
  · split at h
    · exact Or.inr (Or.inr h)
    · exact Or.inr (Or.inl h)
theorem bt_chk (l : List UInt8) : wChk (bt l) = wChkL l := by unfold wChk; rw [bt_list]
theorem bt_size (l : List UInt8) : (bt l).size = l.length := by simp [bt, ByteArray.size]
theorem splL_len (l : List UInt8) : (splL l).1.length ≤ l.length + 1 ∧ (splL l).2.1.length ≤ l.length + 1 := by
  unfold splL
  cases h : cutL 47 l with
  | none => simp
  | some p =>
    obtain ⟨a, b⟩ := p
    obtain ⟨h1, _⟩ := cutL_some h
    subst h1
    simp
    omega
theorem canL_it (z : Int) : canL (it z).data.toList = some z := by rw [it_list, canL_itoa]

/-- the texts of two right integers -/
theorem spl_right {s : ByteArray} {n d : List UInt8} (h1 : wChk (bt n) = 0) (h2 : wChk (bt d) = 0) (hs : splL s.data.toList = (n, d, true)) :
    ∃ a b, bt n = it a ∧ bt d = it b ∧ In a ∧ In b ∧ rChk s = if b ≤ 1 ∨ Int.gcd a b ≠ 1 then 3 else 0 := by
  obtain ⟨a, ha, ha2⟩ := wChk_zero h1
  obtain ⟨b, hb, hb2⟩ := wChk_zero h2
  refine ⟨a, b, ha, hb, ha2, hb2, ?_⟩
  unfold rChk rChkL
  rw [hs]
  have e1 : canL n = some a := by rw [← bt_list n, ha, canL_it]
  have e2 : canL d = some b := by rw [← bt_list d, hb, canL_it]
  rw [bt_chk] at h1 h2
  simp only [h1, h2, e1, e2, Option.getD_some, true_and]
  simp

set_option maxRecDepth 100000 in
set_option maxHeartbeats 1600000 in
theorem rc_3a (ed : Int) (s : ByteArray) (n d : List UInt8) (wr : Bool) (w : World) (hs : s.size < 4294967281) (he : Env w) (hsp : splL s.data.toList = (n, d, wr)) (ln : (bt n).size ≤ 4611686018427387904) (ld : (bt d).size ≤ 4611686018427387904) (hn : wChk (bt n) = 3) (hd : wChk (bt d) = ed) :
    Calls Tryz.prog 98 #[.string s] w fun e w' => e = .returned (.int .i64 (3)) ∧ Below w.heap.size w w' := by
  have HE := Lib.hid he
  have HS := Lib.hid hsp
  have HLN := Lib.hid ln
  have HLD := Lib.hid ld
  have HSZ := Lib.hid hs
  have HN := Lib.hid hn
  have HD := Lib.hid hd
  clear ln ld he hsp hs hn hd
  go_enter Tryz.func98, Tryz.ntmps98
  go_wp2_with fail
  refine (cut_any s _ HSZ.out HE.out).mono ?_
  rintro e w1 ⟨rfl, hd1⟩
  rw [HS.out]
  have HB1 := Lib.hid (hd1.below w.heap.size)
  clear hd1
  go_wp2_with fail
  refine (check_any (bt n) _ HLN.out).mono ?_
  rintro e w2 ⟨rfl, hb2⟩
  rw [HN.out]
  have HB2 := Lib.hid (HB1.out.trans (hb2.mono HB1.out.size))
  clear hb2
  go_wp2_with fail
  refine (check_any (bt d) _ HLD.out).mono ?_
  rintro e w3 ⟨rfl, hb3⟩
  rw [HD.out]
  have HB3 := Lib.hid (HB2.out.trans (hb3.mono HB2.out.size))
  clear hb3
  go_wp2
  go_ret
  exact ⟨rfl, HB3.out⟩

set_option maxRecDepth 100000 in
set_option maxHeartbeats 1600000 in
theorem rc_3b (en : Int) (hne : (en == 3) = false) (s : ByteArray) (n d : List UInt8) (wr : Bool) (w : World) (hs : s.size < 4294967281) (he : Env w) (hsp : splL s.data.toList = (n, d, wr)) (ln : (bt n).size ≤ 4611686018427387904) (ld : (bt d).size ≤ 4611686018427387904) (hn : wChk (bt n) = en) (hd : wChk (bt d) = 3) :
    Calls Tryz.prog 98 #[.string s] w fun e w' => e = .returned (.int .i64 (3)) ∧ Below w.heap.size w w' := by
  have HE := Lib.hid he
  have HS := Lib.hid hsp
  have HLN := Lib.hid ln
  have HLD := Lib.hid ld
  have HSZ := Lib.hid hs
  have HN := Lib.hid hn
  have HD := Lib.hid hd
  clear ln ld he hsp hs hn hd
  go_enter Tryz.func98, Tryz.ntmps98
  go_wp2_with fail
  refine (cut_any s _ HSZ.out HE.out).mono ?_
  rintro e w1 ⟨rfl, hd1⟩
  rw [HS.out]
  have HB1 := Lib.hid (hd1.below w.heap.size)
  clear hd1
  go_wp2_with fail
  refine (check_any (bt n) _ HLN.out).mono ?_
  rintro e w2 ⟨rfl, hb2⟩
  rw [HN.out]
  have HB2 := Lib.hid (HB1.out.trans (hb2.mono HB1.out.size))
  clear hb2
  go_wp2_with fail
  refine (check_any (bt d) _ HLD.out).mono ?_
  rintro e w3 ⟨rfl, hb3⟩
  rw [HD.out]
  have HB3 := Lib.hid (HB2.out.trans (hb3.mono HB2.out.size))
  clear hb3
  go_wp2
  go_ret
  exact ⟨rfl, HB3.out⟩

set_option maxRecDepth 100000 in
set_option maxHeartbeats 1600000 in
theorem rc_11a (s : ByteArray) (n d : List UInt8) (wr : Bool) (w : World) (hs : s.size < 4294967281) (he : Env w) (hsp : splL s.data.toList = (n, d, wr)) (ln : (bt n).size ≤ 4611686018427387904) (ld : (bt d).size ≤ 4611686018427387904) (hn : wChk (bt n) = 11) (hd : wChk (bt d) = 11) :
    Calls Tryz.prog 98 #[.string s] w fun e w' => e = .returned (.int .i64 (11)) ∧ Below w.heap.size w w' := by
  have HE := Lib.hid he
  have HS := Lib.hid hsp
  have HLN := Lib.hid ln
  have HLD := Lib.hid ld
  have HSZ := Lib.hid hs
  have HN := Lib.hid hn
  have HD := Lib.hid hd
  clear ln ld he hsp hs hn hd
  go_enter Tryz.func98, Tryz.ntmps98
  go_wp2_with fail
  refine (cut_any s _ HSZ.out HE.out).mono ?_
  rintro e w1 ⟨rfl, hd1⟩
  rw [HS.out]
  have HB1 := Lib.hid (hd1.below w.heap.size)
  clear hd1
  go_wp2_with fail
  refine (check_any (bt n) _ HLN.out).mono ?_
  rintro e w2 ⟨rfl, hb2⟩
  rw [HN.out]
  have HB2 := Lib.hid (HB1.out.trans (hb2.mono HB1.out.size))
  clear hb2
  go_wp2_with fail
  refine (check_any (bt d) _ HLD.out).mono ?_
  rintro e w3 ⟨rfl, hb3⟩
  rw [HD.out]
  have HB3 := Lib.hid (HB2.out.trans (hb3.mono HB2.out.size))
  clear hb3
  go_wp2
  go_ret
  exact ⟨rfl, HB3.out⟩

set_option maxRecDepth 100000 in
set_option maxHeartbeats 1600000 in
theorem rc_11b (s : ByteArray) (n d : List UInt8) (wr : Bool) (w : World) (hs : s.size < 4294967281) (he : Env w) (hsp : splL s.data.toList = (n, d, wr)) (ln : (bt n).size ≤ 4611686018427387904) (ld : (bt d).size ≤ 4611686018427387904) (hn : wChk (bt n) = 11) (hd : wChk (bt d) = 0) :
    Calls Tryz.prog 98 #[.string s] w fun e w' => e = .returned (.int .i64 (11)) ∧ Below w.heap.size w w' := by
  have HE := Lib.hid he
  have HS := Lib.hid hsp
  have HLN := Lib.hid ln
  have HLD := Lib.hid ld
  have HSZ := Lib.hid hs
  have HN := Lib.hid hn
  have HD := Lib.hid hd
  clear ln ld he hsp hs hn hd
  go_enter Tryz.func98, Tryz.ntmps98
  go_wp2_with fail
  refine (cut_any s _ HSZ.out HE.out).mono ?_
  rintro e w1 ⟨rfl, hd1⟩
  rw [HS.out]
  have HB1 := Lib.hid (hd1.below w.heap.size)
  clear hd1
  go_wp2_with fail
  refine (check_any (bt n) _ HLN.out).mono ?_
  rintro e w2 ⟨rfl, hb2⟩
  rw [HN.out]
  have HB2 := Lib.hid (HB1.out.trans (hb2.mono HB1.out.size))
  clear hb2
  go_wp2_with fail
  refine (check_any (bt d) _ HLD.out).mono ?_
  rintro e w3 ⟨rfl, hb3⟩
  rw [HD.out]
  have HB3 := Lib.hid (HB2.out.trans (hb3.mono HB2.out.size))
  clear hb3
  go_wp2
  go_ret
  exact ⟨rfl, HB3.out⟩

set_option maxRecDepth 100000 in
set_option maxHeartbeats 1600000 in
theorem rc_11c (s : ByteArray) (n d : List UInt8) (wr : Bool) (w : World) (hs : s.size < 4294967281) (he : Env w) (hsp : splL s.data.toList = (n, d, wr)) (ln : (bt n).size ≤ 4611686018427387904) (ld : (bt d).size ≤ 4611686018427387904) (hn : wChk (bt n) = 0) (hd : wChk (bt d) = 11) :
    Calls Tryz.prog 98 #[.string s] w fun e w' => e = .returned (.int .i64 (11)) ∧ Below w.heap.size w w' := by
  have HE := Lib.hid he
  have HS := Lib.hid hsp
  have HLN := Lib.hid ln
  have HLD := Lib.hid ld
  have HSZ := Lib.hid hs
  have HN := Lib.hid hn
  have HD := Lib.hid hd
  clear ln ld he hsp hs hn hd
  go_enter Tryz.func98, Tryz.ntmps98
  go_wp2_with fail
  refine (cut_any s _ HSZ.out HE.out).mono ?_
  rintro e w1 ⟨rfl, hd1⟩
  rw [HS.out]
  have HB1 := Lib.hid (hd1.below w.heap.size)
  clear hd1
  go_wp2_with fail
  refine (check_any (bt n) _ HLN.out).mono ?_
  rintro e w2 ⟨rfl, hb2⟩
  rw [HN.out]
  have HB2 := Lib.hid (HB1.out.trans (hb2.mono HB1.out.size))
  clear hb2
  go_wp2_with fail
  refine (check_any (bt d) _ HLD.out).mono ?_
  rintro e w3 ⟨rfl, hb3⟩
  rw [HD.out]
  have HB3 := Lib.hid (HB2.out.trans (hb3.mono HB2.out.size))
  clear hb3
  go_wp2
  go_ret
  exact ⟨rfl, HB3.out⟩

set_option maxRecDepth 100000 in
set_option maxHeartbeats 1600000 in
theorem rc_0 (s : ByteArray) (n d : List UInt8) (w : World) (hs : s.size < 4294967281) (he : Env w) (hsp : splL s.data.toList = (n, d, false)) (ln : (bt n).size ≤ 4611686018427387904) (ld : (bt d).size ≤ 4611686018427387904) (hn : wChk (bt n) = 0) (hd : wChk (bt d) = 0) :
    Calls Tryz.prog 98 #[.string s] w fun e w' => e = .returned (.int .i64 (0)) ∧ Below w.heap.size w w' := by
  have HE := Lib.hid he
  have HS := Lib.hid hsp
  have HLN := Lib.hid ln
  have HLD := Lib.hid ld
  have HSZ := Lib.hid hs
  have HN := Lib.hid hn
  have HD := Lib.hid hd
  clear ln ld he hsp hs hn hd
  go_enter Tryz.func98, Tryz.ntmps98
  go_wp2_with fail
  refine (cut_any s _ HSZ.out HE.out).mono ?_
  rintro e w1 ⟨rfl, hd1⟩
  rw [HS.out]
  have HB1 := Lib.hid (hd1.below w.heap.size)
  clear hd1
  go_wp2_with fail
  refine (check_any (bt n) _ HLN.out).mono ?_
  rintro e w2 ⟨rfl, hb2⟩
  rw [HN.out]
  have HB2 := Lib.hid (HB1.out.trans (hb2.mono HB1.out.size))
  clear hb2
  go_wp2_with fail
  refine (check_any (bt d) _ HLD.out).mono ?_
  rintro e w3 ⟨rfl, hb3⟩
  rw [HD.out]
  have HB3 := Lib.hid (HB2.out.trans (hb3.mono HB2.out.size))
  clear hb3
  go_wp2
  go_ret
  exact ⟨rfl, HB3.out⟩

end Go.Proofs.YtfebiipggcgmdaaGreatDoor

namespace Go.Proofs.YtfebiipggcgmdaaGreatDoor
open Go.RowKit

set_option maxRecDepth 100000 in
set_option maxHeartbeats 1600000 in
theorem rc_long (a b v : Int) (hv : (if b ≤ 1 ∨ Int.gcd a b ≠ 1 then (3 : Int) else 0) = v) (s : ByteArray) (n d : List UInt8) (w : World) (hs : s.size < 4294967281) (he : Env w) (hsp : splL s.data.toList = (n, d, true)) (ln : (bt n).size ≤ 4611686018427387904) (ld : (bt d).size ≤ 4611686018427387904)
    (ha : bt n = it a) (hb : bt d = it b) (ia : In a) (ib : In b) (hn : wChk (bt n) = 0) (hd : wChk (bt d) = 0) :
    Calls Tryz.prog 98 #[.string s] w fun e w' => e = .returned (.int .i64 v) ∧ Below w.heap.size w w' := by
  have HE := Lib.hid he
  have HS := Lib.hid hsp
  have HLN := Lib.hid ln
  have HLD := Lib.hid ld
  have HSZ := Lib.hid hs
  have HN := Lib.hid hn
  have HD := Lib.hid hd
  have HA := Lib.hid ia
  have HB := Lib.hid ib
  have HTA := Lib.hid ha
  have HTB := Lib.hid hb
  have HC := Lib.hid (compare_any b 1)
  have HI := Lib.hid it_one
  obtain ⟨o, ho⟩ : ∃ o, (b - 1).sign = o := ⟨_, rfl⟩
  have hob : o ≤ 0 ↔ b ≤ 1 := by
    subst ho
    rw [Int.sign_nonpos_iff]; omega
  obtain ⟨g, hg⟩ : ∃ g, Int.gcd a b = g := ⟨_, rfl⟩
  have HO := Lib.hid ho
  have HG := Lib.hid hg
  rw [hg] at hv
  rcases (show o ≤ 0 ∨ (¬ o ≤ 0 ∧ g = 1) ∨ (¬ o ≤ 0 ∧ g ≠ 1) by omega) with h1 | ⟨h1, h2⟩ | ⟨h1, h2⟩
  case' inl => have HR := Lib.hid (show v = 3 from hv.symm.trans <| if_pos (Or.inl (hob.1 h1)))
  case' inr.inl => have HR := Lib.hid (show v = 0 from hv.symm.trans <| if_neg (fun h => h.elim (fun h => h1 (hob.2 h)) (fun h => h h2)))
  case' inr.inl => have hz : ((it (g : Int)).toList == [49]) = true := by subst h2; rw [Lib.toList_data, it_nat_list, dec_small (by omega)]; rfl
  case' inr.inr => have HR := Lib.hid (show v = 3 from hv.symm.trans <| if_pos (Or.inr h2))
  case' inr.inr => have hz := it_ne_one h2
  all_goals clear ln ld he hsp hs hn hd ha hb ia ib hob ho hg hv
  all_goals try clear h2
  all_goals go_enter Tryz.func98, Tryz.ntmps98
  all_goals go_wp2_with fail
  all_goals refine (cut_any s _ HSZ.out HE.out).mono ?_
  all_goals rintro e w1 ⟨rfl, hd1⟩
  all_goals rw [HS.out]
  all_goals have HB1 := Lib.hid (hd1.below w.heap.size)
  all_goals clear hd1
  all_goals go_wp2_with fail
  all_goals refine (check_any (bt n) _ HLN.out).mono ?_
  all_goals rintro e w2 ⟨rfl, hb2⟩
  all_goals rw [HN.out]
  all_goals have HB2 := Lib.hid (HB1.out.trans (hb2.mono HB1.out.size))
  all_goals clear hb2
  all_goals go_wp2_with fail
  all_goals refine (check_any (bt d) _ HLD.out).mono ?_
  all_goals rintro e w3 ⟨rfl, hb3⟩
  all_goals rw [HD.out]
  all_goals have HB3 := Lib.hid (HB2.out.trans (hb3.mono HB2.out.size))
  all_goals clear hb3
  all_goals go_wp2_with fail
  all_goals rw [HTB.out, ← HI.out]
  all_goals refine (HC.out _ HB.out (In.of_abs P_one)).mono ?_
  all_goals rintro e w4 ⟨rfl, hb4⟩
  all_goals rw [HO.out]
  all_goals have HB4 := Lib.hid (HB3.out.trans (hb4.mono HB3.out.size))
  all_goals clear hb4
  all_goals go_wp2_with fail
  all_goals rw [HTA.out]
  all_goals refine (gcd_any a b _ HA.out HB.out (HE.out.below HB4.out)).mono ?_
  all_goals rintro e w5 ⟨rfl, hb5⟩
  all_goals rw [HG.out]
  all_goals have HB5 := Lib.hid (HB4.out.trans (hb5.mono HB4.out.size))
  all_goals clear hb5
  all_goals go_wp2
  all_goals go_ret
  all_goals exact ⟨by rw [HR.out]; rfl, HB5.out⟩

theorem rcheck_any (s : ByteArray) (w : World) (hs : s.size < 4294967281) (he : Env w) :
    Calls Tryz.prog 98 #[.string s] w fun e w' => e = .returned (.int .i64 (rChk s)) ∧ Below w.heap.size w w' := by
  obtain ⟨n, d, wr, hsp⟩ : ∃ n d wr, splL s.data.toList = (n, d, wr) := ⟨_, _, _, rfl⟩
  have hlen := splL_len s.data.toList
  rw [hsp] at hlen
  have hl2 : s.data.toList.length = s.size := rfl
  have ln : (bt n).size ≤ 4611686018427387904 := by rw [bt_size]; have := hlen.1; simp only at this; omega
  have ld : (bt d).size ≤ 4611686018427387904 := by rw [bt_size]; have := hlen.2; simp only at this; omega
  have hrc : rChk s = rChkL s.data.toList := rfl
  unfold rChkL at hrc
  rw [hsp] at hrc
  simp only at hrc
  rw [← bt_chk, ← bt_chk] at hrc
  rcases wChk_three (bt n) with hn | hn | hn
  · rw [show rChk s = 3 by rw [hrc, if_pos (Or.inl hn)]]
    exact rc_3a _ s n d wr w hs he hsp ln ld hn rfl
  · rcases wChk_three (bt d) with hd | hd | hd
    · rw [show rChk s = 3 by rw [hrc, if_pos (Or.inr hd)]]
      exact rc_3b 11 rfl s n d wr w hs he hsp ln ld hn hd
    · rw [show rChk s = 11 by rw [hrc, hn, hd]; rfl]
      exact rc_11a s n d wr w hs he hsp ln ld hn hd
    · rw [show rChk s = 11 by rw [hrc, hn, hd]; rfl]
      exact rc_11b s n d wr w hs he hsp ln ld hn hd
  · rcases wChk_three (bt d) with hd | hd | hd
    · rw [show rChk s = 3 by rw [hrc, if_pos (Or.inr hd)]]
      exact rc_3b 0 rfl s n d wr w hs he hsp ln ld hn hd
    · rw [show rChk s = 11 by rw [hrc, hn, hd]; rfl]
      exact rc_11c s n d wr w hs he hsp ln ld hn hd
    · cases wr with
      | false =>
        rw [show rChk s = 0 by rw [hrc, hn, hd]; simp]
        exact rc_0 s n d w hs he hsp ln ld hn hd
      | true =>
        obtain ⟨a, b, ha, hb, ia, ib, hr⟩ := spl_right hn hd hsp
        rw [hr]
        exact rc_long a b _ rfl s n d w hs he hsp ln ld ha hb ia ib hn hd
end Go.Proofs.YtfebiipggcgmdaaGreatDoor

namespace Go.Proofs.YtfebiipggcgmdaaGreatDoor
open Go.RowKit

theorem rt_size {p : Rat} (h : sm 1024 p) : (rt p).size ≤ 4000 := by
  have h1 : In p.num := In.of_lt h.1
  have h2 : In (p.den : Int) := In.of_lt (by rw [Int.natAbs_natCast]; exact h.2)
  have s1 := it_le h1
  have s2 := it_le h2
  rw [it_nat_size] at s2
  have s3 : (it p.num).size = (Lib.itoa p.num).length := by rw [← it_list]; rfl
  show (rt p).data.toList.length ≤ 4000
  rw [rt_list]
  split
  · omega
  · simp; omega

theorem rcheck_rt (p : Rat) (w : World) (h : sm 1024 p) (he : Env w) : Calls Tryz.prog 98 #[.string (rt p)] w fun e w' => e = .returned (.int .i64 0) ∧ Below w.heap.size w w' := by
  have := rcheck_any (rt p) w (by have := rt_size h; omega) he
  rw [rChk_rt h] at this
  exact this

theorem checks_ok (g : Nat) (p q : Rat) (w : World) (hp : sm 1024 p) (hq : sm 1024 q) (he : Env w) (h0 : w.cell? ⟨g, 0, none⟩ = some (.string (rt p))) (h1 : w.cell? ⟨g, 1, none⟩ = some (.string (rt q))) :
    Calls Tryz.prog 73 #[.slice (some ⟨g, 0, none⟩) 2 2] w fun e w' => e = .returned (.int .i64 0) ∧ Below w.heap.size w w' := by
  have hg := World.block_lt_of_cell? w _ h0
  have HA := Lib.hid hp
  have HB := Lib.hid hq
  have HE := Lib.hid he
  clear hp hq he
  go_enter Tryz.func73, Tryz.ntmps73
  go_wp2
  go_loopg [8] 2 (fun k i wr => ∃ j : Nat, i = .int .i64 j ∧ j + k = 2 ∧ Below w.heap.size w wr)
  case atStart => exact ⟨0, rfl, rfl, Below.refl _ _⟩
  case round =>
    obtain ⟨j, rfl, hk, hbl⟩ := hrel
    have c0 := (hbl.cell (p := ⟨g, 0, none⟩) hg).trans h0
    have c1 := (hbl.cell (p := ⟨g, 1, none⟩) hg).trans h1
    rcases (show j = 0 ∨ j = 1 ∨ j = 2 by omega) with rfl | rfl | rfl
    · go_wp2_with fail
      refine (rcheck_rt p _ HA.out (HE.out.below hbl)).mono ?_
      rintro e w1 ⟨rfl, hb1⟩
      have HB1 := Lib.hid (hbl.trans (hb1.mono hbl.size))
      clear hb1
      go_wp2
      go_roundg 1
      case rel => exact ⟨1, rfl, rfl, HB1.out⟩
      case measure => omega
    · go_wp2_with fail
      refine (rcheck_rt q _ HB.out (HE.out.below hbl)).mono ?_
      rintro e w1 ⟨rfl, hb1⟩
      have HB1 := Lib.hid (hbl.trans (hb1.mono hbl.size))
      clear hb1
      go_wp2
      go_roundg 0
      case rel => exact ⟨2, rfl, rfl, HB1.out⟩
      case measure => omega
    · go_wp2
      go_ret
      exact ⟨rfl, hbl⟩

set_option maxRecDepth 100000 in
theorem parts_rt (p : Rat) (w : World) (h : sm 1024 p) (he : Env w) : Calls Tryz.prog 59 #[.string (rt p)] w fun e w' => e = .returned (.tuple #[.string (it p.num), .string (it (p.den : Int)), .int .i64 0]) ∧ Below w.heap.size w w' := by
  have HP := Lib.hid h
  have HE := Lib.hid he
  clear h he
  go_enter Tryz.func59, Tryz.ntmps59
  go_wp2_with fail
  refine (rcheck_rt p _ HP.out HE.out).mono ?_
  rintro e w1 ⟨rfl, hb1⟩
  have HB1 := Lib.hid hb1
  clear hb1
  go_wp2_with fail
  refine (cut_any (rt p) _ (by have := rt_size HP.out; omega) (HE.out.below HB1.out)).mono ?_
  rintro e w2 ⟨rfl, hd2⟩
  have HB2 := Lib.hid (HB1.out.trans (hd2.below w.heap.size))
  rw [splL_rt]
  clear hd2
  go_wp2
  go_ret3
  refine ⟨?_, HB2.out⟩
  have e2 : it (p.den : Int) = bt (Lib.decDigits p.den) := by apply ba_ext; rw [it_nat_list, bt_list]
  rw [e2]; rfl

set_option maxRecDepth 100000 in
theorem sign_rt (p : Rat) (w : World) (h : sm 1024 p) (he : Env w) : Calls Tryz.prog 105 #[.string (rt p)] w (NumEnd p.num.sign w) := by
  have HP := Lib.hid h
  have HE := Lib.hid he
  clear h he
  go_enter Tryz.func105, Tryz.ntmps105
  go_wp2_with fail
  refine (parts_rt p _ HP.out HE.out).mono ?_
  rintro e w1 ⟨rfl, hb1⟩
  have HB1 := Lib.hid hb1
  clear hb1
  go_wp2_with fail
  refine (signz_any p.num _ (In.of_lt HP.out.1)).mono ?_
  rintro e w2 ⟨rfl, hb2⟩
  have HB2 := Lib.hid (HB1.out.trans (hb2.mono HB1.out.size))
  clear hb2
  go_wp2
  go_ret2
  exact ⟨rfl, HB2.out⟩
end Go.Proofs.YtfebiipggcgmdaaGreatDoor
