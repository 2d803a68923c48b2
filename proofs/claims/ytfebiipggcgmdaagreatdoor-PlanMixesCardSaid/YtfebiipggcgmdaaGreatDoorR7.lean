import Derived.Test.YtfebiipggcgmdaaGreatDoorR6
namespace Go.Proofs.YtfebiipggcgmdaaGreatDoor
open Go.RowKit

/-- the index of the first slash -/
def sl (l : List UInt8) : Int := match cutL 47 l with | none => -1 | some p => (p.1.length : Int)
theorem sl_end {l : List UInt8} {j : Nat} (h : (47 : UInt8) ∉ l.take j) (hj : j = l.length) : sl l = -1 := by
  subst hj
  rw [List.take_length] at h
  unfold sl; rw [cutL_none h]
theorem sl_hit {l : List UInt8} {j : Nat} (h : (47 : UInt8) ∉ l.take j) (hj : l[j]? = some 47) : sl l = j := by
  have hlt : j < l.length := (List.getElem?_eq_some_iff.1 hj).1
  have e : l = l.take j ++ 47 :: l.drop (j + 1) := by
    have h1 := List.take_append_drop j l
    have h2 : l.drop j = 47 :: l.drop (j + 1) := by
      rw [List.drop_eq_getElem_cons hlt, (List.getElem?_eq_some_iff.1 hj).2]
    rw [h2] at h1
    exact h1.symm
  unfold sl
  rw [e, cutL_mid h]
  show ((l.take j).length : Int) = j
  rw [List.length_take]; omega
theorem no_step {l : List UInt8} {j : Nat} {b : UInt8} (h : (47 : UInt8) ∉ l.take j) (hj : l[j]? = some b) (hb : b ≠ 47) : (47 : UInt8) ∉ l.take (j + 1) := by
  rw [List.take_add_one, hj]
  simp only [Option.toList, List.mem_append, List.mem_singleton, not_or]
  exact ⟨h, fun e => hb e.symm⟩

set_option maxRecDepth 100000 in
theorem slash_any (s : ByteArray) (w : World) (hs : s.size < 4294967296) :
    Calls Tryz.prog 80 #[.string s] w fun e w' => e = .returned (.int .i64 (sl s.data.toList)) ∧ w' = w := by
  go_enter Tryz.func80, Tryz.ntmps80
  go_wp2
  go_loopg [3] s.size (fun k iv wr => ∃ j : Nat, iv = .int .i64 j ∧ j + k = s.size ∧ (47 : UInt8) ∉ s.data.toList.take j ∧ wr = w)
  case atStart => exact ⟨0, rfl, by omega, by simp, rfl⟩
  case round =>
    obtain ⟨j, rfl, hk, hno, rfl⟩ := hrel
    by_cases hz : gk = 0
    · obtain rfl : j = s.size := by omega
      have HN := Lib.hid (sl_end hno (by rw [Array.length_toList]; rfl))
      have hnl : ¬ ((s.size : Nat) : Int) < (s.size : Nat) := by omega
      clear hno
      go_wp2
      go_ret
      exact ⟨by rw [HN.out]; rfl, rfl⟩
    · have hj : j < s.size := by omega
      have hji : (j : Int) < s.size := by omega
      have hjl : j < s.data.toList.length := by rw [Array.length_toList]; exact hj
      obtain ⟨b, hb⟩ : ∃ b, s[j] = b := ⟨_, rfl⟩
      have hb2 : s.data.toList[j]? = some b := by rw [List.getElem?_eq_getElem hjl, ← hb]; rfl
      have e4 : IntKind.i64.wrap ((j : Int) + 1) = (j : Int) + 1 := IntWalk.i64_in _ (by omega)
      by_cases h47 : b = 47
      · subst h47
        have HN := Lib.hid (sl_hit hno hb2)
        clear hno hb2
        go_wp2
        go_ret
        exact ⟨by rw [HN.out]; rfl, rfl⟩
      · have HN := Lib.hid (no_step hno hb2 h47)
        have hbn : ¬ (b.toNat : Int) = 47 := by
          intro e
          exact h47 (UInt8.toNat_inj.1 (by show b.toNat = 47; omega))
        have hbe : ((b.toNat : Int) == 47) = false := by simpa using hbn
        clear hno hb2 h47
        go_wp2
        go_roundg (gk - 1)
        case rel => exact ⟨j + 1, by simp, by omega, HN.out, rfl⟩
        case measure => omega
end Go.Proofs.YtfebiipggcgmdaaGreatDoor

namespace Go.Proofs.YtfebiipggcgmdaaGreatDoor
open Go.RowKit

theorem itoa_pos (z : Int) : 0 < (Lib.itoa z).length := by
  obtain ⟨c, t, h, -⟩ := it_bytes z
  rw [h]; simp
theorem den_it (q : Rat) : it (q.den : Int) = ⟨(Lib.decDigits q.den).toArray⟩ := by unfold it; rw [itoa_nat]

set_option maxRecDepth 100000 in
theorem split_rt (q : Rat) (w : World) (hq : (rt q).size < 4294967296) :
    Calls Tryz.prog 49 #[.string (rt q)] w fun e w' => e = .returned (.tuple #[.string (it q.num), .string (it (q.den : Int))]) ∧ Below w.heap.size w w' := by
  have HS := Lib.hid (fun w => slash_any (rt q) w hq)
  by_cases hd : q.den = 1
  · have h1 : sl (rt q).data.toList = -1 := by
      rw [rt_list, if_pos hd]
      unfold sl; rw [cutL_none (no47_itoa _)]
    rw [h1] at HS
    have h2 : rt q = it q.num := by unfold rt; rw [if_pos hd]
    rw [h2] at HS ⊢
    rw [hd, show ((1 : Nat) : Int) = 1 from rfl, it_one]
    clear h1 h2 hq hd
    go_enter Tryz.func49, Tryz.ntmps49
    go_wp2_with fail
    refine (HS.out _).mono ?_
    rintro e w1 ⟨rfl, rfl⟩
    go_wp2
    go_ret2
    exact ⟨rfl, Below.refl _ _⟩
  · have hl : (rt q).data.toList = Lib.itoa q.num ++ 47 :: Lib.decDigits q.den := by rw [rt_list, if_neg hd]
    have h1 : sl (rt q).data.toList = ((Lib.itoa q.num).length : Int) := by
      rw [hl]; unfold sl; rw [cutL_mid (no47_itoa _)]
    rw [h1] at HS
    rw [den_it]
    obtain ⟨s, hs⟩ : ∃ s, rt q = s := ⟨_, rfl⟩
    rw [hs] at hl hq HS ⊢
    have hsz : s.size = (Lib.itoa q.num).length + 1 + (Lib.decDigits q.den).length := by
      have h := congrArg List.length hl
      rw [Array.length_toList, List.length_append, List.length_cons] at h
      show s.data.size = _
      omega
    obtain ⟨n, hn⟩ : ∃ n, (Lib.itoa q.num).length = n := ⟨_, rfl⟩
    rw [hn] at HS hsz
    have e1 : IntKind.i64.wrap ((n : Int) + 1) = (n : Int) + 1 := IntWalk.i64_in _ (by omega)
    have hns : (n : Int) ≤ (s.size : Int) := by omega
    have hns2 : (n : Int) + 1 ≤ (s.size : Int) := by omega
    have HL := Lib.hid hl
    have HN := Lib.hid hn
    clear hl hn hs h1 hd
    go_enter Tryz.func49, Tryz.ntmps49
    go_wp2_with fail
    refine (HS.out _).mono ?_
    rintro e w1 ⟨rfl, rfl⟩
    go_wp2
    go_quiet (fail)
    go_wp2
    go_ret2
    refine ⟨?_, below_drewN (Below.refl _ _) _⟩
    have hl := HL.out
    have hn := HN.out
    have g1 : s.extract 0 n = it q.num := by
      apply ba_ext
      rw [it_list, Lib.extract_data, hl, ← hn]
      simp
    have g2 : s.extract (n + 1) (n + 1 + (Lib.decDigits q.den).length) = ⟨(Lib.decDigits q.den).toArray⟩ := by
      apply ba_ext
      rw [Lib.extract_data, hl, ← hn]
      simp [List.drop_append]
      rw [List.drop_of_length_le (by omega), List.nil_append, List.take_length]
    rw [← g1, ← g2]
    rfl
end Go.Proofs.YtfebiipggcgmdaaGreatDoor

namespace Go.Proofs.YtfebiipggcgmdaaGreatDoor
open Go.RowKit

/-- a call of Times that answers -/
def TimesOk (a b : Int) : Prop := ∀ w, Calls Tryz.prog 76 #[.string (it a), .string (it b)] w fun e w' => e = .returned (.string (it (a * b))) ∧ Below w.heap.size w w'
/-- the five products -/
structure IsX (w : World) (g : Nat) (a b : Rat) : Prop where
  nq : w.cell? ⟨g, 0, none⟩ = some (.string (it (a.num * b.den)))
  mp : w.cell? ⟨g, 1, none⟩ = some (.string (it (b.num * a.den)))
  pq : w.cell? ⟨g, 2, none⟩ = some (.string (it ((a.den : Int) * b.den)))
  nm : w.cell? ⟨g, 3, none⟩ = some (.string (it (a.num * b.num)))
  pm : w.cell? ⟨g, 4, none⟩ = some (.string (it (a.den * b.num)))
theorem five_cells (w : World) (x0 x1 x2 x3 x4 : Value) (t : TypeId) : let v := w.alloc (.cells #[x0, x1, x2, x3, x4] t)
    v.cell? ⟨w.heap.size, 0, none⟩ = some x0 ∧ v.cell? ⟨w.heap.size, 1, none⟩ = some x1 ∧ v.cell? ⟨w.heap.size, 2, none⟩ = some x2 ∧ v.cell? ⟨w.heap.size, 3, none⟩ = some x3 ∧ v.cell? ⟨w.heap.size, 4, none⟩ = some x4 := by
  intro v
  have h : v.heap[w.heap.size]? = some (.cells #[x0, x1, x2, x3, x4] t) := heap_alloc_new w _
  refine ⟨?_, ?_, ?_, ?_, ?_⟩ <;> simp [World.cell?, h]

set_option maxRecDepth 100000 in
theorem crossed_of (a b : Rat) (w : World) (ha : (rt a).size < 4294967296) (hb : (rt b).size < 4294967296) (h1 : TimesOk a.num b.den) (h2 : TimesOk b.num a.den) (h3 : TimesOk a.den b.den) (h4 : TimesOk a.num b.num) (h5 : TimesOk a.den b.num) :
    Calls Tryz.prog 83 #[.string (rt a), .string (rt b)] w fun e w' => ∃ g, e = .returned (.slice (some ⟨g, 0, none⟩) 5 5) ∧ IsX w' g a b ∧ Below w.heap.size w w' := by
  have SA := Lib.hid (fun w => split_rt a w ha)
  have SB := Lib.hid (fun w => split_rt b w hb)
  have H1 := Lib.hid h1
  have H2 := Lib.hid h2
  have H3 := Lib.hid h3
  have H4 := Lib.hid h4
  have H5 := Lib.hid h5
  clear ha hb h1 h2 h3 h4 h5
  go_enter Tryz.func83, Tryz.ntmps83
  go_wp2_with fail
  refine (SA.out _).mono ?_
  rintro e w1 ⟨rfl, hb1⟩
  have B1 := Lib.hid hb1
  clear hb1
  go_wp2_with fail
  refine (SB.out _).mono ?_
  rintro e w2 ⟨rfl, hb2⟩
  have B2 := Lib.hid (B1.out.trans (hb2.mono B1.out.size))
  clear hb2
  go_wp2_with fail
  refine (H1.out _).mono ?_
  rintro e w3 ⟨rfl, hb3⟩
  have B3 := Lib.hid (B2.out.trans (hb3.mono B2.out.size))
  clear hb3
  go_wp2_with fail
  refine (H2.out _).mono ?_
  rintro e w4 ⟨rfl, hb4⟩
  have B4 := Lib.hid (B3.out.trans (hb4.mono B3.out.size))
  clear hb4
  go_wp2_with fail
  refine (H3.out _).mono ?_
  rintro e w5 ⟨rfl, hb5⟩
  have B5 := Lib.hid (B4.out.trans (hb5.mono B4.out.size))
  clear hb5
  go_wp2_with fail
  refine (H4.out _).mono ?_
  rintro e w6 ⟨rfl, hb6⟩
  have B6 := Lib.hid (B5.out.trans (hb6.mono B5.out.size))
  clear hb6
  go_wp2_with fail
  refine (H5.out _).mono ?_
  rintro e w7 ⟨rfl, hb7⟩
  have B7 := Lib.hid (B6.out.trans (hb7.mono B6.out.size))
  clear hb7
  have B8 := Lib.hid (B7.out.alloc B7.out.size (.cells #[.string (it (a.num * b.den)), .string (it (b.num * a.den)), .string (it ((a.den : Int) * b.den)), .string (it (a.num * b.num)), .string (it (a.den * b.num))] 63))
  have C8 := Lib.hid (five_cells w7 (.string (it (a.num * b.den))) (.string (it (b.num * a.den))) (.string (it ((a.den : Int) * b.den))) (.string (it (a.num * b.num))) (.string (it (a.den * b.num))) 63)
  go_wp2
  go_ret
  obtain ⟨c0, c1, c2, c3, c4⟩ := C8.out
  exact ⟨w7.heap.size, rfl, ⟨c0, c1, c2, c3, c4⟩, B8.out⟩

set_option maxRecDepth 100000 in
/-- the order of two right numbers -/
theorem rorder_of (a b : Rat) (x : Int) (w : World) (ha : (rt a).size < 4294967296) (hb : (rt b).size < 4294967296) (h1 : TimesOk a.num b.den) (h2 : TimesOk b.num a.den) (h3 : TimesOk a.den b.den) (h4 : TimesOk a.num b.num) (h5 : TimesOk a.den b.num)
    (hO : ∀ w, Calls Tryz.prog 81 #[.string (it (a.num * b.den)), .string (it (b.num * a.den))] w fun e w' => e = .returned (.int .i64 x) ∧ Below w.heap.size w w') :
    Calls Tryz.prog 88 #[.string (rt a), .string (rt b)] w fun e w' => e = .returned (.int .i64 x) ∧ Below w.heap.size w w' := by
  have HX := Lib.hid (fun w => crossed_of a b w ha hb h1 h2 h3 h4 h5)
  have HO := Lib.hid hO
  clear ha hb h1 h2 h3 h4 h5 hO
  go_enter Tryz.func88, Tryz.ntmps88
  go_wp2_with fail
  refine (HX.out _).mono ?_
  rintro e w1 ⟨g, rfl, hx, hb1⟩
  have B1 := Lib.hid hb1
  have HBD := Lib.hid (fun m => below_drewN hb1 m)
  have c0 := hx.nq
  have c1 := hx.mp
  clear hx hb1
  go_wp2
  go_region_with (
    (go_at_call 81
     refine (HO.out _).mono ?_
     rintro e w2 ⟨rfl, hb2⟩
     have B2 := Lib.hid ((HBD.out _).trans (hb2.mono (HBD.out _).size))
     clear hb2))
  all_goals clear c0 c1
  all_goals go_wp2
  all_goals go_ret
  all_goals exact ⟨rfl, B2.out⟩
end Go.Proofs.YtfebiipggcgmdaaGreatDoor
