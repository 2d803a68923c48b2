import Derived.Test.YtfebiipggcgmdaaGreatDoorC1
namespace Go.Proofs.YtfebiipggcgmdaaGreatDoor
open Go.RowKit

/-! ## Short, at any length -/
set_option maxRecDepth 100000 in
theorem slash_huge (s : ByteArray) (w : World) (hs : s.size ≤ 9223372036854775807) :
    Calls Tryz.prog 80 #[.string s] w fun e w' => e = .returned (.int .i64 (sl s.data.toList)) ∧ w' = w := by
  go_enter Tryz.func80, Tryz.ntmps80
  go_wp2
  go_loopg [3] s.size (fun k iv wr => ∃ j : Nat, iv = .int .i64 j ∧ j + k = s.size ∧ (47 : UInt8) ∉ s.data.toList.take j ∧ wr = w)
  case atStart => exact ⟨0, rfl, by omega, by simp, rfl⟩
  case round =>
    obtain ⟨j, rfl, hk, hno, rfl⟩ := hrel
    by_cases hz : gk = 0
    · obtain rfl : j = s.size := by omega
      have HN := Lib.hid (sl_end hno (by rw [Array.length_toList]; rfl))
      have hnl : ¬ ((s.size : Nat) : Int) < (s.size : Nat) := by omega
      clear hno
      go_wp2
      go_ret
      exact ⟨by rw [HN.out]; rfl, rfl⟩
    · have hj : j < s.size := by omega
      have hji : (j : Int) < s.size := by omega
      have hjl : j < s.data.toList.length := by rw [Array.length_toList]; exact hj
      obtain ⟨b, hb⟩ : ∃ b, s[j] = b := ⟨_, rfl⟩
      have hb2 : s.data.toList[j]? = some b := by rw [List.getElem?_eq_getElem hjl, ← hb]; rfl
      have e4 : IntKind.i64.wrap ((j : Int) + 1) = (j : Int) + 1 := IntWalk.i64_in _ (by omega)
      by_cases h47 : b = 47
      · subst h47
        have HN := Lib.hid (sl_hit hno hb2)
        clear hno hb2
        go_wp2
        go_ret
        exact ⟨by rw [HN.out]; rfl, rfl⟩
      · have HN := Lib.hid (no_step hno hb2 h47)
        have hbn : ¬ (b.toNat : Int) = 47 := by
          intro e
          exact h47 (UInt8.toNat_inj.1 (by show b.toNat = 47; omega))
        have hbe : ((b.toNat : Int) == 47) = false := by simpa using hbn
        clear hno hb2 h47
        go_wp2
        go_roundg (gk - 1)
        case rel => exact ⟨j + 1, by simp, by omega, HN.out, rfl⟩
        case measure => omega
set_option maxRecDepth 100000 in
theorem split_huge (s : ByteArray) (n d : List UInt8) (wr : Bool) (w : World) (hs : s.size ≤ 9223372036854775807) (hsp : splL s.data.toList = (n, d, wr)) :
    Calls Tryz.prog 49 #[.string s] w fun e w' => e = .returned (.tuple #[.string (bt n), .string (bt d)]) ∧ Below w.heap.size w w' := by
  have HS := Lib.hid (fun w => slash_huge s w hs)
  unfold splL at hsp
  cases hc : cutL 47 s.data.toList with
  | none =>
    rw [hc] at hsp
    simp only [Prod.mk.injEq] at hsp
    obtain ⟨rfl, rfl, rfl⟩ := hsp
    have h1 : sl s.data.toList = -1 := by unfold sl; rw [hc]
    rw [h1] at HS
    rw [bt_self, show bt [49] = ⟨#[49]⟩ from rfl]
    clear h1 hs hc
    go_enter Tryz.func49, Tryz.ntmps49
    go_wp2_with fail
    refine (HS.out _).mono ?_
    rintro e w1 ⟨rfl, rfl⟩
    go_wp2
    go_ret2
    exact ⟨rfl, Below.refl _ _⟩
  | some p =>
    obtain ⟨a, b⟩ := p
    rw [hc] at hsp
    simp only [Prod.mk.injEq] at hsp
    obtain ⟨rfl, rfl, rfl⟩ := hsp
    obtain ⟨hl, -⟩ := cutL_some hc
    have h1 : sl s.data.toList = (a.length : Int) := by unfold sl; rw [hc]
    rw [h1] at HS
    have hsz : s.size = a.length + 1 + b.length := by
      have h := congrArg List.length hl
      rw [Array.length_toList, List.length_append, List.length_cons] at h
      show s.data.size = _
      omega
    obtain ⟨n, hn⟩ : ∃ n, a.length = n := ⟨_, rfl⟩
    rw [hn] at HS hsz
    have e1 : IntKind.i64.wrap ((n : Int) + 1) = (n : Int) + 1 := IntWalk.i64_in _ (by omega)
    have hns : (n : Int) ≤ (s.size : Int) := by omega
    have hns2 : (n : Int) + 1 ≤ (s.size : Int) := by omega
    have HL := Lib.hid hl
    have HN := Lib.hid hn
    clear hl hn hc h1
    go_enter Tryz.func49, Tryz.ntmps49
    go_wp2_with fail
    refine (HS.out _).mono ?_
    rintro e w1 ⟨rfl, rfl⟩
    go_wp2
    go_quiet (fail)
    go_wp2
    go_ret2
    refine ⟨?_, below_drewN (Below.refl _ _) _⟩
    have hl := HL.out
    have hn := HN.out
    have g1 : s.extract 0 n = bt a := by
      apply ba_ext
      rw [bt_list, Lib.extract_data, hl, ← hn]
      simp
    have g2 : s.extract (n + 1) (n + 1 + b.length) = bt b := by
      apply ba_ext
      rw [bt_list, Lib.extract_data, hl, ← hn]
      simp [List.drop_append]
      rw [List.drop_of_length_le (by omega), List.nil_append, List.take_length]
    rw [← g1, ← g2]
    rfl

set_option maxRecDepth 100000 in
theorem short_any (s : ByteArray) (n d : List UInt8) (wr : Bool) (w : World) (hs : s.size ≤ 9223372036854775807) (hsp : splL s.data.toList = (n, d, wr)) :
    Calls Tryz.prog 20 #[.string s] w fun e w' => e = .returned (.bool (decide (n.length ≤ 30 ∧ d.length ≤ 30))) ∧ Below w.heap.size w w' := by
  have HSP := Lib.hid (fun w => split_huge s n d wr w hs hsp)
  have hn : (bt n).size = n.length := bt_size n
  have hd : (bt d).size = d.length := bt_size d
  have hw : (¬ n.length ≤ 30 ∧ decide (n.length ≤ 30 ∧ d.length ≤ 30) = false) ∨ (n.length ≤ 30 ∧ ¬ d.length ≤ 30 ∧ decide (n.length ≤ 30 ∧ d.length ≤ 30) = false) ∨ (n.length ≤ 30 ∧ d.length ≤ 30 ∧ decide (n.length ≤ 30 ∧ d.length ≤ 30) = true) := by
    by_cases h1 : n.length ≤ 30
    · by_cases h2 : d.length ≤ 30
      · exact .inr (.inr ⟨h1, h2, decide_eq_true ⟨h1, h2⟩⟩)
      · exact .inr (.inl ⟨h1, h2, decide_eq_false (fun h => h2 h.2)⟩)
    · exact .inl ⟨h1, decide_eq_false (fun h => h1 h.1)⟩
  rw [← hn, ← hd] at hw
  rw [← hn, ← hd]
  obtain ⟨N, hN⟩ : ∃ N, bt n = N := ⟨_, rfl⟩
  obtain ⟨D, hD⟩ : ∃ D, bt d = D := ⟨_, rfl⟩
  rw [hN] at HSP hw ⊢
  rw [hD] at HSP hw ⊢
  obtain ⟨r, hr⟩ : ∃ r, decide (N.size ≤ 30 ∧ D.size ≤ 30) = r := ⟨_, rfl⟩
  rw [hr] at hw ⊢
  clear hs hsp hn hd hN hD hr
  rcases hw with ⟨h1, rfl⟩ | ⟨h1, h2, rfl⟩ | ⟨h1, h2, rfl⟩
  · have g1 : decide ((N.size : Int) ≤ 30) = false := decide_eq_false (by omega)
    have g2 : ¬ (N.size : Int) ≤ 30 := by omega
    clear h1
    go_enter Tryz.func20, Tryz.ntmps20
    go_wp2_with fail
    refine (HSP.out _).mono ?_
    rintro e w1 ⟨rfl, hb1⟩
    have B1 := Lib.hid hb1
    clear hb1
    go_wp2
    go_ret
    exact ⟨rfl, B1.out⟩
  · have g1 : (N.size : Int) ≤ 30 := by omega
    have g2 : ¬ (D.size : Int) ≤ 30 := by omega
    have g3 : decide ((D.size : Int) ≤ 30) = false := decide_eq_false g2
    clear h1 h2
    go_enter Tryz.func20, Tryz.ntmps20
    go_wp2_with fail
    refine (HSP.out _).mono ?_
    rintro e w1 ⟨rfl, hb1⟩
    have B1 := Lib.hid hb1
    clear hb1
    go_wp2
    go_ret
    exact ⟨rfl, B1.out⟩
  · have g1 : (N.size : Int) ≤ 30 := by omega
    have g2 : (D.size : Int) ≤ 30 := by omega
    have g3 : decide ((D.size : Int) ≤ 30) = true := decide_eq_true g2
    clear h1 h2
    go_enter Tryz.func20, Tryz.ntmps20
    go_wp2_with fail
    refine (HSP.out _).mono ?_
    rintro e w1 ⟨rfl, hb1⟩
    have B1 := Lib.hid hb1
    clear hb1
    go_wp2
    go_ret
    exact ⟨rfl, B1.out⟩

/-! ## Needs of the reference -/
def nd (L G B : Int) (s1 s2 : ByteArray) : Value := .agg #[.int .i64 L, .int .i64 G, .int .i64 B, .string s1, .string s2]
structure IsNd (w : World) (g : Nat) (L G B : Int) (s1 s2 : ByteArray) : Prop where
  c0 : w.cell? ⟨g, 0, none⟩ = some (.int .i64 L)
  c1 : w.cell? ⟨g, 1, none⟩ = some (.int .i64 G)
  c2 : w.cell? ⟨g, 2, none⟩ = some (.int .i64 B)
  c3 : w.cell? ⟨g, 3, none⟩ = some (.string s1)
  c4 : w.cell? ⟨g, 4, none⟩ = some (.string s2)
  l : g < w.heap.size
theorem IsNd.below {w w' : World} {g : Nat} {L G B : Int} {s1 s2 : ByteArray} (h : IsNd w g L G B s1 s2) (hb : Below w.heap.size w w') : IsNd w' g L G B s1 s2 :=
  ⟨(hb.cell (p := ⟨g, 0, none⟩) h.l).trans h.c0, (hb.cell (p := ⟨g, 1, none⟩) h.l).trans h.c1, (hb.cell (p := ⟨g, 2, none⟩) h.l).trans h.c2, (hb.cell (p := ⟨g, 3, none⟩) h.l).trans h.c3, (hb.cell (p := ⟨g, 4, none⟩) h.l).trans h.c4, Nat.lt_of_lt_of_le h.l hb.size⟩
theorem IsNd.new (w : World) (L G B : Int) (s1 s2 : ByteArray) : IsNd (w.alloc (.cells #[.int .i64 L, .int .i64 G, .int .i64 B, .string s1, .string s2] 38)) w.heap.size L G B s1 s2 := by
  obtain ⟨a, b, c, d, e⟩ := five_cells w (.int .i64 L) (.int .i64 G) (.int .i64 B) (.string s1) (.string s2) 38
  exact ⟨a, b, c, d, e, by simp⟩

set_option maxRecDepth 100000 in
set_option maxHeartbeats 1600000 in
theorem right_num (L G B v : Int) (s1 s2 : ByteArray) (w : World)
    (hw : (L < 1 ∧ v = 2) ∨ (¬ L < 1 ∧ 64 < L ∧ v = 2) ∨ (¬ L < 1 ∧ ¬ 64 < L ∧ ¬ (0 ≤ G ∧ G ≤ L) ∧ v = 2) ∨ (¬ L < 1 ∧ ¬ 64 < L ∧ (0 ≤ G ∧ G ≤ L) ∧ ¬ (0 ≤ B ∧ B ≤ L) ∧ v = 2) ∨ (¬ L < 1 ∧ ¬ 64 < L ∧ (0 ≤ G ∧ G ≤ L) ∧ (0 ≤ B ∧ B ≤ L) ∧ B ≤ G ∧ v = 9)) :
    Calls Tryz.prog 52 #[nd L G B s1 s2] w fun e w' => e = .returned (.int .i64 v) ∧ Below w.heap.size w w' := by
  have hw2 : (L < 1 ∧ v = 2) ∨ (¬ L < 1 ∧ 64 < L ∧ v = 2) ∨ (¬ L < 1 ∧ ¬ 64 < L ∧ G < 0 ∧ v = 2) ∨ (¬ L < 1 ∧ ¬ 64 < L ∧ ¬ G < 0 ∧ L < G ∧ v = 2) ∨ (¬ L < 1 ∧ ¬ 64 < L ∧ ¬ G < 0 ∧ ¬ L < G ∧ B < 0 ∧ v = 2) ∨ (¬ L < 1 ∧ ¬ 64 < L ∧ ¬ G < 0 ∧ ¬ L < G ∧ ¬ B < 0 ∧ L < B ∧ v = 2) ∨ (¬ L < 1 ∧ ¬ 64 < L ∧ ¬ G < 0 ∧ ¬ L < G ∧ ¬ B < 0 ∧ ¬ L < B ∧ B ≤ G ∧ v = 9) := by
    rcases hw with ⟨h1, hv⟩ | ⟨h1, h2, hv⟩ | ⟨h1, h2, h3, hv⟩ | ⟨h1, h2, h3, h4, hv⟩ | ⟨h1, h2, h3, h4, h5, hv⟩
    · exact .inl ⟨h1, hv⟩
    · exact .inr (.inl ⟨h1, h2, hv⟩)
    · by_cases g : G < 0
      · exact .inr (.inr (.inl ⟨h1, h2, g, hv⟩))
      · exact .inr (.inr (.inr (.inl ⟨h1, h2, g, by omega, hv⟩)))
    · by_cases g : B < 0
      · exact .inr (.inr (.inr (.inr (.inl ⟨h1, h2, by omega, by omega, g, hv⟩))))
      · exact .inr (.inr (.inr (.inr (.inr (.inl ⟨h1, h2, by omega, by omega, g, by omega, hv⟩)))))
    · exact .inr (.inr (.inr (.inr (.inr (.inr ⟨h1, h2, by omega, by omega, by omega, by omega, h5, hv⟩)))))
  have HB0 := Lib.hid ((Below.refl w.heap.size w).alloc (Nat.le_refl _) (.cells #[.int .i64 L, .int .i64 G, .int .i64 B, .string s1, .string s2] 38))
  obtain ⟨c0, c1, c2, c3, c4, -⟩ := IsNd.new w L G B s1 s2
  unfold nd
  clear hw
  rcases hw2 with ⟨h1, rfl⟩ | ⟨h1, h2, rfl⟩ | ⟨h1, h2, h3, rfl⟩ | ⟨h1, h2, h3, h4, rfl⟩ | ⟨h1, h2, h3, h4, h5, rfl⟩ | ⟨h1, h2, h3, h4, h5, h6, rfl⟩ | ⟨h1, h2, h3, h4, h5, h6, h7, rfl⟩
  all_goals
    go_enter Tryz.func52, Tryz.ntmps52
    go_wp2
    go_ret
    exact ⟨rfl, HB0.out⟩

/-- an error of a text, told by the reference -/
def ErrR (f : Nat) (s : ByteArray) (e : Int) : Prop := ∀ w, Calls Tryz.prog f #[.string s] w fun e' w' => e' = .returned (.int .i64 e) ∧ Below w.heap.size w w'
set_option maxRecDepth 100000 in
set_option maxHeartbeats 1600000 in
theorem right_txt (L G B v e1 e2 u1 u2 : Int) (s1 s2 : ByteArray) (w : World) (h1 : 1 ≤ L) (h2 : L ≤ 64) (h3 : 0 ≤ G) (h4 : G < B) (h5 : B ≤ L)
    (c1 : ErrR 33 s1 e1) (c2 : ErrR 33 s2 e2) (d1 : e1 = 0 → ErrR 68 s1 u1) (d2 : e2 = 0 → ErrR 68 s2 u2)
    (hv : v = if e1 ≠ 0 then e1 else if e2 ≠ 0 then e2 else if u1 ≠ 0 then 2 else if u2 ≠ 0 then 2 else 0) :
    Calls Tryz.prog 52 #[nd L G B s1 s2] w fun e w' => e = .returned (.int .i64 v) ∧ Below w.heap.size w w' := by
  have hw : (e1 ≠ 0 ∧ v = e1) ∨ (e1 = 0 ∧ e2 ≠ 0 ∧ v = e2) ∨ (e1 = 0 ∧ e2 = 0 ∧ u1 ≠ 0 ∧ v = 2) ∨ (e1 = 0 ∧ e2 = 0 ∧ u1 = 0 ∧ u2 ≠ 0 ∧ v = 2) ∨ (e1 = 0 ∧ e2 = 0 ∧ u1 = 0 ∧ u2 = 0 ∧ v = 0) := by
    by_cases g1 : e1 = 0
    · rw [if_neg (not_not_intro g1)] at hv
      by_cases g2 : e2 = 0
      · rw [if_neg (not_not_intro g2)] at hv
        by_cases g3 : u1 = 0
        · rw [if_neg (not_not_intro g3)] at hv
          by_cases g4 : u2 = 0
          · rw [if_neg (not_not_intro g4)] at hv
            exact .inr (.inr (.inr (.inr ⟨g1, g2, g3, g4, hv⟩)))
          · rw [if_pos g4] at hv
            exact .inr (.inr (.inr (.inl ⟨g1, g2, g3, g4, hv⟩)))
        · rw [if_pos g3] at hv
          exact .inr (.inr (.inl ⟨g1, g2, g3, hv⟩))
      · rw [if_pos g2] at hv
        exact .inr (.inl ⟨g1, g2, hv⟩)
    · rw [if_pos g1] at hv
      exact .inl ⟨g1, hv⟩
  have CA := Lib.hid c1
  have CB := Lib.hid c2
  have DA := Lib.hid d1
  have DB := Lib.hid d2
  have HB0 := Lib.hid ((Below.refl w.heap.size w).alloc (Nat.le_refl _) (.cells #[.int .i64 L, .int .i64 G, .int .i64 B, .string s1, .string s2] 38))
  have HN0 := Lib.hid (IsNd.new w L G B s1 s2)
  have f1 : ¬ L < 1 := by omega
  have f2 : ¬ (64 : Int) < L := by omega
  have f3 : ¬ G < 0 := by omega
  have f4 : ¬ L < G := by omega
  have f5 : ¬ B < 0 := by omega
  have f6 : ¬ L < B := by omega
  have f7 : ¬ B ≤ G := by omega
  unfold nd
  clear h1 h2 h3 h4 h5 c1 c2 d1 d2 hv
  rcases hw with ⟨g1, rfl⟩ | ⟨rfl, g2, rfl⟩ | ⟨rfl, rfl, g3, rfl⟩ | ⟨rfl, rfl, rfl, g4, rfl⟩ | ⟨rfl, rfl, rfl, rfl, rfl⟩
  · have gb := ne_bool g1
    go_enter Tryz.func52, Tryz.ntmps52
    obtain ⟨c0, c1, c2, c3, c4, -⟩ := HN0.out
    go_wp2_with fail
    refine (CA.out _).mono ?_
    rintro e w1 ⟨rfl, hb⟩
    have HB1 := Lib.hid (HB0.out.trans (hb.mono HB0.out.size))
    have HN1 := Lib.hid (HN0.out.below hb)
    clear hb c0 c1 c2 c3 c4
    obtain ⟨c0, c1, c2, c3, c4, -⟩ := HN1.out
    go_wp2
    go_ret
    exact ⟨rfl, HB1.out⟩
  · have gb := ne_bool g2
    go_enter Tryz.func52, Tryz.ntmps52
    obtain ⟨c0, c1, c2, c3, c4, -⟩ := HN0.out
    go_wp2_with fail
    refine (CA.out _).mono ?_
    rintro e w1 ⟨rfl, hb⟩
    have HB1 := Lib.hid (HB0.out.trans (hb.mono HB0.out.size))
    have HN1 := Lib.hid (HN0.out.below hb)
    clear hb c0 c1 c2 c3 c4
    obtain ⟨c0, c1, c2, c3, c4, -⟩ := HN1.out
    go_wp2_with fail
    refine (CB.out _).mono ?_
    rintro e w2 ⟨rfl, hb⟩
    have HB2 := Lib.hid (HB1.out.trans (hb.mono HB1.out.size))
    have HN2 := Lib.hid (HN1.out.below hb)
    clear hb c0 c1 c2 c3 c4
    obtain ⟨c0, c1, c2, c3, c4, -⟩ := HN2.out
    go_wp2
    go_ret
    exact ⟨rfl, HB2.out⟩
  · have gb := ne_bool g3
    have UA := Lib.hid (DA.out rfl)
    go_enter Tryz.func52, Tryz.ntmps52
    obtain ⟨c0, c1, c2, c3, c4, -⟩ := HN0.out
    go_wp2_with fail
    refine (CA.out _).mono ?_
    rintro e w1 ⟨rfl, hb⟩
    have HB1 := Lib.hid (HB0.out.trans (hb.mono HB0.out.size))
    have HN1 := Lib.hid (HN0.out.below hb)
    clear hb c0 c1 c2 c3 c4
    obtain ⟨c0, c1, c2, c3, c4, -⟩ := HN1.out
    go_wp2_with fail
    refine (CB.out _).mono ?_
    rintro e w2 ⟨rfl, hb⟩
    have HB2 := Lib.hid (HB1.out.trans (hb.mono HB1.out.size))
    have HN2 := Lib.hid (HN1.out.below hb)
    clear hb c0 c1 c2 c3 c4
    obtain ⟨c0, c1, c2, c3, c4, -⟩ := HN2.out
    go_wp2_with fail
    refine (UA.out _).mono ?_
    rintro e w3 ⟨rfl, hb⟩
    have HB3 := Lib.hid (HB2.out.trans (hb.mono HB2.out.size))
    have HN3 := Lib.hid (HN2.out.below hb)
    clear hb c0 c1 c2 c3 c4
    obtain ⟨c0, c1, c2, c3, c4, -⟩ := HN3.out
    go_wp2
    go_ret
    exact ⟨rfl, HB3.out⟩
  · have gb := ne_bool g4
    have UA := Lib.hid (DA.out rfl)
    have UB := Lib.hid (DB.out rfl)
    go_enter Tryz.func52, Tryz.ntmps52
    obtain ⟨c0, c1, c2, c3, c4, -⟩ := HN0.out
    go_wp2_with fail
    refine (CA.out _).mono ?_
    rintro e w1 ⟨rfl, hb⟩
    have HB1 := Lib.hid (HB0.out.trans (hb.mono HB0.out.size))
    have HN1 := Lib.hid (HN0.out.below hb)
    clear hb c0 c1 c2 c3 c4
    obtain ⟨c0, c1, c2, c3, c4, -⟩ := HN1.out
    go_wp2_with fail
    refine (CB.out _).mono ?_
    rintro e w2 ⟨rfl, hb⟩
    have HB2 := Lib.hid (HB1.out.trans (hb.mono HB1.out.size))
    have HN2 := Lib.hid (HN1.out.below hb)
    clear hb c0 c1 c2 c3 c4
    obtain ⟨c0, c1, c2, c3, c4, -⟩ := HN2.out
    go_wp2_with fail
    refine (UA.out _).mono ?_
    rintro e w3 ⟨rfl, hb⟩
    have HB3 := Lib.hid (HB2.out.trans (hb.mono HB2.out.size))
    have HN3 := Lib.hid (HN2.out.below hb)
    clear hb c0 c1 c2 c3 c4
    obtain ⟨c0, c1, c2, c3, c4, -⟩ := HN3.out
    go_wp2_with fail
    refine (UB.out _).mono ?_
    rintro e w4 ⟨rfl, hb⟩
    have HB4 := Lib.hid (HB3.out.trans (hb.mono HB3.out.size))
    have HN4 := Lib.hid (HN3.out.below hb)
    clear hb c0 c1 c2 c3 c4
    obtain ⟨c0, c1, c2, c3, c4, -⟩ := HN4.out
    go_wp2
    go_ret
    exact ⟨rfl, HB4.out⟩
  · have UA := Lib.hid (DA.out rfl)
    have UB := Lib.hid (DB.out rfl)
    go_enter Tryz.func52, Tryz.ntmps52
    obtain ⟨c0, c1, c2, c3, c4, -⟩ := HN0.out
    go_wp2_with fail
    refine (CA.out _).mono ?_
    rintro e w1 ⟨rfl, hb⟩
    have HB1 := Lib.hid (HB0.out.trans (hb.mono HB0.out.size))
    have HN1 := Lib.hid (HN0.out.below hb)
    clear hb c0 c1 c2 c3 c4
    obtain ⟨c0, c1, c2, c3, c4, -⟩ := HN1.out
    go_wp2_with fail
    refine (CB.out _).mono ?_
    rintro e w2 ⟨rfl, hb⟩
    have HB2 := Lib.hid (HB1.out.trans (hb.mono HB1.out.size))
    have HN2 := Lib.hid (HN1.out.below hb)
    clear hb c0 c1 c2 c3 c4
    obtain ⟨c0, c1, c2, c3, c4, -⟩ := HN2.out
    go_wp2_with fail
    refine (UA.out _).mono ?_
    rintro e w3 ⟨rfl, hb⟩
    have HB3 := Lib.hid (HB2.out.trans (hb.mono HB2.out.size))
    have HN3 := Lib.hid (HN2.out.below hb)
    clear hb c0 c1 c2 c3 c4
    obtain ⟨c0, c1, c2, c3, c4, -⟩ := HN3.out
    go_wp2_with fail
    refine (UB.out _).mono ?_
    rintro e w4 ⟨rfl, hb⟩
    have HB4 := Lib.hid (HB3.out.trans (hb.mono HB3.out.size))
    have HN4 := Lib.hid (HN3.out.below hb)
    clear hb c0 c1 c2 c3 c4
    obtain ⟨c0, c1, c2, c3, c4, -⟩ := HN4.out
    go_wp2
    go_ret
    exact ⟨rfl, HB4.out⟩

set_option maxRecDepth 100000 in
/-- Least with needs that are wrong -/
theorem Least_bad (L G B v : Int) (s1 s2 : ByteArray) (w : World) (hv : v ≠ 0) (he : Env w)
    (hN : ∀ w, Env w → Calls Tryz.prog 50 #[.int .i64 L, .int .i64 G, .int .i64 B, .string s1, .string s2] w fun e w' => e = .returned (.int .i64 v) ∧ Below w.heap.size w w') :
    Calls Tryz.prog 21 #[.int .i64 L, .int .i64 G, .int .i64 B, .string s1, .string s2] w fun e w' => e = .returned (.tuple #[pl 0 0, .int .i64 v]) ∧ Below w.heap.size w w' := by
  have HN := Lib.hid hN
  have HE := Lib.hid he
  have gb := ne_bool hv
  obtain ⟨a0, a1⟩ := two_cells w (.int .i64 0) (.int .i64 0) 30
  have HA0 := Lib.hid a0
  have HA1 := Lib.hid a1
  have HB0 := Lib.hid ((Below.refl w.heap.size w).alloc (Nat.le_refl _) (.cells #[.int .i64 0, .int .i64 0] 30))
  have HSZ := Lib.hid (show w.heap.size < (w.alloc (.cells #[.int .i64 0, .int .i64 0] 30)).heap.size by simp)
  have HF := Lib.hid (fun o ho => frozen_new w #[.int .i64 0, .int .i64 0] 30 o ho)
  clear he hN a0 a1
  go_enter Tryz.func21, Tryz.ntmps21
  go_wp2_with fail
  refine (HN.out _ (HE.out.below HB0.out)).mono ?_
  rintro e w1 ⟨rfl, hb1⟩
  have HB1 := Lib.hid (HB0.out.trans (hb1.mono HB0.out.size))
  have z0 := (hb1.cell (p := ⟨w.heap.size, 0, none⟩) HSZ.out).trans HA0.out
  have z1 := (hb1.cell (p := ⟨w.heap.size, 1, none⟩) HSZ.out).trans HA1.out
  have z2 : w1.frozen? ⟨w.heap.size, 0, none⟩ = false := by rw [frozen_below hb1 HSZ.out]; exact HF.out 0 (by decide)
  have z3 : w1.frozen? ⟨w.heap.size, 1, none⟩ = false := by rw [frozen_below hb1 HSZ.out]; exact HF.out 1 (by decide)
  clear hb1
  go_wp2
  have HB9 := Lib.hid ((HB1.out.setCell (p := ⟨w.heap.size, 0, none⟩) (Nat.le_refl _) (.int .i64 0)).setCell (p := ⟨w.heap.size, 1, none⟩) (Nat.le_refl _) (.int .i64 0))
  have y0 : ((w1.setCell ⟨w.heap.size, 0, none⟩ (.int .i64 0)).setCell ⟨w.heap.size, 1, none⟩ (.int .i64 0)).cell? ⟨w.heap.size, 0, none⟩ = some (.int .i64 0) := by
    rw [cell_set_ne (by decide)]
    exact World.cell?_setCell_same' _ _ _ (by rw [z0]; rfl)
  have y1 : ((w1.setCell ⟨w.heap.size, 0, none⟩ (.int .i64 0)).setCell ⟨w.heap.size, 1, none⟩ (.int .i64 0)).cell? ⟨w.heap.size, 1, none⟩ = some (.int .i64 0) :=
    World.cell?_setCell_same' _ _ _ (by rw [cell_set_ne (by decide), z1]; rfl)
  (try simp only [Exit.inBlock, Exit.then])
  refine bodyPost_ret (v := .tuple #[.agg #[.int .i64 0, .int .i64 0], .int .i64 v]) ?_ rfl ⟨rfl, HB9.out⟩
  rw [results_cell_tmp rfl]
  go_simp
end Go.Proofs.YtfebiipggcgmdaaGreatDoor
