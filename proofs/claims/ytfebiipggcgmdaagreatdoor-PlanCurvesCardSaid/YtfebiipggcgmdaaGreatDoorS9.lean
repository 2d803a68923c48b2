import Derived.Test.YtfebiipggcgmdaaGreatDoorR9
namespace Go.Proofs.YtfebiipggcgmdaaGreatDoor
open Go.RowKit Go.Shelf

theorem set3' {w5 : World} {a b c : Nat} {x y z u v t : Value} (h1 : Box w5 a x) (h2 : Box w5 b y) (h3 : Box w5 c z) (hab : a ≠ b) (hac : a ≠ c) (hbc : b ≠ c) :
    ∃ w6, ((w5.setCell ⟨a, 0, none⟩ u).setCell ⟨b, 0, none⟩ v).setCell ⟨c, 0, none⟩ t = w6 ∧ Box w6 a u ∧ Box w6 b v ∧ Box w6 c t ∧ (∀ B, B ≤ a → B ≤ b → B ≤ c → Below B w5 w6) := by
  refine ⟨_, rfl, ?_, ?_, ?_, ?_⟩
  · exact ((h1.set u).other hab v).other hac t
  · exact ((h2.other (Ne.symm hab) u).set v).other hbc t
  · exact ((h3.other (Ne.symm hac) u).other (Ne.symm hbc) v).set t
  · intro B ha hb hc
    exact (((Below.refl B w5).setCell (p := ⟨a, 0, none⟩) ha _).setCell (p := ⟨b, 0, none⟩) hb _).setCell (p := ⟨c, 0, none⟩) hc _
theorem start5i (N C lot : Int) (w : World) : ∃ A4 : World,
    ((((w.alloc (.cells #[.int .i64 N, .int .i64 C] 30)).alloc (.cells #[.int .i64 lot] 3)).alloc (.cells #[.int .i64 0] 3)).alloc (.cells #[.string ⟨#[]⟩] 26)).alloc (.cells #[.int .i64 0] 27) = A4 ∧
    (A4.cell? ⟨w.heap.size, 0, none⟩ = some (.int .i64 N) ∧ A4.cell? ⟨w.heap.size, 1, none⟩ = some (.int .i64 C) ∧ Box A4 (w.heap.size + 1) (.int .i64 lot) ∧ Box A4 (w.heap.size + 1 + 1) (.int .i64 0) ∧ Box A4 (w.heap.size + 1 + 1 + 1) (.string ⟨#[]⟩) ∧ Box A4 (w.heap.size + 1 + 1 + 1 + 1) (.int .i64 0)) ∧
    Below w.heap.size w A4 ∧ A4.heap.size = w.heap.size + 1 + 1 + 1 + 1 + 1 := by
  have h0 := two_cells w (.int .i64 N) (.int .i64 C) 30
  obtain ⟨p0, p1⟩ := h0
  have s1 : (w.alloc (.cells #[.int .i64 N, .int .i64 C] 30)).heap.size = w.heap.size + 1 := by simp
  have b1 := Box.new (w.alloc (.cells #[.int .i64 N, .int .i64 C] 30)) _ s1 (.int .i64 lot) 3
  have p0 := cell_old (.cells #[.int .i64 lot] 3) p0
  have p1 := cell_old (.cells #[.int .i64 lot] 3) p1
  have HB := (Below.refl w.heap.size w).alloc (Nat.le_refl _) (.cells #[.int .i64 N, .int .i64 C] 30)
  have HB := HB.alloc HB.size (.cells #[.int .i64 lot] 3)
  obtain ⟨A1, hA1⟩ : ∃ A1, (w.alloc (.cells #[.int .i64 N, .int .i64 C] 30)).alloc (.cells #[.int .i64 lot] 3) = A1 := ⟨_, rfl⟩
  have s2 : A1.heap.size = w.heap.size + 1 + 1 := by rw [← hA1]; simp
  rw [hA1] at p0 p1 b1 HB
  have b2 := Box.new A1 _ s2 (.int .i64 0) 3
  have HB := HB.alloc HB.size (.cells #[.int .i64 0] 3)
  have b1 := b1.alloc (.cells #[.int .i64 0] 3)
  have p0 := cell_old (.cells #[.int .i64 0] 3) p0
  have p1 := cell_old (.cells #[.int .i64 0] 3) p1
  obtain ⟨A2, hA2⟩ : ∃ A2, A1.alloc (.cells #[.int .i64 0] 3) = A2 := ⟨_, rfl⟩
  have s3 : A2.heap.size = w.heap.size + 1 + 1 + 1 := by rw [← hA2]; simp [s2]
  rw [hA2] at p0 p1 b1 b2 HB
  have b3 := Box.new A2 _ s3 (.string ⟨#[]⟩) 26
  have HB := HB.alloc HB.size (.cells #[.string ⟨#[]⟩] 26)
  have b1 := b1.alloc (.cells #[.string ⟨#[]⟩] 26)
  have b2 := b2.alloc (.cells #[.string ⟨#[]⟩] 26)
  have p0 := cell_old (.cells #[.string ⟨#[]⟩] 26) p0
  have p1 := cell_old (.cells #[.string ⟨#[]⟩] 26) p1
  obtain ⟨A3, hA3⟩ : ∃ A3, A2.alloc (.cells #[.string ⟨#[]⟩] 26) = A3 := ⟨_, rfl⟩
  have s4 : A3.heap.size = w.heap.size + 1 + 1 + 1 + 1 := by rw [← hA3]; simp [s3]
  rw [hA3] at p0 p1 b1 b2 b3 HB
  have b4 := Box.new A3 _ s4 (.int .i64 0) 27
  have HB := HB.alloc HB.size (.cells #[.int .i64 0] 27)
  have b1 := b1.alloc (.cells #[.int .i64 0] 27)
  have b2 := b2.alloc (.cells #[.int .i64 0] 27)
  have b3 := b3.alloc (.cells #[.int .i64 0] 27)
  have p0 := cell_old (.cells #[.int .i64 0] 27) p0
  have p1 := cell_old (.cells #[.int .i64 0] 27) p1
  obtain ⟨A4, hA4⟩ : ∃ A4, A3.alloc (.cells #[.int .i64 0] 27) = A4 := ⟨_, rfl⟩
  have s5 : A4.heap.size = w.heap.size + 1 + 1 + 1 + 1 + 1 := by rw [← hA4]; simp [s4]
  rw [hA4] at p0 p1 b1 b2 b3 b4 HB
  have hw4 : ((((w.alloc (.cells #[.int .i64 N, .int .i64 C] 30)).alloc (.cells #[.int .i64 lot] 3)).alloc (.cells #[.int .i64 0] 3)).alloc (.cells #[.string ⟨#[]⟩] 26)).alloc (.cells #[.int .i64 0] 27) = A4 := by rw [hA1, hA2, hA3, hA4]
  exact ⟨A4, hw4, ⟨p0, p1, b1, b2, b3, b4⟩, HB, s5⟩

set_option maxRecDepth 100000 in
set_option maxHeartbeats 1600000 in
theorem curve_bad (N C lot : Int) (w : World) (h : lsP N C lot ≠ 0) :
    Calls Tryz.prog 30 #[pl N C, .int .i64 lot] w fun e w' => e = .returned (.tuple #[.slice none 0 0, .int .i64 (lsP N C lot)]) ∧ Below w.heap.size w w' := by
  have HLS := Lib.hid (fun w => listed_any N C lot w)
  obtain ⟨v, hv⟩ : ∃ v, lsP N C lot = v := ⟨_, rfl⟩
  rw [hv] at HLS h ⊢
  have hvb : (v == 0) = false := by simpa using h
  have q := two_cells w (.int .i64 N) (.int .i64 C) 30
  obtain ⟨p0, p1⟩ := q
  have s1 : (w.alloc (.cells #[.int .i64 N, .int .i64 C] 30)).heap.size = w.heap.size + 1 := by simp
  have HB := (Below.refl w.heap.size w).alloc (Nat.le_refl _) (.cells #[.int .i64 N, .int .i64 C] 30)
  obtain ⟨A1, hA1⟩ : ∃ A1, w.alloc (.cells #[.int .i64 N, .int .i64 C] 30) = A1 := ⟨_, rfl⟩
  rw [hA1] at p0 p1 s1 HB
  have b1 := Box.new A1 _ s1 (.int .i64 lot) 3
  have p0 := cell_old (.cells #[.int .i64 lot] 3) p0
  have p1 := cell_old (.cells #[.int .i64 lot] 3) p1
  have HB := HB.alloc HB.size (.cells #[.int .i64 lot] 3)
  obtain ⟨A2, hA2⟩ : ∃ A2, A1.alloc (.cells #[.int .i64 lot] 3) = A2 := ⟨_, rfl⟩
  have s2 : A2.heap.size = w.heap.size + 1 + 1 := by rw [← hA2]; simp [s1]
  rw [hA2] at p0 p1 b1 HB
  have b2 := Box.new A2 _ s2 (.slice none 0 0) 55
  have p0 := cell_old (.cells #[.slice none 0 0] 55) p0
  have p1 := cell_old (.cells #[.slice none 0 0] 55) p1
  have b1 := b1.alloc (.cells #[.slice none 0 0] 55)
  have HB := HB.alloc HB.size (.cells #[.slice none 0 0] 55)
  obtain ⟨A3, hA3⟩ : ∃ A3, A2.alloc (.cells #[.slice none 0 0] 55) = A3 := ⟨_, rfl⟩
  have s3 : A3.heap.size = w.heap.size + 1 + 1 + 1 := by rw [← hA3]; simp [s2]
  rw [hA3] at p0 p1 b1 b2 HB
  have b3 := Box.new A3 _ s3 (.int .i64 0) 27
  have p0 := cell_old (.cells #[.int .i64 0] 27) p0
  have p1 := cell_old (.cells #[.int .i64 0] 27) p1
  have b1 := b1.alloc (.cells #[.int .i64 0] 27)
  have b2 := b2.alloc (.cells #[.int .i64 0] 27)
  have HB := HB.alloc HB.size (.cells #[.int .i64 0] 27)
  obtain ⟨A4, hA4⟩ : ∃ A4, A3.alloc (.cells #[.int .i64 0] 27) = A4 := ⟨_, rfl⟩
  rw [hA4] at p0 p1 b1 b2 b3 HB
  have hW : (((w.alloc (.cells #[.int .i64 N, .int .i64 C] 30)).alloc (.cells #[.int .i64 lot] 3)).alloc (.cells #[.slice none 0 0] 55)).alloc (.cells #[.int .i64 0] 27) = A4 := by rw [hA1, hA2, hA3, hA4]
  have HW := Lib.hid hW
  have HBB := Lib.hid HB
  have B2 := Lib.hid b2
  have B3 := Lib.hid b3
  obtain ⟨b1, -⟩ := b1
  clear hA1 hA2 hA3 hA4 b2 b3 HB s1 s2 s3
  rw [← HW.out] at p0 p1 b1
  clear hW
  refine (callsIn_wide (n := 6)).1 ?_
  unfold pl at HLS ⊢
  refine callsIn_of_wp_marks Tryz.func30 rfl trivial ?_ rfl
  simp only [Tryz.ntmps30, List.size_toArray, List.length_cons, List.length_nil, Nat.reduceAdd, Nat.reduceSub, Array.replicate_succ, Array.replicate_zero, List.push_toArray, List.append_toArray, List.nil_append, List.cons_append]
  gi_wp2_with fail
  rw [HW.out]
  refine ⟨trivial, (callsIn_wide.2 (HLS.out _)).mono ?_⟩
  rintro e w1 ⟨rfl, hb1⟩
  have HB1 := Lib.hid (HBB.out.trans (hb1.mono HBB.out.size))
  have C2 := Lib.hid (B2.out.below hb1)
  have C3 := Lib.hid (B3.out.below hb1)
  clear hb1 p0 p1 b1
  obtain ⟨k2, j2⟩ := C2.out
  obtain ⟨k3, j3⟩ := C3.out
  obtain ⟨w6, hw6, c2, c3, hk6, hB6, -⟩ := set2' (u := .slice none 0 0) (v := .int .i64 v) C2.out C3.out (by omega)
  have HW6 := Lib.hid hw6
  have HB6 := Lib.hid (HB1.out.trans (hB6 w.heap.size (by omega) (by omega)))
  have R2 := Lib.hid c2
  have R3 := Lib.hid c3
  clear hw6 c2 c3 hk6 hB6
  gi_wp2
  rw [HW6.out]
  obtain ⟨c2, -⟩ := R2.out
  obtain ⟨c3, -⟩ := R3.out
  refine ⟨.tuple #[.slice none 0 0, .int .i64 v], ?_, rfl, HB6.out⟩
  simp [results, Tryz.f30, go_sem, c2, c3]

set_option maxRecDepth 100000 in
set_option maxHeartbeats 1600000 in
theorem worst_bad (N C lot : Int) (w : World) (h : lsP N C lot ≠ 0) :
    Calls Tryz.prog 38 #[pl N C, .int .i64 lot] w fun e w' => e = .returned (.tuple #[.int .i64 0, .string ⟨#[]⟩, .int .i64 (lsP N C lot)]) ∧ Below w.heap.size w w' := by
  have HLS := Lib.hid (fun w => listed_any N C lot w)
  obtain ⟨v, hv⟩ : ∃ v, lsP N C lot = v := ⟨_, rfl⟩
  rw [hv] at HLS h ⊢
  have hvb : (v == 0) = false := by simpa using h
  obtain ⟨A4, hw4, hp4, hb4, hs4⟩ := start5i N C lot w
  have HW := Lib.hid hw4
  have HBB := Lib.hid hb4
  obtain ⟨p0, p1, b1, b2, b3, b4⟩ := hp4
  have B2 := Lib.hid b2
  have B3 := Lib.hid b3
  have B4 := Lib.hid b4
  obtain ⟨b1, -⟩ := b1
  clear hb4 hs4 b2 b3 b4
  rw [← HW.out] at p0 p1 b1
  clear hw4
  refine (callsIn_wide (n := 6)).1 ?_
  unfold pl at HLS ⊢
  refine callsIn_of_wp_marks Tryz.func38 rfl trivial ?_ rfl
  simp only [Tryz.ntmps38, List.size_toArray, List.length_cons, List.length_nil, Nat.reduceAdd, Nat.reduceSub, Array.replicate_succ, Array.replicate_zero, List.push_toArray, List.append_toArray, List.nil_append, List.cons_append]
  gi_wp2_with fail
  rw [HW.out]
  refine ⟨trivial, (callsIn_wide.2 (HLS.out _)).mono ?_⟩
  rintro e w1 ⟨rfl, hb1⟩
  have HB1 := Lib.hid (HBB.out.trans (hb1.mono HBB.out.size))
  have C2 := Lib.hid (B2.out.below hb1)
  have C3 := Lib.hid (B3.out.below hb1)
  have C4 := Lib.hid (B4.out.below hb1)
  clear hb1 p0 p1 b1
  obtain ⟨k2, j2⟩ := C2.out
  obtain ⟨k3, j3⟩ := C3.out
  obtain ⟨k4, j4⟩ := C4.out
  obtain ⟨w6, hw6, c2, c3, c4, hB6⟩ := set3' (u := .int .i64 0) (v := .string ⟨#[]⟩) (t := .int .i64 v) C2.out C3.out C4.out (by omega) (by omega) (by omega)
  have HW6 := Lib.hid hw6
  have HB6 := Lib.hid (HB1.out.trans (hB6 w.heap.size (by omega) (by omega) (by omega)))
  have R2 := Lib.hid c2
  have R3 := Lib.hid c3
  have R4 := Lib.hid c4
  clear hw6 c2 c3 c4 hB6
  gi_wp2
  rw [HW6.out]
  obtain ⟨c2, -⟩ := R2.out
  obtain ⟨c3, -⟩ := R3.out
  obtain ⟨c4, -⟩ := R4.out
  refine ⟨.tuple #[.int .i64 0, .string ⟨#[]⟩, .int .i64 v], ?_, rfl, HB6.out⟩
  simp [results, Tryz.f38, go_sem, c2, c3, c4]

set_option maxRecDepth 100000 in
set_option maxHeartbeats 1600000 in
theorem same_rows (g1 g2 n c1 c2 : Nat) (f : Nat → ByteArray) (w : World) (hn : n ≤ 4096) (h1 : IsR w g1 n f) (h2 : IsR w g2 n f) :
    Calls Tryz.prog 41 #[.slice (some ⟨g1, 0, none⟩) n c1, .slice (some ⟨g2, 0, none⟩) n c2] w fun e w' => e = .returned (.bool true) ∧ Below w.heap.size w w' := by
  have H1 := Lib.hid h1
  have H2 := Lib.hid h2
  clear h1 h2
  go_enter Tryz.func41, Tryz.ntmps41
  go_wp2
  go_loopg [5] n (fun k iv wr => ∃ j : Nat, iv = .int .i64 j ∧ j + k = n ∧ Below w.heap.size w wr)
  case atStart => exact ⟨0, rfl, by omega, Below.refl _ _⟩
  case round =>
    obtain ⟨j, rfl, hk, hbl⟩ := hrel
    have HBL := Lib.hid hbl
    by_cases hz : gk = 0
    · obtain rfl : j = n := by omega
      have hnl : ¬ ((j : Int) < j) := by omega
      clear hbl
      go_wp2
      go_ret
      exact ⟨rfl, HBL.out⟩
    · have hj : j < n := by omega
      have hji : (j : Int) < n := by omega
      have a1 := (H1.out.below hbl).cell j hj
      have a2 := (H2.out.below hbl).cell j hj
      have e2 : IntKind.i64.wrap ((j : Int) + 1) = (j : Int) + 1 := IntWalk.i64_in _ (by omega)
      have HK := Lib.hid hk
      clear hbl hk
      go_wp2
      go_quiet (fail)
      go_wp2
      go_roundg (gk - 1)
      case rel => exact ⟨j + 1, by simp, by have := HK.out; omega, below_drewN HBL.out _⟩
      case measure => have := HK.out; omega
set_option maxRecDepth 100000 in
theorem same_nil (w : World) : Calls Tryz.prog 41 #[.slice none 0 0, .slice none 0 0] w fun e w' => e = .returned (.bool true) ∧ Below w.heap.size w w' := by
  go_enter Tryz.func41, Tryz.ntmps41
  go_wp2
  go_loopg [5] 0 (fun k iv wr => iv = .int .i64 0 ∧ wr = w)
  case atStart => exact ⟨rfl, rfl⟩
  case round =>
    obtain ⟨rfl, rfl⟩ := hrel
    go_wp2
    go_ret
    exact ⟨rfl, Below.refl _ _⟩
end Go.Proofs.YtfebiipggcgmdaaGreatDoor
