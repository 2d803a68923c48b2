import Derived.Test.YtfebiipggcgmdaaGreatDoorA1
namespace Go.Proofs.YtfebiipggcgmdaaGreatDoor
open Go.RowKit

set_option maxHeartbeats 400000 in
theorem trimmed_any (b n V : Nat) (less : Bool) (w : World) (h : IsW w b less n V) (hV : V < BB ^ n) :
    Calls Tryz.prog 150 #[.pointer (some ⟨b, 0, none⟩)] w fun e w' => e = .returned (.pointer (some ⟨b, 0, none⟩)) ∧ IsW w' b less (nw V) V ∧ w.grownBy w' (some b) := by
  go_enter Tryz.func150, Tryz.ntmps150
  go_wp2
  go_loopg [] n (fun k wr => nw V ≤ k ∧ k ≤ 232 ∧ IsW wr b less k V ∧ w.grownBy wr (some b))
  case atStart => exact ⟨nw_le hV, h.le, h, gb_refl _ _⟩
  case round =>
    obtain ⟨hk, hk2, hw, hg⟩ := hrel
    by_cases h0 : gk = 0
    · subst h0
      have hn : wr.cell? ⟨b, 1, none⟩ = some (.int .i64 0) := hw.num
      go_wp2
      go_quiet (fail)
      go_wp2
      go_ret
      have hz : nw V = 0 := by omega
      exact ⟨rfl, by rw [hz]; exact hw.drewN _, gb_drewN hg _⟩
    · obtain ⟨k, rfl⟩ : ∃ k, gk = k + 1 := ⟨gk - 1, by omega⟩
      have hn := hw.num
      have hx := hw.word k (by omega)
      have hf := hw.free 1
      go_wp2
      go_quiet (fail)
      go_wp2
      · go_roundg k
        case rel =>
          have h1 : ((wd V k : Int) == 0) = true := by assumption
          have h1 : wd V k = 0 := by simpa using h1
          refine ⟨Nat.le_of_not_lt fun hlt => ?_, by omega, (hw.drewN _).setn (by omega), gb_setCell (gb_drewN hg _) _ _⟩
          have e : nw V = k + 1 := by omega
          have := wd_top (V := V) (by intro e0; rw [e0, nw_zero] at e; omega)
          rw [e] at this
          exact this h1
        case measure => omega
      · have h1 : ((wd V k : Int) == 0) = false := by assumption
        have h1 : wd V k ≠ 0 := by simpa using h1
        have e : nw V = k + 1 := by
          refine Nat.le_antisymm hk (Nat.lt_of_not_le fun hle => h1 (wd_high (lt_nw V) hle))
        go_ret
        exact ⟨rfl, by rw [e]; exact hw.drewN _, gb_drewN hg _⟩
end Go.Proofs.YtfebiipggcgmdaaGreatDoor

namespace Go.Proofs.YtfebiipggcgmdaaGreatDoor
open Go.RowKit

/-- The sign of d tells the order. -/
def CmpR (U V : Nat) (d : Int) : Prop := (d < 0 ↔ U < V) ∧ (0 < d ↔ V < U)
/-- What 'beyond' returns. -/
def CmpEnd (U V : Nat) (w : World) (e : Ending) (w' : World) : Prop := ∃ d : Int, e = .returned (.int .i64 d) ∧ CmpR U V d ∧ -10000000000 < d ∧ d < 10000000000 ∧ Dr w w'

set_option maxRecDepth 100000 in
set_option maxHeartbeats 800000 in
theorem beyond_any (bx X by' Y : Nat) (lx ly : Bool) (w : World) (hx : IsW w bx lx (nw X) X) (hy : IsW w by' ly (nw Y) Y) :
    Calls Tryz.prog 172 #[.pointer (some ⟨bx, 0, none⟩), .pointer (some ⟨by', 0, none⟩)] w (CmpEnd X Y w) := by
  have n1 := hx.num
  have n2 := hy.num
  have l1 := hx.le
  have l2 := hy.le
  by_cases hn : nw X = nw Y
  · have e1 : ((nw X : Nat) : Int) ≠ nw Y → False := fun h => h (by rw [hn])
    generalize hnX : nw X = nx at *
    generalize hnY : nw Y = ny at *
    subst hn
    have HX := Lib.hid hnX
    have HY := Lib.hid hnY
    clear hnX hnY e1
    go_enter Tryz.func172, Tryz.ntmps172
    go_wp2
    go_quiet (fail)
    go_wp2
    go_loopg [5] nx (fun k p wr => ∃ q : Int, p = .int .i64 q ∧ q = (k : Int) - 1 ∧ k ≤ nx ∧ X / BB ^ k = Y / BB ^ k ∧ Dr w wr)
    case atStart =>
      refine ⟨_, rfl, rfl, Nat.le_refl _, ?_, (Dr.refl _).step _⟩
      have a1 := lt_nw X
      have a2 := lt_nw Y
      rw [HX.out] at a1; rw [HY.out] at a2
      rw [Nat.div_eq_of_lt a1, Nat.div_eq_of_lt a2]
    case round =>
      obtain ⟨q, rfl, hq, hk, hd, m, rfl⟩ := hrel
      by_cases h0 : gk = 0
      · have : q = -1 := by omega
        subst this
        have HD := Lib.hid hd
        clear hd hq
        go_wp2
        go_ret
        have hd := HD.out
        rw [h0] at hd
        simp only [Nat.pow_zero, Nat.div_one] at hd
        exact ⟨0, rfl, ⟨by omega, by omega⟩, by omega, by omega, m, rfl⟩
      · obtain ⟨k, rfl⟩ : ∃ k, gk = k + 1 := ⟨gk - 1, by omega⟩
        obtain rfl : q = (k : Int) := by omega
        have x1 := hx.word k (by omega)
        have x2 := hy.word k (by omega)
        have b1 := wd_lt X k
        have b2 := wd_lt Y k
        unfold BB at b1 b2
        have d1 := div_word X k
        have d2 := div_word Y k
        rw [hd] at d1
        generalize hwx : wd X k = a at *
        generalize hwy : wd Y k = c at *
        have D1 := Lib.hid d1
        have D2 := Lib.hid d2
        clear hd hq d1 d2 hwx hwy
        have k0 : (0 : Int) ≤ k := by omega
        have k1 : (k : Int) < 232 := by omega
        have k2 : k < 232 := by omega
        go_wp2
        go_quiet (fail)
        go_wp2
        · have h1 : (!((a : Int) == (c : Int))) = true := by assumption
          have h1 : a ≠ c := by intro e; rw [e] at h1; simp at h1
          go_quiet (fail)
          go_wp2
          go_ret
          have d1 := D1.out
          have d2 := D2.out
          refine ⟨_, rfl, ⟨⟨fun h => ?_, fun h => ?_⟩, fun h => ?_, fun h => ?_⟩, by omega, by omega, ((Dr.of _ _).step _).step _⟩
          · exact lt_of_div_lt (k := BB ^ k) (by rw [d1, d2]; omega)
          · have := Nat.div_le_div_right (c := BB ^ k) (Nat.le_of_lt h)
            rw [d1, d2] at this; omega
          · exact lt_of_div_lt (k := BB ^ k) (by rw [d1, d2]; omega)
          · have := Nat.div_le_div_right (c := BB ^ k) (Nat.le_of_lt h)
            rw [d1, d2] at this; omega
        · have h1 : (!((a : Int) == (c : Int))) = false := by assumption
          have h1 : a = c := by simp at h1; omega
          go_roundg k
          case rel => exact ⟨_, rfl, rfl, by omega, by rw [D1.out, D2.out, h1], Dr.of _ _⟩
          case measure => omega
  · have e1 : (!((nw X : Int) == (nw Y : Int))) = true := by simp; omega
    generalize hnX : nw X = nx at *
    generalize hnY : nw Y = ny at *
    have HX := Lib.hid hnX
    have HY := Lib.hid hnY
    clear hnX hnY
    go_enter Tryz.func172, Tryz.ntmps172
    go_wp2
    go_quiet (fail)
    go_wp2
    go_quiet (fail)
    go_wp2
    go_ret
    have a1 := HX.out
    have a2 := HY.out
    refine ⟨_, rfl, ⟨⟨fun h => ?_, fun h => ?_⟩, fun h => ?_, fun h => ?_⟩, by omega, by omega, ((Dr.refl _).step _).step _⟩
    · exact lt_of_nw (by omega)
    · have := nw_le (V := X) (n := nw Y) (Nat.lt_trans h (lt_nw Y)); omega
    · exact lt_of_nw (by omega)
    · have := nw_le (V := Y) (n := nw X) (Nat.lt_trans h (lt_nw X)); omega
end Go.Proofs.YtfebiipggcgmdaaGreatDoor

namespace Go.Proofs.YtfebiipggcgmdaaGreatDoor
open Go.RowKit

/-- What 'carry' does: the words of x, behind it, are those of X + f Y base^up. -/
def CarryEnd (bx : Nat) (lx : Bool) (X Y up : Nat) (f : Int) (w : World) (e : Ending) (w' : World) : Prop :=
  e = .returned (.tuple #[]) ∧ ∃ Z : Nat, (Z : Int) = X + f * Y * (BB : Int) ^ up ∧ IsW w' bx lx (nw Z) Z ∧ w.grownBy w' (some bx)

theorem carry_close {bx X Y up j n' X' k' m : Nat} {f rest rest' s : Int} {lx : Bool} {w wr : World} (hw : IsW wr bx lx n' X') (hX' : X' < BB ^ n') (hg : w.grownBy wr (some bx))
    (hI : (X' : Int) + rest * (BB : Int) ^ (j + up) = X + f * ((Y % BB ^ j : Nat) : Int) * (BB : Int) ^ up) (hj : j + up < 232) (hk : j + (k' + 1) = 232)
    (hs0 : 0 ≤ s) (hs1 : s < 1000000000) (he : rest' * 1000000000 + s = wd X' (j + up) + rest + f * wd Y j) (hr1 : -1000000000 ≤ rest') (hr2 : rest' ≤ 1000000000)
    (hm : m ≤ 232) (hm1 : n' ≤ m) (hm2 : j + up + 1 ≤ m) :
    ∃ (rest_1 : Int) (j_1 n' X' : Nat), Value.int .i64 rest' = Value.int .i64 rest_1 ∧ Value.int .i64 ((j : Int) + 1) = Value.int .i64 j_1 ∧ j_1 + k' = 232 ∧ -1000000000 ≤ rest_1 ∧ rest_1 ≤ 1000000000 ∧
      IsW ((wr.setCell ⟨bx, 2 + (j + up), none⟩ (.int .i64 s)).setCell ⟨bx, 1, none⟩ (.int .i64 m)) bx lx n' X' ∧ X' < BB ^ n' ∧
      w.grownBy ((wr.setCell ⟨bx, 2 + (j + up), none⟩ (.int .i64 s)).setCell ⟨bx, 1, none⟩ (.int .i64 m)) (some bx) ∧
      (X' : Int) + rest_1 * (BB : Int) ^ (j_1 + up) = X + f * ((Y % BB ^ j_1 : Nat) : Int) * (BB : Int) ^ up := by
  obtain ⟨t, rfl⟩ := Int.eq_ofNat_of_zero_le hs0
  have ht : t < BB := by unfold BB; omega
  refine ⟨rest', j + 1, m, setw X' (j + up) t, rfl, rfl, by omega, hr1, hr2, (hw.setw hj ht).setn hm, ?_, gb_setCell (gb_setCell hg _ _) _ _, ?_⟩
  · exact setw_lt ht (Nat.lt_of_lt_of_le hX' (Nat.pow_le_pow_right BB_pos hm1)) (by omega)
  · have := carry_round hI he hs0 hs1
    simpa using this

set_option maxRecDepth 100000 in
set_option maxHeartbeats 1600000 in
theorem carry_any (bx X by' Y up : Nat) (f : Int) (lx ly : Bool) (w : World) (hx : IsW w bx lx (nw X) X) (hy : IsW w by' ly (nw Y) Y) (hne : by' ≠ bx)
    (hf1 : -1000000000 < f) (hf2 : f < 1000000000) (hup : nw Y + up ≤ 232) (h0 : 0 ≤ (X : Int) + f * Y * (BB : Int) ^ up) (h1 : (X : Int) + f * Y * (BB : Int) ^ up < (BB : Int) ^ 232) :
    Calls Tryz.prog 151 #[.pointer (some ⟨bx, 0, none⟩), .pointer (some ⟨by', 0, none⟩), .int .i64 f, .int .i64 up] w (CarryEnd bx lx X Y up f w) := by
  have hu0 : up ≤ 232 := by omega
  have ly2 := hy.le
  have H0 := Lib.hid h0
  have H1 := Lib.hid h1
  clear h0 h1
  generalize hny : nw Y = ny at *
  have HNY := Lib.hid hny
  clear hny
  have hlx := hx.le
  have HX0 := Lib.hid hx
  clear hx
  go_enter Tryz.func151, Tryz.ntmps151
  go_wp2
  go_loopg [8, 9] 232 (fun k r i wr => ∃ (rest : Int) (j n' X' : Nat), r = .int .i64 rest ∧ i = .int .i64 j ∧ j + k = 232 ∧ -1000000000 ≤ rest ∧ rest ≤ 1000000000 ∧ IsW wr bx lx n' X' ∧ X' < BB ^ n' ∧ w.grownBy wr (some bx)
      ∧ (X' : Int) + rest * (BB : Int) ^ (j + up) = X + f * ((Y % BB ^ j : Nat) : Int) * (BB : Int) ^ up)
  case atStart => exact ⟨0, 0, nw X, X, rfl, rfl, by omega, by omega, by omega, HX0.out, lt_nw X, gb_refl _ _, by simp [Nat.mod_one]⟩
  case round =>
    obtain ⟨rest, j, n', X', rfl, rfl, hk, hr1, hr2, hw, hX', hg, hI⟩ := hrel
    have HI := Lib.hid hI
    clear hI
    have hyr := hy.gb hg (by simp; omega)
    have yn := hyr.num
    by_cases hc : ny ≤ j ∧ rest = 0
    · obtain ⟨hc1, rfl⟩ := hc
      have hge : ¬ (j < ny) := by omega
      go_wp2_with fail
      refine (trimmed_any bx n' X' lx _ hw hX').mono ?_
      rintro e w' ⟨rfl, hw2, hg2⟩
      go_wp2
      go_end0
      refine ⟨rfl, X', ?_, hw2, gb_trans hg hg2⟩
      have hI := HI.out
      rw [mod_nw (by rw [HNY.out]; exact hc1)] at hI
      simpa using hI
    · have hj : j + up < 232 := by
        by_cases hlt : j < ny
        · omega
        · refine Nat.lt_of_not_le fun hle => hc ⟨by omega, ?_⟩
          have hI := HI.out
          rw [mod_nw (by rw [HNY.out]; omega)] at hI
          have hp : (BB : Int) ^ 232 ≤ (BB : Int) ^ (j + up) := by
            have := Nat.pow_le_pow_right BB_pos hle
            rw [← Int.natCast_pow, ← Int.natCast_pow]; omega
          have hX2 := hw.lt
          have hX3 : (X' : Int) < (BB : Int) ^ 232 := by rw [← Int.natCast_pow]; omega
          exact rest_zero hI H0.out (Int.lt_of_lt_of_le H1.out hp) (by omega) (Int.lt_of_lt_of_le hX3 hp)
      have xw := hw.word (j + up) hj
      have xf1 := hw.free (2 + (j + up))
      have xn := hw.num
      have xf2 := hw.free 1
      have yw := hyr.word j (by omega)
      have b1 := wd_lt X' (j + up)
      have b2 := wd_lt Y j
      have r := fun (k' m : Nat) (rest' s : Int) => @carry_close bx X Y up j n' X' k' m f rest rest' s lx w wr hw hX' hg HI.out hj
      have xn' := hw.le
      unfold BB at b1 b2
      have hC0 : ¬ j < ny → wd Y j = 0 := fun h => wd_high (nw_le_iff.1 (Nat.le_of_eq HNY.out)) (by omega)
      have HC := Lib.hid hC0
      clear hC0
      generalize hA : wd X' (j + up) = a at *
      generalize hB : wd Y j = c at *
      have R := Lib.hid r
      have HG := Lib.hid hg
      clear r hA hB hg
      obtain ⟨k', rfl⟩ : ∃ k', gk = k' + 1 := ⟨gk - 1, by omega⟩
      have ec : ((j : Int) + up + 1) = ((j + up + 1 : Nat) : Int) := by omega
      have EC := Lib.hid ec
      clear ec
      have hp := prod_bd (f := f) (c := (c : Int)) hf1 hf2 (by omega) (by omega)
      obtain ⟨hp1, hp2⟩ := hp
      by_cases hlt : j < ny
      · obtain ⟨q, ht, q1, q2⟩ : ∃ q, ((a : Int) + rest + f * c).tdiv 1000000000 = q ∧ _ := ⟨_, rfl, tdiv_near ((a : Int) + rest + f * c)⟩
        rw [ht] at q1 q2
        go_wp2
        all_goals
          go_roundg k'
          case rel =>
            first | rw [EC.out] | skip
            exact R.out k' _ _ _ hk (by omega) (by omega) (by omega) (by omega) (by omega) (by omega) (by omega) (by omega)
          case measure => omega
      · have hc0 := HC.out hlt
        have HP : Hid (f * (c : Int) = 0) := by rw [hc0]; simp [Hid]
        clear hc0
        obtain ⟨q, ht, q1, q2⟩ : ∃ q, ((a : Int) + rest).tdiv 1000000000 = q ∧ _ := ⟨_, rfl, tdiv_near ((a : Int) + rest)⟩
        rw [ht] at q1 q2
        have hrest : ¬ rest = 0 := fun e => hc ⟨by omega, e⟩
        have hrb : (!(rest == 0)) = true := by simpa using hrest
        go_wp2
        all_goals
          go_roundg k'
          case rel =>
            first | rw [EC.out] | skip
            have hp0 := HP.out
            exact R.out k' _ _ _ hk (by omega) (by omega) (by omega) (by omega) (by omega) (by omega) (by omega) (by omega)
          case measure => omega
end Go.Proofs.YtfebiipggcgmdaaGreatDoor

namespace Go.Proofs.YtfebiipggcgmdaaGreatDoor
open Go.RowKit

theorem zero_wide : Tryz.zeroCells167 = (Value.bool false :: Value.int .i64 0 :: List.replicate 232 (Value.int .i64 0)).toArray := by kernel_rfl
theorem rep_cells {α : Type} (a b c : α) (n : Nat) : (a :: b :: List.replicate n c).toArray.size = n + 2 ∧ (a :: b :: List.replicate n c).toArray[0]? = some a ∧ (a :: b :: List.replicate n c).toArray[1]? = some b
    ∧ ∀ i, i < n → (a :: b :: List.replicate n c).toArray[2 + i]? = some c := by
  refine ⟨by simp, by simp, by simp, fun i hi => ?_⟩
  rw [show 2 + i = i + 1 + 1 by omega]
  simp [hi]
theorem isW_new (w : World) (l : Bool) : IsW (w.alloc (.cells (Tryz.zeroCells167.setIfInBounds 0 (.bool l)) 167)) w.heap.size l 0 0 := by
  obtain ⟨h1, h2, h3, h4⟩ := rep_cells (Value.bool false) (Value.int .i64 0) (Value.int .i64 0) 232
  rw [← zero_wide] at h1 h2 h3 h4
  refine ⟨⟨_, heap_alloc_new w _, by rw [Array.size_setIfInBounds, h1], ?_, ?_, fun i hi => ?_⟩, BBp _, by omega⟩
  · rw [Array.getElem?_setIfInBounds_self_of_lt (by omega)]
  · rw [Array.getElem?_setIfInBounds_ne (by omega), h3]; rfl
  · rw [Array.getElem?_setIfInBounds_ne (by omega), h4 i hi, wd_zero]; rfl
theorem isW_new0 (w : World) : IsW (w.alloc (.cells Tryz.zeroCells167 167)) w.heap.size false 0 0 := by
  obtain ⟨h1, h2, h3, h4⟩ := rep_cells (Value.bool false) (Value.int .i64 0) (Value.int .i64 0) 232
  rw [← zero_wide] at h1 h2 h3 h4
  refine ⟨⟨_, heap_alloc_new w _, by rw [h1], h2, by rw [h3]; rfl, fun i hi => ?_⟩, BBp _, by omega⟩
  rw [h4 i hi, wd_zero]; rfl

/-- A pointer to a new wide integer is returned; what was there is as it was. -/
def NewW (l : Bool) (Z : Nat) (w : World) (e : Ending) (w' : World) : Prop :=
  ∃ b, e = .returned (.pointer (some ⟨b, 0, none⟩)) ∧ w.heap.size ≤ b ∧ IsW w' b l (nw Z) Z ∧ Below w.heap.size w w'

theorem mul_lt_pow {X Y : Nat} (h : nw X + nw Y ≤ 232) : X * Y < BB ^ 232 := by
  have h1 := lt_nw X
  have h2 := lt_nw Y
  refine Nat.lt_of_lt_of_le ?_ (Nat.pow_le_pow_right BB_pos h)
  rw [Nat.pow_add]
  exact Nat.mul_lt_mul'' h1 h2
theorem times_step (X Y i : Nat) : ((X * (Y % BB ^ i) : Nat) : Int) + (wd Y i : Int) * (X : Int) * (BB : Int) ^ i = ((X * (Y % BB ^ (i + 1)) : Nat) : Int) := by
  rw [mod_pow_succ, Nat.mul_add]
  simp only [Int.natCast_add, Int.natCast_mul, Int.natCast_pow]
  congr 1; ac_rfl
theorem times_le (X Y i : Nat) (h : nw X + nw Y ≤ 232) : ((X * (Y % BB ^ i) : Nat) : Int) < (BB : Int) ^ 232 := by
  have := mul_lt_pow h
  have h2 : X * (Y % BB ^ i) ≤ X * Y := Nat.mul_le_mul_left _ (Nat.mod_le _ _)
  rw [← Int.natCast_pow]; omega

set_option maxRecDepth 100000 in
set_option maxHeartbeats 1600000 in
theorem times_any (bx X by' Y : Nat) (lx ly : Bool) (w : World) (hx : IsW w bx lx (nw X) X) (hy : IsW w by' ly (nw Y) Y) (hn : nw X + nw Y ≤ 232) :
    Calls Tryz.prog 131 #[.pointer (some ⟨bx, 0, none⟩), .pointer (some ⟨by', 0, none⟩)] w (NewW (!(lx == ly)) (X * Y) w) := by
  have x1 := hx.sgn
  have y1 := hy.sgn
  have yn : ∀ o, (w.alloc o).cell? ⟨by', 1, none⟩ = some (.int .i64 (nw Y)) := fun o => (hy.alloc o).num
  have hxl := hx.lt_size
  have hyl := hy.lt_size
  have HX := Lib.hid hx
  have HY := Lib.hid hy
  clear hx hy
  go_enter Tryz.func131, Tryz.ntmps131
  go_wp2
  go_still_tail 9, (by kernel_rfl)
  change wpList _ _ _ _ _ w.drew
  go_wp2
  have hnew := isW_new w (!lx == ly)
  clear yn
  go_loopg [22] (nw Y) (fun k i wr => ∃ (j : Nat), i = .int .i64 j ∧ j + k = nw Y ∧ IsW wr w.heap.size (!(lx == ly)) (nw (X * (Y % BB ^ j))) (X * (Y % BB ^ j)) ∧ Below w.heap.size w wr)
  case atStart => exact ⟨0, rfl, by omega, by simp only [Nat.pow_zero, Nat.mod_one, Nat.mul_zero, nw_zero]; exact hnew.drewN 1, ((Below.refl _ _).alloc (Nat.le_refl _) _).drew⟩
  case round =>
    obtain ⟨j, rfl, hk, hw, hb⟩ := hrel
    have hY := HY.out.below hb hyl
    have hX := HX.out.below hb hxl
    by_cases h0 : gk = 0
    · have hge : ¬ (j < nw Y) := by omega
      have e : j = nw Y := by omega
      have E := Lib.hid e
      clear e
      go_wp2
      go_ret
      rw [mod_nw (by have := E.out; omega)] at hw
      exact ⟨_, rfl, Nat.le_refl _, hw, hb⟩
    · obtain ⟨k, rfl⟩ : ∃ k, gk = k + 1 := ⟨gk - 1, by omega⟩
      have hlt : j < nw Y := by omega
      have hj2 : j < 232 := by have := hY.le; omega
      have yw := hY.word j hj2
      have hw1 := wd_lt Y j
      have st := times_step X Y j
      have sl := times_le X Y (j + 1) hn
      go_wp2_with fail
      refine (carry_any _ _ _ _ j (wd Y j) _ _ _ hw hX (by omega) (by omega) (by unfold BB at hw1; omega) (by omega) (by rw [st]; omega) (by rw [st]; exact sl)).mono ?_
      rintro e w' ⟨rfl, Z, hZ, hw2, hg⟩
      have hZ2 : Z = X * (Y % BB ^ (j + 1)) := by rw [st] at hZ; omega
      subst hZ2
      clear st sl hZ
      go_wp2
      go_roundg k
      case rel => exact ⟨j + 1, by go_num, by omega, hw2, below_gb hb hg (Nat.le_refl _) hb.size⟩
      case measure => omega
end Go.Proofs.YtfebiipggcgmdaaGreatDoor
