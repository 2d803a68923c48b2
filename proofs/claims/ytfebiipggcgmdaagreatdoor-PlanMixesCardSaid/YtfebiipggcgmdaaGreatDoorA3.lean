import Derived.Test.YtfebiipggcgmdaaGreatDoorA2
namespace Go.Proofs.YtfebiipggcgmdaaGreatDoor
open Go.RowKit

/-- The cells of a wide integer. -/
def wArr (less : Bool) (n V : Nat) : Array Value := (Value.bool less :: Value.int .i64 n :: (List.range 232).map fun i => Value.int .i64 (wd V i)).toArray
theorem wArr_size (l : Bool) (n V : Nat) : (wArr l n V).size = 234 := by unfold wArr; simp
theorem wArr_at (l : Bool) (n V i : Nat) (hi : i < 232) : (wArr l n V)[2 + i]? = some (.int .i64 (wd V i)) := by
  unfold wArr
  rw [show 2 + i = i + 1 + 1 by omega, List.getElem?_toArray, List.getElem?_cons_succ, List.getElem?_cons_succ, List.getElem?_map, List.getElem?_range hi]
  rfl
theorem wArr_one (l : Bool) (n V : Nat) : (wArr l n V).all (·.oneCell') = true := by
  unfold wArr
  rw [← Array.all_toList]
  simp only [List.all_cons, List.all_map, Value.oneCell', Bool.true_and, List.all_eq_true, Function.comp, implies_true]
theorem IsW.arr {w : World} {b n V : Nat} {less : Bool} (h : IsW w b less n V) : w.heap[b]? = some (.cells (wArr less n V) 167 (0, 0)) := by
  obtain ⟨cs, hb, hs, h0, h1, h2⟩ := h.blk
  rw [hb]
  have e : cs = wArr less n V := by
    refine Array.ext_getElem? fun i => ?_
    by_cases hi : i < 234
    · rcases Nat.lt_or_ge i 2 with h3 | h3
      · rcases (show i = 0 ∨ i = 1 by omega) with rfl | rfl
        · rw [h0]; rfl
        · rw [h1]; rfl
      · obtain ⟨k, rfl⟩ := Nat.exists_eq_add_of_le h3
        rw [h2 k (by omega), wArr_at _ _ _ _ (by omega)]
    · rw [Array.getElem?_eq_none (by omega), Array.getElem?_eq_none (by rw [wArr_size]; omega)]
  rw [e]
theorem IsW.ofArr {w : World} {b n V : Nat} {less : Bool} (h : w.heap[b]? = some (.cells (wArr less n V) 167 (0, 0))) (hV : V < BB ^ 232) (hn : n ≤ 232) : IsW w b less n V :=
  ⟨⟨_, h, wArr_size _ _ _, rfl, rfl, fun i hi => wArr_at _ _ _ i hi⟩, hV, hn⟩
theorem wide_size : (Tryz.prog.info? 167).map (·.size) = some 234 := by kernel_rfl
theorem wide_size' (l : Bool) (n V : Nat) : (Tryz.prog.info? 167).map (·.size) = some (wArr l n V).size := by rw [wArr_size]; exact wide_size

/-- What 'plus' does: x holds the sum. -/
def PlusEnd (bx : Nat) (s : Int) (w : World) (e : Ending) (w' : World) : Prop :=
  e = .returned (.tuple #[]) ∧ ∃ (l : Bool) (Z : Nat), sv l Z = s ∧ IsW w' bx l (nw Z) Z ∧ w.grownBy w' (some bx)

theorem gb_setRow {w w1 : World} {b : Nat} (h : w.grownBy w1 (some b)) (cs : Array Value) : w.grownBy (w1.setRow b cs) (some b) := by
  refine gb_trans h ⟨rfl, rfl, rfl, by simp, fun i _ hr => setRow_other _ _ _ _ (fun e => hr (by rw [e]))⟩

set_option maxRecDepth 100000 in
set_option maxHeartbeats 1600000 in
theorem plus_any (bx X by' Y : Nat) (lx ly : Bool) (w : World) (hx : IsW w bx lx (nw X) X) (hy : IsW w by' ly (nw Y) Y) (hne : by' ≠ bx) (hXY : X + Y < BB ^ 232) :
    Calls Tryz.prog 156 #[.pointer (some ⟨bx, 0, none⟩), .pointer (some ⟨by', 0, none⟩)] w (PlusEnd bx (sv lx X + sv ly Y) w) := by
  have x1 := hx.sgn
  have y1 := hy.sgn
  have yl := hy.le
  have xl := hx.le
  have HXY : ((X + Y : Nat) : Int) < (BB : Int) ^ 232 := by rw [← Int.natCast_pow]; omega
  have HX := Lib.hid hx
  have HY := Lib.hid hy
  have HXY2 := Lib.hid HXY
  clear hx hy hXY HXY
  by_cases hl : lx = ly
  · have hl1 : (lx == ly) = true := by rw [hl]; simp
    have HL := Lib.hid hl
    clear hl
    go_enter Tryz.func156, Tryz.ntmps156
    go_wp2
    go_quiet (fail)
    go_wp2_with fail
    have hp := HXY2.out
    refine (carry_any bx X by' Y 0 1 lx ly _ (HX.out.drewN _) (HY.out.drewN _) hne (by omega) (by omega) (by omega) (by simp; omega) (by simp; omega)).mono ?_
    rintro e w' ⟨rfl, Z, hZ, hw2, hg⟩
    clear hp
    have HZ := Lib.hid hZ
    clear hZ
    go_wp2
    go_end0
    refine ⟨rfl, lx, Z, ?_, hw2, gb_trans (gb_drewN (gb_refl _ _) _) hg⟩
    have hZ := HZ.out
    rw [← HL.out]
    unfold sv
    simp at hZ
    split <;> omega
  · have hl1 : (lx == ly) = false := by simpa using hl
    have HL := Lib.hid hl
    clear hl
    go_enter Tryz.func156, Tryz.ntmps156
    go_wp2
    go_quiet (fail)
    go_wp2_with fail
    refine (beyond_any bx X by' Y lx ly _ (HX.out.drewN _) (HY.out.drewN _)).mono ?_
    rintro e w1 ⟨d, rfl, hc, hd1, hd2, m, rfl⟩
    have HC := Lib.hid hc
    clear hc hd1 hd2
    by_cases hd : 0 ≤ d
    · go_wp2_with fail
      have hc := HC.out
      have hp := HXY2.out
      have hge : Y ≤ X := Nat.le_of_not_lt fun h => by have := hc.1.2 h; omega
      refine (carry_any bx X by' Y 0 (-1) lx ly _ (HX.out.drewN _) (HY.out.drewN _) hne (by omega) (by omega) (by omega) (by simp; omega) (by simp; omega)).mono ?_
      rintro e w' ⟨rfl, Z, hZ, hw2, hg⟩
      clear hp hc hge
      have HZ := Lib.hid hZ
      clear hZ
      go_wp2
      go_end0
      refine ⟨rfl, lx, Z, ?_, hw2, gb_trans (gb_drewN (gb_refl _ _) _) hg⟩
      have hZ := HZ.out
      have hl := HL.out
      unfold sv
      simp at hZ
      cases lx <;> cases ly <;> simp_all <;> omega
    · have hyx : w.heap[by']? = some (.cells (wArr ly (nw Y) Y) 167 (0, 0)) := HY.out.arr
      have hnew : (w.alloc (.cells Tryz.zeroCells167 167)).heap[w.heap.size]? = some (.cells Tryz.zeroCells167 167 (0, 0)) := heap_alloc_new w _
      have hold : Tryz.zeroCells167.size = (wArr ly (nw Y) Y).size := by rw [wArr_size]; exact Tryz.zeroCells167_size
      have HYX := Lib.hid hyx
      have HNEW := Lib.hid hnew
      have HOLD := Lib.hid hold
      clear hyx hnew hold
      have hd3 : d < 0 := by omega
      have hd4 : decide (0 ≤ d) = false := by simp; omega
      clear hd
      go_simp
      repeat (first | (refine wpList_load_row rfl 167 _ rfl by' rfl 167 _ _ _ HYX.out Tryz.underlying167 rfl (wide_size' _ _ _) ?_) | (refine wpList_store_row rfl 167 _ _ rfl w.heap.size (wArr ly (nw Y) Y) rfl rfl 167 Tryz.zeroCells167 HNEW.out (wide_size' _ _ _) HOLD.out (wArr_one _ _ _) ?_) | go_values | go_skip | go_guarded | go_step | go_upon)
      have hbx := HX.out.lt_size
      have hcy := HC.out
      have hXle : X ≤ Y := by have := hcy.1.1 hd3; omega
      have hz : IsW (((w.drewN (nq + m)).alloc (Obj.cells Tryz.zeroCells167 167)).setRow w.heap.size (wArr ly (nw Y) Y)) w.heap.size ly (nw Y) Y :=
        IsW.ofArr (setRow_heap _ _ _ _ _ _ HNEW.out) HY.out.lt HY.out.le
      have hxz : IsW (((w.drewN (nq + m)).alloc (Obj.cells Tryz.zeroCells167 167)).setRow w.heap.size (wArr ly (nw Y) Y)) bx lx (nw X) X :=
        ((HX.out.drewN _).alloc _).kept (setRow_other _ _ _ _ (by omega))
      have hg0 : w.grownBy (((w.drewN (nq + m)).alloc (Obj.cells Tryz.zeroCells167 167)).setRow w.heap.size (wArr ly (nw Y) Y)) (some bx) :=
        gb_new (gb_alloc (gb_drewN (gb_refl _ _) _) _) (gb_setRow (gb_refl _ _) _) (Nat.le_refl _)
      generalize (((w.drewN (nq + m)).alloc (Obj.cells Tryz.zeroCells167 167)).setRow w.heap.size (wArr ly (nw Y) Y)) = w2 at *
      have hp := HXY2.out
      refine (carry_any w.heap.size Y bx X 0 (-1) ly lx w2 hz hxz (by omega) (by omega) (by omega) (by omega) (by simp; omega) (by simp; omega)).mono ?_
      rintro e w3 ⟨rfl, Z, hZ, hw2, hg⟩
      have HZ := Lib.hid hZ
      have HW2 := Lib.hid hw2
      have HG := Lib.hid (gb_new hg0 hg (Nat.le_refl _))
      have HX3 := Lib.hid (hxz.gb hg (by simp; omega))
      clear hp hcy hZ hw2 hg hg0 hz hxz hXle HYX HNEW HOLD
      go_simp
      repeat (first | (refine wpList_load_row rfl 167 _ rfl w.heap.size rfl 167 _ _ _ HW2.out.arr Tryz.underlying167 rfl (wide_size' _ _ _) ?_) | (refine wpList_store_row rfl 167 _ _ rfl bx (wArr ly (nw Z) Z) rfl rfl 167 (wArr lx (nw X) X) HX3.out.arr (wide_size' _ _ _) (by rw [wArr_size, wArr_size]) (wArr_one _ _ _) ?_) | go_values | go_skip | go_guarded | go_step | go_upon)
      go_end0
      have hZ := HZ.out
      have hl := HL.out
      refine ⟨rfl, ly, Z, ?_, IsW.ofArr (setRow_heap _ _ _ _ _ _ HX3.out.arr) HW2.out.lt HW2.out.le, gb_setRow HG.out _⟩
      unfold sv
      simp at hZ
      cases lx <;> cases ly <;> simp_all <;> omega
end Go.Proofs.YtfebiipggcgmdaaGreatDoor

namespace Go.Proofs.YtfebiipggcgmdaaGreatDoor
open Go.RowKit

/-- word i, 0 where there is none -/
def tw (V : Nat) (i : Int) : Int := if i < 0 then 0 else wd V i.toNat
theorem tw_nat (V i : Nat) : tw V (i : Int) = wd V i := by unfold tw; rw [if_neg (by omega)]; rfl
theorem tw_bd (V : Nat) (i : Int) : 0 ≤ tw V i ∧ tw V i < 1000000000 := by
  unfold tw
  split
  · omega
  · have := wd_lt V i.toNat; unfold BB at this; omega

set_option maxRecDepth 100000 in
set_option maxHeartbeats 800000 in
theorem top_any (b V : Nat) (l : Bool) (i : Int) (w : World) (h : IsW w b l (nw V) V) (hi : i ≤ 232) :
    Calls Tryz.prog 193 #[.pointer (some ⟨b, 0, none⟩), .int .i64 i] w fun e w' => e = .returned (.int .i64 (tw V i)) ∧ ∃ m, w' = w.drewN m := by
  have hn := h.num
  have hl := h.le
  by_cases h0 : i < 0
  · have e : tw V i = 0 := by unfold tw; rw [if_pos h0]
    have E := Lib.hid e
    clear e
    go_enter Tryz.func193, Tryz.ntmps193
    go_wp2
    go_ret
    exact ⟨by rw [E.out]; rfl, 0, rfl⟩
  · obtain ⟨k, rfl⟩ := Int.eq_ofNat_of_zero_le (show 0 ≤ i by omega)
    rw [tw_nat]
    generalize hN : nw V = n at *
    have HN := Lib.hid hN
    clear hN
    by_cases h1 : k < n
    · have hw := h.word k (by omega)
      go_enter Tryz.func193, Tryz.ntmps193
      go_wp2
      go_ret
      exact ⟨rfl, 0, rfl⟩
    · have e : wd V k = 0 := wd_high (lt_nw V) (by rw [HN.out]; omega)
      have E := Lib.hid e
      clear e
      go_enter Tryz.func193, Tryz.ntmps193
      go_wp2
      go_ret
      exact ⟨by rw [E.out]; rfl, 0, rfl⟩

/-- how often Y may be subtracted at least -/
theorem est_ok {X Y : Nat} {A D : Int} (hY : Y ≠ 0) (hX : X < BB ^ (nw Y + 1)) (hA : A = tw X (nw Y) * 1000000000 + tw X ((nw Y : Int) - 1))
    (hD : D = if (1 : Int) < nw Y then tw Y ((nw Y : Int) - 1) + 1 else tw Y ((nw Y : Int) - 1)) : 1 ≤ D ∧ A / D * Y ≤ X := by
  have hp := nw_pos hY
  have hn := lt_nw Y
  obtain ⟨m, hm⟩ : ∃ m, nw Y = m + 1 := ⟨nw Y - 1, by omega⟩
  have ht := wd_top hY
  rw [hm] at ht hX hA hD hn
  simp only [Nat.add_sub_cancel] at ht
  rw [show (((m + 1 : Nat) : Int) - 1) = (m : Int) by omega, tw_nat] at hA hD
  rw [tw_nat] at hA
  have eX : X / BB ^ m = wd X (m + 1) * BB + wd X m := by
    rw [div_word X m]
    congr 2
    unfold wd
    rw [Nat.mod_eq_of_lt]
    exact (Nat.div_lt_iff_lt_mul (BBp _)).2 (by rw [← Nat.pow_succ']; exact hX)
  have eY : Y / BB ^ m = wd Y m := by
    rw [div_word Y m, Nat.div_eq_of_lt hn, Nat.zero_mul, Nat.zero_add]
  have eA : A = ((X / BB ^ m : Nat) : Int) := by rw [eX, hA, Int.natCast_add, Int.natCast_mul, BBi]
  have hA0 : (X / BB ^ m) * BB ^ m ≤ X := Nat.div_mul_le_self _ _
  generalize X / BB ^ m = a at *
  subst eA
  -- D as a natural number
  obtain ⟨d, rfl, hd1, hd2⟩ : ∃ d : Nat, D = d ∧ 1 ≤ d ∧ Y ≤ d * BB ^ m := by
    by_cases h1 : m = 0
    · subst h1
      rw [if_neg (by omega)] at hD
      refine ⟨wd Y 0, hD, by omega, ?_⟩
      rw [← eY]; simp
    · rw [if_pos (by omega)] at hD
      refine ⟨wd Y m + 1, by omega, by omega, ?_⟩
      rw [← eY]
      have := Nat.lt_mul_div_succ Y (BBp m)
      rw [Nat.mul_comm] at this; omega
  refine ⟨by omega, ?_⟩
  have e : ((a : Int) / (d : Int)) * (Y : Int) = ((a / d * Y : Nat) : Int) := by rw [Int.natCast_mul, Int.natCast_ediv]
  rw [e]
  have h2 : a / d * Y ≤ a / d * (d * BB ^ m) := Nat.mul_le_mul_left _ hd2
  have h3 : a / d * d * BB ^ m ≤ a * BB ^ m := Nat.mul_le_mul_right _ (Nat.div_mul_le_self _ _)
  rw [Nat.mul_assoc] at h3
  omega

/-- What 'estimate' returns. -/
def EstEnd (X Y : Nat) (w : World) (e : Ending) (w' : World) : Prop := ∃ k : Int, e = .returned (.int .i64 k) ∧ 1 ≤ k ∧ k ≤ 999999999 ∧ k * Y ≤ X ∧ ∃ m, w' = w.drewN m

theorem est_a {X Y : Nat} {q : Int} {w : World} {m : Nat} (hq : q * Y ≤ X) (h : 999999999 ≤ q) : EstEnd X Y w (.returned (.int .i64 999999999)) (w.drewN m) := by
  refine ⟨_, rfl, by omega, by omega, ?_, m, rfl⟩
  have : 999999999 * (Y : Int) ≤ q * Y := Int.mul_le_mul_of_nonneg_right h (by omega)
  omega
theorem est_b {X Y : Nat} {q : Int} {w : World} {m : Nat} (hq : q * Y ≤ X) (h0 : 0 < q) (h : q ≤ 999999999) : EstEnd X Y w (.returned (.int .i64 q)) (w.drewN m) :=
  ⟨_, rfl, by omega, h, hq, m, rfl⟩
theorem est_c {X Y : Nat} {w : World} {m : Nat} (h : Y ≤ X) : EstEnd X Y w (.returned (.int .i64 1)) (w.drewN m) :=
  ⟨_, rfl, by omega, by omega, by omega, m, rfl⟩

set_option maxRecDepth 100000 in
set_option maxHeartbeats 1600000 in
theorem estimate_any (bx X by' Y : Nat) (lx ly : Bool) (w : World) (hx : IsW w bx lx (nw X) X) (hy : IsW w by' ly (nw Y) Y) (hY : Y ≠ 0) (hX : X < BB ^ (nw Y + 1)) (hle : Y ≤ X) :
    Calls Tryz.prog 173 #[.pointer (some ⟨bx, 0, none⟩), .pointer (some ⟨by', 0, none⟩)] w (EstEnd X Y w) := by
  have hn := hy.num
  have hl := hy.le
  have hk := est_ok (A := tw X (nw Y) * 1000000000 + tw X ((nw Y : Int) - 1)) (D := if (1 : Int) < nw Y then tw Y ((nw Y : Int) - 1) + 1 else tw Y ((nw Y : Int) - 1)) hY hX rfl rfl
  have b1 := tw_bd X (nw Y)
  have b2 := tw_bd X ((nw Y : Int) - 1)
  have b3 := tw_bd Y ((nw Y : Int) - 1)
  have c1 := fun m => top_any bx X lx (nw Y) (w.drewN m) (hx.drewN m) (by omega)
  have c2 := fun m => top_any bx X lx ((nw Y : Int) - 1) (w.drewN m) (hx.drewN m) (by omega)
  have c3 := fun m => top_any by' Y ly ((nw Y : Int) - 1) (w.drewN m) (hy.drewN m) (by omega)
  generalize hN : nw Y = n at *
  generalize hT1 : tw X n = t1 at *
  generalize hT2 : tw X ((n : Int) - 1) = t2 at *
  generalize hT3 : tw Y ((n : Int) - 1) = t3 at *
  have C1 := Lib.hid c1
  have C2 := Lib.hid c2
  have C3 := Lib.hid c3
  have HK := Lib.hid hk
  obtain ⟨b1, b1'⟩ := b1
  obtain ⟨b2, b2'⟩ := b2
  obtain ⟨b3, b3'⟩ := b3
  clear c1 c2 c3 hN hT1 hT2 hT3 hx hy hk
  go_enter Tryz.func173, Tryz.ntmps173
  go_wp2
  have e1 : IntKind.i64.wrap ((n : Int) - 1) = (n : Int) - 1 := IntWalk.i64_in _ (by omega)
  have e2 : IntKind.i64.wrap (t1 * 1000000000) = t1 * 1000000000 := IntWalk.i64_in _ (by omega)
  have e3 : IntKind.i64.wrap (t1 * 1000000000 + t2) = t1 * 1000000000 + t2 := IntWalk.i64_in _ (by omega)
  go_quiet ((first | (go_at_call 193; with_reducible exact Calls.quiet_of (C1.out _)) | (go_at_call 193; with_reducible exact Calls.quiet_of (C2.out _)) | (go_at_call 193; with_reducible exact Calls.quiet_of (C3.out _))))
  clear e1 e2 e3 C1 C2 C3
  have hk := HK.out
  have hXY := Lib.hid hle
  clear hle hX hY HK
  by_cases h1 : 1 < n
  · rw [if_pos (by omega)] at hk
    obtain ⟨d1, hq⟩ := hk
    have HQ := Lib.hid hq
    clear hq
    go_wp2
    all_goals
      go_ret
      have hq := HQ.out
      have hXY := hXY.out
      first | exact est_a hq (by omega) | exact est_b hq (by omega) (by omega) | exact est_c hXY
  · rw [if_neg (by omega)] at hk
    obtain ⟨d1, hq⟩ := hk
    have HQ := Lib.hid hq
    clear hq
    go_wp2
    all_goals
      go_ret
      have hq := HQ.out
      have hXY := hXY.out
      first | exact est_a hq (by omega) | exact est_b hq (by omega) (by omega) | exact est_c hXY
end Go.Proofs.YtfebiipggcgmdaaGreatDoor
