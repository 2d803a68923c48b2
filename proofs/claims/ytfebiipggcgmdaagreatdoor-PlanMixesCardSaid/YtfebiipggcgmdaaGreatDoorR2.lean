import Derived.Test.YtfebiipggcgmdaaGreatDoorA1
import Derived.Laws.AppendOwn
import Derived.Laws.AppendOwnNone
import Derived.RangeFuncBox
import Derived.Maps.AppendAt
namespace Go.Proofs.YtfebiipggcgmdaaGreatDoor
open Go.RowKit

/-! ## the reference's lists: all ascending lists of k numbers below n -/
def nxt (l : List Nat) : Nat := match l.getLast? with | none => 0 | some z => z + 1
def ext (n : Nat) (l : List Nat) : List (List Nat) := (List.range' (nxt l) (n - nxt l)).map fun i => l ++ [i]
def lists (n : Nat) : Nat → List (List Nat)
  | 0 => [[]]
  | k + 1 => (lists n k).flatMap (ext n)
theorem ext_mem {n : Nat} {l m : List Nat} (h : m ∈ ext n l) : ∃ i, i < n ∧ m = l ++ [i] := by
  obtain ⟨i, hi, rfl⟩ := List.mem_map.1 h
  rw [List.mem_range'_1] at hi
  exact ⟨i, by omega, rfl⟩
theorem lists_mem {n : Nat} : ∀ {k : Nat} {l : List Nat}, l ∈ lists n k → l.length = k ∧ ∀ z ∈ l, z < n
  | 0, l, h => by
    obtain rfl := List.mem_singleton.1 h
    exact ⟨rfl, fun _ h => by cases h⟩
  | k + 1, l, h => by
    obtain ⟨m, hm, hl⟩ := List.mem_flatMap.1 h
    obtain ⟨i, hi, rfl⟩ := ext_mem hl
    have h1 := lists_mem hm
    refine ⟨by simp [h1.1], fun z hz => ?_⟩
    rcases List.mem_append.1 hz with hz | hz
    · exact h1.2 z hz
    · rw [List.mem_singleton.1 hz]; exact hi
theorem ext_len (n : Nat) (l : List Nat) : (ext n l).length ≤ n := by simp [ext]
theorem flat_len (n : Nat) : ∀ L : List (List Nat), (L.flatMap (ext n)).length ≤ L.length * n
  | [] => by simp
  | a :: L => by
    rw [List.flatMap_cons, List.length_append, List.length_cons, Nat.succ_mul]
    have := ext_len n a
    have := flat_len n L
    omega
theorem lists_len (n : Nat) : ∀ k : Nat, (lists n k).length ≤ n ^ k
  | 0 => by simp [lists]
  | k + 1 => by
    rw [Nat.pow_succ]
    exact Nat.le_trans (flat_len n _) (Nat.mul_le_mul (lists_len n k) (Nat.le_refl _))
theorem nxt_le {n : Nat} {l : List Nat} (h : ∀ z ∈ l, z < n) : nxt l ≤ n := by
  unfold nxt
  cases hl : l.getLast? with
  | none => simp
  | some z => exact h z (List.mem_of_getLast? hl)
theorem nxt_at {l : List Nat} {m : Nat} (h : l.length = m + 1) : ∃ z, l[m]? = some z ∧ nxt l = z + 1 := by
  have hm : m < l.length := by omega
  refine ⟨l[m], List.getElem?_eq_getElem hm, ?_⟩
  unfold nxt
  rw [List.getLast?_eq_getElem?, h, show m + 1 - 1 = m from rfl, List.getElem?_eq_getElem hm]

theorem nxt_range : ∀ k : Nat, nxt (List.range k) = k
  | 0 => rfl
  | k + 1 => by
    obtain ⟨z, h1, h2⟩ := nxt_at (l := List.range (k + 1)) (m := k) (by simp)
    rw [List.getElem?_range (by omega)] at h1
    cases h1
    exact h2
theorem range_in {n : Nat} : ∀ {k : Nat}, k ≤ n → List.range k ∈ lists n k
  | 0, _ => List.mem_singleton.2 rfl
  | k + 1, h => by
    refine List.mem_flatMap.2 ⟨List.range k, range_in (by omega), ?_⟩
    unfold ext
    rw [nxt_range, List.range_succ]
    exact List.mem_map.2 ⟨k, List.mem_range'_1.2 (by omega), rfl⟩
/-- A value that is one of these lists. -/
def IsL (w : World) (x : Value) (l : List Nat) : Prop :=
  (l = [] ∧ x = .slice none 0 0) ∨ (l ≠ [] ∧ ∃ h cap cur, x = .slice (some ⟨h, 0, none⟩) l.length cap ∧ w.heap[h]? = some (.cells cur 3 (0, 0)) ∧ ∀ (j z : Nat), l[j]? = some z → cur[j]? = some (.int .i64 z))
/-- Cells that are lists. -/
def IsLs (w : World) (xs : List Value) (L : List (List Nat)) : Prop := xs.length = L.length ∧ ∀ (i : Nat) (l : List Nat), L[i]? = some l → ∃ x, xs[i]? = some x ∧ IsL w x l
theorem IsL.kept {w w' : World} {x : Value} {l : List Nat} (h : IsL w x l) (hk : ∀ (b : Nat) (cur : Array Value), w.heap[b]? = some (Obj.cells cur 3 (0, 0)) → w'.heap[b]? = some (Obj.cells cur 3 (0, 0))) : IsL w' x l := by
  rcases h with h | ⟨h0, b, cap, cur, h1, h2, h3⟩
  · exact .inl h
  · exact .inr ⟨h0, b, cap, cur, h1, hk _ _ h2, h3⟩
theorem IsL.below {w w' : World} {x : Value} {l : List Nat} (h : IsL w x l) (hb : Below w.heap.size w w') : IsL w' x l :=
  h.kept fun b cur hh => by rw [hb.block b (Array.getElem?_eq_some_iff.1 hh).1]; exact hh
theorem IsLs.kept {w w' : World} {xs : List Value} {L : List (List Nat)} (h : IsLs w xs L) (hk : ∀ (b : Nat) (cur : Array Value), w.heap[b]? = some (Obj.cells cur 3 (0, 0)) → w'.heap[b]? = some (Obj.cells cur 3 (0, 0))) : IsLs w' xs L :=
  ⟨h.1, fun i l hl => by obtain ⟨x, h1, h2⟩ := h.2 i l hl; exact ⟨x, h1, h2.kept hk⟩⟩
theorem IsLs.below {w w' : World} {xs : List Value} {L : List (List Nat)} (h : IsLs w xs L) (hb : Below w.heap.size w w') : IsLs w' xs L :=
  h.kept fun b cur hh => by rw [hb.block b (Array.getElem?_eq_some_iff.1 hh).1]; exact hh
theorem IsLs.snoc {w : World} {xs : List Value} {L : List (List Nat)} {x : Value} {l : List Nat} (h : IsLs w xs L) (hx : IsL w x l) : IsLs w (xs ++ [x]) (L ++ [l]) := by
  refine ⟨by simp [h.1], fun i m hm => ?_⟩
  by_cases hi : i < L.length
  · rw [List.getElem?_append_left hi] at hm
    obtain ⟨y, h1, h2⟩ := h.2 i m hm
    exact ⟨y, by rw [List.getElem?_append_left (by rw [h.1]; exact hi)]; exact h1, h2⟩
  · have hi2 : i = L.length := by
      have := (List.getElem?_eq_some_iff.1 hm).1
      simp at this; omega
    subst hi2
    simp at hm
    subst hm
    exact ⟨x, by rw [← h.1]; simp, hx⟩
/-- What a function with such lists hands back. -/
def LsEnd (L : List (List Nat)) (w : World) (e : Ending) (w' : World) : Prop :=
  ∃ v xs, e = .returned v ∧ w'.ownsRow w.heap.size 124 1 v L.length xs ∧ IsLs w' xs L ∧ Below w.heap.size w w'
theorem int_info : (Tryz.prog.info? 3).map (fun i => (i.zero, i.size, i.bytes)) = some (some (.int .i64 0), 1, 8) := by kernel_rfl
theorem ints_info : (Tryz.prog.info? 124).map (fun i => (i.zero, i.size, i.bytes)) = some (some (.slice none 0 0), 1, 24) := by kernel_rfl

set_option maxRecDepth 100000 in
theorem lists_zero (n : Nat) (w : World) : Calls Tryz.prog 92 #[.int .i64 n, .int .i64 0] w (LsEnd (lists n 0) w) := by
  go_enter Tryz.func92, Tryz.ntmps92
  go_wp2
  go_ret
  exact ⟨_, [.slice none 0 0], rfl, ⟨rfl, .inr ⟨w.heap.size, 1, #[.slice none 0 0], rfl, Nat.le_refl _, heap_alloc_new w _, Nat.le_refl _, by unfold maxLen; omega, rfl, rfl⟩⟩, ⟨rfl, fun i l hl => by
    rcases i with _ | i
    · cases hl; exact ⟨_, rfl, .inl ⟨rfl, rfl⟩⟩
    · cases hl⟩, (Below.refl _ _).alloc (Nat.le_refl _) _⟩

abbrev iv (z : Nat) : Value := .int .i64 (z : Int)
theorem own_mono {w : World} {b b2 : Nat} {e : TypeId} {size : Nat} {v : Value} {n : Nat} {xs : List Value} (h : w.ownsRow b e size v n xs) (hb : b2 ≤ b) : w.ownsRow b2 e size v n xs := by
  refine ⟨h.1, ?_⟩
  rcases h.2 with hn | ⟨g, cap, cur, h1, h2, h3⟩
  · exact .inl hn
  · exact .inr ⟨g, cap, cur, h1, Nat.le_trans hb h2, h3⟩
theorem own_isL {w : World} {b : Nat} {v : Value} {l : List Nat} (h : w.ownsRow b 3 1 v l.length (l.map iv)) (h0 : l ≠ []) : IsL w v l := by
  have hp := List.length_pos_iff.2 h0
  obtain ⟨g, cap, cur, rfl, -, hg, -, -, -, ht⟩ := h.2.resolve_left (fun hn => by omega)
  refine .inr ⟨h0, g, cap, cur, rfl, hg, fun j z hz => ?_⟩
  have h1 : (l.map iv)[j]? = some (.int .i64 z) := by rw [List.getElem?_map, hz]; rfl
  rw [← ht, List.getElem?_take] at h1
  split at h1
  · simpa using h1
  · cases h1
/-- One step of the lists' inner loop, in the memory. -/
theorem step_mem {w1 wz w2 w3 : World} {vv v1 v2 : Value} {m : Nat} {ys : List Value} {M : List (List Nat)} {l : List Nat} {i : Nat} {o1 o2 o3 : Obj}
    (hB : Below w1.heap.size w1 wz) (hown : wz.ownsRow w1.heap.size 124 1 vv m ys) (hls : IsLs wz ys M)
    (hown1 : w2.ownsRow wz.heap.size 3 1 v1 l.length (l.map iv)) (hg1 : (wz.alloc o1).grownBy w2 (some wz.heap.size))
    (hown2 : w3.ownsRow wz.heap.size 3 1 v2 (l.length + 1) ((l ++ [i]).map iv)) (hg2 : (w2.alloc o2).grownBy w3 v1.ownBlock) :
    (w3.alloc o3).ownsRow w1.heap.size 124 1 vv m ys ∧ Below w1.heap.size w1 (w3.alloc o3) ∧ IsLs (w3.alloc o3) ys M ∧ IsL (w3.alloc o3) v2 (l ++ [i]) ∧ w1.heap.size ≤ w3.heap.size := by
  have hs := hB.size
  have hbz : Below wz.heap.size wz w2 := ((Below.refl _ _).alloc (Nat.le_refl _) o1).grown hg1 (by simp) (fun k e => by cases e; exact Nat.le_refl _)
  have hb3 : Below wz.heap.size wz w3 := (hbz.alloc hbz.size o2).grown hg2 (by have := hbz.size; simp; omega) (fun k e => (hown1.lt k e).1)
  have hb4 : Below wz.heap.size wz (w3.alloc o3) := hb3.alloc hb3.size o3
  have hlt := hown.lt
  refine ⟨?_, hB.trans (hb4.mono hs), hls.below hb4, ?_, Nat.le_trans hs hb3.size⟩
  · refine ⟨hown.1, ?_⟩
    rcases hown.2 with hn | ⟨g, cap, cur, rfl, h1, h2, h3⟩
    · exact .inl hn
    · exact .inr ⟨g, cap, cur, rfl, h1, (hb4.block g (hlt g rfl).2).trans h2, h3⟩
  · have h2 : w3.ownsRow wz.heap.size 3 1 v2 (l ++ [i]).length ((l ++ [i]).map iv) := by simpa using hown2
    exact (own_isL h2 (by simp)).below ((Below.refl _ _).alloc (Nat.le_refl _) o3)
theorem step_out {w1 wa w4 : World} {vv : Value} {m : Nat} {ys : List Value} {M : List (List Nat)} {v2 : Value} {l : List Nat}
    (hown : wa.ownsRow w1.heap.size 124 1 vv m ys) (hB : Below w1.heap.size w1 wa) (hls : IsLs wa ys M) (hl : IsL wa v2 l) (hg : wa.grownBy w4 vv.ownBlock) :
    IsLs w4 (ys ++ [v2]) (M ++ [l]) ∧ Below w1.heap.size w1 w4 := by
  have hk : ∀ (b : Nat) (cur : Array Value), wa.heap[b]? = some (Obj.cells cur 3 (0, 0)) → w4.heap[b]? = some (Obj.cells cur 3 (0, 0)) := fun b cur hh => by
    rw [hg.block b (Array.getElem?_eq_some_iff.1 hh).1 (fun e => ?_)]
    · exact hh
    · rcases hown.2 with ⟨rfl, -⟩ | ⟨g, cap, cu, rfl, -, h2, -⟩
      · cases e
      · cases e
        rw [h2] at hh
        cases hh
  exact ⟨(hls.kept hk).snoc (hl.kept hk), hB.grown hg hB.size (fun k e => (hown.lt k e).1)⟩

/-- the lists made of one list so far -/
def part (l : List Nat) (i : Nat) : List (List Nat) := (List.range' (nxt l) (i - nxt l)).map fun i => l ++ [i]
theorem part_len (l : List Nat) (i : Nat) : (part l i).length ≤ i := by simp [part]
theorem one_cells (x : Value) (h : x.oneCell' = true) : ∀ u ∈ [x], u.oneCell' = true := fun u hu => by rw [List.mem_singleton.1 hu]; exact h
theorem one_new (w : World) (n : Nat) (hn : w.heap.size = n) (x : Value) (t : TypeId) : ∀ (j : Nat) (u : Value), [x][j]? = some u → (w.alloc (.cells #[x] t)).cell? ((⟨n, 0, none⟩ : Addr).add j) = some u := by
  subst hn; exact cell_one_new w x t
theorem part_zero (l : List Nat) : part l (nxt l) = [] := by simp [part]
theorem part_all (n : Nat) (l : List Nat) : part l n = ext n l := rfl
theorem part_succ {l : List Nat} {i : Nat} (h : nxt l ≤ i) : part l (i + 1) = part l i ++ [l ++ [i]] := by
  unfold part
  rw [show i + 1 - nxt l = (i - nxt l) + 1 by omega, List.range'_1_concat, List.map_append, show nxt l + (i - nxt l) = i by omega]
  rfl

theorem pow9 {n k : Nat} (hn : n ≤ 9) (hk : k ≤ 9) : n ^ k ≤ 387420489 := by
  have h1 : n ^ k ≤ 9 ^ k := Nat.pow_le_pow_left hn k
  have h2 : 9 ^ k ≤ 9 ^ 9 := Nat.pow_le_pow_right (by omega) hk
  have h3 : (9 : Nat) ^ 9 = 387420489 := by decide
  omega

set_option maxRecDepth 100000 in
set_option maxHeartbeats 6400000 in
theorem lists_succ (n k : Nat) (hn : n ≤ 9) (hk : k < 9) (hkn : k ≤ n) (ih : ∀ w, Calls Tryz.prog 92 #[.int .i64 n, .int .i64 k] w (LsEnd (lists n k) w)) (w : World) :
    Calls Tryz.prog 92 #[.int .i64 n, .int .i64 ((k + 1 : Nat) : Int)] w (LsEnd (lists n (k + 1)) w) := by
  obtain ⟨i0, hi, hz0, hz1, hz2⟩ := info_parts int_info
  obtain ⟨j0, hjj, hy0, hy1, hy2⟩ := info_parts ints_info
  have HI := Lib.hid ih
  have e0 : ((k + 1 : Nat) : Int) ≠ 0 := by omega
  have e1 : IntKind.i64.wrap (((k + 1 : Nat) : Int) - 1) = (k : Int) := by rw [show ((k + 1 : Nat) : Int) - 1 = (k : Int) by omega]; exact IntWalk.i64_in _ (by omega)
  have hle : (lists n k).length ≤ 387420489 := Nat.le_trans (lists_len n k) (pow9 hn (by omega))
  have hpos : 0 < (lists n k).length := List.length_pos_of_mem (range_in hkn)
  have HMEM := Lib.hid (fun (l : List Nat) (h : l ∈ lists n k) => lists_mem h)
  obtain ⟨L, hL⟩ : ∃ L, lists n k = L := ⟨_, rfl⟩
  have HL := Lib.hid (show lists n (k + 1) = L.flatMap (ext n) by rw [← hL]; rfl)
  obtain ⟨kk, hkk⟩ : ∃ kk : Int, ((k + 1 : Nat) : Int) = kk := ⟨_, rfl⟩
  rw [hkk] at e0 e1 ⊢
  rw [hL] at HI hle HMEM hpos
  rw [HL.out]
  have hke : (kk == 0) = false := by simp; exact e0
  clear ih hL hkk
  go_enter Tryz.func92, Tryz.ntmps92
  go_wp2_with fail
  refine (HI.out _).mono ?_
  rintro e w1 ⟨v, xs, rfl, hown, hls, hb1⟩
  obtain ⟨hxl, hown⟩ := hown
  obtain ⟨g0, c0, cur0, rfl, hg0, hh0, -, -, -, ht0⟩ := hown.resolve_left (fun h => by omega)
  have H0 := Lib.hid (show ∀ (j : Nat) (l : List Nat), L[j]? = some l → ∃ x, w1.cell? ⟨g0, j, none⟩ = some x ∧ IsL w1 x l from fun j l hl => by
    obtain ⟨x, h1, h2⟩ := hls.2 j l hl
    refine ⟨x, ?_, h2⟩
    have h3 : cur0.toList[j]? = some x := by
      rw [← ht0, List.getElem?_take] at h1
      split at h1
      · exact h1
      · cases h1
    simp only [World.cell?, hh0]
    simpa using h3)
  have HG0 := Lib.hid (Array.getElem?_eq_some_iff.1 hh0).1
  have HB1 := Lib.hid hb1
  have HPOS := Lib.hid hpos
  clear hb1 hls hh0 ht0 hxl hown hg0 hpos e0
  go_wp2
  go_loopg [5, 18] L.length (fun m vv iv wr => ∃ (j : Nat) (xs : List Value), iv = .int .i64 j ∧ j + m = L.length ∧ wr.ownsRow w1.heap.size 124 1 vv ((L.take j).flatMap (ext n)).length xs ∧ IsLs wr xs ((L.take j).flatMap (ext n)) ∧ Below w1.heap.size w1 wr)
  case atStart => exact ⟨0, [], rfl, by omega, World.ownsRow_nil _ _ _ _, ⟨rfl, fun i l hl => by cases hl⟩, Below.refl _ _⟩
  case round =>
    obtain ⟨j, xs, rfl, hjm, hown, hls, hbl⟩ := hrel
    by_cases hz : gk = 0
    · obtain rfl : j = L.length := by omega
      rw [List.take_length] at hown hls
      have HO := Lib.hid hown
      have HLS := Lib.hid hls
      have HBL := Lib.hid hbl
      clear hown hls hbl
      go_wp2
      go_ret
      exact ⟨_, xs, rfl, own_mono HO.out HB1.out.size, HLS.out, HB1.out.trans (HBL.out.mono HB1.out.size)⟩
    · have hj : j < L.length := by omega
      have hji : (j : Int) < L.length := by omega
      have hgk : gk ≠ 0 := hz
      obtain ⟨l, hl⟩ : ∃ l, L[j]? = some l := ⟨_, List.getElem?_eq_getElem hj⟩
      obtain ⟨x, hcx, hil⟩ := H0.out j l hl
      have hcx2 := (hbl.cell (p := ⟨g0, j, none⟩) HG0.out).trans hcx
      obtain ⟨hlen, hlt⟩ := HMEM.out l (List.mem_of_getElem? hl)
      have hfn := nxt_le hlt
      obtain ⟨M, hM⟩ : ∃ M, (L.take j).flatMap (ext n) = M := ⟨_, rfl⟩
      rw [hM] at hown hls
      have HNX := Lib.hid (show (L.take (j + 1)).flatMap (ext n) = M ++ ext n l by
        rw [List.take_add_one, hl, List.flatMap_append, hM]; simp)
      have hMl : M.length ≤ 387420489 * 9 := by
        rw [← hM]
        refine Nat.le_trans (flat_len n _) (Nat.mul_le_mul ?_ hn)
        rw [List.length_take]; omega
      have HML := Lib.hid hMl
      have HOWN := Lib.hid hown
      have HLS := Lib.hid hls
      have HBL := Lib.hid hbl
      have HLEN := Lib.hid hlen
      have HJM := Lib.hid hjm
      have e2 : IntKind.i64.wrap ((j : Int) + 1) = (j : Int) + 1 := IntWalk.i64_in _ (by omega)
      clear hM hown hls hbl hcx hlt hlen hl hMl hz
      have HGK := Lib.hid (show ∃ o, o = gk ∧ j + o = L.length from ⟨gk, rfl, hjm⟩)
      obtain ⟨og, hog1, hog2⟩ := HGK.out
      have HOG := Lib.hid hog1
      have HOG2 := Lib.hid (show og ≠ 0 by omega)
      clear hog1 hog2 hgk hjm
      rcases hil with hil | hil
      · obtain ⟨rfl, rfl⟩ := hil
        have hf0 : nxt [] = 0 := rfl
        go_wp2
        go_loopg [5, 9] (n - nxt []) (fun m vv iv wz => ∃ (i : Nat) (ys : List Value), iv = .int .i64 i ∧ i + m = n ∧ nxt [] ≤ i ∧ wz.ownsRow w1.heap.size 124 1 vv (M ++ part [] i).length ys ∧ IsLs wz ys (M ++ part [] i) ∧ Below w1.heap.size w1 wz)
        case atStart => exact ⟨nxt [], xs, rfl, by omega, Nat.le_refl _, by rw [part_zero, List.append_nil]; exact HOWN.out, by rw [part_zero, List.append_nil]; exact HLS.out, HBL.out⟩
        case round =>
          obtain ⟨i, ys, rfl, hin, hni, hown, hls, hbz⟩ := hrel
          have HOW := Lib.hid hown
          have HLZ := Lib.hid hls
          have HBZ := Lib.hid hbz
          clear hown hls hbz
          by_cases hz : gk = 0
          · obtain rfl : i = n := by omega
            go_wp2
            go_roundg (og - 1)
            case rel => exact ⟨j + 1, ys, by simp, by have := HJM.out; have := HOG.out; have := HOG2.out; omega, by rw [HNX.out]; exact HOW.out, by rw [HNX.out]; exact HLZ.out, HBZ.out⟩
            case measure => have := HOG.out; have := HOG2.out; omega
          · have hii : (i : Int) < n := by omega
            have e3 : IntKind.i64.wrap ((i : Int) + 1) = (i : Int) + 1 := IntWalk.i64_in _ (by omega)
            obtain ⟨ml, hml⟩ : ∃ ml, (M ++ part [] i).length = ml := ⟨_, rfl⟩
            have hmb : ml ≤ 387420489 * 9 + 9 := by
              rw [← hml, List.length_append]
              have := HML.out
              have := part_len [] i
              omega
            have hnx : (M ++ part [] i) ++ [[] ++ [i]] = M ++ part [] (i + 1) := by rw [part_succ hni, List.append_assoc]
            have HNX2 := Lib.hid hnx
            have hmx : ml + 1 ≤ maxLen := by unfold maxLen; omega
            rw [hml] at HOW
            have HMQ := Lib.hid hml
            have HNI := Lib.hid hni
            clear hml hnx hni
            have HE1 := Lib.hid (World.ownsRow_made (base := wr.heap.size) (e := 3) (size := 1) wr #[] 0 (Nat.le_refl _) (Nat.zero_le _) rfl)
            have HG1 := Lib.hid (gb_refl (wr.alloc (.cells #[] 3)) (some wr.heap.size))
            go_wp2_with (first
              | (at_builtin
                 refine wpList_append_own_none rfl _ _ 124 rfl wr.heap.size 3 i0 1 Tryz.underlying124 hi _ 0 [] rfl HE1.out rfl ?_)
              | (at_builtin
                 refine wpList_append_own _ rfl _ _ 124 rfl wr.heap.size 3 i0 (.int .i64 0) 1 8 Tryz.underlying124 hi hz0 hz1 hz2 rfl (by decide) _ 0 [] rfl (HE1.out.alloc _) ⟨wr.heap.size + 1, 0, none⟩ 1 1 [iv i] rfl rfl (one_new _ _ (by first | rfl | simp) _ _) (one_cells _ rfl) (by unfold maxLen; omega) (by omega) (by simp <;> omega) ?_
                 intro v2 w3 hown2 hgrow2 _
                 go_loud (obtain ⟨h2, cp2, rfl⟩ := ownsRow_succ hown2)
                 go_loud (obtain ⟨hs1, hs2, hs3, hs4, hs5⟩ := step_mem (l := []) (i := i) (o3 := .cells #[.slice (some ⟨h2, 0, none⟩) (0 + 1) cp2] 124) HBZ.out HOW.out HLZ.out HE1.out HG1.out hown2 hgrow2)
                 clear hown2 hgrow2)
              | (at_builtin
                 refine wpList_append_own _ rfl _ _ 121 rfl w1.heap.size 124 j0 (.slice none 0 0) 1 24 Tryz.underlying121 hjj hy0 hy1 hy2 rfl (by decide) _ ml ys rfl hs1 ⟨w3.heap.size, 0, none⟩ 1 1 [.slice (some ⟨h2, 0, none⟩) (0 + 1) cp2] rfl rfl (one_new w3 _ rfl _ _) (one_cells _ rfl) hmx (by omega) hs2.size ?_
                 intro v3 w4 hown3 hgrow3 _
                 go_loud (obtain ⟨hr1, hr2⟩ := step_out hs1 hs2 hs3 hs4 hgrow3)
                 go_loud (obtain ⟨g3, cp3, rfl⟩ := ownsRow_succ hown3)
                 clear hgrow3))
            go_wp2
            go_roundg (gk - 1)
            case rel => exact ⟨i + 1, _, by simp, by omega, by have := HNI.out; omega, by rw [← HNX2.out, List.length_append, HMQ.out]; exact hown3, by rw [← HNX2.out]; exact hr1, hr2⟩
            case measure => omega
      · obtain ⟨hne, h, cap, cur, rfl, hh1, hcur⟩ := hil
        have hlt1 := (Array.getElem?_eq_some_iff.1 hh1).1
        have hh := (HBL.out.block h hlt1).trans hh1
        obtain ⟨m, hm⟩ : ∃ m, l.length = m + 1 := ⟨l.length - 1, by have := List.length_pos_iff.2 hne; omega⟩
        obtain ⟨z, yz1, yz2⟩ := nxt_at hm
        have hcz : wr.cell? ⟨h, m, none⟩ = some (.int .i64 z) := by
          simp only [World.cell?, hh]; exact hcur m z yz1
        have HM := Lib.hid hm
        have hm9 : m ≤ 9 := by have := HLEN.out; omega
        have em : IntKind.i64.wrap (m : Int) = (m : Int) := IntWalk.i64_in _ (by omega)
        have hz9 : z ≤ 9 := by have := hfn; omega
        have ez : IntKind.i64.wrap ((z : Int) + 1) = (z : Int) + 1 := IntWalk.i64_in _ (by omega)
        have HZ := Lib.hid yz2
        have HNE := Lib.hid hne
        have HL1 := Lib.hid (show w1.heap[h]? = some (Obj.cells cur 3 (0, 0)) ∧ h < w1.heap.size ∧ ∀ (q y : Nat), l[q]? = some y → cur[q]? = some (.int .i64 y) from ⟨hh1, hlt1, hcur⟩)
        have HF := Lib.hid hfn
        rw [hm] at hcx2
        clear hm
        clear hcur hh yz1 yz2 hne hh1 hlt1
        go_wp2
        go_loopg [5, 9] (n - nxt l) (fun m vv iv wz => ∃ (i : Nat) (ys : List Value), iv = .int .i64 i ∧ i + m = n ∧ nxt l ≤ i ∧ wz.ownsRow w1.heap.size 124 1 vv (M ++ part l i).length ys ∧ IsLs wz ys (M ++ part l i) ∧ Below w1.heap.size w1 wz)
        case atStart => exact ⟨nxt l, xs, by rw [HZ.out]; simp, by omega, Nat.le_refl _, by rw [part_zero, List.append_nil]; exact HOWN.out, by rw [part_zero, List.append_nil]; exact HLS.out, HBL.out⟩
        case round =>
          obtain ⟨i, ys, rfl, hin, hni, hown, hls, hbz⟩ := hrel
          have HOW := Lib.hid hown
          have HLZ := Lib.hid hls
          have HBZ := Lib.hid hbz
          clear hown hls hbz
          by_cases hz : gk = 0
          · obtain rfl : i = n := by omega
            go_wp2
            go_roundg (og - 1)
            case rel => exact ⟨j + 1, ys, by simp, by have := HJM.out; have := HOG.out; have := HOG2.out; omega, by rw [HNX.out]; exact HOW.out, by rw [HNX.out]; exact HLZ.out, HBZ.out⟩
            case measure => have := HOG.out; have := HOG2.out; omega
          · have hii : (i : Int) < n := by omega
            have e3 : IntKind.i64.wrap ((i : Int) + 1) = (i : Int) + 1 := IntWalk.i64_in _ (by omega)
            obtain ⟨ml, hml⟩ : ∃ ml, (M ++ part l i).length = ml := ⟨_, rfl⟩
            have hmb : ml ≤ 387420489 * 9 + 9 := by
              rw [← hml, List.length_append]
              have := HML.out
              have := part_len l i
              omega
            have hnx : (M ++ part l i) ++ [l ++ [i]] = M ++ part l (i + 1) := by rw [part_succ hni, List.append_assoc]
            have HNX2 := Lib.hid hnx
            have hmx : ml + 1 ≤ maxLen := by unfold maxLen; omega
            rw [hml] at HOW
            have HMQ := Lib.hid hml
            have HNI := Lib.hid hni
            clear hml hnx hni
            have HE1 := Lib.hid (World.ownsRow_made (base := wr.heap.size) (e := 3) (size := 1) wr #[] 0 (Nat.le_refl _) (Nat.zero_le _) rfl)
            have hll : l.length ≤ 9 := by have := HLEN.out; omega
            have HNW := Lib.hid (show ∀ (q : Nat) (u : Value), (l.map iv)[q]? = some u → (wr.alloc (.cells #[] 3)).cell? ((⟨h, 0, none⟩ : Addr).add q) = some u from fun q u hu => by
              have hb : Below wr.heap.size wr (wr.alloc (.cells #[] 3)) := (Below.refl _ _).alloc (Nat.le_refl _) _
              obtain ⟨hb0, hbl, hb2⟩ := HL1.out
              have hb1 := (HBZ.out.block h hbl).trans hb0
              rw [List.getElem?_map] at hu
              obtain ⟨y, hy, rfl⟩ := Option.map_eq_some_iff.1 hu
              have ha : (⟨h, 0, none⟩ : Addr).add q = ⟨h, q, none⟩ := by unfold Addr.add; simp; intro hq; exact hq.symm
              rw [ha, hb.cell (p := ⟨h, q, none⟩) (Array.getElem?_eq_some_iff.1 hb1).1]
              simp only [World.cell?, hb1]
              exact hb2 q y hy)
            have HONE := Lib.hid (show ∀ u ∈ l.map iv, u.oneCell' = true from fun u hu => by obtain ⟨y, -, rfl⟩ := List.mem_map.1 hu; rfl)
            go_wp2_with (first
              | (at_builtin
                 refine wpList_append_own _ rfl _ _ 124 rfl wr.heap.size 3 i0 (.int .i64 0) 1 8 Tryz.underlying124 hi hz0 hz1 hz2 rfl (by decide) _ 0 [] rfl HE1.out ⟨h, 0, none⟩ (m + 1) cap (l.map iv) rfl (by rw [List.length_map, HM.out, Nat.mul_one]) HNW.out HONE.out (by unfold maxLen; omega) (by omega) (by simp) ?_
                 intro v1 w2 hown1 hgrow1 _
                 rw [Nat.zero_add, List.nil_append, ← HM.out] at hown1
                 have hbz2 : wr.heap.size ≤ w2.heap.size := Nat.le_trans (by simp) hgrow1.size)
              | (at_builtin
                 refine wpList_append_own _ rfl _ _ 124 rfl wr.heap.size 3 i0 (.int .i64 0) 1 8 Tryz.underlying124 hi hz0 hz1 hz2 rfl (by decide) _ l.length (l.map iv) rfl (hown1.alloc _) ⟨w2.heap.size, 0, none⟩ 1 1 [iv i] rfl rfl (one_new _ _ (by first | rfl | simp) _ _) (one_cells _ rfl) (by unfold maxLen; omega) (by omega) (Nat.le_trans hbz2 (by simp)) ?_
                 intro v2 w3 hown2 hgrow2 _
                 go_loud (obtain ⟨h2, cp2, rfl⟩ := ownsRow_succ hown2)
                 go_loud (obtain ⟨hs1, hs2, hs3, hs4, hs5⟩ := step_mem (l := l) (i := i) (o3 := .cells #[.slice (some ⟨h2, 0, none⟩) (l.length + 1) cp2] 124) HBZ.out HOW.out HLZ.out hown1 hgrow1 (by rw [List.map_append]; exact hown2) hgrow2)
                 clear hown2 hgrow2 hgrow1 hown1)
              | (at_builtin
                 refine wpList_append_own _ rfl _ _ 121 rfl w1.heap.size 124 j0 (.slice none 0 0) 1 24 Tryz.underlying121 hjj hy0 hy1 hy2 rfl (by decide) _ ml ys rfl hs1 ⟨w3.heap.size, 0, none⟩ 1 1 [.slice (some ⟨h2, 0, none⟩) (l.length + 1) cp2] rfl rfl (one_new w3 _ rfl _ _) (one_cells _ rfl) hmx (by omega) hs2.size ?_
                 intro v3 w4 hown3 hgrow3 _
                 go_loud (obtain ⟨hr1, hr2⟩ := step_out hs1 hs2 hs3 hs4 hgrow3)
                 go_loud (obtain ⟨g3, cp3, rfl⟩ := ownsRow_succ hown3)
                 clear hgrow3))
            go_wp2
            go_roundg (gk - 1)
            case rel => exact ⟨i + 1, _, by simp, by omega, by have := HNI.out; omega, by rw [← HNX2.out, List.length_append, HMQ.out]; exact hown3, by rw [← HNX2.out]; exact hr1, hr2⟩
            case measure => omega

theorem lists_any (n : Nat) (hn : n ≤ 9) : ∀ (k : Nat), k ≤ n → ∀ w, Calls Tryz.prog 92 #[.int .i64 n, .int .i64 k] w (LsEnd (lists n k) w)
  | 0, _, w => lists_zero n w
  | k + 1, h, w => lists_succ n k hn (by omega) (by omega) (fun w => lists_any n hn k (by omega) w) w
end Go.Proofs.YtfebiipggcgmdaaGreatDoor
