import Derived.Test.YtfebiipggcgmdaaGreatDoorA1
import Derived.RangeFuncNested
import Derived.RangeFuncBound
import Derived.RangeFuncCalls
import Derived.RangeFuncLeaves
import Derived.RangeFuncFrom
import Derived.Shelf.Abstract
import Derived.Shelf.RegionOpen
import Derived.WalkKit
import Derived.OwnWalkIn
import Derived.TacticsInMore
import Derived.LoopNIn
import Derived.LoopIn
namespace Go.Proofs.YtfebiipggcgmdaaGreatDoor
open Go.RowKit Go.Shelf

/-! ## plan.lots: all numbers of bad parts, with what a function says of them -/
/-- a number of bad parts -/
abbrev Bad (lot : Nat) : Type := { b : Nat // b ≤ lot }
abbrev rat2 (lot : Nat) (r : Nat → ByteArray) (x : Bad lot) : Array Value := #[.string (r x.1), .int .i64 0]
/-- what comes -/
def lotL (lot : Nat) : Nat → List (Bad lot)
  | 0 => []
  | n + 1 => if h : n ≤ lot then lotL lot n ++ [⟨n, h⟩] else lotL lot n
theorem lotL_succ {lot n : Nat} (h : n ≤ lot) : lotL lot (n + 1) = lotL lot n ++ [⟨n, h⟩] := by simp [lotL, h]
theorem lotL_len (lot : Nat) : ∀ n : Nat, n ≤ lot + 1 → (lotL lot n).length = n
  | 0, _ => rfl
  | n + 1, h => by rw [lotL_succ (by omega), List.length_append, lotL_len lot n (by omega)]; rfl
theorem lotL_pre (lot : Nat) {m n : Nat} (h : m ≤ n) : lotL lot m <+: lotL lot n := by
  induction n with
  | zero => obtain rfl : m = 0 := by omega
            exact List.prefix_refl _
  | succ n ih =>
    rcases Nat.lt_or_eq_of_le h with h | rfl
    · by_cases hl : n ≤ lot
      · exact (ih (by omega)).trans ⟨[⟨n, hl⟩], (lotL_succ hl).symm⟩
      · have e : lotL lot (n + 1) = lotL lot n := by simp [lotL, hl]
        rw [e]; exact ih (by omega)
    · exact List.prefix_refl _

set_option maxRecDepth 100000 in
set_option maxHeartbeats 4000000 in
theorem lots_stops_Worst (Kp : World → World → Prop) (gl gf g1 g2 lot : Nat) (r : Nat → ByteArray) (n : Nat) (w : World) (hn : 1 ≤ n) (hl : lot ≤ 4096)
    (hKt : ∀ {A B C : World}, Kp A B → Kp B C → Kp A C) (hKs : ∀ {B : World}, Kp w B → w.heap.size ≤ B.heap.size) (hKb : ∀ {A B : World}, w.heap.size ≤ A.heap.size → Below A.heap.size A B → Kp A B)
    (hgl : ∀ w2, Kp w w2 → w2.cell? ⟨gl, 0, none⟩ = w.cell? ⟨gl, 0, none⟩) (hgf : ∀ w2, Kp w w2 → w2.cell? ⟨gf, 0, none⟩ = w.cell? ⟨gf, 0, none⟩) (hc1 : w.cell? ⟨gl, 0, none⟩ = some (.int .i64 lot)) (hc2 : w.cell? ⟨gf, 0, none⟩ = some (.func (.func 87) #[] #[.pointer (some ⟨g1, 0, none⟩), .pointer (some ⟨g2, 0, none⟩)]))
    (hop : ∀ (bad : Nat) (w2 : World), bad ≤ lot → Kp w w2 → Calls Tryz.prog 87 #[.int .i64 bad, .pointer (some ⟨g1, 0, none⟩), .pointer (some ⟨g2, 0, none⟩)] w2 fun e w' => e = .returned (.tuple #[.string (r bad), .int .i64 0]) ∧ Below w2.heap.size w2 w') :
    SeqStopsK Fence.wide n Tryz.prog 116 #[.pointer (some ⟨gl, 0, none⟩), .pointer (some ⟨gf, 0, none⟩)] (rat2 lot r) Kp (fun xs => xs = lotL lot (lot + 1)) (fun pre => pre <+: lotL lot (lot + 1)) (lot + 1) w := fun l J Jx W hW hJ hJx hY h0 => by
  have HY := Lib.hid hY
  have HJ := Lib.hid hJ
  have HO := Lib.hid hop
  have HC1 := Lib.hid hc1
  have HC2 := Lib.hid hc2
  have HW := Lib.hid (hKb (Nat.le_refl _) hW)
  have HT := Lib.hid (fun (A B C : World) (h : Kp A B) (k : Kp B C) => hKt h k)
  have HKB := Lib.hid (fun (A B : World) (k : Kp w A) (h : Below A.heap.size A B) => hKb (hKs k) h)
  have H0 := Lib.hid h0
  have HGL := Lib.hid hgl
  have HGF := Lib.hid hgf
  have e1 : IntKind.i64.wrap ((lot : Int) + 1) = (lot : Int) + 1 := IntWalk.i64_in _ (by omega)
  have d1 := (hgl W (hKb (Nat.le_refl _) hW)).trans hc1
  clear hY hJ hop hc1 hc2 hW h0 hJx hgl hgf hKt hKb hKs
  refine callsIn_of_wp Tryz.func116 rfl trivial ?_ rfl
  simp only [Tryz.ntmps116, List.size_toArray, List.length_cons, List.length_nil, Nat.reduceAdd, Nat.reduceSub, Array.replicate_succ, Array.replicate_zero, List.push_toArray, List.append_toArray, List.nil_append, List.cons_append]
  gi_wp2
  gi_loopw [9] (fun p wr => ∃ j : Nat, p = .int .i64 j ∧ j ≤ lot + 1 ∧ Kp w wr ∧ J (lotL lot j) wr) (fun p _ => lot + 1 - (intOf p).toNat)
  case atStart => exact ⟨0, rfl, by omega, HW.out, H0.out⟩
  case round =>
    obtain ⟨j, rfl, hj, hbl, hJs⟩ := hrel
    have HBL := Lib.hid hbl
    have HJS := Lib.hid hJs
    clear hJs
    by_cases hz : j = lot + 1
    · subst hz
      gi_wp2
      go_end0
      exact ⟨⟨_, rfl⟩, .inl ⟨_, rfl, HJS.out⟩⟩
    · have hjl : j ≤ lot := by omega
      have hji : (j : Int) < (lot : Int) + 1 := by omega
      have d2 := (HGF.out wr hbl).trans HC2.out
      have e2 : IntKind.i64.wrap ((j : Int) + 1) = (j : Int) + 1 := IntWalk.i64_in _ (by omega)
      clear hbl
      gi_wp2_with fail
      refine ⟨trivial, (callsIn_wide.2 (HO.out j wr hjl HBL.out)).mono ?_⟩
      rintro e w5 ⟨rfl, hb5⟩
      have HJ5 := Lib.hid (HJ.out _ _ _ none HJS.out (gb_below hb5 none) (fun q hq => by cases hq))
      have HB5 := Lib.hid (HT.out _ _ _ HBL.out (HKB.out _ _ HBL.out hb5))
      clear hb5 d2
      obtain ⟨fn, tmps, assign, body, hy, hR⟩ := HY.out (lotL lot j) ⟨j, hjl⟩ w5 HJ5.out (by rw [lotL_len lot j hj]; omega)
      dsimp only [rat2] at hy
      have HR := Lib.hid hR
      clear hR
      gi_wp2_with fail
      refine HR.out.mono ?_
      rintro e W3 (⟨rfl, hJ3, hk3⟩ | ⟨rfl, hJx3⟩)
      · have HJ3 := Lib.hid hJ3
        have HK3 := Lib.hid (HT.out _ _ _ HB5.out hk3)
        clear hJ3 hk3
        gi_wp2
        go_roundw
        case rel => exact ⟨j + 1, by simp, by omega, HK3.out, by rw [lotL_succ hjl]; exact HJ3.out⟩
        case measure => simp [intOf]; omega
      · have HJX := Lib.hid hJx3
        clear hJx3
        gi_wp2
        refine bodyPost_ret (results_none rfl _ _ _) rfl ?_
        exact ⟨⟨_, rfl⟩, .inr ⟨lotL lot j ++ [⟨j, hjl⟩], by rw [← lotL_succ hjl]; exact lotL_pre lot (by omega), HJX.out⟩⟩

set_option maxRecDepth 100000 in
set_option maxHeartbeats 4000000 in
theorem lots_stops_Curve (Kp : World → World → Prop) (gl gf g1 g2 lot : Nat) (r : Nat → ByteArray) (n : Nat) (w : World) (hn : 1 ≤ n) (hl : lot ≤ 4096)
    (hKt : ∀ {A B C : World}, Kp A B → Kp B C → Kp A C) (hKs : ∀ {B : World}, Kp w B → w.heap.size ≤ B.heap.size) (hKb : ∀ {A B : World}, w.heap.size ≤ A.heap.size → Below A.heap.size A B → Kp A B)
    (hgl : ∀ w2, Kp w w2 → w2.cell? ⟨gl, 0, none⟩ = w.cell? ⟨gl, 0, none⟩) (hgf : ∀ w2, Kp w w2 → w2.cell? ⟨gf, 0, none⟩ = w.cell? ⟨gf, 0, none⟩) (hc1 : w.cell? ⟨gl, 0, none⟩ = some (.int .i64 lot)) (hc2 : w.cell? ⟨gf, 0, none⟩ = some (.func (.func 72) #[] #[.pointer (some ⟨g1, 0, none⟩), .pointer (some ⟨g2, 0, none⟩)]))
    (hop : ∀ (bad : Nat) (w2 : World), bad ≤ lot → Kp w w2 → Calls Tryz.prog 72 #[.int .i64 bad, .pointer (some ⟨g1, 0, none⟩), .pointer (some ⟨g2, 0, none⟩)] w2 fun e w' => e = .returned (.tuple #[.string (r bad), .int .i64 0]) ∧ Below w2.heap.size w2 w') :
    SeqStopsK Fence.wide n Tryz.prog 116 #[.pointer (some ⟨gl, 0, none⟩), .pointer (some ⟨gf, 0, none⟩)] (rat2 lot r) Kp (fun xs => xs = lotL lot (lot + 1)) (fun pre => pre <+: lotL lot (lot + 1)) (lot + 1) w := fun l J Jx W hW hJ hJx hY h0 => by
  have HY := Lib.hid hY
  have HJ := Lib.hid hJ
  have HO := Lib.hid hop
  have HC1 := Lib.hid hc1
  have HC2 := Lib.hid hc2
  have HW := Lib.hid (hKb (Nat.le_refl _) hW)
  have HT := Lib.hid (fun (A B C : World) (h : Kp A B) (k : Kp B C) => hKt h k)
  have HKB := Lib.hid (fun (A B : World) (k : Kp w A) (h : Below A.heap.size A B) => hKb (hKs k) h)
  have H0 := Lib.hid h0
  have HGL := Lib.hid hgl
  have HGF := Lib.hid hgf
  have e1 : IntKind.i64.wrap ((lot : Int) + 1) = (lot : Int) + 1 := IntWalk.i64_in _ (by omega)
  have d1 := (hgl W (hKb (Nat.le_refl _) hW)).trans hc1
  clear hY hJ hop hc1 hc2 hW h0 hJx hgl hgf hKt hKb hKs
  refine callsIn_of_wp Tryz.func116 rfl trivial ?_ rfl
  simp only [Tryz.ntmps116, List.size_toArray, List.length_cons, List.length_nil, Nat.reduceAdd, Nat.reduceSub, Array.replicate_succ, Array.replicate_zero, List.push_toArray, List.append_toArray, List.nil_append, List.cons_append]
  gi_wp2
  gi_loopw [9] (fun p wr => ∃ j : Nat, p = .int .i64 j ∧ j ≤ lot + 1 ∧ Kp w wr ∧ J (lotL lot j) wr) (fun p _ => lot + 1 - (intOf p).toNat)
  case atStart => exact ⟨0, rfl, by omega, HW.out, H0.out⟩
  case round =>
    obtain ⟨j, rfl, hj, hbl, hJs⟩ := hrel
    have HBL := Lib.hid hbl
    have HJS := Lib.hid hJs
    clear hJs
    by_cases hz : j = lot + 1
    · subst hz
      gi_wp2
      go_end0
      exact ⟨⟨_, rfl⟩, .inl ⟨_, rfl, HJS.out⟩⟩
    · have hjl : j ≤ lot := by omega
      have hji : (j : Int) < (lot : Int) + 1 := by omega
      have d2 := (HGF.out wr hbl).trans HC2.out
      have e2 : IntKind.i64.wrap ((j : Int) + 1) = (j : Int) + 1 := IntWalk.i64_in _ (by omega)
      clear hbl
      gi_wp2_with fail
      refine ⟨trivial, (callsIn_wide.2 (HO.out j wr hjl HBL.out)).mono ?_⟩
      rintro e w5 ⟨rfl, hb5⟩
      have HJ5 := Lib.hid (HJ.out _ _ _ none HJS.out (gb_below hb5 none) (fun q hq => by cases hq))
      have HB5 := Lib.hid (HT.out _ _ _ HBL.out (HKB.out _ _ HBL.out hb5))
      clear hb5 d2
      obtain ⟨fn, tmps, assign, body, hy, hR⟩ := HY.out (lotL lot j) ⟨j, hjl⟩ w5 HJ5.out (by rw [lotL_len lot j hj]; omega)
      dsimp only [rat2] at hy
      have HR := Lib.hid hR
      clear hR
      gi_wp2_with fail
      refine HR.out.mono ?_
      rintro e W3 (⟨rfl, hJ3, hk3⟩ | ⟨rfl, hJx3⟩)
      · have HJ3 := Lib.hid hJ3
        have HK3 := Lib.hid (HT.out _ _ _ HB5.out hk3)
        clear hJ3 hk3
        gi_wp2
        go_roundw
        case rel => exact ⟨j + 1, by simp, by omega, HK3.out, by rw [lotL_succ hjl]; exact HJ3.out⟩
        case measure => simp [intOf]; omega
      · have HJX := Lib.hid hJx3
        clear hJx3
        gi_wp2
        refine bodyPost_ret (results_none rfl _ _ _) rfl ?_
        exact ⟨⟨_, rfl⟩, .inr ⟨lotL lot j ++ [⟨j, hjl⟩], by rw [← lotL_succ hjl]; exact lotL_pre lot (by omega), HJX.out⟩⟩
end Go.Proofs.YtfebiipggcgmdaaGreatDoor
