import Derived.Test.YtfebiipggcgmdaaGreatDoorQ2
import Derived.Test.YtfebiipggcgmdaaGreatDoorS6
import Derived.Laws.OwnMore
namespace Go.Proofs.YtfebiipggcgmdaaGreatDoor
open Go.RowKit

/-! ## Powers and Pascal's triangle of the reference -/
theorem dl_small_pow {n k : Nat} (hn : n ≤ 9) (hk : k ≤ 50) : dl ((n ^ k : Nat) : Int) ≤ 51 := by
  have h := dl_pow n k
  have h1 : dl (n : Int) ≤ 1 := (dl_le_iff (by omega)).2 (by rw [Int.natAbs_natCast]; omega)
  have h2 : k * dl (n : Int) ≤ 50 * 1 := Nat.mul_le_mul hk h1
  omega

set_option maxRecDepth 100000 in
set_option maxHeartbeats 800000 in
theorem power26 (n k : Nat) (w : World) (hn : n ≤ 9) (hk : k ≤ 50) :
    Calls Tryz.prog 78 #[.int .i64 n, .int .i64 k] w fun e w' => e = .returned (.string (it ((n ^ k : Nat) : Int))) ∧ Below w.heap.size w w' := by
  have HO := Lib.hid (fun w => rof_nat n w (by omega))
  have HT := Lib.hid (fun (i : Nat) (hi : i < k) (w : World) => rtimes_any ((n ^ i : Nat) : Int) (n : Int) w (by have := dl_small_pow hn (show i ≤ 50 by omega); omega) (dl_small (by rw [Int.natAbs_natCast]; omega)))
  have HS := Lib.hid (fun (i : Nat) => show ((n ^ i : Nat) : Int) * (n : Int) = ((n ^ (i + 1) : Nat) : Int) by rw [Nat.pow_succ, Int.natCast_mul])
  have H1 := Lib.hid (show it ((n ^ 0 : Nat) : Int) = ⟨#[49]⟩ by rw [Nat.pow_zero]; exact it_one)
  have HK := Lib.hid hk
  obtain ⟨f, hf⟩ : ∃ f : Nat → Nat, (fun i => n ^ i) = f := ⟨_, rfl⟩
  have hfi : ∀ i, n ^ i = f i := fun i => by rw [← hf]
  rw [hfi k]
  have HT2 := Lib.hid (fun (i : Nat) (hi : i < k) (w : World) => show Calls Tryz.prog 76 #[.string (it ((f i : Nat) : Int)), .string (it (n : Int))] w fun e w' => e = .returned (.string (it ((f (i + 1) : Nat) : Int))) ∧ Below w.heap.size w w' by
    rw [← hfi, ← hfi, ← HS.out]; exact HT.out i hi w)
  rw [hfi] at H1
  clear hk hn hf hfi HT HS
  go_enter Tryz.func78, Tryz.ntmps78
  go_wp2
  go_loopg [5, 6] k (fun m ov iv wr => ∃ i : Nat, ov = .string (it ((f i : Nat) : Int)) ∧ iv = .int .i64 i ∧ i + m = k ∧ Below w.heap.size w wr)
  case atStart => exact ⟨0, by rw [H1.out], rfl, by omega, Below.refl _ _⟩
  case round =>
    obtain ⟨i, rfl, rfl, him, hbl⟩ := hrel
    have HBL := Lib.hid hbl
    have hk50 := HK.out
    by_cases hz : gk = 0
    · obtain rfl : i = k := by omega
      have hnl : ¬ ((i : Nat) : Int) < (i : Nat) := by omega
      clear hbl
      go_wp2
      go_ret
      exact ⟨rfl, HBL.out⟩
    · have hi : i < k := by omega
      have hii : (i : Int) < k := by omega
      have HTI := Lib.hid (HT2.out i hi)
      have e1 : IntKind.i64.wrap ((i : Int) + 1) = (i : Int) + 1 := IntWalk.i64_in _ (by omega)
      have HI := Lib.hid (show i + gk = k ∧ 0 < gk by omega)
      clear hbl him hz
      go_wp2_with fail
      refine (HO.out _).mono ?_
      rintro e w1 ⟨rfl, hb1⟩
      have HB1 := Lib.hid (HBL.out.trans (hb1.mono HBL.out.size))
      clear hb1
      go_wp2_with fail
      refine (HTI.out _).mono ?_
      rintro e w2 ⟨rfl, hb2⟩
      have HB2 := Lib.hid (HB1.out.trans (hb2.mono HB1.out.size))
      clear hb2
      go_wp2
      go_roundg (gk - 1)
      case rel => exact ⟨i + 1, rfl, by simp, by have := HI.out; omega, HB2.out⟩
      case measure => have := HI.out; omega

theorem step_append_own {P : Program} {ops : Array Oper} {o : Oper} {a : Act} {w : World} {K : Act → World → Prop} {Q : Exit → Act → World → Prop} {E : Prop} (hg : o.guard = none) (s x : Operand) (t : TypeId)
    (ho : o.op = .call { callee := .builtin .append, args := #[s, x], argTypes := #[t, t] })
    (base : Nat) (e : TypeId) (i : TypeInfo) (z : Value) (size bytes : Nat) (ht : P.underlying t = some (.slice e)) (hi : P.info? e = some i) (hz : i.zero = some z)
    (hsize : i.size = size) (hby : i.bytes = bytes) (hzs : z.cells.size = size) (hsz : 0 < size)
    (v : Value) (n : Nat) (xs : List Value) (hs : a.eval s = v) (hown : w.ownsRow base e size v n xs)
    (ad : Addr) (m c : Nat) (news : List Value) (hx : a.eval x = .slice (some ad) m c) (hl : news.length = m * size) (hnews : ∀ j u, news[j]? = some u → w.cell? (ad.add j) = some u) (h1 : ∀ u ∈ news, u.oneCell' = true)
    (h63 : n + m ≤ maxLen) (hbytes : (n + m) * bytes ≤ 140737488355328) (hbase : base ≤ w.heap.size)
    (h : ∀ v' w', w'.ownsRow base e size v' (n + m) (xs ++ news) → w.grownBy w' v.ownBlock → K (a.put o.dst v') w') :
    if Region.wanted o (yielded ops a.tmps) = true then Oper.wp P o a w K Q else E := by
  have hw : Region.wanted o (yielded ops a.tmps) = true := by simp [Region.wanted, hg]
  rw [if_pos hw]
  exact wp_append_own w s x t ho base e i z size bytes ht hi hz hsize hby hzs hsz v n xs hs hown ad m c news hx hl hnews h1 h63 hbytes hbase (fun v' w' h2 h3 _ => h v' w' h2 h3)

theorem below_app2 {n0 : Nat} {w W w1 : World} {tmp : Obj} {e : TypeId} {size k : Nat} {v : Value} {xs : List Value} (hB : Below n0 w W) (hn : n0 ≤ W.heap.size) (hrow : W.ownsRow n0 e size v k xs) (hg : (W.alloc tmp).grownBy w1 v.ownBlock) : Below n0 w w1 :=
  hB.trans (((Below.refl n0 W).alloc hn tmp).grown hg (by simp; omega) fun j ej => (hrow.lt j ej).1)
theorem cell_alloc_of {w : World} {a : Addr} {v : Value} (h : w.cell? a = some v) (o : Obj) : (w.alloc o).cell? a = some v := by
  rw [World.cell?_alloc_some _ _ _ (by rw [h]; rfl)]; exact h
/-- a row of the triangle -/
def tr (i : Nat) (j : Nat) : List Value := (List.range j).map fun k => Value.string (it ((ch i k : Nat) : Int))
theorem tr_snoc (i j : Nat) : tr i (j + 1) = tr i j ++ [.string (it ((ch i j : Nat) : Int))] := by unfold tr; rw [List.range_succ, List.map_append]; rfl
theorem tr_len (i j : Nat) : (tr i j).length = j := by simp [tr]
theorem tr_at {i j k : Nat} (h : k < j) : (tr i j)[k]? = some (.string (it ((ch i k : Nat) : Int))) := by unfold tr; rw [List.getElem?_map, List.getElem?_range h]; rfl
theorem tr_one (i : Nat) : tr i 1 = [.string ⟨#[49]⟩] := by
  have : it ((ch i 0 : Nat) : Int) = ⟨#[49]⟩ := by rw [ch_zero]; exact it_one
  show [Value.string (it ((ch i 0 : Nat) : Int))] = _
  rw [this]
theorem int_infoT : (Tryz.prog.info? 63).map (fun i => (i.zero, i.size, i.bytes)) = some (some (.string ⟨#[]⟩), 1, 16) := by kernel_rfl
theorem isR_of_own {w : World} {B : Nat} {g cap i n : Nat} (h : w.ownsRow B 63 1 (.slice (some ⟨g, 0, none⟩) n cap) n (tr i n)) : IsR w g n (fun j => it ((ch i j : Nat) : Int)) :=
  ⟨fun j hj => by rw [h.cellAt j (by omega)]; exact tr_at hj, (h.lt g rfl).2⟩
theorem ch_12 (i k : Nat) (hi : i ≤ 12) : ch i k ≤ 4096 := Nat.le_trans (ch_two i k) (Nat.le_trans (Nat.pow_le_pow_right (by omega) hi) (by decide))

set_option maxRecDepth 100000 in
set_option maxHeartbeats 3200000 in
theorem chosen01 (n k : Nat) (w : World) (hn : n ≤ 12) (hk : k ≤ n) :
    Calls Tryz.prog 77 #[.int .i64 n, .int .i64 k] w fun e w' => e = .returned (.string (it ((ch n k : Nat) : Int))) ∧ Below w.heap.size w w' := by
  obtain ⟨i0, hi, hz0, hz1, hz2⟩ := info_parts int_infoT
  have f1 : ¬ (k : Int) < 0 := by omega
  have f2 : ¬ (n : Int) < k := by omega
  have HKN := Lib.hid hk
  have HNN := Lib.hid hn
  have HB0 := Lib.hid ((Below.refl w.heap.size w).alloc (Nat.le_refl _) (.cells #[.string ⟨#[49]⟩] 63))
  have HR0 := Lib.hid (show IsR (w.alloc (.cells #[.string ⟨#[49]⟩] 63)) w.heap.size 1 (fun j => it ((ch 0 j : Nat) : Int)) from ⟨fun j hj => by
    obtain rfl : j = 0 := by omega
    rw [one_cell]
    have h := tr_one 0
    unfold tr at h
    simp at h
    rw [h], by simp⟩)
  have HPL := Lib.hid (fun (i j : Nat) (hi : i ≤ 12) (w : World) => show Calls Tryz.prog 84 #[.string (it ((ch i j : Nat) : Int)), .string (it ((ch i (j + 1) : Nat) : Int))] w fun e w' => e = .returned (.string (it ((ch (i + 1) (j + 1) : Nat) : Int))) ∧ Below w.heap.size w w' by
    have h := rplus_any ((ch i j : Nat) : Int) ((ch i (j + 1) : Nat) : Int) w (by have := ch_12 i j hi; exact Nat.le_trans ((dl_le_iff (k := 4) (by omega)).2 (by rw [Int.natAbs_natCast]; omega)) (by omega)) (by have := ch_12 i (j + 1) hi; exact Nat.le_trans ((dl_le_iff (k := 4) (by omega)).2 (by rw [Int.natAbs_natCast]; omega)) (by omega))
    rw [← Int.natCast_add, ← ch_ss] at h
    exact h)
  clear hk hn
  go_enter Tryz.func77, Tryz.ntmps77
  go_wp2
  clear f1 f2
  go_loopg [5, 6] n (fun m rv iv wr => ∃ i g cap : Nat, rv = .slice (some ⟨g, 0, none⟩) (i + 1) cap ∧ iv = .int .i64 ((i + 1 : Nat) : Int) ∧ i + m = n ∧ IsR wr g (i + 1) (fun j => it ((ch i j : Nat) : Int)) ∧ Below w.heap.size w wr)
  case atStart => exact ⟨0, w.heap.size, 1, rfl, rfl, by omega, HR0.out, HB0.out⟩
  case round =>
    obtain ⟨i, g, cap, rfl, rfl, him, hir, hbl⟩ := hrel
    have HBL := Lib.hid hbl
    have HIR := Lib.hid hir
    by_cases hz : gk = 0
    · obtain rfl : i = n := by omega
      have hnl : ¬ (((i + 1 : Nat) : Int)) ≤ (i : Nat) := by omega
      have hnl2 : ¬ ((i : Int) + 1 ≤ i) := by omega
      have hc := hir.cell k (by have := HKN.out; omega)
      have hki : (k : Int) < (i : Int) + 1 := by have := HKN.out; omega
      clear hbl hir
      go_wp2
      go_ret
      exact ⟨rfl, HBL.out⟩
    · have hi12 : i < n := by omega
      have hle : (((i + 1 : Nat) : Int)) ≤ n := by omega
      have hle2 : (i : Int) + 1 ≤ n := by omega
      obtain ⟨ok, hok⟩ : ∃ ok, ok = gk := ⟨_, rfl⟩
      have HIM := Lib.hid (show i + ok = n ∧ 0 < ok by omega)
      have HGK := Lib.hid hok
      obtain ⟨wo, hwo⟩ : ∃ wo : World, wo = wr := ⟨_, rfl⟩
      subst hwo
      have HBN := Lib.hid (hbl.alloc hbl.size (.cells #[.string ⟨#[49]⟩] 63))
      have HON := Lib.hid (show (wo.alloc (.cells #[.string ⟨#[49]⟩] 63)).ownsRow wo.heap.size 63 1 (.slice (some ⟨wo.heap.size, 0, none⟩) 1 1) 1 (tr (i + 1) 1) by
        rw [tr_one]
        exact World.ownsRow_lit wo #[.string ⟨#[49]⟩] 1 (Nat.le_refl _) (by unfold maxLen; omega) rfl)
      have HBO := Lib.hid (show Below wo.heap.size wo (wo.alloc (.cells #[.string ⟨#[49]⟩] 63)) from (Below.refl _ _).alloc (Nat.le_refl _) _)
      clear hbl hir him hz hok
      go_wp2
      go_loopg [7, 8] i (fun m nv jv wz => ∃ j : Nat, jv = .int .i64 ((j + 1 : Nat) : Int) ∧ j + m = i ∧ wz.ownsRow wo.heap.size 63 1 nv (j + 1) (tr (i + 1) (j + 1)) ∧ Below wo.heap.size wo wz)
      case atStart => exact ⟨0, rfl, by omega, HON.out, HBO.out⟩
      case round =>
        obtain ⟨j, rfl, hjm, hown, hbz⟩ := hrel
        have HOWN := Lib.hid hown
        have HBZ := Lib.hid hbz
        have HBW := Lib.hid (HBL.out.trans (hbz.mono HBL.out.size))
        by_cases hz : gk = 0
        · obtain rfl : j = i := by omega
          have hnl : ¬ (((j + 1 : Nat) : Int)) < ((j + 1 : Nat) : Int) := by omega
          have e2 : IntKind.i64.wrap (((j + 1 : Nat) : Int) + 1) = ((j + 1 + 1 : Nat) : Int) := by rw [IntWalk.i64_in _ (by have := HNN.out; omega)]; omega
          have e3 : IntKind.i64.wrap ((j : Int) + 1 + 1) = ((j + 1 + 1 : Nat) : Int) := by rw [IntWalk.i64_in _ (by have := HNN.out; omega)]; omega
          have HLAST := Lib.hid (show tr (j + 1) (j + 1) ++ [.string ⟨#[49]⟩] = tr (j + 1) (j + 1 + 1) by rw [tr_snoc (j + 1) (j + 1), ch_self]; rw [show it ((1 : Nat) : Int) = ⟨#[49]⟩ from it_one])
          have hj12 : j ≤ 12 := by have := HNN.out; omega
          clear hbz hown hjm
          have hrow := HOWN.out
          go_wp2_with (
            (at_builtin
             refine wpList_append_own _ rfl _ _ 116 rfl wo.heap.size 63 i0 (.string ⟨#[]⟩) 1 16 Tryz.underlying116 hi hz0 hz1 hz2 rfl (by decide) _ (j + 1) (tr (j + 1) (j + 1)) rfl (hrow.alloc _) ⟨wr.heap.size, 0, none⟩ 1 1 [.string ⟨#[49]⟩] rfl rfl (one_new _ _ (by first | rfl | simp) _ _) (one_cells _ rfl) (by unfold maxLen; omega) (by omega) (Nat.le_trans HBZ.out.size (by simp)) ?_
             intro v3 w3 hown3 hgrow3 _
             have HB3 := Lib.hid (below_app2 HBZ.out HBZ.out.size HOWN.out hgrow3)
             rw [HLAST.out] at hown3
             have HOW := Lib.hid hown3
             clear hown3 hgrow3 hrow))
          obtain ⟨g3, cap3, rfl⟩ := ownsRow_succ HOW.out
          go_wp2
          go_roundg (ok - 1)
          case rel => exact ⟨j + 1, g3, cap3, rfl, rfl, by have := HIM.out; omega, isR_of_own HOW.out, HBL.out.trans (HB3.out.mono HBL.out.size)⟩
          case measure => have := HIM.out; have := HGK.out; omega
        · have hji : j < i := by omega
          have hjn : (((j + 1 : Nat) : Int)) < ((i + 1 : Nat) : Int) := by omega
          have e2 : IntKind.i64.wrap (((j + 1 : Nat) : Int) - 1) = (j : Int) := by rw [IntWalk.i64_in _ (by have := HNN.out; omega)]; omega
          have e3 : IntKind.i64.wrap (((j + 1 : Nat) : Int) + 1) = ((j + 1 + 1 : Nat) : Int) := by rw [IntWalk.i64_in _ (by have := HNN.out; omega)]; omega
          have hj1 : (j : Int) < (i : Int) + 1 := by omega
          have hj2 : (((j + 1 : Nat) : Int)) < (i : Int) + 1 := by omega
          have hj3 : (j : Int) + 1 < (i : Int) + 1 := by omega
          have hj4 : (j : Int) < ((i + 1 : Nat) : Int) := by omega
          have hj5 : (0 : Int) ≤ (j : Int) := by omega
          have hj6 : (0 : Int) ≤ (j : Int) + 1 := by omega
          have hj7 : ((j : Int) + 1).toNat = j + 1 := by omega
          have hj8 : IntKind.i64.wrap (j : Int) = (j : Int) := IntWalk.i64_in _ (by have := HNN.out; omega)
          have hj9 : IntKind.i64.wrap ((j : Int) + 1) = (j : Int) + 1 := IntWalk.i64_in _ (by have := HNN.out; omega)
          have hj10 : (j : Int) < (i : Int) := by omega
          have hir := HIR.out.below hbz
          have c0 := hir.cell j (by omega)
          have c1 := hir.cell (j + 1) (by omega)
          have hgw := HIR.out.lt
          have HPJ := Lib.hid (HPL.out i j (by have := HNN.out; omega))
          have HJM := Lib.hid (show j + gk = i ∧ 0 < gk by omega)
          have hj12 : j ≤ 12 := by have := HNN.out; omega
          have HSN := Lib.hid (tr_snoc (i + 1) (j + 1))
          clear hbz hown hjm hz hir
          have hrow := HOWN.out
          have HBD := Lib.hid (show Below wo.heap.size wo wr.drew from HBZ.out.drew)
          go_wp2
          go_region_held3 (fun w' => w'.cell? ⟨g, j, none⟩ = some (.string (it ((ch i j : Nat) : Int))) ∧ w'.cell? ⟨g, j + 1, none⟩ = some (.string (it ((ch i (j + 1) : Nat) : Int)))) (first | exact ⟨c0, c1⟩ | exact ⟨a0, a1⟩ | exact ⟨b0 _, b1 _⟩ | exact ⟨d0, d1⟩ | fail) (first
            | (go_at_call 84; refine (HPJ.out _).mono ?_; rintro e wa ⟨rfl, hba⟩; have HBA := Lib.hid (HBD.out.trans (hba.mono HBD.out.size)); have hra := ownsRow_below HOWN.out.drew hba; have HRA := Lib.hid hra; have hga := Nat.lt_of_lt_of_le hgw HBD.out.size; have a0 := (hba.cell (p := ⟨g, j, none⟩) (Nat.lt_of_lt_of_le hgw HBZ.out.size)).trans c0; have a1 := (hba.cell (p := ⟨g, j + 1, none⟩) (Nat.lt_of_lt_of_le hgw HBZ.out.size)).trans c1; have b0 : ∀ o : Obj, (wa.alloc o).cell? ⟨g, j, none⟩ = some (.string (it ((ch i j : Nat) : Int))) := fun o => cell_alloc_of a0 o; have b1 : ∀ o : Obj, (wa.alloc o).cell? ⟨g, j + 1, none⟩ = some (.string (it ((ch i (j + 1) : Nat) : Int))) := fun o => cell_alloc_of a1 o; clear hba)
            | (refine step_append_own rfl _ _ 116 rfl wo.heap.size 63 i0 (.string ⟨#[]⟩) 1 16 Tryz.underlying116 hi hz0 hz1 hz2 rfl (by decide) _ (j + 1) (tr (i + 1) (j + 1)) rfl (hra.alloc _) ⟨wa.heap.size, 0, none⟩ 1 1 [.string (it ((ch (i + 1) (j + 1) : Nat) : Int))] rfl rfl (one_new _ _ (by first | rfl | simp) _ _) (one_cells _ rfl) (by unfold maxLen; omega) (by omega) (Nat.le_trans HBA.out.size (by simp)) ?_; intro v3 w3 hown3 hgrow3; have HB3 := Lib.hid (below_app2 HBA.out HBA.out.size HRA.out hgrow3); rw [← HSN.out] at hown3; have HOW := Lib.hid hown3; have d0 := (HB3.out.cell (p := ⟨g, j, none⟩) hgw).trans (HIR.out.cell j (by omega)); have d1 := (HB3.out.cell (p := ⟨g, j + 1, none⟩) hgw).trans (HIR.out.cell (j + 1) (by omega)); clear hown3 hgrow3)
            | fail)
          go_wp2
          go_roundg (gk - 1)
          case rel => exact ⟨j + 1, rfl, by have := HJM.out; omega, HOW.out, HB3.out⟩
          case measure => have := HJM.out; omega
end Go.Proofs.YtfebiipggcgmdaaGreatDoor

namespace Go.Proofs.YtfebiipggcgmdaaGreatDoor
open Go.RowKit

/-! ## The weights of a binomial distribution -/
def wt (n a g k : Nat) : Nat := ch n k * (a ^ k * g ^ (n - k))
def kept (n a g : Nat) : Nat → List Nat
  | 0 => []
  | m + 1 => kept n a g m ++ (if wt n a g m = 0 then [] else [m])
/-- the entries as cells -/
def wc (n a g : Nat) : List Nat → List Value
  | [] => []
  | k :: l => .int .i64 (k : Int) :: .string (it ((wt n a g k : Nat) : Int)) :: wc n a g l
theorem wc_snoc (n a g : Nat) : ∀ (l : List Nat) (k : Nat), wc n a g (l ++ [k]) = wc n a g l ++ [.int .i64 (k : Int), .string (it ((wt n a g k : Nat) : Int))]
  | [], _ => rfl
  | x :: l, k => by simp only [List.cons_append, wc]; rw [wc_snoc n a g l k]
theorem wc_len (n a g : Nat) : ∀ l : List Nat, (wc n a g l).length = l.length * 2
  | [] => rfl
  | x :: l => by simp only [wc, List.length_cons]; rw [wc_len n a g l]; omega
theorem wc_at (n a g : Nat) : ∀ (l : List Nat) (i k : Nat), l[i]? = some k → (wc n a g l)[2 * i]? = some (.int .i64 (k : Int)) ∧ (wc n a g l)[2 * i + 1]? = some (.string (it ((wt n a g k : Nat) : Int)))
  | [], i, k, h => by simp at h
  | x :: l, 0, k, h => by simp at h; subst h; exact ⟨rfl, rfl⟩
  | x :: l, i + 1, k, h => by
    have h2 : l[i]? = some k := by simpa using h
    have ih := wc_at n a g l i k h2
    rw [show 2 * (i + 1) = 2 * i + 1 + 1 by omega]
    simpa [wc] using ih
theorem kept_lt (n a g : Nat) : ∀ (m : Nat), ∀ k ∈ kept n a g m, k < m
  | 0, k, h => by simp [kept] at h
  | m + 1, k, h => by
    rw [kept] at h
    rcases List.mem_append.1 h with h | h
    · exact Nat.lt_succ_of_lt (kept_lt n a g m k h)
    · split at h
      · simp at h
      · simp at h; omega
theorem kept_len (n a g : Nat) : ∀ m : Nat, (kept n a g m).length ≤ m
  | 0 => by simp [kept]
  | m + 1 => by
    have := kept_len n a g m
    rw [kept, List.length_append]
    split <;> simp <;> omega
def lsum (f : Nat → Nat) : List Nat → Nat
  | [] => 0
  | k :: l => f k + lsum f l
theorem lsum_append (f : Nat → Nat) : ∀ l m : List Nat, lsum f (l ++ m) = lsum f l + lsum f m
  | [], m => by simp [lsum]
  | x :: l, m => by simp only [List.cons_append, lsum]; rw [lsum_append f l m]; omega
theorem lsum_kept (n a g : Nat) (h : Nat → Nat) : ∀ m : Nat, lsum (fun k => wt n a g k * h k) (kept n a g m) = su (fun k => wt n a g k * h k) m
  | 0 => rfl
  | m + 1 => by
    rw [kept, lsum_append, lsum_kept n a g h m]
    show _ = su (fun k => wt n a g k * h k) m + wt n a g m * h m
    split
    · rename_i h0
      rw [h0]; simp [lsum]
    · simp [lsum]
theorem lsum_take {f : Nat → Nat} {l : List Nat} {i k : Nat} (h : l[i]? = some k) : lsum f (l.take (i + 1)) = lsum f (l.take i) + f k := by
  rw [List.take_add_one, h, lsum_append]
  rfl
theorem lsum_le (f : Nat → Nat) : ∀ (l : List Nat) (i : Nat), lsum f (l.take i) ≤ lsum f l
  | [], i => by simp [lsum]
  | x :: l, 0 => by simp [lsum]
  | x :: l, i + 1 => by
    simp only [List.take_succ_cons, lsum]
    have := lsum_le f l i
    omega
theorem wt_sum (n a g : Nat) : lsum (fun k => wt n a g k) (kept n a g (n + 1)) = (a + g) ^ n := by
  have h := lsum_kept n a g (fun _ => 1) (n + 1)
  simp only [Nat.mul_one] at h
  rw [h, ← binom]
  rfl
theorem wt_le {n a g k : Nat} (h : a + g ≤ 9) (hn : n ≤ 12) (hk : k ≤ n) : dl ((wt n a g k : Nat) : Int) ≤ 200 := by
  unfold wt
  have h1 := dl_nat_mul (ch n k) (a ^ k * g ^ (n - k))
  have h2 := dl_nat_mul (a ^ k) (g ^ (n - k))
  have h3 := dl_small_pow (show a ≤ 9 by omega) (show k ≤ 50 by omega)
  have h4 := dl_small_pow (show g ≤ 9 by omega) (show n - k ≤ 50 by omega)
  have h5 : dl ((ch n k : Nat) : Int) ≤ 4 := (dl_le_iff (by omega)).2 (by rw [Int.natAbs_natCast]; have := ch_12 n k hn; omega)
  omega

/-- a slice of weighted values -/
structure IsT (w : World) (g : Nat) (n a b : Nat) (l : List Nat) : Prop where
  c0 : ∀ (i k : Nat), l[i]? = some k → w.cell? ⟨g, 2 * i, none⟩ = some (.int .i64 (k : Int))
  c1 : ∀ (i k : Nat), l[i]? = some k → w.cell? ⟨g, 2 * i + 1, none⟩ = some (.string (it ((wt n a b k : Nat) : Int)))
  lt : g < w.heap.size
theorem IsT.below {w w' : World} {g n a b : Nat} {l : List Nat} (h : IsT w g n a b l) (hb : Below w.heap.size w w') : IsT w' g n a b l :=
  ⟨fun i k hk => (hb.cell (p := ⟨g, 2 * i, none⟩) h.lt).trans (h.c0 i k hk), fun i k hk => (hb.cell (p := ⟨g, 2 * i + 1, none⟩) h.lt).trans (h.c1 i k hk), Nat.lt_of_lt_of_le h.lt hb.size⟩
theorem isT_of_own {w : World} {B g cap n a b : Nat} {l : List Nat} (h : w.ownsRow B 65 2 (.slice (some ⟨g, 0, none⟩) l.length cap) l.length (wc n a b l)) : IsT w g n a b l :=
  ⟨fun i k hk => by
    have hi := (List.getElem?_eq_some_iff.1 hk).1
    rw [h.cellAt (2 * i) (by omega)]; exact (wc_at n a b l i k hk).1,
   fun i k hk => by
    have hi := (List.getElem?_eq_some_iff.1 hk).1
    rw [h.cellAt (2 * i + 1) (by omega)]; exact (wc_at n a b l i k hk).2, (h.lt g rfl).2⟩
theorem wtd_info : (Tryz.prog.info? 65).map (fun i => (i.zero, i.size, i.bytes)) = some (some (.agg #[.int .i64 0, .string ⟨#[]⟩]), 2, 24) := by kernel_rfl
theorem two_new (w : World) (n : Nat) (hn : w.heap.size = n) (x y : Value) (t : TypeId) : ∀ (j : Nat) (u : Value), [x, y][j]? = some u → (w.alloc (.cells #[x, y] t)).cell? ((⟨n, 0, none⟩ : Addr).add j) = some u := by
  intro j u h
  obtain ⟨c0, c1⟩ := two_cells_at w n hn x y t
  rcases j with _ | _ | j
  · cases h; exact c0
  · cases h; exact c1
  · simp at h
theorem two_one (x y : Value) (h : x.oneCell' = true) (h2 : y.oneCell' = true) : ∀ u ∈ [x, y], u.oneCell' = true := fun u hu => by
  rcases List.mem_cons.1 hu with rfl | hu
  · exact h
  · rw [List.mem_singleton.1 hu]; exact h2

set_option maxRecDepth 100000 in
set_option maxHeartbeats 3200000 in
theorem trials26 (n a g : Nat) (w : World) (hn : n ≤ 12) (h4 : a + g = 4) :
    Calls Tryz.prog 32 #[.int .i64 n, .int .i64 a, .int .i64 4] w fun e w' => ∃ b cap, e = .returned (.slice (some ⟨b, 0, none⟩) (kept n a g (n + 1)).length cap) ∧ IsT w' b n a g (kept n a g (n + 1)) ∧ Below w.heap.size w w' := by
  obtain ⟨i0, hi, hz0, hz1, hz2⟩ := info_parts wtd_info
  have HPOS := Lib.hid (show (kept n a g (n + 1)).length ≠ 0 from fun e => by
    have h := wt_sum n a g
    rw [List.eq_nil_of_length_eq_zero e, h4] at h
    have := Nat.pow_pos (n := n) (show 0 < 4 by omega)
    simp [lsum] at h
    omega)
  have HCH := Lib.hid (fun (k : Nat) (hk : k ≤ n) (w : World) => chosen01 n k w hn hk)
  have HPA := Lib.hid (fun (k : Nat) (hk : k ≤ n) (w : World) => power26 a k w (by omega) (by omega))
  have HPG := Lib.hid (fun (k : Nat) (hk : k ≤ n) (w : World) => power26 g (n - k) w (by omega) (by omega))
  have HT1 := Lib.hid (fun (k : Nat) (hk : k ≤ n) (w : World) => show Calls Tryz.prog 76 #[.string (it ((a ^ k : Nat) : Int)), .string (it ((g ^ (n - k) : Nat) : Int))] w fun e w' => e = .returned (.string (it ((a ^ k * g ^ (n - k) : Nat) : Int))) ∧ Below w.heap.size w w' by
    have h := rtimes_any ((a ^ k : Nat) : Int) ((g ^ (n - k) : Nat) : Int) w (by have := dl_small_pow (show a ≤ 9 by omega) (show k ≤ 50 by omega); omega) (by have := dl_small_pow (show g ≤ 9 by omega) (show n - k ≤ 50 by omega); omega)
    rw [← Int.natCast_mul] at h
    exact h)
  have HT2 := Lib.hid (fun (k : Nat) (hk : k ≤ n) (w : World) => show Calls Tryz.prog 76 #[.string (it ((ch n k : Nat) : Int)), .string (it ((a ^ k * g ^ (n - k) : Nat) : Int))] w fun e w' => e = .returned (.string (it ((wt n a g k : Nat) : Int))) ∧ Below w.heap.size w w' by
    have h := rtimes_any ((ch n k : Nat) : Int) ((a ^ k * g ^ (n - k) : Nat) : Int) w (by have := ch_12 n k hn; exact Nat.le_trans ((dl_le_iff (k := 4) (by omega)).2 (by rw [Int.natAbs_natCast]; omega)) (by omega)) (by
      have h2 := dl_nat_mul (a ^ k) (g ^ (n - k))
      have h3 := dl_small_pow (show a ≤ 9 by omega) (show k ≤ 50 by omega)
      have h4 := dl_small_pow (show g ≤ 9 by omega) (show n - k ≤ 50 by omega)
      omega)
    rw [← Int.natCast_mul] at h
    exact h)
  have e0 : IntKind.i64.wrap (4 - (a : Int)) = (g : Int) := by rw [IntWalk.i64_in _ (by omega)]; omega
  have HKL := Lib.hid (fun m => kept_len n a g m)
  have HN := Lib.hid hn
  have HE0 := Lib.hid e0
  obtain ⟨LL, hLL⟩ : ∃ LL, kept n a g (n + 1) = LL := ⟨_, rfl⟩
  rw [hLL] at HPOS ⊢
  have HLA := Lib.hid hLL
  clear h4 hn e0 hLL
  go_enter Tryz.func32, Tryz.ntmps32
  go_wp2
  go_loopg [7, 8] (n + 1) (fun m ov kv wr => ∃ k : Nat, kv = .int .i64 k ∧ k + m = n + 1 ∧ wr.ownsRow w.heap.size 65 2 ov (kept n a g k).length (wc n a g (kept n a g k)) ∧ Below w.heap.size w wr)
  case atStart => exact ⟨0, rfl, by omega, World.ownsRow_nil _ _ _ _, Below.refl _ _⟩
  case round =>
    obtain ⟨k, rfl, hkm, hown, hbl⟩ := hrel
    have HBL := Lib.hid hbl
    have HOWN := Lib.hid hown
    by_cases hz : gk = 0
    · obtain rfl : k = n + 1 := by omega
      have hnl : ¬ ((n : Int) + 1 ≤ n) := by omega
      have hnl2 : ¬ (((n + 1 : Nat) : Int) ≤ n) := by omega
      rw [HLA.out] at hown
      obtain ⟨m, hm⟩ : ∃ m, LL.length = m + 1 := ⟨LL.length - 1, by have := HPOS.out; omega⟩
      have hown2 := hown
      rw [hm] at hown2
      obtain ⟨b, cap, rfl⟩ := ownsRow_succ hown2
      rw [← hm] at hown
      have HT := Lib.hid (isT_of_own hown)
      have HM := Lib.hid hm
      clear hown hown2 hbl hm HOWN
      go_wp2
      go_ret
      exact ⟨b, ⟨cap, by rw [HM.out]; rfl⟩, HT.out, HBL.out⟩
    · have hkn : k ≤ n := by omega
      have hkni : (k : Int) ≤ n := by omega
      have e0 := HE0.out
      have e1 : IntKind.i64.wrap ((n : Int) - k) = ((n - k : Nat) : Int) := by rw [Int.ofNat_sub hkn]; exact IntWalk.i64_in _ (by have := HN.out; omega)
      obtain ⟨nk, hnk⟩ : ∃ nk, n - k = nk := ⟨_, rfl⟩
      have C1 := Lib.hid (HCH.out k hkn)
      have C2 := Lib.hid (HPA.out k hkn)
      have C3 := Lib.hid (HPG.out k hkn)
      have C4 := Lib.hid (HT1.out k hkn)
      have C5 := Lib.hid (HT2.out k hkn)
      have HKS := Lib.hid (show kept n a g (k + 1) = kept n a g k ++ (if wt n a g k = 0 then [] else [k]) from rfl)
      obtain ⟨s1, hs1⟩ : ∃ s, it ((ch n k : Nat) : Int) = s := ⟨_, rfl⟩
      obtain ⟨s2, hs2⟩ : ∃ s, it ((a ^ k : Nat) : Int) = s := ⟨_, rfl⟩
      obtain ⟨s3, hs3⟩ : ∃ s, it ((g ^ (n - k) : Nat) : Int) = s := ⟨_, rfl⟩
      obtain ⟨s4, hs4⟩ : ∃ s, it ((a ^ k * g ^ (n - k) : Nat) : Int) = s := ⟨_, rfl⟩
      rw [hs1] at C1 C5
      rw [hs2] at C2 C4
      rw [hs3] at C3 C4
      rw [hs4] at C4 C5
      rw [hnk] at e1 C3
      have e2 : IntKind.i64.wrap ((k : Int) + 1) = (k : Int) + 1 := IntWalk.i64_in _ (by have := HN.out; omega)
      have HKM := Lib.hid (show k + gk = n + 1 ∧ 0 < gk by omega)
      have HWS := Lib.hid (wc_snoc n a g (kept n a g k) k)
      have hlen := HKL.out k
      obtain ⟨L, hL⟩ : ∃ L, kept n a g k = L := ⟨_, rfl⟩
      rw [hL] at HOWN HKS HWS hlen
      have hl13 : L.length ≤ 13 := by have := HN.out; omega
      have HLL := Lib.hid hL
      clear hown hbl hkm hz hs1 hs2 hs3 hs4 hnk hL hlen
      by_cases h0 : wt n a g k = 0
      · have HK2 := Lib.hid (show kept n a g (k + 1) = L by rw [HKS.out, if_pos h0, List.append_nil])
        rw [h0, show it ((0 : Nat) : Int) = ⟨#[48]⟩ from it_zero] at C5
        clear h0
        go_wp2_with fail
        refine (C1.out _).mono ?_
        rintro e w1 ⟨rfl, hb1⟩
        have B1 := Lib.hid (HBL.out.trans (hb1.mono HBL.out.size))
        have O1 := Lib.hid (ownsRow_below HOWN.out hb1)
        clear hb1
        go_wp2_with fail
        refine (C2.out _).mono ?_
        rintro e w2 ⟨rfl, hb2⟩
        have B2 := Lib.hid (B1.out.trans (hb2.mono B1.out.size))
        have O2 := Lib.hid (ownsRow_below O1.out hb2)
        clear hb2
        go_wp2_with fail
        refine (C3.out _).mono ?_
        rintro e w3 ⟨rfl, hb3⟩
        have B3 := Lib.hid (B2.out.trans (hb3.mono B2.out.size))
        have O3 := Lib.hid (ownsRow_below O2.out hb3)
        clear hb3
        go_wp2_with fail
        refine (C4.out _).mono ?_
        rintro e w4 ⟨rfl, hb4⟩
        have B4 := Lib.hid (B3.out.trans (hb4.mono B3.out.size))
        have O4 := Lib.hid (ownsRow_below O3.out hb4)
        clear hb4
        go_wp2_with fail
        refine (C5.out _).mono ?_
        rintro e w5 ⟨rfl, hb5⟩
        have B5 := Lib.hid (B4.out.trans (hb5.mono B4.out.size))
        have O5 := Lib.hid (ownsRow_below O4.out hb5)
        clear hb5
        go_wp2
        go_roundg (gk - 1)
        case rel => exact ⟨k + 1, by simp, by have := HKM.out; omega, by rw [HK2.out]; exact O5.out, B5.out⟩
        case measure => have := HKM.out; omega
      · have HK2 := Lib.hid (show kept n a g (k + 1) = L ++ [k] by rw [HKS.out, if_neg h0])
        have hz0' := it_ne_zero (show ((wt n a g k : Nat) : Int) ≠ 0 by omega)
        obtain ⟨S, hS⟩ : ∃ S, it ((wt n a g k : Nat) : Int) = S := ⟨_, rfl⟩
        rw [hS] at C5 hz0' HWS
        clear h0 hS
        go_wp2_with fail
        refine (C1.out _).mono ?_
        rintro e w1 ⟨rfl, hb1⟩
        have B1 := Lib.hid (HBL.out.trans (hb1.mono HBL.out.size))
        have O1 := Lib.hid (ownsRow_below HOWN.out hb1)
        clear hb1
        go_wp2_with fail
        refine (C2.out _).mono ?_
        rintro e w2 ⟨rfl, hb2⟩
        have B2 := Lib.hid (B1.out.trans (hb2.mono B1.out.size))
        have O2 := Lib.hid (ownsRow_below O1.out hb2)
        clear hb2
        go_wp2_with fail
        refine (C3.out _).mono ?_
        rintro e w3 ⟨rfl, hb3⟩
        have B3 := Lib.hid (B2.out.trans (hb3.mono B2.out.size))
        have O3 := Lib.hid (ownsRow_below O2.out hb3)
        clear hb3
        go_wp2_with fail
        refine (C4.out _).mono ?_
        rintro e w4 ⟨rfl, hb4⟩
        have B4 := Lib.hid (B3.out.trans (hb4.mono B3.out.size))
        have O4 := Lib.hid (ownsRow_below O3.out hb4)
        clear hb4
        go_wp2_with fail
        refine (C5.out _).mono ?_
        rintro e w5 ⟨rfl, hb5⟩
        have B5 := Lib.hid (B4.out.trans (hb5.mono B4.out.size))
        have O5 := Lib.hid (ownsRow_below O4.out hb5)
        clear hb5
        have hrow := O5.out
        go_wp2_with (
          (at_builtin
           refine wpList_append_own _ rfl _ _ 60 rfl w.heap.size 65 i0 (.agg #[.int .i64 0, .string ⟨#[]⟩]) 2 24 Tryz.underlying60 hi hz0 hz1 hz2 rfl (by decide) _ L.length (wc n a g L) rfl (hrow.alloc _) ⟨w5.heap.size, 0, none⟩ 1 1 [.int .i64 (k : Int), .string S] rfl rfl (two_new _ _ (by first | rfl | simp) _ _ _) (two_one _ _ rfl rfl) (by unfold maxLen; omega) (by omega) (Nat.le_trans B5.out.size (by simp)) ?_
           intro v3 w6 hown3 hgrow3 _
           have B6 := Lib.hid (below_app2 B5.out B5.out.size O5.out hgrow3)
           rw [← HWS.out] at hown3
           have HOW := Lib.hid hown3
           clear hown3 hgrow3 hrow))
        go_wp2
        go_roundg (gk - 1)
        case rel => exact ⟨k + 1, by simp, by have := HKM.out; omega, by rw [HK2.out, List.length_append]; exact HOW.out, B6.out⟩
        case measure => have := HKM.out; omega
end Go.Proofs.YtfebiipggcgmdaaGreatDoor

namespace Go.Proofs.YtfebiipggcgmdaaGreatDoor
open Go.RowKit

set_option maxRecDepth 100000 in
set_option maxHeartbeats 800000 in
theorem whole26 (b cap n a g : Nat) (l : List Nat) (w : World) (h : IsT w b n a g l) (hl : l.length ≤ 13) (hn : n ≤ 12) (hk : ∀ k ∈ l, k ≤ n) (h4 : a + g = 4) :
    Calls Tryz.prog 85 #[.slice (some ⟨b, 0, none⟩) l.length cap] w fun e w' => e = .returned (.string (it ((lsum (fun k => wt n a g k) l : Nat) : Int))) ∧ Below w.heap.size w w' := by
  have hwt : ∀ k ∈ l, wt n a g k ≤ 10 ^ 200 := fun k hkl => by
    have h1 := wt_le (n := n) (a := a) (g := g) (by omega) hn (hk k hkl)
    have h2 := (dl_le_iff (z := ((wt n a g k : Nat) : Int)) (k := 200) (by omega)).1 h1
    rw [Int.natAbs_natCast] at h2
    exact Nat.le_of_lt h2
  have hsum : ∀ i, dl ((lsum (fun k => wt n a g k) (l.take i) : Nat) : Int) ≤ 300 := fun i => by
    have h1 : ∀ m : List Nat, (∀ k ∈ m, wt n a g k ≤ 10 ^ 200) → lsum (fun k => wt n a g k) m ≤ m.length * 10 ^ 200 := by
      intro m
      induction m with
      | nil => intro _; simp [lsum]
      | cons x r ih =>
        intro hm
        have h2 := ih (fun k hk => hm k (List.mem_cons_of_mem _ hk))
        have h3 := hm x (by simp)
        simp only [lsum, List.length_cons, Nat.add_mul]
        omega
    have h2 := Nat.le_trans (lsum_le (fun k => wt n a g k) l i) (h1 l hwt)
    have h3 : l.length * 10 ^ 200 < 10 ^ 202 := by
      have : l.length * 10 ^ 200 ≤ 13 * 10 ^ 200 := Nat.mul_le_mul_right _ hl
      have e : (10 : Nat) ^ 202 = 100 * 10 ^ 200 := by rw [show (202 : Nat) = 2 + 200 from rfl, Nat.pow_add]
      have := Nat.pow_pos (n := 200) (show 0 < 10 by omega)
      omega
    exact Nat.le_trans ((dl_le_iff (k := 202) (by omega)).2 (by rw [Int.natAbs_natCast]; omega)) (by omega)
  have HPL := Lib.hid (fun (i k : Nat) (hi : l[i]? = some k) (w : World) => show Calls Tryz.prog 84 #[.string (it ((lsum (fun k => wt n a g k) (l.take i) : Nat) : Int)), .string (it ((wt n a g k : Nat) : Int))] w fun e w' => e = .returned (.string (it ((lsum (fun k => wt n a g k) (l.take (i + 1)) : Nat) : Int))) ∧ Below w.heap.size w w' by
    rw [lsum_take hi, Int.natCast_add]
    exact rplus_any _ _ w (by have := hsum i; omega) (by have := wt_le (n := n) (a := a) (g := g) (by omega) hn (hk k (List.mem_of_getElem? hi)); omega))
  have HT := Lib.hid h
  have HZ := Lib.hid (show it ((lsum (fun k => wt n a g k) (l.take 0) : Nat) : Int) = ⟨#[48]⟩ from it_zero)
  have HE := Lib.hid (show lsum (fun k => wt n a g k) (l.take l.length) = lsum (fun k => wt n a g k) l by rw [List.take_length])
  obtain ⟨f, hf⟩ : ∃ f : Nat → Nat, (fun i => lsum (fun k => wt n a g k) (l.take i)) = f := ⟨_, rfl⟩
  have hfi : ∀ i, lsum (fun k => wt n a g k) (l.take i) = f i := fun i => by rw [← hf]
  rw [hfi] at HZ HE
  rw [← HE.out]
  have HP2 := Lib.hid (fun (i k : Nat) (hi : l[i]? = some k) (w : World) => show Calls Tryz.prog 84 #[.string (it ((f i : Nat) : Int)), .string (it ((wt n a g k : Nat) : Int))] w fun e w' => e = .returned (.string (it ((f (i + 1) : Nat) : Int))) ∧ Below w.heap.size w w' by
    rw [← hfi, ← hfi]; exact HPL.out i k hi w)
  clear h hwt hsum hk hf hfi HPL HE hn h4
  go_enter Tryz.func85, Tryz.ntmps85
  go_wp2
  go_loopg [3, 4] l.length (fun m sv iv wr => ∃ i : Nat, sv = .string (it ((f i : Nat) : Int)) ∧ iv = .int .i64 i ∧ i + m = l.length ∧ Below w.heap.size w wr)
  case atStart => exact ⟨0, by rw [HZ.out], rfl, by omega, Below.refl _ _⟩
  case round =>
    obtain ⟨i, rfl, rfl, him, hbl⟩ := hrel
    have HBL := Lib.hid hbl
    by_cases hz : gk = 0
    · obtain rfl : i = l.length := by omega
      have hnl : ¬ ((l.length : Nat) : Int) < (l.length : Nat) := by omega
      clear hbl
      go_wp2
      go_ret
      exact ⟨rfl, HBL.out⟩
    · have hi : i < l.length := by omega
      have hii : (i : Int) < l.length := by omega
      obtain ⟨k, hk⟩ : ∃ k, l[i]? = some k := ⟨_, List.getElem?_eq_getElem hi⟩
      have hc := (HT.out.below hbl).c1 i k hk
      have hc' : wr.cell? ⟨b, i * 2 + 1, none⟩ = some (.string (it ((wt n a g k : Nat) : Int))) := by rw [Nat.mul_comm]; exact hc
      have HPI := Lib.hid (HP2.out i k hk)
      have e1 : IntKind.i64.wrap ((i : Int) + 1) = (i : Int) + 1 := IntWalk.i64_in _ (by omega)
      have HI := Lib.hid (show i + gk = l.length ∧ 0 < gk by omega)
      clear hbl him hz hk
      go_wp2_with fail
      refine (HPI.out _).mono ?_
      rintro e w2 ⟨rfl, hb2⟩
      have HB2 := Lib.hid (HBL.out.trans (hb2.mono HBL.out.size))
      clear hb2 hc hc'
      go_wp2
      go_roundg (gk - 1)
      case rel => exact ⟨i + 1, rfl, by simp, by have := HI.out; omega, HB2.out⟩
      case measure => have := HI.out; omega

set_option maxRecDepth 100000 in
set_option maxHeartbeats 800000 in
theorem chance26 (b cap n a g i k : Nat) (l : List Nat) (w : World) (h : IsT w b n a g l) (hl : l.length ≤ 13) (hn : n ≤ 12) (hk : ∀ k ∈ l, k ≤ n) (h4 : a + g = 4) (hi : l[i]? = some k) (hs : lsum (fun k => wt n a g k) l = 4 ^ n) :
    Calls Tryz.prog 36 #[.slice (some ⟨b, 0, none⟩) l.length cap, .int .i64 i] w fun e w' => e = .returned (.string (rt (mkRat ((wt n a g k : Nat) : Int) (4 ^ n)))) ∧ Below w.heap.size w w' := by
  have HW := Lib.hid (fun (w2 : World) (h2 : IsT w2 b n a g l) => whole26 b cap n a g l w2 h2 hl hn hk h4)
  rw [hs] at HW
  have HL := Lib.hid (fun w => rlowest_nat (wt n a g k) (4 ^ n) w (Nat.pow_pos (by omega)) (by have := wt_le (n := n) (a := a) (g := g) (by omega) hn (hk k (List.mem_of_getElem? hi)); omega) (by have := dl_small_pow (show 4 ≤ 9 by omega) (show n ≤ 50 by omega); omega))
  have hii : (i : Int) < l.length := by have := (List.getElem?_eq_some_iff.1 hi).1; omega
  have hi0 : (0 : Int) ≤ i := by omega
  have hc := h.c1 i k hi
  have hc' : w.cell? ⟨b, i * 2 + 1, none⟩ = some (.string (it ((wt n a g k : Nat) : Int))) := by rw [Nat.mul_comm]; exact hc
  have e0 : IntKind.i64.wrap (i : Int) = (i : Int) := IntWalk.i64_in _ (by omega)
  have HT := Lib.hid h
  have HTD := Lib.hid (show IsT w.drew b n a g l from ⟨h.c0, h.c1, h.lt⟩)
  have HC1 := Lib.hid (fun (w2 : World) (h2 : IsT w2 b n a g l) => show w2.cell? ⟨b, i * 2 + 1, none⟩ = some (.string (it ((wt n a g k : Nat) : Int))) by rw [Nat.mul_comm]; exact h2.c1 i k hi)
  obtain ⟨q, hq⟩ : ∃ q : Nat, 4 ^ n = q := ⟨_, rfl⟩
  rw [hq] at HW HL ⊢
  obtain ⟨sq, hsq⟩ : ∃ s, it ((q : Nat) : Int) = s := ⟨_, rfl⟩
  rw [hsq] at HW HL
  obtain ⟨sk, hsk⟩ : ∃ s, it ((wt n a g k : Nat) : Int) = s := ⟨_, rfl⟩
  rw [hsk] at HL hc hc' HC1
  clear h hl hn hk h4 hi hs hq hsq hsk hc
  go_enter Tryz.func36, Tryz.ntmps36
  go_wp2_with fail
  go_region_held3 (fun w' => w'.cell? ⟨b, i * 2 + 1, none⟩ = some (.string sk)) (first | exact hc' | exact a0 | exact b0 | fail) (first
    | (go_at_call 85; refine (HW.out _ HTD.out).mono ?_; rintro e wa ⟨rfl, hba⟩; have BA := Lib.hid ((Below.refl w.heap.size w).drew.trans (hba.mono (Nat.le_refl _))); have a0 := HC1.out _ (HT.out.below BA.out); clear hba)
    | (go_at_call 66; refine (HL.out _).mono ?_; rintro e wb ⟨rfl, hbb⟩; have BC := Lib.hid (BA.out.trans (hbb.mono BA.out.size)); have b0 := HC1.out _ (HT.out.below BC.out); clear hbb)
    | fail)
  go_wp2
  go_ret
  exact ⟨rfl, BC.out⟩
end Go.Proofs.YtfebiipggcgmdaaGreatDoor
