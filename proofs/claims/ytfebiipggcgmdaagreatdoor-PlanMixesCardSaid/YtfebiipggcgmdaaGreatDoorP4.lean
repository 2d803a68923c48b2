import Derived.Test.YtfebiipggcgmdaaGreatDoorP3
import Derived.Laws.ResultCell
namespace Go.Proofs.YtfebiipggcgmdaaGreatDoor
open Go.RowKit

theorem frozen_below {B : Nat} {w w' : World} (h : Below B w w') {a : Addr} (ha : a.block < B) : w'.frozen? a = w.frozen? a := by
  have h2 := h.block a.block ha
  unfold World.frozen?
  rw [h2]
theorem frozen_new (w : World) (cs : Array Value) (t : TypeId) (o : Nat) (ho : o = 0 ∨ o = 1) : (w.alloc (.cells cs t)).frozen? ⟨w.heap.size, o, none⟩ = false := by
  rcases ho with rfl | rfl
  all_goals simp only [World.frozen?, heap_alloc_new]
  all_goals rfl
theorem cmp_any (a s : Rat) (ha : sm SML a) (hs : sm SML s) : ∃ x : Int, (0 ≤ x ↔ s ≤ a) ∧ (x ≤ 0 ↔ a ≤ s) ∧ (0 < x ↔ s < a) ∧
    ∀ w, Env w → Calls Tryz.prog 31 #[.string (rt a), .string (rt s)] w (NumEnd x w) :=
  ⟨_, cmp_ge a s, cmp_le a s, cmp_gt a s, fun w he => rcompare_any a s w ha.big hs.big
    (in_mul ha.n (by rw [Int.natAbs_natCast]; exact hs.d)) (in_mul hs.n (by rw [Int.natAbs_natCast]; exact ha.d)) he⟩
theorem one_sub (p : Rat) : 1 - p = mkRat ((p.den : Int) - p.num) p.den := by
  rw [Rat.sub_def']
  show mkRat (1 * (p.den : Int) - p.num * 1) (1 * p.den) = _
  rw [Int.one_mul, Int.mul_one, Nat.one_mul]
theorem sm_compl {p : Rat} (h : sm SML p) (u : uP p = 0) : sm SML (1 - p) := by
  rw [one_sub]
  have hd := h.d
  have h2 : ¬ (p.num < 0 ∨ (p.den : Int) < p.num) := fun hn => by unfold uP at u; rw [if_pos hn] at u; cases u
  exact sm_mk p.den_pos (by omega) hd
theorem sm_good {N C lot bad : Nat} (hC : C ≤ N) (hN : N ≤ lot) (hb : bad ≤ lot) (hL : lot ≤ 256) : sm SML (mkRat ((good N C lot bad : Nat) : Int) (ch lot N)) :=
  sm_mk (ch_pos hN) (by rw [Int.natAbs_natCast]; exact lt_T1 (Nat.le_trans (good_le hC hb) (ch_TT N hL))) (lt_T1 (ch_TT N hL))

/-- the probability of acceptance -/
def pa (n c lot bad : Nat) : Rat := mkRat ((good n c lot bad : Nat) : Int) (ch lot n)
/-- a plan does what is needed -/
def Meets (lot G B : Nat) (p q : Rat) (n c : Nat) : Prop := 1 - p ≤ pa n c lot G ∧ pa n c lot B ≤ q

set_option maxRecDepth 100000 in
set_option maxHeartbeats 6400000 in
theorem Least_ok (lot G B n0 c0 : Nat) (p q : Rat) (w : World) (h1 : B ≤ lot) (h2 : G < B) (hL : lot ≤ 64) (hp : sm SML p) (hq : sm SML q) (up : uP p = 0) (uq : uP q = 0) (hn1 : 1 ≤ n0) (hn2 : n0 ≤ lot) (hc2 : c0 ≤ n0)
    (hm : Meets lot G B p q n0 c0) (hmin : ∀ n c, 1 ≤ n → c ≤ n → n < n0 ∨ n = n0 ∧ c < c0 → ¬ Meets lot G B p q n c) (he : Env w) :
    Calls Tryz.prog 21 #[.int .i64 lot, .int .i64 G, .int .i64 B, .string (rt p), .string (rt q)] w fun e w' => e = .returned (.tuple #[pl n0 c0, .int .i64 0]) ∧ Below w.heap.size w w' := by
  have HE := Lib.hid he
  have HN := Lib.hid (fun w he => needs_ok lot G B p q w h1 h2 hL hp hq up uq he)
  have HS := Lib.hid (fun (w : World) (he : Env w) => rsub (w := w) sm_one hp he)
  have HSC := Lib.hid (sm_compl hp up)
  have HQ := Lib.hid hq
  have HM := Lib.hid hm
  have HMIN := Lib.hid hmin
  have HR := Lib.hid rt_one
  have HC0 := Lib.hid (two_cells w (.int .i64 0) (.int .i64 0) 30)
  have HB0 := Lib.hid ((Below.refl w.heap.size w).alloc (Nat.le_refl _) (.cells #[.int .i64 0, .int .i64 0] 30))
  obtain ⟨w0, hw0⟩ : ∃ w0, w.alloc (.cells #[.int .i64 0, .int .i64 0] 30) = w0 := ⟨_, rfl⟩
  have HS0 := Lib.hid (show w0.heap.size = w.heap.size + 1 by rw [← hw0]; simp)
  have HA := Lib.hid (fun (n c : Nat) (w : World) (hc : c ≤ n) (hn : n ≤ lot) (he : Env w) => accept_any n c lot G w hc hn (by omega) (by omega) he)
  have HAB := Lib.hid (fun (n c : Nat) (w : World) (hc : c ≤ n) (hn : n ≤ lot) (he : Env w) => accept_any n c lot B w hc hn h1 (by omega) he)
  have HCG := Lib.hid (fun (n c : Nat) (hc : c ≤ n) (hn : n ≤ lot) => cmp_any (pa n c lot G) (1 - p) (sm_good hc hn (by omega) (by omega)) HSC.out)
  have HCB := Lib.hid (fun (n c : Nat) (hc : c ≤ n) (hn : n ≤ lot) => cmp_any (pa n c lot B) q (sm_good hc hn h1 (by omega)) HQ.out)
  obtain ⟨s, hs⟩ : ∃ s, 1 - p = s := ⟨_, rfl⟩
  have HMD := Lib.hid (show ∀ n c, Meets lot G B p q n c ↔ (s ≤ pa n c lot G ∧ pa n c lot B ≤ q) from fun n c => by unfold Meets; rw [hs])
  rw [hs] at HS HCG
  rw [hw0] at HC0 HB0
  have HW0 := Lib.hid hw0
  clear he hp hq up uq hm hmin HSC hs hw0 h1 h2
  go_enter Tryz.func21, Tryz.ntmps21
  go_wp2_with fail
  rw [HW0.out]
  refine (HN.out _ (HE.out.below HB0.out)).mono ?_
  rintro e w1 ⟨rfl, hb1⟩
  have HB1 := Lib.hid (HB0.out.trans (hb1.mono HB0.out.size))
  have HD1 := Lib.hid (hb1.mono (show w.heap.size + 1 ≤ w0.heap.size by rw [HS0.out]; exact Nat.le_refl _))
  clear hb1
  go_wp2_with fail
  rw [← HR.out]
  refine (HS.out _ (HE.out.below HB1.out)).mono ?_
  rintro e w2 ⟨rfl, hb2⟩
  have HB2 := Lib.hid (HB1.out.trans (hb2.mono HB1.out.size))
  have HD2 := Lib.hid (HD1.out.trans (hb2.mono (show w.heap.size + 1 ≤ w1.heap.size by rw [← HS0.out]; exact HD1.out.size)))
  clear hb2
  go_wp2
  go_loopg [15] (n0 - 1) (fun k nv wr => ∃ n : Nat, nv = .int .i64 n ∧ 1 ≤ n ∧ n + k = n0 ∧ Below (w.heap.size + 1) w0 wr)
  case atStart => exact ⟨1, rfl, by omega, by omega, HD2.out⟩
  case round =>
    obtain ⟨n, rfl, hn1, hnk, hbl⟩ := hrel
    have hnl : n ≤ lot := by omega
    have hnli : (n : Int) ≤ lot := by omega
    have HBL := Lib.hid hbl
    obtain ⟨m, hm⟩ : ∃ m, (if n = n0 then c0 else n + 1) = m := ⟨_, rfl⟩
    have hm1 : n = n0 ∧ m = c0 ∨ n < n0 ∧ m = n + 1 := by
      split at hm <;> omega
    obtain ⟨ok, hok⟩ : ∃ ok, ok = gk := ⟨_, rfl⟩
    rw [← hok] at hnk
    clear hbl hm
    go_wp2
    go_loopg [16] m (fun k cv wz => ∃ c : Nat, cv = .int .i64 c ∧ c + k = m ∧ Below (w.heap.size + 1) w0 wz)
    case atStart => exact ⟨0, rfl, by omega, HBL.out⟩
    case round =>
      obtain ⟨c, rfl, hck, hbz⟩ := hrel
      have HBZ := Lib.hid hbz
      have HB3 := Lib.hid (HB0.out.trans (hbz.mono (by omega)))
      clear hbz
      by_cases hend : n < n0 ∧ gk = 0
      · have hcn : ¬ (c : Int) ≤ n := by omega
        have e1 : IntKind.i64.wrap ((n : Int) + 1) = (n : Int) + 1 := IntWalk.i64_in _ (by omega)
        go_wp2
        go_roundg (ok - 1)
        case rel => exact ⟨n + 1, by simp, by omega, by omega, HBZ.out⟩
        case measure => omega
      · have hcn : c ≤ n := by omega
        have hcni : (c : Int) ≤ n := by omega
        have HCN := Lib.hid hcn
        have HNL := Lib.hid hnl
        have hcase : (n = n0 ∧ c = c0) ∨ (0 < gk ∧ (n < n0 ∨ n = n0 ∧ c < c0)) := by omega
        obtain ⟨x, hx, -, -, hxc⟩ := HCG.out n c hcn hnl
        obtain ⟨y, -, hy, -, hyc⟩ := HCB.out n c hcn hnl
        have HXC := Lib.hid hxc
        have HYC := Lib.hid hyc
        have e2 : IntKind.i64.wrap ((c : Int) + 1) = (c : Int) + 1 := IntWalk.i64_in _ (by omega)
        have hway : (n = n0 ∧ c = c0) ∧ (0 ≤ x ∧ y ≤ 0) ∨ 0 < gk ∧ (0 ≤ x ∧ 0 < y) ∨ 0 < gk ∧ x < 0 := by
          rcases hcase with ⟨rfl, rfl⟩ | ⟨h0, h⟩
          · have := (HMD.out n c).1 HM.out
            exact .inl ⟨⟨rfl, rfl⟩, hx.2 this.1, hy.2 this.2⟩
          · by_cases hx0 : 0 ≤ x
            · by_cases hy0 : y ≤ 0
              · exact absurd ((HMD.out n c).2 ⟨hx.1 hx0, hy.1 hy0⟩) (HMIN.out n c hn1 hcn h)
              · exact .inr (.inl ⟨h0, hx0, by omega⟩)
            · exact .inr (.inr ⟨h0, by omega⟩)
        have HPL := Lib.hid (two_cells wr (.int .i64 n) (.int .i64 c) 30)
        have HB4 := Lib.hid (HB3.out.alloc HB3.out.size (.cells #[.int .i64 n, .int .i64 c] 30))
        have hsw : w.heap.size + 1 ≤ wr.heap.size := by have := HBZ.out.size; rw [HS0.out] at this; exact this
        have HSW := Lib.hid hsw
        have HBZ4 := Lib.hid (HBZ.out.alloc hsw (.cells #[.int .i64 n, .int .i64 c] 30))
        have HSZ := Lib.hid (show (wr.alloc (.cells #[.int .i64 n, .int .i64 c] 30)).heap.size = wr.heap.size + 1 by simp)
        clear hxc hyc hx hy hcase hsw hend
        have HF := Lib.hid (show (n = n0 ∧ m = c0 ∨ n < n0 ∧ m = n + 1) ∧ c + gk = m ∧ n + ok = n0 ∧ ok = ok from ⟨hm1, hck, hnk, rfl⟩)
        clear hm1 hck hnk hok hcn hnl
        obtain ⟨k0, hk0⟩ := HPL.out
        rcases hway with ⟨hnc, hw1, hw2⟩ | ⟨hg, hw1, hw2⟩ | ⟨hg, hw1⟩
        all_goals have HG := Lib.hid (by first | exact hnc | exact hg)
        all_goals try clear hnc
        all_goals try clear hg
        all_goals go_wp2_with fail
        all_goals refine (HA.out n c _ HCN.out HNL.out (HE.out.below HB4.out)).mono ?_
        all_goals rintro e w5 ⟨rfl, hb5⟩
        all_goals have HB5 := Lib.hid (HB4.out.trans (hb5.mono HB4.out.size))
        all_goals have HBZ5 := Lib.hid (HBZ4.out.trans (hb5.mono (Nat.le_trans HSW.out (by rw [HSZ.out]; exact Nat.le_succ _))))
        all_goals have d0 := (hb5.cell (p := ⟨wr.heap.size, 0, none⟩) (by rw [HSZ.out]; exact Nat.lt_succ_self _)).trans k0
        all_goals have d1 := (hb5.cell (p := ⟨wr.heap.size, 1, none⟩) (by rw [HSZ.out]; exact Nat.lt_succ_self _)).trans hk0
        all_goals have HS5 := Lib.hid (show wr.heap.size + 1 ≤ w5.heap.size by rw [← HSZ.out]; exact hb5.size)
        all_goals clear hb5
        all_goals go_wp2_with fail
        all_goals refine (HAB.out n c _ HCN.out HNL.out (HE.out.below HB5.out)).mono ?_
        all_goals rintro e w6 ⟨rfl, hb6⟩
        all_goals have HB6 := Lib.hid (HB5.out.trans (hb6.mono HB5.out.size))
        all_goals have HBZ6 := Lib.hid (HBZ5.out.trans (hb6.mono (Nat.le_trans HSW.out (Nat.le_trans (Nat.le_succ _) HS5.out))))
        all_goals have g0 := (hb6.cell (p := ⟨wr.heap.size, 0, none⟩) HS5.out).trans d0
        all_goals have g1 := (hb6.cell (p := ⟨wr.heap.size, 1, none⟩) HS5.out).trans d1
        all_goals have HS6 := Lib.hid (Nat.le_trans HS5.out hb6.size)
        all_goals clear hb6 d0 d1
        all_goals go_wp2_with fail
        all_goals refine (HXC.out _ (HE.out.below HB6.out)).mono ?_
        all_goals rintro e w7 ⟨rfl, hb7⟩
        all_goals have HB7 := Lib.hid (HB6.out.trans (hb7.mono HB6.out.size))
        all_goals have HBZ7 := Lib.hid (HBZ6.out.trans (hb7.mono (Nat.le_trans HSW.out (Nat.le_trans (Nat.le_succ _) HS6.out))))
        all_goals have d0 := (hb7.cell (p := ⟨wr.heap.size, 0, none⟩) HS6.out).trans g0
        all_goals have d1 := (hb7.cell (p := ⟨wr.heap.size, 1, none⟩) HS6.out).trans g1
        all_goals have HS7 := Lib.hid (Nat.le_trans HS6.out hb7.size)
        all_goals clear hb7 g0 g1
        all_goals go_wp2_with fail
        all_goals refine (HYC.out _ (HE.out.below HB7.out)).mono ?_
        all_goals rintro e w8 ⟨rfl, hb8⟩
        all_goals have HB8 := Lib.hid (HB7.out.trans (hb8.mono HB7.out.size))
        all_goals have HBZ8 := Lib.hid (HBZ7.out.trans (hb8.mono (Nat.le_trans HSW.out (Nat.le_trans (Nat.le_succ _) HS7.out))))
        all_goals have g0 := (hb8.cell (p := ⟨wr.heap.size, 0, none⟩) HS7.out).trans d0
        all_goals have g1 := (hb8.cell (p := ⟨wr.heap.size, 1, none⟩) HS7.out).trans d1
        all_goals clear hb8 d0 d1
        all_goals have z0 := (HBZ8.out.cell (p := ⟨w.heap.size, 0, none⟩) (Nat.lt_succ_self _)).trans HC0.out.1
        all_goals have z1 := (HBZ8.out.cell (p := ⟨w.heap.size, 1, none⟩) (Nat.lt_succ_self _)).trans HC0.out.2
        all_goals have z2 : w8.frozen? ⟨w.heap.size, 0, none⟩ = false := by rw [frozen_below HBZ8.out (Nat.lt_succ_self _), ← HW0.out]; exact frozen_new _ _ _ _ (by decide)
        all_goals have z3 : w8.frozen? ⟨w.heap.size, 1, none⟩ = false := by rw [frozen_below HBZ8.out (Nat.lt_succ_self _), ← HW0.out]; exact frozen_new _ _ _ _ (by decide)
        all_goals go_wp2
        · obtain ⟨rfl, rfl⟩ := HG.out
          have HB9 := Lib.hid ((HB8.out.setCell (p := ⟨w.heap.size, 0, none⟩) (Nat.le_refl _) (.int .i64 n)).setCell (p := ⟨w.heap.size, 1, none⟩) (Nat.le_refl _) (.int .i64 c))
          have y0 : ((w8.setCell ⟨w.heap.size, 0, none⟩ (.int .i64 n)).setCell ⟨w.heap.size, 1, none⟩ (.int .i64 c)).cell? ⟨w.heap.size, 0, none⟩ = some (.int .i64 n) := by
            rw [cell_set_ne (by decide)]
            exact World.cell?_setCell_same' _ _ _ (by rw [z0]; rfl)
          have y1 : ((w8.setCell ⟨w.heap.size, 0, none⟩ (.int .i64 n)).setCell ⟨w.heap.size, 1, none⟩ (.int .i64 c)).cell? ⟨w.heap.size, 1, none⟩ = some (.int .i64 c) :=
            World.cell?_setCell_same' _ _ _ (by rw [cell_set_ne (by decide), z1]; rfl)
          (try simp only [Exit.inBlock, Exit.then])
          refine bodyPost_ret (v := .tuple #[.agg #[.int .i64 n, .int .i64 c], .int .i64 0]) ?_ rfl ⟨rfl, HB9.out⟩
          rw [results_cell_tmp rfl]
          go_simp
        all_goals go_roundg (gk - 1)
        case rel => exact ⟨c + 1, by simp, by have := HF.out; have := HG.out; omega, HBZ8.out⟩
        case measure => have := HG.out; omega
        case rel => exact ⟨c + 1, by simp, by have := HF.out; have := HG.out; omega, HBZ8.out⟩
        case measure => have := HG.out; omega
end Go.Proofs.YtfebiipggcgmdaaGreatDoor
