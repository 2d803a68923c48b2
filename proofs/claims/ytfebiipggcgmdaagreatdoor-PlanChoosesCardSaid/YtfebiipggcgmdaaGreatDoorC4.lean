import Derived.Test.YtfebiipggcgmdaaGreatDoorC3
namespace Go.Proofs.YtfebiipggcgmdaaGreatDoor
open Go.RowKit

theorem frozen_at {w : World} {g o : Nat} {cs : Array Value} {t : TypeId} (h : w.heap[g]? = some (.cells cs t (0, 0))) : w.frozen? ⟨g, o, none⟩ = false := by
  simp [World.frozen?, h]
/-- a plan's block that may be written -/
def PlanBlk (w : World) (g : Nat) (a b : Value) : Prop := w.heap[g]? = some (.cells #[a, b] 23 (0, 0))
theorem PlanBlk.c0 {w : World} {g : Nat} {a b : Value} (h : PlanBlk w g a b) : w.cell? ⟨g, 0, none⟩ = some a := by unfold PlanBlk at h; simp [World.cell?, h]
theorem PlanBlk.c1 {w : World} {g : Nat} {a b : Value} (h : PlanBlk w g a b) : w.cell? ⟨g, 1, none⟩ = some b := by unfold PlanBlk at h; simp [World.cell?, h]
theorem PlanBlk.f {w : World} {g : Nat} {a b : Value} (h : PlanBlk w g a b) (o : Nat) : w.frozen? ⟨g, o, none⟩ = false := frozen_at h
theorem PlanBlk.lt {w : World} {g : Nat} {a b : Value} (h : PlanBlk w g a b) : g < w.heap.size := (Array.getElem?_eq_some_iff.1 h).1
theorem PlanBlk.below {w w' : World} {g : Nat} {a b : Value} (h : PlanBlk w g a b) (hb : Below w.heap.size w w') : PlanBlk w' g a b := (hb.block g h.lt).trans h

set_option maxRecDepth 100000 in
/-- the reference's Least with needs that are wrong -/
theorem rLeast_bad (L G B v : Int) (s1 s2 : ByteArray) (w : World) (hv : v ≠ 0)
    (hN : ∀ w, Calls Tryz.prog 52 #[nd L G B s1 s2] w fun e w' => e = .returned (.int .i64 v) ∧ Below w.heap.size w w') :
    Calls Tryz.prog 22 #[nd L G B s1 s2] w fun e w' => e = .returned (.tuple #[pl 0 0, .int .i64 v]) ∧ Below w.heap.size w w' := by
  have HN := Lib.hid hN
  have gb := ne_bool hv
  obtain ⟨wa, hwa⟩ : ∃ wa, w.alloc (.cells #[.int .i64 L, .int .i64 G, .int .i64 B, .string s1, .string s2] 38) = wa := ⟨_, rfl⟩
  have hws : wa.heap.size = w.heap.size + 1 := by rw [← hwa]; simp
  have hx : IsNd (wa.alloc (.cells #[.int .i64 0, .int .i64 0] 23)) w.heap.size L G B s1 s2 := by
    have h := IsNd.new w L G B s1 s2
    rw [hwa] at h
    exact h.below ((Below.refl _ _).alloc (Nat.le_refl _) _)
  have hp : PlanBlk (wa.alloc (.cells #[.int .i64 0, .int .i64 0] 23)) (w.heap.size + 1) (.int .i64 0) (.int .i64 0) := by
    rw [← hws]; exact heap_alloc_new _ _
  have hb : Below w.heap.size w (wa.alloc (.cells #[.int .i64 0, .int .i64 0] 23)) := by
    have h := (Below.refl w.heap.size w).alloc (Nat.le_refl _) (.cells #[.int .i64 L, .int .i64 G, .int .i64 B, .string s1, .string s2] 38)
    rw [hwa] at h
    exact h.alloc h.size _
  rw [← hwa] at hx hp hb
  have HB := Lib.hid hb
  have HP := Lib.hid hp
  obtain ⟨c0, c1, c2, c3, c4, -⟩ := hx
  unfold nd at HN ⊢
  clear hN hb hp hwa hws
  go_enter Tryz.func22, Tryz.ntmps22
  go_wp2_with fail
  refine (HN.out _).mono ?_
  rintro e w1 ⟨rfl, hb1⟩
  have HB1 := Lib.hid (HB.out.trans (hb1.mono HB.out.size))
  have hp1 := HP.out.below hb1
  have z0 := hp1.c0
  have z1 := hp1.c1
  have z2 := hp1.f 0
  have z3 := hp1.f 1
  clear hb1 hp1 c0 c1 c2 c3 c4
  go_wp2
  have HB9 := Lib.hid ((HB1.out.setCell (p := ⟨w.heap.size + 1, 0, none⟩) (Nat.le_succ _) (.int .i64 0)).setCell (p := ⟨w.heap.size + 1, 1, none⟩) (Nat.le_succ _) (.int .i64 0))
  have y0 : ((w1.setCell ⟨w.heap.size + 1, 0, none⟩ (.int .i64 0)).setCell ⟨w.heap.size + 1, 1, none⟩ (.int .i64 0)).cell? ⟨w.heap.size + 1, 0, none⟩ = some (.int .i64 0) := by
    rw [cell_set_ne (by decide)]
    exact World.cell?_setCell_same' _ _ _ (by rw [z0]; rfl)
  have y1 : ((w1.setCell ⟨w.heap.size + 1, 0, none⟩ (.int .i64 0)).setCell ⟨w.heap.size + 1, 1, none⟩ (.int .i64 0)).cell? ⟨w.heap.size + 1, 1, none⟩ = some (.int .i64 0) :=
    World.cell?_setCell_same' _ _ _ (by rw [cell_set_ne (by decide), z1]; rfl)
  (try simp only [Exit.inBlock, Exit.then])
  refine bodyPost_ret (v := .tuple #[.agg #[.int .i64 0, .int .i64 0], .int .i64 v]) ?_ rfl ⟨rfl, HB9.out⟩
  rw [results_cell_tmp rfl]
  go_simp

set_option maxRecDepth 100000 in
set_option maxHeartbeats 3200000 in
/-- the reference's Least with right needs -/
theorem rLeast_ok (lot G B n0 c0 : Nat) (p q : Rat) (w : World) (hG : G ≤ lot) (hB : B ≤ lot) (hL : lot ≤ 9) (hp : pbg p) (hp1 : p.num ≤ p.den) (hq : pbg q) (hn1 : 1 ≤ n0) (hn2 : n0 ≤ lot) (hc2 : c0 ≤ n0)
    (hm : Meets lot G B p q n0 c0) (hmin : ∀ n c, 1 ≤ n → c ≤ n → n < n0 ∨ n = n0 ∧ c < c0 → ¬ Meets lot G B p q n c)
    (hR : ∀ w, Calls Tryz.prog 52 #[nd lot G B (rt p) (rt q)] w fun e w' => e = .returned (.int .i64 0) ∧ Below w.heap.size w w') :
    Calls Tryz.prog 22 #[nd lot G B (rt p) (rt q)] w fun e w' => e = .returned (.tuple #[pl n0 c0, .int .i64 0]) ∧ Below w.heap.size w w' := by
  have HN := Lib.hid hR
  have HMT := Lib.hid (fun (n c : Nat) (r : Bool) (w : World) (hn : n ≤ lot) (hc : c ≤ n) (hr : r = true ↔ Meets lot G B p q n c) => rmeets n c lot G B p q r w hL hn hc hG hB hp hp1 hq hr)
  have HM := Lib.hid hm
  have HMIN := Lib.hid hmin
  obtain ⟨s1, hs1⟩ : ∃ s, rt p = s := ⟨_, rfl⟩
  obtain ⟨s2, hs2⟩ : ∃ s, rt q = s := ⟨_, rfl⟩
  rw [hs1, hs2] at HN HMT
  rw [hs1, hs2]
  obtain ⟨wa, hwa⟩ : ∃ wa, w.alloc (.cells #[.int .i64 lot, .int .i64 G, .int .i64 B, .string s1, .string s2] 38) = wa := ⟨_, rfl⟩
  have hws : wa.heap.size = w.heap.size + 1 := by rw [← hwa]; simp
  have hx : IsNd (wa.alloc (.cells #[.int .i64 0, .int .i64 0] 23)) w.heap.size lot G B s1 s2 := by
    have h := IsNd.new w lot G B s1 s2
    rw [hwa] at h
    exact h.below ((Below.refl _ _).alloc (Nat.le_refl _) _)
  have hpb : PlanBlk (wa.alloc (.cells #[.int .i64 0, .int .i64 0] 23)) (w.heap.size + 1) (.int .i64 0) (.int .i64 0) := by
    rw [← hws]; exact heap_alloc_new _ _
  have hb : Below w.heap.size w (wa.alloc (.cells #[.int .i64 0, .int .i64 0] 23)) := by
    have h := (Below.refl w.heap.size w).alloc (Nat.le_refl _) (.cells #[.int .i64 lot, .int .i64 G, .int .i64 B, .string s1, .string s2] 38)
    rw [hwa] at h
    exact h.alloc h.size _
  rw [← hwa] at hx hpb hb
  have HB0 := Lib.hid hb
  have HP0 := Lib.hid hpb
  have HX0 := Lib.hid hx
  obtain ⟨k0, k1, k2, k3, k4, -⟩ := hx
  unfold nd at HN HMT ⊢
  unfold RetB at HMT
  unfold pl at HMT ⊢
  clear hb hpb hwa hws hG hB hp hp1 hq hm hmin hR hs1 hs2
  go_enter Tryz.func22, Tryz.ntmps22
  go_wp2_with fail
  refine (HN.out _).mono ?_
  rintro e w1 ⟨rfl, hb1⟩
  have HB1 := Lib.hid (HB0.out.trans (hb1.mono HB0.out.size))
  have HP1 := Lib.hid (HP0.out.below hb1)
  have HX1 := Lib.hid (HX0.out.below hb1)
  clear hb1 k0 k1 k2 k3 k4
  go_wp2
  go_loopg [5] (n0 - 1) (fun k nv wr => ∃ n : Nat, nv = .int .i64 n ∧ 1 ≤ n ∧ n + k = n0 ∧ Below w1.heap.size w1 wr)
  case atStart => exact ⟨1, rfl, by omega, by omega, Below.refl _ _⟩
  case round =>
    obtain ⟨n, rfl, hn1, hnk, hbl⟩ := hrel
    have hnl : n ≤ lot := by omega
    have hnli : (n : Int) ≤ lot := by omega
    have HBL := Lib.hid hbl
    obtain ⟨m, hm⟩ : ∃ m, (if n = n0 then c0 else n + 1) = m := ⟨_, rfl⟩
    have hm1 : n = n0 ∧ m = c0 ∨ n < n0 ∧ m = n + 1 := by
      split at hm <;> omega
    obtain ⟨ok, hok⟩ : ∃ ok, ok = gk := ⟨_, rfl⟩
    rw [← hok] at hnk
    obtain ⟨k0, k1, k2, k3, k4, -⟩ := HX1.out.below hbl
    clear hbl hm
    go_wp2
    clear k0 k1 k2 k3 k4
    go_loopg [6] m (fun k cv wz => ∃ c : Nat, cv = .int .i64 c ∧ c + k = m ∧ Below w1.heap.size w1 wz)
    case atStart => exact ⟨0, rfl, by omega, HBL.out⟩
    case round =>
      obtain ⟨c, rfl, hck, hbz⟩ := hrel
      have HBZ := Lib.hid hbz
      have HB3 := Lib.hid (HB1.out.trans (hbz.mono HB1.out.size))
      have HX3 := Lib.hid (HX1.out.below hbz)
      have HP3 := Lib.hid (HP1.out.below hbz)
      clear hbz
      by_cases hend : n < n0 ∧ gk = 0
      · have hcn : ¬ (c : Int) ≤ n := by omega
        have e1 : IntKind.i64.wrap ((n : Int) + 1) = (n : Int) + 1 := IntWalk.i64_in _ (by omega)
        go_wp2
        go_roundg (ok - 1)
        case rel => exact ⟨n + 1, by simp, by omega, by omega, HBZ.out⟩
        case measure => omega
      · have hcn : c ≤ n := by omega
        have hcni : (c : Int) ≤ n := by omega
        have hcase : (n = n0 ∧ c = c0) ∨ (0 < gk ∧ (n < n0 ∨ n = n0 ∧ c < c0)) := by omega
        have e2 : IntKind.i64.wrap ((c : Int) + 1) = (c : Int) + 1 := IntWalk.i64_in _ (by omega)
        have HF := Lib.hid (show (n = n0 ∧ m = c0 ∨ n < n0 ∧ m = n + 1) ∧ c + gk = m ∧ n + ok = n0 ∧ ok = ok from ⟨hm1, hck, hnk, rfl⟩)
        obtain ⟨k0, k1, k2, k3, k4, -⟩ := HX3.out
        rcases hcase with ⟨hn0, hc0⟩ | ⟨h0, h⟩
        · have HC := Lib.hid (HMT.out n c true)
          have HT := Lib.hid (fun w => HC.out w hnl hcn ⟨fun _ => by rw [hn0, hc0]; exact HM.out, fun _ => rfl⟩)
          have HE := Lib.hid (And.intro hn0 hc0)
          clear hm1 hck hnk hok hcn hnl hn0 hc0 hend HC
          go_wp2_with fail
          refine (HT.out _).mono ?_
          rintro e w5 ⟨rfl, hb5⟩
          have HB5 := Lib.hid (HB3.out.trans (hb5.mono HB3.out.size))
          have hp5 := HP3.out.below hb5
          have z0 := hp5.c0
          have z1 := hp5.c1
          have z2 := hp5.f 0
          have z3 := hp5.f 1
          clear hb5 hp5 k0 k1 k2 k3 k4
          go_wp2
          obtain ⟨rfl, rfl⟩ := HE.out
          have HB9 := Lib.hid ((HB5.out.setCell (p := ⟨w.heap.size + 1, 0, none⟩) (Nat.le_succ _) (.int .i64 n)).setCell (p := ⟨w.heap.size + 1, 1, none⟩) (Nat.le_succ _) (.int .i64 c))
          have y0 : ((w5.setCell ⟨w.heap.size + 1, 0, none⟩ (.int .i64 n)).setCell ⟨w.heap.size + 1, 1, none⟩ (.int .i64 c)).cell? ⟨w.heap.size + 1, 0, none⟩ = some (.int .i64 n) := by
            rw [cell_set_ne (by decide)]
            exact World.cell?_setCell_same' _ _ _ (by rw [z0]; rfl)
          have y1 : ((w5.setCell ⟨w.heap.size + 1, 0, none⟩ (.int .i64 n)).setCell ⟨w.heap.size + 1, 1, none⟩ (.int .i64 c)).cell? ⟨w.heap.size + 1, 1, none⟩ = some (.int .i64 c) :=
            World.cell?_setCell_same' _ _ _ (by rw [cell_set_ne (by decide), z1]; rfl)
          (try simp only [Exit.inBlock, Exit.then])
          refine bodyPost_ret (v := .tuple #[.agg #[.int .i64 n, .int .i64 c], .int .i64 0]) ?_ rfl ⟨rfl, HB9.out⟩
          rw [results_cell_tmp rfl]
          go_simp
        · have HC := Lib.hid (HMT.out n c false)
          have HT := Lib.hid (fun w => HC.out w hnl hcn ⟨(by intro e; cases e), fun e => absurd e (HMIN.out n c hn1 hcn h)⟩)
          have HG := Lib.hid h0
          clear hm1 hck hnk hok hcn hnl h h0 hend HC
          go_wp2_with fail
          refine (HT.out _).mono ?_
          rintro e w5 ⟨rfl, hb5⟩
          have HB5 := Lib.hid (HBZ.out.trans (hb5.mono HBZ.out.size))
          clear hb5 k0 k1 k2 k3 k4
          go_wp2
          go_roundg (gk - 1)
          case rel => exact ⟨c + 1, by simp, by have := HF.out; have := HG.out; omega, HB5.out⟩
          case measure => have := HG.out; omega
end Go.Proofs.YtfebiipggcgmdaaGreatDoor
