import Derived.Test.YtfebiipggcgmdaaGreatDoorC2
namespace Go.Proofs.YtfebiipggcgmdaaGreatDoor
open Go.RowKit

theorem good_nat_small {n c L b : Nat} (hL : L ≤ 9) (hn : n ≤ L) (hc : c ≤ n) (hb : b ≤ L) : good n c L b ≤ 126 ∧ ch L n ≤ 126 := by
  have h : ∀ l : Fin 10, ∀ n : Fin 10, ch l.1 n.1 ≤ 126 := by decide +kernel
  have h1 := h ⟨L, by omega⟩ ⟨n, by omega⟩
  exact ⟨Nat.le_trans (good_le hc hb) h1, h1⟩
theorem dl_126 {a : Nat} (h : a ≤ 126) : dl (a : Int) ≤ 20000 := Nat.le_trans ((dl_le_iff (k := 3) (by omega)).2 (by rw [Int.natAbs_natCast]; omega)) (by omega)
theorem pbg_pa {n c L b : Nat} (hL : L ≤ 9) (hn : n ≤ L) (hc : c ≤ n) (hb : b ≤ L) : pbg (pa n c L b) := by
  obtain ⟨h1, h2⟩ := good_nat_small hL hn hc hb
  exact pbg_mk (ch_pos hn) (dl_126 h1) (dl_126 h2)
theorem pbg_compl {p : Rat} (hp : pbg p) (h1 : p.num ≤ p.den) : pbg (1 - p) := by
  obtain ⟨n, hn⟩ := hp.nat
  obtain ⟨b, hb⟩ : ∃ b, n + b = p.den := ⟨p.den - n, by omega⟩
  rw [r_mk hn hb]
  have h2 := dl_nat_le (show b ≤ p.den by omega)
  have h3 := hp.1.2
  exact pbg_mk p.den_pos (by omega) h3
theorem le_one {p : Rat} (h : p.num ≤ p.den) : p ≤ 1 := by
  rw [Rat.le_iff]
  show p.num * 1 ≤ 1 * (p.den : Int)
  omega
def RetB (r : Bool) (w : World) (e : Ending) (w' : World) : Prop := e = .returned (.bool r) ∧ Below w.heap.size w w'

set_option maxRecDepth 100000 in
set_option maxHeartbeats 3200000 in
theorem rmeets (n c L G B : Nat) (p q : Rat) (r : Bool) (w : World) (hL : L ≤ 9) (hn : n ≤ L) (hc : c ≤ n) (hG : G ≤ L) (hB : B ≤ L) (hp : pbg p) (hp1 : p.num ≤ p.den) (hq : pbg q) (hr : r = true ↔ Meets L G B p q n c) :
    Calls Tryz.prog 53 #[pl n c, nd L G B (rt p) (rt q)] w (RetB r w) := by
  have HCG := Lib.hid (fun w => chance_any n c L G w hn hL hG hc)
  have HCB := Lib.hid (fun w => chance_any n c L B w hn hL hB hc)
  have HMI := Lib.hid (fun w => rminus02 1 p w ⟨bg_one, by decide⟩ hp (le_one hp1))
  rw [rt_one] at HMI
  have HOG := Lib.hid (fun w => rorder02 (pa n c L G) (1 - p) w (pbg_pa hL hn hc hG).1 (pbg_compl hp hp1).1)
  have HOB := Lib.hid (fun w => rorder02 (pa n c L B) q w (pbg_pa hL hn hc hB).1 hq.1)
  have hx := cmp_ge (pa n c L G) (1 - p)
  have hy := cmp_le (pa n c L B) q
  obtain ⟨x, hxe⟩ : ∃ x, ((pa n c L G).num * (1 - p).den - (1 - p).num * (pa n c L G).den).sign = x := ⟨_, rfl⟩
  obtain ⟨y, hye⟩ : ∃ y, ((pa n c L B).num * q.den - q.num * (pa n c L B).den).sign = y := ⟨_, rfl⟩
  have hx3 : x = -1 ∨ 0 ≤ x := by
    rw [← hxe]
    rcases Int.lt_trichotomy ((pa n c L G).num * (1 - p).den - (1 - p).num * (pa n c L G).den) 0 with h | h | h
    · exact .inl (Int.sign_eq_neg_one_of_neg h)
    · rw [h]; exact .inr (by decide)
    · rw [Int.sign_eq_one_of_pos h]; exact .inr (by decide)
  rw [hxe] at HOG hx
  rw [hye] at HOB hy
  have hway : (x = -1 ∧ r = false) ∨ (0 ≤ x ∧ y ≤ 0 ∧ r = true) ∨ (0 ≤ x ∧ ¬ y ≤ 0 ∧ r = false) := by
    unfold Meets at hr
    rw [← hx, ← hy] at hr
    by_cases g1 : 0 ≤ x
    · by_cases g2 : y ≤ 0
      · exact .inr (.inl ⟨g1, g2, hr.2 ⟨g1, g2⟩⟩)
      · exact .inr (.inr ⟨g1, g2, by cases r; rfl; exact absurd (hr.1 rfl).2 g2⟩)
    · exact .inl ⟨hx3.resolve_right g1, by cases r; rfl; exact absurd (hr.1 rfl).1 g1⟩
  unfold pa at HOG HOB
  obtain ⟨sg, hsg⟩ : ∃ s, rt (mkRat ((good n c L G : Nat) : Int) (ch L n)) = s := ⟨_, rfl⟩
  obtain ⟨sb, hsb⟩ : ∃ s, rt (mkRat ((good n c L B : Nat) : Int) (ch L n)) = s := ⟨_, rfl⟩
  rw [hsg] at HCG HOG
  rw [hsb] at HCB HOB
  obtain ⟨P, hP⟩ : ∃ P, rt p = P := ⟨_, rfl⟩
  obtain ⟨Q, hQ⟩ : ∃ Q, rt q = Q := ⟨_, rfl⟩
  obtain ⟨R, hR⟩ : ∃ R, rt (1 - p) = R := ⟨_, rfl⟩
  rw [hP] at HMI ⊢
  rw [hQ] at HOB ⊢
  rw [hR] at HMI HOG
  have HP0 := Lib.hid ((IsP.new w (.int .i64 n) (.int .i64 c) 23).below ((Below.refl _ _).alloc (Nat.le_refl _) (.cells #[.int .i64 L, .int .i64 G, .int .i64 B, .string P, .string Q] 38)))
  have HX0 := Lib.hid (IsNd.new (w.alloc (.cells #[.int .i64 n, .int .i64 c] 23)) L G B P Q)
  have HB0 := Lib.hid (((Below.refl w.heap.size w).alloc (Nat.le_refl _) (.cells #[.int .i64 n, .int .i64 c] 23)).alloc (by simp) (.cells #[.int .i64 L, .int .i64 G, .int .i64 B, .string P, .string Q] 38))
  rw [show (w.alloc (.cells #[.int .i64 n, .int .i64 c] 23)).heap.size = w.heap.size + 1 by simp] at HX0
  unfold RetB
  unfold pl at HCG HCB ⊢
  unfold nd
  clear hx3 hL hn hc hG hB hp hp1 hq hr hx hy hxe hye hsg hsb hP hQ hR
  rcases hway with ⟨rfl, rfl⟩ | ⟨h1, h2, rfl⟩ | ⟨h1, h2, rfl⟩
  · skip
    go_enter Tryz.func53, Tryz.ntmps53
    go_wp2_with fail
    obtain ⟨W0, hW0⟩ : ∃ W0, (w.alloc (.cells #[.int .i64 n, .int .i64 c] 23)).alloc (.cells #[.int .i64 L, .int .i64 G, .int .i64 B, .string P, .string Q] 38) = W0 := ⟨_, rfl⟩
    rw [hW0] at HP0 HX0 HB0 ⊢
    clear hW0
    have p00 := HP0.out.n
    have p10 := HP0.out.c
    have n00 := HX0.out.c0
    have n10 := HX0.out.c1
    have n20 := HX0.out.c2
    have n30 := HX0.out.c3
    have n40 := HX0.out.c4
    refine wp_region_held_drew (S := (fun w' => w'.cell? ⟨w.heap.size, 0, none⟩ = some (.int .i64 n) ∧ w'.cell? ⟨w.heap.size, 1, none⟩ = some (.int .i64 c) ∧ w'.cell? ⟨w.heap.size + 1, 0, none⟩ = some (.int .i64 L) ∧ w'.cell? ⟨w.heap.size + 1, 1, none⟩ = some (.int .i64 G) ∧ w'.cell? ⟨w.heap.size + 1, 2, none⟩ = some (.int .i64 B) ∧ w'.cell? ⟨w.heap.size + 1, 3, none⟩ = some (.string P) ∧ w'.cell? ⟨w.heap.size + 1, 4, none⟩ = some (.string Q))) (by kernel_rfl) ⟨p00, p10, n00, n10, n20, n30, n40⟩ (fun hHeld => ?_)
    refine wpAnyH_take (i := 0) (v := ?v0) rfl (by kernel_rfl) (by kernel_rfl) (by kernel_rfl) (fun _ _ _ h => h) (Or.inl ⟨by rfl, ?y0⟩) (by assumption) ?r0
    case y0 => (intro w hSw; (try dsimp only at hSw); go_simp; try with_reducible rfl)
    try simp only [Act.put, List.setIfInBounds_toArray]
    refine wpAnyH_take (i := 1) (v := ?v1) rfl (by kernel_rfl) (by kernel_rfl) (by kernel_rfl) (fun _ _ _ h => h) (Or.inl ⟨by rfl, ?y1⟩) (by assumption) ?r1
    case y1 => (intro w hSw; (try dsimp only at hSw); go_simp; try with_reducible rfl)
    try simp only [Act.put]
    refine wpAnyH_take (i := 2) (v := ?v2) rfl (by kernel_rfl) (by kernel_rfl) (by kernel_rfl) (fun _ _ _ h => h) (Or.inl ⟨by rfl, ?y2⟩) (by assumption) ?r2
    case y2 => (intro w hSw; (try dsimp only at hSw); go_simp; try with_reducible rfl)
    try simp only [Act.put]
    refine wpAnyH_take (i := 3) (v := ?v3) rfl (by kernel_rfl) (by kernel_rfl) (by kernel_rfl) (fun _ _ _ h => h) (Or.inl ⟨by rfl, ?y3⟩) (by assumption) ?r3
    case y3 => (intro w hSw; (try dsimp only at hSw); go_simp; try with_reducible rfl)
    try simp only [Act.put]
    refine wpAnyH_take (i := 4) (v := ?v4) rfl (by kernel_rfl) (by kernel_rfl) (by kernel_rfl) (fun _ _ _ h => h) (Or.inl ⟨by rfl, ?y4⟩) (by assumption) ?r4
    case y4 => (intro w hSw; (try dsimp only at hSw); go_simp; try with_reducible rfl)
    try simp only [Act.put]
    refine wpAnyH_take (i := 6) (v := ?v6) rfl (by kernel_rfl) (by kernel_rfl) (by kernel_rfl) (fun _ _ _ h => h) (Or.inl ⟨by rfl, ?y6⟩) (by assumption) ?r6
    case y6 => (intro w hSw; (try dsimp only at hSw); go_simp; try with_reducible rfl)
    try simp only [Act.put]
    refine wpAnyH_take (i := 7) (v := ?v7) rfl (by kernel_rfl) (by kernel_rfl) (by kernel_rfl) (fun _ _ _ h => h) (Or.inl ⟨by rfl, ?y7⟩) (by assumption) ?r7
    case y7 => (intro w hSw; (try dsimp only at hSw); go_simp; try with_reducible rfl)
    try simp only [Act.put]
    refine wpAnyH_ready (rs := [5]) (by kernel_rfl) (by simp) ?_
    refine AllReadyH.cons rfl (fun K hK => ?_) AllReadyH.nil
    go_simp
    (go_at_call 46; ((with_reducible refine (HCG.out _).mono ?_); rintro e wA ⟨rfl, hbA⟩); have HBA := Lib.hid (HB0.out.drew.trans (hbA.mono HB0.out.drew.size)); have HPA := Lib.hid ((show IsP W0.drew w.heap.size (.int .i64 n) (.int .i64 c) from ⟨HP0.out.n, HP0.out.c, HP0.out.l⟩).below hbA); have HXA := Lib.hid ((show IsNd W0.drew (w.heap.size + 1) L G B P Q from ⟨HX0.out.c0, HX0.out.c1, HX0.out.c2, HX0.out.c3, HX0.out.c4, HX0.out.l⟩).below hbA); have p0A := HPA.out.n; have p1A := HPA.out.c; have n0A := HXA.out.c0; have n1A := HXA.out.c1; have n2A := HXA.out.c2; have n3A := HXA.out.c3; have n4A := HXA.out.c4; clear hbA)
    refine hK.out _ _ ?_ (fun hHeld => ?_)
    · exact ⟨p0A, p1A, n0A, n1A, n2A, n3A, n4A⟩
    clear hK K
    try simp only [Act.put, List.setIfInBounds_toArray, List.set_cons_zero, List.set_cons_succ]
    refine wpAnyH_ready (rs := [8]) (by kernel_rfl) (by simp) ?_
    refine AllReadyH.cons rfl (fun K hK => ?_) AllReadyH.nil
    go_simp
    (go_at_call 101; ((with_reducible refine (HMI.out _).mono ?_); rintro e wB ⟨rfl, hbB⟩); have HBB := Lib.hid (HBA.out.trans (hbB.mono HBA.out.size)); have HPB := Lib.hid (HPA.out.below hbB); have HXB := Lib.hid (HXA.out.below hbB); have p0B := HPB.out.n; have p1B := HPB.out.c; have n0B := HXB.out.c0; have n1B := HXB.out.c1; have n2B := HXB.out.c2; have n3B := HXB.out.c3; have n4B := HXB.out.c4; clear hbB)
    refine hK.out _ _ ?_ (fun hHeld => ?_)
    · exact ⟨p0B, p1B, n0B, n1B, n2B, n3B, n4B⟩
    clear hK K
    try simp only [Act.put, List.setIfInBounds_toArray, List.set_cons_zero, List.set_cons_succ]
    refine wpAnyH_ready (rs := [9]) (by kernel_rfl) (by simp) ?_
    refine AllReadyH.cons rfl (fun K hK => ?_) AllReadyH.nil
    go_simp
    (go_at_call 88; ((with_reducible refine (HOG.out _).mono ?_); rintro e wC ⟨rfl, hbC⟩); have HBC := Lib.hid (HBB.out.trans (hbC.mono HBB.out.size)); have HPC := Lib.hid (HPB.out.below hbC); have HXC := Lib.hid (HXB.out.below hbC); have p0C := HPC.out.n; have p1C := HPC.out.c; have n0C := HXC.out.c0; have n1C := HXC.out.c1; have n2C := HXC.out.c2; have n3C := HXC.out.c3; have n4C := HXC.out.c4; clear hbC)
    refine hK.out _ _ ?_ (fun hHeld => ?_)
    · exact ⟨p0C, p1C, n0C, n1C, n2C, n3C, n4C⟩
    clear hK K
    try simp only [Act.put, List.setIfInBounds_toArray, List.set_cons_zero, List.set_cons_succ]
    refine wpAnyH_take (i := 10) (v := ?v10) rfl (by kernel_rfl) (by kernel_rfl) (by kernel_rfl) (fun _ _ _ h => h) (Or.inl ⟨by rfl, ?y10⟩) (by assumption) ?r10
    case y10 => (intro w hSw; (try dsimp only at hSw); go_simp; try with_reducible rfl)
    try simp only [Act.put, List.setIfInBounds_toArray]
    refine wpAnyH_take (i := 11) (v := ?v11) rfl (by kernel_rfl) (by kernel_rfl) (by kernel_rfl) (fun _ _ _ h => h) (Or.inl ⟨by rfl, ?y11⟩) (by assumption) ?r11
    case y11 => (intro w hSw; (try dsimp only at hSw); go_simp; try with_reducible rfl)
    try simp only [Act.put]
    refine wpAnyH_take (i := 12) (v := undef) rfl (by kernel_rfl) (by kernel_rfl) (by kernel_rfl) (fun _ _ _ h => h) (Or.inr ⟨by rfl, rfl⟩) (by assumption) ?_
    try simp only [Act.put]
    refine wpAnyH_take (i := 13) (v := undef) rfl (by kernel_rfl) (by kernel_rfl) (by kernel_rfl) (fun _ _ _ h => h) (Or.inr ⟨by rfl, rfl⟩) (by assumption) ?_
    try simp only [Act.put]
    refine wpAnyH_take (i := 14) (v := undef) rfl (by kernel_rfl) (by kernel_rfl) (by kernel_rfl) (fun _ _ _ h => h) (Or.inr ⟨by rfl, rfl⟩) (by assumption) ?_
    try simp only [Act.put]
    refine wpAnyH_take (i := 15) (v := undef) rfl (by kernel_rfl) (by kernel_rfl) (by kernel_rfl) (fun _ _ _ h => h) (Or.inr ⟨by rfl, rfl⟩) (by assumption) ?_
    try simp only [Act.put]
    refine wpAnyH_take (i := 16) (v := undef) rfl (by kernel_rfl) (by kernel_rfl) (by kernel_rfl) (fun _ _ _ h => h) (Or.inr ⟨by rfl, rfl⟩) (by assumption) ?_
    try simp only [Act.put]
    refine wpAnyH_take (i := 18) (v := undef) rfl (by kernel_rfl) (by kernel_rfl) (by kernel_rfl) (fun _ _ _ h => h) (Or.inr ⟨by rfl, rfl⟩) (by assumption) ?_
    try simp only [Act.put]
    refine wpAnyH_take (i := 19) (v := undef) rfl (by kernel_rfl) (by kernel_rfl) (by kernel_rfl) (fun _ _ _ h => h) (Or.inr ⟨by rfl, rfl⟩) (by assumption) ?_
    try simp only [Act.put]
    refine wpAnyH_ready (rs := [17]) (by kernel_rfl) (by simp) ?_
    refine AllReadyH.cons rfl (fun K hK => ?_) AllReadyH.nil
    go_simp
    refine hK.out _ _ ?_ (fun hHeld => ?_)
    · exact ⟨p0C, p1C, n0C, n1C, n2C, n3C, n4C⟩
    clear hK K
    try simp only [Act.put, List.setIfInBounds_toArray, List.set_cons_zero, List.set_cons_succ]
    refine wpAnyH_ready (rs := [20]) (by kernel_rfl) (by simp) ?_
    refine AllReadyH.cons rfl (fun K hK => ?_) AllReadyH.nil
    go_simp
    refine hK.out _ _ ?_ (fun hHeld => ?_)
    · exact ⟨p0C, p1C, n0C, n1C, n2C, n3C, n4C⟩
    clear hK K
    try simp only [Act.put, List.setIfInBounds_toArray, List.set_cons_zero, List.set_cons_succ]
    refine wpAnyH_take (i := 21) (v := undef) rfl (by kernel_rfl) (by kernel_rfl) (by kernel_rfl) (fun _ _ _ h => h) (Or.inr ⟨by rfl, rfl⟩) (by assumption) ?_
    try simp only [Act.put, List.setIfInBounds_toArray]
    refine wpAnyH_ready (rs := [22]) (by kernel_rfl) (by simp) ?_
    refine AllReadyH.cons rfl (fun K hK => ?_) AllReadyH.nil
    go_simp
    refine hK.out _ _ ?_ (fun hHeld => ?_)
    · exact ⟨p0C, p1C, n0C, n1C, n2C, n3C, n4C⟩
    clear hK K
    try simp only [Act.put, List.setIfInBounds_toArray, List.set_cons_zero, List.set_cons_succ]
    refine wpAnyH_ready (rs := [23]) (by kernel_rfl) (by simp) ?_
    refine AllReadyH.cons rfl (fun K hK => ?_) AllReadyH.nil
    go_simp
    refine hK.out _ _ ?_ (fun hHeld => ?_)
    · exact ⟨p0C, p1C, n0C, n1C, n2C, n3C, n4C⟩
    clear hK K
    try simp only [Act.put, List.setIfInBounds_toArray, List.set_cons_zero, List.set_cons_succ]
    refine wpAnyH_done (by kernel_rfl) ?_ _
    go_wp2
    go_ret
    exact ⟨rfl, HBC.out⟩
  · have g1 : decide (0 ≤ x) = true := decide_eq_true h1
    have g2 : decide (y ≤ 0) = true := decide_eq_true h2
    go_enter Tryz.func53, Tryz.ntmps53
    go_wp2_with fail
    obtain ⟨W0, hW0⟩ : ∃ W0, (w.alloc (.cells #[.int .i64 n, .int .i64 c] 23)).alloc (.cells #[.int .i64 L, .int .i64 G, .int .i64 B, .string P, .string Q] 38) = W0 := ⟨_, rfl⟩
    rw [hW0] at HP0 HX0 HB0 ⊢
    clear hW0
    have p00 := HP0.out.n
    have p10 := HP0.out.c
    have n00 := HX0.out.c0
    have n10 := HX0.out.c1
    have n20 := HX0.out.c2
    have n30 := HX0.out.c3
    have n40 := HX0.out.c4
    go_region_held3 (fun w' => w'.cell? ⟨w.heap.size, 0, none⟩ = some (.int .i64 n) ∧ w'.cell? ⟨w.heap.size, 1, none⟩ = some (.int .i64 c) ∧ w'.cell? ⟨w.heap.size + 1, 0, none⟩ = some (.int .i64 L) ∧ w'.cell? ⟨w.heap.size + 1, 1, none⟩ = some (.int .i64 G) ∧ w'.cell? ⟨w.heap.size + 1, 2, none⟩ = some (.int .i64 B) ∧ w'.cell? ⟨w.heap.size + 1, 3, none⟩ = some (.string P) ∧ w'.cell? ⟨w.heap.size + 1, 4, none⟩ = some (.string Q)) (first | exact ⟨p00, p10, n00, n10, n20, n30, n40⟩ | exact ⟨p0A, p1A, n0A, n1A, n2A, n3A, n4A⟩ | exact ⟨p0B, p1B, n0B, n1B, n2B, n3B, n4B⟩ | exact ⟨p0C, p1C, n0C, n1C, n2C, n3C, n4C⟩ | exact ⟨p0D, p1D, n0D, n1D, n2D, n3D, n4D⟩ | exact ⟨p0E, p1E, n0E, n1E, n2E, n3E, n4E⟩) (first
      | (go_at_call 46; ((with_reducible refine (HCG.out _).mono ?_); rintro e wA ⟨rfl, hbA⟩); have HBA := Lib.hid (HB0.out.drew.trans (hbA.mono HB0.out.drew.size)); have HPA := Lib.hid ((show IsP W0.drew w.heap.size (.int .i64 n) (.int .i64 c) from ⟨HP0.out.n, HP0.out.c, HP0.out.l⟩).below hbA); have HXA := Lib.hid ((show IsNd W0.drew (w.heap.size + 1) L G B P Q from ⟨HX0.out.c0, HX0.out.c1, HX0.out.c2, HX0.out.c3, HX0.out.c4, HX0.out.l⟩).below hbA); have p0A := HPA.out.n; have p1A := HPA.out.c; have n0A := HXA.out.c0; have n1A := HXA.out.c1; have n2A := HXA.out.c2; have n3A := HXA.out.c3; have n4A := HXA.out.c4; clear hbA)
      | (go_at_call 101; ((with_reducible refine (HMI.out _).mono ?_); rintro e wB ⟨rfl, hbB⟩); have HBB := Lib.hid (HBA.out.trans (hbB.mono HBA.out.size)); have HPB := Lib.hid (HPA.out.below hbB); have HXB := Lib.hid (HXA.out.below hbB); have p0B := HPB.out.n; have p1B := HPB.out.c; have n0B := HXB.out.c0; have n1B := HXB.out.c1; have n2B := HXB.out.c2; have n3B := HXB.out.c3; have n4B := HXB.out.c4; clear hbB)
      | (go_at_call 88; ((with_reducible refine (HOG.out _).mono ?_); rintro e wC ⟨rfl, hbC⟩); have HBC := Lib.hid (HBB.out.trans (hbC.mono HBB.out.size)); have HPC := Lib.hid (HPB.out.below hbC); have HXC := Lib.hid (HXB.out.below hbC); have p0C := HPC.out.n; have p1C := HPC.out.c; have n0C := HXC.out.c0; have n1C := HXC.out.c1; have n2C := HXC.out.c2; have n3C := HXC.out.c3; have n4C := HXC.out.c4; clear hbC)
      | (go_at_call 46; ((with_reducible refine (HCB.out _).mono ?_); rintro e wD ⟨rfl, hbD⟩); have HBD := Lib.hid (HBC.out.trans (hbD.mono HBC.out.size)); have HPD := Lib.hid (HPC.out.below hbD); have HXD := Lib.hid (HXC.out.below hbD); have p0D := HPD.out.n; have p1D := HPD.out.c; have n0D := HXD.out.c0; have n1D := HXD.out.c1; have n2D := HXD.out.c2; have n3D := HXD.out.c3; have n4D := HXD.out.c4; clear hbD)
      | (go_at_call 88; ((with_reducible refine (HOB.out _).mono ?_); rintro e wE ⟨rfl, hbE⟩); have HBE := Lib.hid (HBD.out.trans (hbE.mono HBD.out.size)); have HPE := Lib.hid (HPD.out.below hbE); have HXE := Lib.hid (HXD.out.below hbE); have p0E := HPE.out.n; have p1E := HPE.out.c; have n0E := HXE.out.c0; have n1E := HXE.out.c1; have n2E := HXE.out.c2; have n3E := HXE.out.c3; have n4E := HXE.out.c4; clear hbE))
    go_wp2
    go_ret
    exact ⟨rfl, HBE.out⟩
  · have g1 : decide (0 ≤ x) = true := decide_eq_true h1
    have g2 : decide (y ≤ 0) = false := decide_eq_false h2
    go_enter Tryz.func53, Tryz.ntmps53
    go_wp2_with fail
    obtain ⟨W0, hW0⟩ : ∃ W0, (w.alloc (.cells #[.int .i64 n, .int .i64 c] 23)).alloc (.cells #[.int .i64 L, .int .i64 G, .int .i64 B, .string P, .string Q] 38) = W0 := ⟨_, rfl⟩
    rw [hW0] at HP0 HX0 HB0 ⊢
    clear hW0
    have p00 := HP0.out.n
    have p10 := HP0.out.c
    have n00 := HX0.out.c0
    have n10 := HX0.out.c1
    have n20 := HX0.out.c2
    have n30 := HX0.out.c3
    have n40 := HX0.out.c4
    go_region_held3 (fun w' => w'.cell? ⟨w.heap.size, 0, none⟩ = some (.int .i64 n) ∧ w'.cell? ⟨w.heap.size, 1, none⟩ = some (.int .i64 c) ∧ w'.cell? ⟨w.heap.size + 1, 0, none⟩ = some (.int .i64 L) ∧ w'.cell? ⟨w.heap.size + 1, 1, none⟩ = some (.int .i64 G) ∧ w'.cell? ⟨w.heap.size + 1, 2, none⟩ = some (.int .i64 B) ∧ w'.cell? ⟨w.heap.size + 1, 3, none⟩ = some (.string P) ∧ w'.cell? ⟨w.heap.size + 1, 4, none⟩ = some (.string Q)) (first | exact ⟨p00, p10, n00, n10, n20, n30, n40⟩ | exact ⟨p0A, p1A, n0A, n1A, n2A, n3A, n4A⟩ | exact ⟨p0B, p1B, n0B, n1B, n2B, n3B, n4B⟩ | exact ⟨p0C, p1C, n0C, n1C, n2C, n3C, n4C⟩ | exact ⟨p0D, p1D, n0D, n1D, n2D, n3D, n4D⟩ | exact ⟨p0E, p1E, n0E, n1E, n2E, n3E, n4E⟩) (first
      | (go_at_call 46; ((with_reducible refine (HCG.out _).mono ?_); rintro e wA ⟨rfl, hbA⟩); have HBA := Lib.hid (HB0.out.drew.trans (hbA.mono HB0.out.drew.size)); have HPA := Lib.hid ((show IsP W0.drew w.heap.size (.int .i64 n) (.int .i64 c) from ⟨HP0.out.n, HP0.out.c, HP0.out.l⟩).below hbA); have HXA := Lib.hid ((show IsNd W0.drew (w.heap.size + 1) L G B P Q from ⟨HX0.out.c0, HX0.out.c1, HX0.out.c2, HX0.out.c3, HX0.out.c4, HX0.out.l⟩).below hbA); have p0A := HPA.out.n; have p1A := HPA.out.c; have n0A := HXA.out.c0; have n1A := HXA.out.c1; have n2A := HXA.out.c2; have n3A := HXA.out.c3; have n4A := HXA.out.c4; clear hbA)
      | (go_at_call 101; ((with_reducible refine (HMI.out _).mono ?_); rintro e wB ⟨rfl, hbB⟩); have HBB := Lib.hid (HBA.out.trans (hbB.mono HBA.out.size)); have HPB := Lib.hid (HPA.out.below hbB); have HXB := Lib.hid (HXA.out.below hbB); have p0B := HPB.out.n; have p1B := HPB.out.c; have n0B := HXB.out.c0; have n1B := HXB.out.c1; have n2B := HXB.out.c2; have n3B := HXB.out.c3; have n4B := HXB.out.c4; clear hbB)
      | (go_at_call 88; ((with_reducible refine (HOG.out _).mono ?_); rintro e wC ⟨rfl, hbC⟩); have HBC := Lib.hid (HBB.out.trans (hbC.mono HBB.out.size)); have HPC := Lib.hid (HPB.out.below hbC); have HXC := Lib.hid (HXB.out.below hbC); have p0C := HPC.out.n; have p1C := HPC.out.c; have n0C := HXC.out.c0; have n1C := HXC.out.c1; have n2C := HXC.out.c2; have n3C := HXC.out.c3; have n4C := HXC.out.c4; clear hbC)
      | (go_at_call 46; ((with_reducible refine (HCB.out _).mono ?_); rintro e wD ⟨rfl, hbD⟩); have HBD := Lib.hid (HBC.out.trans (hbD.mono HBC.out.size)); have HPD := Lib.hid (HPC.out.below hbD); have HXD := Lib.hid (HXC.out.below hbD); have p0D := HPD.out.n; have p1D := HPD.out.c; have n0D := HXD.out.c0; have n1D := HXD.out.c1; have n2D := HXD.out.c2; have n3D := HXD.out.c3; have n4D := HXD.out.c4; clear hbD)
      | (go_at_call 88; ((with_reducible refine (HOB.out _).mono ?_); rintro e wE ⟨rfl, hbE⟩); have HBE := Lib.hid (HBD.out.trans (hbE.mono HBD.out.size)); have HPE := Lib.hid (HPD.out.below hbE); have HXE := Lib.hid (HXD.out.below hbE); have p0E := HPE.out.n; have p1E := HPE.out.c; have n0E := HXE.out.c0; have n1E := HXE.out.c1; have n2E := HXE.out.c2; have n3E := HXE.out.c3; have n4E := HXE.out.c4; clear hbE))
    go_wp2
    go_ret
    exact ⟨rfl, HBE.out⟩
end Go.Proofs.YtfebiipggcgmdaaGreatDoor
