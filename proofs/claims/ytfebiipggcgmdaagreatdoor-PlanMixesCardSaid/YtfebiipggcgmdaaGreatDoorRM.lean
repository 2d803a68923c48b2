import Derived.Test.YtfebiipggcgmdaaGreatDoorRL
namespace Go.Proofs.YtfebiipggcgmdaaGreatDoor
open Go.RowKit

/-! ## The reference's rational numbers of any length -/
/-- numerator and denominator are not too long -/
def bg (q : Rat) : Prop := dl q.num ≤ 20000 ∧ dl (q.den : Int) ≤ 20000
theorem bg.size {q : Rat} (h : bg q) : (rt q).size < 4294967296 := by
  have h1 := itoa_length q.num
  have h2 : (Lib.decDigits q.den).length = dl (q.den : Int) := by rw [Lib.decDigits_length]; rfl
  have h3 := h.1
  have h4 := h.2
  have h5 : (rt q).size = (rt q).data.toList.length := by rw [Array.length_toList]; rfl
  rw [h5, rt_list]
  split at h1 <;> split <;> simp <;> omega
theorem bg.times {a b : Int} (ha : dl a ≤ 20000) (hb : dl b ≤ 20000) : TimesOk a b := fun w => rtimes_any a b w (by omega) (by omega)
theorem bg.cross {a b : Rat} (ha : bg a) (hb : bg b) (w : World) :
    Calls Tryz.prog 83 #[.string (rt a), .string (rt b)] w fun e w' => ∃ g, e = .returned (.slice (some ⟨g, 0, none⟩) 5 5) ∧ IsX w' g a b ∧ Below w.heap.size w w' :=
  crossed_of a b w ha.size hb.size (bg.times ha.1 hb.2) (bg.times hb.1 ha.2) (bg.times ha.2 hb.2) (bg.times ha.1 hb.1) (bg.times ha.2 hb.1)
/-- the order of two right numbers -/
theorem rorder02 (a b : Rat) (w : World) (ha : bg a) (hb : bg b) :
    Calls Tryz.prog 88 #[.string (rt a), .string (rt b)] w fun e w' => e = .returned (.int .i64 (a.num * b.den - b.num * a.den).sign) ∧ Below w.heap.size w w' :=
  rorder_of a b _ w ha.size hb.size (bg.times ha.1 hb.2) (bg.times hb.1 ha.2) (bg.times ha.2 hb.2) (bg.times ha.1 hb.1) (bg.times ha.2 hb.1)
    (fun w => rorder_any _ _ w (Nat.le_trans (dl_mul _ _) (by have := ha.1; have := hb.2; omega)) (Nat.le_trans (dl_mul _ _) (by have := hb.1; have := ha.2; omega)))

set_option maxRecDepth 100000 in
set_option maxHeartbeats 1600000 in
/-- a sum, out of the integers' -/
theorem rplus_core (a b : Rat) (s : Nat) (q : Nat) (w : World) (ha : bg a) (hb : bg b)
    (hI : ∀ w, Calls Tryz.prog 84 #[.string (it (a.num * b.den)), .string (it (b.num * a.den))] w fun e w' => e = .returned (.string (it (s : Int))) ∧ Below w.heap.size w w')
    (hL : ∀ w, Calls Tryz.prog 66 #[.string (it (s : Int)), .string (it ((a.den : Int) * b.den))] w fun e w' => e = .returned (.string (rt (mkRat s q))) ∧ Below w.heap.size w w') :
    Calls Tryz.prog 34 #[.string (rt a), .string (rt b)] w fun e w' => e = .returned (.string (rt (mkRat s q))) ∧ Below w.heap.size w w' := by
  have HX := Lib.hid (fun w => bg.cross ha hb w)
  have HI := Lib.hid hI
  have HL := Lib.hid hL
  clear ha hb hI hL
  go_enter Tryz.func34, Tryz.ntmps34
  go_wp2_with fail
  refine (HX.out _).mono ?_
  rintro e w1 ⟨g, rfl, hx, hb1⟩
  have B1 := Lib.hid hb1
  have c0 := hx.nq
  have c1 := hx.mp
  have c2 := hx.pq
  have hg := World.block_lt_of_cell? _ _ c2
  clear hx hb1
  go_wp2_with fail
  go_region_held3 (fun w' => w'.cell? ⟨g, 0, none⟩ = some (.string (it (a.num * b.den))) ∧ w'.cell? ⟨g, 1, none⟩ = some (.string (it (b.num * a.den))) ∧ w'.cell? ⟨g, 2, none⟩ = some (.string (it ((a.den : Int) * b.den)))) (first | exact ⟨c0, c1, c2⟩ | exact ⟨a0, a1, a2⟩ | exact ⟨d0, d1, d2⟩) (first
    | (go_at_call 84; refine (HI.out _).mono ?_; rintro e wa ⟨rfl, hba⟩; have BA := Lib.hid (B1.out.drew.trans (hba.mono B1.out.drew.size)); have a0 := (hba.cell (p := ⟨g, 0, none⟩) hg).trans c0; have a1 := (hba.cell (p := ⟨g, 1, none⟩) hg).trans c1; have a2 := (hba.cell (p := ⟨g, 2, none⟩) hg).trans c2; have hga := World.block_lt_of_cell? _ _ a2; clear hba)
    | (go_at_call 66; refine (HL.out _).mono ?_; rintro e wb ⟨rfl, hbb⟩; have BC := Lib.hid (BA.out.trans (hbb.mono BA.out.size)); have d0 := (hbb.cell (p := ⟨g, 0, none⟩) hga).trans a0; have d1 := (hbb.cell (p := ⟨g, 1, none⟩) hga).trans a1; have d2 := (hbb.cell (p := ⟨g, 2, none⟩) hga).trans a2; clear hbb))
  go_wp2
  go_ret
  exact ⟨rfl, BC.out⟩
set_option maxRecDepth 100000 in
set_option maxHeartbeats 1600000 in
/-- a difference, out of the integers' -/
theorem rminus_core (a b : Rat) (s : Nat) (q : Nat) (w : World) (ha : bg a) (hb : bg b)
    (hI : ∀ w, Calls Tryz.prog 125 #[.string (it (a.num * b.den)), .string (it (b.num * a.den))] w fun e w' => e = .returned (.string (it (s : Int))) ∧ Below w.heap.size w w')
    (hL : ∀ w, Calls Tryz.prog 66 #[.string (it (s : Int)), .string (it ((a.den : Int) * b.den))] w fun e w' => e = .returned (.string (rt (mkRat s q))) ∧ Below w.heap.size w w') :
    Calls Tryz.prog 101 #[.string (rt a), .string (rt b)] w fun e w' => e = .returned (.string (rt (mkRat s q))) ∧ Below w.heap.size w w' := by
  have HX := Lib.hid (fun w => bg.cross ha hb w)
  have HI := Lib.hid hI
  have HL := Lib.hid hL
  clear ha hb hI hL
  go_enter Tryz.func101, Tryz.ntmps101
  go_wp2_with fail
  refine (HX.out _).mono ?_
  rintro e w1 ⟨g, rfl, hx, hb1⟩
  have B1 := Lib.hid hb1
  have c0 := hx.nq
  have c1 := hx.mp
  have c2 := hx.pq
  have hg := World.block_lt_of_cell? _ _ c2
  clear hx hb1
  go_wp2_with fail
  go_region_held3 (fun w' => w'.cell? ⟨g, 0, none⟩ = some (.string (it (a.num * b.den))) ∧ w'.cell? ⟨g, 1, none⟩ = some (.string (it (b.num * a.den))) ∧ w'.cell? ⟨g, 2, none⟩ = some (.string (it ((a.den : Int) * b.den)))) (first | exact ⟨c0, c1, c2⟩ | exact ⟨a0, a1, a2⟩ | exact ⟨d0, d1, d2⟩) (first
    | (go_at_call 125; refine (HI.out _).mono ?_; rintro e wa ⟨rfl, hba⟩; have BA := Lib.hid (B1.out.drew.trans (hba.mono B1.out.drew.size)); have a0 := (hba.cell (p := ⟨g, 0, none⟩) hg).trans c0; have a1 := (hba.cell (p := ⟨g, 1, none⟩) hg).trans c1; have a2 := (hba.cell (p := ⟨g, 2, none⟩) hg).trans c2; have hga := World.block_lt_of_cell? _ _ a2; clear hba)
    | (go_at_call 66; refine (HL.out _).mono ?_; rintro e wb ⟨rfl, hbb⟩; have BC := Lib.hid (BA.out.trans (hbb.mono BA.out.size)); have d0 := (hbb.cell (p := ⟨g, 0, none⟩) hga).trans a0; have d1 := (hbb.cell (p := ⟨g, 1, none⟩) hga).trans a1; have d2 := (hbb.cell (p := ⟨g, 2, none⟩) hga).trans a2; clear hbb))
  go_wp2
  go_ret
  exact ⟨rfl, BC.out⟩
set_option maxRecDepth 100000 in
set_option maxHeartbeats 1600000 in
/-- a product -/
theorem rtimes_core (a b : Rat) (s : Nat) (q : Nat) (w : World) (ha : bg a) (hb : bg b)
    (hL : ∀ w, Calls Tryz.prog 66 #[.string (it (a.num * b.num)), .string (it ((a.den : Int) * b.den))] w fun e w' => e = .returned (.string (rt (mkRat s q))) ∧ Below w.heap.size w w') :
    Calls Tryz.prog 35 #[.string (rt a), .string (rt b)] w fun e w' => e = .returned (.string (rt (mkRat s q))) ∧ Below w.heap.size w w' := by
  have HX := Lib.hid (fun w => bg.cross ha hb w)
  have HL := Lib.hid hL
  clear ha hb hL
  go_enter Tryz.func35, Tryz.ntmps35
  go_wp2_with fail
  refine (HX.out _).mono ?_
  rintro e w1 ⟨g, rfl, hx, hb1⟩
  have B1 := Lib.hid hb1
  have c0 := hx.nm
  have c2 := hx.pq
  have hg := World.block_lt_of_cell? _ _ c2
  clear hx hb1
  go_wp2_with fail
  go_region_held3 (fun w' => w'.cell? ⟨g, 3, none⟩ = some (.string (it (a.num * b.num))) ∧ w'.cell? ⟨g, 2, none⟩ = some (.string (it ((a.den : Int) * b.den)))) (first | exact ⟨c0, c2⟩ | exact ⟨a0, a2⟩) (
      (go_at_call 66; refine (HL.out _).mono ?_; rintro e wa ⟨rfl, hba⟩; have BA := Lib.hid (B1.out.drew.trans (hba.mono B1.out.drew.size)); have a0 := (hba.cell (p := ⟨g, 3, none⟩) hg).trans c0; have a2 := (hba.cell (p := ⟨g, 2, none⟩) hg).trans c2; clear hba))
  go_wp2
  go_ret
  exact ⟨rfl, BA.out⟩

/-- right numbers that are not negative -/
def pbg (q : Rat) : Prop := bg q ∧ 0 ≤ q.num
theorem pbg.nat {q : Rat} (h : pbg q) : ∃ n : Nat, q.num = (n : Int) := Int.eq_ofNat_of_zero_le h.2
theorem lowest_call {z : Int} {s p q : Nat} (hz : z = (s : Int)) (hs : dl z ≤ 50000) (hp : dl (p : Int) ≤ 20000) (hq : dl (q : Int) ≤ 20000) (h0 : 0 < p) (h1 : 0 < q) (w : World) :
    Calls Tryz.prog 66 #[.string (it (s : Int)), .string (it ((p : Int) * q))] w fun e w' => e = .returned (.string (rt (mkRat s (p * q)))) ∧ Below w.heap.size w w' := by
  subst hz
  have h := rlowest_nat s (p * q) w (Nat.mul_pos h0 h1) hs (by rw [Int.natCast_mul]; exact Nat.le_trans (dl_mul _ _) (by omega))
  rw [Int.natCast_mul] at h
  exact h
theorem dl_sub {a b : Int} {k : Nat} (ha : dl a ≤ k) (hb : dl b ≤ k) : dl (a - b) ≤ k + 1 := by
  rw [Int.sub_eq_add_neg]; exact dl_add ha (by rw [dl_neg]; exact hb)
theorem rplus02 (a b : Rat) (w : World) (ha : pbg a) (hb : pbg b) :
    Calls Tryz.prog 34 #[.string (rt a), .string (rt b)] w fun e w' => e = .returned (.string (rt (a + b))) ∧ Below w.heap.size w w' := by
  obtain ⟨n, hn⟩ := ha.nat
  obtain ⟨m, hm⟩ := hb.nat
  have h1 : dl (a.num * b.den) ≤ 40000 := Nat.le_trans (dl_mul _ _) (by have := ha.1.1; have := hb.1.2; omega)
  have h2 : dl (b.num * a.den) ≤ 40000 := Nat.le_trans (dl_mul _ _) (by have := hb.1.1; have := ha.1.2; omega)
  have e : a.num * b.den + b.num * a.den = ((n * b.den + m * a.den : Nat) : Int) := by rw [hn, hm]; simp
  have hs : dl (a.num * b.den + b.num * a.den) ≤ 40001 := dl_add h1 h2
  have hr : a + b = mkRat ((n * b.den + m * a.den : Nat) : Int) (a.den * b.den) := by rw [Rat.add_def', e]
  rw [hr]
  refine rplus_core a b _ _ w ha.1 hb.1 (fun w => ?_) (fun w => lowest_call e (by omega) ha.1.2 hb.1.2 a.den_pos b.den_pos w)
  rw [← e]
  exact rplus_any _ _ w (by omega) (by omega)
theorem rminus02 (a b : Rat) (w : World) (ha : pbg a) (hb : pbg b) (hle : b ≤ a) :
    Calls Tryz.prog 101 #[.string (rt a), .string (rt b)] w fun e w' => e = .returned (.string (rt (a - b))) ∧ Below w.heap.size w w' := by
  have h1 : dl (a.num * b.den) ≤ 40000 := Nat.le_trans (dl_mul _ _) (by have := ha.1.1; have := hb.1.2; omega)
  have h2 : dl (b.num * a.den) ≤ 40000 := Nat.le_trans (dl_mul _ _) (by have := hb.1.1; have := ha.1.2; omega)
  rw [Rat.le_iff] at hle
  obtain ⟨s, hs0⟩ := Int.eq_ofNat_of_zero_le (show 0 ≤ a.num * b.den - b.num * a.den by omega)
  have hs : dl (a.num * b.den - b.num * a.den) ≤ 40001 := dl_sub h1 h2
  have hr : a - b = mkRat (s : Int) (a.den * b.den) := by rw [Rat.sub_def', hs0]
  rw [hr]
  refine rminus_core a b _ _ w ha.1 hb.1 (fun w => ?_) (fun w => lowest_call hs0 (by omega) ha.1.2 hb.1.2 a.den_pos b.den_pos w)
  rw [← hs0]
  exact rminus_any _ _ w (by omega) (by omega)
theorem rtimes02 (a b : Rat) (w : World) (ha : pbg a) (hb : pbg b) :
    Calls Tryz.prog 35 #[.string (rt a), .string (rt b)] w fun e w' => e = .returned (.string (rt (a * b))) ∧ Below w.heap.size w w' := by
  obtain ⟨n, hn⟩ := ha.nat
  obtain ⟨m, hm⟩ := hb.nat
  have e : a.num * b.num = ((n * m : Nat) : Int) := by rw [hn, hm]; simp
  have hs : dl (a.num * b.num) ≤ 40000 := Nat.le_trans (dl_mul _ _) (by have := ha.1.1; have := hb.1.1; omega)
  have hr : a * b = mkRat ((n * m : Nat) : Int) (a.den * b.den) := by rw [Rat.mul_def', e]
  rw [hr]
  refine rtimes_core a b _ _ w ha.1 hb.1 (fun w => ?_)
  rw [e]
  exact lowest_call e (by omega) ha.1.2 hb.1.2 a.den_pos b.den_pos w
end Go.Proofs.YtfebiipggcgmdaaGreatDoor
