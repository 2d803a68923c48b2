import Derived.Test.YtfebiipggcgmdaaGreatDoorC4
namespace Go.Proofs.YtfebiipggcgmdaaGreatDoor
open Go.RowKit

set_option maxRecDepth 100000 in
set_option maxHeartbeats 3200000 in
theorem chooses_core (L G B n c er : Int) (s1 s2 : ByteArray) (w : World) (he : Env w) (hL : ¬ (7 < L ∧ L ≤ 64))
    (hS1 : ∀ w, Calls Tryz.prog 20 #[.string s1] w fun e w' => e = .returned (.bool true) ∧ Below w.heap.size w w')
    (hS2 : ∀ w, Calls Tryz.prog 20 #[.string s2] w fun e w' => e = .returned (.bool true) ∧ Below w.heap.size w w')
    (hA : ∀ w, Env w → Calls Tryz.prog 21 #[.int .i64 L, .int .i64 G, .int .i64 B, .string s1, .string s2] w fun e w' => e = .returned (.tuple #[pl n c, .int .i64 er]) ∧ Below w.heap.size w w')
    (hB : ∀ w, Calls Tryz.prog 22 #[nd L G B s1 s2] w fun e w' => e = .returned (.tuple #[pl n c, .int .i64 er]) ∧ Below w.heap.size w w') :
    Calls Tryz.prog 4 #[nd L G B s1 s2] w fun e w' => e = .returned (.bool true) ∧ Below w.heap.size w w' := by
  have HE := Lib.hid he
  have H1 := Lib.hid hS1
  have H2 := Lib.hid hS2
  have HA := Lib.hid hA
  have HB := Lib.hid hB
  have HSE := Lib.hid (fun w => sent_any n c w)
  have hw : ¬ 7 < L ∨ 7 < L ∧ ¬ L ≤ 64 := by omega
  have HX0 := Lib.hid (IsNd.new w L G B s1 s2)
  have HQ0 := Lib.hid ((Below.refl w.heap.size w).alloc (Nat.le_refl _) (.cells #[.int .i64 L, .int .i64 G, .int .i64 B, .string s1, .string s2] 38))
  unfold pl at HA HB HSE
  unfold nd at HB ⊢
  clear he hL hS1 hS2 hA hB
  rcases hw with h1 | ⟨h1, h2⟩
  all_goals
    obtain ⟨k0, k1, k2, k3, k4, -⟩ := HX0.out
    go_enter Tryz.func4, Tryz.ntmps4
    go_wp2_with fail
    refine (H1.out _).mono ?_
    rintro e w1 ⟨rfl, hb1⟩
    have HQ1 := Lib.hid (HQ0.out.trans (hb1.mono HQ0.out.size))
    have HX1 := Lib.hid (HX0.out.below hb1)
    clear hb1 k0 k1 k2 k3 k4
    obtain ⟨k0, k1, k2, k3, k4, -⟩ := HX1.out
    go_wp2_with fail
    refine (H2.out _).mono ?_
    rintro e w2 ⟨rfl, hb2⟩
    have HQ2 := Lib.hid (HQ1.out.trans (hb2.mono HQ1.out.size))
    have HX2 := Lib.hid (HX1.out.below hb2)
    clear hb2 k0 k1 k2 k3 k4
    obtain ⟨k0, k1, k2, k3, k4, -⟩ := HX2.out
    go_wp2_with fail
    refine (HA.out _ (HE.out.below HQ2.out)).mono ?_
    rintro e w3 ⟨rfl, hb3⟩
    have HQ3 := Lib.hid (HQ2.out.trans (hb3.mono HQ2.out.size))
    have HX3 := Lib.hid (HX2.out.below hb3)
    clear hb3 k0 k1 k2 k3 k4
    have HQ4 := Lib.hid (HQ3.out.alloc HQ3.out.size (.cells #[.int .i64 n, .int .i64 c] 30))
    have HX4 := Lib.hid (HX3.out.below ((Below.refl _ _).alloc (Nat.le_refl _) (.cells #[.int .i64 n, .int .i64 c] 30)))
    have HP4 := Lib.hid (IsP.new w3 (.int .i64 n) (.int .i64 c) 30)
    obtain ⟨k0, k1, k2, k3, k4, -⟩ := HX4.out
    go_wp2_with fail
    refine (HB.out _).mono ?_
    rintro e w5 ⟨rfl, hb5⟩
    have HQ5 := Lib.hid (HQ4.out.trans (hb5.mono HQ4.out.size))
    have HP5 := Lib.hid (HP4.out.below hb5)
    clear hb5 k0 k1 k2 k3 k4
    have HQ6 := Lib.hid (HQ5.out.alloc HQ5.out.size (.cells #[.int .i64 n, .int .i64 c] 23))
    have HP6 := Lib.hid (HP5.out.below ((Below.refl _ _).alloc (Nat.le_refl _) (.cells #[.int .i64 n, .int .i64 c] 23)))
    have HR6 := Lib.hid (IsP.new w5 (.int .i64 n) (.int .i64 c) 23)
    go_wp2_with fail
    obtain ⟨W6, hW6⟩ : ∃ W, w5.alloc (.cells #[.int .i64 n, .int .i64 c] 23) = W := ⟨_, rfl⟩
    rw [hW6] at HQ6 HP6 HR6 ⊢
    clear hW6
    have p0 := HP6.out.n
    have p1 := HP6.out.c
    have q0 := HR6.out.n
    have q1 := HR6.out.c
    go_region_held3 (fun w' => w'.cell? ⟨w3.heap.size, 0, none⟩ = some (.int .i64 n) ∧ w'.cell? ⟨w3.heap.size, 1, none⟩ = some (.int .i64 c) ∧ w'.cell? ⟨w5.heap.size, 0, none⟩ = some (.int .i64 n) ∧ w'.cell? ⟨w5.heap.size, 1, none⟩ = some (.int .i64 c)) (first | exact ⟨p0, p1, q0, q1⟩ | exact ⟨a0, a1, a2, a3⟩ | exact ⟨b0, b1, b2, b3⟩) (first
      | (go_at_call 12; refine (awake_any _ (HE.out.below HQ6.out.drew)).mono ?_; rintro e wa ⟨rfl, hba⟩; have HQA := Lib.hid (HQ6.out.drew.trans (hba.mono HQ6.out.drew.size)); have HPA := Lib.hid ((show IsP W6.drew w3.heap.size (.int .i64 n) (.int .i64 c) from ⟨HP6.out.n, HP6.out.c, HP6.out.l⟩).below hba); have HRA := Lib.hid ((show IsP W6.drew w5.heap.size (.int .i64 n) (.int .i64 c) from ⟨HR6.out.n, HR6.out.c, HR6.out.l⟩).below hba); have a0 := HPA.out.n; have a1 := HPA.out.c; have a2 := HRA.out.n; have a3 := HRA.out.c; clear hba)
      | (go_at_call 14; refine (HSE.out _).mono ?_; rintro e wb ⟨rfl, hbb⟩; have HQB := Lib.hid (HQA.out.trans (hbb.mono HQA.out.size)); have HPB := Lib.hid (HPA.out.below hbb); have HRB := Lib.hid (HRA.out.below hbb); have b0 := HPB.out.n; have b1 := HPB.out.c; have b2 := HRB.out.n; have b3 := HRB.out.c; clear hbb))
    go_wp2
    go_ret
    exact ⟨rfl, HQB.out⟩
end Go.Proofs.YtfebiipggcgmdaaGreatDoor
