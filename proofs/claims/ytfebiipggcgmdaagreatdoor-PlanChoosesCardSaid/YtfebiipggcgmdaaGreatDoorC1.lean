import Derived.Test.YtfebiipggcgmdaaGreatDoorQ3
namespace Go.Proofs.YtfebiipggcgmdaaGreatDoor
open Go.RowKit

/-! ## What is demanded of a plan: the errors -/
set_option maxRecDepth 100000 in
set_option maxHeartbeats 800000 in
/-- numbers that are wrong -/
theorem needs_num (L G B v : Int) (s1 s2 : ByteArray) (w : World)
    (hw : (L < 1 ∧ v = 2) ∨ (¬ L < 1 ∧ 64 < L ∧ v = 2) ∨ (¬ L < 1 ∧ ¬ 64 < L ∧ ¬ (0 ≤ G ∧ G ≤ L) ∧ v = 2) ∨ (¬ L < 1 ∧ ¬ 64 < L ∧ (0 ≤ G ∧ G ≤ L) ∧ ¬ (0 ≤ B ∧ B ≤ L) ∧ v = 2) ∨ (¬ L < 1 ∧ ¬ 64 < L ∧ (0 ≤ G ∧ G ≤ L) ∧ (0 ≤ B ∧ B ≤ L) ∧ B ≤ G ∧ v = 9)) :
    Calls Tryz.prog 50 #[.int .i64 L, .int .i64 G, .int .i64 B, .string s1, .string s2] w fun e w' => e = .returned (.int .i64 v) ∧ Below w.heap.size w w' := by
  have hmf : ∀ (fn : Fn) (first cap : Array Value) (w : World), (Instr.makeFunc fn first cap).run Tryz.prog w = .ok (.func fn first cap) w := fun _ _ _ _ => rfl
  have c0 := one_cell w (.int .i64 L) 3
  have HC0 := Lib.hid c0
  have HB0 := Lib.hid ((Below.refl w.heap.size w).alloc (Nat.le_refl _) (.cells #[.int .i64 L] 3))
  have HS0 := Lib.hid (show (w.alloc (.cells #[.int .i64 L] 3)).heap.size = w.heap.size + 1 by simp)
  have IA := Lib.hid (fun (w2 : World) (h : w2.cell? ⟨w.heap.size, 0, none⟩ = some (.int .i64 L)) => inside_any w.heap.size G L w2 h)
  have IB := Lib.hid (fun (w2 : World) (h : w2.cell? ⟨w.heap.size, 0, none⟩ = some (.int .i64 L)) => inside_any w.heap.size B L w2 h)
  rcases hw with ⟨h1, rfl⟩ | ⟨h1, h2, rfl⟩ | ⟨h1, h2, h3, rfl⟩ | ⟨h1, h2, h3, h4, rfl⟩ | ⟨h1, h2, h3, h4, h5, rfl⟩
  · clear IA IB
    go_enter Tryz.func50, Tryz.ntmps50
    go_wp2
    go_ret
    exact ⟨rfl, HB0.out⟩
  · clear IA IB
    go_enter Tryz.func50, Tryz.ntmps50
    go_wp2
    go_ret
    exact ⟨rfl, HB0.out⟩
  · rw [decide_eq_false h3] at IA
    clear h3 IB
    go_enter Tryz.func50, Tryz.ntmps50
    go_wp2_with fail
    refine (IA.out _ HC0.out).mono ?_
    rintro e w1 ⟨rfl, hb1⟩
    have HB1 := Lib.hid (HB0.out.trans (hb1.mono HB0.out.size))
    clear hb1
    go_wp2
    go_ret
    exact ⟨rfl, HB1.out⟩
  · rw [decide_eq_true h3] at IA
    rw [decide_eq_false h4] at IB
    clear h3 h4
    go_enter Tryz.func50, Tryz.ntmps50
    go_wp2_with fail
    refine (IA.out _ HC0.out).mono ?_
    rintro e w1 ⟨rfl, hb1⟩
    have HB1 := Lib.hid (HB0.out.trans (hb1.mono HB0.out.size))
    have HC1 := Lib.hid ((hb1.cell (p := ⟨w.heap.size, 0, none⟩) (by rw [HS0.out]; exact Nat.lt_succ_self _)).trans HC0.out)
    clear hb1
    go_wp2_with fail
    refine (IB.out _ HC1.out).mono ?_
    rintro e w2 ⟨rfl, hb2⟩
    have HB2 := Lib.hid (HB1.out.trans (hb2.mono HB1.out.size))
    clear hb2
    go_wp2
    go_ret
    exact ⟨rfl, HB2.out⟩
  · rw [decide_eq_true h3] at IA
    rw [decide_eq_true h4] at IB
    have hd : decide (B ≤ G) = true := decide_eq_true h5
    clear h3 h4
    go_enter Tryz.func50, Tryz.ntmps50
    go_wp2_with fail
    refine (IA.out _ HC0.out).mono ?_
    rintro e w1 ⟨rfl, hb1⟩
    have HB1 := Lib.hid (HB0.out.trans (hb1.mono HB0.out.size))
    have HC1 := Lib.hid ((hb1.cell (p := ⟨w.heap.size, 0, none⟩) (by rw [HS0.out]; exact Nat.lt_succ_self _)).trans HC0.out)
    clear hb1
    go_wp2_with fail
    refine (IB.out _ HC1.out).mono ?_
    rintro e w2 ⟨rfl, hb2⟩
    have HB2 := Lib.hid (HB1.out.trans (hb2.mono HB1.out.size))
    clear hb2
    go_wp2
    go_ret
    exact ⟨rfl, HB2.out⟩

/-- an error of a text -/
def ErrIs (f : Nat) (s : ByteArray) (e : Int) : Prop := ∀ w, Env w → Calls Tryz.prog f #[.string s] w fun e' w' => e' = .returned (.int .i64 e) ∧ Below w.heap.size w w'
theorem ne_bool {v : Int} (h : v ≠ 0) : (v != 0) = true := by simpa using h

set_option maxRecDepth 100000 in
set_option maxHeartbeats 1600000 in
/-- numbers that are right: the texts decide -/
theorem needs_txt (L G B v e1 e2 u1 u2 : Int) (s1 s2 : ByteArray) (w : World) (h1 : 1 ≤ L) (h2 : L ≤ 64) (h3 : 0 ≤ G) (h4 : G < B) (h5 : B ≤ L)
    (c1 : ErrIs 98 s1 e1) (c2 : ErrIs 98 s2 e2) (d1 : e1 = 0 → ErrIs 58 s1 u1) (d2 : e2 = 0 → ErrIs 58 s2 u2)
    (hv : v = if e1 ≠ 0 then e1 else if e2 ≠ 0 then e2 else if u1 ≠ 0 then u1 else u2) (he : Env w) :
    Calls Tryz.prog 50 #[.int .i64 L, .int .i64 G, .int .i64 B, .string s1, .string s2] w fun e w' => e = .returned (.int .i64 v) ∧ Below w.heap.size w w' := by
  have hmf : ∀ (fn : Fn) (first cap : Array Value) (w : World), (Instr.makeFunc fn first cap).run Tryz.prog w = .ok (.func fn first cap) w := fun _ _ _ _ => rfl
  have HE := Lib.hid he
  have CA := Lib.hid c1
  have CB := Lib.hid c2
  have DA := Lib.hid d1
  have DB := Lib.hid d2
  have HV := Lib.hid hv
  have c0 := one_cell w (.int .i64 L) 3
  have HC0 := Lib.hid c0
  have HB0 := Lib.hid ((Below.refl w.heap.size w).alloc (Nat.le_refl _) (.cells #[.int .i64 L] 3))
  have HS0 := Lib.hid (show (w.alloc (.cells #[.int .i64 L] 3)).heap.size = w.heap.size + 1 by simp)
  have IA := Lib.hid (fun (w2 : World) (h : w2.cell? ⟨w.heap.size, 0, none⟩ = some (.int .i64 L)) => inside_any w.heap.size G L w2 h)
  have IB := Lib.hid (fun (w2 : World) (h : w2.cell? ⟨w.heap.size, 0, none⟩ = some (.int .i64 L)) => inside_any w.heap.size B L w2 h)
  rw [show decide (0 ≤ G ∧ G ≤ L) = true from decide_eq_true (by omega)] at IA
  rw [show decide (0 ≤ B ∧ B ≤ L) = true from decide_eq_true (by omega)] at IB
  have f1 : ¬ L < 1 := by omega
  have f2 : ¬ (64 : Int) < L := by omega
  have hd : decide (B ≤ G) = false := decide_eq_false (by omega)
  have f3 : ¬ B ≤ G := by omega
  clear he h1 h2 h3 h4 h5 c1 c2 d1 d2 hv
  go_enter Tryz.func50, Tryz.ntmps50
  go_wp2_with fail
  refine (IA.out _ HC0.out).mono ?_
  rintro e w1 ⟨rfl, hb1⟩
  have HB1 := Lib.hid (HB0.out.trans (hb1.mono HB0.out.size))
  have HC1 := Lib.hid ((hb1.cell (p := ⟨w.heap.size, 0, none⟩) (by rw [HS0.out]; exact Nat.lt_succ_self _)).trans HC0.out)
  clear hb1
  go_wp2_with fail
  refine (IB.out _ HC1.out).mono ?_
  rintro e w2 ⟨rfl, hb2⟩
  have HB2 := Lib.hid (HB1.out.trans (hb2.mono HB1.out.size))
  clear hb2
  have HC := Lib.hid (two_cells w2 (.string s1) (.string s2) 26)
  have HB3 := Lib.hid (HB2.out.alloc HB2.out.size (.cells #[.string s1, .string s2] 26))
  go_wp2
  clear hd f3 f1 f2 hmf c0
  go_loopg [42] 2 (fun k i wr => ∃ j : Nat, i = .int .i64 j ∧ j + k = 2 ∧ ((1 ≤ j → e1 = 0) ∧ (2 ≤ j → e2 = 0)) ∧ Below (w2.heap.size + 1) (w2.alloc (.cells #[.string s1, .string s2] 26)) wr)
  case atStart => exact ⟨0, rfl, rfl, ⟨by omega, by omega⟩, Below.refl _ _⟩
  case round =>
    obtain ⟨j, rfl, hk, hz, hbl⟩ := hrel
    have HZ := Lib.hid hz
    have c0 := (hbl.cell (p := ⟨w2.heap.size, 0, none⟩) (Nat.lt_succ_self _)).trans HC.out.1
    have c1 := (hbl.cell (p := ⟨w2.heap.size, 1, none⟩) (Nat.lt_succ_self _)).trans HC.out.2
    have hsz : w2.heap.size + 1 ≤ wr.heap.size := by have := hbl.size; simpa using this
    have HB4 := Lib.hid (HB3.out.trans (hbl.mono (by have := HB2.out.size; omega)))
    clear hz
    rcases (show j = 0 ∨ j = 1 ∨ j = 2 by omega) with rfl | rfl | rfl
    · by_cases h0 : e1 = 0
      · have H0 := Lib.hid h0
        rw [h0] at CA
        clear h0
        go_wp2_with fail
        refine (CA.out _ (HE.out.below HB4.out)).mono ?_
        rintro e w5 ⟨rfl, hb5⟩
        have HB5 := Lib.hid (hbl.trans (hb5.mono hsz))
        clear hb5
        go_wp2
        go_roundg 1
        case rel => exact ⟨1, rfl, rfl, ⟨fun _ => H0.out, by omega⟩, HB5.out⟩
        case measure => omega
      · have h0b := ne_bool h0
        have HVV := Lib.hid (show e1 = v by rw [HV.out, if_pos h0])
        go_wp2_with fail
        refine (CA.out _ (HE.out.below HB4.out)).mono ?_
        rintro e w5 ⟨rfl, hb5⟩
        have HB5 := Lib.hid (HB4.out.trans (hb5.mono HB4.out.size))
        clear hb5
        go_wp2
        go_ret
        exact ⟨by rw [← HVV.out]; rfl, HB5.out⟩
    · by_cases h0 : e2 = 0
      · have H0 := Lib.hid h0
        rw [h0] at CB
        clear h0
        go_wp2_with fail
        refine (CB.out _ (HE.out.below HB4.out)).mono ?_
        rintro e w5 ⟨rfl, hb5⟩
        have HB5 := Lib.hid (hbl.trans (hb5.mono hsz))
        clear hb5
        go_wp2
        go_roundg 0
        case rel => exact ⟨2, rfl, rfl, ⟨fun _ => HZ.out.1 (by omega), fun _ => H0.out⟩, HB5.out⟩
        case measure => omega
      · have h0b := ne_bool h0
        have HVV := Lib.hid (show e2 = v by rw [HV.out, if_neg (not_not_intro (HZ.out.1 (by omega))), if_pos h0])
        go_wp2_with fail
        refine (CB.out _ (HE.out.below HB4.out)).mono ?_
        rintro e w5 ⟨rfl, hb5⟩
        have HB5 := Lib.hid (HB4.out.trans (hb5.mono HB4.out.size))
        clear hb5
        go_wp2
        go_ret
        exact ⟨by rw [← HVV.out]; rfl, HB5.out⟩
    · have HV2 := Lib.hid (show v = if u1 ≠ 0 then u1 else u2 by rw [HV.out, if_neg (not_not_intro (HZ.out.1 (by omega))), if_neg (not_not_intro (HZ.out.2 (by omega)))])
      have UA := Lib.hid (DA.out (HZ.out.1 (by omega)))
      have UB := Lib.hid (DB.out (HZ.out.2 (by omega)))
      obtain ⟨wa, rfl⟩ : ∃ wa, wa = wr := ⟨_, rfl⟩
      have HD := Lib.hid (two_cells wa (.string s1) (.string s2) 26)
      have HB5 := Lib.hid (HB4.out.alloc HB4.out.size (.cells #[.string s1, .string s2] 26))
      clear hbl c0 c1
      go_wp2
      go_loopg [56] 2 (fun k i wz => ∃ j : Nat, i = .int .i64 j ∧ j + k = 2 ∧ ((1 ≤ j → u1 = 0) ∧ (2 ≤ j → u2 = 0)) ∧ Below (wa.heap.size + 1) (wa.alloc (.cells #[.string s1, .string s2] 26)) wz)
      case atStart => exact ⟨0, rfl, rfl, ⟨by omega, by omega⟩, Below.refl _ _⟩
      case round =>
        obtain ⟨j, rfl, hk, hz, hbl⟩ := hrel
        have HY := Lib.hid hz
        have c0 := (hbl.cell (p := ⟨wa.heap.size, 0, none⟩) (Nat.lt_succ_self _)).trans HD.out.1
        have c1 := (hbl.cell (p := ⟨wa.heap.size, 1, none⟩) (Nat.lt_succ_self _)).trans HD.out.2
        have hsz : wa.heap.size + 1 ≤ wr.heap.size := by have := hbl.size; simpa using this
        have HB6 := Lib.hid (HB5.out.trans (hbl.mono (by have := HB4.out.size; omega)))
        clear hz
        rcases (show j = 0 ∨ j = 1 ∨ j = 2 by omega) with rfl | rfl | rfl
        · by_cases h0 : u1 = 0
          · have H0 := Lib.hid h0
            rw [h0] at UA
            clear h0
            go_wp2_with fail
            refine (UA.out _ (HE.out.below HB6.out)).mono ?_
            rintro e w5 ⟨rfl, hb5⟩
            have HB7 := Lib.hid (hbl.trans (hb5.mono hsz))
            clear hb5
            go_wp2
            go_roundg 1
            case rel => exact ⟨1, rfl, rfl, ⟨fun _ => H0.out, by omega⟩, HB7.out⟩
            case measure => omega
          · have h0b := ne_bool h0
            have HVV := Lib.hid (show u1 = v by rw [HV2.out, if_pos h0])
            go_wp2_with fail
            refine (UA.out _ (HE.out.below HB6.out)).mono ?_
            rintro e w5 ⟨rfl, hb5⟩
            have HB7 := Lib.hid (HB6.out.trans (hb5.mono HB6.out.size))
            clear hb5
            go_wp2
            go_ret
            exact ⟨by rw [← HVV.out]; rfl, HB7.out⟩
        · by_cases h0 : u2 = 0
          · have H0 := Lib.hid h0
            rw [h0] at UB
            clear h0
            go_wp2_with fail
            refine (UB.out _ (HE.out.below HB6.out)).mono ?_
            rintro e w5 ⟨rfl, hb5⟩
            have HB7 := Lib.hid (hbl.trans (hb5.mono hsz))
            clear hb5
            go_wp2
            go_roundg 0
            case rel => exact ⟨2, rfl, rfl, ⟨fun _ => HY.out.1 (by omega), fun _ => H0.out⟩, HB7.out⟩
            case measure => omega
          · have h0b := ne_bool h0
            have HVV := Lib.hid (show u2 = v by rw [HV2.out, if_neg (not_not_intro (HY.out.1 (by omega)))])
            go_wp2_with fail
            refine (UB.out _ (HE.out.below HB6.out)).mono ?_
            rintro e w5 ⟨rfl, hb5⟩
            have HB7 := Lib.hid (HB6.out.trans (hb5.mono HB6.out.size))
            clear hb5
            go_wp2
            go_ret
            exact ⟨by rw [← HVV.out]; rfl, HB7.out⟩
        · have HVV := Lib.hid (show (0 : Int) = v by rw [HV2.out, if_neg (not_not_intro (HY.out.1 (by omega))), HY.out.2 (by omega)])
          clear hbl
          go_wp2
          go_ret
          exact ⟨by rw [← HVV.out]; rfl, HB6.out⟩
end Go.Proofs.YtfebiipggcgmdaaGreatDoor
