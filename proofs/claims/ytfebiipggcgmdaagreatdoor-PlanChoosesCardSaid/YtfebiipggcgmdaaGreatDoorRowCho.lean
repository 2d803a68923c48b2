/- PlanChooses returns true and leaves its argument as it was, for all needs: Least returns what the reference returns, the least plan or the specified error, for all needs about small lots with short texts. Conditions: the listed package-level variables hold what the program's text lays (the card ties them); nothing else. -/
import Derived.Test.YtfebiipggcgmdaaGreatDoorRow1
import Derived.Test.YtfebiipggcgmdaaGreatDoorC6
import Derived.Test.YtfebiipggcgmdaaGreatDoorTie
import Derived.Test.YtfebiipggcgmdaaGreatDoorCards
import Derived.SevenTiedAt
namespace Go.Proofs.YtfebiipggcgmdaaGreatDoor
open Go.ChangeShapes Go.WideShapes Go.ChangeAt Go.RowKit

set_option maxRecDepth 100000 in
theorem open_nd {H : Type} {enc : TypeId × Value → H} {W w : World} {r : Reach} {b0 base : Nat} {sp : Nat → Bool} {held : Bool} {v : Value} {d : DataW H} {ps : List MemPlace}
    (hval : Value.okWide Tryz.prog W r b0 38 v) (hd : DataW.Trod enc Tryz.prog w base sp held 38 v d ps) :
    ∃ L G B s1 s2, v = nd L G B s1 s2 ∧ d = .agg [.lit (.int .i64 L), .lit (.int .i64 G), .lit (.int .i64 B), .lit (.string s1.data.toList), .lit (.string s2.data.toList)] ∧ ps = [] ∧ ((Lit.int .i64 L).wf = true ∧ (Lit.int .i64 G).wf = true ∧ (Lit.int .i64 B).wf = true) ∧ s1.size ≤ maxLen ∧ s2.size ≤ maxLen := by
  obtain ⟨cs, rfl, hsz⟩ := okWide_struct Tryz.underlying38 hval
  obtain ⟨fuel, hf⟩ := hd
  obtain ⟨xs, n, _, hx, hl, hlen, hg⟩ := DataW.trod_struct Tryz.underlying38 hf
  have c3 : Tryz.prog.cellsOf 3 = 1 := by kernel_rfl
  have c26 : Tryz.prog.cellsOf 26 = 1 := by kernel_rfl
  have c38 : Tryz.prog.cellsOf 38 = 5 := by kernel_rfl
  match xs, hlen with
  | [y0, y1, y2, y3, y4], _ =>
    obtain ⟨L, e0, x0, w0⟩ := DataW.trod_int Tryz.underlying3 (hg 0 _ rfl)
    obtain ⟨G, e1, x1, w1⟩ := DataW.trod_int Tryz.underlying3 (hg 1 _ rfl)
    obtain ⟨B, e2, x2, w2⟩ := DataW.trod_int Tryz.underlying3 (hg 2 _ rfl)
    obtain ⟨s1, e3, x3, z1⟩ := DataW.trod_string Tryz.underlying26 (hg 3 _ rfl)
    obtain ⟨s2, e4, x4, z2⟩ := DataW.trod_string Tryz.underlying26 (hg 4 _ rfl)
    change List.take (Tryz.prog.cellsOf 3) (List.drop 0 _) = _ at e0
    change List.take (Tryz.prog.cellsOf 3) (List.drop 1 _) = _ at e1
    change List.take (Tryz.prog.cellsOf 3) (List.drop 2 _) = _ at e2
    change List.take (Tryz.prog.cellsOf 26) (List.drop 3 _) = _ at e3
    change List.take (Tryz.prog.cellsOf 26) (List.drop 4 _) = _ at e4
    rw [c3] at e0 e1 e2
    rw [c26] at e3 e4
    rw [c38] at hl
    obtain ⟨l⟩ := cs
    match l, hl with
    | [a, b, c, d, e], _ =>
      simp [Value.cells] at e0 e1 e2 e3 e4
      subst e0 e1 e2 e3 e4
      simp only [Prod.mk.injEq] at hx
      rw [x0, x1, x2, x3, x4] at hx
      exact ⟨L, G, B, s1, s2, rfl, by simpa using hx.1, by simpa using hx.2, ⟨w0, w1, w2⟩, z1, z2⟩
set_option maxRecDepth 100000 in
theorem shut_nd {H : Type} {enc : TypeId × Value → H} {w : World} {base : Nat} {sp : Nat → Bool} {held : Bool} {L G B : Int} {s1 s2 : ByteArray} (hw : (Lit.int .i64 L).wf = true ∧ (Lit.int .i64 G).wf = true ∧ (Lit.int .i64 B).wf = true) (z1 : s1.size ≤ maxLen) (z2 : s2.size ≤ maxLen) :
    DataW.Trod enc Tryz.prog w base sp held 38 (nd L G B s1 s2) (.agg [.lit (.int .i64 L), .lit (.int .i64 G), .lit (.int .i64 B), .lit (.string s1.data.toList), .lit (.string s2.data.toList)]) [] := by
  obtain ⟨w0, w1, w2⟩ := hw
  have h0 : DataW.trod enc Tryz.prog w base sp held 1 3 [.int .i64 L] = some (.lit (.int .i64 L), []) := trod_int_mk 0 Tryz.underlying3 w0
  have h1 : DataW.trod enc Tryz.prog w base sp held 1 3 [.int .i64 G] = some (.lit (.int .i64 G), []) := trod_int_mk 0 Tryz.underlying3 w1
  have h2 : DataW.trod enc Tryz.prog w base sp held 1 3 [.int .i64 B] = some (.lit (.int .i64 B), []) := trod_int_mk 0 Tryz.underlying3 w2
  have h3 : DataW.trod enc Tryz.prog w base sp held 1 26 [.string s1] = some (.lit (.string s1.data.toList), []) := by simp [DataW.trod, Tryz.underlying26, z1]
  have h4 : DataW.trod enc Tryz.prog w base sp held 1 26 [.string s2] = some (.lit (.string s2.data.toList), []) := by simp [DataW.trod, Tryz.underlying26, z2]
  have c3 : Tryz.prog.cellsOf 3 = 1 := by kernel_rfl
  have c26 : Tryz.prog.cellsOf 26 = 1 := by kernel_rfl
  have h := trod_struct_mk (enc := enc) (P := Tryz.prog) (w := w) (base := base) (spare := sp) (held := held) (n := 1) (cs := [.int .i64 L, .int .i64 G, .int .i64 B, .string s1, .string s2]) (xs := [(.lit (.int .i64 L), []), (.lit (.int .i64 G), []), (.lit (.int .i64 B), []), (.lit (.string s1.data.toList), []), (.lit (.string s2.data.toList), [])]) Tryz.underlying38 (by kernel_rfl) (by simp [c3, c26, h0, h1, h2, h3, h4])
  exact ⟨2, h⟩

set_option maxRecDepth 100000 in
theorem planChooses_lifted (os : Os) (started : os.Started) (H : Type) (enc : TypeId × Value → H) :
    ReturnsInHanded {} Tryz.checked os 4 .any (fun w args => (Rows.planChoosesSpec.pre enc Tryz.prog Tryz.f4 [] false w args ∧ laidMetH Tryz.prog laidL w) ∧ sizedMet enc Tryz.prog Tryz.f4 (OpenSpec.ofChange Rows.planChoosesSpec) false w args)
      (Rows.planChoosesSpec.post enc Tryz.prog Tryz.f4 false true false false) := by
  refine wrap_shaped (C := Tryz.checked) (X := fun w => laidMetH Tryz.prog laidL w) (fun _ _ hh h => h.of_heap hh) own started (by kernel_rfl) Tryz.func4
    (ChangeSpec.witness_shaped (enc := enc) (C := Tryz.checked) (os := os) (X := fun w _ => laidMetH Tryz.prog laidL w) false (World.laidAll Tryz.prog os laidL) #[.agg #[.int .i64 0, .int .i64 0, .int .i64 0, .string ⟨#[]⟩, .string ⟨#[]⟩]] 8 (World.laidAll_os _ _ _)
      (World.shaped_of_ZipB (by kernel_rfl) (by kernel_rfl)) (by kernel_rfl) (by kernel_rfl) (by kernel_rfl)
      (by rw [MakeChecks.laidMetH_plain _ _ _ (by kernel_rfl)]; exact laidMet_laidAll _ (by kernel_rfl) (by kernel_rfl))) ?_
  intro W base args ds gs before hval0 hW hL hs
  have hval : ∀ (j : Nat) t v, Tryz.f4.params[j]? = some t → args[j]? = some v → Value.okWide Tryz.prog W .any base t v := hval0
  have hW' := hW
  obtain ⟨p, q, hA0, hV, rfl, hfz, hnd⟩ := hW
  have hA : DataW.TrodAll enc Tryz.prog W 0 (fun _ => true) true Tryz.f4.params.toList args.toList ds p := hA0
  rw [Tryz.params4] at hA hval
  obtain ⟨v0, vs0, d0, ds0, p0, q0, hargs, rfl, rfl, h0, r0⟩ := trodAll_cons hA
  obtain ⟨rfl, rfl, rfl⟩ := trodAll_nil r0
  obtain rfl : args = #[v0] := by cases args; simp_all
  obtain ⟨rfl, rfl⟩ := trodVars_none hV
  obtain ⟨L, G, B, s1, s2, rfl, rfl, rfl, hwf, z1, z2⟩ := open_nd (hval 0 38 v0 rfl rfl) h0
  clear hA0 hval0
  refine (chooses_any L G B s1 s2 W (env_of hL hs) (by unfold maxLen at z1; exact z1) (by unfold maxLen at z2; exact z2)).mono fun e W' ⟨he, bel⟩ => ?_
  subst he
  exact ⟨_, rfl, _, _, _, [], _, [], hW', trodAll_mk1 (shut_bool Tryz.underlying4 _), trodAll_cons_mk (shut_nd hwf z1 z2) trodAll_mk0, rfl, bel.frame _, fun h => by cases h⟩

theorem planChooses_holds : Rows.PlanChoosesSaid :=
  OpenClaim.holds_of_wide 4 Tryz.f4 rfl rfl rfl rfl rfl rfl rfl ⟨rfl, rfl, rfl, rfl, rfl⟩ rfl rfl rfl rfl rfl (by kernel_rfl) Tryz.func4 (by kernel_rfl)
    (of_decide_eq_true (by kernel_rfl)) (by unfold Func.isWrapper; first | (rw [if_pos (by decide +kernel)]; kernel_rfl) | (rw [if_neg (by decide +kernel)]; exact ⟨rfl, rfl⟩))
    (fun os started H enc _ => planChooses_lifted os started H enc)

theorem planChooses_card : Rows.PlanChoosesCardSaid :=
  Claim7.holds_tied_plain_at .later [] [.data, .data, .data, .data, .sentinel, .sentinel, .pinned] true Rows.planChoosesCard.stood.harness Rows.planChoosesCard.stood.looks
    planChooses_holds (fun _ h => by cases h) (by kernel_rfl) (fun _ h => by cases h) planChooses_row_tie rfl ⟨rfl, rfl⟩ (by kernel_rfl) rfl
    (fun f fn hf hfn => by
      obtain rfl : f = 4 := Option.some.inj ((show Tryz.prog.funcNamed "metrolab/metrolablaw54.PlanChooses" = some 4 by kernel_rfl).symm.trans hf) |>.symm
      obtain rfl : fn = Tryz.f4 := (Option.some.inj (Tryz.func4.symm.trans hfn)).symm
      exact ⟨by kernel_rfl, fun j t ht => by
        rw [Tryz.params4] at ht
        have hm : t ∈ [38] := by simpa using Array.mem_of_getElem? ht
        have hall : ([38].all fun u => !Tryz.prog.wantsStandIn u) = true := by kernel_rfl
        exact (show Tryz.prog.wantsStandIn t = false by simpa using List.all_eq_true.1 hall t hm)⟩)
    (by kernel_rfl)
#print axioms planChooses_card
end Go.Proofs.YtfebiipggcgmdaaGreatDoor
