import Derived.Test.YtfebiipggcgmdaaGreatDoorRows
import Derived.Test.YtfebiipggcgmdaaGreatDoorA5
import Derived.Test.YtfebiipggcgmdaaGreatDoorP1
import Derived.ProofKit
import Derived.OpenShut
import Derived.LaidMore
import Derived.Lay
import Derived.Lib.LaidTab
import Derived.Shelf.Vars
import Derived.Stop.Joined
import Derived.ChangeSame
import Derived.Below
import Derived.SizedLaws
import Derived.MakeChecks
namespace Go.Proofs.YtfebiipggcgmdaaGreatDoor
open Go.ChangeShapes Go.WideShapes Go.ChangeAt Go.RowKit

/-! ## what every row of this seat needs -/
theorem own : ownKnob Tryz.prog.godebug = none := by kernel_rfl

/-- The variables that the rows list. -/
def laidL : List (String × DataW Unit) := [("math/bits.deBruijn32tab", Rows.laid_math_bits_deBruijn32tab), ("math/bits.deBruijn64tab", Rows.laid_math_bits_deBruijn64tab), ("internal/strconv.uint64pow10", Rows.laid_internal_strconv_uint64pow10), ("unicode/utf8.acceptRanges", Rows.laid_unicode_utf8_acceptRanges), ("strconv.ErrRange", Rows.laid_strconv_ErrRange), ("strconv.ErrSyntax", Rows.laid_strconv_ErrSyntax), ("unicode/utf8.first", Rows.laid_unicode_utf8_first)]

theorem wrap_shaped {H : Type} {enc : TypeId × Value → H} {C : Checked} {os : Os} {f : FuncId} {fn : Func} {s : ChangeSpec} {conds : List PathCond} {apart fresh handsOn again : Bool} {X : World → Prop}
    (hX : ∀ w w' : World, w.heap = w'.heap → X w → X w') (own : ownKnob C.prog.godebug = none) (started : os.Started) (noInit : C.prog.inits.idxOf? f = none) (hfn : C.prog.funcs[f]? = some fn)
    (witness : ∃ (w : World) (tape : Tape) (i : Input), w.os = os ∧ (w.forCall tape i).Shaped C.prog ∧ i.vars = [] ∧ Input.okWide C.prog (w.forCall tape i) .any w.heap.size f i ∧
      ((s.pre enc C.prog fn conds apart (w.forCall tape i).memory i.args ∧ X (w.forCall tape i).memory) ∧ sizedMet enc C.prog fn (OpenSpec.ofChange s) apart (w.forCall tape i).memory i.args) ∧ ({} : Assume).holds C.prog (lone (Frame.enter C.prog f i.args .normal) [] (w.forCall tape i)))
    (contract : ∀ (W : World) (base : Nat) (args : Array Value) (ds gs : List (DataW H)) (before : List MemPlace),
      (∀ (j : Nat) t v, fn.params[j]? = some t → args[j]? = some v → Value.okWide C.prog W .any base t v) →
      DataW.Whole enc C.prog fn.params.toList s.vars apart W args.toList ds gs before → X W → W.ShapedOpen C.prog →
      Calls C.prog f args W fun e W' => ∃ v, e = .returned v ∧ s.post enc C.prog fn apart fresh handsOn again W args v W') :
    ReturnsInHanded {} C os f .any (fun w args => (s.pre enc C.prog fn conds apart w args ∧ X w) ∧ sizedMet enc C.prog fn (OpenSpec.ofChange s) apart w args) (s.post enc C.prog fn apart fresh handsOn again) := by
  refine returnsInHanded_of_calls own started noInit witness ?_
  intro w tape i _ hsh _ hok hpre _
  obtain ⟨_, _, _, fn2, hfn2, _, _, _, _, hval⟩ := hok
  obtain rfl : fn2 = fn := Option.some.inj (hfn2.symm.trans hfn)
  obtain ⟨⟨⟨ds, gs, before, hw, _⟩, hx⟩, _⟩ := hpre
  refine (contract (w.forCall tape i) w.heap.size i.args ds gs before hval (DataW.Whole.of_heap (w' := w.forCall tape i) (by rfl) hw) (hX _ _ (by rfl) hx) hsh).mono fun e W' ⟨v, he, hp⟩ => ?_
  subst he
  exact ChangeSpec.post_blind hp

theorem gTab : Tryz.prog.globalNamed "internal/strconv.uint64pow10" = some 3 := by kernel_rfl
set_option maxRecDepth 100000 in
theorem env_of {W : World} (h : laidMetH Tryz.prog laidL W) (hs : W.ShapedOpen Tryz.prog) : Env W := by
  refine ⟨?_, ?_⟩
  · rw [MakeChecks.laidMetH_plain _ _ _ (by kernel_rfl)] at h
    obtain ⟨ps, ⟨_, _, _, _, _, _, _, _, _, _, ⟨_, _, _, _, _, _, _, _, _, _, ⟨g, t, cs, fuel, p, q, hg, ht, hvar, hd, _, _⟩, _⟩, _⟩, _⟩ := h
    obtain rfl := Option.some.inj (gTab.symm.trans hg)
    obtain rfl := Option.some.inj ((show (Tryz.prog.globals[3]?).map (·.type) = some 223 by kernel_rfl).symm.trans ht)
    have hd2 := Lib.cells_of_tab (zs := Lib.pow10Tab) (k := .u64) Tryz.underlying223 Tryz.underlying205 (by kernel_rfl) (by kernel_rfl) hd
    show W.var? Tryz.prog "internal/strconv.uint64pow10" = some _
    rw [hvar, ← hd2]
  · exact cell_of_shapedOpen_int (t := 3) (zero := #[.int .i64 0]) hs (of_decide_eq_true (by kernel_rfl)) (by kernel_rfl) (by kernel_rfl) (by kernel_rfl) (by kernel_rfl) Tryz.underlying3

set_option maxRecDepth 100000 in
theorem open_plan {H : Type} {enc : TypeId × Value → H} {W w : World} {r : Reach} {b0 base : Nat} {sp : Nat → Bool} {held : Bool} {v : Value} {d : DataW H} {ps : List MemPlace}
    (hval : Value.okWide Tryz.prog W r b0 23 v) (hd : DataW.Trod enc Tryz.prog w base sp held 23 v d ps) :
    ∃ N C, v = pl N C ∧ d = .agg [.lit (.int .i64 N), .lit (.int .i64 C)] ∧ ps = [] ∧ (Lit.int .i64 N).wf = true ∧ (Lit.int .i64 C).wf = true := by
  obtain ⟨cs, rfl, hsz⟩ := okWide_struct Tryz.underlying23 hval
  obtain ⟨fuel, hf⟩ := hd
  obtain ⟨y0, y1, n, hx, hl, h0, h1⟩ := trod_struct2 Tryz.underlying23 hf
  obtain ⟨N, e0, x0, w0⟩ := DataW.trod_int Tryz.underlying3 h0
  obtain ⟨C, e1, x1, w1⟩ := DataW.trod_int Tryz.underlying3 h1
  have c3 : Tryz.prog.cellsOf 3 = 1 := by kernel_rfl
  have c23 : Tryz.prog.cellsOf 23 = 2 := by kernel_rfl
  rw [c3] at e0 e1
  rw [c23] at hl
  obtain ⟨l⟩ := cs
  match l, hl with
  | [a, b], _ =>
    simp [Value.cells] at e0 e1
    subst e0 e1
    simp only [Prod.mk.injEq] at hx
    rw [x0, x1] at hx
    exact ⟨N, C, rfl, hx.1, hx.2, w0, w1⟩
set_option maxRecDepth 100000 in
theorem shut_plan {H : Type} {enc : TypeId × Value → H} {w : World} {base : Nat} {sp : Nat → Bool} {held : Bool} {N C : Int} (w0 : (Lit.int .i64 N).wf = true) (w1 : (Lit.int .i64 C).wf = true) :
    DataW.Trod enc Tryz.prog w base sp held 23 (pl N C) (.agg [.lit (.int .i64 N), .lit (.int .i64 C)]) [] :=
  ⟨2, trod_struct2_mk (n := 1) (y0 := (.lit (.int .i64 N), [])) (y1 := (.lit (.int .i64 C), [])) Tryz.underlying23 (by kernel_rfl)
    (trod_int_mk 0 Tryz.underlying3 w0) (trod_int_mk 0 Tryz.underlying3 w1)⟩
end Go.Proofs.YtfebiipggcgmdaaGreatDoor
