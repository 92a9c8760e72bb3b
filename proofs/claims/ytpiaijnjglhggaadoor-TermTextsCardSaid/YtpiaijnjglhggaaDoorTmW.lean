/- TermTexts: from the row's laid variables to what is read; the wrap that keeps the world's shape. -/
import Derived.Test.YtpiaijnjglhggaaDoorRows
import Derived.Test.YtpiaijnjglhggaaDoorTmV
import Derived.Test.YtpiaijnjglhggaaDoorTie
import Derived.MakeChecks
import Derived.Stop.LaidErr
import Derived.LaidLaws
import Derived.HandedShaped
import Derived.Shelf.Vars
namespace Go.Vx
variable {H : Type} {enc : TypeId × Value → H}
theorem returnsInHanded_and_shaped {a : Assume} {C : Checked} {os : Os} {f : FuncId} {fn : Func} {s : ChangeSpec} {conds : List PathCond} {apart fresh handsOn again : Bool} {X : World → Array Value → Prop}
    (hX : ∀ (w w' : World) (args : Array Value), w.heap = w'.heap → X w args → X w' args)
    (own : ownKnob C.prog.godebug = none) (started : os.Started) (noInit : C.prog.inits.idxOf? f = none) (hfn : C.prog.funcs[f]? = some fn)
    (witness : ∃ (w : World) (tape : Tape) (i : Input), w.os = os ∧ (w.forCall tape i).Shaped C.prog ∧ i.vars = [] ∧ Input.okWide C.prog (w.forCall tape i) .any w.heap.size f i ∧
      ((s.pre enc C.prog fn conds apart (w.forCall tape i).memory i.args ∧ X (w.forCall tape i).memory i.args) ∧ sizedMet enc C.prog fn (OpenSpec.ofChange s) apart (w.forCall tape i).memory i.args) ∧ a.holds C.prog (lone (Frame.enter C.prog f i.args .normal) [] (w.forCall tape i)))
    (contract : ∀ (W : World) (base : Nat) (args : Array Value) (ds gs : List (DataW H)) (before : List MemPlace),
      (∀ (j : Nat) t v, fn.params[j]? = some t → args[j]? = some v → Value.okWide C.prog W .any base t v) →
      DataW.Whole enc C.prog fn.params.toList s.vars apart W args.toList ds gs before →
      conds.all (PathCond.test C.prog ⟨fn.params.toList, ds, s.plain.varTypes C.prog, gs⟩) = true →
      (DataW.weightsEach C.prog (fn.params.toList ++ s.plain.varTypes C.prog) (ds ++ gs)).all (· ≤ reachBytes) = true → X W args → W.ShapedOpen C.prog →
      a.holds C.prog (lone (Frame.enter C.prog f args .normal) [] W) →
      Calls C.prog f args W fun e W' => ∃ v, e = .returned v ∧ s.post enc C.prog fn apart fresh handsOn again W args v W') :
    ReturnsInHanded a C os f .any (fun w args => (s.pre enc C.prog fn conds apart w args ∧ X w args) ∧ sizedMet enc C.prog fn (OpenSpec.ofChange s) apart w args) (s.post enc C.prog fn apart fresh handsOn again) := by
  refine returnsInHanded_of_calls own started noInit witness ?_
  intro w tape i _ hsh _ hok hpre hholds
  obtain ⟨_, _, _, fn', hfn', _, _, _, _, hval⟩ := hok
  have e : fn' = fn := Option.some.inj (hfn'.symm.trans hfn)
  subst e
  obtain ⟨⟨⟨ds, gs, before, hw, hc⟩, hx⟩, hz⟩ := hpre
  have hw' := DataW.Whole.of_heap (w' := w.forCall tape i) (by rfl) hw
  refine (contract (w.forCall tape i) w.heap.size i.args ds gs before hval hw' hc (hz.weights hw) (hX _ _ _ (by rfl) hx) hsh hholds).mono fun e W' ⟨v, he, hp⟩ => ?_
  subst he
  exact ChangeSpec.post_blind hp
end Go.Vx
namespace Go.Proofs.YtpiaijnjglhggaaDoor
open Go.RowKit Go.Vx
theorem cell0_of {w : World} (h : w.ShapedOpen Tryd.prog) : Cell0 w :=
  cell_of_shapedOpen_int (g := 0) (t := 3) (k := .i64) (zero := #[.int .i64 0]) h (by decide +kernel) (by kernel_rfl) rfl (by kernel_rfl) (by kernel_rfl) Tryd.underlying3
theorem row_err (u : TypeId) (h : Tryd.prog.typeName? 3 u = some "*errors.errorString") : u = 94 :=
  typeName_ptr_named (nm := "errors.errorString") (by rw [show "*" ++ "errors.errorString" = "*errors.errorString" by decide]; kernel_rfl) (by kernel_rfl) (by decide) u (by rw [show "*" ++ "errors.errorString" = "*errors.errorString" by decide]; exact h)
theorem termTexts_laid {w : World} (h : laidMetH Tryd.prog Rows.termTextsRow.laid w) : Tab w ∧ Errs w := by
  rw [MakeChecks.laidMetH_plain _ _ _ (by rfl)] at h
  have h2 : laidMet Tryd.prog (("internal/strconv.uint64pow10", Lib.tabData .u64 Lib.pow10Tab) :: _) w := h.tail.tail
  have h3 : laidMet Tryd.prog (("strconv.ErrRange", Rows.laid_strconv_ErrRange) :: _) w := h.tail.tail.tail
  have h4 : laidMet Tryd.prog (("strconv.ErrSyntax", Rows.laid_strconv_ErrSyntax) :: _) w := h.tail.tail.tail.tail
  refine ⟨Lib.tabIs_of_head (g := 3) (t := 88) (e := 57) (n := 20) (by kernel_rfl) (by kernel_rfl) (by kernel_rfl) (by kernel_rfl) (by kernel_rfl) (by kernel_rfl) h2, ?_, ?_⟩
  · obtain ⟨a0, s0, hv0, -, -, -⟩ := laid_sentinel (g := 1) (ti := 42) (tp := 94) (te := 96) (ts := 9) h4 (by kernel_rfl) (by kernel_rfl) Tryd.underlying42 row_err Tryd.underlying94 Tryd.underlying96 rfl rfl Tryd.underlying9 (by kernel_rfl) (by kernel_rfl)
    exact ⟨_, _, by have h0 := World.var?_cell (g := 1) (by kernel_rfl) hv0 0; simpa using h0⟩
  · obtain ⟨a0, s0, hv0, -, -, -⟩ := laid_sentinel (g := 2) (ti := 42) (tp := 94) (te := 96) (ts := 9) h3 (by kernel_rfl) (by kernel_rfl) Tryd.underlying42 row_err Tryd.underlying94 Tryd.underlying96 rfl rfl Tryd.underlying9 (by kernel_rfl) (by kernel_rfl)
    exact ⟨_, _, by have h0 := World.var?_cell (g := 2) (by kernel_rfl) hv0 0; simpa using h0⟩
theorem termTexts_walkL {w : World} (hl : (Tab w ∧ Errs w) ∧ Cell0 w) (p : Int) (_ : (Lit.int .i64 p).wf = true) (s : ByteArray) (hs : s.size ≤ 140737488351232) :
    Calls Tryd.prog 6 #[.int .i64 p, .string s] w fun e w' => e = .returned (.bool true) ∧ Chg [] w w' := by
  obtain ⟨⟨ht, he⟩, hm⟩ := hl
  by_cases h : s.size ≤ 40
  · exact termTexts_near ht he hm p s h
  · exact termTexts_far ht p s (by omega) hs
end Go.Proofs.YtpiaijnjglhggaaDoor
