/- A row that lists variables, and needs what a variable of the library holds: the contract is given what is listed, and the world's shape. -/
import Derived.Test.YteaekpnmiicbhaaDoorPKd
import Derived.Test.YteaekpnmiicbhaaDoorRows
import Derived.Shelf.Vars
namespace Go.Proofs.YteaekpnmiicbhaaDoor
open Go.RowKit X
theorem handed_laid {H : Type} {enc : TypeId × Value → H} {a : Assume} {C : Checked} {os : Os} {f : FuncId} {fn : Func} {s : ChangeSpec} {conds : List PathCond} {apart fresh handsOn again : Bool} {X : World → Array Value → Prop}
    (same : ∀ (w w' : World) (args : Array Value), w.heap = w'.heap → X w args → X w' args)
    (own : ownKnob C.prog.godebug = none) (started : os.Started) (noInit : C.prog.inits.idxOf? f = none) (hfn : C.prog.funcs[f]? = some fn)
    (start : ∃ (w : World) (tape : Tape) (i : Input), w.os = os ∧ (w.forCall tape i).Shaped C.prog ∧ i.vars = [] ∧ Input.okWide C.prog (w.forCall tape i) .any w.heap.size f i ∧
      ((s.pre enc C.prog fn conds apart (w.forCall tape i).memory i.args ∧ X (w.forCall tape i).memory i.args) ∧ sizedMet enc C.prog fn (OpenSpec.ofChange s) apart (w.forCall tape i).memory i.args) ∧ a.holds C.prog (lone (Frame.enter C.prog f i.args .normal) [] (w.forCall tape i)))
    (call : ∀ (W : World) (base : Nat) (args : Array Value) (ds gs : List (DataW H)) (before : List MemPlace),
      (∀ (j : Nat) t v, fn.params[j]? = some t → args[j]? = some v → Value.okWide C.prog W .any base t v) →
      DataW.Whole enc C.prog fn.params.toList s.vars apart W args.toList ds gs before → X W args → W.ShapedOpen C.prog →
      Calls C.prog f args W fun e W' => ∃ v, e = .returned v ∧ s.post enc C.prog fn apart fresh handsOn again W args v W') :
    ReturnsInHanded a C os f .any (fun w args => (s.pre enc C.prog fn conds apart w args ∧ X w args) ∧ sizedMet enc C.prog fn (OpenSpec.ofChange s) apart w args) (s.post enc C.prog fn apart fresh handsOn again) := by
  refine returnsInHanded_of_calls own started noInit start ?_
  rintro w tape i _ shape _ ⟨_, _, _, fn', hfn', _, _, _, _, vals⟩ ⟨⟨⟨ds, gs, before, whole, _⟩, hX⟩, _⟩ _
  obtain rfl := Option.some.inj (hfn'.symm.trans hfn)
  refine (call (w.forCall tape i) w.heap.size i.args ds gs before vals (DataW.Whole.of_heap (w' := w.forCall tape i) (by rfl) whole) (same _ _ _ (by rfl) hX) shape).mono ?_
  rintro e W' ⟨v, rfl, post⟩
  exact ChangeSpec.post_blind post
end Go.Proofs.YteaekpnmiicbhaaDoor
