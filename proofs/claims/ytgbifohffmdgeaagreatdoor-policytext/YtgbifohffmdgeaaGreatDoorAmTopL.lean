/- From the machine's word at an empty heap to a row whose listed variable is laid. -/
import Derived.Test.YtgbifohffmdgeaaGreatDoorAmTop
import Derived.Handed
import Derived.LaidLaws
import Derived.LaidHandle
set_option linter.all false
namespace Am
open Go Go.RowKit Go.ChangeShapes Go.WideShapes
section
variable {H : Type} {enc : TypeId × Value → H}

theorem liftedL {C : Checked} {os : Os} {f : FuncId} {fn : Func} {s : ChangeSpec} {conds : List PathCond} {fresh handsOn again : Bool} {tb : TypeId} {X : World → Prop}
    (own : ownKnob C.prog.godebug = none) (started : os.Started) (noInit : C.prog.inits.idxOf? f = none) (hfn : C.prog.funcs[f]? = some fn)
    (hXh : ∀ (w w' : World), w.heap = w'.heap → X w → X w')
    (witness : ∃ (w : World) (tape : Tape) (i : Input), w.os = os ∧ (w.forCall tape i).Shaped C.prog ∧ i.vars = [] ∧ Input.okWide C.prog (w.forCall tape i) .any w.heap.size f i ∧
      ((s.pre enc C.prog fn conds false (w.forCall tape i).memory i.args ∧ X (w.forCall tape i).memory) ∧ sizedMet enc C.prog fn (OpenSpec.ofChange s) false (w.forCall tape i).memory i.args) ∧ ({} : Assume).holds C.prog (lone (Frame.enter C.prog f i.args .normal) [] (w.forCall tape i)))
    (hv : s.vars = []) (hl : laidOutB C.prog = true) (ts : List DT) (hf : fitAll C.prog ts fn.params.toList = true)
    (hr : fn.resultTypes = #[tb]) (ht : (C.prog.underlying tb matches some .bool) = true)
    (hs : ∀ ds : List (DataW H), ds.length = fn.params.toList.length → s.fn H ds = { results := [.lit (.bool true)], args := ds })
    (hXW : ∀ W, X W → WOk C.prog W) (law : ∀ x : Vals ts, Wfs ts x → ∀ W, WOk C.prog W → ACalls C.prog W f (encs ts x) [] fun v _ => v = .bool true) :
    ReturnsInHanded {} C os f .any (fun w args => (s.pre enc C.prog fn conds false w args ∧ X w) ∧ sizedMet enc C.prog fn (OpenSpec.ofChange s) false w args) (s.post enc C.prog fn false fresh handsOn again) := by
  have ht' : C.prog.underlying tb = some .bool := by split at ht <;> simp_all
  refine returnsInHanded_of_change_and (X := fun w _ => X w) (fun w w' _ hh h => hXh w w' hh h) own started noInit hfn witness ?_
  intro W base args ds gs before hval hW _ _ hX _
  have hW0 := hW
  obtain ⟨p, q, hA, hV, hpq, hfz, hnd⟩ := hW
  obtain ⟨h1, h2⟩ := fitAll_ok hf
  obtain ⟨x, hx1, hx2⟩ := told_all (b := base) ts fn.params.toList args.toList ds p h1
    (fun j u v hu hv => hval j u v (by simpa using hu) (by simpa using hv)) hA
  have := law x hx1 W (hXW W hX) (kap0 W) W args.toList (rel0 W) hx2
  simp only [Array.toArray_toList] at this
  refine this.mono fun e W' ⟨v, v', S', κ', he, hv', hrel, hR, _⟩ => ?_
  subst hv'
  cases hrel
  exact ⟨_, he, post_true hW0 hv hl h2 hr ht' hs hR.below⟩
end
end Am
