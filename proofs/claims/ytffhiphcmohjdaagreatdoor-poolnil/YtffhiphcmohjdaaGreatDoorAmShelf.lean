/- From a contract of the library to a model of the machine. -/
import Derived.Test.YtffhiphcmohjdaaGreatDoorAmPure
set_option linter.all false
namespace Am
open Go Go.RowKit
variable {P : Program} {W : World} {κ : Kap} {S : St} {w w' : World}

/-- What was there stays, and more lies behind. -/
theorem Rel.more (h : Rel W κ S w) (hb : Below w.heap.size w w') : Rel W κ S w' := by
  have hk : ∀ (b : Nat) o, w.heap[b]? = some o → w'.heap[b]? = some o := fun b o ho => by
    rw [hb.block b (Array.getElem?_eq_some_iff.1 ho).1]; exact ho
  refine ⟨h.below.trans (hb.mono h.below.size), h.len, ?_, h.disj, ?_, h.fzd, h.lo, h.loops.step (fun _ _ h => h) (fun _ _ _ h => h) (fun b o hb _ => hk b o hb), h.dom,
    h.held.step h.loops rfl (fun b o _ hb => hk b o hb) (fun r v cs i hr hi => .inl ⟨r, v, cs, i, hr, hi, rfl⟩) (fun b x y hy => .inl hy) (fun _ _ _ h => h) (fun _ _ h => h)⟩
  · intro r v cells i hS hi
    obtain ⟨a1, a2, a3, arr', e', fr, a4, a5, a6, a7, a8⟩ := h.own r v cells i hS hi
    exact ⟨a1, a2, a3, arr', e', fr, hk _ _ a4, a5, a6, a7, a8⟩
  · intro b o' y hy
    have := h.fz b o' y hy
    rw [hb.cell (World.block_lt_of_cell? _ _ this)]; exact this

theorem Rel.wok (h : Rel W κ S w) (hW : WOk P W) : WOk P w := hW.later h.below

/-- A function's contract, where its result is told in place. -/
theorem SoundW.of {g : FuncId} {m : Model} (hc : Callable P g)
    (h : ∀ args S v S', m args S = some (v, S') → S' = S ∧ ∀ (κ : Kap) (w : World) (args' : List Value), WOk P w → Rel W κ S w → VRelL κ args args' →
      Calls P g args'.toArray w fun e w' => ∃ x, e = .returned x ∧ VRel κ v x ∧ Below w.heap.size w w') (hW : WOk P W) : SoundW P W g m := by
  intro args S v S' hm
  refine ⟨hc, fun κ w args' hr ha => ?_⟩
  obtain ⟨rfl, h1⟩ := h args S v S' hm
  refine (h1 κ w args' (hr.wok hW) hr ha).mono ?_
  rintro e w' ⟨x, rfl, hx, hb⟩
  exact ⟨v, x, S', κ, rfl, ⟨rfl, rfl⟩, hx, hr.more hb, Kap.le_refl κ⟩

theorem below_refl (w : World) : Below w.heap.size w w := Below.refl _ _

/-- A text of the machine and the program's. -/
theorem str_inv {s : List UInt8} {y : Value} (h : VRel κ (.str s) y) : ∃ b : ByteArray, y = .string b ∧ b.data.toList = s := by
  cases h with
  | str _ b h => exact ⟨b, rfl, h⟩
theorem int_inv {k : IntKind} {n : Int} {y : Value} (h : VRel κ (.int k n) y) : y = .int k n := by
  cases h; rfl
theorem str_of (l : List UInt8) : VRel κ (.str l) (.string ⟨l.toArray⟩) := .str _ _ (by simp)
end Am
