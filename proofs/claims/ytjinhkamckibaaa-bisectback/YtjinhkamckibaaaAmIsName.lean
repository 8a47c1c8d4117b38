/- catalog.IsName: its model is the truth. -/
import Derived.Test.YtjinhkamckibaaaAmBis7
import Derived.Test.YtjinhkamckibaaaAmPure
set_option linter.all false
namespace Am
open Go Go.RowKit
set_option maxRecDepth 100000

/-- Anything new that nobody tells of. -/
theorem Rel.allocObj {W : World} {κ : Kap} {S : St} {w : World} (h : Rel W κ S w) (o : Obj) : Rel W κ S (w.alloc o) := by
  refine ⟨h.below.alloc h.below.size _, h.len, ?_, h.disj, ?_, h.fzd, h.lo, h.loops.alloc _ (fun _ _ _ h => h), h.dom, h.held.step h.loops rfl (fun b o _ hb => by rw [← hb]; exact Below.heap_alloc _ _ _ (Array.getElem?_eq_some_iff.1 hb).1)
    (fun r v cs i hr hi => .inl ⟨r, v, cs, i, hr, hi, rfl⟩) (fun b x y hy => .inl hy) (fun _ _ _ h => h) (fun _ _ h => h)⟩
  · intro r v cs i hS hi
    obtain ⟨a1, a2, a3, arr', e', fr, a4, a5, a6, a7, a8⟩ := h.own r v cs i hS hi
    refine ⟨a1, a2, a3, arr', e', fr, ?_, a5, a6, a7, a8⟩
    rw [← a4]; exact Below.heap_alloc _ _ _ (h.blk_lt hS hi)
  · intro b o' y hy
    have := h.fz b o' y hy
    rw [World.cell?_alloc_lt _ _ _ (World.block_lt_of_cell? _ _ this)]; exact this
end Am

namespace Am.Bis
open Am Go Go.Proofs Go.RowKit
set_option maxRecDepth 100000
def signU (b : UInt8) : Bool := Go.Proofs.Bis.signU b
def nameB (l : List UInt8) : Bool := l.all signU && decide (l.length ≠ 0) && decide (l.length ≤ 12)
def mIsName : Model := fun args S => match args with
  | [.str s] => some (.bool (nameB s), S)
  | _ => none

theorem isName_callable : Callable Try.prog 20 := ⟨_, Try.func20, by kernel_rfl, by kernel_rfl⟩

theorem sIsName : Sound Try.prog 20 mIsName := by
  intro W hW args S v S' hm
  refine ⟨isName_callable, ?_⟩
  unfold mIsName at hm
  split at hm
  · rename_i l
    simp only [Option.some.injEq, Prod.mk.injEq] at hm
    obtain ⟨rfl, rfl⟩ := hm
    intro κ w args' hr ha
    obtain ⟨y, ys, rfl, h1, h2⟩ := ha.uncons
    have := h2.unnil; subst this
    cases h1 with
    | str _ b hb =>
    refine (Go.Proofs.Bis.isName_calls _ w).mono ?_
    rintro e w' ⟨rfl, pos, rfl⟩
    refine ⟨.bool (nameB l), _, _, κ, rfl, ⟨rfl, rfl⟩, ?_, hr.allocObj _, Kap.le_refl κ⟩
    have e : nameB l = (b.data.toList.all Go.Proofs.Bis.signU && decide (b.size ≠ 0) && decide (b.size ≤ 12)) := by
      rw [← hb]
      have e2 : b.size = b.data.toList.length := by simp
      rw [e2]; rfl
    rw [← e]
    exact .bool _
  · simp at hm
end Am.Bis
