/- A block that came into being in a call: it is taken into the abstract heap behind the call. -/
import Derived.Test.YtffhiphcmohjdaaGreatDoorAmShelf
set_option linter.all false
namespace Am
open Go Go.RowKit
variable {W : World} {κ : Kap} {S : St} {w w1 : World}

theorem Rel.newAt (h : Rel W κ S w) (hb : Below w.heap.size w w1) {g : Nat} {arr : Array Value} {e : TypeId} (hg : w.heap.size ≤ g) (hgb : w1.heap[g]? = some (.cells arr e (0, 0))) (cells : List AVal)
    (hle : cells.length ≤ arr.size) (hr : ∀ (j : Nat) x y, cells[j]? = some x → arr[j]? = some y → VRel κ x y)
    (hsc : ∀ (j : Nat) y, j < cells.length → arr[j]? = some y → scalar y) :
    Rel W (κ.add ⟨g, 0, arr.size, 0⟩) (S ++ [.live 0 cells]) w1 := by
  have h1 := h.more hb
  have hW : W.heap.size ≤ w.heap.size := h.below.size
  have hmono := Kap.le_add κ ⟨g, 0, arr.size, 0⟩
  have hlen := h.len
  have hg1 : g < w1.heap.size := (Array.getElem?_eq_some_iff.1 hgb).1
  refine ⟨h1.below, ?_, ?_, ?_, ?_, ?_, h1.lo, h1.loops.step (fun _ _ h => h) (fun j b hb hj => ?_) (fun b o hb _ => hb), fun j p hp => ?_,
    h.held.step h.loops rfl (fun b o _ ho => (hb.block b (Array.getElem?_eq_some_iff.1 ho).1).trans ho) (fun r v cs i hr hi => ?_) (fun _ _ _ h => .inl h) (fun j b hb hj => ?_) (fun _ _ h => h)⟩
  · show (κ.blocks ++ [_]).length = _; simp [hlen]
  · intro r v cs i hS hi
    have hi' : (κ.blocks ++ [_])[r]? = some i := hi
    rcases getElem?_concat_cases hS with ⟨hS', hlt⟩ | ⟨hr0, hb⟩
    · rcases getElem?_concat_cases hi' with ⟨hi'', _⟩ | ⟨hr1, _⟩
      · obtain ⟨a1, a2, a3, arr', e', fr, a4, a5, a6, a7, a8⟩ := h1.own r v cs i hS' hi''
        exact ⟨a1, a2, a3, arr', e', fr, a4, a5, a6, VRel.cell_mono hmono a7, a8⟩
      · omega
    · rcases getElem?_concat_cases hi' with ⟨_, hlt⟩ | ⟨hr1, hii⟩
      · omega
      · cases hb; subst hii
        refine ⟨rfl, Nat.le_trans hW hg, hle, arr, e, (0, 0), hgb, by simp, by simp, ?_, by simpa using hsc⟩
        intro j x y hx hy
        exact (hr j x y hx (by simpa using hy)).mono hmono
  · intro r r' v v' cs cs' i i' hS hS' hi hi' hblk
    have hi2 : (κ.blocks ++ [_])[r]? = some i := hi
    have hi2' : (κ.blocks ++ [_])[r']? = some i' := hi'
    rcases getElem?_concat_cases hS with ⟨hS1, hlt⟩ | ⟨hr0, hb⟩ <;> rcases getElem?_concat_cases hS' with ⟨hS1', hlt'⟩ | ⟨hr0', hb'⟩
    · rcases getElem?_concat_cases hi2 with ⟨hi3, _⟩ | ⟨hr1, _⟩
      · rcases getElem?_concat_cases hi2' with ⟨hi3', _⟩ | ⟨hr1', _⟩
        · exact h.disj r r' v v' cs cs' i i' hS1 hS1' hi3 hi3' hblk
        · omega
      · omega
    · rcases getElem?_concat_cases hi2 with ⟨hi3, _⟩ | ⟨hr1, _⟩
      · rcases getElem?_concat_cases hi2' with ⟨_, hx⟩ | ⟨_, hii⟩
        · omega
        · have := h.blk_lt hS1 hi3
          subst hii; simp at hblk; omega
      · omega
    · rcases getElem?_concat_cases hi2' with ⟨hi3, _⟩ | ⟨hr1, _⟩
      · rcases getElem?_concat_cases hi2 with ⟨_, hx⟩ | ⟨_, hii⟩
        · omega
        · have := h.blk_lt hS1' hi3
          subst hii; simp at hblk; omega
      · omega
    · omega
  · intro b o y hy
    exact h1.fz b o y hy
  · intro b o y r v cs i hy hS hi
    have hi' : (κ.blocks ++ [_])[r]? = some i := hi
    rcases getElem?_concat_cases hS with ⟨hS', hlt⟩ | ⟨hr0, hb⟩
    · rcases getElem?_concat_cases hi' with ⟨hi'', _⟩ | ⟨hr1, _⟩
      · exact h.fzd b o y r v cs i hy hS' hi''
      · omega
    · rcases getElem?_concat_cases hi' with ⟨_, hlt⟩ | ⟨hr1, hii⟩
      · omega
      · have := World.block_lt_of_cell? _ _ (h.fz b o y hy)
        subst hii; simp at this ⊢; omega
  · rcases getElem?_concat_cases hj with ⟨h1, _⟩ | ⟨_, h1⟩
    · exact h1
    · subst h1; simp [other] at hb
  · have := h.dom j p hp; show j < (κ.blocks ++ [_]).length; simp; omega
  · have hi' : (κ.blocks ++ [_])[r]? = some i := hi
    rcases getElem?_concat_cases hi' with ⟨h2, h3⟩ | ⟨_, h2⟩
    · rcases getElem?_concat_cases hr with ⟨h1, _⟩ | ⟨h1, _⟩
      · exact .inl ⟨r, v, cs, i, h1, h2, rfl⟩
      · omega
    · exact .inr (by rw [h2]; exact hg)
  · rcases getElem?_concat_cases hj with ⟨h1, _⟩ | ⟨_, h1⟩
    · exact h1
    · subst h1; simp [other] at hb
end Am
