/- What the model's memory steps do to the relation between the abstract heap and the world. -/
import Derived.Test.YtffhiphcmohjdaaGreatDoorAmIr
set_option linter.all false
namespace Am
open Go Go.RowKit

theorem below_of {W w w' : World} (h : Below W.heap.size W w) (ho : w'.os = w.os) (ht : w'.tape = w.tape) (hp : w'.output = w.output) (hs : w.heap.size ≤ w'.heap.size)
    (hb : ∀ k, k < W.heap.size → w'.heap[k]? = w.heap[k]?) : Below W.heap.size W w' :=
  h.trans ⟨ho, ht, hp, hs, hb⟩

/-- A world that is as another one but for the count of draws. -/
theorem Rel.drawn {W : World} {κ : Kap} {S : St} {w : World} (h : Rel W κ S w) (n : Nat) : Rel W κ S { w with drawn := n } where
  below := below_of h.below rfl rfl rfl (Nat.le_refl _) (fun _ _ => rfl)
  len := h.len
  own := h.own
  disj := h.disj
  fz := h.fz
  fzd := h.fzd
  lo := h.lo
  loops := h.loops.step (fun _ _ h => h) (fun _ _ _ h => h) (fun _ _ h _ => h)
  dom := h.dom
  held := h.held.step h.loops rfl (fun _ _ _ h => h) (fun r v cs i hr hi => .inl ⟨r, v, cs, i, hr, hi, rfl⟩) (fun _ _ _ h => .inl h) (fun _ _ _ h => h) (fun _ _ h => h)

theorem Rel.drew {W : World} {κ : Kap} {S : St} {w : World} (h : Rel W κ S w) : Rel W κ S w.drew := h.drawn _

theorem Rel.blk_lt {W : World} {κ : Kap} {S : St} {w : World} (h : Rel W κ S w) {r v : Nat} {cs : List AVal} {i : BInfo}
    (hS : S[r]? = some (.live v cs)) (hi : κ.blocks[r]? = some i) : i.blk < w.heap.size := by
  obtain ⟨_, _, _, arr, e, fr, hb, _⟩ := h.own r v cs i hS hi
  exact (Array.getElem?_eq_some_iff.1 hb).1

theorem Rel.info {W : World} {κ : Kap} {S : St} {w : World} (h : Rel W κ S w) {r : Nat} {b : ABlock} (hS : S[r]? = some b) : ∃ i, κ.blocks[r]? = some i := by
  have : r < κ.blocks.length := by rw [h.len]; exact (List.getElem?_eq_some_iff.1 hS).1
  exact ⟨_, List.getElem?_eq_getElem this⟩

def Kap.add (κ : Kap) (i : BInfo) : Kap := { κ with blocks := κ.blocks ++ [i] }
theorem Kap.le_add (κ : Kap) (i : BInfo) : κ.le (κ.add i) := by
  refine ⟨fun r j hj => ⟨j, ?_, .inl rfl⟩, fun _ _ _ h => h, rfl, fun _ _ _ h => .inl h, fun _ _ h => h, rfl⟩
  show (κ.blocks ++ [i])[r]? = some j
  rw [List.getElem?_append_left (List.getElem?_eq_some_iff.1 hj).1]; exact hj

def Kap.upd (κ : Kap) (r : Nat) (i : BInfo) : Kap := { κ with blocks := κ.blocks.set r i }
theorem Kap.le_upd (κ : Kap) {r : Nat} {i j : BInfo} (h : κ.blocks[r]? = some i) (hv : i.ver < j.ver) : κ.le (κ.upd r j) := by
  refine ⟨fun q k hk => ?_, fun _ _ _ h => h, rfl, fun _ _ _ h => .inl h, fun _ _ h => h, rfl⟩
  show ∃ i', (κ.blocks.set r j)[q]? = some i' ∧ _
  rw [List.getElem?_set]
  by_cases e : r = q
  · subst e
    rw [h] at hk; cases hk
    exact ⟨j, by simp [(List.getElem?_eq_some_iff.1 h).1], .inr hv⟩
  · exact ⟨k, by simp [e, hk], .inl rfl⟩

theorem VRel.cell_mono {κ κ' : Kap} (hle : κ.le κ') {cells : List AVal} {arr : Array Value} {base : Nat}
    (h : ∀ (j : Nat) x y, cells[j]? = some x → arr[base + j]? = some y → VRel κ x y) : ∀ (j : Nat) x y, cells[j]? = some x → arr[base + j]? = some y → VRel κ' x y :=
  fun j x y hx hy => (h j x y hx hy).mono hle

theorem getElem?_concat_cases {α : Type} {l : List α} {a b : α} {r : Nat} (h : (l ++ [a])[r]? = some b) : (l[r]? = some b ∧ r < l.length) ∨ (r = l.length ∧ b = a) := by
  rw [List.getElem?_append] at h
  split at h
  · rename_i hr; exact .inl ⟨h, hr⟩
  · rename_i hr
    right
    have : r - l.length = 0 := by
      cases hh : r - l.length with
      | zero => rfl
      | succ n => rw [hh] at h; simp at h
    rw [this] at h; simp at h
    exact ⟨by omega, h.symm⟩

theorem heap_alloc_new (w : World) (o : Obj) : (w.alloc o).heap[w.heap.size]? = some o := by
  show (w.heap.push o)[w.heap.size]? = _
  simp

theorem LoopsOk.bnd {W : World} {κ : Kap} {S : St} {w : World} (h : LoopsOk W κ S w) {j : Nat} {b : ABlock} (hb : other b = true) (hj : S[j]? = some b) {l : Nat} {t : Loop} (hr : κ.recs j = some (l, t)) :
    l < w.heap.size ∧ t.defers < w.heap.size ∧ OthOk W w l t b := by
  obtain ⟨l', t', h1, h2⟩ := h.atO j b hb hj
  rw [hr] at h1; cases h1
  refine ⟨?_, ?_, h2⟩
  · cases b with
    | loop st pe => exact (Array.getElem?_eq_some_iff.1 h2.1).1
    | mp es clk => obtain ⟨_, _, xs, h3, _⟩ := h2; exact (Array.getElem?_eq_some_iff.1 h3).1
    | _ => simp [other] at hb
  · cases b with
    | loop st pe => exact (Array.getElem?_eq_some_iff.1 h2.2.2.1).1
    | mp es clk => obtain ⟨_, h4, xs, h3, _⟩ := h2; rw [h4]; exact (Array.getElem?_eq_some_iff.1 h3).1
    | _ => simp [other] at hb

theorem LoopsOk.alloc {W : World} {κ κ' : Kap} {S S' : St} {w : World} (h : LoopsOk W κ S w) (o : Obj) (hS : ∀ (j : Nat) b, other b = true → S'[j]? = some b → S[j]? = some b)
    (hle : ∀ j p, κ.recs j = some p → κ'.recs j = some p := by exact fun _ _ h => h) : LoopsOk W κ' S' (w.alloc o) :=
  h.step hle hS (fun b o' hb _ => by rw [← hb]; exact Below.heap_alloc _ _ _ (Array.getElem?_eq_some_iff.1 hb).1)

/-- A new block of the call's own. -/
theorem Rel.alloc {W : World} {κ : Kap} {S : St} {w : World} (h : Rel W κ S w) (arr : Array Value) (e : TypeId) (cells : List AVal)
    (hle : cells.length ≤ arr.size) (hr : ∀ (j : Nat) x y, cells[j]? = some x → arr[j]? = some y → VRel κ x y)
    (hsc : ∀ (j : Nat) y, j < cells.length → arr[j]? = some y → scalar y) :
    Rel W (κ.add ⟨w.heap.size, 0, arr.size, 0⟩) (S ++ [.live 0 cells]) (w.alloc (.cells arr e)) := by
  have hW : W.heap.size ≤ w.heap.size := h.below.size
  have hmono := Kap.le_add κ ⟨w.heap.size, 0, arr.size, 0⟩
  have hlen := h.len
  refine ⟨?_, ?_, ?_, ?_, ?_, ?_, h.lo, h.loops.alloc _ (fun j b hb hj => ?_), fun j p hp => ?_, h.held.step h.loops rfl (fun b o _ hb => by rw [← hb]; exact Below.heap_alloc _ _ _ (Array.getElem?_eq_some_iff.1 hb).1) (fun r v cs i hr hi => ?_) (fun _ _ _ h => .inl h) (fun j b hb hj => ?_) (fun _ _ h => h)⟩
  rotate_right
  · rcases getElem?_concat_cases hj with ⟨h1, _⟩ | ⟨_, h1⟩
    · exact h1
    · subst h1; simp [other] at hb
  rotate_right
  · have hi' : (κ.blocks ++ [_])[r]? = some i := hi
    rcases getElem?_concat_cases hi' with ⟨h2, h3⟩ | ⟨_, h2⟩
    · rcases getElem?_concat_cases hr with ⟨h1, _⟩ | ⟨h1, _⟩
      · exact .inl ⟨r, v, cs, i, h1, h2, rfl⟩
      · omega
    · exact .inr (by rw [h2]; exact Nat.le_refl _)
  rotate_right
  · have := h.dom j p hp; show j < (κ.blocks ++ [_]).length; simp; omega
  rotate_right
  · rcases getElem?_concat_cases hj with ⟨h1, _⟩ | ⟨_, h1⟩
    · exact h1
    · subst h1; simp [other] at hb
  · exact h.below.alloc hW _
  · show (κ.blocks ++ [_]).length = _; simp [hlen]
  · intro r v cs i hS hi
    have hi' : (κ.blocks ++ [_])[r]? = some i := hi
    rcases getElem?_concat_cases hS with ⟨hS', hlt⟩ | ⟨hr0, hb⟩
    · rcases getElem?_concat_cases hi' with ⟨hi'', _⟩ | ⟨hr1, _⟩
      · obtain ⟨a1, a2, a3, arr', e', fr, a4, a5, a6, a7, a8⟩ := h.own r v cs i hS' hi''
        refine ⟨a1, a2, a3, arr', e', fr, ?_, a5, a6, VRel.cell_mono hmono a7, a8⟩
        rw [← a4]; exact Below.heap_alloc _ _ _ (h.blk_lt hS' hi'')
      · omega
    · rcases getElem?_concat_cases hi' with ⟨_, hlt⟩ | ⟨hr1, hii⟩
      · omega
      · cases hb; subst hii
        refine ⟨rfl, hW, hle, arr, e, (0, 0), ?_, by simp, by simp, ?_, by simpa using hsc⟩
        · exact heap_alloc_new w _
        · intro j x y hx hy
          exact (hr j x y hx (by simpa using hy)).mono hmono
  · intro r r' v v' cs cs' i i' hS hS' hi hi' hblk
    have hi2 : (κ.blocks ++ [_])[r]? = some i := hi
    have hi2' : (κ.blocks ++ [_])[r']? = some i' := hi'
    rcases getElem?_concat_cases hS with ⟨hS1, hlt⟩ | ⟨hr0, hb⟩ <;> rcases getElem?_concat_cases hS' with ⟨hS1', hlt'⟩ | ⟨hr0', hb'⟩
    · rcases getElem?_concat_cases hi2 with ⟨hi3, _⟩ | ⟨hr1, _⟩
      · rcases getElem?_concat_cases hi2' with ⟨hi3', _⟩ | ⟨hr1', _⟩
        · exact h.disj r r' v v' cs cs' i i' hS1 hS1' hi3 hi3' hblk
        · omega
      · omega
    · rcases getElem?_concat_cases hi2 with ⟨hi3, _⟩ | ⟨hr1, _⟩
      · rcases getElem?_concat_cases hi2' with ⟨_, hx⟩ | ⟨_, hii⟩
        · omega
        · have := h.blk_lt hS1 hi3
          subst hii; simp at hblk; omega
      · omega
    · rcases getElem?_concat_cases hi2' with ⟨hi3, _⟩ | ⟨hr1, _⟩
      · rcases getElem?_concat_cases hi2 with ⟨_, hx⟩ | ⟨_, hii⟩
        · omega
        · have := h.blk_lt hS1' hi3
          subst hii; simp at hblk; omega
      · omega
    · omega
  · intro b o y hy
    have := h.fz b o y hy
    rw [World.cell?_alloc_lt _ _ _ (World.block_lt_of_cell? _ _ this)]; exact this
  · intro b o y r v cs i hy hS hi
    have hi' : (κ.blocks ++ [_])[r]? = some i := hi
    rcases getElem?_concat_cases hS with ⟨hS', hlt⟩ | ⟨hr0, hb⟩
    · rcases getElem?_concat_cases hi' with ⟨hi'', _⟩ | ⟨hr1, _⟩
      · exact h.fzd b o y r v cs i hy hS' hi''
      · omega
    · rcases getElem?_concat_cases hi' with ⟨_, hlt⟩ | ⟨hr1, hii⟩
      · omega
      · have := World.block_lt_of_cell? _ _ (h.fz b o y hy)
        subst hii; simp at this ⊢; omega

/-- A new block whose cells are told in place. -/
def Kap.addFz (κ : Kap) (b : Nat) (arr : Array Value) : Kap := { κ with fz := fun b' o => if b' = b then arr[o]? else κ.fz b' o }
theorem Kap.le_addFz {W : World} {κ : Kap} {S : St} {w : World} (h : Rel W κ S w) (arr : Array Value) : κ.le (κ.addFz w.heap.size arr) := by
  refine ⟨fun r i hi => ⟨i, hi, .inl rfl⟩, fun b o y hy => ?_, rfl, fun b o y hy => ?_, fun _ _ h => h, rfl⟩
  · have := World.block_lt_of_cell? _ _ (h.fz b o y hy)
    simp only [Kap.addFz]
    rw [if_neg (by simp at this; omega)]; exact hy
  · simp only [Kap.addFz] at hy
    split at hy
    · rename_i hb; subst hb; exact .inr (Nat.le_trans h.lo h.below.size)
    · exact .inl hy

theorem Rel.allocFz {W : World} {κ : Kap} {S : St} {w : World} (h : Rel W κ S w) (arr : Array Value) (e : TypeId) :
    Rel W (κ.addFz w.heap.size arr) S (w.alloc (.cells arr e)) := by
  have hmono := Kap.le_addFz h arr
  refine ⟨h.below.alloc h.below.size _, h.len, ?_, ?_, ?_, ?_, h.lo, h.loops.alloc _ (fun _ _ _ h => h), h.dom, h.held.step h.loops rfl (fun b o _ hb => by rw [← hb]; exact Below.heap_alloc _ _ _ (Array.getElem?_eq_some_iff.1 hb).1)
    (fun r v cs i hr hi => .inl ⟨r, v, cs, i, hr, hi, rfl⟩) (fun b x y hy => by
      simp only [Kap.addFz] at hy
      split at hy
      · rename_i e; exact .inr (by omega)
      · exact .inl hy) (fun _ _ _ h => h) (fun _ _ h => h)⟩
  · intro r v cs i hS hi
    obtain ⟨a1, a2, a3, arr', e', fr, a4, a5, a6, a7, a8⟩ := h.own r v cs i hS hi
    refine ⟨a1, a2, a3, arr', e', fr, ?_, a5, a6, VRel.cell_mono hmono a7, a8⟩
    rw [← a4]; exact Below.heap_alloc _ _ _ (h.blk_lt hS hi)
  · exact h.disj
  · intro b o y hy
    simp only [Kap.addFz] at hy
    split at hy
    · rename_i hb; subst hb
      simp [World.cell?_alloc_new, hy]
    · have := h.fz b o y hy
      rw [World.cell?_alloc_lt _ _ _ (World.block_lt_of_cell? _ _ this)]; exact this
  · intro b o y r v cs i hy hS hi
    simp only [Kap.addFz] at hy
    split at hy
    · rename_i hb; subst hb; have := h.blk_lt hS hi; omega
    · exact h.fzd b o y r v cs i hy hS hi

/-- Cells of an owned block are written. -/
theorem Rel.write {W : World} {κ : Kap} {S : St} {w w' : World} (h : Rel W κ S w) {r v : Nat} {cells new : List AVal} {i j : BInfo}
    (hS : S[r]? = some (.live v cells)) (hi : κ.blocks[r]? = some i) (v' : Nat)
    (hj : (j = i ∧ v' = v) ∨ (i.ver < j.ver ∧ j.ver = v'))
    (hblk : j.blk = i.blk) {arr' : Array Value} {e : TypeId} {fr : Nat × Nat}
    (hw : w'.heap[i.blk]? = some (.cells arr' e fr)) (hext : j.base + j.ext ≤ arr'.size) (hle : new.length ≤ j.ext)
    (hfr : fr.1 = fr.2 ∨ arr'.size ≤ fr.1)
    (hr : ∀ (k : Nat) x y, new[k]? = some x → arr'[j.base + k]? = some y → VRel κ x y)
    (hsc : ∀ (k : Nat) y, k < new.length → arr'[j.base + k]? = some y → scalar y)
    (hother : ∀ b, b ≠ i.blk → w'.heap[b]? = w.heap[b]?) (hsz : w'.heap.size = w.heap.size)
    (hos : w'.os = w.os) (htape : w'.tape = w.tape) (hout : w'.output = w.output) :
    Rel W (κ.upd r j) (S.set r (.live v' new)) w' ∧ κ.le (κ.upd r j) := by
  obtain ⟨a1, a2, _⟩ := h.own r v cells i hS hi
  have hlt : r < S.length := (List.getElem?_eq_some_iff.1 hS).1
  have hltk : r < κ.blocks.length := (List.getElem?_eq_some_iff.1 hi).1
  have hmono : κ.le (κ.upd r j) := by
    rcases hj with ⟨rfl, rfl⟩ | ⟨hv, _⟩
    · have : κ.upd r j = κ := by
        unfold Kap.upd
        have : κ.blocks.set r j = κ.blocks := by
          apply List.ext_getElem?
          intro q; rw [List.getElem?_set]; by_cases e : r = q
          · subst e; rw [if_pos rfl, if_pos hltk, hi]
          · simp [e]
        rw [this]
      rw [this]; exact Kap.le_refl κ
    · exact Kap.le_upd κ hi hv
  have hjv : j.ver = v' := by
    rcases hj with ⟨rfl, rfl⟩ | ⟨_, hv⟩
    · exact a1
    · exact hv
  have kget : ∀ q, (κ.upd r j).blocks[q]? = if r = q then some j else κ.blocks[q]? := by
    intro q; show (κ.blocks.set r j)[q]? = _
    rw [List.getElem?_set]; by_cases e : r = q
    · simp [e]; rw [← e]; exact hltk
    · simp [e]
  have sget : ∀ (q : Nat), (S.set r (.live v' new))[q]? = if r = q then some (.live v' new) else S[q]? := by
    intro q
    rw [List.getElem?_set]; by_cases e : r = q
    · simp [e]; rw [← e]; exact hlt
    · simp [e]
  have hblk_ne : ∀ q u cs k, q ≠ r → S[q]? = some (.live u cs) → κ.blocks[q]? = some k → k.blk ≠ i.blk := by
    intro q u cs k hq hSq hk e
    exact hq (h.disj q r u v cs cells k i hSq hS hk hi e)
  have hset : ∀ (q : Nat) b, other b = true → (S.set r (.live v' new))[q]? = some b → S[q]? = some b := by
    intro q b hb hq
    rw [sget] at hq
    by_cases e : r = q
    · simp [e] at hq; subst hq; simp [other] at hb
    · simpa [e] using hq
  have hcel : ∀ (b : Nat) o, w.heap[b]? = some o → isCel o = false → w'.heap[b]? = some o := by
    intro b o hb ho
    have hne : b ≠ i.blk := by
      rintro rfl
      obtain ⟨_, _, _, arr0, e0, fr0, hb0, _⟩ := h.own r v cells i hS hi
      rw [hb0] at hb; cases hb; simp [isCel] at ho
    rw [hother b hne]; exact hb
  refine ⟨⟨?_, ?_, ?_, ?_, ?_, ?_, h.lo, h.loops.step (fun _ _ h => h) hset hcel, fun j p hp => by have := h.dom j p hp; show j < (κ.blocks.set r _).length; simpa using this,
    h.held.step h.loops rfl (fun b o hb hbo => by
      have hne := h.held.live b o r v cells i hb hS hi
      rw [hother b (fun e => hne e.symm)]; exact hbo) (fun q u cs k hq hk => by
      rw [kget] at hk; rw [sget] at hq
      by_cases e : r = q
      · simp [e] at hk; subst hk; exact .inl ⟨r, v, cells, i, hS, hi, hblk.symm⟩
      · simp [e] at hk hq; exact .inl ⟨q, u, cs, k, hq, hk, rfl⟩) (fun _ _ _ h => .inl h) hset (fun _ _ h => h)⟩, hmono⟩
  · exact below_of h.below hos htape hout (by omega) (fun k hk => hother k (by omega))
  · show (κ.blocks.set r j).length = _; simp [h.len]
  · intro q u cs k hSq hk
    rw [kget] at hk; rw [sget] at hSq
    by_cases e : r = q
    · simp [e] at hk hSq; subst hk
      obtain ⟨rfl, rfl⟩ := hSq
      exact ⟨hjv, by omega, hle, arr', _, fr, by rw [hblk]; exact hw, hext, hfr, VRel.cell_mono hmono hr, hsc⟩
    · simp [e] at hk hSq
      obtain ⟨b1, b2, b3, arr1, e1, fr1, b4, b5, b6, b7, b8⟩ := h.own q u cs k hSq hk
      refine ⟨b1, b2, b3, arr1, e1, fr1, ?_, b5, b6, VRel.cell_mono hmono b7, b8⟩
      rw [hother _ (hblk_ne q u cs k (fun x => e x.symm) hSq hk)]; exact b4
  · intro q q' u u' cs cs' k k' hSq hSq' hk hk' hb
    rw [kget] at hk hk'; rw [sget] at hSq hSq'
    by_cases e : r = q
    · by_cases e' : r = q'
      · omega
      · simp [e] at hk hSq; simp [e'] at hk' hSq'; subst hk
        exact absurd (hb.symm.trans hblk) (hblk_ne q' u' cs' k' (fun x => e' x.symm) hSq' hk')
    · by_cases e' : r = q'
      · simp [e] at hk hSq; simp [e'] at hk' hSq'; subst hk'
        exact absurd (hb.trans hblk) (hblk_ne q u cs k (fun x => e x.symm) hSq hk)
      · simp [e] at hk hSq; simp [e'] at hk' hSq'
        exact h.disj q q' u u' cs cs' k k' hSq hSq' hk hk' hb
  · intro b o y hy
    have h1 := h.fz b o y hy
    have hne : b ≠ i.blk := fun e => h.fzd b o y r v cells i hy hS hi e.symm
    rw [← h1]; exact World.cell?_of_block (hother b hne)
  · intro b o y q u cs k hy hSq hk
    rw [kget] at hk; rw [sget] at hSq
    by_cases e : r = q
    · simp [e] at hk hSq; subst hk; rw [hblk]
      exact h.fzd b o y r v cells i hy hS hi
    · simp [e] at hk hSq
      exact h.fzd b o y q u cs k hy hSq hk

theorem Kap.upd_self {κ : Kap} {r : Nat} {i : BInfo} (hi : κ.blocks[r]? = some i) : κ.upd r i = κ := by
  unfold Kap.upd
  have : κ.blocks.set r i = κ.blocks := by
    apply List.ext_getElem?
    intro q; rw [List.getElem?_set]; by_cases e : r = q
    · subst e; rw [if_pos rfl, if_pos (List.getElem?_eq_some_iff.1 hi).1, hi]
    · simp [e]
  rw [this]

/-- The abstract version moves on to another block: what 'append' does when it must grow. -/
theorem Rel.move {W : World} {κ : Kap} {S : St} {w : World} (h : Rel W κ S w) {r v : Nat} {cells new : List AVal} {i : BInfo}
    (hS : S[r]? = some (.live v cells)) (hi : κ.blocks[r]? = some i) (arr : Array Value) (e : TypeId)
    (hle : new.length ≤ arr.size) (hr : ∀ (j : Nat) x y, new[j]? = some x → arr[j]? = some y → VRel κ x y)
    (hsc : ∀ (j : Nat) y, j < new.length → arr[j]? = some y → scalar y) :
    Rel W (κ.upd r ⟨w.heap.size, 0, arr.size, v + 1⟩) (S.set r (.live (v + 1) new)) (w.alloc (.cells arr e)) ∧ κ.le (κ.upd r ⟨w.heap.size, 0, arr.size, v + 1⟩) := by
  obtain ⟨a1, _, _⟩ := h.own r v cells i hS hi
  have hlt : r < S.length := (List.getElem?_eq_some_iff.1 hS).1
  have hltk : r < κ.blocks.length := (List.getElem?_eq_some_iff.1 hi).1
  have hW : W.heap.size ≤ w.heap.size := h.below.size
  generalize hjj : (⟨w.heap.size, 0, arr.size, v + 1⟩ : BInfo) = j
  have hjb : j.blk = w.heap.size := by rw [← hjj]
  have hmono : κ.le (κ.upd r j) := Kap.le_upd κ hi (by rw [← hjj]; simp; omega)
  have kget : ∀ q, (κ.upd r j).blocks[q]? = if r = q then some j else κ.blocks[q]? := by
    intro q; show (κ.blocks.set r j)[q]? = _
    rw [List.getElem?_set]; by_cases e : r = q
    · simp [e]; rw [← e]; exact hltk
    · simp [e]
  have sget : ∀ (q : Nat), (S.set r (.live (v + 1) new))[q]? = if r = q then some (.live (v + 1) new) else S[q]? := by
    intro q
    rw [List.getElem?_set]; by_cases e : r = q
    · simp [e]; rw [← e]; exact hlt
    · simp [e]
  have hset : ∀ (q : Nat) b, other b = true → (S.set r (.live (v + 1) new))[q]? = some b → S[q]? = some b := by
    intro q b hb hq
    rw [sget] at hq
    by_cases e : r = q
    · simp [e] at hq; subst hq; simp [other] at hb
    · simpa [e] using hq
  refine ⟨⟨?_, ?_, ?_, ?_, ?_, ?_, h.lo, h.loops.alloc _ hset, fun j p hp => by have := h.dom j p hp; show j < (κ.blocks.set r _).length; simpa using this,
    h.held.step h.loops rfl (fun b o _ hb => by rw [← hb]; exact Below.heap_alloc _ _ _ (Array.getElem?_eq_some_iff.1 hb).1) (fun q u cs k hq hk => by
      rw [kget] at hk; rw [sget] at hq
      by_cases e : r = q
      · simp [e] at hk; subst hk; exact .inr (by omega)
      · simp [e] at hk hq; exact .inl ⟨q, u, cs, k, hq, hk, rfl⟩) (fun _ _ _ h => .inl h) hset (fun _ _ h => h)⟩, hmono⟩
  · exact h.below.alloc hW _
  · show (κ.blocks.set r j).length = _; simp [h.len]
  · intro q u cs k hSq hk
    rw [kget] at hk; rw [sget] at hSq
    by_cases e' : r = q
    · simp [e'] at hk hSq; subst hk
      obtain ⟨rfl, rfl⟩ := hSq
      subst hjj
      refine ⟨rfl, hW, hle, arr, e, (0, 0), heap_alloc_new w _, by simp, by simp, ?_, by simpa using hsc⟩
      intro p x y hx hy
      exact (hr p x y hx (by simpa using hy)).mono hmono
    · simp [e'] at hk hSq
      obtain ⟨b1, b2, b3, arr1, e1, fr1, b4, b5, b6, b7, b8⟩ := h.own q u cs k hSq hk
      refine ⟨b1, b2, b3, arr1, e1, fr1, ?_, b5, b6, VRel.cell_mono hmono b7, b8⟩
      rw [← b4]; exact Below.heap_alloc _ _ _ (h.blk_lt hSq hk)
  · intro q q' u u' cs cs' k k' hSq hSq' hk hk' hb
    rw [kget] at hk hk'; rw [sget] at hSq hSq'
    by_cases e : r = q
    · by_cases e' : r = q'
      · omega
      · simp [e] at hk hSq; simp [e'] at hk' hSq'; subst hk
        have := h.blk_lt hSq' hk'; omega
    · by_cases e' : r = q'
      · simp [e] at hk hSq; simp [e'] at hk' hSq'; subst hk'
        have := h.blk_lt hSq hk; omega
      · simp [e] at hk hSq; simp [e'] at hk' hSq'
        exact h.disj q q' u u' cs cs' k k' hSq hSq' hk hk' hb
  · intro b o y hy
    have := h.fz b o y hy
    rw [World.cell?_alloc_lt _ _ _ (World.block_lt_of_cell? _ _ this)]; exact this
  · intro b o y q u cs k hy hSq hk
    rw [kget] at hk; rw [sget] at hSq
    by_cases e : r = q
    · simp [e] at hk hSq; subst hk; rw [hjb]
      have := World.block_lt_of_cell? _ _ (h.fz b o y hy)
      simp at this; omega
    · simp [e] at hk hSq
      exact h.fzd b o y q u cs k hy hSq hk

end Am
