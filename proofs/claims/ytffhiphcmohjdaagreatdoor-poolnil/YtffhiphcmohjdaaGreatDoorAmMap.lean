/- What is no cells: it is laid anew; maps. -/
import Derived.Test.YtffhiphcmohjdaaGreatDoorAmMem
set_option linter.all false
namespace Am
open Go Go.RowKit

variable {P : Program} {W : World} {κ : Kap} {S : St} {w : World}

/-- What is no cells is laid anew. -/
theorem Rel.put {oo o' : Obj} {b : ABlock} (h : Rel W κ S w) {x j : Nat} (hx : w.heap[x]? = some oo) (ho : isCel oo = false) (hW : W.heap.size ≤ x)
    (hb : ∀ v cs, b ≠ .live v cs) (hnl : ∀ v cs, S[j]? ≠ some (.live v cs)) (hloops : LoopsOk W κ (S.set j b) (w.putObj x o')) (hxr : ∀ b o, κ.res b = some o → x ≠ b)
    (hwas : ∀ (j' : Nat) q, other q = true → (S.set j b)[j']? = some q → ∃ q', other q' = true ∧ S[j']? = some q') : Rel W κ (S.set j b) (w.putObj x o') := by
  have hother : ∀ k, k ≠ x → (w.putObj x o').heap[k]? = w.heap[k]? := fun k hk => World.putObj_heap_other hk
  have hS : ∀ (r v : Nat) cs, (S.set j b)[r]? = some (.live v cs) → S[r]? = some (.live v cs) := by
    intro r v cs hr
    rw [List.getElem?_set] at hr
    split at hr
    · rename_i e; subst e
      split at hr
      · simp at hr; exact absurd hr (hb v cs)
      · simp at hr
    · exact hr
  have hcells : ∀ (y : Nat) arr e fr, w.heap[y]? = some (.cells arr e fr) → y ≠ x := by
    rintro y arr e fr hy rfl
    rw [hx] at hy; cases hy; simp [isCel] at ho
  refine ⟨?_, by rw [h.len]; simp, ?_, ?_, ?_, ?_, h.lo, hloops, h.dom, ⟨fun b o hb => ?_, fun b o r v cs i hb hr hi => h.held.live b o r v cs i hb (hS r v cs hr) hi, h.held.fz, fun b o j' q l t hb hq hj' hr => ?_⟩⟩
  rotate_right
  · obtain ⟨q', h0, h1⟩ := hwas j' q hq hj'
    exact h.held.loopO b o j' q' l t hb h0 h1 hr
  rotate_right
  · obtain ⟨h1, h2⟩ := h.held.at' b o hb
    exact ⟨by rw [hother b (fun e => hxr b o hb e.symm)]; exact h1, h2⟩
  · exact below_of h.below rfl rfl rfl (by simp) (fun k hk => hother k (by omega))
  · intro r v cells i hr hi
    obtain ⟨a1, a2, a3, arr, e, fr, a4, a5⟩ := h.own r v cells i (hS r v cells hr) hi
    exact ⟨a1, a2, a3, arr, e, fr, by rw [hother _ (hcells _ _ _ _ a4)]; exact a4, a5⟩
  · intro r r' v v' cs cs' i i' hr hr' hi hi' hbl
    exact h.disj r r' v v' cs cs' i i' (hS _ _ _ hr) (hS _ _ _ hr') hi hi' hbl
  · intro b o y hy
    have h1 := h.fz b o y hy
    have hne : b ≠ x := by
      rintro rfl
      simp only [World.cell?, hx] at h1
      cases oo <;> simp [isCel] at h1 ho
    rw [← h1]; exact World.cell?_of_block (hother b hne)
  · intro b o y r v cs i hy hr hi
    exact h.fzd b o y r v cs i hy (hS _ _ _ hr) hi

theorem OthOk.put {w : World} {l : Nat} {t : Loop} {b : ABlock} (h : OthOk W w l t b) {x : Nat} {o' : Obj} (h1 : l ≠ x) (h2 : t.defers ≠ x) : OthOk W (w.putObj x o') l t b := by
  cases b with
  | loop st pe => exact ⟨by rw [World.putObj_heap_other h1]; exact h.1, h.2.1, by rw [World.putObj_heap_other h2]; exact h.2.2.1, h.2.2.2⟩
  | mp es clk => obtain ⟨a, b, xs, c, d⟩ := h; exact ⟨a, b, xs, by rw [World.putObj_heap_other h1]; exact c, d⟩
  | _ => trivial

/-- What is no cells, and what stands for it, are laid anew. -/
theorem LoopsOk.set (h : LoopsOk W κ S w) {j : Nat} {b0 b1 : ABlock} (hb0 : other b0 = true) (hj : S[j]? = some b0) {l : Nat} {t : Loop} (hr : κ.recs j = some (l, t)) {x : Nat} (hx : x = l ∨ x = t.defers) {o' : Obj}
    (hb1 : other b1 = true → OthOk W (w.putObj x o') l t b1) : LoopsOk W κ (S.set j b1) (w.putObj x o') ∧
    ∀ (j' : Nat) q, other q = true → (S.set j b1)[j']? = some q → ∃ q', other q' = true ∧ S[j']? = some q' := by
  have hlt : j < S.length := (List.getElem?_eq_some_iff.1 hj).1
  have hback : ∀ (j' : Nat) q, (S.set j b1)[j']? = some q → (j' = j ∧ q = b1) ∨ (j' ≠ j ∧ S[j']? = some q) := by
    intro j' q hj'
    rw [List.getElem?_set] at hj'
    split at hj'
    · rename_i e; subst e; simp [hlt] at hj'; exact .inl ⟨rfl, hj'.symm⟩
    · rename_i e; exact .inr ⟨fun e' => e e'.symm, hj'⟩
  have hwas : ∀ (j' : Nat) q, other q = true → (S.set j b1)[j']? = some q → ∃ q', other q' = true ∧ S[j']? = some q' := by
    intro j' q hq hj'
    rcases hback j' q hj' with ⟨rfl, _⟩ | ⟨_, h5⟩
    · exact ⟨_, hb0, hj⟩
    · exact ⟨_, hq, h5⟩
  refine ⟨⟨fun j' q hq hj' => ?_, fun j1 j2 q1 q2 l1 t1 l2 t2 hq1 hq2 hj1 hj2 hl1 hl2 hh => ?_⟩, hwas⟩
  · rcases hback j' q hj' with ⟨rfl, rfl⟩ | ⟨hne, h5⟩
    · exact ⟨l, t, hr, hb1 hq⟩
    · obtain ⟨l', t', k1, k2⟩ := h.atO j' q hq h5
      have ne : ∀ {p : Prop}, (l' = l ∨ t'.defers = t.defers ∨ l' = t.defers ∨ t'.defers = l) → p := fun e => absurd (h.disjO j' j _ _ _ _ _ _ hq hb0 h5 hj k1 hr e) hne
      refine ⟨l', t', k1, k2.put ?_ ?_⟩
      · rintro rfl; rcases hx with e | e
        · exact ne (.inl e)
        · exact ne (.inr (.inr (.inl e)))
      · intro e0; rcases hx with e | e
        · exact ne (.inr (.inr (.inr (e0.trans e))))
        · exact ne (.inr (.inl (e0.trans e)))
  · obtain ⟨_, r1, s1⟩ := hwas _ _ hq1 hj1
    obtain ⟨_, r2, s2⟩ := hwas _ _ hq2 hj2
    exact h.disjO _ _ _ _ _ _ _ _ r1 r2 s1 s2 hl1 hl2 hh

/-- A map's entries are laid anew. -/
theorem Rel.setMap (h : Rel W κ S w) {j : Nat} {es es' : List (AVal × AVal)} {clk clk' : Nat} (hj : S[j]? = some (.mp es clk)) {l : Nat} {t : Loop} (hr : κ.recs j = some (l, t)) {xs : Array MapEntry} (he : EntsOk es' xs) (hB : Born clk' xs) :
    Rel W κ (S.set j (.mp es' clk')) (w.putObj l (.map xs clk')) := by
  obtain ⟨hll, _, h2, h3, ys, h4, _⟩ := h.loops.bnd rfl hj hr
  obtain ⟨g1, g2⟩ := h.loops.set (b1 := .mp es' clk') rfl hj hr (.inl rfl) (o' := .map xs clk') (fun _ => ⟨h2, h3, xs, World.putObj_heap_same hll, he, hB⟩)
  exact h.put h4 rfl h2 (fun v cs => by simp) (fun v cs => by rw [hj]; simp) g1 (fun b o hb => (h.held.loopO b o j _ l t hb rfl hj hr).1) g2

def Kap.addLoop (κ : Kap) (j l : Nat) (t : Loop) : Kap := { κ with blocks := κ.blocks ++ [⟨0, 0, 0, 0⟩], recs := fun j' => if j' = j then some (l, t) else κ.recs j' }

/-- Something new that is no cells. -/
theorem Rel.newOther (h : Rel W κ S w) {b : ABlock} (hb : other b = true) {o : Obj} (t : Loop) (ht : t.defers = w.heap.size) (ho : OthOk W (w.alloc o) w.heap.size t b) :
    Rel W (κ.addLoop S.length w.heap.size t) (S ++ [b]) (w.alloc o) ∧ κ.le (κ.addLoop S.length w.heap.size t) := by
  have hW : W.heap.size ≤ w.heap.size := h.below.size
  have hbl : Below w.heap.size w (w.alloc o) := (Below.refl _ w).alloc (Nat.le_refl _) _
  have hblock : ∀ k, k < w.heap.size → (w.alloc o).heap[k]? = w.heap[k]? := fun k hk => hbl.block k hk
  have hnone : κ.recs S.length = none := by
    cases hx : κ.recs S.length with
    | none => rfl
    | some p => have := h.dom _ _ hx; rw [h.len] at this; omega
  have hmono : κ.le (κ.addLoop S.length w.heap.size t) := by
    refine ⟨fun r i hi => ⟨i, ?_, .inl rfl⟩, fun _ _ _ h => h, rfl, fun _ _ _ h => .inl h, fun j p hp => ?_, rfl⟩
    · show (κ.blocks ++ [_])[r]? = some i
      rw [List.getElem?_append_left (List.getElem?_eq_some_iff.1 hi).1]; exact hi
    · show (if j = S.length then _ else κ.recs j) = some p
      rw [if_neg]; exact hp
      rintro rfl; rw [hnone] at hp; simp at hp
  have hS : ∀ {r v : Nat} {cs : List AVal}, (S ++ [b])[r]? = some (.live v cs) → S[r]? = some (.live v cs) ∧ r < S.length := by
    intro r v cs hr
    rcases getElem?_concat_cases hr with h1 | ⟨_, h1⟩
    · exact h1
    · subst h1; simp [other] at hb
  have hK : ∀ {r : Nat} {i : BInfo}, r < S.length → (κ.addLoop S.length w.heap.size t).blocks[r]? = some i → κ.blocks[r]? = some i := by
    intro r i hr hi
    have hi' : (κ.blocks ++ [_])[r]? = some i := hi
    rw [List.getElem?_append_left (by rw [h.len]; exact hr)] at hi'; exact hi'
  have hloop : ∀ {j : Nat} {q}, (S ++ [b])[j]? = some q → (j = S.length ∧ q = b) ∨ (j < S.length ∧ S[j]? = some q) := by
    intro j q hj
    rcases getElem?_concat_cases hj with ⟨h1, h2⟩ | ⟨h1, h2⟩
    · exact .inr ⟨h2, h1⟩
    · exact .inl ⟨h1, h2⟩
  have hrec : ∀ {j : Nat}, j < S.length → (κ.addLoop S.length w.heap.size t).recs j = κ.recs j := by
    intro j hj; show (if j = S.length then _ else κ.recs j) = _; rw [if_neg (by omega)]
  have hrecN : (κ.addLoop S.length w.heap.size t).recs S.length = some (w.heap.size, t) := by
    show (if S.length = S.length then _ else _) = _; rw [if_pos rfl]
  have hltL : ∀ {j : Nat} {q l t'}, other q = true → S[j]? = some q → κ.recs j = some (l, t') → l < w.heap.size ∧ t'.defers < w.heap.size := by
    intro j q l t' hq hj hr
    obtain ⟨k1, k3, _⟩ := h.loops.bnd hq hj hr
    exact ⟨k1, k3⟩
  refine ⟨⟨h.below.trans (hbl.mono hW), ?_, ?_, ?_, ?_, ?_, h.lo, ⟨?_, ?_⟩, ?_, ⟨?_, ?_, ?_, ?_⟩⟩, hmono⟩
  · show (κ.blocks ++ [_]).length = _; simp [h.len]
  · intro r v cells i hr hi
    obtain ⟨hr', hlt⟩ := hS hr
    obtain ⟨a1, a2, a3, arr, e, fr, a4, a5, a6, a7, a8⟩ := h.own r v cells i hr' (hK hlt hi)
    exact ⟨a1, a2, a3, arr, e, fr, by rw [hblock _ (h.blk_lt hr' (hK hlt hi))]; exact a4, a5, a6, VRel.cell_mono hmono a7, a8⟩
  · intro r r' v v' cs cs' i i' hr hr' hi hi' hb
    obtain ⟨h1, h2⟩ := hS hr
    obtain ⟨h1', h2'⟩ := hS hr'
    exact h.disj r r' v v' cs cs' i i' h1 h1' (hK h2 hi) (hK h2' hi') hb
  · intro b o y hy
    have h1 := h.fz b o y hy
    rw [← h1]; exact World.cell?_of_block (hblock b (World.block_lt_of_cell? _ _ h1))
  · intro b o y r v cs i hy hr hi
    obtain ⟨h1, h2⟩ := hS hr
    exact h.fzd b o y r v cs i hy h1 (hK h2 hi)
  · intro j q hq hj
    rcases hloop hj with ⟨rfl, rfl⟩ | ⟨hlt, hj'⟩
    · exact ⟨w.heap.size, t, hrecN, ho⟩
    · obtain ⟨l, t', k1, k2⟩ := h.loops.atO j q hq hj'
      exact ⟨l, t', by rw [hrec hlt]; exact k1, k2.keep fun b o hb _ => by rw [hblock _ (Array.getElem?_eq_some_iff.1 hb).1]; exact hb⟩
  · intro j j' q q' l t1 l' t1' hq hq' hj hj' hl hl' hh
    rcases hloop hj with ⟨rfl, _⟩ | ⟨hlt, hj1⟩ <;> rcases hloop hj' with ⟨rfl, _⟩ | ⟨hlt', hj1'⟩
    · rfl
    · rw [hrecN] at hl; cases hl; rw [hrec hlt'] at hl'
      obtain ⟨q1, q2⟩ := hltL hq' hj1' hl'
      rw [ht] at hh; omega
    · rw [hrecN] at hl'; cases hl'; rw [hrec hlt] at hl
      obtain ⟨q1, q2⟩ := hltL hq hj1 hl
      rw [ht] at hh; omega
    · rw [hrec hlt] at hl; rw [hrec hlt'] at hl'
      exact h.loops.disjO _ _ _ _ _ _ _ _ hq hq' hj1 hj1' hl hl' hh
  · intro j p hp
    show j < (κ.blocks ++ [_]).length
    by_cases hj : j = S.length
    · subst hj; simp [h.len]
    · have : κ.recs j = some p := by
        have hp' : (if j = S.length then _ else κ.recs j) = some p := hp
        rwa [if_neg hj] at hp'
      have := h.dom j p this; simp; omega
  · intro b o hb
    obtain ⟨h1, h2⟩ := h.held.at' b o hb
    exact ⟨by rw [hblock _ (Array.getElem?_eq_some_iff.1 h1).1]; exact h1, h2⟩
  · intro b o r v cs i hb hr hi
    obtain ⟨h1, h2⟩ := hS hr
    exact h.held.live b o r v cs i hb h1 (hK h2 hi)
  · exact h.held.fz
  · intro b o j q l t' hb hq hj hr
    have hlt := (Array.getElem?_eq_some_iff.1 (h.held.at' b o hb).1).1
    rcases hloop hj with ⟨rfl, _⟩ | ⟨hlt', hj'⟩
    · rw [hrecN] at hr; cases hr; rw [ht]; omega
    · rw [hrec hlt'] at hr; exact h.held.loopO b o j q l t' hb hq hj' hr

/-- A record that stands for nothing but where a map lies. -/
def mapLoop (l : Nat) : Loop := { state := .ready, pending := none, fn := 0, tmps := #[], params := #[], assign := .skip, body := .skip, defers := l }

theorem Rel.newMap (h : Rel W κ S w) : Rel W (κ.addLoop S.length w.heap.size (mapLoop w.heap.size)) (S ++ [.mp [] 0]) (w.alloc (.map #[] 0)) ∧ κ.le (κ.addLoop S.length w.heap.size (mapLoop w.heap.size)) :=
  h.newOther rfl (mapLoop w.heap.size) rfl ⟨h.below.size, rfl, #[], heap_alloc_new w _, ⟨rfl, by simp⟩, by simp [Born]⟩
end Am
