/- New variables that come up ahead of what acts and stands before them in the text. -/
import Derived.Test.YtffhiphcmohjdaaGreatDoorAmRange
set_option linter.all false
namespace Am
open Go Go.RowKit

variable {P : Program} {W : World} {κ : Kap} {S : St} {w : World} {f : Fr} {a : Act} {fs : List FuncId} {O : Orc} {n : Nat} {ops : Array Oper} {aos : List AOper} {F : Nat → Fr} {T : Nat → St}

theorem compOper_dst {ops : Array Oper} {fz : Bool} {o : Oper} {ao : AOper} (hc : compOper P fs n ops fz o = some ao) : ∀ d, ao.dst = some d → d < n := by
  intro d hd
  unfold compOper at hc
  split at hc
  · simp at hc
  · split at hc
    · rename_i hdst
      have key : ao.dst = o.dst := by
        split at hc
        · simp only [Option.some.injEq] at hc; subst hc; rfl
        · split at hc
          · simp only [Option.some.injEq] at hc; subst hc; rfl
          · simp at hc
      rw [← key, hd] at hdst; simpa using hdst
    · simp at hc

theorem nodup_fst {l : List (Nat × Nat)} (h : (l.map Prod.fst).Nodup) {i a b : Nat} (ha : (i, a) ∈ l) (hb : (i, b) ∈ l) : a = b := by
  induction l with
  | nil => simp at ha
  | cons x l ih =>
    simp only [List.map_cons, List.nodup_cons] at h
    rcases List.mem_cons.1 ha with e' | h1 <;> rcases List.mem_cons.1 hb with e | h2
    · cases e'; cases e; rfl
    · cases e'; exact absurd (List.mem_map.2 ⟨_, h2, rfl⟩) h.1
    · cases e; exact absurd (List.mem_map.2 ⟨_, h1, rfl⟩) h.1
    · exact ih h.2 h1 h2

theorem nodup_snd {l : List (Nat × Nat)} (h : (l.map Prod.snd).Nodup) {i j a : Nat} (ha : (i, a) ∈ l) (hb : (j, a) ∈ l) : i = j := by
  induction l with
  | nil => simp at ha
  | cons x l ih =>
    simp only [List.map_cons, List.nodup_cons] at h
    rcases List.mem_cons.1 ha with e' | h1 <;> rcases List.mem_cons.1 hb with e | h2
    · cases e'; cases e; rfl
    · cases e'; exact absurd (List.mem_map.2 ⟨_, h2, rfl⟩) h.1
    · cases e; exact absurd (List.mem_map.2 ⟨_, h1, rfl⟩) h.1
    · exact ih h.2 h1 h2

/-- A block is laid, and held back. -/
def Kap.hold (κ : Kap) (b : Nat) (o : Obj) : Kap := { κ with res := fun b' => if b' = b then some o else κ.res b' }

theorem Kap.le0_hold (κ : Kap) (b : Nat) (o : Obj) : κ.le0 (κ.hold b o) := ⟨fun r i hi => ⟨i, hi, .inl rfl⟩, fun _ _ _ h => h, rfl, fun _ _ _ h => .inl h, fun _ _ h => h⟩

theorem Rel.hold (h : Rel W κ S w) (arr : Array Value) (e : TypeId) : Rel W (κ.hold w.heap.size (.cells arr e)) S (w.alloc (.cells arr e)) := by
  have hle := Kap.le0_hold κ w.heap.size (.cells arr e)
  refine ⟨h.below.alloc h.below.size _, h.len, ?_, h.disj, ?_, h.fzd, h.lo, h.loops.alloc _ (fun _ _ _ h => h), h.dom, ⟨?_, ?_, ?_, ?_⟩⟩
  · intro r v cells i hS hi
    obtain ⟨a1, a2, a3, arr', e', fr, a4, a5, a6, a7, a8⟩ := h.own r v cells i hS hi
    exact ⟨a1, a2, a3, arr', e', fr, by rw [← a4]; exact Below.heap_alloc _ _ _ (h.blk_lt hS hi), a5, a6, fun j x y hx hy => (a7 j x y hx hy).mono0 hle, a8⟩
  · intro b o y hy
    have := h.fz b o y hy
    rw [World.cell?_alloc_lt _ _ _ (World.block_lt_of_cell? _ _ this)]; exact this
  · intro b o hb
    have hb' : (if b = w.heap.size then some (Obj.cells arr e) else κ.res b) = some o := hb
    split at hb'
    · rename_i he; subst he; cases hb'; exact ⟨heap_alloc_new w _, h.below.size⟩
    · obtain ⟨h1, h2⟩ := h.held.at' b o hb'
      exact ⟨by rw [← h1]; exact Below.heap_alloc _ _ _ (Array.getElem?_eq_some_iff.1 h1).1, h2⟩
  · intro b o r v cs i hb hr hi
    have hb' : (if b = w.heap.size then some (Obj.cells arr e) else κ.res b) = some o := hb
    split at hb'
    · rename_i he; subst he; have := h.blk_lt hr hi; omega
    · exact h.held.live b o r v cs i hb' hr hi
  · intro b o x y hb hy
    have hb' : (if b = w.heap.size then some (Obj.cells arr e) else κ.res b) = some o := hb
    split at hb'
    · rename_i he; subst he; have := World.block_lt_of_cell? _ _ (h.fz _ x y hy); simp at this
    · exact h.held.fz b o x y hb' hy
  · intro b o j q l t hb hq hj hr
    have hb' : (if b = w.heap.size then some (Obj.cells arr e) else κ.res b) = some o := hb
    split at hb'
    · rename_i he; subst he
      obtain ⟨k1, k3, _⟩ := h.loops.bnd hq hj hr
      exact ⟨by omega, by omega⟩
    · exact h.held.loopO b o j q l t hb' hq hj hr

/-- A block that was held back comes up. -/
def Kap.take (κ : Kap) (b ext : Nat) : Kap := { κ with blocks := κ.blocks ++ [⟨b, 0, ext, 0⟩], res := fun b' => if b' = b then none else κ.res b' }

theorem Kap.le0_take (κ : Kap) (b ext : Nat) : κ.le0 (κ.take b ext) := by
  refine ⟨fun r i hi => ⟨i, ?_, .inl rfl⟩, fun _ _ _ h => h, rfl, fun _ _ _ h => .inl h, fun _ _ h => h⟩
  show (κ.blocks ++ [_])[r]? = some i
  rw [List.getElem?_append_left (List.getElem?_eq_some_iff.1 hi).1]; exact hi

theorem Rel.take (h : Rel W κ S w) {b : Nat} {arr : Array Value} {e : TypeId} {cells : List AVal} (hb : κ.res b = some (.cells arr e)) (hle : cells.length ≤ arr.size)
    (hr : ∀ (j : Nat) x y, cells[j]? = some x → arr[j]? = some y → VRel κ x y) (hsc : ∀ (j : Nat) y, j < cells.length → arr[j]? = some y → scalar y) :
    Rel W (κ.take b arr.size) (S ++ [.live 0 cells]) w := by
  have hmono := Kap.le0_take κ b arr.size
  obtain ⟨hbo, hbW⟩ := h.held.at' b _ hb
  have hS : ∀ {r v : Nat} {cs : List AVal} {i : BInfo}, (S ++ [.live 0 cells])[r]? = some (.live v cs) → (κ.take b arr.size).blocks[r]? = some i →
      (S[r]? = some (.live v cs) ∧ κ.blocks[r]? = some i) ∨ (r = S.length ∧ v = 0 ∧ cs = cells ∧ i = ⟨b, 0, arr.size, 0⟩) := by
    intro r v cs i h1 h2
    have h2' : (κ.blocks ++ [⟨b, 0, arr.size, 0⟩])[r]? = some i := h2
    rcases getElem?_concat_cases h1 with ⟨k1, k2⟩ | ⟨k1, k2⟩ <;> rcases getElem?_concat_cases h2' with ⟨q1, q2⟩ | ⟨q1, q2⟩
    · exact .inl ⟨k1, q1⟩
    · have := h.len; omega
    · have := h.len; omega
    · cases k2; exact .inr ⟨k1, rfl, rfl, q2⟩
  have hL : ∀ (j : Nat) q, other q = true → (S ++ [.live 0 cells])[j]? = some q → S[j]? = some q := by
    intro j q hq hj
    rcases getElem?_concat_cases hj with ⟨h1, _⟩ | ⟨_, h1⟩
    · exact h1
    · subst h1; simp [other] at hq
  refine ⟨h.below, ?_, ?_, ?_, h.fz, ?_, h.lo, h.loops.step (fun _ _ h => h) hL (fun _ _ h _ => h), ?_, ⟨?_, ?_, ?_, ?_⟩⟩
  · show (κ.blocks ++ [_]).length = _; simp [h.len]
  · intro r v cs i h1 h2
    rcases hS h1 h2 with ⟨k1, k2⟩ | ⟨rfl, rfl, rfl, rfl⟩
    · obtain ⟨a1, a2, a3, arr', e', fr, a4, a5, a6, a7, a8⟩ := h.own r v cs i k1 k2
      exact ⟨a1, a2, a3, arr', e', fr, a4, a5, a6, fun j x y hx hy => (a7 j x y hx hy).mono0 hmono, a8⟩
    · exact ⟨rfl, hbW, hle, arr, e, (0, 0), hbo, by simp, by simp, fun j x y hx hy => (hr j x y hx (by simpa using hy)).mono0 hmono, by simpa using hsc⟩
  · intro r r' v v' cs cs' i i' h1 h1' h2 h2' hbl
    rcases hS h1 h2 with ⟨k1, k2⟩ | ⟨rfl, rfl, rfl, rfl⟩ <;> rcases hS h1' h2' with ⟨q1, q2⟩ | ⟨rfl, rfl, rfl, rfl⟩
    · exact h.disj r r' v v' cs cs' i i' k1 q1 k2 q2 hbl
    · exact absurd hbl (h.held.live b _ r v cs i hb k1 k2)
    · exact absurd hbl.symm (h.held.live b _ r' v' cs' i' hb q1 q2)
    · rfl
  · intro b' o y r v cs i hy h1 h2
    rcases hS h1 h2 with ⟨k1, k2⟩ | ⟨rfl, rfl, rfl, rfl⟩
    · exact h.fzd b' o y r v cs i hy k1 k2
    · rintro rfl; exact h.held.fz b _ o y hb hy
  · intro j p hp
    have := h.dom j p hp
    show j < (κ.blocks ++ [_]).length; simp; omega
  · intro b' o hb'
    have h1 : (if b' = b then none else κ.res b') = some o := hb'
    split at h1
    · simp at h1
    · exact h.held.at' b' o h1
  · intro b' o r v cs i hb' h1 h2
    have h3 : (if b' = b then none else κ.res b') = some o := hb'
    split at h3
    · simp at h3
    · rename_i hne
      rcases hS h1 h2 with ⟨k1, k2⟩ | ⟨rfl, rfl, rfl, rfl⟩
      · exact h.held.live b' o r v cs i h3 k1 k2
      · exact fun e => hne e.symm
  · intro b' o x y hb' hy
    have h3 : (if b' = b then none else κ.res b') = some o := hb'
    split at h3
    · simp at h3
    · exact h.held.fz b' o x y h3 hy
  · intro b' o j q l t hb' hq hj hr
    have h3 : (if b' = b then none else κ.res b') = some o := hb'
    split at h3
    · simp at h3
    · exact h.held.loopO b' o j q l t h3 hq (hL j q hq hj) hr

theorem alloc_comp {fz : Bool} {o : Oper} {ao : AOper} (hc : compOper P fs n ops fz o = some ao) (hal : isAlloc o = true) :
    ∃ e zero t, o.op = .alloc e ∧ zeroA P e = some zero ∧ ao.op = .inl (.alloc zero) ∧ ao.dst = some t ∧ o.dst = some t ∧ o.guard = none ∧ ao.guard = none ∧ t < n := by
  unfold isAlloc at hal
  split at hal
  · rename_i e he
    simp only [Bool.and_eq_true, Option.isNone_iff_eq_none] at hal
    obtain ⟨hg, hd⟩ := hal
    obtain ⟨t, ht⟩ := Option.isSome_iff_exists.1 hd
    unfold compOper at hc
    rw [he] at hc
    simp only [compOp, compOp1] at hc
    cases hz : zeroA P e with
    | none => rw [hz] at hc; simp at hc
    | some zero =>
      rw [hz] at hc
      simp only [Option.bind_eq_bind, Option.bind_some, Option.pure_def, hg, ht, Option.all_some, decide_eq_true_eq] at hc
      split at hc
      · rename_i hlt
        simp only [Option.some.injEq] at hc
        subst hc
        exact ⟨e, zero, t, he, hz, rfl, rfl, ht, hg, rfl, hlt⟩
      · simp at hc
  · simp at hal

/-- What has come up early, and waits. -/
structure PendOk (P : Program) (W : World) (ops : Array Oper) (aos : List AOper) (κs κ : Kap) (L L' : Array Bool) (a : Act) (pd : List (Nat × Nat)) : Prop where
  mem : ∀ i b, (i, b) ∈ pd → ¬ Lst L' i ∧ i < ops.size ∧ flB ops aos (masks ops) i = true ∧ ∃ ao t zero arr e, aos[i]? = some ao ∧ ao.dst = some t ∧ ao.op = .inl (.alloc zero) ∧ ao.guard = none ∧
    κ.res b = some (.cells arr e) ∧ zero.length ≤ arr.size ∧ (∀ (κ' : Kap) (j : Nat) x y, zero[j]? = some x → arr[j]? = some y → VRel κ' x y) ∧ (∀ (j : Nat) y, j < zero.length → arr[j]? = some y → scalar y) ∧
    a.tmps.getD t undef = .pointer (some ⟨b, 0, none⟩)
  split : ∀ i, Lst L i ↔ Lst L' i ∨ ∃ b, (i, b) ∈ pd
  nd : (pd.map Prod.snd).Nodup
  nd1 : (pd.map Prod.fst).Nodup
  le : κs.le0 κ
  res : ∀ b, b ∉ pd.map Prod.snd → κ.res b = κs.res b
  fresh : ∀ b, b ∈ pd.map Prod.snd → κs.res b = none
  closed : ∀ (j : Nat) o, ops[j]? = some o → Lst L j → ∀ i ∈ ons o, Lst L i
  size : L.size = ops.size

/-- What waits must wait. -/
def Eager (aos : List AOper) (L' : Array Bool) (pd : List (Nat × Nat)) : Prop := ∀ i b, (i, b) ∈ pd → ∃ (j : Nat) (ao : AOper), j < i ∧ aos[j]? = some ao ∧ kindOf ao.op = .eff ∧ ¬ Lst L' j

theorem foldl_keep (l : List Nat) (acc : List Nat) (i : Nat) : ∀ s : Nat, s.testBit i = true → (l.foldl (fun s i => s ||| 2 ^ i ||| acc.getD i 0) s).testBit i = true := by
  induction l with
  | nil => intro s h; exact h
  | cons x l ih =>
    intro s h
    simp only [List.foldl_cons]
    apply ih
    rw [Nat.testBit_or, Nat.testBit_or, h]; simp

theorem foldl_on (l : List Nat) (acc : List Nat) (i : Nat) : ∀ s : Nat, i ∈ l → (l.foldl (fun s i => s ||| 2 ^ i ||| acc.getD i 0) s).testBit i = true := by
  induction l with
  | nil => intro s h; simp at h
  | cons x l ih =>
    intro s h
    simp only [List.foldl_cons]
    rcases List.mem_cons.1 h with rfl | h
    · apply foldl_keep
      rw [Nat.testBit_or, Nat.testBit_or, Nat.testBit_two_pow]; simp
    · exact ih _ h

theorem masks_on {i : Nat} {o : Oper} (ho : ops[i]? = some o) {j : Nat} (hj : j ∈ ons o) : ((masks ops).getD i 0).testBit j = true := by
  obtain ⟨pre, h1, r, h2, h3⟩ := masksGo_get ops.toList [] i o (by simpa using ho)
  simp only [List.length_nil, Nat.zero_add] at h1 h3
  have hm : (masks ops).getD i 0 = dirM o pre := by simp only [masks, List.getD_eq_getElem?_getD, h1, Option.getD_some]
  rw [hm]
  exact foldl_on _ _ _ _ hj

/-- What is bound ahead of something ready is listed. -/
theorem ahead_of (h : Ran P fs O n ops aos F T) {L : Array Bool} (hL : ∀ (j : Nat) o, ops[j]? = some o → Lst L j → ∀ i ∈ ons o, Lst L i) {i : Nat} {o : Oper} (ho : ops[i]? = some o) (hon : ∀ j ∈ ons o, Lst L j) {k : Nat}
    (hk : ((masks ops).getD i 0).testBit k = true) : Lst L k := by
  obtain ⟨on, h1, h2⟩ := masks_bit ho (h.ons i o ho) hk
  rcases h2 with rfl | h2
  · exact hon _ h1
  · have hi : i < ops.size := (Array.getElem?_eq_some_iff.1 ho).1
    have hlt' : on < ops.size := by have := h.ons i o ho on h1; omega
    exact closed_masks h hL on ops[on] (by simp [hlt']) (hon on h1) k h2

/-- What waits, waits for something that is not listed at all. -/
theorem eager_min {κs : Kap} {L L' : Array Bool} {pd : List (Nat × Nat)} (hp : PendOk P W ops aos κs κ L L' a pd) (he : Eager aos L' pd) : ∀ (i b : Nat), (i, b) ∈ pd → ∃ (k : Nat) (c : AOper), k < i ∧ aos[k]? = some c ∧ kindOf c.op = .eff ∧ ¬ Lst L k := by
  intro i
  induction i using Nat.strongRecOn with
  | _ i ih =>
    intro b hb
    obtain ⟨k, c, h1, h2, h3, h4⟩ := he i b hb
    by_cases hk : Lst L k
    · rcases (hp.split k).1 hk with h5 | ⟨b', hb'⟩
      · exact absurd h5 h4
      · obtain ⟨k', c', g1, g2, g3, g4⟩ := ih k h1 b' hb'
        exact ⟨k', c', by omega, g2, g3, g4⟩
    · exact ⟨k, c, h1, h2, h3, hk⟩

/-- What is ready is ready ahead of what waits, too. -/
theorem ready_ahead {κs : Kap} (h : Ran P fs O n ops aos F T) {L L' : Array Bool} {pd : List (Nat × Nat)} (hp : PendOk P W ops aos κs κ L L' a pd) (hsz' : L'.size = ops.size) {i : Nat} {o : Oper} (hio : ops[i]? = some o) (hnl : ¬ Lst L' i)
    (hon : ∀ j ∈ ons o, Lst L j) (hw : ∀ j b, (j, b) ∈ pd → j ∈ ons o → ∃ (k : Nat) (c : AOper), k < j ∧ aos[k]? = some c ∧ kindOf c.op = .eff ∧ ¬ Lst L k) : i ∈ Region.ready .any ops L' := by
  have hi : i < ops.size := (Array.getElem?_eq_some_iff.1 hio).1
  refine mem_ready.2 ⟨hi, ?_, o, hio, fun j hj => ?_⟩
  · unfold Lst at hnl
    simp only [Array.getD_eq_getD_getElem?] at hnl ⊢
    have : i < L'.size := by omega
    simp [this] at hnl ⊢; exact hnl
  · rcases (hp.split j).1 (hon j hj) with h1 | ⟨b, hb⟩
    · exact h1
    · obtain ⟨_, hjs, hfl, _⟩ := hp.mem j b hb
      obtain ⟨k, c, hk, hc, hce, hkl⟩ := hw j b hb hj
      have hbit' := h.up j i k c hfl hi (masks_on hio hj) hk hc hce
      exact absurd (ahead_of h hp.closed hio hon hbit') hkl

/-- What waits for nothing any more comes up in the text's order. -/
theorem absorb (h : Ran P fs O n ops aos F T) {κs : Kap} {L : Array Bool} {w : World} : ∀ (m : Nat) (L' : Array Bool) (g : Fr) (S : St) (κ : Kap) (pd : List (Nat × Nat)), pd.length ≤ m → Mid ops aos F T L' g S → PendOk P W ops aos κs κ L L' a pd →
    marks (F ops.size) = marks g → FrOk κ n g a → Rel W κ S w →
    ∃ (L2 : Array Bool) (g2 : Fr) (S2 : St) (κ2 : Kap) (pd2 : List (Nat × Nat)), Mid ops aos F T L2 g2 S2 ∧ PendOk P W ops aos κs κ2 L L2 a pd2 ∧ Eager aos L2 pd2 ∧ marks (F ops.size) = marks g2 ∧ FrOk κ2 n g2 a ∧ Rel W κ2 S2 w := by
  intro m
  induction m with
  | zero =>
    intro L' g S κ pd hm hmid hp hmk hf hr
    have : pd = [] := List.eq_nil_of_length_eq_zero (by omega)
    subst this
    exact ⟨L', g, S, κ, [], hmid, hp, fun i b hb => by simp at hb, hmk, hf, hr⟩
  | succ m ih =>
    intro L' g S κ pd hm hmid hp hmk hf hr
    by_cases he : Eager aos L' pd
    · exact ⟨L', g, S, κ, pd, hmid, hp, he, hmk, hf, hr⟩
    · obtain ⟨i, b, hib, hall⟩ : ∃ i b, (i, b) ∈ pd ∧ ∀ (j : Nat) ao, j < i → aos[j]? = some ao → kindOf ao.op = .eff → Lst L' j := by
        apply Classical.byContradiction
        intro hno
        apply he
        intro i b hib
        apply Classical.byContradiction
        intro hno2
        apply hno
        refine ⟨i, b, hib, fun j ao h1 h2 h3 => ?_⟩
        apply Classical.byContradiction
        intro h4
        exact hno2 ⟨j, ao, h1, h2, h3, h4⟩
      obtain ⟨hnl, his, hfl, ao, t, zero, arr, e, hao, hd, hop, hgd, hres, hz1, hz2, hz3, htm⟩ := hp.mem i b hib
      have hio : ops[i]? = some ops[i] := by simp [his]
      have hiL : Lst L i := (hp.split i).2 (.inr ⟨b, hib⟩)
      have hready : i ∈ Region.ready .any ops L' := by
        refine mem_ready.2 ⟨his, ?_, ops[i], hio, fun j hj => ?_⟩
        · have hsz' := hmid.size
          unfold Lst at hnl
          simp only [Array.getD_eq_getD_getElem?] at hnl ⊢
          have : i < L'.size := by omega
          simp [this] at hnl ⊢; exact hnl
        · have hjL := hp.closed i _ hio hiL j hj
          rcases (hp.split j).1 hjL with h1 | ⟨b', hb'⟩
          · exact h1
          · obtain ⟨_, _, _, aj, _, zj, _, _, haj, _, hopj, _⟩ := hp.mem j b' hb'
            exact hall j aj (h.ons i _ hio j hj) haj (by rw [hopj]; rfl)
      obtain ⟨ao', v, S', hao', hev, hmid'⟩ := mid_step h hmid hready (fun _ => hall)
      rw [hao] at hao'; cases hao'
      have hev' : putA g ao.dst v = g.set t (.ptr S.length 0 0) ∧ S' = S ++ [.live 0 zero] := by
        simp only [evOper, hgd, hop, evAny, evOp, putR, hd, putA, Option.some.injEq, Prod.mk.injEq] at hev
        rw [hd]
        exact ⟨hev.1.symm, hev.2.symm⟩
      obtain ⟨hg', rfl⟩ := hev'
      rw [hg'] at hmid'
      have htn : t < n := by
        obtain ⟨o, fz, ho, hc⟩ := h.comp i ao hao
        exact compOper_dst hc t hd
      have hrel := hr.take hres hz1 (hz2 κ) hz3
      have hle := Kap.le0_take κ b arr.size
      have hfr : FrOk (κ.take b arr.size) n (g.set t (.ptr S.length 0 0)) a := by
        have hf' := hf.mono0 hle
        have hmk' : marks (g.set t (.ptr S.length 0 0)) = marks g := marks_set g _ (Nat.lt_of_lt_of_le htn hf.big)
        refine ⟨fun s => ?_, hf'.size, hf'.big, by rw [hmk']; exact hf'.known, by rw [hmk']; exact hf'.defers⟩
        rw [Fr.get_set]
        split
        · rename_i hs; subst hs
          rw [htm]
          refine .ptr _ _ _ ⟨b, 0, arr.size, 0⟩ _ ?_ (Nat.le_refl _) (fun _ => rfl)
          show (κ.blocks ++ [_])[S.length]? = _
          rw [← hr.len]; simp
        · exact hf'.rel s
      have hmem : ∀ j c, (j, c) ∈ pd.filter (fun p => decide (p.1 ≠ i)) ↔ (j, c) ∈ pd ∧ j ≠ i := by intro j c; simp
      have huniq : ∀ c, (i, c) ∈ pd → c = b := by
        intro c hc
        have h1 := hp.nd1
        exact nodup_fst h1 hc hib
      have hp' : PendOk P W ops aos κs (κ.take b arr.size) L (L'.setIfInBounds i true) a (pd.filter fun p => decide (p.1 ≠ i)) := by
        have hL' : ∀ j, Lst (L'.setIfInBounds i true) j ↔ j = i ∨ Lst L' j := lst_set (by rw [hmid.size]; exact his)
        refine ⟨fun j c hjc => ?_, fun j => ?_, ?_, ?_, Kap.le0_trans hp.le hle, fun c hc => ?_, fun c hc => ?_, hp.closed, hp.size⟩
        · obtain ⟨h1, h2⟩ := (hmem j c).1 hjc
          obtain ⟨k1, k2, k3, ao1, t1, z1, arr1, e1, k4, k5, k6, k7, k8, k9⟩ := hp.mem j c h1
          refine ⟨fun hl => ?_, k2, k3, ao1, t1, z1, arr1, e1, k4, k5, k6, k7, ?_, k9⟩
          · rcases (hL' j).1 hl with h5 | h5
            · exact h2 h5
            · exact k1 h5
          · have hne : c ≠ b := by
              rintro rfl
              exact h2 (nodup_snd hp.nd h1 hib)
            show (if c = b then none else κ.res c) = _
            rw [if_neg hne]; exact k8
        · rw [hL' j, hp.split j]
          constructor
          · rintro (h1 | ⟨c, hc⟩)
            · exact .inl (.inr h1)
            · by_cases hj : j = i
              · exact .inl (.inl hj)
              · exact .inr ⟨c, (hmem j c).2 ⟨hc, hj⟩⟩
          · rintro ((rfl | h1) | ⟨c, hc⟩)
            · exact .inr ⟨b, hib⟩
            · exact .inl h1
            · exact .inr ⟨c, ((hmem j c).1 hc).1⟩
        · exact hp.nd.sublist (List.Sublist.map _ (List.filter_sublist))
        · exact hp.nd1.sublist (List.Sublist.map _ (List.filter_sublist))
        · show (if c = b then none else κ.res c) = _
          by_cases hcb : c = b
          · subst hcb
            rw [if_pos rfl]
            exact (hp.fresh c (List.mem_map.2 ⟨_, hib, rfl⟩)).symm
          · rw [if_neg hcb]
            apply hp.res
            intro hm'
            obtain ⟨⟨j, c'⟩, hjc, rfl⟩ := List.mem_map.1 hm'
            apply hc
            refine List.mem_map.2 ⟨(j, c'), (hmem j c').2 ⟨hjc, ?_⟩, rfl⟩
            rintro rfl
            exact hcb (huniq c' hjc)
        · obtain ⟨⟨j, c'⟩, hjc, rfl⟩ := List.mem_map.1 hc
          exact hp.fresh c' (List.mem_map.2 ⟨_, ((hmem j c').1 hjc).1, rfl⟩)
      have hlen : (pd.filter fun p => decide (p.1 ≠ i)).length ≤ m := by
        have : (pd.filter fun p => decide (p.1 ≠ i)).length < pd.length := by
          rw [← List.countP_eq_length_filter]
          apply Nat.lt_of_le_of_ne (List.countP_le_length)
          intro heq
          rw [List.countP_eq_length] at heq
          have := heq (i, b) hib
          simp at this
        omega
      have hmk2 : marks (F ops.size) = marks (g.set t (.ptr S.length 0 0)) := by rw [hmk, marks_set g _ (Nat.lt_of_lt_of_le htn hf.big)]
      exact ih _ _ _ _ _ hlen hmid' hp' hmk2 hfr hrel

end Am
