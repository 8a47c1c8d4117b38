/- Each operation of the machine stands for the model's: memory, first half. -/
import Derived.Test.YtgbifohffmdgeaaDoorAmComp
set_option linter.all false
namespace Am
open Go Go.RowKit

variable {P : Program} {W : World} {κ : Kap} {S : St} {w : World}

theorem loadAt_ok (h : Rel W κ S w) {t : TypeId} {n : Option Nat} (hn : nOf P t = some n) {x v : AVal} {x' : Value} (hx : VRel κ x x')
    (hv : loadA n x S = some v) : Runs P W κ w (Instr.loadAt t x') v S := by
  obtain ⟨cs, ha, hp⟩ := loadA_avail hv
  obtain ⟨a, ys, rfl, hl, hsc, hat⟩ := avail_of h hx ha
  obtain ⟨v', hr, hvr⟩ := run_loadVar_cells (P := P) hn hl hsc hat hp
  exact .pure h (by simp [Instr.loadAt, Instr.sureAddr, hr]) hvr

theorem splice_length (l : List AVal) (off : Nat) (cs : List AVal) (h : off + cs.length ≤ l.length) : (splice l off cs).length = l.length := by
  simp [splice]; omega

theorem splice_get (l : List AVal) (off : Nat) (cs : List AVal) (h : off + cs.length ≤ l.length) (k : Nat) :
    (splice l off cs)[k]? = if off ≤ k ∧ k < off + cs.length then cs[k - off]? else l[k]? := by
  unfold splice
  rw [List.append_assoc, List.getElem?_append]
  by_cases h1 : k < (l.take off).length
  · rw [if_pos h1, List.getElem?_take]
    simp at h1
    rw [if_pos (by omega), if_neg (by omega)]
  · rw [if_neg h1, List.getElem?_append]
    simp at h1
    have hto : (l.take off).length = off := by simp; omega
    rw [hto]
    by_cases h2 : k - off < cs.length
    · rw [if_pos h2, if_pos (by omega)]
    · rw [if_neg h2, List.getElem?_drop, if_neg (by omega)]
      congr 1; omega

/-- Writing cells of an owned block. -/
theorem Rel.storeCells (h : Rel W κ S w) {r v off : Nat} {cells cs : List AVal} {i : BInfo} (hS : S[r]? = some (.live v cells)) (hi : κ.blocks[r]? = some i)
    {ys : List Value} (hl : VRelL κ cs ys) (hsc : ∀ y ∈ ys, scalar y) (hle : off + cs.length ≤ cells.length) {a : Addr}
    (ha : cs ≠ [] → a = ⟨i.blk, i.base + off, none⟩) :
    ∃ w', (Go.storeCells a ys).run P w = .ok () w' ∧ Rel W κ (S.set r (.live v (splice cells off cs))) w' := by
  by_cases hne : cs = []
  · subst hne
    have := hl.unnil; subst this
    refine ⟨w, by simp [Go.storeCells], ?_⟩
    have : S.set r (.live v (splice cells off [])) = S := by
      apply List.ext_getElem?
      intro q; rw [List.getElem?_set]
      by_cases e : r = q
      · subst e; rw [if_pos rfl, if_pos (List.getElem?_eq_some_iff.1 hS).1, hS]; simp [splice]
      · rw [if_neg e]
    rw [this]; exact h
  · have ha := ha hne
    subst ha
    obtain ⟨b1, b2, b3, arr, e, fr, b4, b5, b6, b7, b8⟩ := h.own r v cells i hS hi
    have hlen := hl.1
    obtain ⟨w', arr', h1, h2, h3, h4, h5, h6, h7, h8, h9, h10⟩ := run_storeCells P ys ⟨i.blk, i.base + off, none⟩ 0 w arr rfl (fun _ => .inl rfl) b4
      (by simp; omega) (fun k hk => by simp; omega) hsc
    refine ⟨w', h1, ?_⟩
    have hsl := splice_length cells off cs hle
    have := (Rel.write h (j := i) (new := splice cells off cs) hS hi v (.inl ⟨rfl, rfl⟩) rfl h2 (by omega) (by omega) (by rw [h3]; exact b6) ?_ ?_ h5 h6 h7 h8 h9).1
    · rwa [Kap.upd_self hi] at this
    · intro k x y hx hy
      rw [splice_get cells off cs hle] at hx
      rw [h4] at hy
      by_cases hk : off ≤ k ∧ k < off + cs.length
      · rw [if_pos hk] at hx; rw [if_pos (by simp; omega)] at hy
        exact hl.2 (k - off) x y hx (by rw [← hy]; congr 1; simp; omega)
      · rw [if_neg hk] at hx; rw [if_neg (by simp; omega)] at hy
        exact b7 k x y hx hy
    · intro k y hk hy
      rw [h4] at hy
      rw [hsl] at hk
      split at hy
      · exact hsc y (List.mem_of_getElem? hy)
      · exact b8 k y hk hy

theorem storeAt_ok (h : Rel W κ S w) {t : TypeId} {sz : Nat} (hsz : sizeP P t = some sz) {x y : AVal} {x' y' : Value} (hx : VRel κ x x') (hy : VRel κ y y')
    {S' : St} (hv : storeA sz x y S = some S') : ∃ w', (Instr.storeAt t x' y').run P w = .ok () w' ∧ Rel W κ S' w' := by
  unfold storeA at hv
  split at hv
  · rename_i r v off cs hcs
    split at hv
    · rename_i v' cells hS
      split at hv
      · rename_i hc
        obtain ⟨rfl, hlen, hle⟩ := hc
        cases hv
        cases hx with
        | ptr _ _ _ i a hr hver hh =>
          have hvv : v' = i.ver := ((h.own r v' cells i hS hr).1).symm
          obtain ⟨hl, hsc⟩ := hy.cells hcs
          unfold sizeP at hsz
          cases hinf : P.info? t with
          | none => rw [hinf] at hsz; simp at hsz
          | some inf =>
            rw [hinf] at hsz; simp at hsz
            obtain ⟨w', h1, h2⟩ := Rel.storeCells (P := P) h hS hr hl hsc (by omega) (fun _ => hh hvv)
            refine ⟨w', ?_, h2⟩
            have hcc : y'.cells.size = inf.size := by have := hl.1; simp at this; omega
            simp [Instr.storeAt, Instr.sureAddr, storeVar, run_sizeOf hinf, hcc, h1]
      · simp at hv
    · simp at hv
  · simp at hv

theorem scalA_rel {x : Value} {v : AVal} (h : scalA x = some v) (κ : Kap) : VRel κ v x ∧ scalar x := by
  unfold scalA at h
  split at h <;> cases h <;> first
    | exact ⟨.bool _, trivial⟩
    | exact ⟨.int _ _, trivial⟩
    | exact ⟨.str _ _ rfl, trivial⟩
    | exact ⟨.nilp, trivial⟩
    | exact ⟨.nils, trivial⟩
    | exact ⟨.nilf, trivial⟩
    | exact ⟨.nili, trivial⟩
    | exact ⟨.mapn, trivial⟩

theorem mapM_rel {α β : Type} {f : α → Option β} : ∀ {l : List α} {r : List β}, l.mapM f = some r → r.length = l.length ∧ ∀ (j : Nat) a b, l[j]? = some a → r[j]? = some b → f a = some b := by
  intro l
  induction l with
  | nil => intro r h; simp at h; subst h; simp
  | cons a l ih =>
    intro r h
    simp only [List.mapM_cons, Option.pure_def, Option.bind_eq_bind, Option.bind_eq_some_iff] at h
    obtain ⟨b, hb, r', hr', h⟩ := h
    cases h
    obtain ⟨h1, h2⟩ := ih hr'
    refine ⟨by simp [h1], fun j x y hx hy => ?_⟩
    cases j with
    | zero => simp at hx hy; subst hx; subst hy; exact hb
    | succ j => exact h2 j x y (by simpa using hx) (by simpa using hy)

theorem scalsA_rel {xs : List Value} {vs : List AVal} (h : xs.mapM scalA = some vs) (κ : Kap) : VRelL κ vs xs ∧ ∀ y ∈ xs, scalar y := by
  obtain ⟨h1, h2⟩ := mapM_rel h
  refine ⟨⟨h1, fun j x y hx hy => (scalA_rel (h2 j y x hy hx) κ).1⟩, fun y hy => ?_⟩
  obtain ⟨j, hj⟩ := List.getElem?_of_mem hy
  have hlt := (List.getElem?_eq_some_iff.1 hj).1
  exact (scalA_rel (h2 j y _ hj (List.getElem?_eq_getElem (by omega))) κ).2

theorem valA_rel {x : Value} {v : AVal} (h : valA x = some v) (κ : Kap) : VRel κ v x := by
  unfold valA at h
  split at h
  · rename_i cs
    cases hm : cs.toList.mapM scalA with
    | none => rw [hm] at h; simp at h
    | some vs =>
      rw [hm] at h; simp at h; subst h
      obtain ⟨h1, h2⟩ := scalsA_rel hm κ
      have := VRel.agg vs cs.toList h1.1 h2 h1.2
      simpa using this
  · exact (scalA_rel h κ).1

/-- Frames that stand for each other. -/
def FRel (κ : Kap) (f : Fr) (tmps : Array Value) : Prop := ∀ t, VRel κ (f.get t) (tmps.getD t undef)

theorem FRel.mono {κ κ' : Kap} (hle : κ.le κ') {f : Fr} {tmps : Array Value} (h : FRel κ f tmps) : FRel κ' f tmps := fun t => (h t).mono hle

theorem argA_rel {x : Operand} {ax : Arg} (h : argA x = some ax) {f : Fr} {a : Act} (hf : FRel κ f a.tmps) : VRel κ (f.ev ax) (a.eval x) := by
  cases x with
  | tmp t => simp [argA] at h; subst h; exact hf t
  | const v =>
    simp only [argA, Option.map_eq_some_iff] at h
    obtain ⟨av, hv, rfl⟩ := h
    exact valA_rel hv κ
  | global g => simp [argA] at h
  | func g =>
    simp [argA] at h; subst h
    exact .fn (.func g) [] [] [] [] rfl rfl (by simp) (by simp)

theorem argsA_rel {xs : List Operand} {axs : List Arg} (h : xs.mapM argA = some axs) {f : Fr} {a : Act} (hf : FRel κ f a.tmps) :
    VRelL κ (axs.map f.ev) (xs.map a.eval) := by
  obtain ⟨h1, h2⟩ := mapM_rel h
  refine ⟨by simp [h1], fun j x y hx hy => ?_⟩
  simp only [List.getElem?_map, Option.map_eq_some_iff] at hx hy
  obtain ⟨ax, hax, rfl⟩ := hx
  obtain ⟨o, ho, rfl⟩ := hy
  exact argA_rel (h2 j o ax ho hax) hf

theorem zeroA_rel {t : TypeId} {cs : List AVal} (h : zeroA P t = some cs) (κ : Kap) :
    ∃ i z, P.info? t = some i ∧ i.zero = some z ∧ VRelL κ cs z.cells.toList ∧ ∀ y ∈ z.cells.toList, scalar y := by
  unfold zeroA at h
  cases hi : P.info? t with
  | none => rw [hi] at h; simp at h
  | some i =>
    rw [hi] at h; simp only [Option.bind_some] at h
    cases hz : i.zero with
    | none => rw [hz] at h; simp at h
    | some z =>
      rw [hz] at h; simp only at h
      obtain ⟨h1, h2⟩ := scalsA_rel h κ
      exact ⟨i, z, rfl, hz, h1, h2⟩

theorem run_zero {t : TypeId} {i : TypeInfo} {z : Value} (hi : P.info? t = some i) (hz : i.zero = some z) (w : World) : (zeroValue t).run P w = .ok z w := by
  simp [zeroValue, typeInfo, hi, hz]

theorem VRelL.arr {cs : List AVal} {arr : Array Value} (h : VRelL κ cs arr.toList) :
    cs.length ≤ arr.size ∧ (∀ (j : Nat) x y, cs[j]? = some x → arr[j]? = some y → VRel κ x y) :=
  ⟨by have := h.1; simp at this; omega, fun j x y hx hy => h.2 j x y hx (by simpa using hy)⟩

theorem scal_arr {arr : Array Value} (h : ∀ y ∈ arr.toList, scalar y) (n : Nat) : ∀ (j : Nat) y, j < n → arr[j]? = some y → scalar y :=
  fun j y _ hy => h y (by simpa using Array.mem_of_getElem? hy)

theorem newRow_ok (h : Rel W κ S w) {cs : List AVal} {arr : Array Value} (hl : VRelL κ cs arr.toList) (hsc : ∀ y ∈ arr.toList, scalar y) (e : TypeId) :
    ∃ a w' κ', (newRow e arr).run P w = .ok a w' ∧ a = ⟨w.heap.size, 0, none⟩ ∧ VRel κ' (.ptr S.length 0 0) (.pointer (some a)) ∧
      (∀ len sz c, len ≤ c → c * sz ≤ arr.size → VRel κ' (.sl S.length 0 0 len sz) (.slice (some a) len c)) ∧
      Rel W κ' (S ++ [.live 0 cs]) w' ∧ κ.le κ' := by
  refine ⟨⟨w.heap.size, 0, none⟩, w.alloc (.cells arr e), κ.add ⟨w.heap.size, 0, arr.size, 0⟩, ?_, rfl, ?_, ?_, ?_, Kap.le_add _ _⟩
  · simp [newRow]
  · refine .ptr _ _ _ ⟨w.heap.size, 0, arr.size, 0⟩ _ ?_ (Nat.le_refl _) (fun _ => rfl)
    show (κ.blocks ++ [_])[S.length]? = _
    rw [← h.len]; simp
  · intro len sz c hc hs
    refine .sl _ _ _ _ _ ⟨w.heap.size, 0, arr.size, 0⟩ _ _ ?_ (Nat.le_refl _) hc (fun _ => ⟨by simpa using hs, .inr rfl⟩)
    show (κ.blocks ++ [_])[S.length]? = _
    rw [← h.len]; simp
  · exact h.alloc arr e cs hl.arr.1 hl.arr.2 (scal_arr hsc _)

theorem newRowFz_ok (h : Rel W κ S w) {cs : List AVal} {arr : Array Value} (hl : VRelL κ cs arr.toList) (hsc : ∀ y ∈ arr.toList, scalar y) (e : TypeId) :
    ∃ a w' κ', (newRow e arr).run P w = .ok a w' ∧ (∀ full len c, len ≤ c → (full = true → c = len) → VRel κ' (.fz full len cs) (.slice (some a) len c)) ∧
      VRel κ' (.fq cs) (.pointer (some a)) ∧ Rel W κ' S w' ∧ κ.le κ' := by
  have hmono := Kap.le_addFz h arr
  have hk : ∀ (j : Nat) y, arr.toList[j]? = some y → (κ.addFz w.heap.size arr).fz w.heap.size (0 + j) = some y := by
    intro j y hy; simp [Kap.addFz]; simpa using hy
  refine ⟨⟨w.heap.size, 0, none⟩, w.alloc (.cells arr e), κ.addFz w.heap.size arr, by simp [newRow], ?_, ?_, h.allocFz arr e, hmono⟩
  · intro full len c hc hf
    exact .fz full len cs _ c arr.toList hc hf (fun _ => rfl) hl.1 hsc hk (hl.mono hmono).2
  · exact .fq cs _ arr.toList (fun _ => rfl) hl.1 hsc hk (hl.mono hmono).2

theorem alloc_ok (h : Rel W κ S w) {e : TypeId} {cs : List AVal} (hz : zeroA P e = some cs) :
    Runs P W κ w (Instr.alloc e true (.tuple #[])) (.ptr S.length 0 0) (S ++ [.live 0 cs]) := by
  obtain ⟨i, z, hi, hzz, hl, hsc⟩ := zeroA_rel hz κ
  obtain ⟨a, w', κ', h1, _, h2, _, h3, h4⟩ := newRow_ok (P := P) h hl hsc e
  exact ⟨_, w', κ', by simp [Instr.alloc, run_zero hi hzz, newVar, h1], h2, h3, h4⟩

theorem box_ok (h : Rel W κ S w) (e : TypeId) {x : AVal} {x' : Value} (hx : VRel κ x x') {cs : List AVal} (hc : cells? x = some cs) :
    Runs P W κ w (Instr.box e x') (.ptr S.length 0 0) (S ++ [.live 0 cs]) := by
  obtain ⟨hl, hsc⟩ := hx.cells hc
  obtain ⟨a, w', κ', h1, _, h2, _, h3, h4⟩ := newRow_ok (P := P) h hl hsc e
  exact ⟨_, w', κ', by simp [Instr.box, newVar, h1], h2, h3, h4⟩

/-- Filling parts into cells. -/
theorem fold_set : ∀ (cs : List Value) (off k : Nat) (arr : Array Value), off + k + cs.length ≤ arr.size →
    ((cs.zipIdx k).foldl (fun a (p : Value × Nat) => a.setIfInBounds (off + p.2) p.1) arr).size = arr.size ∧
    ∀ q, ((cs.zipIdx k).foldl (fun a (p : Value × Nat) => a.setIfInBounds (off + p.2) p.1) arr)[q]? = if off + k ≤ q ∧ q < off + k + cs.length then cs[q - (off + k)]? else arr[q]? := by
  intro cs
  induction cs with
  | nil => intro off k arr h; refine ⟨by simp, fun q => ?_⟩; rw [if_neg (by simp)]; simp
  | cons c cs ih =>
    intro off k arr h
    simp only [List.zipIdx_cons, List.foldl_cons]
    simp at h
    obtain ⟨h1, h2⟩ := ih off (k + 1) (arr.setIfInBounds (off + k) c) (by simp; omega)
    refine ⟨by rw [h1]; simp, fun q => ?_⟩
    rw [h2 q]
    by_cases hq : off + k ≤ q ∧ q < off + k + (c :: cs).length
    · rw [if_pos hq]
      simp at hq
      by_cases hq0 : q = off + k
      · subst hq0
        rw [if_neg (by omega)]
        simp [show off + k < arr.size from by omega]
      · rw [if_pos (by omega), show q - (off + k) = (q - (off + (k + 1))) + 1 from by omega]
        simp
    · rw [if_neg hq, if_neg (by simp at hq; omega)]
      rw [Array.getElem?_setIfInBounds_ne (by simp at hq; omega)]

theorem fill_ok (place : Nat → Option (Nat × Nat)) : ∀ (parts : List (Nat × Nat × AVal)) (parts' : List (Nat × Value)) (cells out : List AVal) (arr : Array Value),
    parts.length = parts'.length → (∀ (j : Nat) p q, parts[j]? = some p → parts'[j]? = some q → place q.1 = some (p.1, p.2.1) ∧ VRel κ p.2.2 q.2) →
    VRelL κ cells arr.toList → (∀ y ∈ arr.toList, scalar y) → fillA cells parts = some out →
    ∃ arr', Instr.fill place arr parts' = some arr' ∧ VRelL κ out arr'.toList ∧ (∀ y ∈ arr'.toList, scalar y) := by
  intro parts
  induction parts with
  | nil =>
    intro parts' cells out arr hlen _ hl hsc hf
    cases parts' with
    | nil => simp [fillA] at hf; subst hf; exact ⟨arr, rfl, hl, hsc⟩
    | cons => simp at hlen
  | cons p parts ih =>
    intro parts' cells out arr hlen hrel hl hsc hf
    cases parts' with
    | nil => simp at hlen
    | cons q parts' =>
      obtain ⟨off, size, v⟩ := p
      obtain ⟨i, x⟩ := q
      have h0 := hrel 0 _ _ rfl rfl
      simp only at h0
      simp only [fillA] at hf
      split at hf
      · simp at hf
      · rename_i cs hcs
        split at hf
        · rename_i hc
          obtain ⟨hcl, hce⟩ := hc
          obtain ⟨hxl, hxs⟩ := h0.2.cells hcs
          have hsize : x.cells.size = size := by have := hxl.1; simp at this; omega
          have hcells : cells.length = arr.size := by have := hl.1; simpa using this
          obtain ⟨f1, f2⟩ := fold_set x.cells.toList off 0 arr (by simp; omega)
          have hg : ∀ q : Nat, (x.cells.zipIdx.foldl (fun cs (p : Value × Nat) => cs.setIfInBounds (off + p.2) p.1) arr)[q]? = if off ≤ q ∧ q < off + cs.length then x.cells[q - off]? else arr[q]? := by
            intro q
            have := f2 q
            rw [← Array.foldl_toList]
            simp only [Array.toList_zipIdx]
            rw [this]
            have : x.cells.toList.length = cs.length := hxl.1.symm
            simp only [this, Nat.add_zero]
            split <;> simp
          have hgs : (x.cells.zipIdx.foldl (fun cs (p : Value × Nat) => cs.setIfInBounds (off + p.2) p.1) arr).size = arr.size := by
            rw [← Array.foldl_toList]; simp only [Array.toList_zipIdx]; exact f1
          have hA : VRelL κ (splice cells off cs) (x.cells.zipIdx.foldl (fun cs (p : Value × Nat) => cs.setIfInBounds (off + p.2) p.1) arr).toList := by
            refine ⟨(splice_length _ _ _ (by omega)).trans (by simp only [Array.length_toList]; omega), fun j a b ha hb => ?_⟩
            rw [splice_get _ _ _ (by omega)] at ha
            rw [Array.getElem?_toList, hg] at hb
            split at ha
            · rename_i hj; rw [if_pos hj] at hb
              exact hxl.2 (j - off) a b ha (by simpa using hb)
            · rename_i hj; rw [if_neg hj] at hb
              exact hl.2 j a b ha (by simpa using hb)
          have hB : ∀ y ∈ (x.cells.zipIdx.foldl (fun cs (p : Value × Nat) => cs.setIfInBounds (off + p.2) p.1) arr).toList, scalar y := by
            intro y hy
            obtain ⟨j, hj⟩ := List.getElem?_of_mem hy
            rw [Array.getElem?_toList, hg] at hj
            split at hj
            · exact hxs y (by simpa using Array.mem_of_getElem? hj)
            · exact hsc y (by simpa using Array.mem_of_getElem? hj)
          obtain ⟨arr', g1, g2, g3⟩ := ih parts' (splice cells off cs) out _ (by simpa using hlen)
            (fun j a b ha hb => hrel (j + 1) a b (by simpa using ha) (by simpa using hb)) hA hB hf
          refine ⟨arr', ?_, g2, g3⟩
          simp only [Instr.fill, h0.1]
          rw [if_neg (by simp; omega)]
          exact g1
        · simp at hf

end Am
