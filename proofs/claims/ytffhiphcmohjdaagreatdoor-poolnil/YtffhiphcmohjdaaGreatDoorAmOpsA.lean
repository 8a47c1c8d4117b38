import Derived.Test.YtffhiphcmohjdaaGreatDoorAmComp
import Derived.Laws.MakeOwn
import Derived.Laws.BytesString
import Derived.Laws.Append
set_option linter.all false
/- Each operation of the machine stands for the model's: memory, first half. -/
section
namespace Am
open Go Go.RowKit

variable {P : Program} {W : World} {κ : Kap} {S : St} {w : World}

theorem loadAt_ok (h : Rel W κ S w) {t : TypeId} {n : Option Nat} (hn : nOf P t = some n) {x v : AVal} {x' : Value} (hx : VRel κ x x')
    (hv : loadA n x S = some v) : Runs P W κ w (Instr.loadAt t x') v S := by
  obtain ⟨cs, ha, hp⟩ := loadA_avail hv
  obtain ⟨a, ys, rfl, hl, hsc, hat⟩ := avail_of h hx ha
  obtain ⟨v', hr, hvr⟩ := run_loadVar_cells (P := P) hn hl hsc hat hp
  exact .pure h (by simp [Instr.loadAt, Instr.sureAddr, hr]) hvr

theorem splice_length (l : List AVal) (off : Nat) (cs : List AVal) (h : off + cs.length ≤ l.length) : (splice l off cs).length = l.length := by
  simp [splice]; omega

theorem splice_get (l : List AVal) (off : Nat) (cs : List AVal) (h : off + cs.length ≤ l.length) (k : Nat) :
    (splice l off cs)[k]? = if off ≤ k ∧ k < off + cs.length then cs[k - off]? else l[k]? := by
  unfold splice
  rw [List.append_assoc, List.getElem?_append]
  by_cases h1 : k < (l.take off).length
  · rw [if_pos h1, List.getElem?_take]
    simp at h1
    rw [if_pos (by omega), if_neg (by omega)]
  · rw [if_neg h1, List.getElem?_append]
    simp at h1
    have hto : (l.take off).length = off := by simp; omega
    rw [hto]
    by_cases h2 : k - off < cs.length
    · rw [if_pos h2, if_pos (by omega)]
    · rw [if_neg h2, List.getElem?_drop, if_neg (by omega)]
      congr 1; omega

/-- Writing cells of an owned block. -/
theorem Rel.storeCells (h : Rel W κ S w) {r v off : Nat} {cells cs : List AVal} {i : BInfo} (hS : S[r]? = some (.live v cells)) (hi : κ.blocks[r]? = some i)
    {ys : List Value} (hl : VRelL κ cs ys) (hsc : ∀ y ∈ ys, scalar y) (hle : off + cs.length ≤ cells.length) {a : Addr}
    (ha : cs ≠ [] → a = ⟨i.blk, i.base + off, none⟩) :
    ∃ w', (Go.storeCells a ys).run P w = .ok () w' ∧ Rel W κ (S.set r (.live v (splice cells off cs))) w' := by
  by_cases hne : cs = []
  · subst hne
    have := hl.unnil; subst this
    refine ⟨w, by simp [Go.storeCells], ?_⟩
    have : S.set r (.live v (splice cells off [])) = S := by
      apply List.ext_getElem?
      intro q; rw [List.getElem?_set]
      by_cases e : r = q
      · subst e; rw [if_pos rfl, if_pos (List.getElem?_eq_some_iff.1 hS).1, hS]; simp [splice]
      · rw [if_neg e]
    rw [this]; exact h
  · have ha := ha hne
    subst ha
    obtain ⟨b1, b2, b3, arr, e, fr, b4, b5, b6, b7, b8⟩ := h.own r v cells i hS hi
    have hlen := hl.1
    obtain ⟨w', arr', h1, h2, h3, h4, h5, h6, h7, h8, h9, h10⟩ := run_storeCells P ys ⟨i.blk, i.base + off, none⟩ 0 w arr rfl (fun _ => .inl rfl) b4
      (by simp; omega) (fun k hk => by simp; omega) hsc
    refine ⟨w', h1, ?_⟩
    have hsl := splice_length cells off cs hle
    have := (Rel.write h (j := i) (new := splice cells off cs) hS hi v (.inl ⟨rfl, rfl⟩) rfl h2 (by omega) (by omega) (by rw [h3]; exact b6) ?_ ?_ h5 h6 h7 h8 h9).1
    · rwa [Kap.upd_self hi] at this
    · intro k x y hx hy
      rw [splice_get cells off cs hle] at hx
      rw [h4] at hy
      by_cases hk : off ≤ k ∧ k < off + cs.length
      · rw [if_pos hk] at hx; rw [if_pos (by simp; omega)] at hy
        exact hl.2 (k - off) x y hx (by rw [← hy]; congr 1; simp; omega)
      · rw [if_neg hk] at hx; rw [if_neg (by simp; omega)] at hy
        exact b7 k x y hx hy
    · intro k y hk hy
      rw [h4] at hy
      rw [hsl] at hk
      split at hy
      · exact hsc y (List.mem_of_getElem? hy)
      · exact b8 k y hk hy

theorem storeAt_ok (h : Rel W κ S w) {t : TypeId} {sz : Nat} (hsz : sizeP P t = some sz) {x y : AVal} {x' y' : Value} (hx : VRel κ x x') (hy : VRel κ y y')
    {S' : St} (hv : storeA sz x y S = some S') : ∃ w', (Instr.storeAt t x' y').run P w = .ok () w' ∧ Rel W κ S' w' := by
  unfold storeA at hv
  split at hv
  · rename_i r v off cs hcs
    split at hv
    · rename_i v' cells hS
      split at hv
      · rename_i hc
        obtain ⟨rfl, hlen, hle⟩ := hc
        cases hv
        cases hx with
        | ptr _ _ _ i a hr hver hh =>
          have hvv : v' = i.ver := ((h.own r v' cells i hS hr).1).symm
          obtain ⟨hl, hsc⟩ := hy.cells hcs
          unfold sizeP at hsz
          cases hinf : P.info? t with
          | none => rw [hinf] at hsz; simp at hsz
          | some inf =>
            rw [hinf] at hsz; simp at hsz
            obtain ⟨w', h1, h2⟩ := Rel.storeCells (P := P) h hS hr hl hsc (by omega) (fun _ => hh hvv)
            refine ⟨w', ?_, h2⟩
            have hcc : y'.cells.size = inf.size := by have := hl.1; simp at this; omega
            simp [Instr.storeAt, Instr.sureAddr, storeVar, run_sizeOf hinf, hcc, h1]
      · simp at hv
    · simp at hv
  · simp at hv

theorem scalA_rel {x : Value} {v : AVal} (h : scalA x = some v) (κ : Kap) : VRel κ v x ∧ scalar x := by
  unfold scalA at h
  split at h <;> cases h <;> first
    | exact ⟨.bool _, trivial⟩
    | exact ⟨.int _ _, trivial⟩
    | exact ⟨.str _ _ rfl, trivial⟩
    | exact ⟨.nilp, trivial⟩
    | exact ⟨.nils, trivial⟩
    | exact ⟨.nilf, trivial⟩
    | exact ⟨.nili, trivial⟩
    | exact ⟨.mapn, trivial⟩

theorem mapM_rel {α β : Type} {f : α → Option β} : ∀ {l : List α} {r : List β}, l.mapM f = some r → r.length = l.length ∧ ∀ (j : Nat) a b, l[j]? = some a → r[j]? = some b → f a = some b := by
  intro l
  induction l with
  | nil => intro r h; simp at h; subst h; simp
  | cons a l ih =>
    intro r h
    simp only [List.mapM_cons, Option.pure_def, Option.bind_eq_bind, Option.bind_eq_some_iff] at h
    obtain ⟨b, hb, r', hr', h⟩ := h
    cases h
    obtain ⟨h1, h2⟩ := ih hr'
    refine ⟨by simp [h1], fun j x y hx hy => ?_⟩
    cases j with
    | zero => simp at hx hy; subst hx; subst hy; exact hb
    | succ j => exact h2 j x y (by simpa using hx) (by simpa using hy)

theorem scalsA_rel {xs : List Value} {vs : List AVal} (h : xs.mapM scalA = some vs) (κ : Kap) : VRelL κ vs xs ∧ ∀ y ∈ xs, scalar y := by
  obtain ⟨h1, h2⟩ := mapM_rel h
  refine ⟨⟨h1, fun j x y hx hy => (scalA_rel (h2 j y x hy hx) κ).1⟩, fun y hy => ?_⟩
  obtain ⟨j, hj⟩ := List.getElem?_of_mem hy
  have hlt := (List.getElem?_eq_some_iff.1 hj).1
  exact (scalA_rel (h2 j y _ hj (List.getElem?_eq_getElem (by omega))) κ).2

theorem valA_rel {x : Value} {v : AVal} (h : valA x = some v) (κ : Kap) : VRel κ v x := by
  unfold valA at h
  split at h
  · rename_i cs
    cases hm : cs.toList.mapM scalA with
    | none => rw [hm] at h; simp at h
    | some vs =>
      rw [hm] at h; simp at h; subst h
      obtain ⟨h1, h2⟩ := scalsA_rel hm κ
      have := VRel.agg vs cs.toList h1.1 h2 h1.2
      simpa using this
  · exact (scalA_rel h κ).1

/-- Frames that stand for each other. -/
def FRel (κ : Kap) (f : Fr) (tmps : Array Value) : Prop := ∀ t, VRel κ (f.get t) (tmps.getD t undef)

theorem FRel.mono {κ κ' : Kap} (hle : κ.le κ') {f : Fr} {tmps : Array Value} (h : FRel κ f tmps) : FRel κ' f tmps := fun t => (h t).mono hle

theorem argA_rel {x : Operand} {ax : Arg} (h : argA x = some ax) {f : Fr} {a : Act} (hf : FRel κ f a.tmps) : VRel κ (f.ev ax) (a.eval x) := by
  cases x with
  | tmp t => simp [argA] at h; subst h; exact hf t
  | const v =>
    simp only [argA, Option.map_eq_some_iff] at h
    obtain ⟨av, hv, rfl⟩ := h
    exact valA_rel hv κ
  | global g => simp [argA] at h
  | func g =>
    simp [argA] at h; subst h
    exact .fn (.func g) [] [] [] [] rfl rfl (by simp) (by simp)

theorem argsA_rel {xs : List Operand} {axs : List Arg} (h : xs.mapM argA = some axs) {f : Fr} {a : Act} (hf : FRel κ f a.tmps) :
    VRelL κ (axs.map f.ev) (xs.map a.eval) := by
  obtain ⟨h1, h2⟩ := mapM_rel h
  refine ⟨by simp [h1], fun j x y hx hy => ?_⟩
  simp only [List.getElem?_map, Option.map_eq_some_iff] at hx hy
  obtain ⟨ax, hax, rfl⟩ := hx
  obtain ⟨o, ho, rfl⟩ := hy
  exact argA_rel (h2 j o ax ho hax) hf

theorem zeroA_rel {t : TypeId} {cs : List AVal} (h : zeroA P t = some cs) (κ : Kap) :
    ∃ i z, P.info? t = some i ∧ i.zero = some z ∧ VRelL κ cs z.cells.toList ∧ ∀ y ∈ z.cells.toList, scalar y := by
  unfold zeroA at h
  cases hi : P.info? t with
  | none => rw [hi] at h; simp at h
  | some i =>
    rw [hi] at h; simp only [Option.bind_some] at h
    cases hz : i.zero with
    | none => rw [hz] at h; simp at h
    | some z =>
      rw [hz] at h; simp only at h
      obtain ⟨h1, h2⟩ := scalsA_rel h κ
      exact ⟨i, z, rfl, hz, h1, h2⟩

theorem run_zero {t : TypeId} {i : TypeInfo} {z : Value} (hi : P.info? t = some i) (hz : i.zero = some z) (w : World) : (zeroValue t).run P w = .ok z w := by
  simp [zeroValue, typeInfo, hi, hz]

theorem VRelL.arr {cs : List AVal} {arr : Array Value} (h : VRelL κ cs arr.toList) :
    cs.length ≤ arr.size ∧ (∀ (j : Nat) x y, cs[j]? = some x → arr[j]? = some y → VRel κ x y) :=
  ⟨by have := h.1; simp at this; omega, fun j x y hx hy => h.2 j x y hx (by simpa using hy)⟩

theorem scal_arr {arr : Array Value} (h : ∀ y ∈ arr.toList, scalar y) (n : Nat) : ∀ (j : Nat) y, j < n → arr[j]? = some y → scalar y :=
  fun j y _ hy => h y (by simpa using Array.mem_of_getElem? hy)

theorem newRow_ok (h : Rel W κ S w) {cs : List AVal} {arr : Array Value} (hl : VRelL κ cs arr.toList) (hsc : ∀ y ∈ arr.toList, scalar y) (e : TypeId) :
    ∃ a w' κ', (newRow e arr).run P w = .ok a w' ∧ a = ⟨w.heap.size, 0, none⟩ ∧ VRel κ' (.ptr S.length 0 0) (.pointer (some a)) ∧
      (∀ len sz c, len ≤ c → c * sz ≤ arr.size → VRel κ' (.sl S.length 0 0 len sz) (.slice (some a) len c)) ∧
      Rel W κ' (S ++ [.live 0 cs]) w' ∧ κ.le κ' := by
  refine ⟨⟨w.heap.size, 0, none⟩, w.alloc (.cells arr e), κ.add ⟨w.heap.size, 0, arr.size, 0⟩, ?_, rfl, ?_, ?_, ?_, Kap.le_add _ _⟩
  · simp [newRow]
  · refine .ptr _ _ _ ⟨w.heap.size, 0, arr.size, 0⟩ _ ?_ (Nat.le_refl _) (fun _ => rfl)
    show (κ.blocks ++ [_])[S.length]? = _
    rw [← h.len]; simp
  · intro len sz c hc hs
    refine .sl _ _ _ _ _ ⟨w.heap.size, 0, arr.size, 0⟩ _ _ ?_ (Nat.le_refl _) hc (fun _ => ⟨by simpa using hs, .inr rfl⟩)
    show (κ.blocks ++ [_])[S.length]? = _
    rw [← h.len]; simp
  · exact h.alloc arr e cs hl.arr.1 hl.arr.2 (scal_arr hsc _)

theorem newRowFz_ok (h : Rel W κ S w) {cs : List AVal} {arr : Array Value} (hl : VRelL κ cs arr.toList) (hsc : ∀ y ∈ arr.toList, scalar y) (e : TypeId) :
    ∃ a w' κ', (newRow e arr).run P w = .ok a w' ∧ (∀ full len c, len ≤ c → (full = true → c = len) → VRel κ' (.fz full len cs) (.slice (some a) len c)) ∧
      VRel κ' (.fq cs) (.pointer (some a)) ∧ Rel W κ' S w' ∧ κ.le κ' := by
  have hmono := Kap.le_addFz h arr
  have hk : ∀ (j : Nat) y, arr.toList[j]? = some y → (κ.addFz w.heap.size arr).fz w.heap.size (0 + j) = some y := by
    intro j y hy; simp [Kap.addFz]; simpa using hy
  refine ⟨⟨w.heap.size, 0, none⟩, w.alloc (.cells arr e), κ.addFz w.heap.size arr, by simp [newRow], ?_, ?_, h.allocFz arr e, hmono⟩
  · intro full len c hc hf
    exact .fz full len cs _ c arr.toList hc hf (fun _ => rfl) hl.1 hsc hk (hl.mono hmono).2
  · exact .fq cs _ arr.toList (fun _ => rfl) hl.1 hsc hk (hl.mono hmono).2

theorem alloc_ok (h : Rel W κ S w) {e : TypeId} {cs : List AVal} (hz : zeroA P e = some cs) :
    Runs P W κ w (Instr.alloc e true (.tuple #[])) (.ptr S.length 0 0) (S ++ [.live 0 cs]) := by
  obtain ⟨i, z, hi, hzz, hl, hsc⟩ := zeroA_rel hz κ
  obtain ⟨a, w', κ', h1, _, h2, _, h3, h4⟩ := newRow_ok (P := P) h hl hsc e
  exact ⟨_, w', κ', by simp [Instr.alloc, run_zero hi hzz, newVar, h1], h2, h3, h4⟩

theorem box_ok (h : Rel W κ S w) (e : TypeId) {x : AVal} {x' : Value} (hx : VRel κ x x') {cs : List AVal} (hc : cells? x = some cs) :
    Runs P W κ w (Instr.box e x') (.ptr S.length 0 0) (S ++ [.live 0 cs]) := by
  obtain ⟨hl, hsc⟩ := hx.cells hc
  obtain ⟨a, w', κ', h1, _, h2, _, h3, h4⟩ := newRow_ok (P := P) h hl hsc e
  exact ⟨_, w', κ', by simp [Instr.box, newVar, h1], h2, h3, h4⟩

/-- Filling parts into cells. -/
theorem fold_set : ∀ (cs : List Value) (off k : Nat) (arr : Array Value), off + k + cs.length ≤ arr.size →
    ((cs.zipIdx k).foldl (fun a (p : Value × Nat) => a.setIfInBounds (off + p.2) p.1) arr).size = arr.size ∧
    ∀ q, ((cs.zipIdx k).foldl (fun a (p : Value × Nat) => a.setIfInBounds (off + p.2) p.1) arr)[q]? = if off + k ≤ q ∧ q < off + k + cs.length then cs[q - (off + k)]? else arr[q]? := by
  intro cs
  induction cs with
  | nil => intro off k arr h; refine ⟨by simp, fun q => ?_⟩; rw [if_neg (by simp)]; simp
  | cons c cs ih =>
    intro off k arr h
    simp only [List.zipIdx_cons, List.foldl_cons]
    simp at h
    obtain ⟨h1, h2⟩ := ih off (k + 1) (arr.setIfInBounds (off + k) c) (by simp; omega)
    refine ⟨by rw [h1]; simp, fun q => ?_⟩
    rw [h2 q]
    by_cases hq : off + k ≤ q ∧ q < off + k + (c :: cs).length
    · rw [if_pos hq]
      simp at hq
      by_cases hq0 : q = off + k
      · subst hq0
        rw [if_neg (by omega)]
        simp [show off + k < arr.size from by omega]
      · rw [if_pos (by omega), show q - (off + k) = (q - (off + (k + 1))) + 1 from by omega]
        simp
    · rw [if_neg hq, if_neg (by simp at hq; omega)]
      rw [Array.getElem?_setIfInBounds_ne (by simp at hq; omega)]

theorem fill_ok (place : Nat → Option (Nat × Nat)) : ∀ (parts : List (Nat × Nat × AVal)) (parts' : List (Nat × Value)) (cells out : List AVal) (arr : Array Value),
    parts.length = parts'.length → (∀ (j : Nat) p q, parts[j]? = some p → parts'[j]? = some q → place q.1 = some (p.1, p.2.1) ∧ VRel κ p.2.2 q.2) →
    VRelL κ cells arr.toList → (∀ y ∈ arr.toList, scalar y) → fillA cells parts = some out →
    ∃ arr', Instr.fill place arr parts' = some arr' ∧ VRelL κ out arr'.toList ∧ (∀ y ∈ arr'.toList, scalar y) := by
  intro parts
  induction parts with
  | nil =>
    intro parts' cells out arr hlen _ hl hsc hf
    cases parts' with
    | nil => simp [fillA] at hf; subst hf; exact ⟨arr, rfl, hl, hsc⟩
    | cons => simp at hlen
  | cons p parts ih =>
    intro parts' cells out arr hlen hrel hl hsc hf
    cases parts' with
    | nil => simp at hlen
    | cons q parts' =>
      obtain ⟨off, size, v⟩ := p
      obtain ⟨i, x⟩ := q
      have h0 := hrel 0 _ _ rfl rfl
      simp only at h0
      simp only [fillA] at hf
      split at hf
      · simp at hf
      · rename_i cs hcs
        split at hf
        · rename_i hc
          obtain ⟨hcl, hce⟩ := hc
          obtain ⟨hxl, hxs⟩ := h0.2.cells hcs
          have hsize : x.cells.size = size := by have := hxl.1; simp at this; omega
          have hcells : cells.length = arr.size := by have := hl.1; simpa using this
          obtain ⟨f1, f2⟩ := fold_set x.cells.toList off 0 arr (by simp; omega)
          have hg : ∀ q : Nat, (x.cells.zipIdx.foldl (fun cs (p : Value × Nat) => cs.setIfInBounds (off + p.2) p.1) arr)[q]? = if off ≤ q ∧ q < off + cs.length then x.cells[q - off]? else arr[q]? := by
            intro q
            have := f2 q
            rw [← Array.foldl_toList]
            simp only [Array.toList_zipIdx]
            rw [this]
            have : x.cells.toList.length = cs.length := hxl.1.symm
            simp only [this, Nat.add_zero]
            split <;> simp
          have hgs : (x.cells.zipIdx.foldl (fun cs (p : Value × Nat) => cs.setIfInBounds (off + p.2) p.1) arr).size = arr.size := by
            rw [← Array.foldl_toList]; simp only [Array.toList_zipIdx]; exact f1
          have hA : VRelL κ (splice cells off cs) (x.cells.zipIdx.foldl (fun cs (p : Value × Nat) => cs.setIfInBounds (off + p.2) p.1) arr).toList := by
            refine ⟨(splice_length _ _ _ (by omega)).trans (by simp only [Array.length_toList]; omega), fun j a b ha hb => ?_⟩
            rw [splice_get _ _ _ (by omega)] at ha
            rw [Array.getElem?_toList, hg] at hb
            split at ha
            · rename_i hj; rw [if_pos hj] at hb
              exact hxl.2 (j - off) a b ha (by simpa using hb)
            · rename_i hj; rw [if_neg hj] at hb
              exact hl.2 j a b ha (by simpa using hb)
          have hB : ∀ y ∈ (x.cells.zipIdx.foldl (fun cs (p : Value × Nat) => cs.setIfInBounds (off + p.2) p.1) arr).toList, scalar y := by
            intro y hy
            obtain ⟨j, hj⟩ := List.getElem?_of_mem hy
            rw [Array.getElem?_toList, hg] at hj
            split at hj
            · exact hxs y (by simpa using Array.mem_of_getElem? hj)
            · exact hsc y (by simpa using Array.mem_of_getElem? hj)
          obtain ⟨arr', g1, g2, g3⟩ := ih parts' (splice cells off cs) out _ (by simpa using hlen)
            (fun j a b ha hb => hrel (j + 1) a b (by simpa using ha) (by simpa using hb)) hA hB hf
          refine ⟨arr', ?_, g2, g3⟩
          simp only [Instr.fill, h0.1]
          rw [if_neg (by simp; omega)]
          exact g1
        · simp at hf

end Am
end

/- Each operation of the machine stands for the model's: what only computes. -/
section
namespace Am
open Go Go.RowKit

variable {P : Program} {W : World} {κ : Kap} {S : St} {w : World}

theorem intBin_ok {op : BinOp} {k : IntKind} {a b : Int} {v : AVal} (h : intBin op k a b = some v) (t : TypeId) (w : World) :
    ∃ v', (binOp op t (.int k a) (.int k b)).run P w = .ok v' w ∧ VRel κ v v' := by
  unfold intBin at h
  split at h
  all_goals first
    | (cases h; refine ⟨_, ?_, .int _ _⟩; simp only [binOp, ne_eq, not_true_eq_false, if_false]; rfl)
    | (cases h; refine ⟨_, ?_, .bool _⟩; simp only [binOp, ne_eq, not_true_eq_false, if_false]; rfl)
    | (by_cases hb : b = 0
       · rw [if_pos hb] at h; cases h
       · rw [if_neg hb] at h; cases h; first
          | exact ⟨.int k (k.wrap (a.tdiv b)), by simp [binOp, Op.intDiv, hb], .int _ _⟩
          | exact ⟨.int k (a.tmod b), by simp [binOp, Op.intDiv, hb], .int _ _⟩)
    | cases h

theorem shiftA_ok {op : BinOp} {k k' : IntKind} {a b : Int} {v : AVal} (h : shiftA op k a b = some v) (t : TypeId) (w : World) :
    ∃ v', (binOp op t (.int k a) (.int k' b)).run P w = .ok v' w ∧ VRel κ v v' := by
  unfold shiftA at h
  split at h
  · cases h
  · rename_i hb
    split at h
    · cases h; exact ⟨_, by simp only [binOp, Op.shift, hb, if_false, Sem.run_pure], .int _ _⟩
    · cases h; exact ⟨_, by simp only [binOp, Op.shift, hb, if_false, Sem.run_pure], .int _ _⟩
    · cases h

theorem toList_eq (b : ByteArray) : b.toList = b.data.toList := by
  have : ∀ (n i : Nat) (r : List UInt8), b.size - i = n → ByteArray.toList.loop b i r = r.reverse ++ b.data.toList.drop i := by
    intro n
    induction n with
    | zero =>
      intro i r h
      unfold ByteArray.toList.loop
      rw [if_neg (by omega)]
      have : b.data.toList.length ≤ i := by simp; have : b.data.size = b.size := rfl; omega
      rw [List.drop_eq_nil_of_le this]; simp
    | succ n ih =>
      intro i r h
      unfold ByteArray.toList.loop
      have hlt : i < b.size := by omega
      rw [if_pos hlt, ih (i + 1) _ (by omega)]
      have hlt' : i < b.data.toList.length := by simpa using hlt
      rw [List.drop_eq_getElem_cons hlt']
      have hg : b.get! i = b.data.toList[i] := by
        have : b.get! i = b.data[i]! := rfl
        rw [this]
        have h2 : i < b.data.size := hlt
        rw [getElem!_pos b.data i h2]; simp
      rw [hg]
      simp
  simpa [ByteArray.toList] using this (b.size - 0) 0 [] rfl

theorem size_eq (b : ByteArray) : b.size = b.data.toList.length := by
  show b.data.size = _
  simp

theorem strBin_ok {op : BinOp} {a b : ByteArray} {v : AVal} (h : strBin op a.data.toList b.data.toList = some v) (t : TypeId) (w : World) :
    ∃ v', (binOp op t (.string a) (.string b)).run P w = .ok v' w ∧ VRel κ v v' := by
  unfold strBin at h
  split at h
  case h_1 =>
    split at h
    · rename_i hle; cases h
      refine ⟨_, ?_, .str _ (a ++ b) (by simp)⟩
      have : ¬ (((a.size + b.size : Nat) : Int) > IntKind.i64.max) := by
        rw [size_eq, size_eq]
        simp only [IntKind.max, IntKind.signed, IntKind.bits]
        simp at hle ⊢
        omega
      simp only [binOp, Op.stringOp, this, if_false, Sem.run_pure]
    · cases h
  all_goals first
    | (cases h; exact ⟨_, by simp only [binOp, Op.stringOp, toList_eq, Sem.run_pure], .bool _⟩)
    | cases h

theorem binA_ok {op : BinOp} {x y v : AVal} {x' y' : Value} (hx : VRel κ x x') (hy : VRel κ y y') (h : binA op x y = some v) (t : TypeId) (w : World) :
    ∃ v', (binOp op t x' y').run P w = .ok v' w ∧ VRel κ v v' := by
  unfold binA at h
  split at h
  · cases hx; cases hy
    split at h
    · exact shiftA_ok h t w
    · split at h
      · rename_i hk; subst hk; exact intBin_ok h t w
      · cases h
  · cases hx with
    | str _ b1 h1 =>
      cases hy with
      | str _ b2 h2 =>
        subst h1; subst h2
        exact strBin_ok h t w
  · cases h

theorem unA_ok {op : UnOp} {x v : AVal} {x' : Value} (hx : VRel κ x x') (h : unA op x = some v) (w : World) :
    ∃ v', (Op.unary op x').run P w = .ok v' w ∧ VRel κ v v' := by
  unfold unA at h
  split at h
  · cases hx
    obtain ⟨v', h1, h2⟩ := intBin_ok (P := P) (κ := κ) h 0 w
    exact ⟨v', by simpa [Op.unary, binOp] using h1, h2⟩
  · cases hx
    obtain ⟨v', h1, h2⟩ := intBin_ok (P := P) (κ := κ) h 0 w
    exact ⟨v', by simpa [Op.unary, binOp] using h1, h2⟩
  · cases hx; cases h
    exact ⟨_, by simp only [Op.unary, Sem.run_pure], .bool _⟩
  · cases h

def EqT.fits (t : EqT) (d : TypeDesc) : Prop :=
  match t, d with
  | .bool, .bool => True
  | .ptr, .pointer _ => True
  | .sl, .slice _ => True
  | .fn, .func .. => True
  | .ifc, .interface _ => True
  | _, _ => False

theorem eq2_ok {x y : AVal} {x' y' : Value} (hx : VRel κ x x') (hy : VRel κ y y') {b : Bool} {q : EqT} (h : eq2 q x y = some b) {t : TypeId} {d : TypeDesc}
    (ht : P.underlying t = some d) (hq : q.fits d) (w : World) : (Op.equal t x' y').run P w = .ok b w := by
  have key : ∀ n, (Op.equalIn (n + 1) t x' y').run P w = .ok b w := by
    intro n
    unfold eq2 at h
    split at h
    case h_18 => cases h
    all_goals
      cases h
      cases hx
      cases hy
      cases d <;> simp only [EqT.fits] at hq
      simp [Op.equalIn, underlying, ht]
  exact key 9999

theorem eqGuard_const {op : BinOp} {t : TypeId} {x y : Operand} {a b : Value} (h : a = .nilIface → b = .nilIface → isConst x = true ∨ isConst y = true)
    (hagg : ∀ cs, a ≠ .agg cs) (w : World) : (eqGuard op t x y a b).run P w = .ok () w := by
  unfold eqGuard
  split
  case h_3 => rfl
  all_goals
    simp only [Bool.not_true, Bool.false_eq_true, if_false]
    cases a <;> cases b <;> first
      | rfl
      | (exact absurd rfl (hagg _))
      | (rcases h rfl rfl with h | h <;> (unfold isConst at h; split at h <;> simp_all))

end Am
end

/- Each operation of the machine stands for the model's: addresses, parts, slices, aggregates, functions. -/
section
namespace Am
open Go Go.RowKit

variable {P : Program} {W : World} {κ : Kap} {S : St} {w : World}

theorem sizeP_info {t : TypeId} {n : Nat} (h : sizeP P t = some n) : ∃ i, P.info? t = some i ∧ i.size = n := by
  unfold sizeP at h
  cases hi : P.info? t with
  | none => rw [hi] at h; simp at h
  | some i => rw [hi] at h; simp at h; exact ⟨i, rfl, h⟩
theorem bytesP_info {t : TypeId} {n : Nat} (h : bytesP P t = some n) : ∃ i, P.info? t = some i ∧ i.bytes = n := by
  unfold bytesP at h
  cases hi : P.info? t with
  | none => rw [hi] at h; simp at h
  | some i => rw [hi] at h; simp at h; exact ⟨i, rfl, h⟩
theorem run_size {t : TypeId} {n : Nat} (h : sizeP P t = some n) (w : World) : (Go.sizeOf t).run P w = .ok n w := by
  obtain ⟨i, hi, rfl⟩ := sizeP_info h
  exact run_sizeOf hi w
theorem run_und {t : TypeId} {d : TypeDesc} (h : P.underlying t = some d) (w : World) : (underlying t).run P w = .ok d w := by
  simp [underlying, h]

theorem part_ok {cs : List AVal} {ys : List Value} (hl : VRelL κ cs ys) (hsc : ∀ y ∈ ys, scalar y) {t : TypeId} {n : Option Nat} (hn : nOf P t = some n) {off : Nat} {v : AVal}
    (h : partA n off cs = some v) (w : World) : ∃ v', (part t ys.toArray off).run P w = .ok v' w ∧ VRel κ v v' := by
  obtain ⟨i, hi, hsz⟩ := nOf_info hn
  cases n with
  | none =>
    simp only [partA] at h
    obtain ⟨y, hy, hr⟩ := hl.get h
    exact ⟨y, by simp [part, run_isAgg hn, hy], hr⟩
  | some n =>
    simp only [partA] at h
    split at h
    · rename_i hle
      cases h
      have h2 := (hl.drop off).take n
      refine ⟨.agg ((ys.drop off).take n).toArray, ?_, .agg _ _ h2.1 (fun y hy => hsc y (List.mem_of_mem_drop (List.mem_of_mem_take hy))) h2.2⟩
      have : ys.toArray.extract off (off + n) = ((ys.drop off).take n).toArray := by
        apply Array.ext'
        simp [List.extract_eq_take_drop]
      simp [part, run_isAgg hn, run_sizeOf hi, hsz n rfl, this]
    · simp at h

/-- A pointer moved on by some cells. -/
theorem ptr_add {x : AVal} {x' : Value} (h : VRel κ x x') {off : Nat} {v : AVal} (hv : faddrA off x = some v) : ∃ a, x' = .pointer (some a) ∧ VRel κ v (.pointer (some (a.add off))) := by
  cases h <;> simp only [faddrA, Option.some.injEq, reduceCtorEq] at hv
  case ptr r u o i a hr hver hh =>
    subst hv
    exact ⟨a, rfl, .ptr _ _ _ i _ hr hver (fun e => by rw [hh e, add_plain, Nat.add_assoc])⟩
  case fq cells a ys hs hl hsc hk hr =>
    subst hv
    refine ⟨a, rfl, .fq _ _ (ys.drop off) ?_ (by simp [hl]) (fun y hy => hsc y (List.mem_of_mem_drop hy)) ?_ ?_⟩
    · intro hne
      unfold Addr.add
      split
      · apply hs; rintro rfl; simp at hne
      · rfl
    · intro j y hy
      rw [List.getElem?_drop] at hy
      rw [add_block]
      have := hk _ y hy
      rw [← this]
      congr 1
      unfold Addr.add
      split
      · rename_i h0; subst h0; simp
      · simp; omega
    · intro j a b ha hb
      rw [List.getElem?_drop] at ha hb
      exact hr _ a b ha hb

theorem fq_take {cells : List AVal} {a : Addr} (h : VRel κ (.fq cells) (.pointer (some a))) (n : Nat) : VRel κ (.fq (cells.take n)) (.pointer (some a)) := by
  cases h with
  | fq _ _ ys hs hl hsc hk hr =>
    refine .fq _ _ (ys.take n) (fun hne => hs (by rintro rfl; simp at hne)) (by simp [hl]) (fun y hy => hsc y (List.mem_of_mem_take hy)) ?_ ?_
    · intro j y hy
      rw [List.getElem?_take] at hy
      split at hy
      · exact hk j y hy
      · simp at hy
    · intro j x y hx hy
      rw [List.getElem?_take] at hx hy
      split at hx
      · rename_i hj; rw [if_pos hj] at hy; exact hr j x y hx hy
      · simp at hx

theorem faddr_ok (h : Rel W κ S w) {s : TypeId} {fields : Array Field} {fd : Field} {f : Nat} (hs : P.underlying s = some (.struct fields)) (hf : fields[f]? = some fd)
    {n : Nat} (hn : sizeP P fd.type = some n) (hn0 : n ≠ 0) {x v : AVal} {x' : Value} (hx : VRel κ x x')
    (hv : faddrA fd.offset x = some v) : Runs P W κ w (Instr.fieldAt s x' f) v S := by
  obtain ⟨a, rfl, hr⟩ := ptr_add hx hv
  refine .pure h ?_ hr
  simp [Instr.fieldAt, run_und hs, hf, Instr.sureAddr, fieldPlace, run_size hn, hn0]

theorem iaddrA_ok (h : Rel W κ S w) {t e : TypeId} {len sz : Nat} (ht : P.underlying t = some (.array len e)) (hsz : sizeP P e = some sz)
    {x i v : AVal} {x' i' : Value} (hx : VRel κ x x') (hi : VRel κ i i') (hv : iaddrAA sz len x i = some v) : Runs P W κ w (Instr.indexAt t x' i') v S := by
  unfold iaddrAA at hv
  split at hv
  · rename_i r u off k n
    cases hi
    split at hv
    · rename_i hc
      cases hv
      obtain ⟨a, rfl, hr⟩ := ptr_add (off := n.toNat * sz) hx rfl
      refine .pure h ?_ hr
      simp [Instr.indexAt, asIntOf, run_und ht, Instr.sureAddr, hc, run_size hsz]
    · simp at hv
  · rename_i cells k n
    cases hi
    split at hv
    · rename_i hc
      cases hv
      obtain ⟨a, rfl, hr⟩ := ptr_add (off := n.toNat * sz) hx rfl
      refine .pure h ?_ (fq_take hr sz)
      simp [Instr.indexAt, asIntOf, run_und ht, Instr.sureAddr, hc, run_size hsz]
    · simp at hv
  · simp at hv

/-- A frozen slice's pointer to its cells. -/
theorem fz_fq {full : Bool} {len c : Nat} {cells : List AVal} {a : Addr} (h : VRel κ (.fz full len cells) (.slice (some a) len c)) : VRel κ (.fq cells) (.pointer (some a)) := by
  cases h with
  | fz _ _ _ _ _ ys hc hfull hs hl hsc hk hr => exact .fq _ _ ys hs hl hsc hk hr

theorem iaddrS_ok (h : Rel W κ S w) {t e : TypeId} {sz : Nat} (ht : P.underlying t = some (.slice e)) (hsz : sizeP P e = some sz)
    {x i v : AVal} {x' i' : Value} (hx : VRel κ x x') (hi : VRel κ i i') (hv : iaddrSA sz x i = some v) : Runs P W κ w (Instr.indexAt t x' i') v S := by
  unfold iaddrSA at hv
  split at hv
  · rename_i r u off len sz' k n
    cases hi
    split at hv
    · rename_i hc
      obtain ⟨rfl, h0, h1⟩ := hc
      cases hv
      cases hx with
      | sl _ _ _ _ _ inf a c hr hver hlc hh =>
        refine .pure h (v' := .pointer (some (a.add (n.toNat * sz')))) ?_ ?_
        · simp [Instr.indexAt, asIntOf, run_und ht, h0, h1, run_size hsz]
        · refine .ptr _ _ _ inf _ hr hver (fun e => ?_)
          rcases (hh e).2 with hc0 | hc0
          · omega
          · rw [hc0, add_plain, Nat.add_assoc]
    · simp at hv
  · rename_i full len cells k n
    cases hi
    split at hv
    · rename_i hc
      obtain ⟨hlen, h0, h1⟩ := hc
      cases hv
      have hx2 := hx
      cases hx with
      | fz _ _ _ a c ys hcc hfull hs hl hsc hk hr =>
        have hfq := fz_fq hx2
        obtain ⟨a', ha', hr'⟩ := ptr_add (off := n.toNat * sz) hfq rfl
        cases ha'
        refine .pure h (v' := .pointer (some (a.add (n.toNat * sz)))) ?_ (fq_take hr' sz)
        simp [Instr.indexAt, asIntOf, run_und ht, h0, h1, run_size hsz]
    · simp at hv
  · simp at hv

theorem fld_ok (h : Rel W κ S w) {s : TypeId} {fields : Array Field} {fd : Field} {f : Nat} (hs : P.underlying s = some (.struct fields)) (hf : fields[f]? = some fd)
    {n : Option Nat} (hn : nOf P fd.type = some n) {cs : List AVal} {v : AVal} {x' : Value} (hx : VRel κ (.agg cs) x')
    (hv : partA n fd.offset cs = some v) : Runs P W κ w (Instr.field s x' f) v S := by
  cases hx with
  | agg _ ys hl hsc hr =>
    obtain ⟨v', h1, h2⟩ := part_ok (P := P) ⟨hl, hr⟩ hsc hn hv w
    exact .pure h (by simp [Instr.field, run_und hs, hf, asAgg, h1]) h2

theorem idxA_ok (h : Rel W κ S w) {t e : TypeId} {len sz : Nat} {n : Option Nat} (ht : P.underlying t = some (.array len e)) (hn : nOf P e = some n) (hsz : sizeP P e = some sz)
    {cs : List AVal} {k : IntKind} {i : Int} {v : AVal} {x' i' : Value} (hx : VRel κ (.agg cs) x') (hi : VRel κ (.int k i) i')
    (hb : 0 ≤ i ∧ i < len) (hv : partA n (i.toNat * sz) cs = some v) : Runs P W κ w (Instr.index t x' i') v S := by
  cases hx with
  | agg _ ys hl hsc hr =>
    cases hi
    obtain ⟨v', h1, h2⟩ := part_ok (P := P) ⟨hl, hr⟩ hsc hn hv w
    exact .pure h (by simp [Instr.index, asIntOf, run_und ht, hb, run_size hsz, h1]) h2

theorem idxStr_ok (h : Rel W κ S w) {t : TypeId} (ht : P.underlying t = some .string) {s : List UInt8} {k : IntKind} {i : Int} {b : UInt8} {x' i' : Value}
    (hx : VRel κ (.str s) x') (hi : VRel κ (.int k i) i') (h0 : 0 ≤ i) (hb : s[i.toNat]? = some b) : Runs P W κ w (Instr.index t x' i') (.int .u8 b.toNat) S := by
  cases hx with
  | str _ bs hs =>
    cases hi
    subst hs
    have hlt : i.toNat < bs.size := by
      rw [size_eq]; exact (List.getElem?_eq_some_iff.1 hb).1
    have hg : bs[i.toNat]? = some b := by
      have h1 : bs[i.toNat]? = some bs[i.toNat] := getElem?_pos bs i.toNat hlt
      rw [h1]
      have h2 : bs[i.toNat] = bs.data[i.toNat]'hlt := rfl
      rw [h2]
      have h3 := (List.getElem?_eq_some_iff.1 hb).2
      rw [← h3]; simp
    exact .pure h (by simp [Instr.index, asIntOf, run_und ht, h0, hg]) (.int _ _)

theorem bounds_ok {n : Nat} {lo hi : Option AVal} {lo' hi' : Option Value} {l hh : Nat} (h : bounds n lo hi = some (l, hh)) (hlo : ∀ x, lo = some x → ∃ y, lo' = some y ∧ VRel κ x y) (hlo0 : lo = none → lo' = none)
    (hhi : ∀ x, hi = some x → ∃ y, hi' = some y ∧ VRel κ x y) (hhi0 : hi = none → hi' = none) (isSlice : Bool) (cap : Nat) (hc : n ≤ cap) (w : World) :
    (Instr.sliceBounds isSlice n cap lo' hi' none).run P w = .ok (l, hh, cap) w ∧ l ≤ hh ∧ hh ≤ n := by
  unfold bounds at h
  cases hi with
  | none =>
    rw [hhi0 rfl]
    cases lo with
    | none =>
      rw [hlo0 rfl]
      simp at h; obtain ⟨rfl, rfl⟩ := h
      simp [Instr.sliceBounds]
    | some x =>
      obtain ⟨y, rfl, hy⟩ := hlo x rfl
      cases hy <;> simp at h
      rename_i k m
      obtain ⟨⟨h1, h2⟩, rfl, rfl⟩ := h
      simp [Instr.sliceBounds, Instr.sliceBound, asIntOf, h1, h2]
  | some x =>
    obtain ⟨y, rfl, hy⟩ := hhi x rfl
    cases lo with
    | none =>
      rw [hlo0 rfl]
      cases hy <;> simp at h
      rename_i k m
      obtain ⟨⟨h1, h2⟩, rfl, rfl⟩ := h
      simp [Instr.sliceBounds, Instr.sliceBound, asIntOf]
      have : m ≤ (cap : Int) := by omega
      simp [h1, this]
      omega
    | some z =>
      obtain ⟨y', rfl, hy'⟩ := hlo z rfl
      cases hy <;> cases hy' <;> simp at h
      rename_i k m k' m'
      obtain ⟨⟨h1, h2, h3⟩, rfl, rfl⟩ := h
      simp [Instr.sliceBounds, Instr.sliceBound, asIntOf]
      have h4 : m ≤ (cap : Int) := by omega
      have h5 : 0 ≤ m := by omega
      simp [h4, h5]
      have h6 : m' ≤ max m 0 := by omega
      simp [h1, h6]
      omega

theorem extract_data (s : ByteArray) (l h : Nat) : (s.extract l h).data.toList = (s.data.toList.take h).drop l := by
  simp [ByteArray.data_extract, List.extract_eq_take_drop, List.drop_take]

theorem slcStr_ok (h : Rel W κ S w) {t : TypeId} (ht : P.underlying t = some .string) {x v : AVal} {lo hi : Option AVal} {x' : Value} {lo' hi' : Option Value} (hx : VRel κ x x')
    (hlo : ∀ x, lo = some x → ∃ y, lo' = some y ∧ VRel κ x y) (hlo0 : lo = none → lo' = none)
    (hhi : ∀ x, hi = some x → ∃ y, hi' = some y ∧ VRel κ x y) (hhi0 : hi = none → hi' = none)
    (hv : slcStrA x lo hi = some v) : Runs P W κ w (Instr.sliceAt t x' lo' hi' none) v S := by
  unfold slcStrA at hv
  split at hv
  · rename_i s
    split at hv
    · rename_i l hh hb
      cases hv
      cases hx with
      | str _ bs hs =>
        subst hs
        rw [← size_eq] at hb
        obtain ⟨h1, h2, h3⟩ := bounds_ok (P := P) (κ := κ) hb hlo hlo0 hhi hhi0 false bs.size (Nat.le_refl _) w
        refine .pure h ?_ (.str _ (bs.extract l hh) (extract_data bs l hh))
        simp [Instr.sliceAt, Instr.slice, run_und ht, h1]
    · simp at hv
  · simp at hv

end Am
end

/- Each operation of the machine stands for the model's: slices of memory, append, copy, make, texts. -/
section
namespace Am
open Go Go.RowKit

variable {P : Program} {W : World} {κ : Kap} {S : St} {w : World}

/-- What the operands of a slice expression need. -/
structure Lims (κ : Kap) (lo hi : Option AVal) (lo' hi' : Option Value) : Prop where
  l1 : ∀ x, lo = some x → ∃ y, lo' = some y ∧ VRel κ x y
  l0 : lo = none → lo' = none
  h1 : ∀ x, hi = some x → ∃ y, hi' = some y ∧ VRel κ x y
  h0 : hi = none → hi' = none

theorem slcM_ok (h : Rel W κ S w) {t e : TypeId} {sz : Nat} (ht : P.underlying t = some (.slice e)) (hsz : sizeP P e = some sz) {x v : AVal} {lo hi : Option AVal} {x' : Value} {lo' hi' : Option Value}
    (hx : VRel κ x x') (hl : Lims κ lo hi lo' hi') (hv : slcMA sz x lo hi = some v) : Runs P W κ w (Instr.sliceAt t x' lo' hi' none) v S := by
  unfold slcMA at hv
  split at hv
  · rename_i r u off len sz'
    split at hv
    · rename_i l hh hb
      split at hv
      · rename_i hs; subst hs
        cases hv
        cases hx with
        | sl _ _ _ _ _ inf a c hr hver hlc hext =>
          obtain ⟨h1, h2, h3⟩ := bounds_ok (P := P) (κ := κ) hb hl.l1 hl.l0 hl.h1 hl.h0 true c hlc w
          refine .pure h (v' := .slice (if c = l then some a else (some a).map (·.add (l * sz'))) (hh - l) (c - l)) ?_ ?_
          · simp [Instr.sliceAt, Instr.slice, run_und ht, h1, run_size hsz]
          · have hmul : l * sz' + (c - l) * sz' = c * sz' := by rw [← Nat.add_mul]; congr 1; omega
            by_cases hcl : c = l
            · rw [if_pos hcl]
              exact .slm _ _ _ _ _ _ inf a _ hr hver (by omega) (by omega) (fun e => by have := (hext e).1; exact ⟨by rw [Nat.add_assoc, hmul]; exact this, .inl (by omega)⟩)
            · rw [if_neg hcl]
              refine .slm _ _ _ _ _ _ inf _ _ hr hver (by omega) (by omega) (fun e => ?_)
              have := hext e
              refine ⟨by rw [Nat.add_assoc, hmul]; exact this.1, .inr ?_⟩
              rcases this.2 with h0 | h0
              · omega
              · rw [h0]; show Addr.add _ _ = _; rw [add_plain, Nat.add_assoc]
      · simp at hv
    · simp at hv
  · rename_i r u off len mc sz' hq
    split at hv
    · rename_i l hh hb
      split at hv
      · rename_i hs; subst hs
        cases hv
        cases hx with
        | slm _ _ _ _ _ _ inf a c hr hver hlm hmc hext =>
          obtain ⟨h1, h2, h3⟩ := bounds_ok (P := P) (κ := κ) hb hl.l1 hl.l0 hl.h1 hl.h0 true c hmc w
          obtain ⟨q', hq', _⟩ := hl.h1 _ rfl
          have hse : Instr.sliceBounds true len c lo' hi' none = Instr.sliceBounds true mc c lo' hi' none := by rw [hq']; rfl
          refine .pure h (v' := .slice (if c = l then some a else (some a).map (·.add (l * sz'))) (hh - l) (c - l)) ?_ ?_
          · simp [Instr.sliceAt, Instr.slice, run_und ht, hse, h1, run_size hsz]
          · have hmul : l * sz' + (c - l) * sz' = c * sz' := by rw [← Nat.add_mul]; congr 1; omega
            by_cases hcl : c = l
            · rw [if_pos hcl]
              exact .sl _ _ _ _ _ inf a _ hr hver (by omega) (fun e => by have := (hext e).1; exact ⟨by rw [Nat.add_assoc, hmul]; exact this, .inl (by omega)⟩)
            · rw [if_neg hcl]
              refine .sl _ _ _ _ _ inf _ _ hr hver (by omega) (fun e => ?_)
              have := hext e
              refine ⟨by rw [Nat.add_assoc, hmul]; exact this.1, .inr ?_⟩
              rcases this.2 with h0 | h0
              · omega
              · rw [h0]; show Addr.add _ _ = _; rw [add_plain, Nat.add_assoc]
      · simp at hv
    · simp at hv
  · simp at hv

theorem slcS_ok (h : Rel W κ S w) {t e : TypeId} {sz : Nat} (ht : P.underlying t = some (.slice e)) (hsz : sizeP P e = some sz) {x v : AVal} {lo hi : Option AVal} {x' : Value} {lo' hi' : Option Value}
    (hx : VRel κ x x') (hl : Lims κ lo hi lo' hi') (hv : slcSA sz x lo hi = some v) : Runs P W κ w (Instr.sliceAt t x' lo' hi' none) v S := by
  unfold slcSA at hv
  split at hv
  · split at hv
    · rename_i p hb
      obtain ⟨l, hh⟩ := p
      cases hv
      cases hx
      obtain ⟨h1, h2, h3⟩ := bounds_ok (P := P) (κ := κ) hb hl.l1 hl.l0 hl.h1 hl.h0 true 0 (Nat.le_refl _) w
      have : l = 0 ∧ hh = 0 := by omega
      obtain ⟨rfl, rfl⟩ := this
      exact .pure h (v' := .slice none 0 0) (by simp [Instr.sliceAt, Instr.slice, run_und ht, h1, run_size hsz]) .nils
    · simp at hv
  · rename_i r u off len sz'
    split at hv
    · rename_i l hh hb
      split at hv
      · rename_i hs; subst hs
        cases hv
        cases hx with
        | sl _ _ _ _ _ inf a c hr hver hlc hext =>
          obtain ⟨h1, h2, h3⟩ := bounds_ok (P := P) (κ := κ) hb hl.l1 hl.l0 hl.h1 hl.h0 true c hlc w
          refine .pure h (v' := .slice (if c = l then some a else (some a).map (·.add (l * sz'))) (hh - l) (c - l)) ?_ ?_
          · simp [Instr.sliceAt, Instr.slice, run_und ht, h1, run_size hsz]
          · have hmul : l * sz' + (c - l) * sz' = c * sz' := by rw [← Nat.add_mul]; congr 1; omega
            by_cases hcl : c = l
            · rw [if_pos hcl]
              exact .sl _ _ _ _ _ inf a _ hr hver (by omega) (fun e => by have := (hext e).1; exact ⟨by rw [Nat.add_assoc, hmul]; exact this, .inl (by omega)⟩)
            · rw [if_neg hcl]
              refine .sl _ _ _ _ _ inf _ _ hr hver (by omega) (fun e => ?_)
              have := hext e
              refine ⟨by rw [Nat.add_assoc, hmul]; exact this.1, .inr ?_⟩
              rcases this.2 with h0 | h0
              · omega
              · rw [h0]; show Addr.add _ _ = _; rw [add_plain, Nat.add_assoc]
      · simp at hv
    · simp at hv
  · rename_i full len cells
    split at hv
    · rename_i l hh hb
      split at hv
      · rename_i hcl
        cases hv
        have hx2 := hx
        cases hx with
        | fz _ _ _ a c ys hc hfull hs hlen hsc hk hr =>
          obtain ⟨h1, h2, h3⟩ := bounds_ok (P := P) (κ := κ) hb hl.l1 hl.l0 hl.h1 hl.h0 true c hc w
          refine .pure h (v' := .slice (if c = l then some a else (some a).map (·.add (l * sz))) (hh - l) (c - l)) ?_ ?_
          · simp [Instr.sliceAt, Instr.slice, run_und ht, h1, run_size hsz]
          · have hfq := fz_fq hx2
            have hfull' : (full && decide (hh = len)) = true → c - l = hh - l := by
              intro hb; simp at hb; rw [hfull hb.1, hb.2]
            by_cases hcl' : c = l
            · rw [if_pos hcl']
              have : hh - l = 0 := by omega
              rw [this]
              exact .fz _ 0 _ a _ [] (by omega) (by intro hb; rw [this] at hfull'; exact hfull' hb) (by simp) (by simp) (by simp) (by simp) (by simp)
            · rw [if_neg hcl']
              obtain ⟨a', ha', hr'⟩ := ptr_add (off := l * sz) hfq rfl
              cases ha'
              have hr'' := fq_take hr' ((hh - l) * sz)
              cases hr'' with
              | fq _ _ ys' g1 g2 g3 g4 g5 => exact .fz _ _ _ _ _ ys' (by omega) hfull' g1 g2 g3 g4 g5
      · simp at hv
    · simp at hv
  · simp at hv

theorem slcA_ok (h : Rel W κ S w) {t e : TypeId} {sz len : Nat} (ht : P.underlying t = some (.array len e) ∨ ∃ arr, P.underlying t = some (.pointer arr) ∧ P.underlying arr = some (.array len e)) (hsz : sizeP P e = some sz)
    {x v : AVal} {lo hi : Option AVal} {x' : Value} {lo' hi' : Option Value}
    (hx : VRel κ x x') (hl : Lims κ lo hi lo' hi') (hv : slcAA sz len x lo hi S = some v) : Runs P W κ w (Instr.sliceAt t x' lo' hi' none) v S := by
  unfold slcAA at hv
  split at hv
  · simp at hv
  · rename_i l hh hb
    obtain ⟨h1, h2, h3⟩ := bounds_ok (P := P) (κ := κ) hb hl.l1 hl.l0 hl.h1 hl.h0 false len (Nat.le_refl _) w
    have run : ∀ a, x' = .pointer (some a) → (Instr.sliceAt t x' lo' hi' none).run P w = .ok (.slice (some (if len = l then a else a.add (l * sz))) (hh - l) (len - l)) w := by
      rintro a rfl
      rcases ht with ht | ⟨arr, ht, harr⟩
      · simp [Instr.sliceAt, run_und ht, Instr.sureAddr, h1, run_size hsz]
      · simp [Instr.sliceAt, Instr.slice, run_und ht, run_und harr, asAddr, h1, run_size hsz]
    have hmul : l * sz + (len - l) * sz = len * sz := by rw [← Nat.add_mul]; congr 1; omega
    split at hv
    · rename_i r u off
      split at hv
      · rename_i v' cs hS
        split at hv
        · rename_i hc
          obtain ⟨rfl, hle⟩ := hc
          cases hv
          cases hx with
          | ptr _ _ _ inf a hr hver hext =>
            obtain ⟨e1, e2, e3, _⟩ := h.own r v' cs inf hS hr
            refine .pure h (run a rfl) (.sl _ _ _ _ _ inf _ _ hr hver (by omega) (fun e => ⟨by omega, ?_⟩))
            by_cases hll : len = l
            · left; omega
            · right; rw [if_neg hll, hext e, add_plain, Nat.add_assoc]
        · simp at hv
      · simp at hv
    · rename_i cells
      split at hv
      · rename_i hle
        cases hv
        have hx2 := hx
        cases hx with
        | fq _ a ys g1 g2 g3 g4 g5 =>
          refine .pure h (run a rfl) ?_
          by_cases hll : len = l
          · rw [if_pos hll]
            have : hh - l = 0 := by omega
            rw [this]
            exact .fz _ 0 _ a _ [] (by omega) (by intro _; omega) (by simp) (by simp) (by simp) (by simp) (by simp)
          · rw [if_neg hll]
            obtain ⟨a', ha', hr'⟩ := ptr_add (off := l * sz) hx2 rfl
            cases ha'
            have hr'' := fq_take hr' ((hh - l) * sz)
            cases hr'' with
            | fq _ _ ys' k1 k2 k3 k4 k5 => exact .fz _ _ _ _ _ ys' (by omega) (by intro hb; simp at hb; omega) k1 k2 k3 k4 k5
      · simp at hv
    · simp at hv

def LenT.fits (t : LenT) (d : TypeDesc) : Prop :=
  match t, d with
  | .str, .string => True
  | .sl, .slice _ => True
  | .map, .map .. => True
  | _, _ => False

theorem len_ok (h : Rel W κ S w) {t : TypeId} {d : TypeDesc} (ht : P.underlying t = some d) {q : LenT} (hq : q.fits d) {x v : AVal} {x' : Value} (hx : VRel κ x x')
    (hv : lenA q x = some v) (ty : TypeId) (rest : List TypeId) : Runs P W κ w (Builtin.len_ (t :: rest).toArray ty #[x']) v S := by
  have key : ∃ v', (Builtin.len_ (t :: rest).toArray ty #[x']).run P w = .ok v' w ∧ VRel κ v v' := by
    unfold lenA at hv
    split at hv
    case h_7 => simp at hv
    all_goals
      cases hv
      cases d <;> simp only [LenT.fits] at hq
    case h_1 =>
      cases hx with
      | str _ b hs => exact ⟨_, by simp [Builtin.len_, run_und ht, goInt]; rfl, by rw [size_eq, hs]; exact .int _ _⟩
    all_goals (cases hx; refine ⟨_, ?_, .int _ _⟩; simp [Builtin.len_, run_und ht, goInt])
  obtain ⟨v', h1, h2⟩ := key
  exact .pure h h1 h2

theorem mk_ok (h : Rel W κ S w) {t e : TypeId} {sz bytes : Nat} {zero : List AVal} (ht : P.underlying t = some (.slice e)) (hsz : sizeP P e = some sz) (hby : bytesP P e = some bytes) (hz : zeroA P e = some zero)
    {l c v : AVal} {S' : St} {l' c' : Value} (hl : VRel κ l l') (hc : VRel κ c c') (hv : mkA sz bytes zero l c S = some (v, S')) : Runs P W κ w (Instr.makeSlice t l' c') v S' := by
  unfold mkA at hv
  split at hv
  · rename_i k l k' c
    split at hv
    · rename_i hcnd
      obtain ⟨h0, hlc, hb, h63, hzl⟩ := hcnd
      cases hv
      cases hl; cases hc
      obtain ⟨i, hi, hisz⟩ := sizeP_info hsz
      obtain ⟨i', hi', hiby⟩ := bytesP_info hby
      rw [hi] at hi'; cases hi'
      obtain ⟨i', z, hi', hzz, hzr, hzs⟩ := zeroA_rel hz κ
      rw [hi] at hi'; cases hi'
      have hrun := run_make (P := P) w t e i z ht hi hzz k k' l c h0 hlc (by rw [hiby, Int.mul_comm]; exact hb) h63
      have hzlen : z.cells.size = sz := by have := hzr.1; simp at this; omega
      have hmsz : (madeCells z.cells (c.toNat * i.size)).size = c.toNat * sz := by rw [size_madeCells, hisz]
      have hsc : ∀ (j : Nat) y, (madeCells z.cells (c.toNat * i.size))[j]? = some y → scalar y ∧ z.cells[j % sz]? = some y := by
        intro j y hy
        have hj : j < c.toNat * sz := by rw [← hmsz]; exact (Array.getElem?_eq_some_iff.1 hy).1
        have hsz0 : 0 < sz := by
          rcases Nat.eq_zero_or_pos sz with h | h
          · rw [h] at hj; simp at hj
          · exact h
        have hm : j % sz < z.cells.size := by rw [hzlen]; exact Nat.mod_lt _ hsz0
        simp only [madeCells, Array.getElem?_map, Array.getElem?_range, Option.map_eq_some_iff] at hy
        obtain ⟨q, hq, hy⟩ := hy
        split at hq
        · cases hq
          rw [hzlen, getElem!_pos z.cells (j % sz) hm] at hy
          exact ⟨hzs y (by rw [← hy]; simp), by rw [← hy]; simp [hm]⟩
        · simp at hq
      have hrepl : ∀ (j : Nat) x, (List.replicate l.toNat zero).flatten[j]? = some x → zero[j % sz]? = some x := by
        generalize l.toNat = n
        induction n with
        | zero => intro j x hx; simp at hx
        | succ n ih =>
          intro j x hx
          rw [List.replicate_succ, List.flatten_cons, List.getElem?_append, hzl] at hx
          split at hx
          · rename_i hj; rw [Nat.mod_eq_of_lt hj]; exact hx
          · rename_i hj
            have := ih (j - sz) x hx
            rw [Nat.mod_eq_sub_mod (by omega)]; exact this
      have hflen : (List.replicate l.toNat zero).flatten.length = l.toNat * sz := by simp [hzl]
      have hle : l.toNat * sz ≤ c.toNat * sz := Nat.mul_le_mul_right _ (by omega)
      refine ⟨_, _, κ.add ⟨w.heap.size, 0, (madeCells z.cells (c.toNat * i.size)).size, 0⟩, hrun, ?_, ?_, Kap.le_add _ _⟩
      · refine .sl _ _ _ _ _ ⟨w.heap.size, 0, (madeCells z.cells (c.toNat * i.size)).size, 0⟩ _ _ ?_ (Nat.le_refl _) (by omega) (fun _ => ⟨by rw [hmsz]; simp, .inr rfl⟩)
        show (κ.blocks ++ [_])[S.length]? = _
        rw [← h.len]; simp
      · refine h.alloc _ e _ (by rw [hflen, hmsz]; exact hle) ?_ ?_
        · intro j x y hx hy
          exact hzr.2 (j % sz) x y (hrepl j x hx) (by simpa using (hsc j y hy).2)
        · intro j y _ hy
          exact (hsc j y hy).1
    · simp at hv
  · simp at hv

theorem mkM_ok (h : Rel W κ S w) {t e : TypeId} {sz bytes : Nat} {zero : List AVal} (ht : P.underlying t = some (.slice e)) (hsz : sizeP P e = some sz) (hby : bytesP P e = some bytes) (hz : zeroA P e = some zero)
    {l c v : AVal} {S' : St} {l' c' : Value} (hl : VRel κ l l') (hc : VRel κ c c') (hv : mkM sz bytes zero l c S = some (v, S')) : Runs P W κ w (Instr.makeSlice t l' c') v S' := by
  unfold mkM at hv
  split at hv
  · rename_i k l k' c
    split at hv
    · rename_i hcnd
      obtain ⟨h0, hlc, hb, h63, hzl⟩ := hcnd
      cases hv
      cases hl; cases hc
      obtain ⟨i, hi, hisz⟩ := sizeP_info hsz
      obtain ⟨i', hi', hiby⟩ := bytesP_info hby
      rw [hi] at hi'; cases hi'
      obtain ⟨i', z, hi', hzz, hzr, hzs⟩ := zeroA_rel hz κ
      rw [hi] at hi'; cases hi'
      have hrun := run_make (P := P) w t e i z ht hi hzz k k' l c h0 hlc (by rw [hiby, Int.mul_comm]; exact hb) h63
      have hzlen : z.cells.size = sz := by have := hzr.1; simp at this; omega
      have hmsz : (madeCells z.cells (c.toNat * i.size)).size = c.toNat * sz := by rw [size_madeCells, hisz]
      have hsc : ∀ (j : Nat) y, (madeCells z.cells (c.toNat * i.size))[j]? = some y → scalar y ∧ z.cells[j % sz]? = some y := by
        intro j y hy
        have hj : j < c.toNat * sz := by rw [← hmsz]; exact (Array.getElem?_eq_some_iff.1 hy).1
        have hsz0 : 0 < sz := by
          rcases Nat.eq_zero_or_pos sz with h | h
          · rw [h] at hj; simp at hj
          · exact h
        have hm : j % sz < z.cells.size := by rw [hzlen]; exact Nat.mod_lt _ hsz0
        simp only [madeCells, Array.getElem?_map, Array.getElem?_range, Option.map_eq_some_iff] at hy
        obtain ⟨q, hq, hy⟩ := hy
        split at hq
        · cases hq
          rw [hzlen, getElem!_pos z.cells (j % sz) hm] at hy
          exact ⟨hzs y (by rw [← hy]; simp), by rw [← hy]; simp [hm]⟩
        · simp at hq
      have hrepl : ∀ (j : Nat) x, (List.replicate c.toNat zero).flatten[j]? = some x → zero[j % sz]? = some x := by
        generalize c.toNat = n
        induction n with
        | zero => intro j x hx; simp at hx
        | succ n ih =>
          intro j x hx
          rw [List.replicate_succ, List.flatten_cons, List.getElem?_append, hzl] at hx
          split at hx
          · rename_i hj; rw [Nat.mod_eq_of_lt hj]; exact hx
          · rename_i hj
            have := ih (j - sz) x hx
            rw [Nat.mod_eq_sub_mod (by omega)]; exact this
      have hflen : (List.replicate c.toNat zero).flatten.length = c.toNat * sz := by simp [hzl]
      have hle : l.toNat * sz ≤ c.toNat * sz := Nat.mul_le_mul_right _ (by omega)
      refine ⟨_, _, κ.add ⟨w.heap.size, 0, (madeCells z.cells (c.toNat * i.size)).size, 0⟩, hrun, ?_, ?_, Kap.le_add _ _⟩
      · refine .slm _ _ _ _ _ _ ⟨w.heap.size, 0, (madeCells z.cells (c.toNat * i.size)).size, 0⟩ _ _ ?_ (Nat.le_refl _) (by omega) (Nat.le_refl _) (fun _ => ⟨by rw [hmsz]; simp, .inr rfl⟩)
        show (κ.blocks ++ [_])[S.length]? = _
        rw [← h.len]; simp
      · refine h.alloc _ e _ (by rw [hflen, hmsz]; exact Nat.le_refl _) ?_ ?_
        · intro j x y hx hy
          exact hzr.2 (j % sz) x y (hrepl j x hx) (by simpa using (hsc j y hy).2)
        · intro j y _ hy
          exact (hsc j y hy).1
    · simp at hv
  · simp at hv

theorem cellsOf_ok (h : Rel W κ S w) {sz : Nat} {y : AVal} {y' : Value} (hy : VRel κ y y') {n : Nat} {cs : List AVal} (hc : cellsOf sz y S = some (n, cs)) :
    (Builtin.lenOf y').run P w = .ok n w ∧ cs.length = n * sz ∧
    ∀ m, m ≤ n → ∃ arr : List Value, (Builtin.firstCells sz m y').run P w = .ok arr.toArray w ∧ VRelL κ (cs.take (m * sz)) arr ∧ (∀ z ∈ arr, scalar z) := by
  unfold cellsOf at hc
  split at hc
  · cases hc; cases hy
    refine ⟨by simp [Builtin.lenOf], by simp, fun m hm => ⟨[], by simp [Builtin.firstCells], ?_, by simp⟩⟩
    simp; exact .nil κ
  · rename_i full len cells
    split at hc
    · rename_i hlen
      cases hc
      have hfq := hy
      cases hy with
      | fz _ _ _ a c ys g1 g2 g3 g4 g5 g6 g7 =>
        obtain ⟨a', ys', he, k1, k2, k3⟩ := avail_of h (fz_fq hfq) (S := S) (cs := cs) rfl
        cases he
        refine ⟨by simp [Builtin.lenOf], hlen, fun m hm => ⟨ys'.take (m * sz), ?_, k1.take _, fun z hz => k2 z (List.mem_of_mem_take hz)⟩⟩
        simp only [Builtin.firstCells]
        have : m * sz ≤ n * sz := Nat.mul_le_mul_right _ hm
        exact run_loadCells P w _ _ _ (by simp; have := k1.1; omega) (k3.take _)
    · simp at hc
  · rename_i r u off len sz'
    split at hc
    · rename_i v' cells hS
      split at hc
      · rename_i hcnd
        obtain ⟨rfl, rfl, hle⟩ := hcnd
        cases hc
        cases hy with
        | sl _ _ _ _ _ inf a c hr hver hlc hext =>
          obtain ⟨ys, k1, k2, k3⟩ := h.cells hS hr
          have hvv : v' = inf.ver := ((h.own r v' cells inf hS hr).1).symm
          refine ⟨by simp [Builtin.lenOf], by simp; omega, fun m hm => ?_⟩
          have hmm : m * sz' ≤ n * sz' := Nat.mul_le_mul_right _ hm
          refine ⟨((ys.drop off).take (n * sz')).take (m * sz'), ?_, ((k1.drop off).take _).take _, fun z hz => k2 z (List.mem_of_mem_drop (List.mem_of_mem_take (List.mem_of_mem_take hz)))⟩
          simp only [Builtin.firstCells]
          have hlen := k1.1
          refine run_loadCells P w _ _ _ (by simp; omega) ?_
          by_cases hm0 : m * sz' = 0
          · rw [hm0]; intro j y hy; simp only [List.take_zero, List.getElem?_nil, reduceCtorEq] at hy
          · have hc0 : c ≠ 0 := by intro h0; subst h0; have : n = 0 := by omega
                                   subst this; rw [Nat.zero_mul] at hmm; omega
            rcases (hext hvv).2 with h0 | h0
            · exact absurd h0 hc0
            · rw [h0, ← add_plain]
              exact ((k3.drop off).take _).take _
      · simp at hc
    · simp at hc
  · rename_i s
    split at hc
    · rename_i h1; subst h1
      cases hc
      cases hy with
      | str _ b hb =>
        subst hb
        refine ⟨by simp only [Builtin.lenOf, Sem.run_pure]; rw [size_eq], by simp, fun m hm => ⟨(b.data.toList.take m).map fun b => .int .u8 b.toNat, ?_, ?_, ?_⟩⟩
        · simp only [Builtin.firstCells, Sem.run_pure]
          congr 1
          apply Array.ext'
          simp [ByteArray.data_extract, List.extract_eq_take_drop]
        · rw [← List.map_take, Nat.mul_one]
          refine ⟨by simp, fun j x y hx hy => ?_⟩
          simp only [List.getElem?_map, Option.map_eq_some_iff] at hx hy
          obtain ⟨p, hp, rfl⟩ := hx
          obtain ⟨q, hq, rfl⟩ := hy
          rw [hp] at hq; cases hq
          exact .int _ _
        · intro z hz
          obtain ⟨p, _, rfl⟩ := List.mem_map.1 hz
          trivial
    · simp at hc
  · simp at hc
end Am
end

/- Each operation of the machine stands for the model's: append, copy, texts, aggregates. -/
section
namespace Am
open Go Go.RowKit
variable {P : Program} {W : World} {κ : Kap} {S : St} {w : World}
theorem run_append_room {ts tx ty e : TypeId} {sz : Nat} {d : TypeDesc} (ht : P.underlying ts = some (.slice e)) (hx : P.underlying tx = some d) (hd : notInt d = true) (hsz : sizeP P e = some sz)
    {a : Addr} {sLen sCap n : Nat} {x' : Value} {arr : List Value} (hlen : (Builtin.lenOf x').run P w = .ok n w) (hfc : (Builtin.firstCells sz n x').run P w = .ok arr.toArray w)
    (hroom : sLen + n ≤ sCap) {w' : World} (hst : (Go.storeCells (a.add (sLen * sz)) arr).run P w = .ok () w') :
    (Builtin.append_ #[ts, tx] ty #[.slice (some a) sLen sCap, x']).run P w = .ok (.slice (some a) (sLen + n) sCap) w' := by
  unfold Builtin.append_
  simp only [List.getElem?_toArray, List.getElem?_cons_zero, List.getElem?_cons_succ, Sem.run_bind, run_und ht, Result.andThen_ok, run_size hsz, run_und hx]
  split
  · simp [notInt] at hd
  · simp only [Sem.run_pure, Result.andThen_ok, Bool.false_eq_true, if_false, Sem.run_bind, hlen, Bool.not_false, if_true, hroom, hfc, hst]
theorem run_append_nil0 {ts tx ty e : TypeId} {sz : Nat} {d : TypeDesc} (ht : P.underlying ts = some (.slice e)) (hx : P.underlying tx = some d) (hd : notInt d = true) (hsz : sizeP P e = some sz)
    {x' : Value} {arr : List Value} (hlen : (Builtin.lenOf x').run P w = .ok 0 w) (hfc : (Builtin.firstCells sz 0 x').run P w = .ok arr.toArray w) :
    (Builtin.append_ #[ts, tx] ty #[.slice none 0 0, x']).run P w = .ok (.slice none 0 0) w := by
  unfold Builtin.append_
  simp only [List.getElem?_toArray, List.getElem?_cons_zero, List.getElem?_cons_succ, Sem.run_bind, run_und ht, Result.andThen_ok, run_size hsz, run_und hx]
  split
  · simp [notInt] at hd
  · simp only [Sem.run_pure, Result.andThen_ok, Bool.false_eq_true, if_false, Sem.run_bind, hlen, Bool.not_false, if_true, hfc, Nat.add_zero, Nat.le_refl]

theorem run_append_grow {ts tx ty e : TypeId} {sz bytes : Nat} {d : TypeDesc} {z : Value} (ht : P.underlying ts = some (.slice e)) (hx : P.underlying tx = some d) (hd : notInt d = true) (hsz : sizeP P e = some sz)
    (hby : bytesP P e = some bytes) (hz : ∃ i, P.info? e = some i ∧ i.zero = some z)
    {base : Option Addr} {sLen sCap n : Nat} {x' : Value} {old arr : List Value} (hlen : (Builtin.lenOf x').run P w = .ok n w) (hfc : ∀ w1, w1 = w.drew → (Builtin.firstCells sz n x').run P w1 = .ok arr.toArray w1)
    (hold : ∀ w1, w1 = w.drew → (Builtin.firstCells sz sLen (.slice base sLen sCap)).run P w1 = .ok old.toArray w1)
    (hroom : sCap < sLen + n) (hb : (sLen + n) * bytes ≤ 140737488355328) (hb0 : bytes ≠ 0) :
    ∃ cap, sLen + n ≤ cap ∧ (Builtin.append_ #[ts, tx] ty #[.slice base sLen sCap, x']).run P w =
      .ok (.slice (some ⟨w.heap.size, 0, none⟩) (sLen + n) cap) (w.drew.alloc (.cells (old.toArray ++ arr.toArray ++ Builtin.zeroCells z.cells (cap - (sLen + n))) e)) := by
  obtain ⟨i, hi, hzz⟩ := hz
  obtain ⟨i', hi', hby'⟩ := bytesP_info hby
  rw [hi] at hi'; cases hi'
  obtain ⟨i', hi', hsz'⟩ := sizeP_info hsz
  rw [hi] at hi'; cases hi'
  have h1 : ¬ (sLen + n ≤ sCap) := by omega
  have hgf := growslice_fits (old := sCap) (need := sLen + n) (bytes := bytes) hroom hb
  have h2 : ¬ (Builtin.nextslicecap (sLen + n) sCap * i.bytes > 2 ^ 48) := by rw [hby']; omega
  have h3 : ¬ (i.bytes = 0) := by rw [hby']; exact hb0
  refine ⟨(Question.appendCap (sLen + n) sCap e).cut (w.tape w.drawn (Question.appendCap (sLen + n) sCap e)), by simp [Question.cut], ?_⟩
  have hf := hfc w.drew rfl
  have ho := hold w.drew rfl
  have hq : (Question.appendCap (sLen + n) sCap e).forced = false := rfl
  have hti : ∀ w1, (typeInfo e).run P w1 = .ok i w1 := fun w1 => by simp [typeInfo, hi]
  unfold Builtin.append_
  simp only [List.getElem?_toArray, List.getElem?_cons_zero, List.getElem?_cons_succ, Sem.run_bind, run_und ht, Result.andThen_ok, run_size hsz, run_und hx]
  split
  · simp [notInt] at hd
  · simp only [Sem.run_pure, Result.andThen_ok, Bool.false_eq_true, if_false, Sem.run_bind, hlen, Bool.not_false, if_true, h1, hti, h2, h3, false_or, and_false, run_choose, hq, World.drew_eq, run_askRoom, ho, hf, run_zero hi hzz, newRow, run_newObj, World.alloc_eq, Sem.run_pure, World.size_drew]

theorem lit_cells {cs : List AVal} {a b z : List Value} {arr : Array Value} (harr : arr.toList = a ++ b ++ z) (hl : VRelL κ cs (a ++ b)) (hsc : ∀ y ∈ a ++ b, scalar y) :
    cs.length ≤ arr.size ∧ (∀ (j : Nat) x y, cs[j]? = some x → arr[j]? = some y → VRel κ x y) ∧ (∀ (j : Nat) y, j < cs.length → arr[j]? = some y → scalar y) := by
  have hsz : arr.size = (a ++ b ++ z).length := by rw [← harr]; simp
  have hlen := hl.1
  have key : ∀ (j : Nat) y, j < cs.length → arr[j]? = some y → (a ++ b)[j]? = some y := by
    intro j y hj hy
    have : arr.toList[j]? = some y := by simpa using hy
    rw [harr, List.getElem?_append_left (by omega)] at this
    exact this
  refine ⟨by rw [hsz, List.length_append]; omega, fun j x y hx hy => ?_, fun j y hj hy => hsc y (List.mem_of_getElem? (key j y hj hy))⟩
  exact hl.2 j x y hx (key j y (List.getElem?_eq_some_iff.1 hx).1 hy)

theorem zeroCells_size (z : Array Value) (n : Nat) : (Builtin.zeroCells z n).size = n * z.size := by simp [Builtin.zeroCells]

/-- What adding some cells comes to. -/
structure AppRun (P : Program) (w : World) (ts tx ty e : TypeId) (sz bytes : Nat) (z : Value) (x' : Value) (n : Nat) (arr arrd : List Value) : Prop where
  room : ∀ {a : Addr} {sLen sCap : Nat} {w' : World}, sLen + n ≤ sCap → (Go.storeCells (a.add (sLen * sz)) arr).run P w = .ok () w' →
    (Builtin.append_ #[ts, tx] ty #[.slice (some a) sLen sCap, x']).run P w = .ok (.slice (some a) (sLen + n) sCap) w'
  nil0 : n = 0 → (Builtin.append_ #[ts, tx] ty #[.slice none 0 0, x']).run P w = .ok (.slice none 0 0) w
  grow : ∀ {base : Option Addr} {sLen sCap : Nat} {old : List Value}, (∀ w1, w1 = w.drew → (Builtin.firstCells sz sLen (.slice base sLen sCap)).run P w1 = .ok old.toArray w1) →
    sCap < sLen + n → (sLen + n) * bytes ≤ 140737488355328 →
    ∃ cap, sLen + n ≤ cap ∧ (Builtin.append_ #[ts, tx] ty #[.slice base sLen sCap, x']).run P w =
      .ok (.slice (some ⟨w.heap.size, 0, none⟩) (sLen + n) cap) (w.drew.alloc (.cells (old.toArray ++ arrd.toArray ++ Builtin.zeroCells z.cells (cap - (sLen + n))) e))

theorem append_core (h : Rel W κ S w) {ts tx ty e : TypeId} {sz bytes : Nat} {z : Value} (hzsz : z.cells.size = sz)
    {x v : AVal} {x' y' : Value} {S' : St} {n : Nat} {new : List AVal} {arr arrd : List Value} (A : AppRun P w ts tx ty e sz bytes z y' n arr arrd) (hnl : new.length = n * sz)
    (hf2 : VRelL κ new arr) (hf3 : ∀ q ∈ arr, scalar q) (hd2 : VRelL κ new arrd) (hd3 : ∀ q ∈ arrd, scalar q) (hxr : VRel κ x x') (hv : appendC sz bytes x n new S = some (v, S')) :
    Runs P W κ w (Builtin.append_ #[ts, tx] ty #[x', y']) v S' := by
  unfold appendC at hv
  · have hn0 : n = 0 → arr = [] := by intro h0; subst h0; have := hf2.1; rw [hnl] at this; simp at this; exact List.eq_nil_of_length_eq_zero this.symm
    split at hv
    · -- nil
      cases hxr
      split at hv
      · rename_i h0; cases hv
        subst h0
        exact .pure h (A.nil0 rfl) .nils
      · rename_i h0
        split at hv
        · rename_i hbb
          cases hv
          obtain ⟨cap, hcap, hrun⟩ := A.grow (old := []) (base := none) (sLen := 0) (sCap := 0)
            (fun w1 _ => by simp [Builtin.firstCells]) (by omega) (by simpa using hbb)
          simp only [Nat.zero_add] at hrun hcap
          obtain ⟨k1, k2, k3⟩ := lit_cells (κ := κ) (cs := new) (a := []) (b := arrd) (z := (Builtin.zeroCells z.cells (cap - n)).toList)
            (arr := ([] : List Value).toArray ++ arrd.toArray ++ Builtin.zeroCells z.cells (cap - n)) (by simp) (by simpa using hd2) (by simpa using hd3)
          refine ⟨_, _, _, hrun, ?_, h.drew.alloc _ e new k1 k2 k3, Kap.le_add _ _⟩
          refine .sl _ _ _ _ _ ⟨w.heap.size, 0, (([] : List Value).toArray ++ arrd.toArray ++ Builtin.zeroCells z.cells (cap - n)).size, 0⟩ _ _ ?_ (Nat.le_refl _) hcap (fun _ => ⟨?_, .inr rfl⟩)
          · show (κ.blocks ++ [_])[S.length]? = _
            rw [← h.len]; simp
          · have : arrd.length = n * sz := by rw [← hnl]; exact hd2.1.symm
            simp [zeroCells_size, hzsz, this]
            rw [← Nat.add_mul]; exact Nat.mul_le_mul_right _ (by omega)
        · simp at hv
    · -- frozen
      rename_i full len cells
      split at hv
      · rename_i h0; cases hv
        subst h0
        have hx2 := hxr
        cases hxr with
        | fz _ _ _ a c ys g1 g2 g3 g4 g5 g6 g7 =>
          have := A.room (a := a) (sLen := len) (sCap := c) (by omega) (w' := w) (by rw [hn0 rfl]; simp [Go.storeCells])
          exact .pure h this hx2
      · rename_i h0
        split at hv
        · rename_i hcnd
          obtain ⟨hfull, hcl, hbb⟩ := hcnd
          cases hv
          obtain ⟨_, hol, hofc⟩ := cellsOf_ok (P := P) h.drew hxr (sz := sz) (n := len) (cs := cells) (by simp [cellsOf, hcl])
          obtain ⟨old, o1, o2, o3⟩ := hofc len (Nat.le_refl _)
          rw [List.take_of_length_le (by omega)] at o2
          cases hxr with
          | fz _ _ _ a c ys g1 g2 g3 g4 g5 g6 g7 =>
            have hcc := g2 hfull
            subst hcc
            obtain ⟨cap, hcap, hrun⟩ := A.grow (old := old) (base := some a) (sLen := c) (sCap := c)
              (fun w1 h1 => by rw [h1]; exact o1) (by omega) hbb
            obtain ⟨k1, k2, k3⟩ := lit_cells (κ := κ) (cs := cells ++ new) (a := old) (b := arrd) (z := (Builtin.zeroCells z.cells (cap - (c + n))).toList)
              (arr := old.toArray ++ arrd.toArray ++ Builtin.zeroCells z.cells (cap - (c + n))) (by simp) (o2.append hd2) (by intro q hq; rcases List.mem_append.1 hq with hq | hq; exact o3 q hq; exact hd3 q hq)
            refine ⟨_, _, _, hrun, ?_, h.drew.alloc _ e (cells ++ new) k1 k2 k3, Kap.le_add _ _⟩
            refine .sl _ _ _ _ _ ⟨w.heap.size, 0, (old.toArray ++ arrd.toArray ++ Builtin.zeroCells z.cells (cap - (c + n))).size, 0⟩ _ _ ?_ (Nat.le_refl _) hcap (fun _ => ⟨?_, .inr rfl⟩)
            · show (κ.blocks ++ [_])[S.length]? = _
              rw [← h.len]; simp
            · have ha : arrd.length = n * sz := by rw [← hnl]; exact hd2.1.symm
              have hb : old.length = c * sz := by rw [← hol]; exact o2.1.symm
              simp [zeroCells_size, hzsz, ha, hb]
              rw [← Nat.add_mul, ← Nat.add_mul]; exact Nat.mul_le_mul_right _ (by omega)
        · simp at hv
    · -- owned
      rename_i r u off len sz'
      split at hv
      · rename_i v' cs hS
        split at hv
        · rename_i hcnd
          obtain ⟨rfl, rfl, hle, hbb⟩ := hcnd
          cases hv
          have hxr2 := hxr
          cases hxr with
          | sl _ _ _ _ _ inf a c hr hver hlc hext =>
            have hvv : v' = inf.ver := ((h.own r v' cs inf hS hr).1).symm
            obtain ⟨e1, e2, e3, barr, be, bfr, e4, e5, e6, e7, e8⟩ := h.own r v' cs inf hS hr
            have hol : ((cs.drop off).take (len * sz')).length = len * sz' := by simp; omega
            have hlt : r < κ.blocks.length := (List.getElem?_eq_some_iff.1 hr).1
            by_cases hroom : len + n ≤ c
            · -- in place
              have hextc := (hext hvv).1
              have hmul : (len + n) * sz' ≤ c * sz' := Nat.mul_le_mul_right _ hroom
              rw [Nat.add_mul] at hmul
              have harrl : arr.length = n * sz' := by rw [← hnl]; exact hf2.1.symm
              have hst : ∃ w' arr', (Go.storeCells (a.add (len * sz')) arr).run P w = .ok () w' ∧ w'.heap[inf.blk]? = some (.cells arr' be bfr) ∧ arr'.size = barr.size ∧
                  (∀ k, arr'[k]? = if inf.base + off + len * sz' ≤ k ∧ k < inf.base + off + len * sz' + arr.length then arr[k - (inf.base + off + len * sz')]? else barr[k]?) ∧
                  (∀ b, b ≠ inf.blk → w'.heap[b]? = w.heap[b]?) ∧ w'.heap.size = w.heap.size ∧ w'.os = w.os ∧ w'.tape = w.tape ∧ w'.output = w.output := by
                by_cases hn : arr = []
                · subst hn
                  exact ⟨w, barr, by simp [Go.storeCells], e4, rfl, fun k => by rw [if_neg (by simp)], fun _ _ => rfl, rfl, rfl, rfl, rfl⟩
                · have hc0 : c ≠ 0 := by
                    intro h0; subst h0
                    have : n = 0 := by omega
                    exact hn (hn0 this)
                  have haddr : a.add (len * sz') = ⟨inf.blk, inf.base + off + len * sz', none⟩ := by
                    rcases (hext hvv).2 with h0 | h0
                    · exact absurd h0 hc0
                    · rw [h0, add_plain]
                  rw [haddr]
                  obtain ⟨w', arr', h1, h2, h3, h4, h5, h6, h7, h8, h9, h10⟩ := run_storeCells P arr ⟨inf.blk, inf.base + off + len * sz', none⟩ 0 w barr rfl (fun _ => .inl rfl) e4
                    (by simp; omega) (fun k hk => by simp; omega) hf3
                  exact ⟨w', arr', h1, h2, h3, fun k => by have := h4 k; simpa using this, h5, h6, h7, h8, h9⟩
              obtain ⟨w', arr', h1, h2, h3, h4, h5, h6, h7, h8, h9⟩ := hst
              have hrun := A.room (a := a) (sLen := len) (sCap := c) hroom h1
              have hw := Rel.write h (j := ⟨inf.blk, inf.base + off, c * sz', v' + 1⟩) (new := (cs.drop off).take (len * sz') ++ new) hS hr (v' + 1) (.inr ⟨by simp; omega, rfl⟩) rfl h2
                (by simp; omega) (by simp only [List.length_append, hol, hnl]; omega) (by rw [h3]; exact e6) ?_ ?_ h5 h6 h7 h8 h9
              · refine ⟨_, w', _, hrun, ?_, hw.1, hw.2⟩
                refine .sl _ _ _ _ _ ⟨inf.blk, inf.base + off, c * sz', v' + 1⟩ _ _ ?_ (Nat.le_refl _) hroom (fun _ => ⟨by simp, ?_⟩)
                · show (κ.blocks.set r _)[r]? = _
                  simp [hlt]
                · rcases (hext hvv).2 with h0 | h0
                  · exact .inl h0
                  · exact .inr (by simp [h0])
              · intro k p q hp hq
                simp only at hq
                rw [h4] at hq
                rw [List.getElem?_append, hol] at hp
                by_cases hk : k < len * sz'
                · rw [if_pos hk, List.getElem?_take, if_pos hk, List.getElem?_drop] at hp
                  rw [if_neg (by omega)] at hq
                  exact e7 (off + k) p q hp (by rw [← Nat.add_assoc]; exact hq)
                · rw [if_neg hk] at hp
                  have hkl : k - len * sz' < new.length := (List.getElem?_eq_some_iff.1 hp).1
                  rw [if_pos (by omega)] at hq
                  exact hf2.2 (k - len * sz') p q hp (by rw [← hq]; congr 1; omega)
              · intro k q hk hq
                simp only at hq
                rw [h4] at hq
                split at hq
                · exact hf3 q (List.mem_of_getElem? hq)
                · rename_i hne
                  simp only [List.length_append, hol, hnl] at hk
                  exact e8 (off + k) q (by omega) (by rw [← Nat.add_assoc]; exact hq)
            · -- it grows
              obtain ⟨_, _, hofc⟩ := cellsOf_ok (P := P) h.drew hxr2 (sz := sz') (n := len) (cs := (cs.drop off).take (len * sz')) (by simp [cellsOf, hS, hle])
              obtain ⟨old, o1, o2, o3⟩ := hofc len (Nat.le_refl _)
              rw [List.take_of_length_le (by omega)] at o2
              obtain ⟨cap, hcap, hrun⟩ := A.grow (old := old) (base := some a) (sLen := len) (sCap := c)
                (fun w1 h1 => by rw [h1]; exact o1) (by omega) hbb
              obtain ⟨k1, k2, k3⟩ := lit_cells (κ := κ) (cs := (cs.drop off).take (len * sz') ++ new) (a := old) (b := arrd) (z := (Builtin.zeroCells z.cells (cap - (len + n))).toList)
                (arr := old.toArray ++ arrd.toArray ++ Builtin.zeroCells z.cells (cap - (len + n))) (by simp) (o2.append hd2) (by intro q hq; rcases List.mem_append.1 hq with hq | hq; exact o3 q hq; exact hd3 q hq)
              obtain ⟨m1, m2⟩ := Rel.move h.drew hS hr _ e k1 k2 k3
              refine ⟨_, _, _, hrun, ?_, m1, m2⟩
              refine .sl _ _ _ _ _ ⟨w.heap.size, 0, (old.toArray ++ arrd.toArray ++ Builtin.zeroCells z.cells (cap - (len + n))).size, v' + 1⟩ _ _ ?_ (Nat.le_refl _) hcap (fun _ => ⟨?_, .inr rfl⟩)
              · show (κ.blocks.set r _)[r]? = _
                simp [hlt]
              · have ha : arrd.length = n * sz' := by rw [← hnl]; exact hd2.1.symm
                have hb : old.length = len * sz' := by rw [← hol]; exact o2.1.symm
                simp [zeroCells_size, hzsz, ha, hb]
                rw [← Nat.add_mul, ← Nat.add_mul]; exact Nat.mul_le_mul_right _ (by omega)
        · simp at hv
      · simp at hv
    · simp at hv


theorem append_ok (h : Rel W κ S w) {ts tx ty e : TypeId} {sz bytes : Nat} {d : TypeDesc} {zero : List AVal} (ht : P.underlying ts = some (.slice e)) (hx : P.underlying tx = some d) (hd : notInt d = true)
    (hsz : sizeP P e = some sz) (hby : bytesP P e = some bytes) (hb0 : bytes ≠ 0) (hz : zeroA P e = some zero) (hzl : zero.length = sz)
    {x y v : AVal} {x' y' : Value} {S' : St} (hxr : VRel κ x x') (hyr : VRel κ y y') (hv : appendA sz bytes x y S = some (v, S')) :
    Runs P W κ w (Builtin.append_ #[ts, tx] ty #[x', y']) v S' := by
  rw [appendA_eq] at hv
  split at hv
  · simp at hv
  · rename_i n new hc
    obtain ⟨hlenof, hnl, hfc⟩ := cellsOf_ok (P := P) h hyr hc
    obtain ⟨_, _, hfcd⟩ := cellsOf_ok (P := P) h.drew hyr hc
    obtain ⟨arr, hf1, hf2, hf3⟩ := hfc n (Nat.le_refl _)
    obtain ⟨arrd, hd1, hd2, hd3⟩ := hfcd n (Nat.le_refl _)
    rw [List.take_of_length_le (by omega)] at hf2 hd2
    obtain ⟨i, z, hi, hzz, hzr, hzs⟩ := zeroA_rel hz κ
    have hzsz : z.cells.size = sz := by have := hzr.1; simp at this; omega
    exact append_core h hzsz (arr := arr) (arrd := arrd) ⟨fun hr hs => run_append_room ht hx hd hsz hlenof hf1 hr hs, fun h0 => by subst h0; exact run_append_nil0 ht hx hd hsz hlenof hf1,
      fun ho hr hb => run_append_grow ht hx hd hsz hby ⟨i, hi, hzz⟩ hlenof (fun w1 h1 => by rw [h1]; exact hd1) ho hr hb hb0⟩ hnl hf2 hf3 hd2 hd3 hxr hv

theorem appR_ok (h : Rel W κ S w) {ts tx ty e : TypeId} {sz : Nat} {d : TypeDesc} (ht : P.underlying ts = some (.slice e)) (hx : P.underlying tx = some d) (hd : notInt d = true)
    (hsz : sizeP P e = some sz) {x y v : AVal} {x' y' : Value} {S' : St} (hxr : VRel κ x x') (hyr : VRel κ y y') {n : Nat} {new : List AVal} (hc : cellsOf sz y S = some (n, new)) (hv : appendR x sz n new S = some (v, S')) :
    Runs P W κ w (Builtin.append_ #[ts, tx] ty #[x', y']) v S' := by
  obtain ⟨hlenof, hnl, hfc⟩ := cellsOf_ok (P := P) h hyr hc
  obtain ⟨arr, hf1, hf2, hf3⟩ := hfc n (Nat.le_refl _)
  rw [List.take_of_length_le (by omega)] at hf2
  unfold appendR at hv
  split at hv
  rotate_left
  · simp at hv
  rename_i r u off len mc sz'
  split at hv
  rotate_left
  · simp at hv
  rename_i v' cs hS
  split at hv
  rotate_left
  · simp at hv
  rename_i hcnd
  obtain ⟨rfl, rfl, hmc, hle⟩ := hcnd
  cases hv
  cases hxr with
  | slm _ _ _ _ _ _ inf a c hr hver hlm hmcc hext =>
    have hvv : v' = inf.ver := ((h.own r v' cs inf hS hr).1).symm
    rw [Nat.add_mul] at hle
    obtain ⟨w', h1, h2⟩ := Rel.storeCells (P := P) h (off := off + len * sz') hS hr hf2 hf3 (by omega) (a := a.add (len * sz')) (fun hne => by
      have hn : n ≠ 0 := by
        intro h0; subst h0
        exact hne (List.length_eq_zero_iff.1 (by simpa using hnl))
      rcases (hext hvv).2 with h0 | h0
      · omega
      · rw [h0, add_plain, Nat.add_assoc])
    have hrun := run_append_room (P := P) (w := w) (ty := ty) (a := a) (sLen := len) (sCap := c) ht hx hd hsz hlenof hf1 (by omega) h1
    exact ⟨_, w', κ, hrun, .slm _ _ _ _ _ _ inf a c hr hver (by omega) hmcc hext, h2, Kap.le_refl κ⟩
end Am
end

/- Each operation of the machine stands for the model's: copy, texts, aggregates, comparison of aggregates. -/
section
namespace Am
open Go Go.RowKit

variable {P : Program} {W : World} {κ : Kap} {S : St} {w : World}

theorem copy_ok (h : Rel W κ S w) {ts ty e : TypeId} {rest : List TypeId} {sz : Nat} (ht : P.underlying ts = some (.slice e)) (hsz : sizeP P e = some sz)
    {x y v : AVal} {x' y' : Value} {S' : St} (hxr : VRel κ x x') (hyr : VRel κ y y') (hv : copyA sz x y S = some (v, S')) :
    Runs P W κ w (Builtin.copy_ (ts :: rest).toArray ty #[x', y']) v S' := by
  unfold copyA at hv
  split at hv
  · simp at hv
  · rename_i n new hc
    obtain ⟨hlenof, hnl, hfc⟩ := cellsOf_ok (P := P) h hyr hc
    have run : ∀ base dLen dCap arr w', x' = .slice base dLen dCap → (Builtin.firstCells sz (Nat.min n dLen) y').run P w = .ok (List.toArray arr) w →
        (match base with | some a => (Go.storeCells a arr).run P w = .ok () w' | none => w' = w) →
        (Builtin.copy_ (ts :: rest).toArray ty #[x', y']).run P w = .ok (.int .i64 (Nat.min n dLen : Nat)) w' := by
      rintro base dLen dCap arr w' rfl hf hst
      unfold Builtin.copy_
      simp only [List.getElem?_toArray, List.getElem?_cons_zero, List.getElem?_cons_succ, Sem.run_bind, run_und ht, Result.andThen_ok, hlenof, run_size hsz, hf]
      cases base with
      | none => subst hst; simp [goInt]
      | some a => simp only [Sem.run_bind, hst, Result.andThen_ok, Sem.run_pure, goInt]
    split at hv
    · cases hv
      cases hxr
      obtain ⟨arr, f1, f2, f3⟩ := hfc 0 (Nat.zero_le _)
      have := run none 0 0 arr w rfl (by simpa using f1) rfl
      exact .pure h (v' := .int .i64 0) (by simpa using this) (.int _ _)
    · rename_i r u off len sz'
      split at hv
      · rename_i v' cs hS
        split at hv
        · rename_i hcnd
          obtain ⟨rfl, rfl, hle⟩ := hcnd
          cases hv
          cases hxr with
          | sl _ _ _ _ _ inf a c hr hver hlc hext =>
            have hvv : v' = inf.ver := ((h.own r v' cs inf hS hr).1).symm
            obtain ⟨arr, f1, f2, f3⟩ := hfc (min n len) (Nat.min_le_left _ _)
            have hmn : min n len * sz' ≤ n * sz' := Nat.mul_le_mul_right _ (Nat.min_le_left _ _)
            have hml : min n len * sz' ≤ len * sz' := Nat.mul_le_mul_right _ (Nat.min_le_right _ _)
            have hlen : (new.take (min n len * sz')).length = min n len * sz' := by simp; omega
            obtain ⟨w', s1, s2⟩ := Rel.storeCells (P := P) h hS hr (off := off) f2 f3 (by omega) (a := a) (fun hne => by
              rcases (hext hvv).2 with h0 | h0
              · exfalso; apply hne; apply List.eq_nil_of_length_eq_zero; rw [hlen]; subst h0
                have : len = 0 := by omega
                subst this; simp
              · exact h0)
            exact ⟨_, w', κ, run (some a) len c arr w' rfl f1 s1, .int _ _, s2, Kap.le_refl κ⟩
        · simp at hv
      · simp at hv
    · simp at hv

theorem asBytes_ok : ∀ {cs : List AVal} {ys : List Value} {s : List UInt8}, VRelL κ cs ys → asBytes cs = some s →
    ∃ ns : List Int, ys = ns.map (Value.int .u8) ∧ s = ns.map (fun n => UInt8.ofNat n.toNat) := by
  intro cs
  induction cs with
  | nil => intro ys s h hs; simp [asBytes] at hs; subst hs; exact ⟨[], by rw [h.unnil]; rfl, rfl⟩
  | cons c cs ih =>
    intro ys s h hs
    obtain ⟨y, ys', rfl, hy, hys⟩ := h.uncons
    simp only [asBytes] at hs
    split at hs
    · rename_i a l ha hl
      cases hs
      obtain ⟨ns, rfl, rfl⟩ := ih hys hl
      unfold asByte at ha
      split at ha
      · cases ha
        cases hy
        exact ⟨_ :: ns, rfl, rfl⟩
      · simp at ha
    · simp at hs

theorem foldl_push (ns : List Int) : ∀ (b : ByteArray), (ns.foldl (fun r n => r.push (UInt8.ofNat n.toNat)) b).data.toList = b.data.toList ++ ns.map (fun n => UInt8.ofNat n.toNat) := by
  induction ns with
  | nil => intro b; simp
  | cons n ns ih =>
    intro b
    simp only [List.foldl_cons, List.map_cons]
    rw [ih]
    simp [ByteArray.push]

theorem convBS_ok (h : Rel W κ S w) {src dst e : TypeId} (hs : P.underlying src = some (.slice e)) (he : P.underlying e = some (.int .u8)) (hd : P.underlying dst = some .string)
    {x : AVal} {x' : Value} (hx : VRel κ x x') {n : Nat} {cs : List AVal} {s : List UInt8} (hc : cellsOf 1 x S = some (n, cs)) (hb : asBytes cs = some s) (hns : ∀ t, x ≠ .str t) :
    Runs P W κ w (convert src dst x') (.str s) S := by
  obtain ⟨h1, h2, h3⟩ := cellsOf_ok (P := P) h hx hc
  obtain ⟨arr, f1, f2, f3⟩ := h3 n (Nat.le_refl _)
  rw [List.take_of_length_le (by omega)] at f2
  obtain ⟨ns, rfl, rfl⟩ := asBytes_ok f2 hb
  have hsl : ∃ a l c, x' = .slice a l c := by
    cases hx <;> simp [cellsOf] at hc
    all_goals first
      | exact ⟨_, _, _, rfl⟩
      | exact absurd rfl (hns _)
  obtain ⟨a, l, c, rfl⟩ := hsl
  have hl : l = n := by simpa [Builtin.lenOf] using h1
  subst hl
  cases a with
  | none =>
    have : ns = [] := by
      simp [Builtin.firstCells] at f1
      simpa using f1.symm
    subst this
    refine .pure h (v' := .string .empty) ?_ (.str _ _ (by simp))
    rw [run_convert_bytes_string w src dst e _ _ _ hs he hd]
    simp [Conv.bytesToString]
  | some a =>
    refine .pure h ?_ (.str _ (ns.foldl (fun r n => r.push (UInt8.ofNat n.toNat)) ByteArray.empty) (by rw [foldl_push]; simp))
    rw [run_convert_bytes_string w src dst e _ _ _ hs he hd]
    refine run_bytesToString w a l c ns ?_
    simpa [Builtin.firstCells] using f1

theorem freeze_end (w : World) (b : Nat) (arr : Array Value) (e : TypeId) (hb : w.heap[b]? = some (.cells arr e (0, 0))) :
    (w.freeze ⟨b, arr.size, none⟩ 1).heap[b]? = some (.cells arr e (arr.size, arr.size + 1)) ∧ (∀ k, k ≠ b → (w.freeze ⟨b, arr.size, none⟩ 1).heap[k]? = w.heap[k]?) ∧
    (w.freeze ⟨b, arr.size, none⟩ 1).heap.size = w.heap.size ∧ (w.freeze ⟨b, arr.size, none⟩ 1).os = w.os ∧ (w.freeze ⟨b, arr.size, none⟩ 1).tape = w.tape ∧ (w.freeze ⟨b, arr.size, none⟩ 1).output = w.output := by
  unfold World.freeze
  refine ⟨?_, fun k hk => ?_, ?_, rfl, rfl, rfl⟩
  · simp [Array.getElem?_modify, hb]
  · simp [Array.getElem?_modify, Ne.symm hk]
  · simp

theorem convSB_ok (h : Rel W κ S w) {src dst e : TypeId} (hs : P.underlying src = some .string) (he : P.underlying e = some (.int .u8)) (hd : P.underlying dst = some (.slice e))
    {s : List UInt8} {x' : Value} (hx : VRel κ (.str s) x') :
    Runs P W κ w (convert src dst x') (.sl S.length 0 0 s.length 1) (S ++ [.live 0 (s.map fun b => .int .u8 b.toNat)]) := by
  cases hx with
  | str _ b hb =>
    subst hb
    generalize hcap : (Question.appendCap b.size 0 e).cut (w.tape w.drawn (Question.appendCap b.size 0 e)) = cap
    have hge : b.size ≤ cap := by rw [← hcap]; simp [Question.cut]
    generalize harr : (b.data.map fun b => Value.int .u8 b.toNat) ++ Array.replicate (cap - b.size) (.int .u8 0) = arr
    have hasz : arr.size = cap := by rw [← harr]; simp; have : b.data.size = b.size := rfl; omega
    have hrun : (convert src dst (.string b)).run P w = .ok (.slice (some ⟨w.heap.size, 0, none⟩) b.size cap) ((w.drew.alloc (.cells arr e)).freeze ⟨w.heap.size, arr.size, none⟩ 1) := by
      have hq : (Question.appendCap b.size 0 e).forced = false := rfl
      have hsh : (w.drew.alloc (.cells arr e)).shape? w.heap.size = some (e, arr.size) := by
        unfold World.shape?
        have := heap_alloc_new w.drew (.cells arr e)
        simp only [World.size_drew] at this
        rw [this]
      simp only [convert, Sem.run_bind, run_und hs, run_und hd, Result.andThen_ok, run_und he, Conv.stringToBytes, run_choose, hq, Bool.false_eq_true, if_false, World.drew_eq, hcap, harr, newRow, run_newObj, World.alloc_eq,
        Sem.run_pure, World.size_drew, markStringish, run_shape, hsh, run_freeze]
    have hl : VRelL κ (b.data.toList.map fun b => AVal.int .u8 b.toNat) (b.data.toList.map fun b => Value.int .u8 b.toNat) := by
      refine ⟨by simp, fun j x y hx hy => ?_⟩
      simp only [List.getElem?_map, Option.map_eq_some_iff] at hx hy
      obtain ⟨p, hp, rfl⟩ := hx
      obtain ⟨q, hq, rfl⟩ := hy
      rw [hp] at hq; cases hq
      exact .int _ _
    obtain ⟨k1, k2, k3⟩ := lit_cells (κ := κ) (arr := arr) (a := b.data.toList.map fun b => Value.int .u8 b.toNat) (b := []) (z := List.replicate (cap - b.size) (.int .u8 0))
      (by rw [← harr]; simp) (by simpa using hl) (by intro y hy; simp only [List.append_nil] at hy; obtain ⟨p, _, rfl⟩ := List.mem_map.1 hy; trivial)
    have hrel := h.drew.alloc arr e _ k1 k2 k3
    have hsz : S.length < (S ++ [ABlock.live 0 (b.data.toList.map fun b => AVal.int .u8 b.toNat)]).length := by simp
    have hS : (S ++ [ABlock.live 0 (b.data.toList.map fun b => AVal.int .u8 b.toNat)])[S.length]? = some (.live 0 (b.data.toList.map fun b => AVal.int .u8 b.toNat)) := by simp
    have hi : (κ.add ⟨w.drew.heap.size, 0, arr.size, 0⟩).blocks[S.length]? = some ⟨w.drew.heap.size, 0, arr.size, 0⟩ := by
      show (κ.blocks ++ [_])[S.length]? = _
      rw [← h.len]; simp
    have hnew := heap_alloc_new w.drew (.cells arr e)
    simp only [World.size_drew] at hnew
    obtain ⟨g1, g2, g3, g4, g5, g6⟩ := freeze_end (w.drew.alloc (.cells arr e)) w.heap.size arr e hnew
    have hw := (Rel.write hrel (j := ⟨w.drew.heap.size, 0, arr.size, 0⟩) (new := b.data.toList.map fun b => AVal.int .u8 b.toNat) hS hi 0 (.inl ⟨rfl, rfl⟩) rfl (w' := (w.drew.alloc (.cells arr e)).freeze ⟨w.heap.size, arr.size, none⟩ 1) g1
      (by simp) (by simpa using k1) (.inr (Nat.le_refl _)) (by intro k x y hx hy; exact (k2 k x y hx (by simpa using hy)).mono (Kap.le_add _ _)) (by intro k y hk hy; exact k3 k y hk (by simpa using hy)) g2 g3 g4 g5 g6).1
    rw [Kap.upd_self hi] at hw
    have hset : (S ++ [ABlock.live 0 (b.data.toList.map fun b => AVal.int .u8 b.toNat)]).set S.length (.live 0 (b.data.toList.map fun b => AVal.int .u8 b.toNat)) = S ++ [ABlock.live 0 (b.data.toList.map fun b => AVal.int .u8 b.toNat)] := by
      simp
    rw [hset] at hw
    refine ⟨_, _, _, hrun, ?_, hw, Kap.le_add _ _⟩
    rw [← size_eq]
    exact .sl _ _ _ _ _ _ _ _ hi (Nat.le_refl _) hge (fun _ => ⟨by simp [hasz], .inr rfl⟩)

/-- Marking the end of a block. -/
theorem freeze_any (w : World) (b : Nat) (arr : Array Value) (e : TypeId) (fr : Nat × Nat) (hb : w.heap[b]? = some (.cells arr e fr)) (hfr : fr.1 = fr.2 ∨ arr.size ≤ fr.1) :
    ∃ fr', (w.freeze ⟨b, arr.size, none⟩ 1).heap[b]? = some (.cells arr e fr') ∧ (fr'.1 = fr'.2 ∨ arr.size ≤ fr'.1) ∧ (∀ k, k ≠ b → (w.freeze ⟨b, arr.size, none⟩ 1).heap[k]? = w.heap[k]?) ∧
    (w.freeze ⟨b, arr.size, none⟩ 1).heap.size = w.heap.size ∧ (w.freeze ⟨b, arr.size, none⟩ 1).os = w.os ∧ (w.freeze ⟨b, arr.size, none⟩ 1).tape = w.tape ∧ (w.freeze ⟨b, arr.size, none⟩ 1).output = w.output := by
  obtain ⟨lo, hi⟩ := fr
  unfold World.freeze
  refine ⟨if lo == hi then (arr.size, arr.size + 1) else (min lo arr.size, max hi (arr.size + 1)), ?_, ?_, fun k hk => ?_, ?_, rfl, rfl, rfl⟩
  · simp [Array.getElem?_modify, hb]
  · simp only at hfr
    by_cases h : lo = hi
    · simp [h]
    · simp [h]; right; omega
  · simp [Array.getElem?_modify, Ne.symm hk]
  · simp

theorem convSL_ok (h : Rel W κ S w) {t e0 e : TypeId} (hs : P.underlying t = some (.slice e0)) (hd : P.underlying t = some (.slice e)) (he : P.underlying e = some (.int .u8))
    {r v v' off len sz : Nat} {cs : List AVal} {x' : Value} (hx : VRel κ (.sl r v off len sz) x') (hS : S[r]? = some (.live v' cs)) (hv : v' = v) (hlen : 0 < len) :
    Runs P W κ w (convert t t x') (.sl r v off len sz) S := by
  subst hv
  have hx2 := hx
  cases hx with
  | sl _ _ _ _ _ i a c hr hver hc hext =>
    obtain ⟨b1, b2, b3, arr, te, fr, b4, b5, b6, b7, b8⟩ := h.own r v' cs i hS hr
    have ha : a = ⟨i.blk, i.base + off, none⟩ := by
      rcases (hext b1.symm).2 with h0 | h0
      · omega
      · exact h0
    obtain ⟨fr', f1, f2, f3, f4, f5, f6, f7⟩ := freeze_any w i.blk arr te fr b4 b6
    have hrun : (convert t t (.slice (some a) len c)).run P w = .ok (.slice (some a) len c) (w.freeze ⟨i.blk, arr.size, none⟩ 1) := by
      have hsh : w.shape? i.blk = some (te, arr.size) := by unfold World.shape?; rw [b4]
      have hee : e0 = e := by rw [hs] at hd; simpa using hd
      subst hee
      have hbq : (t == t) = true := by simp
      simp only [convert, Sem.run_bind, run_und hs, Result.andThen_ok, run_und he, hbq, markStringish, ha, run_shape, hsh, run_freeze, Sem.run_pure]
    have hw := (Rel.write h (j := i) (new := cs) hS hr v' (.inl ⟨rfl, rfl⟩) rfl f1 b5 b3 f2 b7 b8 f3 f4 f5 f6 f7).1
    rw [Kap.upd_self hr] at hw
    have hset : S.set r (.live v' cs) = S := by
      apply List.ext_getElem?
      intro q; rw [List.getElem?_set]
      by_cases e : r = q
      · subst e; rw [if_pos rfl, if_pos (List.getElem?_eq_some_iff.1 hS).1, hS]
      · rw [if_neg e]
    rw [hset] at hw
    exact ⟨_, _, κ, hrun, hx2, hw, Kap.le_refl κ⟩

theorem compParts_ok {place : Nat → Option (Nat × Nat)} {parts : List (Nat × Operand)} {ps : List (Nat × Nat × Arg)} (hc : compParts place parts = some ps) {f : Fr} {a : Act} (hf : FRel κ f a.tmps) :
    (ps.map fun (o, z, x) => (o, z, f.ev x)).length = (parts.map fun (i, x) => (i, a.eval x)).length ∧
    ∀ (j : Nat) p q, (ps.map fun (o, z, x) => (o, z, f.ev x))[j]? = some p → (parts.map fun (i, x) => (i, a.eval x))[j]? = some q → place q.1 = some (p.1, p.2.1) ∧ VRel κ p.2.2 q.2 := by
  unfold compParts at hc
  obtain ⟨h1, h2⟩ := mapM_rel hc
  refine ⟨by simp [h1], fun j p q hp hq => ?_⟩
  simp only [List.getElem?_map, Option.map_eq_some_iff] at hp hq
  obtain ⟨⟨o, z, x⟩, hx, rfl⟩ := hp
  obtain ⟨⟨i, y⟩, hy, rfl⟩ := hq
  have := h2 j _ _ hy hx
  simp only [Option.bind_eq_bind, Option.bind_eq_some_iff, Option.pure_def, Option.some.injEq, Prod.mk.injEq] at this
  obtain ⟨⟨o', z'⟩, hp, ax, hax, e1, e2, e3⟩ := this
  simp only at e1 e2
  subst e1; subst e2; subst e3
  exact ⟨hp, argA_rel hax hf⟩

end Am
end

