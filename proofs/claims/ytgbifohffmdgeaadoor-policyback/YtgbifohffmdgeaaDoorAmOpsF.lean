/- Each operation of the machine stands for the model's: copy, texts, aggregates, comparison of aggregates. -/
import Derived.Test.YtgbifohffmdgeaaDoorAmOpsE
set_option linter.all false
namespace Am
open Go Go.RowKit

variable {P : Program} {W : World} {κ : Kap} {S : St} {w : World}

theorem copy_ok (h : Rel W κ S w) {ts ty e : TypeId} {rest : List TypeId} {sz : Nat} (ht : P.underlying ts = some (.slice e)) (hsz : sizeP P e = some sz)
    {x y v : AVal} {x' y' : Value} {S' : St} (hxr : VRel κ x x') (hyr : VRel κ y y') (hv : copyA sz x y S = some (v, S')) :
    Runs P W κ w (Builtin.copy_ (ts :: rest).toArray ty #[x', y']) v S' := by
  unfold copyA at hv
  split at hv
  · simp at hv
  · rename_i n new hc
    obtain ⟨hlenof, hnl, hfc⟩ := cellsOf_ok (P := P) h hyr hc
    have run : ∀ base dLen dCap arr w', x' = .slice base dLen dCap → (Builtin.firstCells sz (Nat.min n dLen) y').run P w = .ok (List.toArray arr) w →
        (match base with | some a => (Go.storeCells a arr).run P w = .ok () w' | none => w' = w) →
        (Builtin.copy_ (ts :: rest).toArray ty #[x', y']).run P w = .ok (.int .i64 (Nat.min n dLen : Nat)) w' := by
      rintro base dLen dCap arr w' rfl hf hst
      unfold Builtin.copy_
      simp only [List.getElem?_toArray, List.getElem?_cons_zero, List.getElem?_cons_succ, Sem.run_bind, run_und ht, Result.andThen_ok, hlenof, run_size hsz, hf]
      cases base with
      | none => subst hst; simp [goInt]
      | some a => simp only [Sem.run_bind, hst, Result.andThen_ok, Sem.run_pure, goInt]
    split at hv
    · cases hv
      cases hxr
      obtain ⟨arr, f1, f2, f3⟩ := hfc 0 (Nat.zero_le _)
      have := run none 0 0 arr w rfl (by simpa using f1) rfl
      exact .pure h (v' := .int .i64 0) (by simpa using this) (.int _ _)
    · rename_i r u off len sz'
      split at hv
      · rename_i v' cs hS
        split at hv
        · rename_i hcnd
          obtain ⟨rfl, rfl, hle⟩ := hcnd
          cases hv
          cases hxr with
          | sl _ _ _ _ _ inf a c hr hver hlc hext =>
            have hvv : v' = inf.ver := ((h.own r v' cs inf hS hr).1).symm
            obtain ⟨arr, f1, f2, f3⟩ := hfc (min n len) (Nat.min_le_left _ _)
            have hmn : min n len * sz' ≤ n * sz' := Nat.mul_le_mul_right _ (Nat.min_le_left _ _)
            have hml : min n len * sz' ≤ len * sz' := Nat.mul_le_mul_right _ (Nat.min_le_right _ _)
            have hlen : (new.take (min n len * sz')).length = min n len * sz' := by simp; omega
            obtain ⟨w', s1, s2⟩ := Rel.storeCells (P := P) h hS hr (off := off) f2 f3 (by omega) (a := a) (fun hne => by
              rcases (hext hvv).2 with h0 | h0
              · exfalso; apply hne; apply List.eq_nil_of_length_eq_zero; rw [hlen]; subst h0
                have : len = 0 := by omega
                subst this; simp
              · exact h0)
            exact ⟨_, w', κ, run (some a) len c arr w' rfl f1 s1, .int _ _, s2, Kap.le_refl κ⟩
        · simp at hv
      · simp at hv
    · simp at hv

theorem asBytes_ok : ∀ {cs : List AVal} {ys : List Value} {s : List UInt8}, VRelL κ cs ys → asBytes cs = some s →
    ∃ ns : List Int, ys = ns.map (Value.int .u8) ∧ s = ns.map (fun n => UInt8.ofNat n.toNat) := by
  intro cs
  induction cs with
  | nil => intro ys s h hs; simp [asBytes] at hs; subst hs; exact ⟨[], by rw [h.unnil]; rfl, rfl⟩
  | cons c cs ih =>
    intro ys s h hs
    obtain ⟨y, ys', rfl, hy, hys⟩ := h.uncons
    simp only [asBytes] at hs
    split at hs
    · rename_i a l ha hl
      cases hs
      obtain ⟨ns, rfl, rfl⟩ := ih hys hl
      unfold asByte at ha
      split at ha
      · cases ha
        cases hy
        exact ⟨_ :: ns, rfl, rfl⟩
      · simp at ha
    · simp at hs

theorem foldl_push (ns : List Int) : ∀ (b : ByteArray), (ns.foldl (fun r n => r.push (UInt8.ofNat n.toNat)) b).data.toList = b.data.toList ++ ns.map (fun n => UInt8.ofNat n.toNat) := by
  induction ns with
  | nil => intro b; simp
  | cons n ns ih =>
    intro b
    simp only [List.foldl_cons, List.map_cons]
    rw [ih]
    simp [ByteArray.push]

theorem convBS_ok (h : Rel W κ S w) {src dst e : TypeId} (hs : P.underlying src = some (.slice e)) (he : P.underlying e = some (.int .u8)) (hd : P.underlying dst = some .string)
    {x : AVal} {x' : Value} (hx : VRel κ x x') {n : Nat} {cs : List AVal} {s : List UInt8} (hc : cellsOf 1 x S = some (n, cs)) (hb : asBytes cs = some s) (hns : ∀ t, x ≠ .str t) :
    Runs P W κ w (convert src dst x') (.str s) S := by
  obtain ⟨h1, h2, h3⟩ := cellsOf_ok (P := P) h hx hc
  obtain ⟨arr, f1, f2, f3⟩ := h3 n (Nat.le_refl _)
  rw [List.take_of_length_le (by omega)] at f2
  obtain ⟨ns, rfl, rfl⟩ := asBytes_ok f2 hb
  have hsl : ∃ a l c, x' = .slice a l c := by
    cases hx <;> simp [cellsOf] at hc
    all_goals first
      | exact ⟨_, _, _, rfl⟩
      | exact absurd rfl (hns _)
  obtain ⟨a, l, c, rfl⟩ := hsl
  have hl : l = n := by simpa [Builtin.lenOf] using h1
  subst hl
  cases a with
  | none =>
    have : ns = [] := by
      simp [Builtin.firstCells] at f1
      simpa using f1.symm
    subst this
    refine .pure h (v' := .string .empty) ?_ (.str _ _ (by simp))
    rw [run_convert_bytes_string w src dst e _ _ _ hs he hd]
    simp [Conv.bytesToString]
  | some a =>
    refine .pure h ?_ (.str _ (ns.foldl (fun r n => r.push (UInt8.ofNat n.toNat)) ByteArray.empty) (by rw [foldl_push]; simp))
    rw [run_convert_bytes_string w src dst e _ _ _ hs he hd]
    refine run_bytesToString w a l c ns ?_
    simpa [Builtin.firstCells] using f1

theorem freeze_end (w : World) (b : Nat) (arr : Array Value) (e : TypeId) (hb : w.heap[b]? = some (.cells arr e (0, 0))) :
    (w.freeze ⟨b, arr.size, none⟩ 1).heap[b]? = some (.cells arr e (arr.size, arr.size + 1)) ∧ (∀ k, k ≠ b → (w.freeze ⟨b, arr.size, none⟩ 1).heap[k]? = w.heap[k]?) ∧
    (w.freeze ⟨b, arr.size, none⟩ 1).heap.size = w.heap.size ∧ (w.freeze ⟨b, arr.size, none⟩ 1).os = w.os ∧ (w.freeze ⟨b, arr.size, none⟩ 1).tape = w.tape ∧ (w.freeze ⟨b, arr.size, none⟩ 1).output = w.output := by
  unfold World.freeze
  refine ⟨?_, fun k hk => ?_, ?_, rfl, rfl, rfl⟩
  · simp [Array.getElem?_modify, hb]
  · simp [Array.getElem?_modify, Ne.symm hk]
  · simp

theorem convSB_ok (h : Rel W κ S w) {src dst e : TypeId} (hs : P.underlying src = some .string) (he : P.underlying e = some (.int .u8)) (hd : P.underlying dst = some (.slice e))
    {s : List UInt8} {x' : Value} (hx : VRel κ (.str s) x') :
    Runs P W κ w (convert src dst x') (.sl S.length 0 0 s.length 1) (S ++ [.live 0 (s.map fun b => .int .u8 b.toNat)]) := by
  cases hx with
  | str _ b hb =>
    subst hb
    generalize hcap : (Question.appendCap b.size 0 e).cut (w.tape w.drawn (Question.appendCap b.size 0 e)) = cap
    have hge : b.size ≤ cap := by rw [← hcap]; simp [Question.cut]
    generalize harr : (b.data.map fun b => Value.int .u8 b.toNat) ++ Array.replicate (cap - b.size) (.int .u8 0) = arr
    have hasz : arr.size = cap := by rw [← harr]; simp; have : b.data.size = b.size := rfl; omega
    have hrun : (convert src dst (.string b)).run P w = .ok (.slice (some ⟨w.heap.size, 0, none⟩) b.size cap) ((w.drew.alloc (.cells arr e)).freeze ⟨w.heap.size, arr.size, none⟩ 1) := by
      have hq : (Question.appendCap b.size 0 e).forced = false := rfl
      have hsh : (w.drew.alloc (.cells arr e)).shape? w.heap.size = some (e, arr.size) := by
        unfold World.shape?
        have := heap_alloc_new w.drew (.cells arr e)
        simp only [World.size_drew] at this
        rw [this]
      simp only [convert, Sem.run_bind, run_und hs, run_und hd, Result.andThen_ok, run_und he, Conv.stringToBytes, run_choose, hq, Bool.false_eq_true, if_false, World.drew_eq, hcap, harr, newRow, run_newObj, World.alloc_eq,
        Sem.run_pure, World.size_drew, markStringish, run_shape, hsh, run_freeze]
    have hl : VRelL κ (b.data.toList.map fun b => AVal.int .u8 b.toNat) (b.data.toList.map fun b => Value.int .u8 b.toNat) := by
      refine ⟨by simp, fun j x y hx hy => ?_⟩
      simp only [List.getElem?_map, Option.map_eq_some_iff] at hx hy
      obtain ⟨p, hp, rfl⟩ := hx
      obtain ⟨q, hq, rfl⟩ := hy
      rw [hp] at hq; cases hq
      exact .int _ _
    obtain ⟨k1, k2, k3⟩ := lit_cells (κ := κ) (arr := arr) (a := b.data.toList.map fun b => Value.int .u8 b.toNat) (b := []) (z := List.replicate (cap - b.size) (.int .u8 0))
      (by rw [← harr]; simp) (by simpa using hl) (by intro y hy; simp only [List.append_nil] at hy; obtain ⟨p, _, rfl⟩ := List.mem_map.1 hy; trivial)
    have hrel := h.drew.alloc arr e _ k1 k2 k3
    have hsz : S.length < (S ++ [ABlock.live 0 (b.data.toList.map fun b => AVal.int .u8 b.toNat)]).length := by simp
    have hS : (S ++ [ABlock.live 0 (b.data.toList.map fun b => AVal.int .u8 b.toNat)])[S.length]? = some (.live 0 (b.data.toList.map fun b => AVal.int .u8 b.toNat)) := by simp
    have hi : (κ.add ⟨w.drew.heap.size, 0, arr.size, 0⟩).blocks[S.length]? = some ⟨w.drew.heap.size, 0, arr.size, 0⟩ := by
      show (κ.blocks ++ [_])[S.length]? = _
      rw [← h.len]; simp
    have hnew := heap_alloc_new w.drew (.cells arr e)
    simp only [World.size_drew] at hnew
    obtain ⟨g1, g2, g3, g4, g5, g6⟩ := freeze_end (w.drew.alloc (.cells arr e)) w.heap.size arr e hnew
    have hw := (Rel.write hrel (j := ⟨w.drew.heap.size, 0, arr.size, 0⟩) (new := b.data.toList.map fun b => AVal.int .u8 b.toNat) hS hi 0 (.inl ⟨rfl, rfl⟩) rfl (w' := (w.drew.alloc (.cells arr e)).freeze ⟨w.heap.size, arr.size, none⟩ 1) g1
      (by simp) (by simpa using k1) (.inr (Nat.le_refl _)) (by intro k x y hx hy; exact (k2 k x y hx (by simpa using hy)).mono (Kap.le_add _ _)) (by intro k y hk hy; exact k3 k y hk (by simpa using hy)) g2 g3 g4 g5 g6).1
    rw [Kap.upd_self hi] at hw
    have hset : (S ++ [ABlock.live 0 (b.data.toList.map fun b => AVal.int .u8 b.toNat)]).set S.length (.live 0 (b.data.toList.map fun b => AVal.int .u8 b.toNat)) = S ++ [ABlock.live 0 (b.data.toList.map fun b => AVal.int .u8 b.toNat)] := by
      simp
    rw [hset] at hw
    refine ⟨_, _, _, hrun, ?_, hw, Kap.le_add _ _⟩
    rw [← size_eq]
    exact .sl _ _ _ _ _ _ _ _ hi (Nat.le_refl _) hge (fun _ => ⟨by simp [hasz], .inr rfl⟩)

/-- Marking the end of a block. -/
theorem freeze_any (w : World) (b : Nat) (arr : Array Value) (e : TypeId) (fr : Nat × Nat) (hb : w.heap[b]? = some (.cells arr e fr)) (hfr : fr.1 = fr.2 ∨ arr.size ≤ fr.1) :
    ∃ fr', (w.freeze ⟨b, arr.size, none⟩ 1).heap[b]? = some (.cells arr e fr') ∧ (fr'.1 = fr'.2 ∨ arr.size ≤ fr'.1) ∧ (∀ k, k ≠ b → (w.freeze ⟨b, arr.size, none⟩ 1).heap[k]? = w.heap[k]?) ∧
    (w.freeze ⟨b, arr.size, none⟩ 1).heap.size = w.heap.size ∧ (w.freeze ⟨b, arr.size, none⟩ 1).os = w.os ∧ (w.freeze ⟨b, arr.size, none⟩ 1).tape = w.tape ∧ (w.freeze ⟨b, arr.size, none⟩ 1).output = w.output := by
  obtain ⟨lo, hi⟩ := fr
  unfold World.freeze
  refine ⟨if lo == hi then (arr.size, arr.size + 1) else (min lo arr.size, max hi (arr.size + 1)), ?_, ?_, fun k hk => ?_, ?_, rfl, rfl, rfl⟩
  · simp [Array.getElem?_modify, hb]
  · simp only at hfr
    by_cases h : lo = hi
    · simp [h]
    · simp [h]; right; omega
  · simp [Array.getElem?_modify, Ne.symm hk]
  · simp

theorem convSL_ok (h : Rel W κ S w) {t e0 e : TypeId} (hs : P.underlying t = some (.slice e0)) (hd : P.underlying t = some (.slice e)) (he : P.underlying e = some (.int .u8))
    {r v v' off len sz : Nat} {cs : List AVal} {x' : Value} (hx : VRel κ (.sl r v off len sz) x') (hS : S[r]? = some (.live v' cs)) (hv : v' = v) (hlen : 0 < len) :
    Runs P W κ w (convert t t x') (.sl r v off len sz) S := by
  subst hv
  have hx2 := hx
  cases hx with
  | sl _ _ _ _ _ i a c hr hver hc hext =>
    obtain ⟨b1, b2, b3, arr, te, fr, b4, b5, b6, b7, b8⟩ := h.own r v' cs i hS hr
    have ha : a = ⟨i.blk, i.base + off, none⟩ := by
      rcases (hext b1.symm).2 with h0 | h0
      · omega
      · exact h0
    obtain ⟨fr', f1, f2, f3, f4, f5, f6, f7⟩ := freeze_any w i.blk arr te fr b4 b6
    have hrun : (convert t t (.slice (some a) len c)).run P w = .ok (.slice (some a) len c) (w.freeze ⟨i.blk, arr.size, none⟩ 1) := by
      have hsh : w.shape? i.blk = some (te, arr.size) := by unfold World.shape?; rw [b4]
      have hee : e0 = e := by rw [hs] at hd; simpa using hd
      subst hee
      have hbq : (t == t) = true := by simp
      simp only [convert, Sem.run_bind, run_und hs, Result.andThen_ok, run_und he, hbq, markStringish, ha, run_shape, hsh, run_freeze, Sem.run_pure]
    have hw := (Rel.write h (j := i) (new := cs) hS hr v' (.inl ⟨rfl, rfl⟩) rfl f1 b5 b3 f2 b7 b8 f3 f4 f5 f6 f7).1
    rw [Kap.upd_self hr] at hw
    have hset : S.set r (.live v' cs) = S := by
      apply List.ext_getElem?
      intro q; rw [List.getElem?_set]
      by_cases e : r = q
      · subst e; rw [if_pos rfl, if_pos (List.getElem?_eq_some_iff.1 hS).1, hS]
      · rw [if_neg e]
    rw [hset] at hw
    exact ⟨_, _, κ, hrun, hx2, hw, Kap.le_refl κ⟩

theorem compParts_ok {place : Nat → Option (Nat × Nat)} {parts : List (Nat × Operand)} {ps : List (Nat × Nat × Arg)} (hc : compParts place parts = some ps) {f : Fr} {a : Act} (hf : FRel κ f a.tmps) :
    (ps.map fun (o, z, x) => (o, z, f.ev x)).length = (parts.map fun (i, x) => (i, a.eval x)).length ∧
    ∀ (j : Nat) p q, (ps.map fun (o, z, x) => (o, z, f.ev x))[j]? = some p → (parts.map fun (i, x) => (i, a.eval x))[j]? = some q → place q.1 = some (p.1, p.2.1) ∧ VRel κ p.2.2 q.2 := by
  unfold compParts at hc
  obtain ⟨h1, h2⟩ := mapM_rel hc
  refine ⟨by simp [h1], fun j p q hp hq => ?_⟩
  simp only [List.getElem?_map, Option.map_eq_some_iff] at hp hq
  obtain ⟨⟨o, z, x⟩, hx, rfl⟩ := hp
  obtain ⟨⟨i, y⟩, hy, rfl⟩ := hq
  have := h2 j _ _ hy hx
  simp only [Option.bind_eq_bind, Option.bind_eq_some_iff, Option.pure_def, Option.some.injEq, Prod.mk.injEq] at this
  obtain ⟨⟨o', z'⟩, hp, ax, hax, e1, e2, e3⟩ := this
  simp only at e1 e2
  subst e1; subst e2; subst e3
  exact ⟨hp, argA_rel hax hf⟩

end Am
