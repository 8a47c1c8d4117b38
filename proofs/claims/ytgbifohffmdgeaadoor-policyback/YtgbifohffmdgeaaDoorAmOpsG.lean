/- '==' of arrays and structs of plain cells; composite literals. -/
import Derived.Test.YtgbifohffmdgeaaDoorAmOpsF
set_option linter.all false
namespace Am
open Go Go.RowKit

variable {P : Program} {W : World} {κ : Kap} {S : St} {w : World}

/-- The value of a type out of its cells. -/
def mkv (P : Program) (t : TypeId) (xs : List Value) : Value :=
  match P.underlying t with
  | some (.struct _) | some (.array ..) => .agg xs.toArray
  | _ => xs.headD undef

theorem run_part_mkv {t : TypeId} {n : Nat} (hsz : sizeP P t = some n) {d : TypeDesc} (hu : P.underlying t = some d) (cs : List Value) (off : Nat) (hle : off + n ≤ cs.length) (h1 : 0 < n) (w : World) :
    (part t cs.toArray off).run P w = .ok (mkv P t ((cs.drop off).take n)) w := by
  have hex : cs.toArray.extract off (off + n) = ((cs.drop off).take n).toArray := by
    apply Array.ext'
    simp [List.extract_eq_take_drop]
  have hlt : off < cs.length := by omega
  have hhead : (((cs.drop off).take n).headD undef) = cs[off] := by
    rw [List.drop_eq_getElem_cons hlt]
    obtain ⟨m, rfl⟩ : ∃ m, n = m + 1 := ⟨n - 1, by omega⟩
    rfl
  unfold part isAgg mkv
  simp only [Sem.run_bind, run_und hu, Result.andThen_ok, hu]
  have hg : cs.toArray[off]? = some cs[off] := by simp [hlt]
  cases d <;> simp only [Sem.run_pure, Result.andThen_ok, if_true, Bool.false_eq_true, if_false, Sem.run_bind, run_size hsz, hex, hg, hhead]

theorem eqFlats_append : ∀ {ks ls : List CK} {a c b d : List AVal} {r : Bool}, a.length = ks.length → c.length = ks.length → eqFlats (ks ++ ls) (a ++ b) (c ++ d) = some r →
    ∃ p q, eqFlats ks a c = some p ∧ eqFlats ls b d = some q ∧ r = (p && q) := by
  intro ks
  induction ks with
  | nil =>
    intro ls a c b d r h h' hr
    have := List.eq_nil_of_length_eq_zero h; subst this
    have := List.eq_nil_of_length_eq_zero h'; subst this
    exact ⟨true, r, rfl, hr, by simp⟩
  | cons k ks ih =>
    intro ls a c b d r h h' hr
    cases a with
    | nil => simp at h
    | cons x a =>
      cases c with
      | nil => simp at h'
      | cons y c =>
        simp only [List.cons_append, eqFlats] at hr
        split at hr
        · rename_i p q hp hq
          cases hr
          obtain ⟨p', q', h1, h2, rfl⟩ := ih (by simpa using h) (by simpa using h') hq
          exact ⟨p && p', q', by simp [eqFlats, hp, h1], h2, by simp [Bool.and_assoc]⟩
        · simp at hr

theorem eqFlats_len : ∀ {ks : List CK} {a b : List AVal} {r : Bool}, eqFlats ks a b = some r → a.length = ks.length ∧ b.length = ks.length := by
  intro ks
  induction ks with
  | nil => intro a b r h; cases a <;> cases b <;> simp [eqFlats] at h ⊢
  | cons k ks ih =>
    intro a b r h
    cases a with
    | nil => simp [eqFlats] at h
    | cons x a => cases b with
      | nil => simp [eqFlats] at h
      | cons y b =>
        simp only [eqFlats] at h
        split at h
        · rename_i p q hp hq
          have := ih hq
          simp [this]
        · simp at h

def CK.fits (P : Program) (t : TypeId) : CK → Prop
  | .i => ∃ j, P.underlying t = some (.int j)
  | .s => P.underlying t = some .string
  | .b => P.underlying t = some .bool

theorem eqFlat1_ok {k : CK} {x y : AVal} {x' y' : Value} (hx : VRel κ x x') (hy : VRel κ y y') {r : Bool} (h : eqFlat k x y = some r) {t : TypeId}
    (ht : k.fits P t) (D : Nat) (w : World) : (Op.equalIn (D + 1) t x' y').run P w = .ok r w := by
  unfold eqFlat at h
  split at h
  · cases hx; cases hy
    split at h
    · rename_i hk; subst hk
      cases h
      obtain ⟨j, ht⟩ := ht
      exact run_equalIn_int w D t _ _ _ _ ht
    · simp at h
  · cases hx with
    | str _ b1 h1 => cases hy with
      | str _ b2 h2 =>
        cases h
        rw [run_equalIn_string w D t b1 b2 ht, toList_eq, toList_eq, h1, h2]
  · cases hx; cases hy; cases h
    exact run_equalIn_bool w D t _ _ ht
  · simp at h

/-- What 'flatK' says of a type: its values are held against each other cell by cell. -/
def EqOk (P : Program) (κ : Kap) (D : Nat) (t : TypeId) (ks : List CK) : Prop :=
  ∀ (a b : List AVal) (xs ys : List Value) (r : Bool) (w : World), VRelL κ a xs → VRelL κ b ys → eqFlats ks a b = some r →
    (Op.equalIn D t (mkv P t xs) (mkv P t ys)).run P w = .ok r w

theorem eqFields_ok (D : Nat) : ∀ (fs : List Field) (off : Nat) (ks : List CK) (g : TypeId → Option (List CK)), flatK.flatF g P fs off = some ks →
    (∀ f ∈ fs, ∀ l, g f.type = some l → EqOk P κ D f.type l ∧ ∃ d, P.underlying f.type = some d) →
    ∀ (a b : List AVal) (xs ys : List Value) (r : Bool) (w : World), VRelL κ a xs → VRelL κ b ys → eqFlats ks (a.drop off) (b.drop off) = some r →
      (Op.eqFields D xs.toArray ys.toArray fs).run P w = .ok r w := by
  intro fs
  induction fs with
  | nil =>
    intro off ks g hf _ a b xs ys r w _ _ hr
    simp [flatK.flatF] at hf; subst hf
    have := eqFlats_len hr
    have h1 : a.drop off = [] := List.eq_nil_of_length_eq_zero this.1
    have h2 : b.drop off = [] := List.eq_nil_of_length_eq_zero this.2
    rw [h1, h2] at hr
    simp [eqFlats] at hr
    subst hr
    simp [Op.eqFields]
  | cons f fs ih =>
    intro off ks g hf hg a b xs ys r w ha hb hr
    simp only [flatK.flatF] at hf
    split at hf
    · rename_i l hl
      split at hf
      · rename_i hc
        obtain ⟨ho, hn, hs, hne⟩ := hc
        simp only [Option.map_eq_some_iff] at hf
        obtain ⟨ks', hks, rfl⟩ := hf
        obtain ⟨hE, d, hd⟩ := hg f (by simp) l hl
        have hlen := eqFlats_len hr
        simp only [List.length_append, List.length_drop] at hlen
        have hla : l.length ≤ (a.drop off).length := by simp; omega
        have hlb : l.length ≤ (b.drop off).length := by simp; omega
        rw [← List.take_append_drop l.length (a.drop off), ← List.take_append_drop l.length (b.drop off)] at hr
        obtain ⟨p, q, hp, hq, rfl⟩ := eqFlats_append (by simp at hla ⊢; omega) (by simp at hlb ⊢; omega) hr
        rw [List.drop_drop, List.drop_drop] at hq
        have hpos : 0 < l.length := List.length_pos_iff.2 hne
        have hxl := ha.1
        have hyl := hb.1
        have e1 := hE _ _ _ _ p w ((ha.drop off).take l.length) ((hb.drop off).take l.length) hp
        have e2 := ih (off + l.length) ks' g hks (fun f hf => hg f (by simp [hf])) a b xs ys q w ha hb hq
        have r1 := run_part_mkv (P := P) hs hd xs off (by omega) hpos w
        have r2 := run_part_mkv (P := P) hs hd ys off (by omega) hpos w
        unfold Op.eqFields
        rw [if_pos hn]
        simp only [Sem.run_bind, ho, r1, r2, Result.andThen_ok, e1, Sem.run_ite, Sem.run_pure, e2]
        cases p <;> simp
      · simp at hf
    · simp at hf

theorem run_eqArray (D : Nat) (t e : TypeId) (n : Nat) (xs ys : Array Value) (ht : P.underlying t = some (.array n e)) {sz : Nat} (hsz : sizeP P e = some sz) (step : Nat → Bool) (w : World)
    (hstep : ∀ i, i < n → ∃ u v, (part e xs (i * sz)).run P w = .ok u w ∧ (part e ys (i * sz)).run P w = .ok v w ∧ (Op.equalIn D e u v).run P w = .ok (step i) w) :
    (Op.equalIn (D + 1) t (.agg xs) (.agg ys)).run P w = .ok ((List.range n).all step) w := by
  simp only [Op.equalIn, Sem.run_bind, run_und ht, Result.andThen_ok, run_size hsz]
  rw [Std.Legacy.Range.forIn_eq_forIn_range']
  simp only [Std.Legacy.Range.size, Nat.sub_zero, Nat.add_sub_cancel, Nat.div_one]
  rw [← List.range_eq_range']
  have hall : ∀ l : List Nat, (∀ i ∈ l, i < n) → (Sem.run P (forIn l ((none, ()) : Option Bool × Unit) fun i __s => do
            let __do_lift ← part e xs (i * sz)
            let __do_lift_1 ← part e ys (i * sz)
            let __do_lift ← Op.equalIn D e __do_lift __do_lift_1
            if (!__do_lift) = true then pure (ForInStep.done (some false, ())) else pure (ForInStep.yield (none, ())))
          w) = .ok (if l.all step = true then none else some false, ()) w := by
    intro l
    induction l with
    | nil => intro _; simp
    | cons i l ih =>
      intro hl
      obtain ⟨u, v, h1, h2, h3⟩ := hstep i (hl i (by simp))
      have ih' := ih (fun j hj => hl j (by simp [hj]))
      simp only [List.forIn_cons, Sem.run_bind, h1, h2, h3, Result.andThen_ok, List.all_cons]
      by_cases hst : step i = true
      · simp only [hst, Bool.not_true, Bool.false_eq_true, if_false, Sem.run_pure, Result.andThen_ok, Bool.true_and]
        exact ih'
      · simp only [Bool.not_eq_true] at hst
        simp only [hst, Bool.not_false, if_true, Sem.run_pure, Result.andThen_ok, Bool.false_and, Bool.false_eq_true, if_false]
  rw [hall _ (fun i hi => by simpa using hi)]
  simp only [Result.andThen_ok]
  cases (List.range n).all step <;> simp

theorem eqArr_ok (D : Nat) {t e : TypeId} {n : Nat} {ks : List CK} (ht : P.underlying t = some (.array n e)) (hs : sizeP P e = some ks.length) (hne : ks ≠ []) {d : TypeDesc} (hd : P.underlying e = some d)
    (hE : EqOk P κ D e ks) : ∀ (a b : List AVal) (xs ys : List Value) (r : Bool) (w : World), VRelL κ a xs → VRelL κ b ys → eqFlats (List.replicate n ks).flatten a b = some r →
      (Op.equalIn (D + 1) t (.agg xs.toArray) (.agg ys.toArray)).run P w = .ok r w := by
  intro a b xs ys r w ha hb hr
  have hpos : 0 < ks.length := List.length_pos_iff.2 hne
  have hlen := eqFlats_len hr
  have hfl : ((List.replicate n ks).flatten).length = n * ks.length := by simp
  rw [hfl] at hlen
  have key : ∀ (m off : Nat), off + m * ks.length ≤ a.length → off + m * ks.length ≤ b.length → ∀ q, eqFlats (List.replicate m ks).flatten ((a.drop off).take (m * ks.length)) ((b.drop off).take (m * ks.length)) = some q →
      ∃ f : Nat → Bool, (∀ i, i < m → eqFlats ks ((a.drop (off + i * ks.length)).take ks.length) ((b.drop (off + i * ks.length)).take ks.length) = some (f i)) ∧ q = (List.range m).all f := by
    intro m
    induction m with
    | zero => intro off _ _ q hq; simp [eqFlats] at hq; exact ⟨fun _ => true, by simp, by simp [← hq]⟩
    | succ m ih =>
      intro off h1 h2 q hq
      rw [Nat.add_mul] at h1 h2
      have e1 : ∀ l : List AVal, off + (m + 1) * ks.length ≤ l.length → (l.drop off).take ((m + 1) * ks.length) = (l.drop off).take ks.length ++ (l.drop (off + ks.length)).take (m * ks.length) := by
        intro l hl
        rw [show (m + 1) * ks.length = ks.length + m * ks.length from by rw [Nat.add_mul]; omega, List.take_add, List.drop_drop]
      rw [e1 a (by rw [Nat.add_mul]; omega), e1 b (by rw [Nat.add_mul]; omega), List.replicate_succ, List.flatten_cons] at hq
      obtain ⟨p, q', hp, hq', rfl⟩ := eqFlats_append (by simp; omega) (by simp; omega) hq
      obtain ⟨f, hf, rfl⟩ := ih (off + ks.length) (by omega) (by omega) q' hq'
      refine ⟨fun i => if i = 0 then p else f (i - 1), fun i hi => ?_, ?_⟩
      · by_cases h0 : i = 0
        · subst h0; simpa using hp
        · simp only [h0, if_false]
          have := hf (i - 1) (by omega)
          rw [show off + i * ks.length = off + ks.length + (i - 1) * ks.length from by
            obtain ⟨j, rfl⟩ : ∃ j, i = j + 1 := ⟨i - 1, by omega⟩
            rw [Nat.add_mul]; simp; omega]
          exact this
      · rw [List.range_succ_eq_map, List.all_cons]
        simp [List.all_map, Function.comp_def]
  have hr' : eqFlats (List.replicate n ks).flatten ((a.drop 0).take (n * ks.length)) ((b.drop 0).take (n * ks.length)) = some r := by
    rw [List.drop_zero, List.drop_zero, List.take_of_length_le (by omega), List.take_of_length_le (by omega)]; exact hr
  obtain ⟨f, hf, rfl⟩ := key n 0 (by omega) (by omega) r hr'
  have hxl := ha.1
  have hyl := hb.1
  refine run_eqArray D t e n xs.toArray ys.toArray ht hs f w (fun i hi => ?_)
  have hmul : i * ks.length + ks.length ≤ n * ks.length := by
    have : (i + 1) * ks.length ≤ n * ks.length := Nat.mul_le_mul_right _ (by omega)
    rw [Nat.add_mul] at this; omega
  refine ⟨_, _, run_part_mkv hs hd xs _ (by omega) hpos w, run_part_mkv hs hd ys _ (by omega) hpos w, ?_⟩
  have := hf i hi
  rw [Nat.zero_add] at this
  exact hE _ _ _ _ _ w ((ha.drop _).take _) ((hb.drop _).take _) this

theorem flatF_und {g : TypeId → Option (List CK)} {fs : List Field} {off : Nat} {ks : List CK} (h : flatK.flatF g P fs off = some ks) : ∀ f ∈ fs, ∃ l, g f.type = some l := by
  induction fs generalizing off ks with
  | nil => intro f hf; simp at hf
  | cons f fs ih =>
    intro f' hf'
    simp only [flatK.flatF] at h
    split at h
    · rename_i l hl
      split at h
      · simp only [Option.map_eq_some_iff] at h
        obtain ⟨ks', hks, _⟩ := h
        rcases List.mem_cons.1 hf' with rfl | hf'
        · exact ⟨l, hl⟩
        · exact ih hks f' hf'
      · simp at h
    · simp at h

theorem flatK_ok : ∀ (d : Nat) (t : TypeId) (ks : List CK), flatK P d t = some ks → (∃ u, P.underlying t = some u) ∧ ∀ D, d ≤ D → EqOk P κ D t ks := by
  intro d
  induction d with
  | zero => intro t ks h; simp [flatK] at h
  | succ d ih =>
    intro t ks h
    simp only [flatK] at h
    have scal : ∀ k : CK, k.fits P t → ks = [k] → (mkv P t = fun xs => xs.headD undef) → ∀ D, d + 1 ≤ D → EqOk P κ D t ks := by
      intro k hk hks hm D hD a b xs ys r w ha hb hr
      subst hks
      have hl := eqFlats_len hr
      obtain ⟨x, rfl⟩ := List.length_eq_one_iff.1 hl.1
      obtain ⟨y, rfl⟩ := List.length_eq_one_iff.1 hl.2
      obtain ⟨x', _, rfl, hx, hn⟩ := ha.uncons
      obtain ⟨y', _, rfl, hy, hn'⟩ := hb.uncons
      have := hn.unnil; subst this
      have := hn'.unnil; subst this
      rw [hm]
      obtain ⟨D, rfl⟩ : ∃ D', D = D' + 1 := ⟨D - 1, by omega⟩
      simp only [eqFlats] at hr
      split at hr
      · rename_i p q hp hq
        cases hq; cases hr
        simpa using eqFlat1_ok hx hy hp hk D w
      · simp at hr
    split at h
    · rename_i j hu
      split at h
      · cases h
        exact ⟨⟨_, hu⟩, scal .i ⟨j, hu⟩ rfl (by funext xs; simp [mkv, hu])⟩
      · simp at h
    · rename_i hu
      split at h
      · cases h
        exact ⟨⟨_, hu⟩, scal .s hu rfl (by funext xs; simp [mkv, hu])⟩
      · simp at h
    · rename_i hu
      split at h
      · cases h
        exact ⟨⟨_, hu⟩, scal .b hu rfl (by funext xs; simp [mkv, hu])⟩
      · simp at h
    · rename_i n e hu
      split at h
      · rename_i l hl
        split at h
        · rename_i hc
          cases h
          obtain ⟨⟨u, hue⟩, hE⟩ := ih e l hl
          refine ⟨⟨_, hu⟩, fun D hD a b xs ys r w ha hb hr => ?_⟩
          obtain ⟨D, rfl⟩ : ∃ D', D = D' + 1 := ⟨D - 1, by omega⟩
          have hm : ∀ xs, mkv P t xs = .agg xs.toArray := fun xs => by simp [mkv, hu]
          rw [hm, hm]
          exact eqArr_ok D hu hc.1 hc.2 hue (hE D (by omega)) a b xs ys r w ha hb hr
        · simp at h
      · simp at h
    · rename_i fs hu
      split at h
      · simp at h
      · rename_i hst
        refine ⟨⟨_, hu⟩, fun D hD a b xs ys r w ha hb hr => ?_⟩
        obtain ⟨D, rfl⟩ : ∃ D', D = D' + 1 := ⟨D - 1, by omega⟩
        have hm : ∀ xs, mkv P t xs = .agg xs.toArray := fun xs => by simp [mkv, hu]
        have hfo : P.fieldsOf t = fs := by simp [Program.fieldsOf, hu]
        rw [hm, hm, run_equalIn_struct w D t xs.toArray ys.toArray (by rw [hfo]; exact hu) (by simpa using hst), hfo]
        exact eqFields_ok D fs.toList 0 ks _ h (fun f hf l hl => ⟨(ih f.type l hl).2 D (by omega), (ih f.type l hl).1⟩) a b xs ys r w ha hb (by simpa using hr)
    · simp at h

theorem eqA_ok (h : Rel W κ S w) {t : TypeId} {ks : List CK} (hk : flatK P 20 t = some ks) {a b : List AVal} {x' y' : Value} (hx : VRel κ (.agg a) x') (hy : VRel κ (.agg b) y') {r : Bool}
    (hr : eqFlats ks a b = some r) (hagg : mkv P t = fun xs => .agg xs.toArray) : (Op.equal t x' y').run P w = .ok r w := by
  cases hx with
  | agg _ xs hl hsc hre =>
    cases hy with
    | agg _ ys hl' hsc' hre' =>
      have := (flatK_ok (κ := κ) 20 t ks hk).2 10000 (by omega) a b xs ys r w ⟨hl, hre⟩ ⟨hl', hre'⟩ hr
      rw [hagg] at this
      exact this

theorem mapM_sem {α β : Type} {f : α → Option β} {g : α → Sem β} (hg : ∀ a b, f a = some b → ∀ w, (g a).run P w = .ok b w) : ∀ (l : List α) (r : List β), l.mapM f = some r → ∀ w, (l.mapM g).run P w = .ok r w := by
  intro l
  induction l with
  | nil => intro r h w; simp at h; subst h; simp
  | cons a l ih =>
    intro r h w
    simp only [List.mapM_cons, Option.pure_def, Option.bind_eq_bind, Option.bind_eq_some_iff] at h
    obtain ⟨b, hb, r', hr', h⟩ := h
    cases h
    simp only [List.mapM_cons, Sem.run_bind, hg a b hb, Result.andThen_ok, ih r' hr', Sem.run_pure]

theorem build_ok (h : Rel W κ S w) {t : TypeId} {zero : List AVal} (hz : zeroA P t = some zero) {parts : List (Nat × Operand)} {ps : List (Nat × Nat × Arg)} {f : Fr} {a : Act} (hf : FRel κ f a.tmps)
    (hp : (∃ fields sizes, P.underlying t = some (.struct fields) ∧ fields.toList.mapM (fun f => do pure (f.offset, ← sizeP P f.type)) = some sizes ∧ compParts (sizes[·]?) parts = some ps) ∨
      (∃ n e sz, P.underlying t = some (.array n e) ∧ sizeP P e = some sz ∧ compParts (fun i => some (i * sz, sz)) parts = some ps))
    {cs : List AVal} (hfill : fillA zero (ps.map fun (o, z, x) => (o, z, f.ev x)) = some cs) :
    Runs P W κ w (Instr.build t (parts.map fun (i, x) => (i, a.eval x)).toArray) (.agg cs) S := by
  obtain ⟨i, z, hi, hzz, hzr, hzs⟩ := zeroA_rel hz κ
  rcases hp with ⟨fields, sizes, hu, hm, hc⟩ | ⟨n, e, sz, hu, hsz, hc⟩
  · obtain ⟨h1, h2⟩ := compParts_ok hc hf
    obtain ⟨arr', f1, f2, f3⟩ := fill_ok _ _ _ _ _ z.cells h1 h2 hzr hzs hfill
    have hms : ∀ w, (fields.mapM fun f => do pure (f.offset, ← Go.sizeOf f.type) : Sem (Array (Nat × Nat))).run P w = .ok sizes.toArray w := by
      intro w
      have := mapM_sem (P := P) (f := fun f : Field => do pure (f.offset, ← sizeP P f.type)) (g := fun f => do pure (f.offset, ← Go.sizeOf f.type)) (by
        intro fd b hb w
        simp only [Option.pure_def, Option.bind_eq_bind, Option.bind_eq_some_iff] at hb
        obtain ⟨n, hn, hb⟩ := hb
        cases hb
        simp [run_size hn]) fields.toList sizes hm w
      rw [Array.mapM_eq_mapM_toList]
      rw [Sem.run_map, this]
      rfl
    refine .pure h (v' := .agg arr') ?_ ?_
    · simp only [Instr.build, Sem.run_bind, run_zero hi hzz, Result.andThen_ok, run_und hu, hms]
      have : (fun x : Nat => sizes.toArray[x]?) = fun x : Nat => sizes[x]? := by funext x; simp
      simp only [this, List.getElem?_toArray, f1, Sem.run_pure]
    · have := VRel.agg cs arr'.toList f2.1 f3 f2.2
      simpa using this
  · obtain ⟨h1, h2⟩ := compParts_ok hc hf
    obtain ⟨arr', f1, f2, f3⟩ := fill_ok (fun i => some (i * sz, sz)) _ _ _ _ z.cells h1 h2 hzr hzs hfill
    refine .pure h (v' := .agg arr') ?_ ?_
    · simp only [Instr.build, Sem.run_bind, run_zero hi hzz, Result.andThen_ok, run_und hu, run_size hsz, f1, Sem.run_pure]
    · have := VRel.agg cs arr'.toList f2.1 f3 f2.2
      simpa using this

theorem flat_mod {zero : List AVal} {sz : Nat} (hzl : zero.length = sz) : ∀ (n j : Nat) x, (List.replicate n zero).flatten[j]? = some x → zero[j % sz]? = some x := by
  intro n
  induction n with
  | zero => intro j x hx; simp at hx
  | succ n ih =>
    intro j x hx
    rw [List.replicate_succ, List.flatten_cons, List.getElem?_append, hzl] at hx
    split at hx
    · rename_i hj; rw [Nat.mod_eq_of_lt hj]; exact hx
    · rename_i hj
      have := ih (j - sz) x hx
      rw [Nat.mod_eq_sub_mod (by omega)]; exact this

theorem made_cells {z : Value} {zero : List AVal} {sz : Nat} (hzl : zero.length = sz) (hzr : VRelL κ zero z.cells.toList) (hzs : ∀ y ∈ z.cells.toList, scalar y) (n : Nat) :
    VRelL κ (List.replicate n zero).flatten (madeCells z.cells (n * sz)).toList ∧ ∀ y ∈ (madeCells z.cells (n * sz)).toList, scalar y := by
  have hzlen : z.cells.size = sz := by have := hzr.1; simp at this; omega
  have hsc : ∀ (j : Nat) y, (madeCells z.cells (n * sz))[j]? = some y → scalar y ∧ z.cells[j % sz]? = some y := by
    intro j y hy
    have hj : j < n * sz := by have := (Array.getElem?_eq_some_iff.1 hy).1; rwa [size_madeCells] at this
    have hsz0 : 0 < sz := by
      rcases Nat.eq_zero_or_pos sz with h | h
      · rw [h] at hj; simp at hj
      · exact h
    have hm : j % sz < z.cells.size := by rw [hzlen]; exact Nat.mod_lt _ hsz0
    simp only [madeCells, Array.getElem?_map, Array.getElem?_range, Option.map_eq_some_iff] at hy
    obtain ⟨q, hq, hy⟩ := hy
    rw [if_pos hj] at hq
    cases hq
    rw [hzlen, getElem!_pos z.cells (j % sz) hm] at hy
    exact ⟨hzs y (by rw [← hy]; simp), by rw [← hy]; simp [hm]⟩
  refine ⟨⟨by simp [hzl, size_madeCells], fun j x y hx hy => ?_⟩, fun y hy => ?_⟩
  · exact hzr.2 (j % sz) x y (flat_mod hzl n j x hx) (by simpa using (hsc j y (by simpa using hy)).2)
  · obtain ⟨j, hj⟩ := List.getElem?_of_mem hy
    exact (hsc j y (by simpa using hj)).1

theorem bslice_ok (h : Rel W κ S w) {t e : TypeId} {sz len : Nat} {zero : List AVal} (ht : P.underlying t = some (.slice e)) (hsz : sizeP P e = some sz) (hz : zeroA P e = some zero) (hzl : zero.length = sz) (hlim : len * sz ≤ 16777216)
    {parts : List (Nat × Operand)} {ps : List (Nat × Nat × Arg)} {f : Fr} {a : Act} (hf : FRel κ f a.tmps) (hp : compParts (fun i => some (i * sz, sz)) parts = some ps)
    {cs : List AVal} (hfill : fillA (List.replicate len zero).flatten (ps.map fun (o, z, x) => (o, z, f.ev x)) = some cs) (frozen : Bool) :
    Runs P W κ w (Instr.buildSlice t len (parts.map fun (i, x) => (i, a.eval x)).toArray) (if frozen = true then .fz true len cs else .sl S.length 0 0 len sz) (if frozen = true then S else S ++ [.live 0 cs]) := by
  obtain ⟨i, z, hi, hzz, hzr, hzs⟩ := zeroA_rel hz κ
  have hzlen : z.cells.size = sz := by have := hzr.1; simp at this; omega
  obtain ⟨h1, h2⟩ := compParts_ok hp hf
  obtain ⟨m1, m2⟩ := made_cells (κ := κ) hzl hzr hzs len
  obtain ⟨arr', f1, f2, f3⟩ := fill_ok (fun i => some (i * sz, sz)) _ _ _ _ (madeCells z.cells (len * sz)) h1 h2 m1 m2 hfill
  have hcl : cs.length = arr'.size := by have := f2.1; simpa using this
  have hfl : ∀ (ps : List (Nat × Nat × AVal)) (c o : List AVal), fillA c ps = some o → o.length = c.length := by
    intro ps
    induction ps with
    | nil => intro c o h; simp [fillA] at h; rw [h]
    | cons p ps ih =>
      intro c o h
      obtain ⟨off, size, v⟩ := p
      simp only [fillA] at h
      split at h
      · simp at h
      · rename_i cs hcs
        split at h
        · rename_i hc
          rw [ih _ _ h, splice_length _ _ _ (by omega)]
        · simp at h
  have hsize : arr'.size = len * sz := by
    rw [← hcl, hfl _ _ _ hfill]; simp [hzl]
  have hrun : ∀ ad w', (newRow e arr').run P w = .ok ad w' → (Instr.buildSlice t len (parts.map fun (i, x) => (i, a.eval x)).toArray).run P w = .ok (.slice (some ad) len len) w' := by
    intro ad w' hn
    have hlim' : ¬ (len * sz > 2 ^ 24) := by omega
    unfold Instr.buildSlice
    simp only [Sem.run_bind, run_und ht, Result.andThen_ok, run_size hsz, hlim', if_false]
    by_cases h0 : len * sz = 0
    · have hm0 : madeCells z.cells (len * sz) = (Array.range (len * sz)).map ((#[] : Array Value)[· % (#[] : Array Value).size]!) := by
        rw [h0]; simp [madeCells]
      rw [hm0] at f1
      simp only [h0, if_true, Sem.run_pure, Result.andThen_ok] at f1 ⊢
      simp only [f1, Sem.run_bind, hn, Result.andThen_ok, Sem.run_pure]
    · simp only [h0, if_false, Sem.run_bind, run_zero hi hzz, Result.andThen_ok, Sem.run_pure]
      unfold madeCells at f1
      simp only [f1, Sem.run_bind, hn, Result.andThen_ok, Sem.run_pure]
  cases frozen with
  | false =>
    obtain ⟨ad, w', κ', g1, _, _, g2, g3, g4⟩ := newRow_ok (P := P) h f2 f3 e
    exact ⟨_, w', κ', hrun ad w' g1, by simpa using g2 len sz len (Nat.le_refl _) (by omega), by simpa using g3, g4⟩
  | true =>
    obtain ⟨ad, w', κ', g1, g2, _, g3, g4⟩ := newRowFz_ok (P := P) h f2 f3 e
    exact ⟨_, w', κ', hrun ad w' g1, by simpa using g2 true len len (Nat.le_refl _) (fun _ => rfl), by simpa using g3, g4⟩

end Am
