import Derived.Test.YtffhiphcmohjdaaGreatDoorAmOpsA
set_option linter.all false
/- '==' of arrays and structs of plain cells; composite literals. -/
section
namespace Am
open Go Go.RowKit

variable {P : Program} {W : World} {κ : Kap} {S : St} {w : World}

/-- The value of a type out of its cells. -/
def mkv (P : Program) (t : TypeId) (xs : List Value) : Value :=
  match P.underlying t with
  | some (.struct _) | some (.array ..) => .agg xs.toArray
  | _ => xs.headD undef

theorem run_part_mkv {t : TypeId} {n : Nat} (hsz : sizeP P t = some n) {d : TypeDesc} (hu : P.underlying t = some d) (cs : List Value) (off : Nat) (hle : off + n ≤ cs.length) (h1 : 0 < n) (w : World) :
    (part t cs.toArray off).run P w = .ok (mkv P t ((cs.drop off).take n)) w := by
  have hex : cs.toArray.extract off (off + n) = ((cs.drop off).take n).toArray := by
    apply Array.ext'
    simp [List.extract_eq_take_drop]
  have hlt : off < cs.length := by omega
  have hhead : (((cs.drop off).take n).headD undef) = cs[off] := by
    rw [List.drop_eq_getElem_cons hlt]
    obtain ⟨m, rfl⟩ : ∃ m, n = m + 1 := ⟨n - 1, by omega⟩
    rfl
  unfold part isAgg mkv
  simp only [Sem.run_bind, run_und hu, Result.andThen_ok, hu]
  have hg : cs.toArray[off]? = some cs[off] := by simp [hlt]
  cases d <;> simp only [Sem.run_pure, Result.andThen_ok, if_true, Bool.false_eq_true, if_false, Sem.run_bind, run_size hsz, hex, hg, hhead]

theorem eqFlats_append : ∀ {ks ls : List CK} {a c b d : List AVal} {r : Bool}, a.length = ks.length → c.length = ks.length → eqFlats (ks ++ ls) (a ++ b) (c ++ d) = some r →
    ∃ p q, eqFlats ks a c = some p ∧ eqFlats ls b d = some q ∧ r = (p && q) := by
  intro ks
  induction ks with
  | nil =>
    intro ls a c b d r h h' hr
    have := List.eq_nil_of_length_eq_zero h; subst this
    have := List.eq_nil_of_length_eq_zero h'; subst this
    exact ⟨true, r, rfl, hr, by simp⟩
  | cons k ks ih =>
    intro ls a c b d r h h' hr
    cases a with
    | nil => simp at h
    | cons x a =>
      cases c with
      | nil => simp at h'
      | cons y c =>
        simp only [List.cons_append, eqFlats] at hr
        split at hr
        · rename_i p q hp hq
          cases hr
          obtain ⟨p', q', h1, h2, rfl⟩ := ih (by simpa using h) (by simpa using h') hq
          exact ⟨p && p', q', by simp [eqFlats, hp, h1], h2, by simp [Bool.and_assoc]⟩
        · simp at hr

theorem eqFlats_len : ∀ {ks : List CK} {a b : List AVal} {r : Bool}, eqFlats ks a b = some r → a.length = ks.length ∧ b.length = ks.length := by
  intro ks
  induction ks with
  | nil => intro a b r h; cases a <;> cases b <;> simp [eqFlats] at h ⊢
  | cons k ks ih =>
    intro a b r h
    cases a with
    | nil => simp [eqFlats] at h
    | cons x a => cases b with
      | nil => simp [eqFlats] at h
      | cons y b =>
        simp only [eqFlats] at h
        split at h
        · rename_i p q hp hq
          have := ih hq
          simp [this]
        · simp at h

def CK.fits (P : Program) (t : TypeId) : CK → Prop
  | .i => ∃ j, P.underlying t = some (.int j)
  | .s => P.underlying t = some .string
  | .b => P.underlying t = some .bool

theorem eqFlat1_ok {k : CK} {x y : AVal} {x' y' : Value} (hx : VRel κ x x') (hy : VRel κ y y') {r : Bool} (h : eqFlat k x y = some r) {t : TypeId}
    (ht : k.fits P t) (D : Nat) (w : World) : (Op.equalIn (D + 1) t x' y').run P w = .ok r w := by
  unfold eqFlat at h
  split at h
  · cases hx; cases hy
    split at h
    · rename_i hk; subst hk
      cases h
      obtain ⟨j, ht⟩ := ht
      exact run_equalIn_int w D t _ _ _ _ ht
    · simp at h
  · cases hx with
    | str _ b1 h1 => cases hy with
      | str _ b2 h2 =>
        cases h
        rw [run_equalIn_string w D t b1 b2 ht, toList_eq, toList_eq, h1, h2]
  · cases hx; cases hy; cases h
    exact run_equalIn_bool w D t _ _ ht
  · simp at h

/-- What 'flatK' says of a type: its values are held against each other cell by cell. -/
def EqOk (P : Program) (κ : Kap) (D : Nat) (t : TypeId) (ks : List CK) : Prop :=
  ∀ (a b : List AVal) (xs ys : List Value) (r : Bool) (w : World), VRelL κ a xs → VRelL κ b ys → eqFlats ks a b = some r →
    (Op.equalIn D t (mkv P t xs) (mkv P t ys)).run P w = .ok r w

theorem eqFields_ok (D : Nat) : ∀ (fs : List Field) (off : Nat) (ks : List CK) (g : TypeId → Option (List CK)), flatK.flatF g P fs off = some ks →
    (∀ f ∈ fs, ∀ l, g f.type = some l → EqOk P κ D f.type l ∧ ∃ d, P.underlying f.type = some d) →
    ∀ (a b : List AVal) (xs ys : List Value) (r : Bool) (w : World), VRelL κ a xs → VRelL κ b ys → eqFlats ks (a.drop off) (b.drop off) = some r →
      (Op.eqFields D xs.toArray ys.toArray fs).run P w = .ok r w := by
  intro fs
  induction fs with
  | nil =>
    intro off ks g hf _ a b xs ys r w _ _ hr
    simp [flatK.flatF] at hf; subst hf
    have := eqFlats_len hr
    have h1 : a.drop off = [] := List.eq_nil_of_length_eq_zero this.1
    have h2 : b.drop off = [] := List.eq_nil_of_length_eq_zero this.2
    rw [h1, h2] at hr
    simp [eqFlats] at hr
    subst hr
    simp [Op.eqFields]
  | cons f fs ih =>
    intro off ks g hf hg a b xs ys r w ha hb hr
    simp only [flatK.flatF] at hf
    split at hf
    · rename_i l hl
      split at hf
      · rename_i hc
        obtain ⟨ho, hn, hs, hne⟩ := hc
        simp only [Option.map_eq_some_iff] at hf
        obtain ⟨ks', hks, rfl⟩ := hf
        obtain ⟨hE, d, hd⟩ := hg f (by simp) l hl
        have hlen := eqFlats_len hr
        simp only [List.length_append, List.length_drop] at hlen
        have hla : l.length ≤ (a.drop off).length := by simp; omega
        have hlb : l.length ≤ (b.drop off).length := by simp; omega
        rw [← List.take_append_drop l.length (a.drop off), ← List.take_append_drop l.length (b.drop off)] at hr
        obtain ⟨p, q, hp, hq, rfl⟩ := eqFlats_append (by simp at hla ⊢; omega) (by simp at hlb ⊢; omega) hr
        rw [List.drop_drop, List.drop_drop] at hq
        have hpos : 0 < l.length := List.length_pos_iff.2 hne
        have hxl := ha.1
        have hyl := hb.1
        have e1 := hE _ _ _ _ p w ((ha.drop off).take l.length) ((hb.drop off).take l.length) hp
        have e2 := ih (off + l.length) ks' g hks (fun f hf => hg f (by simp [hf])) a b xs ys q w ha hb hq
        have r1 := run_part_mkv (P := P) hs hd xs off (by omega) hpos w
        have r2 := run_part_mkv (P := P) hs hd ys off (by omega) hpos w
        unfold Op.eqFields
        rw [if_pos hn]
        simp only [Sem.run_bind, ho, r1, r2, Result.andThen_ok, e1, Sem.run_ite, Sem.run_pure, e2]
        cases p <;> simp
      · simp at hf
    · simp at hf

theorem run_eqArray (D : Nat) (t e : TypeId) (n : Nat) (xs ys : Array Value) (ht : P.underlying t = some (.array n e)) {sz : Nat} (hsz : sizeP P e = some sz) (step : Nat → Bool) (w : World)
    (hstep : ∀ i, i < n → ∃ u v, (part e xs (i * sz)).run P w = .ok u w ∧ (part e ys (i * sz)).run P w = .ok v w ∧ (Op.equalIn D e u v).run P w = .ok (step i) w) :
    (Op.equalIn (D + 1) t (.agg xs) (.agg ys)).run P w = .ok ((List.range n).all step) w := by
  simp only [Op.equalIn, Sem.run_bind, run_und ht, Result.andThen_ok, run_size hsz]
  rw [Std.Legacy.Range.forIn_eq_forIn_range']
  simp only [Std.Legacy.Range.size, Nat.sub_zero, Nat.add_sub_cancel, Nat.div_one]
  rw [← List.range_eq_range']
  have hall : ∀ l : List Nat, (∀ i ∈ l, i < n) → (Sem.run P (forIn l ((none, ()) : Option Bool × Unit) fun i __s => do
            let __do_lift ← part e xs (i * sz)
            let __do_lift_1 ← part e ys (i * sz)
            let __do_lift ← Op.equalIn D e __do_lift __do_lift_1
            if (!__do_lift) = true then pure (ForInStep.done (some false, ())) else pure (ForInStep.yield (none, ())))
          w) = .ok (if l.all step = true then none else some false, ()) w := by
    intro l
    induction l with
    | nil => intro _; simp
    | cons i l ih =>
      intro hl
      obtain ⟨u, v, h1, h2, h3⟩ := hstep i (hl i (by simp))
      have ih' := ih (fun j hj => hl j (by simp [hj]))
      simp only [List.forIn_cons, Sem.run_bind, h1, h2, h3, Result.andThen_ok, List.all_cons]
      by_cases hst : step i = true
      · simp only [hst, Bool.not_true, Bool.false_eq_true, if_false, Sem.run_pure, Result.andThen_ok, Bool.true_and]
        exact ih'
      · simp only [Bool.not_eq_true] at hst
        simp only [hst, Bool.not_false, if_true, Sem.run_pure, Result.andThen_ok, Bool.false_and, Bool.false_eq_true, if_false]
  rw [hall _ (fun i hi => by simpa using hi)]
  simp only [Result.andThen_ok]
  cases (List.range n).all step <;> simp

theorem eqArr_ok (D : Nat) {t e : TypeId} {n : Nat} {ks : List CK} (ht : P.underlying t = some (.array n e)) (hs : sizeP P e = some ks.length) (hne : ks ≠ []) {d : TypeDesc} (hd : P.underlying e = some d)
    (hE : EqOk P κ D e ks) : ∀ (a b : List AVal) (xs ys : List Value) (r : Bool) (w : World), VRelL κ a xs → VRelL κ b ys → eqFlats (List.replicate n ks).flatten a b = some r →
      (Op.equalIn (D + 1) t (.agg xs.toArray) (.agg ys.toArray)).run P w = .ok r w := by
  intro a b xs ys r w ha hb hr
  have hpos : 0 < ks.length := List.length_pos_iff.2 hne
  have hlen := eqFlats_len hr
  have hfl : ((List.replicate n ks).flatten).length = n * ks.length := by simp
  rw [hfl] at hlen
  have key : ∀ (m off : Nat), off + m * ks.length ≤ a.length → off + m * ks.length ≤ b.length → ∀ q, eqFlats (List.replicate m ks).flatten ((a.drop off).take (m * ks.length)) ((b.drop off).take (m * ks.length)) = some q →
      ∃ f : Nat → Bool, (∀ i, i < m → eqFlats ks ((a.drop (off + i * ks.length)).take ks.length) ((b.drop (off + i * ks.length)).take ks.length) = some (f i)) ∧ q = (List.range m).all f := by
    intro m
    induction m with
    | zero => intro off _ _ q hq; simp [eqFlats] at hq; exact ⟨fun _ => true, by simp, by simp [← hq]⟩
    | succ m ih =>
      intro off h1 h2 q hq
      rw [Nat.add_mul] at h1 h2
      have e1 : ∀ l : List AVal, off + (m + 1) * ks.length ≤ l.length → (l.drop off).take ((m + 1) * ks.length) = (l.drop off).take ks.length ++ (l.drop (off + ks.length)).take (m * ks.length) := by
        intro l hl
        rw [show (m + 1) * ks.length = ks.length + m * ks.length from by rw [Nat.add_mul]; omega, List.take_add, List.drop_drop]
      rw [e1 a (by rw [Nat.add_mul]; omega), e1 b (by rw [Nat.add_mul]; omega), List.replicate_succ, List.flatten_cons] at hq
      obtain ⟨p, q', hp, hq', rfl⟩ := eqFlats_append (by simp; omega) (by simp; omega) hq
      obtain ⟨f, hf, rfl⟩ := ih (off + ks.length) (by omega) (by omega) q' hq'
      refine ⟨fun i => if i = 0 then p else f (i - 1), fun i hi => ?_, ?_⟩
      · by_cases h0 : i = 0
        · subst h0; simpa using hp
        · simp only [h0, if_false]
          have := hf (i - 1) (by omega)
          rw [show off + i * ks.length = off + ks.length + (i - 1) * ks.length from by
            obtain ⟨j, rfl⟩ : ∃ j, i = j + 1 := ⟨i - 1, by omega⟩
            rw [Nat.add_mul]; simp; omega]
          exact this
      · rw [List.range_succ_eq_map, List.all_cons]
        simp [List.all_map, Function.comp_def]
  have hr' : eqFlats (List.replicate n ks).flatten ((a.drop 0).take (n * ks.length)) ((b.drop 0).take (n * ks.length)) = some r := by
    rw [List.drop_zero, List.drop_zero, List.take_of_length_le (by omega), List.take_of_length_le (by omega)]; exact hr
  obtain ⟨f, hf, rfl⟩ := key n 0 (by omega) (by omega) r hr'
  have hxl := ha.1
  have hyl := hb.1
  refine run_eqArray D t e n xs.toArray ys.toArray ht hs f w (fun i hi => ?_)
  have hmul : i * ks.length + ks.length ≤ n * ks.length := by
    have : (i + 1) * ks.length ≤ n * ks.length := Nat.mul_le_mul_right _ (by omega)
    rw [Nat.add_mul] at this; omega
  refine ⟨_, _, run_part_mkv hs hd xs _ (by omega) hpos w, run_part_mkv hs hd ys _ (by omega) hpos w, ?_⟩
  have := hf i hi
  rw [Nat.zero_add] at this
  exact hE _ _ _ _ _ w ((ha.drop _).take _) ((hb.drop _).take _) this

theorem flatF_und {g : TypeId → Option (List CK)} {fs : List Field} {off : Nat} {ks : List CK} (h : flatK.flatF g P fs off = some ks) : ∀ f ∈ fs, ∃ l, g f.type = some l := by
  induction fs generalizing off ks with
  | nil => intro f hf; simp at hf
  | cons f fs ih =>
    intro f' hf'
    simp only [flatK.flatF] at h
    split at h
    · rename_i l hl
      split at h
      · simp only [Option.map_eq_some_iff] at h
        obtain ⟨ks', hks, _⟩ := h
        rcases List.mem_cons.1 hf' with rfl | hf'
        · exact ⟨l, hl⟩
        · exact ih hks f' hf'
      · simp at h
    · simp at h

theorem flatK_ok : ∀ (d : Nat) (t : TypeId) (ks : List CK), flatK P d t = some ks → (∃ u, P.underlying t = some u) ∧ ∀ D, d ≤ D → EqOk P κ D t ks := by
  intro d
  induction d with
  | zero => intro t ks h; simp [flatK] at h
  | succ d ih =>
    intro t ks h
    simp only [flatK] at h
    have scal : ∀ k : CK, k.fits P t → ks = [k] → (mkv P t = fun xs => xs.headD undef) → ∀ D, d + 1 ≤ D → EqOk P κ D t ks := by
      intro k hk hks hm D hD a b xs ys r w ha hb hr
      subst hks
      have hl := eqFlats_len hr
      obtain ⟨x, rfl⟩ := List.length_eq_one_iff.1 hl.1
      obtain ⟨y, rfl⟩ := List.length_eq_one_iff.1 hl.2
      obtain ⟨x', _, rfl, hx, hn⟩ := ha.uncons
      obtain ⟨y', _, rfl, hy, hn'⟩ := hb.uncons
      have := hn.unnil; subst this
      have := hn'.unnil; subst this
      rw [hm]
      obtain ⟨D, rfl⟩ : ∃ D', D = D' + 1 := ⟨D - 1, by omega⟩
      simp only [eqFlats] at hr
      split at hr
      · rename_i p q hp hq
        cases hq; cases hr
        simpa using eqFlat1_ok hx hy hp hk D w
      · simp at hr
    split at h
    · rename_i j hu
      split at h
      · cases h
        exact ⟨⟨_, hu⟩, scal .i ⟨j, hu⟩ rfl (by funext xs; simp [mkv, hu])⟩
      · simp at h
    · rename_i hu
      split at h
      · cases h
        exact ⟨⟨_, hu⟩, scal .s hu rfl (by funext xs; simp [mkv, hu])⟩
      · simp at h
    · rename_i hu
      split at h
      · cases h
        exact ⟨⟨_, hu⟩, scal .b hu rfl (by funext xs; simp [mkv, hu])⟩
      · simp at h
    · rename_i n e hu
      split at h
      · rename_i l hl
        split at h
        · rename_i hc
          cases h
          obtain ⟨⟨u, hue⟩, hE⟩ := ih e l hl
          refine ⟨⟨_, hu⟩, fun D hD a b xs ys r w ha hb hr => ?_⟩
          obtain ⟨D, rfl⟩ : ∃ D', D = D' + 1 := ⟨D - 1, by omega⟩
          have hm : ∀ xs, mkv P t xs = .agg xs.toArray := fun xs => by simp [mkv, hu]
          rw [hm, hm]
          exact eqArr_ok D hu hc.1 hc.2 hue (hE D (by omega)) a b xs ys r w ha hb hr
        · simp at h
      · simp at h
    · rename_i fs hu
      split at h
      · simp at h
      · rename_i hst
        refine ⟨⟨_, hu⟩, fun D hD a b xs ys r w ha hb hr => ?_⟩
        obtain ⟨D, rfl⟩ : ∃ D', D = D' + 1 := ⟨D - 1, by omega⟩
        have hm : ∀ xs, mkv P t xs = .agg xs.toArray := fun xs => by simp [mkv, hu]
        have hfo : P.fieldsOf t = fs := by simp [Program.fieldsOf, hu]
        rw [hm, hm, run_equalIn_struct w D t xs.toArray ys.toArray (by rw [hfo]; exact hu) (by simpa using hst), hfo]
        exact eqFields_ok D fs.toList 0 ks _ h (fun f hf l hl => ⟨(ih f.type l hl).2 D (by omega), (ih f.type l hl).1⟩) a b xs ys r w ha hb (by simpa using hr)
    · simp at h

theorem eqA_ok (h : Rel W κ S w) {t : TypeId} {ks : List CK} (hk : flatK P 20 t = some ks) {a b : List AVal} {x' y' : Value} (hx : VRel κ (.agg a) x') (hy : VRel κ (.agg b) y') {r : Bool}
    (hr : eqFlats ks a b = some r) (hagg : mkv P t = fun xs => .agg xs.toArray) : (Op.equal t x' y').run P w = .ok r w := by
  cases hx with
  | agg _ xs hl hsc hre =>
    cases hy with
    | agg _ ys hl' hsc' hre' =>
      have := (flatK_ok (κ := κ) 20 t ks hk).2 10000 (by omega) a b xs ys r w ⟨hl, hre⟩ ⟨hl', hre'⟩ hr
      rw [hagg] at this
      exact this

theorem mapM_sem {α β : Type} {f : α → Option β} {g : α → Sem β} (hg : ∀ a b, f a = some b → ∀ w, (g a).run P w = .ok b w) : ∀ (l : List α) (r : List β), l.mapM f = some r → ∀ w, (l.mapM g).run P w = .ok r w := by
  intro l
  induction l with
  | nil => intro r h w; simp at h; subst h; simp
  | cons a l ih =>
    intro r h w
    simp only [List.mapM_cons, Option.pure_def, Option.bind_eq_bind, Option.bind_eq_some_iff] at h
    obtain ⟨b, hb, r', hr', h⟩ := h
    cases h
    simp only [List.mapM_cons, Sem.run_bind, hg a b hb, Result.andThen_ok, ih r' hr', Sem.run_pure]

theorem build_ok (h : Rel W κ S w) {t : TypeId} {zero : List AVal} (hz : zeroA P t = some zero) {parts : List (Nat × Operand)} {ps : List (Nat × Nat × Arg)} {f : Fr} {a : Act} (hf : FRel κ f a.tmps)
    (hp : (∃ fields sizes, P.underlying t = some (.struct fields) ∧ fields.toList.mapM (fun f => do pure (f.offset, ← sizeP P f.type)) = some sizes ∧ compParts (sizes[·]?) parts = some ps) ∨
      (∃ n e sz, P.underlying t = some (.array n e) ∧ sizeP P e = some sz ∧ compParts (fun i => some (i * sz, sz)) parts = some ps))
    {cs : List AVal} (hfill : fillA zero (ps.map fun (o, z, x) => (o, z, f.ev x)) = some cs) :
    Runs P W κ w (Instr.build t (parts.map fun (i, x) => (i, a.eval x)).toArray) (.agg cs) S := by
  obtain ⟨i, z, hi, hzz, hzr, hzs⟩ := zeroA_rel hz κ
  rcases hp with ⟨fields, sizes, hu, hm, hc⟩ | ⟨n, e, sz, hu, hsz, hc⟩
  · obtain ⟨h1, h2⟩ := compParts_ok hc hf
    obtain ⟨arr', f1, f2, f3⟩ := fill_ok _ _ _ _ _ z.cells h1 h2 hzr hzs hfill
    have hms : ∀ w, (fields.mapM fun f => do pure (f.offset, ← Go.sizeOf f.type) : Sem (Array (Nat × Nat))).run P w = .ok sizes.toArray w := by
      intro w
      have := mapM_sem (P := P) (f := fun f : Field => do pure (f.offset, ← sizeP P f.type)) (g := fun f => do pure (f.offset, ← Go.sizeOf f.type)) (by
        intro fd b hb w
        simp only [Option.pure_def, Option.bind_eq_bind, Option.bind_eq_some_iff] at hb
        obtain ⟨n, hn, hb⟩ := hb
        cases hb
        simp [run_size hn]) fields.toList sizes hm w
      rw [Array.mapM_eq_mapM_toList]
      rw [Sem.run_map, this]
      rfl
    refine .pure h (v' := .agg arr') ?_ ?_
    · simp only [Instr.build, Sem.run_bind, run_zero hi hzz, Result.andThen_ok, run_und hu, hms]
      have : (fun x : Nat => sizes.toArray[x]?) = fun x : Nat => sizes[x]? := by funext x; simp
      simp only [this, List.getElem?_toArray, f1, Sem.run_pure]
    · have := VRel.agg cs arr'.toList f2.1 f3 f2.2
      simpa using this
  · obtain ⟨h1, h2⟩ := compParts_ok hc hf
    obtain ⟨arr', f1, f2, f3⟩ := fill_ok (fun i => some (i * sz, sz)) _ _ _ _ z.cells h1 h2 hzr hzs hfill
    refine .pure h (v' := .agg arr') ?_ ?_
    · simp only [Instr.build, Sem.run_bind, run_zero hi hzz, Result.andThen_ok, run_und hu, run_size hsz, f1, Sem.run_pure]
    · have := VRel.agg cs arr'.toList f2.1 f3 f2.2
      simpa using this

theorem flat_mod {zero : List AVal} {sz : Nat} (hzl : zero.length = sz) : ∀ (n j : Nat) x, (List.replicate n zero).flatten[j]? = some x → zero[j % sz]? = some x := by
  intro n
  induction n with
  | zero => intro j x hx; simp at hx
  | succ n ih =>
    intro j x hx
    rw [List.replicate_succ, List.flatten_cons, List.getElem?_append, hzl] at hx
    split at hx
    · rename_i hj; rw [Nat.mod_eq_of_lt hj]; exact hx
    · rename_i hj
      have := ih (j - sz) x hx
      rw [Nat.mod_eq_sub_mod (by omega)]; exact this

theorem made_cells {z : Value} {zero : List AVal} {sz : Nat} (hzl : zero.length = sz) (hzr : VRelL κ zero z.cells.toList) (hzs : ∀ y ∈ z.cells.toList, scalar y) (n : Nat) :
    VRelL κ (List.replicate n zero).flatten (madeCells z.cells (n * sz)).toList ∧ ∀ y ∈ (madeCells z.cells (n * sz)).toList, scalar y := by
  have hzlen : z.cells.size = sz := by have := hzr.1; simp at this; omega
  have hsc : ∀ (j : Nat) y, (madeCells z.cells (n * sz))[j]? = some y → scalar y ∧ z.cells[j % sz]? = some y := by
    intro j y hy
    have hj : j < n * sz := by have := (Array.getElem?_eq_some_iff.1 hy).1; rwa [size_madeCells] at this
    have hsz0 : 0 < sz := by
      rcases Nat.eq_zero_or_pos sz with h | h
      · rw [h] at hj; simp at hj
      · exact h
    have hm : j % sz < z.cells.size := by rw [hzlen]; exact Nat.mod_lt _ hsz0
    simp only [madeCells, Array.getElem?_map, Array.getElem?_range, Option.map_eq_some_iff] at hy
    obtain ⟨q, hq, hy⟩ := hy
    rw [if_pos hj] at hq
    cases hq
    rw [hzlen, getElem!_pos z.cells (j % sz) hm] at hy
    exact ⟨hzs y (by rw [← hy]; simp), by rw [← hy]; simp [hm]⟩
  refine ⟨⟨by simp [hzl, size_madeCells], fun j x y hx hy => ?_⟩, fun y hy => ?_⟩
  · exact hzr.2 (j % sz) x y (flat_mod hzl n j x hx) (by simpa using (hsc j y (by simpa using hy)).2)
  · obtain ⟨j, hj⟩ := List.getElem?_of_mem hy
    exact (hsc j y (by simpa using hj)).1

theorem bslice_ok (h : Rel W κ S w) {t e : TypeId} {sz len : Nat} {zero : List AVal} (ht : P.underlying t = some (.slice e)) (hsz : sizeP P e = some sz) (hz : zeroA P e = some zero) (hzl : zero.length = sz) (hlim : len * sz ≤ 16777216)
    {parts : List (Nat × Operand)} {ps : List (Nat × Nat × Arg)} {f : Fr} {a : Act} (hf : FRel κ f a.tmps) (hp : compParts (fun i => some (i * sz, sz)) parts = some ps)
    {cs : List AVal} (hfill : fillA (List.replicate len zero).flatten (ps.map fun (o, z, x) => (o, z, f.ev x)) = some cs) (frozen : Bool) :
    Runs P W κ w (Instr.buildSlice t len (parts.map fun (i, x) => (i, a.eval x)).toArray) (if frozen = true then .fz true len cs else .sl S.length 0 0 len sz) (if frozen = true then S else S ++ [.live 0 cs]) := by
  obtain ⟨i, z, hi, hzz, hzr, hzs⟩ := zeroA_rel hz κ
  have hzlen : z.cells.size = sz := by have := hzr.1; simp at this; omega
  obtain ⟨h1, h2⟩ := compParts_ok hp hf
  obtain ⟨m1, m2⟩ := made_cells (κ := κ) hzl hzr hzs len
  obtain ⟨arr', f1, f2, f3⟩ := fill_ok (fun i => some (i * sz, sz)) _ _ _ _ (madeCells z.cells (len * sz)) h1 h2 m1 m2 hfill
  have hcl : cs.length = arr'.size := by have := f2.1; simpa using this
  have hfl : ∀ (ps : List (Nat × Nat × AVal)) (c o : List AVal), fillA c ps = some o → o.length = c.length := by
    intro ps
    induction ps with
    | nil => intro c o h; simp [fillA] at h; rw [h]
    | cons p ps ih =>
      intro c o h
      obtain ⟨off, size, v⟩ := p
      simp only [fillA] at h
      split at h
      · simp at h
      · rename_i cs hcs
        split at h
        · rename_i hc
          rw [ih _ _ h, splice_length _ _ _ (by omega)]
        · simp at h
  have hsize : arr'.size = len * sz := by
    rw [← hcl, hfl _ _ _ hfill]; simp [hzl]
  have hrun : ∀ ad w', (newRow e arr').run P w = .ok ad w' → (Instr.buildSlice t len (parts.map fun (i, x) => (i, a.eval x)).toArray).run P w = .ok (.slice (some ad) len len) w' := by
    intro ad w' hn
    have hlim' : ¬ (len * sz > 2 ^ 24) := by omega
    unfold Instr.buildSlice
    simp only [Sem.run_bind, run_und ht, Result.andThen_ok, run_size hsz, hlim', if_false]
    by_cases h0 : len * sz = 0
    · have hm0 : madeCells z.cells (len * sz) = (Array.range (len * sz)).map ((#[] : Array Value)[· % (#[] : Array Value).size]!) := by
        rw [h0]; simp [madeCells]
      rw [hm0] at f1
      simp only [h0, if_true, Sem.run_pure, Result.andThen_ok] at f1 ⊢
      simp only [f1, Sem.run_bind, hn, Result.andThen_ok, Sem.run_pure]
    · simp only [h0, if_false, Sem.run_bind, run_zero hi hzz, Result.andThen_ok, Sem.run_pure]
      unfold madeCells at f1
      simp only [f1, Sem.run_bind, hn, Result.andThen_ok, Sem.run_pure]
  cases frozen with
  | false =>
    obtain ⟨ad, w', κ', g1, _, _, g2, g3, g4⟩ := newRow_ok (P := P) h f2 f3 e
    exact ⟨_, w', κ', hrun ad w' g1, by simpa using g2 len sz len (Nat.le_refl _) (by omega), by simpa using g3, g4⟩
  | true =>
    obtain ⟨ad, w', κ', g1, g2, _, g3, g4⟩ := newRowFz_ok (P := P) h f2 f3 e
    exact ⟨_, w', κ', hrun ad w' g1, by simpa using g2 true len len (Nat.le_refl _) (fun _ => rfl), by simpa using g3, g4⟩

end Am
end

/- An operation that was translated stands for the model's. -/
section
namespace Am
open Go Go.RowKit

variable {P : Program} {W : World} {κ : Kap} {S : St} {w : World} {f : Fr} {a : Act} {fs : List FuncId} {fz : Bool}

/-- What an operation that calls nothing comes to. -/
def OpRuns (P : Program) (W : World) (κ : Kap) (w : World) (ρ : Operand → Value) (o : Oper) (v : AVal) (S' : St) : Prop :=
  ∃ nx w' κ', (execOp ρ o).run P w = .ok nx w' ∧ ((∃ v', nx = .value v' ∧ VRel κ' v v') ∨ (nx = .skip ∧ v = .junk)) ∧ Rel W κ' S' w' ∧ κ.le κ'

theorem OpRuns.of {ρ : Operand → Value} {o : Oper} {v : AVal} {S' : St} {m : Sem Value} (hm : ∀ v' w', m.run P w = .ok v' w' → (execOp ρ o).run P w = .ok (.value v') w') (h : Runs P W κ w m v S') : OpRuns P W κ w ρ o v S' := by
  obtain ⟨v', w', κ', h1, h2, h3, h4⟩ := h
  exact ⟨_, w', κ', hm _ _ h1, .inl ⟨v', rfl, h2⟩, h3, h4⟩

theorem same_some {S S' : St} {x : Option AVal} {v : AVal} (h : same S x = some (v, S')) : x = some v ∧ S' = S := by
  unfold same at h
  cases x with
  | none => simp at h
  | some y => simp at h; exact ⟨by rw [h.1], h.2.symm⟩

abbrev OpOk (P : Program) (fs : List FuncId) (fz : Bool) (op : Op) : Prop :=
  ∀ (W : World) (κ : Kap) (S : St) (w : World) (f : Fr) (a : Act) (o : Oper) (aop : AOp) (v : AVal) (S' : St), o.op = op → compOp1 P fs fz op = some (.inl aop) → FRel κ f a.tmps → Rel W κ S w →
    evOp f.ev S aop = some (v, S') → OpRuns P W κ w a.eval o v S'

theorem fgt_ok {x : Operand} {ax : Arg} (hax : argA x = some ax) (hf : FRel κ f a.tmps) (h : Rel W κ S w) {v : AVal} {S' : St} (hv : evOp f.ev S (.fgt ax) = some (v, S')) {o : Oper}
    (hr : (execOp a.eval o).run P w = .ok (.value (a.eval x)) w) : OpRuns P W κ w a.eval o v S' := by
  have r := argA_rel (κ := κ) hax hf
  simp only [evOp] at hv
  split at hv
  · rename_i e
    cases hv
    rw [e] at r
    refine ⟨_, w, κ, hr, .inl ⟨_, rfl, ?_⟩, h, Kap.le_refl κ⟩
    generalize a.eval x = u at r
    cases r with
    | slm _ _ _ _ _ _ inf a c hr hver hlm hmcc hext => exact .sl _ _ _ _ _ inf a c hr hver (by omega) hext
  · simp at hv

theorem ok_move (x : Operand) : OpOk P fs fz (.move x) := by
  intro W κ S w f a o aop v S' ho hc hf h hv
  simp only [compOp1, Option.bind_eq_bind, Option.bind_eq_some_iff, Option.pure_def, Option.some.injEq, Sum.inl.injEq] at hc
  obtain ⟨ax, hax, rfl⟩ := hc
  split at hv
  · exact fgt_ok hax hf h (by simpa using hv) (by simp only [execOp, ho, Sem.run_pure])
  simp only [evOp, Option.some.injEq, Prod.mk.injEq] at hv
  obtain ⟨rfl, rfl⟩ := hv
  exact ⟨_, w, κ, by simp only [execOp, ho, Sem.run_pure], .inl ⟨_, rfl, argA_rel hax hf⟩, h, Kap.le_refl κ⟩

theorem ok_assign (x : Operand) : OpOk P fs fz (.assign x) := by
  intro W κ S w f a o aop v S' ho hc hf h hv
  simp only [compOp1, Option.bind_eq_bind, Option.bind_eq_some_iff, Option.pure_def, Option.some.injEq, Sum.inl.injEq] at hc
  obtain ⟨ax, hax, rfl⟩ := hc
  split at hv
  · exact fgt_ok hax hf h (by simpa using hv) (by simp only [execOp, ho, Sem.run_pure])
  simp only [evOp, Option.some.injEq, Prod.mk.injEq] at hv
  obtain ⟨rfl, rfl⟩ := hv
  exact ⟨_, w, κ, by simp only [execOp, ho, Sem.run_pure], .inl ⟨_, rfl, argA_rel hax hf⟩, h, Kap.le_refl κ⟩

theorem ok_pick (c x y : Operand) : OpOk P fs fz (.pick c x y) := by
  intro W κ S w f a o aop v S' ho hc hf h hv
  simp only [compOp1, Option.bind_eq_bind, Option.bind_eq_some_iff, Option.pure_def, Option.some.injEq, Sum.inl.injEq] at hc
  obtain ⟨ac, hac, ax, hax, ay, hay, rfl⟩ := hc
  simp only [evOp] at hv
  have r := argA_rel (κ := κ) hac hf
  split at hv
  · rename_i t ht
    rw [ht] at r
    cases hr : a.eval c with
    | bool b =>
      rw [hr] at r
      cases r
      cases hv
      refine ⟨.value (if t = true then a.eval x else a.eval y), w, κ, by simp [execOp, ho, asBool, hr], .inl ⟨_, rfl, ?_⟩, h, Kap.le_refl κ⟩
      cases t
      · simpa using argA_rel hay hf
      · simpa using argA_rel hax hf
    | _ => rw [hr] at r; cases r
  · simp at hv

theorem ok_alloc (e : TypeId) : OpOk P fs fz (.alloc e) := by
  intro W κ S w f a o aop v S' ho hc hf h hv
  simp only [compOp1, Option.bind_eq_bind, Option.bind_eq_some_iff, Option.pure_def, Option.some.injEq, Sum.inl.injEq] at hc
  obtain ⟨z, hz, rfl⟩ := hc
  simp only [evOp, Option.some.injEq, Prod.mk.injEq] at hv
  obtain ⟨rfl, rfl⟩ := hv
  exact .of (fun v' w' h' => by simp [execOp, ho, h']) (alloc_ok h hz)

theorem ok_box (e : TypeId) (x : Operand) : OpOk P fs fz (.box e x) := by
  intro W κ S w f a o aop v S' ho hc hf h hv
  simp only [compOp1, Option.bind_eq_bind, Option.bind_eq_some_iff, Option.pure_def, Option.some.injEq, Sum.inl.injEq] at hc
  obtain ⟨ax, hax, rfl⟩ := hc
  simp only [evOp] at hv
  split at hv
  · rename_i cs hcs
    cases hv
    exact .of (fun v' w' h' => by simp [execOp, ho, h']) (box_ok h e (argA_rel hax hf) hcs)
  · simp at hv

theorem ok_build (t : TypeId) (parts : Array (Nat × Operand)) : OpOk P fs fz (.build t parts) := by
  intro W κ S w f a o aop v S' ho hc hf h hv
  simp only [compOp1, Option.bind_eq_bind, Option.bind_eq_some_iff, Option.pure_def] at hc
  obtain ⟨zero, hz, d, hd, hc⟩ := hc
  have fin : ∀ ps, aop = .build zero ps → ((∃ fields sizes, P.underlying t = some (.struct fields) ∧ fields.toList.mapM (fun f => do pure (f.offset, ← sizeP P f.type)) = some sizes ∧ compParts (sizes[·]?) parts.toList = some ps) ∨
      (∃ n e sz, P.underlying t = some (.array n e) ∧ sizeP P e = some sz ∧ compParts (fun i => some (i * sz, sz)) parts.toList = some ps)) → OpRuns P W κ w a.eval o v S' := by
    rintro ps rfl hp
    simp only [evOp] at hv
    replace hv := same_some hv; obtain ⟨hv, rfl⟩ := hv
    simp only [Option.map_eq_some_iff] at hv
    obtain ⟨cs, hcs, rfl⟩ := hv
    have := build_ok (P := P) h hz hf hp hcs
    refine .of (fun v' w' h' => ?_) this
    have e : (parts.map fun (i, x) => (i, a.eval x)) = (parts.toList.map fun (i, x) => (i, a.eval x)).toArray := by
      apply Array.ext'; simp
    simp only [execOp, ho, Sem.run_bind, e, h', Result.andThen_ok, Sem.run_pure]
  split at hc
  · rename_i fields
    simp only [Option.bind_eq_some_iff, Option.some.injEq, Sum.inl.injEq] at hc
    obtain ⟨sizes, hm, ps, hps, rfl⟩ := hc
    exact fin ps rfl (.inl ⟨fields, sizes, hd, by simpa using hm, hps⟩)
  · rename_i n e
    simp only [Option.bind_eq_some_iff, Option.some.injEq, Sum.inl.injEq] at hc
    obtain ⟨sz, hsz, ps, hps, rfl⟩ := hc
    exact fin ps rfl (.inr ⟨n, e, sz, hd, hsz, hps⟩)
  · simp at hc

theorem ok_buildSlice (t : TypeId) (len : Nat) (parts : Array (Nat × Operand)) : OpOk P fs fz (.buildSlice t len parts) := by
  intro W κ S w f a o aop v S' ho hc hf h hv
  simp only [compOp1, Option.bind_eq_bind, Option.bind_eq_some_iff, Option.pure_def] at hc
  obtain ⟨d, hd, hc⟩ := hc
  split at hc
  · rename_i e
    simp only [Option.bind_eq_some_iff] at hc
    obtain ⟨sz, hsz, zero, hz, hc⟩ := hc
    split at hc
    · simp at hc
    · rename_i hzl
      split at hc
      · simp at hc
      · rename_i hlim
        simp only [Option.bind_some, Option.bind_eq_some_iff, Option.some.injEq, Sum.inl.injEq] at hc
        obtain ⟨ps, hps, rfl⟩ := hc
        simp only [evOp] at hv
        split at hv
        · rename_i cs hcs
          have := bslice_ok (P := P) h hd hsz hz (by omega) (by omega) hf hps hcs fz
          have e2 : (parts.map fun (i, x) => (i, a.eval x)) = (parts.toList.map fun (i, x) => (i, a.eval x)).toArray := by
            apply Array.ext'; simp
          have hvv : v = (if fz = true then .fz true len cs else .sl S.length 0 0 len sz) ∧ S' = (if fz = true then S else S ++ [.live 0 cs]) := by
            cases fz <;> simp at hv ⊢ <;> exact ⟨hv.1.symm, hv.2.symm⟩
          rw [hvv.1, hvv.2]
          refine .of (fun v' w' h' => ?_) this
          simp only [execOp, ho, Sem.run_bind, e2, h', Result.andThen_ok, Sem.run_pure]
        · simp at hv
  · simp at hc

theorem ok_load (t : TypeId) (x : Operand) : OpOk P fs fz (.load t x) := by
  intro W κ S w f a o aop v S' ho hc hf h hv
  simp only [compOp1, Option.bind_eq_bind, Option.bind_eq_some_iff, Option.pure_def, Option.some.injEq, Sum.inl.injEq] at hc
  obtain ⟨n, hn, ax, hax, rfl⟩ := hc
  simp only [evOp] at hv
  replace hv := same_some hv; obtain ⟨hv, rfl⟩ := hv
  exact .of (fun v' w' h' => by simp [execOp, ho, h']) (loadAt_ok h hn (argA_rel hax hf) hv)

theorem ok_store (t : TypeId) (x y : Operand) : OpOk P fs fz (.store t x y) := by
  intro W κ S w f a o aop v S' ho hc hf h hv
  simp only [compOp1, Option.bind_eq_bind, Option.bind_eq_some_iff, Option.pure_def, Option.some.injEq, Sum.inl.injEq] at hc
  obtain ⟨n, hn, ax, hax, ay, hay, rfl⟩ := hc
  simp only [evOp, Option.map_eq_some_iff] at hv
  obtain ⟨S1, hs, hv⟩ := hv
  cases hv
  obtain ⟨w', h1, h2⟩ := storeAt_ok (P := P) h hn (argA_rel hax hf) (argA_rel hay hf) hs
  exact ⟨.skip, w', κ, by simp [execOp, ho, h1], .inr ⟨rfl, rfl⟩, h2, Kap.le_refl κ⟩

theorem ok_nilCheck (x : Operand) : OpOk P fs fz (.nilCheck x) := by
  intro W κ S w f a o aop v S' ho hc hf h hv
  simp only [compOp1, Option.bind_eq_bind, Option.bind_eq_some_iff, Option.pure_def, Option.some.injEq, Sum.inl.injEq] at hc
  obtain ⟨ax, hax, rfl⟩ := hc
  have r := argA_rel (κ := κ) hax hf
  simp only [evOp] at hv
  split at hv
  · rename_i he
    rw [he] at r
    cases hv
    cases hr : a.eval x with
    | pointer p =>
      rw [hr] at r
      cases p with
      | none => cases r
      | some p => exact ⟨.value (.pointer (some p)), w, κ, by simp [execOp, ho, hr], .inl ⟨_, rfl, r⟩, h, Kap.le_refl κ⟩
    | _ => rw [hr] at r; cases r
  · rename_i he
    rw [he] at r
    cases hv
    cases hr : a.eval x with
    | pointer p =>
      rw [hr] at r
      cases p with
      | none => cases r
      | some p => exact ⟨.value (.pointer (some p)), w, κ, by simp [execOp, ho, hr], .inl ⟨_, rfl, r⟩, h, Kap.le_refl κ⟩
    | _ => rw [hr] at r; cases r
  · simp at hv

theorem ok_unOp (op : UnOp) (t : TypeId) (x : Operand) : OpOk P fs fz (.unOp op t x) := by
  intro W κ S w f a o aop v S' ho hc hf h hv
  simp only [compOp1, Option.bind_eq_bind, Option.bind_eq_some_iff, Option.pure_def, Option.some.injEq, Sum.inl.injEq] at hc
  obtain ⟨ax, hax, rfl⟩ := hc
  simp only [evOp] at hv
  replace hv := same_some hv; obtain ⟨hv, rfl⟩ := hv
  obtain ⟨v', h1, h2⟩ := unA_ok (P := P) (argA_rel hax hf) hv w
  exact .of (fun v' w' h' => by simp [execOp, ho, h']) (.pure h h1 h2)

theorem ok_extract (x : Operand) (i : Nat) : OpOk P fs fz (.extract x i) := by
  intro W κ S w f a o aop v S' ho hc hf h hv
  simp only [compOp1, Option.bind_eq_bind, Option.bind_eq_some_iff, Option.pure_def, Option.some.injEq, Sum.inl.injEq] at hc
  obtain ⟨ax, hax, rfl⟩ := hc
  have r := argA_rel (κ := κ) hax hf
  simp only [evOp] at hv
  split at hv
  · rename_i vs he
    replace hv := same_some hv; obtain ⟨hv, rfl⟩ := hv
    rw [he] at r
    generalize hx : a.eval x = x' at r
    cases r with
    | tup _ ys hl hr =>
      obtain ⟨y, hy, hyr⟩ := VRelL.get ⟨hl, hr⟩ hv
      exact .of (m := Instr.extract (.tuple ys.toArray) i) (fun v' w' h' => by simp [execOp, ho, hx, h']) (.pure h (v' := y) (by simp [Instr.extract, hy]) hyr)
  · simp at hv

theorem ok_makeInterface (t : TypeId) (x : Operand) : OpOk P fs fz (.makeInterface t x) := by
  intro W κ S w f a o aop v S' ho hc hf h hv
  simp only [compOp1, Option.bind_eq_bind, Option.bind_eq_some_iff, Option.pure_def] at hc
  obtain ⟨d, hd, hc⟩ := hc
  split at hc
  · simp at hc
  · rename_i hni
    simp only [Option.bind_eq_some_iff, Option.some.injEq, Sum.inl.injEq] at hc
    obtain ⟨ax, hax, rfl⟩ := hc
    simp only [evOp, Option.some.injEq, Prod.mk.injEq] at hv
    obtain ⟨rfl, rfl⟩ := hv
    refine .of (m := Instr.makeInterface t (a.eval x)) (fun v' w' h' => by simp [execOp, ho, h']) (.pure h (v' := .iface t (a.eval x)) ?_ (.iface t _ _ (argA_rel hax hf)))
    simp only [Instr.makeInterface, Sem.run_bind, run_und hd, Result.andThen_ok]
    rfl

theorem ok_makeFunc (fn : Fn) (first captured : Array Operand) : OpOk P fs fz (.makeFunc fn first captured) := by
  intro W κ S w f a o aop v S' ho hc hf h hv
  simp only [compOp1, Option.bind_eq_bind, Option.bind_eq_some_iff, Option.pure_def, Option.some.injEq, Sum.inl.injEq] at hc
  obtain ⟨af, haf, ac, hac, rfl⟩ := hc
  simp only [evOp, Option.some.injEq, Prod.mk.injEq] at hv
  obtain ⟨rfl, rfl⟩ := hv
  have r1 := argsA_rel (κ := κ) haf hf
  have r2 := argsA_rel (κ := κ) hac hf
  refine .of (m := Instr.makeFunc fn (first.map a.eval) (captured.map a.eval)) (fun v' w' h' => by simp [execOp, ho, h']) (.pure h (v' := .func fn (first.map a.eval) (captured.map a.eval)) rfl ?_)
  have := VRel.fn fn _ _ _ _ r1.1 r2.1 r1.2 r2.2
  have e1 : (first.toList.map a.eval).toArray = first.map a.eval := by apply Array.ext'; simp
  have e2 : (captured.toList.map a.eval).toArray = captured.map a.eval := by apply Array.ext'; simp
  rw [e1, e2] at this
  exact this

theorem ok_fieldAddr (s : TypeId) (x : Operand) (i : Nat) : OpOk P fs fz (.fieldAddr s x i) := by
  intro W κ S w f a o aop v S' ho hc hf h hv
  simp only [compOp1, Option.bind_eq_bind, Option.bind_eq_some_iff, Option.pure_def] at hc
  obtain ⟨d, hd, hc⟩ := hc
  split at hc
  · rename_i fields
    simp only [Option.bind_eq_some_iff] at hc
    obtain ⟨fd, hfd, n, hn, hc⟩ := hc
    split at hc
    · simp at hc
    · rename_i hn0
      simp only [Option.bind_some, Option.bind_eq_some_iff, Option.some.injEq, Sum.inl.injEq] at hc
      obtain ⟨ax, hax, rfl⟩ := hc
      simp only [evOp] at hv
      replace hv := same_some hv; obtain ⟨hv, rfl⟩ := hv
      exact .of (fun v' w' h' => by simp [execOp, ho, h']) (faddr_ok h hd hfd hn hn0 (argA_rel hax hf) hv)
  · simp at hc

theorem ok_field (s : TypeId) (x : Operand) (i : Nat) : OpOk P fs fz (.field s x i) := by
  intro W κ S w f a o aop v S' ho hc hf h hv
  simp only [compOp1, Option.bind_eq_bind, Option.bind_eq_some_iff, Option.pure_def] at hc
  obtain ⟨d, hd, hc⟩ := hc
  split at hc
  · rename_i fields
    simp only [Option.bind_eq_some_iff, Option.some.injEq, Sum.inl.injEq] at hc
    obtain ⟨fd, hfd, n, hn, ax, hax, rfl⟩ := hc
    simp only [evOp] at hv
    split at hv
    · rename_i cs he
      replace hv := same_some hv; obtain ⟨hv, rfl⟩ := hv
      have r := argA_rel (κ := κ) hax hf
      rw [he] at r
      exact .of (fun v' w' h' => by simp [execOp, ho, h']) (fld_ok h hd hfd hn r hv)
    · simp at hv
  · simp at hc

theorem ok_indexAddr (t : TypeId) (x i : Operand) : OpOk P fs fz (.indexAddr t x i) := by
  intro W κ S w f a o aop v S' ho hc hf h hv
  simp only [compOp1, Option.bind_eq_bind, Option.bind_eq_some_iff, Option.pure_def] at hc
  obtain ⟨d, hd, hc⟩ := hc
  split at hc
  · simp only [Option.bind_eq_some_iff, Option.some.injEq, Sum.inl.injEq] at hc
    obtain ⟨sz, hsz, ax, hax, ai, hai, rfl⟩ := hc
    simp only [evOp] at hv
    replace hv := same_some hv; obtain ⟨hv, rfl⟩ := hv
    exact .of (fun v' w' h' => by simp [execOp, ho, h']) (iaddrA_ok h hd hsz (argA_rel hax hf) (argA_rel hai hf) hv)
  · simp only [Option.bind_eq_some_iff, Option.some.injEq, Sum.inl.injEq] at hc
    obtain ⟨sz, hsz, ax, hax, ai, hai, rfl⟩ := hc
    simp only [evOp] at hv
    replace hv := same_some hv; obtain ⟨hv, rfl⟩ := hv
    exact .of (fun v' w' h' => by simp [execOp, ho, h']) (iaddrS_ok h hd hsz (argA_rel hax hf) (argA_rel hai hf) hv)
  · simp at hc

theorem ok_index (t : TypeId) (x i : Operand) : OpOk P fs fz (.index t x i) := by
  intro W κ S w f a o aop v S' ho hc hf h hv
  simp only [compOp1, Option.bind_eq_bind, Option.bind_eq_some_iff, Option.pure_def] at hc
  obtain ⟨d, hd, hc⟩ := hc
  split at hc
  · simp only [Option.bind_eq_some_iff, Option.some.injEq, Sum.inl.injEq] at hc
    obtain ⟨n, hn, sz, hsz, ax, hax, ai, hai, rfl⟩ := hc
    simp only [evOp] at hv
    have r := argA_rel (κ := κ) hax hf
    have r2 := argA_rel (κ := κ) hai hf
    split at hv
    · rename_i e1 e2
      rw [e1] at r; rw [e2] at r2
      split at hv
      · rename_i hb
        replace hv := same_some hv; obtain ⟨hv, rfl⟩ := hv
        exact .of (fun v' w' h' => by simp [execOp, ho, h']) (idxA_ok h hd hn hsz r r2 hb hv)
      · simp at hv
    · simp at hv
  · simp only [Option.bind_eq_some_iff, Option.some.injEq, Sum.inl.injEq] at hc
    obtain ⟨ax, hax, ai, hai, rfl⟩ := hc
    simp only [evOp] at hv
    have r := argA_rel (κ := κ) hax hf
    have r2 := argA_rel (κ := κ) hai hf
    split at hv
    · rename_i e1 e2
      rw [e1] at r; rw [e2] at r2
      split at hv
      · rename_i hb
        split at hv
        · rename_i b hbb
          cases hv
          exact .of (fun v' w' h' => by simp [execOp, ho, h']) (idxStr_ok h hd r r2 hb hbb)
        · simp at hv
      · simp at hv
    · simp at hv
  · simp at hc

end Am
end

/- An operation that was translated stands for the model's: the rest, and all of them. -/
section
namespace Am
open Go Go.RowKit

variable {P : Program} {W : World} {κ : Kap} {S : St} {w : World} {f : Fr} {a : Act} {fs : List FuncId} {fz : Bool}

theorem ok_convert (src dst : TypeId) (x : Operand) : OpOk P fs fz (.convert src dst x) := by
  intro W κ S w f a o aop v S' ho hc hf h hv
  simp only [compOp1, Option.bind_eq_bind, Option.bind_eq_some_iff, Option.pure_def] at hc
  obtain ⟨ax, hax, d1, hd1, d2, hd2, hc⟩ := hc
  have r := argA_rel (κ := κ) hax hf
  split at hc
  · simp only [Option.some.injEq, Sum.inl.injEq] at hc
    subst hc
    simp only [evOp] at hv
    split at hv
    · rename_i e
      cases hv
      rw [e] at r
      generalize hr : a.eval x = u at r
      cases r
      refine .of (m := convert src dst (a.eval x)) (fun v' w' h' => by simp [execOp, ho, h']) (.pure h (v' := .int _ (IntKind.wrap _ _)) ?_ (.int _ _))
      rw [hr]
      simp [convert, run_und hd1, run_und hd2, Conv.intToInt]
    · simp at hv
  · simp only [Option.some.injEq, Sum.inl.injEq] at hc
    subst hc
    simp only [evOp] at hv
    split at hv
    · rename_i s e
      cases hv
      rw [e] at r
      generalize hr : a.eval x = u at r
      cases r with
      | str _ b hb =>
        refine .of (m := convert src dst (a.eval x)) (fun v' w' h' => by simp [execOp, ho, h']) (.pure h (v' := .string b) ?_ (.str _ b hb))
        rw [hr]
        simp [convert, run_und hd1, run_und hd2]
    · simp at hv
  · simp only [Option.bind_eq_some_iff] at hc
    obtain ⟨d3, hd3, hc⟩ := hc
    split at hc
    · simp only [Option.some.injEq, Sum.inl.injEq] at hc
      subst hc
      simp only [evOp] at hv
      split at hv
      · rename_i s hs
        cases hv
        unfold bytesA at hs
        split at hs
        · simp at hs
        · rename_i hns
          split at hs
          · rename_i n cs hcs
            exact .of (fun v' w' h' => by simp [execOp, ho, h']) (convBS_ok h hd1 hd3 hd2 r hcs hs hns)
          · simp at hs
      · simp at hv
    · simp at hc
  · simp only [Option.bind_eq_some_iff] at hc
    obtain ⟨d3, hd3, hc⟩ := hc
    split at hc
    · simp only [Option.some.injEq, Sum.inl.injEq] at hc
      subst hc
      simp only [evOp] at hv
      split at hv
      · rename_i s e
        cases hv
        rw [e] at r
        exact .of (fun v' w' h' => by simp [execOp, ho, h']) (convSB_ok h hd1 hd3 hd2 r)
      · simp at hv
    · simp at hc
  · simp only [Option.bind_eq_some_iff] at hc
    obtain ⟨d3, hd3, hc⟩ := hc
    split at hc
    · split at hc
      · rename_i hsd
        simp only [Option.some.injEq, Sum.inl.injEq] at hc
        subst hc
        subst hsd
        simp only [evOp] at hv
        split at hv
        · rename_i e
          split at hv
          · rename_i hS
            split at hv
            · rename_i hcnd
              cases hv
              rw [e] at r
              exact .of (fun v' w' h' => by simp [execOp, ho, h']) (convSL_ok h hd1 hd2 hd3 r hS hcnd.1 hcnd.2)
            · simp at hv
          · simp at hv
        · simp at hv
      · simp at hc
    · simp at hc
  · simp at hc

theorem optM_lims {lo hi : Option Operand} {alo ahi : Option Arg} (h1 : optM argA lo = some alo) (h2 : optM argA hi = some ahi) (hf : FRel κ f a.tmps) :
    Lims κ (alo.map f.ev) (ahi.map f.ev) (lo.map a.eval) (hi.map a.eval) := by
  have key : ∀ {lo : Option Operand} {alo : Option Arg}, optM argA lo = some alo → (∀ x, alo.map f.ev = some x → ∃ y, lo.map a.eval = some y ∧ VRel κ x y) ∧ (alo.map f.ev = none → lo.map a.eval = none) := by
    intro lo alo h
    cases lo with
    | none => simp [optM] at h; subst h; simp
    | some x =>
      simp only [optM, Option.map_eq_some_iff] at h
      obtain ⟨ax, hax, rfl⟩ := h
      refine ⟨fun y hy => ?_, fun hn => by simp at hn⟩
      simp at hy; subst hy
      exact ⟨_, rfl, argA_rel hax hf⟩
  exact ⟨(key h1).1, (key h1).2, (key h2).1, (key h2).2⟩

theorem ok_slice (t : TypeId) (x : Operand) (lo hi : Option Operand) : OpOk P fs fz (.slice t x lo hi none) := by
  intro W κ S w f a o aop v S' ho hc hf h hv
  simp only [compOp1, Option.bind_eq_bind, Option.bind_eq_some_iff, Option.pure_def] at hc
  obtain ⟨ax, hax, alo, hlo, ahi, hhi, d, hd, hc⟩ := hc
  have r := argA_rel (κ := κ) hax hf
  have L := optM_lims (κ := κ) hlo hhi hf
  have fin : Runs P W κ w (Instr.sliceAt t (a.eval x) (lo.map a.eval) (hi.map a.eval) none) v S' → OpRuns P W κ w a.eval o v S' :=
    fun hr => .of (fun v' w' h' => by simp [execOp, ho, h']) hr
  apply fin
  split at hc
  · simp only [Option.bind_eq_some_iff, Option.some.injEq, Sum.inl.injEq] at hc
    obtain ⟨sz, hsz, rfl⟩ := hc
    simp only [evOp] at hv
    replace hv := same_some hv; obtain ⟨hv, rfl⟩ := hv
    exact slcA_ok h (.inl hd) hsz r L hv
  · simp only [Option.some.injEq, Sum.inl.injEq] at hc
    subst hc
    simp only [evOp] at hv
    replace hv := same_some hv; obtain ⟨hv, rfl⟩ := hv
    exact slcStr_ok h hd r L.l1 L.l0 L.h1 L.h0 hv
  · simp only [Option.bind_eq_some_iff, Option.some.injEq, Sum.inl.injEq] at hc
    obtain ⟨sz, hsz, rfl⟩ := hc
    split at hv
    · simp only [evOp] at hv
      replace hv := same_some hv; obtain ⟨hv, rfl⟩ := hv
      exact slcM_ok h hd hsz r L hv
    · simp only [evOp] at hv
      replace hv := same_some hv; obtain ⟨hv, rfl⟩ := hv
      exact slcS_ok h hd hsz r L hv
  · simp only [Option.bind_eq_some_iff] at hc
    obtain ⟨d2, hd2, hc⟩ := hc
    split at hc
    · simp only [Option.bind_eq_some_iff, Option.some.injEq, Sum.inl.injEq] at hc
      obtain ⟨sz, hsz, rfl⟩ := hc
      simp only [evOp] at hv
      replace hv := same_some hv; obtain ⟨hv, rfl⟩ := hv
      exact slcA_ok h (.inr ⟨_, hd, hd2⟩) hsz r L hv
    · simp at hc
  · simp at hc

theorem ok_makeSlice (t : TypeId) (l c : Operand) : OpOk P fs fz (.makeSlice t l c) := by
  intro W κ S w f a o aop v S' ho hc hf h hv
  simp only [compOp1, Option.bind_eq_bind, Option.bind_eq_some_iff, Option.pure_def] at hc
  obtain ⟨d, hd, hc⟩ := hc
  split at hc
  · simp only [Option.bind_eq_some_iff] at hc
    obtain ⟨sz, hsz, zero, hz, hc⟩ := hc
    split at hc
    · simp at hc
    · simp only [Option.bind_some, Option.bind_eq_some_iff, Option.some.injEq, Sum.inl.injEq] at hc
      obtain ⟨bytes, hby, al, hal, ac, hac, rfl⟩ := hc
      split at hv
      · simp only [evOp] at hv
        exact .of (fun v' w' h' => by simp [execOp, ho, h']) (mkM_ok h hd hsz hby hz (argA_rel hal hf) (argA_rel hac hf) hv)
      · simp only [evOp] at hv
        exact .of (fun v' w' h' => by simp [execOp, ho, h']) (mk_ok h hd hsz hby hz (argA_rel hal hf) (argA_rel hac hf) hv)
  · simp at hc

theorem eqGuard_of {op : BinOp} {t : TypeId} {x y : Operand} {u v : Value} {d : TypeDesc} (ht : P.underlying t = some d) (hd : ∀ ms, d ≠ .interface ms) (hu : u ≠ .nilIface) (hagg : ∀ cs, u = .agg cs → P.eqGuardType P.depth t = false) (w : World) :
    (eqGuard op t x y u v).run P w = .ok () w := by
  unfold eqGuard
  split
  case h_3 => rfl
  all_goals
    simp only [Bool.not_true, Bool.false_eq_true, if_false]
    cases u <;> cases v <;> first
      | rfl
      | (exact absurd rfl hu)
      | (have := hagg _ rfl; simp [this])

theorem run_binOp_eql {t : TypeId} {u v : Value} {r : Bool} (hr : (Op.equal t u v).run P w = .ok r w) (hne : ∀ k n, u ≠ .int k n) (hns : ∀ s, u ≠ .string s) (hnf : ∀ k n, u ≠ .float k n) (hnc : ∀ k m n, u ≠ .complex k m n) :
    (binOp .eql t u v).run P w = .ok (.bool r) w ∧ (binOp .neq t u v).run P w = .ok (.bool (!r)) w := by
  cases u <;> first
    | exact absurd rfl (hne _ _)
    | exact absurd rfl (hns _)
    | exact absurd rfl (hnf _ _)
    | exact absurd rfl (hnc _ _ _)
    | (constructor <;> simp [binOp, hr])

theorem ok_binOp (op : BinOp) (t : TypeId) (x y : Operand) (ty : TypeId) : OpOk P fs fz (.binOp op t x y ty) := by
  intro W κ S w f a o aop v S' ho hc hf h hv
  simp only [compOp1, Option.bind_eq_bind, Option.bind_eq_some_iff, Option.pure_def] at hc
  obtain ⟨ax, hax, ay, hay, hc⟩ := hc
  have rx := argA_rel (κ := κ) hax hf
  have ry := argA_rel (κ := κ) hay hf
  have fin : (eqGuard op t x y (a.eval x) (a.eval y)).run P w = .ok () w → (∃ v', (binOp op t (a.eval x) (a.eval y)).run P w = .ok v' w ∧ VRel κ v v') → S' = S → OpRuns P W κ w a.eval o v S' := by
    rintro hg ⟨v', h1, h2⟩ rfl
    exact ⟨.value v', w, κ, by simp [execOp, ho, hg, h1], .inl ⟨v', rfl, h2⟩, h, Kap.le_refl κ⟩
  have bin : aop = .bin op ax ay → OpRuns P W κ w a.eval o v S' := by
    rintro rfl
    simp only [evOp] at hv
    replace hv := same_some hv; obtain ⟨hv, rfl⟩ := hv
    obtain ⟨v', h1, h2⟩ := binA_ok (P := P) rx ry hv t w
    refine fin ?_ ⟨v', h1, h2⟩ rfl
    have hx : ∀ u, f.ev ax = u → (∃ k n, u = .int k n) ∨ ∃ s, u = .str s := by
      intro u hu
      unfold binA at hv
      rw [hu] at hv
      split at hv
      · exact .inl ⟨_, _, rfl⟩
      · exact .inr ⟨_, rfl⟩
      · simp at hv
    refine eqGuard_const (fun e1 _ => ?_) (fun cs e1 => ?_) w
    · rw [e1] at rx
      rcases hx _ rfl with ⟨k, n, hu⟩ | ⟨s, hu⟩ <;> rw [hu] at rx <;> cases rx
    · rw [e1] at rx
      rcases hx _ rfl with ⟨k, n, hu⟩ | ⟨s, hu⟩ <;> rw [hu] at rx <;> cases rx
  have eqq : ∀ q d, P.underlying t = some d → EqT.fits q d → (op = .eql ∨ op = .neq) → aop = .eq (op = .neq) q ax ay → (q = .ifc → isConst x = true ∨ isConst y = true) → OpRuns P W κ w a.eval o v S' := by
    rintro q d hd hq hop rfl hcst
    simp only [evOp] at hv
    replace hv := same_some hv; obtain ⟨hv, rfl⟩ := hv
    simp only [Option.map_eq_some_iff] at hv
    obtain ⟨b, hb, rfl⟩ := hv
    have he := eq2_ok (P := P) rx ry hb hd hq w
    have hno : (∀ k n, a.eval x ≠ .int k n) ∧ (∀ s, a.eval x ≠ .string s) ∧ (∀ k n, a.eval x ≠ .float k n) ∧ (∀ k m n, a.eval x ≠ .complex k m n) ∧ (∀ cs, a.eval x ≠ .agg cs) ∧ (a.eval x = .nilIface → q = .ifc) := by
      generalize a.eval x = u at rx
      generalize f.ev ax = au at rx hb
      generalize f.ev ay = av at hb
      unfold eq2 at hb
      split at hb
      case h_18 => simp at hb
      all_goals (cases rx; simp)
    obtain ⟨n1, n2, n3, n4, n5, n6⟩ := hno
    have hb2 := run_binOp_eql (P := P) (w := w) he n1 n2 n3 n4
    refine fin (eqGuard_const (fun e1 _ => hcst (n6 e1)) n5 w) ?_ rfl
    rcases hop with rfl | rfl
    · exact ⟨_, hb2.1, by simpa using VRel.bool b⟩
    · exact ⟨_, hb2.2, by simpa using VRel.bool (!b)⟩
  split at hc
  · rename_i hop
    simp only [Option.bind_eq_some_iff] at hc
    obtain ⟨d, hd, hc⟩ := hc
    split at hc
    · simp only [Option.some.injEq, Sum.inl.injEq] at hc
      exact bin hc.symm
    · simp only [Option.some.injEq, Sum.inl.injEq] at hc
      exact bin hc.symm
    · simp only [Option.some.injEq, Sum.inl.injEq] at hc
      exact eqq .bool _ hd trivial hop hc.symm (by simp)
    · simp only [Option.some.injEq, Sum.inl.injEq] at hc
      exact eqq .ptr _ hd trivial hop hc.symm (by simp)
    · simp only [Option.some.injEq, Sum.inl.injEq] at hc
      exact eqq .sl _ hd trivial hop hc.symm (by simp)
    · simp only [Option.some.injEq, Sum.inl.injEq] at hc
      exact eqq .fn _ hd trivial hop hc.symm (by simp)
    · split at hc
      · rename_i hcst
        simp only [Option.some.injEq, Sum.inl.injEq] at hc
        exact eqq .ifc _ hd trivial hop hc.symm (fun _ => by simpa using hcst)
      · rename_i ms _
        simp only [Option.some.injEq, Sum.inl.injEq] at hc
        subst hc
        have done : (Op.equal t (a.eval x) (a.eval y)).run P w = .ok false w → (∀ k n, a.eval x ≠ .int k n) → (∀ s, a.eval x ≠ .string s) → (∀ k n, a.eval x ≠ .float k n) → (∀ k m n, a.eval x ≠ .complex k m n) →
            (a.eval x = .nilIface → a.eval y ≠ .nilIface) → (∀ cs, a.eval x ≠ .agg cs) → v = .bool (decide (op = .neq)) → S' = S → OpRuns P W κ w a.eval o v S' := by
          intro he n1 n2 n3 n4 n5 n6 hv1 hv2
          have hb2 := run_binOp_eql (P := P) (w := w) he n1 n2 n3 n4
          refine fin (eqGuard_const (fun e1 e2 => absurd e2 (n5 e1)) n6 w) ?_ hv2
          rw [hv1]
          rcases hop with rfl | rfl
          · exact ⟨_, hb2.1, by simpa using VRel.bool false⟩
          · exact ⟨_, hb2.2, by simpa using VRel.bool true⟩
        simp only [evOp] at hv
        split at hv
        · rename_i tx vx ty vy e1 e2
          split at hv
          · simp at hv
          · rename_i hne
            simp only [Option.some.injEq, Prod.mk.injEq] at hv
            rw [e1] at rx; rw [e2] at ry
            generalize hax' : a.eval x = u at rx done
            generalize hay' : a.eval y = u' at ry done
            cases rx; cases ry
            rename_i xx _ yy _
            have hh : ∀ d : Nat, (Op.equalIn (d + 1) t (.iface tx xx) (.iface ty yy)).run P w = .ok false w := fun d => by simp [Op.equalIn, run_underlying hd, hne]
            exact done (by simp only [Op.equal, Op.maxDepth]; exact hh 9999) (by simp) (by simp) (by simp) (by simp) (by simp) (by simp) hv.1.symm hv.2.symm
        · rename_i ty vy e1 e2
          simp only [Option.some.injEq, Prod.mk.injEq] at hv
          rw [e1] at rx; rw [e2] at ry
          have he := eq2_ok (P := P) rx ry (q := EqT.ifc) (b := false) rfl hd trivial w
          generalize hax' : a.eval x = u at rx done he
          generalize hay' : a.eval y = u' at ry done he
          cases rx; cases ry
          exact done he (by simp) (by simp) (by simp) (by simp) (by simp) (by simp) hv.1.symm hv.2.symm
        · rename_i ty vy e1 e2
          simp only [Option.some.injEq, Prod.mk.injEq] at hv
          rw [e1] at rx; rw [e2] at ry
          have he := eq2_ok (P := P) rx ry (q := EqT.ifc) (b := false) rfl hd trivial w
          generalize hax' : a.eval x = u at rx done he
          generalize hay' : a.eval y = u' at ry done he
          cases rx; cases ry
          exact done he (by simp) (by simp) (by simp) (by simp) (by simp) (by simp) hv.1.symm hv.2.symm
        · simp at hv
    · split at hc
      · simp at hc
      · rename_i hgt
        simp only [Option.bind_eq_some_iff, Option.some.injEq, Sum.inl.injEq] at hc
        obtain ⟨ks, hks, rfl⟩ := hc
        simp only [evOp] at hv
        split at hv
        · rename_i ca cb e1 e2
          replace hv := same_some hv; obtain ⟨hv, rfl⟩ := hv
          simp only [Option.map_eq_some_iff] at hv
          obtain ⟨b, hb, rfl⟩ := hv
          rw [e1] at rx; rw [e2] at ry
          have he := eqA_ok (P := P) h hks rx ry hb (by funext xs; simp [mkv, hd])
          have hag : ∃ cs, a.eval x = .agg cs := by generalize a.eval x = u at rx; cases rx; exact ⟨_, rfl⟩
          obtain ⟨cs, hcs⟩ := hag
          have hb2 := run_binOp_eql (P := P) (w := w) he (by rw [hcs]; simp) (by rw [hcs]; simp) (by rw [hcs]; simp) (by rw [hcs]; simp)
          refine fin (eqGuard_of hd (by intro ms; simp) (by rw [hcs]; simp) (fun _ _ => by simpa using hgt) w) ?_ rfl
          rcases hop with rfl | rfl
          · exact ⟨_, hb2.1, by simpa using VRel.bool b⟩
          · exact ⟨_, hb2.2, by simpa using VRel.bool (!b)⟩
        · simp at hv
    · split at hc
      · simp at hc
      · rename_i hgt
        simp only [Option.bind_eq_some_iff, Option.some.injEq, Sum.inl.injEq] at hc
        obtain ⟨ks, hks, rfl⟩ := hc
        simp only [evOp] at hv
        split at hv
        · rename_i ca cb e1 e2
          replace hv := same_some hv; obtain ⟨hv, rfl⟩ := hv
          simp only [Option.map_eq_some_iff] at hv
          obtain ⟨b, hb, rfl⟩ := hv
          rw [e1] at rx; rw [e2] at ry
          have he := eqA_ok (P := P) h hks rx ry hb (by funext xs; simp [mkv, hd])
          have hag : ∃ cs, a.eval x = .agg cs := by generalize a.eval x = u at rx; cases rx; exact ⟨_, rfl⟩
          obtain ⟨cs, hcs⟩ := hag
          have hb2 := run_binOp_eql (P := P) (w := w) he (by rw [hcs]; simp) (by rw [hcs]; simp) (by rw [hcs]; simp) (by rw [hcs]; simp)
          refine fin (eqGuard_of hd (by intro ms; simp) (by rw [hcs]; simp) (fun _ _ => by simpa using hgt) w) ?_ rfl
          rcases hop with rfl | rfl
          · exact ⟨_, hb2.1, by simpa using VRel.bool b⟩
          · exact ⟨_, hb2.2, by simpa using VRel.bool (!b)⟩
        · simp at hv
    · simp at hc
  · simp only [Option.some.injEq, Sum.inl.injEq] at hc
    exact bin hc.symm

end Am
end

/- An operation that was translated stands for the model's: asked types, empty slices, arrays in slices. -/
section
namespace Am
open Go Go.RowKit

variable {P : Program} {W : World} {κ : Kap} {S : St} {w : World} {f : Fr} {a : Act} {fs : List FuncId} {fz : Bool}

theorem tup2 {x : AVal} {y : Value} (h : VRel κ x y) (b : Bool) : VRel κ (.tup [x, .bool b]) (.tuple #[y, .bool b]) :=
  .tup _ [y, .bool b] rfl (VRelL.cons h (.cons (.bool b) (.nil κ))).2

theorem ok_typeAssert (x : Operand) (xT t : TypeId) : OpOk P fs fz (.typeAssert x xT t true) := by
  intro W κ S w f a o aop v S' ho hc hf h hv
  simp only [compOp1, Option.bind_eq_bind, Option.bind_eq_some_iff, Option.pure_def] at hc
  obtain ⟨ax, hax, z, ⟨j, hj, hz⟩, az, haz, d, hd, hc⟩ := hc
  have r := argA_rel (κ := κ) hax hf
  have hzr := valA_rel haz κ
  have fin : ∀ {u : AVal} {v' : Value}, (Instr.typeAssert (a.eval x) xT t true).run P w = .ok v' w → VRel κ u v' → OpRuns P W κ w a.eval o u S := fun h1 h2 =>
    .of (m := Instr.typeAssert (a.eval x) xT t true) (fun v' w' h' => by simp [execOp, ho, h']) (.pure h h1 h2)
  split at hc
  · rename_i want
    simp only [Option.some.injEq, Sum.inl.injEq] at hc
    subst hc
    simp only [evOp] at hv
    split at hv
    · rename_i e
      cases hv
      rw [e] at r
      generalize hu : a.eval x = u at r fin
      cases r
      exact fin (v' := .tuple #[z, .bool false]) (by simp [Instr.typeAssert, run_underlying hd, zeroValue, typeInfo, hj, hz]) (tup2 hzr false)
    · rename_i dt dv e
      rw [e] at r
      generalize hu : a.eval x = u at r fin
      cases r with
      | iface _ _ xx hxx =>
      simp only [if_true] at hv
      split at hv
      · rename_i hy
        cases hv
        simp only [List.contains_iff_mem, List.mem_filter] at hy
        obtain ⟨_, hy⟩ := hy
        cases hi : P.info? dt with
        | none => rw [hi] at hy; simp at hy
        | some i =>
          rw [hi] at hy
          simp only [Option.any_some, List.isEmpty_iff] at hy
          exact fin (run_typeAssert_has hd hi hy) (tup2 (.iface dt dv xx hxx) true)
      · split at hv
        · rename_i hy
          cases hv
          simp only [List.contains_iff_mem, List.mem_filter] at hy
          obtain ⟨_, hy⟩ := hy
          cases hi : P.info? dt with
          | none => rw [hi] at hy; simp at hy
          | some i =>
            rw [hi] at hy
            simp only [Option.any_some, Bool.not_eq_true', List.isEmpty_eq_false_iff] at hy
            exact fin (run_typeAssert_lacks hd hi hj hz hy) (tup2 hzr false)
        · simp at hv
    · simp at hv
  · rename_i hni
    simp only [Option.some.injEq, Sum.inl.injEq] at hc
    subst hc
    simp only [evOp] at hv
    split at hv
    · rename_i e
      cases hv
      rw [e] at r
      generalize hu : a.eval x = u at r fin
      cases r
      refine fin (v' := .tuple #[z, .bool false]) ?_ (tup2 hzr false)
      cases d <;> first | (exfalso; exact hni _ rfl) | simp [Instr.typeAssert, run_underlying hd, zeroValue, typeInfo, hj, hz]
    · rename_i dt dv e
      rw [e] at r
      generalize hu : a.eval x = u at r fin
      cases r with
      | iface _ _ xx hxx =>
      simp only [Bool.false_eq_true, if_false] at hv
      split at hv
      · rename_i hdt
        subst hdt
        cases hv
        refine fin (v' := .tuple #[xx, .bool true]) ?_ (tup2 hxx true)
        cases d <;> first | (exfalso; exact hni _ rfl) | simp [Instr.typeAssert, run_underlying hd]
      · rename_i hdt
        cases hv
        refine fin (v' := .tuple #[z, .bool false]) ?_ (tup2 hzr false)
        cases d <;> first | (exfalso; exact hni _ rfl) | simp [Instr.typeAssert, run_underlying hd, hdt, zeroValue, typeInfo, hj, hz]
    · simp at hv

theorem ok_slice0 (t : TypeId) (x : Operand) (k k' : IntKind) : OpOk P fs fz (.slice t x none (some (.const (.int k 0))) (some (.const (.int k' 0)))) := by
  intro W κ S w f a o aop v S' ho hc hf h hv
  simp only [compOp1, Option.bind_some, zeroC, if_true, Option.bind_eq_bind, Option.bind_eq_some_iff, Option.pure_def] at hc
  obtain ⟨ax, hax, d, hd, hc⟩ := hc
  have r := argA_rel (κ := κ) hax hf
  split at hc
  · rename_i e
    simp only [Option.bind_eq_some_iff, Option.some.injEq, Sum.inl.injEq] at hc
    obtain ⟨sz, hsz, rfl⟩ := hc
    have hb : ∀ len cap, (Instr.sliceBounds true len cap none (some (.int k 0)) (some (.int k' 0))).run P w = .ok (0, 0, 0) w := fun len cap => by
      simp [Instr.sliceBounds, Instr.sliceBound, asIntOf]
    have fin : ∀ {u : AVal} {v' : Value}, (Instr.sliceAt t (a.eval x) none (some (.int k 0)) (some (.int k' 0))).run P w = .ok v' w → VRel κ u v' → OpRuns P W κ w a.eval o u S := fun h1 h2 =>
      .of (m := Instr.sliceAt t (a.eval x) none (some (.int k 0)) (some (.int k' 0))) (fun v' w' h' => by simp [execOp, ho, show a.eval (.const (.int k 0)) = .int k 0 from rfl, show a.eval (.const (.int k' 0)) = .int k' 0 from rfl, h']) (.pure h h1 h2)
    simp only [evOp] at hv
    split at hv
    · rename_i e'
      cases hv
      rw [e'] at r
      generalize hu : a.eval x = u at r fin
      cases r
      exact fin (v' := .slice none 0 0) (by simp [Instr.sliceAt, Instr.slice, run_und hd, hb, run_size hsz]) .nils
    · rename_i rr vv off len sz' e'
      cases hv
      rw [e'] at r
      generalize hu : a.eval x = u at r fin
      cases r with
      | sl _ _ _ _ _ inf ad c hr hver hlc hext =>
        exact fin (v' := .slice (some ad) 0 0) (by simp [Instr.sliceAt, Instr.slice, run_und hd, hb, run_size hsz]) (.fz true 0 [] ad 0 [] (Nat.le_refl _) (fun _ => rfl) (by simp) rfl (by simp) (by simp) (by simp))
    · rename_i full len cells e'
      cases hv
      rw [e'] at r
      generalize hu : a.eval x = u at r fin
      cases r with
      | fz _ _ _ ad c ys hlc hfull hs hl hsc hk hrr =>
        exact fin (v' := .slice (some ad) 0 0) (by simp [Instr.sliceAt, Instr.slice, run_und hd, hb, run_size hsz]) (.fz true 0 [] ad 0 [] (Nat.le_refl _) (fun _ => rfl) (by simp) rfl (by simp) (by simp) (by simp))
    · simp at hv
  · simp at hc

theorem ok_arrP (t : TypeId) (x : Operand) : OpOk P fs fz (.sliceToArrayPointer t x) := by
  intro W κ S w f a o aop v S' ho hc hf h hv
  simp only [compOp1, Option.bind_eq_bind, Option.bind_eq_some_iff, Option.pure_def] at hc
  obtain ⟨d, hd, hc⟩ := hc
  split at hc
  · rename_i n e
    simp only [Option.bind_eq_some_iff, Option.some.injEq, Sum.inl.injEq] at hc
    obtain ⟨sz, hsz, ax, hax, rfl⟩ := hc
    have r := argA_rel (κ := κ) hax hf
    have fin : ∀ {u : AVal} {v' : Value}, (Instr.arrayAt t (a.eval x)).run P w = .ok v' w → VRel κ u v' → OpRuns P W κ w a.eval o u S := fun h1 h2 =>
      .of (m := Instr.arrayAt t (a.eval x)) (fun v' w' h' => by simp [execOp, ho, h']) (.pure h h1 h2)
    simp only [evOp] at hv
    split at hv
    · rename_i rr vv off len sz' e'
      split at hv
      · rename_i hcnd
        obtain ⟨rfl, h1, h2⟩ := hcnd
        cases hv
        rw [e'] at r
        generalize hu : a.eval x = u at r fin
        cases r with
        | sl _ _ _ _ _ inf ad c hr hver hlc hext =>
          refine fin (v' := .pointer (some ad)) ?_ (.ptr rr vv off inf ad hr hver (fun e => ?_))
          · simp [Instr.arrayAt, run_underlying hd]; omega
          · rcases (hext e).2 with h0 | h0
            · omega
            · exact h0
      · simp at hv
    · rename_i full len cells e'
      split at hv
      · rename_i hcnd
        cases hv
        rw [e'] at r
        generalize hu : a.eval x = u at r fin
        cases r with
        | fz _ _ _ ad c ys hlc hfull hs hl hsc hk hrr =>
          refine fin (v' := .pointer (some ad)) ?_ (.fq cells ad ys hs hl hsc hk hrr)
          simp [Instr.arrayAt, run_underlying hd]; omega
      · simp at hv
    · simp at hv
  · simp at hc
end Am
end

