/- Loops over functions: their records, and a round of them. -/
import Derived.Test.YtffhiphcmohjdaaGreatDoorAmDraw
set_option linter.all false
namespace Am
open Go Go.RowKit

variable {P : Program} {W : World} {κ : Kap} {S : St} {w : World} {f : Fr} {a : Act} {fs : List FuncId} {O : Orc} {n : Nat}

def Ex.conc : Ex → Exit
  | .normal => .normal
  | .exit id => .exit id
  | .ret => .ret

theorem LoopsOk.lt (h : LoopsOk W κ S w) {j : Nat} {st pe} (hj : S[j]? = some (.loop st pe)) {l : Nat} {t : Loop} (hr : κ.recs j = some (l, t)) :
    w.heap[l]? = some (.loop { t with state := st, pending := pe.map Ex.code }) ∧ W.heap.size ≤ l ∧ w.heap[t.defers]? = some (.deferred (some [])) ∧ W.heap.size ≤ t.defers := by
  obtain ⟨l', t', h1, h2⟩ := h.at' j st pe hj
  rw [hr] at h1; cases h1; exact h2

/-- A record's state is laid anew. -/
theorem Rel.setLoop (h : Rel W κ S w) {j : Nat} {st pe} (hj : S[j]? = some (.loop st pe)) {l : Nat} {t : Loop} (hr : κ.recs j = some (l, t)) (st' : LoopState) (pe' : Option Ex) :
    Rel W κ (S.set j (.loop st' pe')) (w.putObj l (.loop { t with state := st', pending := pe'.map Ex.code })) := by
  obtain ⟨h1, h2, h3, h4⟩ := h.loops.lt hj hr
  have hll : l < w.heap.size := (Array.getElem?_eq_some_iff.1 h1).1
  have hne : t.defers ≠ l := by intro e; rw [e, h1] at h3; cases h3
  obtain ⟨g1, g2⟩ := h.loops.set (b1 := .loop st' pe') rfl hj hr (.inl rfl) (o' := .loop { t with state := st', pending := pe'.map Ex.code })
    (fun _ => ⟨World.putObj_heap_same hll, h2, by rw [World.putObj_heap_other hne]; exact h3, h4⟩)
  exact h.put h1 rfl h2 (fun v cs => by simp) (fun v cs => by rw [hj]; simp) g1 (fun b o hb => (h.held.loop b o j st pe l t hb hj hr).1) g2

/-- A loop that is done with. -/
theorem Rel.shutLoop (h : Rel W κ S w) {j : Nat} {st pe} (hj : S[j]? = some (.loop st pe)) {l : Nat} {t : Loop} (hr : κ.recs j = some (l, t)) :
    w.heap[t.defers]? = some (.deferred (some [])) ∧ Rel W κ (S.set j .dead) (w.putObj t.defers (.deferred none)) := by
  obtain ⟨h1, h2, h3, h4⟩ := h.loops.lt hj hr
  obtain ⟨g1, g2⟩ := h.loops.set (b1 := .dead) rfl hj hr (.inr rfl) (o' := .deferred none) (fun e => by simp [other] at e)
  exact ⟨h3, h.put h3 rfl h4 (fun v cs => by simp) (fun v cs => by rw [hj]; simp) g1 (fun b o hb => (h.held.loop b o j st pe l t hb hj hr).2) g2⟩

/-- A new record. -/
theorem Rel.newLoop (h : Rel W κ S w) (t : Loop) (ht : t.defers = w.heap.size) :
    Rel W (κ.addLoop S.length (w.heap.size + 1) t) (S ++ [.loop .ready none]) ((w.alloc (.deferred (some []))).alloc (.loop { t with state := .ready, pending := none })) ∧
    κ.le (κ.addLoop S.length (w.heap.size + 1) t) := by
  have hW : W.heap.size ≤ w.heap.size := h.below.size
  generalize hw1 : ((w.alloc (.deferred (some []))).alloc (.loop { t with state := .ready, pending := none })) = w1
  have hbl : Below w.heap.size w w1 := by
    rw [← hw1]; exact ((Below.refl _ w).alloc (Nat.le_refl _) _).alloc (by simp) _
  have hblock : ∀ k, k < w.heap.size → w1.heap[k]? = w.heap[k]? := fun k hk => hbl.block k hk
  have hD : w1.heap[w.heap.size]? = some (.deferred (some [])) := by
    rw [← hw1]; exact (Below.heap_alloc _ _ _ (by simp)).trans (heap_alloc_new w _)
  have hL : w1.heap[w.heap.size + 1]? = some (.loop { t with state := .ready, pending := none }) := by
    rw [← hw1]; have := heap_alloc_new (w.alloc (.deferred (some []))) (.loop { t with state := .ready, pending := none }); simpa using this
  have hnone : κ.recs S.length = none := by
    cases hx : κ.recs S.length with
    | none => rfl
    | some p => have := h.dom _ _ hx; rw [h.len] at this; omega
  have hmono : κ.le (κ.addLoop S.length (w.heap.size + 1) t) := by
    refine ⟨fun r i hi => ⟨i, ?_, .inl rfl⟩, fun _ _ _ h => h, rfl, fun _ _ _ h => .inl h, fun j p hp => ?_, rfl⟩
    · show (κ.blocks ++ [_])[r]? = some i
      rw [List.getElem?_append_left (List.getElem?_eq_some_iff.1 hi).1]; exact hi
    · show (if j = S.length then _ else κ.recs j) = some p
      rw [if_neg]; exact hp
      rintro rfl; rw [hnone] at hp; simp at hp
  have hS : ∀ {r : Nat} {b : ABlock}, (S ++ [.loop .ready none])[r]? = some b → (∀ st pe, b ≠ .loop st pe) → S[r]? = some b ∧ r < S.length := by
    intro r b hr hb
    rcases getElem?_concat_cases hr with h1 | ⟨_, h1⟩
    · exact h1
    · exact absurd h1 (hb _ _)
  have hK : ∀ {r : Nat} {i : BInfo}, r < S.length → (κ.addLoop S.length (w.heap.size + 1) t).blocks[r]? = some i → κ.blocks[r]? = some i := by
    intro r i hr hi
    have hi' : (κ.blocks ++ [_])[r]? = some i := hi
    rw [List.getElem?_append_left (by rw [h.len]; exact hr)] at hi'; exact hi'
  have hloop : ∀ {j : Nat} {q}, (S ++ [.loop .ready none])[j]? = some q → (j = S.length ∧ q = .loop .ready none) ∨ (j < S.length ∧ S[j]? = some q) := by
    intro j q hj
    rcases getElem?_concat_cases hj with ⟨h1, h2⟩ | ⟨h1, h2⟩
    · exact .inr ⟨h2, h1⟩
    · exact .inl ⟨h1, h2⟩
  have hrec : ∀ {j : Nat}, j < S.length → (κ.addLoop S.length (w.heap.size + 1) t).recs j = κ.recs j := by
    intro j hj; show (if j = S.length then _ else κ.recs j) = _; rw [if_neg (by omega)]
  have hrecN : (κ.addLoop S.length (w.heap.size + 1) t).recs S.length = some (w.heap.size + 1, t) := by
    show (if S.length = S.length then _ else _) = _; rw [if_pos rfl]
  have hltL : ∀ {j : Nat} {q l t'}, other q = true → S[j]? = some q → κ.recs j = some (l, t') → l < w.heap.size ∧ t'.defers < w.heap.size := by
    intro j q l t' hq hj hr
    obtain ⟨k1, k3, _⟩ := h.loops.bnd hq hj hr
    exact ⟨k1, k3⟩
  refine ⟨⟨h.below.trans (hbl.mono hW), ?_, ?_, ?_, ?_, ?_, h.lo, ⟨?_, ?_⟩, ?_, ⟨?_, ?_, ?_, ?_⟩⟩, hmono⟩
  · show (κ.blocks ++ [_]).length = _; simp [h.len]
  · intro r v cells i hr hi
    obtain ⟨hr', hlt⟩ := hS hr (by simp)
    obtain ⟨a1, a2, a3, arr, e, fr, a4, a5, a6, a7, a8⟩ := h.own r v cells i hr' (hK hlt hi)
    exact ⟨a1, a2, a3, arr, e, fr, by rw [hblock _ (h.blk_lt hr' (hK hlt hi))]; exact a4, a5, a6, VRel.cell_mono hmono a7, a8⟩
  · intro r r' v v' cs cs' i i' hr hr' hi hi' hb
    obtain ⟨h1, h2⟩ := hS hr (by simp)
    obtain ⟨h1', h2'⟩ := hS hr' (by simp)
    exact h.disj r r' v v' cs cs' i i' h1 h1' (hK h2 hi) (hK h2' hi') hb
  · intro b o y hy
    have h1 := h.fz b o y hy
    rw [← h1]; exact World.cell?_of_block (hblock b (World.block_lt_of_cell? _ _ h1))
  · intro b o y r v cs i hy hr hi
    obtain ⟨h1, h2⟩ := hS hr (by simp)
    exact h.fzd b o y r v cs i hy h1 (hK h2 hi)
  · intro j q hq hj
    rcases hloop hj with ⟨rfl, rfl⟩ | ⟨hlt, hj'⟩
    · exact ⟨w.heap.size + 1, t, hrecN, hL, by omega, by rw [ht]; exact hD, by omega⟩
    · obtain ⟨l, t', k1, k2⟩ := h.loops.atO j q hq hj'
      exact ⟨l, t', by rw [hrec hlt]; exact k1, k2.keep fun b o hb _ => by rw [hblock _ (Array.getElem?_eq_some_iff.1 hb).1]; exact hb⟩
  · intro j j' q q' l t1 l' t1' hq hq' hj hj' hl hl' hh
    rcases hloop hj with ⟨rfl, _⟩ | ⟨hlt, hj1⟩ <;> rcases hloop hj' with ⟨rfl, _⟩ | ⟨hlt', hj1'⟩
    · rfl
    · rw [hrecN] at hl; cases hl; rw [hrec hlt'] at hl'
      obtain ⟨q1, q2⟩ := hltL hq' hj1' hl'
      rw [ht] at hh; omega
    · rw [hrecN] at hl'; cases hl'; rw [hrec hlt] at hl
      obtain ⟨q1, q2⟩ := hltL hq hj1 hl
      rw [ht] at hh; omega
    · rw [hrec hlt] at hl; rw [hrec hlt'] at hl'
      exact h.loops.disjO _ _ _ _ _ _ _ _ hq hq' hj1 hj1' hl hl' hh
  · intro j p hp
    show j < (κ.blocks ++ [_]).length
    by_cases hj : j = S.length
    · subst hj; simp [h.len]
    · have : κ.recs j = some p := by
        have hp' : (if j = S.length then _ else κ.recs j) = some p := hp
        rwa [if_neg hj] at hp'
      have := h.dom j p this; simp; omega
  · intro b o hb
    obtain ⟨h1, h2⟩ := h.held.at' b o hb
    exact ⟨by rw [hblock _ (Array.getElem?_eq_some_iff.1 h1).1]; exact h1, h2⟩
  · intro b o r v cs i hb hr hi
    obtain ⟨h1, h2⟩ := hS hr (by simp)
    exact h.held.live b o r v cs i hb h1 (hK h2 hi)
  · exact h.held.fz
  · intro b o j q l t' hb hq hj hr
    have hlt := (Array.getElem?_eq_some_iff.1 (h.held.at' b o hb).1).1
    rcases hloop hj with ⟨rfl, _⟩ | ⟨hlt', hj'⟩
    · rw [hrecN] at hr; cases hr; rw [ht]; omega
    · rw [hrec hlt'] at hr; exact h.held.loopO b o j q l t' hb hq hj' hr

/-- What a code comes to, whatever it runs over. -/
def CodeOk (P : Program) (W : World) (n : Nat) (κ : Kap) (c : Code) (s : Fr → St → Option Out) : Prop :=
  ∀ (ro : Option Nat) (f : Fr) (S : St) (κ' : Kap) (w : World) (a : Act) (e : Ex) (f' : Fr) (S' : St), s f S = some (e, f', S') → κ.le0 κ' → FrOk κ' n f a → Rel W κ' S w →
    ∀ Q : Exit → Act → World → Prop, (∀ κ2 w' a', κ'.le κ2 → FrOk κ2 n f' a' → Rel W κ2 S' w' → Q e.conc a' w') → c.wpIn (FF ro) 0 P Q a w

theorem FrOk.puts {D : List Deferred} : ∀ (ps : List Nat) (vs : List AVal) (vs' : List Value) (f : Fr) (tmps : Array Value), VRelL κ vs vs' → (∀ p ∈ ps, p < n) → FrOk κ n f { tmps := tmps, defers := D } →
    FrOk κ n ((ps.zip vs).foldl (fun f (t, v) => f.set t v) f) { tmps := (ps.zip vs').foldl (fun t (p, v) => t.setIfInBounds p v) tmps, defers := D }
  | [], _, _, _, _, _, _, h => by simpa using h
  | p :: ps, [], vs', f, tmps, hv, _, h => by have := hv.unnil; subst this; simpa using h
  | p :: ps, v :: vs, vs', f, tmps, hv, hp, h => by
    obtain ⟨y, ys, rfl, h1, h2⟩ := hv.uncons
    simp only [List.zip_cons_cons, List.foldl_cons]
    exact FrOk.puts ps vs ys _ _ h2 (fun q hq => hp q (by simp [hq])) (h.put (dst := some p) (fun d hd => by cases hd; exact hp p (by simp)) h1)

theorem round_ok {asn b : Code} {sa sb : Fr → St → Option Out} {ps : Array Tmp} {j l : Nat} {t : Loop} (ha : CodeOk P W n κ asn sa) (hb : CodeOk P W n κ b sb) (hr : κ.recs j = some (l, t))
    (htp : t.params = ps) (hta : t.assign = asn) (htb : t.body = b) (hf : FrOk κ n f { tmps := t.tmps, defers := [] }) (hps : ∀ p ∈ ps.toList, p < n)
    {args : List AVal} {S S' : St} {v : AVal} (hv : rnd sa sb ps.toList f j args S = some (v, S')) {κ' : Kap} {args' : List Value} (hle : κ.le0 κ') (h : Rel W κ' S w) (hargs : VRelL κ' args args') :
    ∃ f tmps asn body, (Instr.yield l args'.toArray).run P w = .ok (.round l f tmps asn body) w ∧
      RoundIn Fence.wide 0 P l f tmps asn body w fun e w' => ∃ v' κ2, e = .returned v' ∧ VRel κ2 v v' ∧ Rel W κ2 S' w' ∧ κ'.le κ2 := by
  unfold rnd at hv
  split at hv
  · rename_i hlen
    split at hv
    · rename_i hS
      split at hv
      · rename_i f1 S1 h1
        split at hv
        · rename_i hS1
          split at hv
          · rename_i e f2 S2 h2
            split at hv
            · rename_i hS2
              simp only [Option.some.injEq, Prod.mk.injEq] at hv
              obtain ⟨rfl, rfl⟩ := hv
              have hr' := hle.2.2.2.2 j _ hr
              obtain ⟨k1, _⟩ := h.loops.lt hS hr'
              have hsz : args'.toArray.size = ({ t with state := .ready, pending := Option.map Ex.code none } : Loop).params.size := by
                show args'.toArray.size = t.params.size
                rw [htp]; have := hargs.1; simp; simp at hlen; omega
              refine ⟨t.fn, _, t.assign, t.body, run_yield (r := { t with state := .ready, pending := Option.map Ex.code none }) k1 hsz, roundIn_of_wpIn trivial ?_⟩
              have hfr : FrOk κ' n ((ps.toList.zip args).foldl (fun f (t, v) => f.set t v) f) { tmps := (t.params.zip args'.toArray).foldl (fun tmps (t, a) => tmps.setIfInBounds t a) t.tmps, defers := [] } := by
                have := FrOk.puts ps.toList args args' f t.tmps hargs hps (hf.mono0 hle)
                rw [htp, ← Array.foldl_toList]
                simpa [Array.toList_zip] using this
              rw [hta, htb]
              refine ha (some l) _ S κ' w _ .normal f1 S1 h1 hle hfr h _ (fun κ2 w2 a2 g1 g2 g3 => ?_)
              have hr2 := g1.2.2.2.2.1 j _ hr'
              obtain ⟨k2, _⟩ := g3.loops.lt hS1 hr2
              refine ⟨_, run_beginRound k2 rfl, ?_⟩
              have g4 := g3.setLoop hS1 hr2 .busy none
              refine hb (some l) f1 _ κ2 _ a2 e f2 S2 h2 (Kap.le0_trans hle g1.le0) g2 g4 _ (fun κ3 w3 a3 q1 q2 q3 => ?_)
              have hr3 := q1.2.2.2.2.1 j _ hr2
              obtain ⟨k3, _⟩ := q3.loops.lt hS2 hr3
              cases e with
              | normal => exact ⟨_, _, run_endRound none k3, _, κ3, rfl, by simpa using VRel.bool true, by simpa using q3.setLoop hS2 hr3 .ready none, Kap.le_trans g1 q1⟩
              | ret => exact ⟨_, _, run_endRound (some .ret) k3, _, κ3, rfl, by simpa using VRel.bool false, by simpa [Ex.code] using q3.setLoop hS2 hr3 .done (some .ret), Kap.le_trans g1 q1⟩
              | exit id => exact ⟨_, _, run_endRound (some (.exit id)) k3, _, κ3, rfl, by simpa using VRel.bool false, by simpa [Ex.code] using q3.setLoop hS2 hr3 .done (some (.exit id)), Kap.le_trans g1 q1⟩
            · simp at hv
          · simp at hv
        · simp at hv
      · simp at hv
    · simp at hv
  · simp at hv

theorem marks_mark (f : Fr) (j : Nat) : marks ((markBase + j, .junk) :: f) = j :: marks f := by
  simp [marks]

theorem range_ok (hI : OrcIOk P W O) {g : Operand} {ag : Arg} {ps : Array Tmp} (hps : ps.all (· < n) = true) {asn b : Code} {sa sb : Fr → St → Option Out} (hg : VRel κ (f.ev ag) (a.eval g))
    (ha : CodeOk P W n κ asn sa) (hb : CodeOk P W n κ b sb) {k : FuncId} {first captured : List AVal} (he : f.ev ag = .fn (.func k) first captured) (hm : marks f = []) {e : Ex} {f' : Fr} {S' : St}
    (hv : rngEnd f S.length (O.itr k (fun j args S' => if j = S.length then rnd sa sb ps.toList f j args S' else none) (first ++ [.yld S.length] ++ captured) (S ++ [.loop .ready none])) = some (e, f', S'))
    (hf : FrOk κ n f a) (h : Rel W κ S w) {Q : Exit → Act → World → Prop} (hQ : ∀ κ2 w' a', κ.le κ2 → FrOk κ2 n f' a' → Rel W κ2 S' w' → Q e.conc a' w') :
    (Code.rangeFunc g ps asn b).wpIn (FF none) 0 P Q a w := by
  have hps' : ∀ p ∈ ps.toList, p < n := by
    intro p hp
    rw [Array.all_eq_true_iff_forall_mem] at hps
    simpa using hps p (by simpa using hp)
  rw [he] at hg
  generalize hgv : a.eval g = gv at hg
  cases hg with
  | fn _ _ _ first' captured' g1 g2 g3 g4 =>
  refine wpIn_rangeFunc (fun fnid _ => ?_)
  generalize ht : ({ state := .ready, pending := none, fn := fnid, tmps := a.tmps, params := ps, assign := asn, body := b, defers := w.heap.size } : Loop) = t
  obtain ⟨hrel, hle⟩ := h.newLoop t (by rw [← ht])
  generalize hκ1 : κ.addLoop S.length (w.heap.size + 1) t = κ1 at hrel hle
  have hrec : κ1.recs S.length = some (w.heap.size + 1, t) := by
    rw [← hκ1]; show (if S.length = S.length then _ else _) = _; rw [if_pos rfl]
  obtain ⟨iN, hiN⟩ : ∃ i, κ1.blocks[S.length]? = some i := hrel.info (b := .loop .ready none) (by simp)
  cases hit : O.itr k (fun j args S' => if j = S.length then rnd sa sb ps.toList f j args S' else none) (first ++ [.yld S.length] ++ captured) (S ++ [.loop .ready none]) with
  | none => rw [hit] at hv; simp [rngEnd] at hv
  | some r =>
  obtain ⟨v, S2⟩ := r
  have hfr0 : FrOk κ n f { tmps := t.tmps, defers := [] } := by
    rw [← ht]; exact ⟨hf.rel, hf.size, hf.big, hf.known, by simp [hm]⟩
  obtain ⟨hcl, hcalls⟩ := hI.itr k κ1 _ (by
    intro j args S v S' hy κ' w args' l' t' hle' hrel' hargs' hrec'
    simp only at hy
    split at hy
    · rename_i hj
      subst hj
      have hr1 := hle'.2.2.2.2 _ _ hrec
      rw [hrec'] at hr1; cases hr1
      have mono : ∀ {c s}, CodeOk P W n κ c s → CodeOk P W n κ1 c s := fun hc ro f S κ' w a e f' S' h1 h2 => hc ro f S κ' w a e f' S' h1 (Kap.le0_trans hle.le0 h2)
      exact round_ok (mono ha) (mono hb) hrec (by rw [← ht]) (by rw [← ht]) (by rw [← ht]) (hfr0.mono hle) hps' hy hle' hrel' hargs'
    · simp at hy) _ _ _ _ hit
  rw [hit] at hv
  generalize hW1 : (w.alloc (.deferred (some []))).alloc (.loop { state := .ready, pending := none, fn := fnid, tmps := a.tmps, params := ps, assign := asn, body := b, defers := w.heap.size }) = W1
  have hW1' : (w.alloc (.deferred (some []))).alloc (.loop { t with state := .ready, pending := none }) = W1 := by rw [← ht, ← hW1]
  rw [hW1'] at hrel
  refine ⟨w.heap.size + 1, [{ target := .collected w.heap.size, args := #[] }], W1, { target := .fn (.func k) captured'.toArray, args := first'.toArray ++ #[.func (.yield (w.heap.size + 1)) #[] #[]] }, W1, k,
    (first' ++ [Value.func (.yield (w.heap.size + 1)) #[] #[]] ++ captured').toArray, W1, by rw [← hW1]; exact run_enterLoop_outer fnid a.tmps ps asn b, ?_, fun _ _ => trivial, ?_, FF_depth, ?_⟩
  · simp only [resolve, hgv, Deferred.ofValue]
    simp [Act.eval]
  · simp only [invoke]
    rw [run_callFunc hcl]
    simp
  · have hargs : VRelL κ1 (first ++ [.yld S.length] ++ captured) (first' ++ [.func (.yield (w.heap.size + 1)) #[] #[]] ++ captured') :=
      (VRelL.append (VRelL.mono hle ⟨g1, g3⟩) (.cons (.yld _ _ t iN hrec hiN) (.nil _))).append (VRelL.mono hle ⟨g2, g4⟩)
    refine FF_calls ((hcalls κ1 _ _ (Kap.le0_refl _) hrel hargs).mono ?_)
    rintro en w3 ⟨v1, v', S3, κ3, rfl, ⟨rfl, rfl⟩, q3, q4, q5⟩
    have hr3 := q5.2.2.2.2.1 _ _ hrec
    have hle3 := Kap.le_trans hle q5
    have fin : ∀ (st : LoopState) (pe : Option Ex), S3[S.length]? = some (.loop st pe) → st ≠ .busy →
        ∃ w4, (Instr.endLoop (w.heap.size + 1)).run P w3 = .ok (pe.map Ex.code) w4 ∧ Rel W κ3 (S3.set S.length (.loop .exhausted pe)) w4 ∧
          FrOk κ3 n ((markBase + S.length, .junk) :: f) { a with defers := [{ target := .collected w.heap.size, args := #[] }] ++ a.defers } := by
      intro st pe hst hb
      obtain ⟨k1, _⟩ := q4.loops.lt hst hr3
      refine ⟨_, run_endLoop k1 hb, q4.setLoop hst hr3 .exhausted pe, ?_⟩
      have hf3 := hf.mono hle3
      refine ⟨fun s => ?_, hf3.size, hf3.big, fun j hj => ?_, ?_⟩
      · simp only [Fr.get]
        split
        · exact .junk _
        · exact hf3.rel s
      · rw [marks_mark] at hj
        rcases List.mem_cons.1 hj with rfl | hj
        · exact ⟨_, hr3⟩
        · exact hf3.known j hj
      · rw [marks_mark]
        have hd := hf3.defers
        rw [List.map_cons, ← hd, hr3, ← ht]
        rfl
    unfold rngEnd at hv
    simp only at hv
    split at hv
    · rename_i hst
      obtain ⟨w4, r1, r2, r3⟩ := fin _ _ hst (by simp)
      simp only [Option.some.injEq, Prod.mk.injEq] at hv
      obtain ⟨rfl, rfl, rfl⟩ := hv
      exact ⟨_, w4, r1, hQ κ3 w4 _ hle3 r3 r2⟩
    · rename_i hst
      obtain ⟨w4, r1, r2, r3⟩ := fin _ _ hst (by simp)
      simp only [Option.some.injEq, Prod.mk.injEq] at hv
      obtain ⟨rfl, rfl, rfl⟩ := hv
      exact ⟨_, w4, r1, wpIn_ret (hQ κ3 w4 _ hle3 r3 r2)⟩
    · rename_i id hst
      obtain ⟨w4, r1, r2, r3⟩ := fin _ _ hst (by simp)
      simp only [Option.some.injEq, Prod.mk.injEq] at hv
      obtain ⟨rfl, rfl, rfl⟩ := hv
      exact ⟨_, w4, r1, wpIn_exit (hQ κ3 w4 _ hle3 r3 r2)⟩
    · simp at hv

end Am
