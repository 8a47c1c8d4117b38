/- Regions, code and functions of the machine stand for the model's. -/
import Derived.Test.YtffhiphcmohjdaaGreatDoorAmCall
import Derived.OrdersIn
import Derived.RangeFuncRecord
set_option linter.all false
namespace Am
open Go Go.RowKit

variable {P : Program} {W : World} {κ : Kap} {S : St} {w : World} {f : Fr} {a : Act} {fs : List FuncId} {fz : Bool} {O : Orc}

theorem run_callFunc {g : FuncId} (hg : Callable P g) (args' : Array Value) (w : World) : (callFunc g args').run P w = .ok (.enter g args') w := by
  obtain ⟨fn, h1, h2, h3⟩ := hg
  have h4 : fn.body.isNone = false := by cases hb : fn.body <;> simp_all
  simp only [callFunc, Sem.run_bind, run_program, Result.andThen_ok, h1, h2, Bool.false_eq_true, if_false, h4, Sem.run_pure]

/-- What a loop over a function does with what comes is true of its rounds. -/
def YOk (P : Program) (W : World) (κ0 : Kap) (Y : Nat → Model) : Prop := ∀ (j : Nat) args S v S', Y j args S = some (v, S') → ∀ (κ : Kap) (w : World) (args' : List Value) (l : Nat) (t : Loop),
  κ0.le0 κ → Rel W κ S w → VRelL κ args args' → κ.recs j = some (l, t) →
  ∃ f tmps asn body, (Instr.yield l args'.toArray).run P w = .ok (.round l f tmps asn body) w ∧
    RoundIn Fence.wide 0 P l f tmps asn body w fun e w' => ∃ v' κ', e = .returned v' ∧ VRel κ' v v' ∧ Rel W κ' S' w' ∧ κ.le κ'

theorem YOk.nil (P : Program) (W : World) (κ0 : Kap) : YOk P W κ0 (fun _ _ _ => none) := fun _ _ _ _ _ h => by simp at h

/-- As 'ACalls', over what is known already. -/
def ACallsK (P : Program) (W : World) (κ0 : Kap) (g : FuncId) (args : List AVal) (S : St) (Q : AVal → St → Prop) : Prop :=
  ∀ (κ : Kap) (w : World) (args' : List Value), κ0.le0 κ → Rel W κ S w → VRelL κ args args' →
    Calls P g args'.toArray w fun e w' => ∃ v v' S' κ', e = .returned v' ∧ Q v S' ∧ VRel κ' v v' ∧ Rel W κ' S' w' ∧ κ.le κ'

structure OrcIOk (P : Program) (W : World) (O : Orc) : Prop where
  itr : ∀ k κ0 Y, YOk P W κ0 Y → ∀ args S v S', O.itr k Y args S = some (v, S') → Callable P k ∧ ACallsK P W κ0 k args S fun u T => u = v ∧ T = S'

/-- The fence of a function's own frame, or of a round's. -/
def FF (ro : Option Nat) : Fence := { fn := fun _ => True, depth := none, alive := false, round := ro }

theorem FF_calls {ro : Option Nat} {g : FuncId} {args : Array Value} {w : World} {R : Ending → World → Prop} (h : Calls P g args w R) : CallsIn (FF ro) 0 P g args w R :=
  (callsIn_wide (n := 0)).2 h

theorem FF_round {ro : Option Nat} {l : Nat} {f : FuncId} {tmps : Array Value} {asn body : Code} {w : World} {R : Ending → World → Prop} (h : RoundIn Fence.wide 0 P l f tmps asn body w R) :
    RoundIn (FF ro) 0 P l f tmps asn body w R := h

theorem FF_depth {ro : Option Nat} : (FF ro).depth.isSome = true → 1 ≤ 0 := by simp [FF]

theorem filterMap_lookup {α : Type} {F : Nat → Option (Nat × α)} (hF : ∀ t p, F t = some p → p.1 = t) : ∀ {l : List Nat} {t : Nat} {i : α}, (l.filterMap F).lookup t = some i → F t = some (t, i)
  | [], t, i, h => by simp at h
  | u :: l, t, i, h => by
    rw [List.filterMap_cons] at h
    split at h
    · exact filterMap_lookup hF h
    · rename_i p hp
      obtain ⟨p1, p2⟩ := p
      have h1 := hF u _ hp
      simp only at h1
      subst h1
      rw [List.lookup_cons] at h
      split at h
      · rename_i heq
        have : t = p1 := by simpa using heq
        subst this
        cases h
        exact hp
      · exact filterMap_lookup hF h

theorem methTbl_lookup {name : String} {t : TypeId} {i : Nat} (h : (methTbl P fs name).lookup t = some i) : ∃ g, methA P name t = some g ∧ fs.idxOf? g = some i := by
  have := filterMap_lookup (F := fun t => do let f ← methA P name t; let i ← fs.idxOf? f; some (t, i)) (fun u p hp => by
    simp only [Option.bind_eq_bind, Option.bind_eq_some_iff, Option.some.injEq] at hp
    obtain ⟨_, _, _, _, rfl⟩ := hp; rfl) h
  simp only [Option.bind_eq_bind, Option.bind_eq_some_iff, Option.some.injEq, Prod.mk.injEq, true_and] at this
  obtain ⟨g, h1, j, h2, rfl⟩ := this
  exact ⟨g, h1, h2⟩

theorem run_method {name : String} {t : TypeId} {g : FuncId} (h : methA P name t = some g) (x : Value) (n : Nat) (w : World) : (method (n + 1) t x name).run P w = .ok (g, x) w := by
  unfold methA at h
  simp only [Option.bind_eq_bind, Option.bind_eq_some_iff] at h
  obtain ⟨i, hi, m, hm, ⟨f0, p⟩, hf, h⟩ := h
  split at h
  · rename_i hp
    have hpath : m.path.toList = [] := by simpa using hp
    simp only [Option.bind_eq_some_iff] at h
    obtain ⟨d, hd, h⟩ := h
    split at h
    · split at h
      · rename_i e hpt
        subst hpt
        cases h
        simp [method, typeInfo, hi, hm, hpath, follow, hf, receiverAt, run_underlying hd, Place.get]
      · simp at h
    · split at h
      · rename_i hnp hpf
        subst hpf
        cases h
        cases d <;> first | (exfalso; exact hnp _ rfl) | simp [method, typeInfo, hi, hm, hpath, follow, hf, receiverAt, run_underlying hd, Place.get]
      · simp at h
  · simp at h

theorem callee_ok (hO : OrcOk P W fs O) {c : Call} {o : Oper} (ho : o.op = .call c) {ac : ACallee} (hc : compCall P fs c = some (.inr ac)) (hf : FRel κ f a.tmps)
    {v : AVal} {S' : St} (hv : evCall O f.ev S ac = some (v, S')) (w : World) :
    (∃ g args args', (execOp a.eval o).run P w = .ok (.enter g args'.toArray) w ∧ VRelL κ args args' ∧ ACalls P W g args S fun u T => u = v ∧ T = S') ∨
    (∃ j l t args args', (execOp a.eval o).run P w = ((Instr.yield l args'.toArray).run P w) ∧ VRelL κ args args' ∧ κ.recs j = some (l, t) ∧ O.yld j args S = some (v, S')) := by
  unfold compCall at hc
  have e2 : c.args.map a.eval = (c.args.toList.map a.eval).toArray := by apply Array.ext'; simp
  split at hc
  · simp only [Option.bind_eq_bind, Option.pure_def, Option.bind_eq_some_iff] at hc
    obtain ⟨d, _, hc⟩ := hc
    split at hc
    · simp only [Option.bind_eq_some_iff] at hc
      obtain ⟨_, _, _, _, _, _, _, _, _, _, _, _, hc⟩ := hc
      split at hc
      · simp at hc
      · split at hc <;> simp at hc
    · simp at hc
  · simp only [Option.bind_eq_bind, Option.pure_def, Option.bind_eq_some_iff] at hc
    obtain ⟨d, _, hc⟩ := hc
    split at hc
    · simp only [Option.bind_eq_some_iff, Option.some.injEq, reduceCtorEq, and_false, exists_false] at hc
    · simp at hc
  · simp only [Option.bind_eq_bind, Option.pure_def, Option.bind_eq_some_iff] at hc
    obtain ⟨d, _, hc⟩ := hc
    split at hc
    · simp only [Option.bind_eq_some_iff, Option.some.injEq, reduceCtorEq, and_false, exists_false] at hc
    · simp only [Option.bind_eq_some_iff, Option.some.injEq, reduceCtorEq, and_false, exists_false] at hc
    · simp only [Option.bind_eq_some_iff, Option.some.injEq, reduceCtorEq, and_false, exists_false] at hc
    · simp at hc
    · simp only [Option.bind_eq_some_iff] at hc
      obtain ⟨_, _, hc⟩ := hc
      split at hc <;> simp at hc
    · simp at hc
  · simp only [Option.bind_eq_bind, Option.pure_def, Option.bind_eq_some_iff, Option.some.injEq, reduceCtorEq, and_false, exists_false] at hc
  · simp only [Option.bind_eq_bind, Option.pure_def, Option.bind_eq_some_iff, Option.some.injEq, reduceCtorEq, and_false, exists_false] at hc
  · simp only [Option.bind_eq_bind, Option.pure_def, Option.bind_eq_some_iff] at hc
    obtain ⟨d, _, hc⟩ := hc
    split at hc
    · simp only [Option.bind_eq_some_iff] at hc
      obtain ⟨_, _, hc⟩ := hc
      split at hc <;> simp only [Option.bind_eq_some_iff, Option.some.injEq, reduceCtorEq, and_false, exists_false] at hc
    · simp at hc
  · simp only [Option.bind_eq_bind, Option.pure_def, Option.bind_eq_some_iff] at hc
    obtain ⟨d, _, hc⟩ := hc
    split at hc
    · simp only [Option.bind_eq_some_iff, Option.some.injEq, reduceCtorEq, and_false, exists_false] at hc
    · simp at hc
  · rename_i g hcal
    simp only [Option.bind_eq_bind, Option.pure_def, Option.bind_eq_some_iff, Option.some.injEq, Sum.inr.injEq] at hc
    obtain ⟨i, hi, as, has, rfl⟩ := hc
    have hg : fs[i]? = some g := by
      obtain ⟨h1, h2, _⟩ := List.idxOf?_eq_some_iff.1 hi
      rw [List.getElem?_eq_getElem h1]
      simpa using h2
    simp only [evCall] at hv
    split at hv
    · rename_i m hm
      obtain ⟨hcl, hac⟩ := hO.loc i g m hg hm _ _ _ _ hv
      refine .inl ⟨g, as.map f.ev, c.args.toList.map a.eval, ?_, argsA_rel has hf, hac⟩
      simp only [execOp, ho, resolve, hcal, Act.eval, Deferred.ofValue, Sem.run_bind, Sem.run_pure, Result.andThen_ok, invoke, Array.empty_append, Array.append_empty]
      rw [run_callFunc hcl, e2]
    · simp at hv
  · rename_i t hcal
    simp only [Option.bind_eq_bind, Option.pure_def, Option.bind_eq_some_iff, Option.some.injEq, Sum.inr.injEq] at hc
    obtain ⟨as, has, rfl⟩ := hc
    simp only [evCall] at hv
    split at hv
    · rename_i k first captured he
      obtain ⟨hcl, hac⟩ := hO.dyn k _ _ _ _ hv
      have r := argA_rel (κ := κ) (x := .tmp t) (ax := .t t) rfl hf
      rw [he] at r
      generalize hx : a.eval (.tmp t) = u at r
      cases r with
      | fn _ _ _ first' captured' g1 g2 g3 g4 =>
        refine .inl ⟨k, first ++ as.map f.ev ++ captured, first' ++ c.args.toList.map a.eval ++ captured', ?_, (VRelL.append ⟨g1, g3⟩ (argsA_rel has hf)).append ⟨g2, g4⟩, hac⟩
        simp only [execOp, ho, resolve, hcal, hx, Deferred.ofValue, Sem.run_bind, Sem.run_pure, Result.andThen_ok, invoke]
        rw [run_callFunc hcl, e2]
        congr 2
        apply Array.ext'
        simp
    · rename_i j he
      have r := argA_rel (κ := κ) (x := .tmp t) (ax := .t t) rfl hf
      rw [he] at r
      generalize hx : a.eval (.tmp t) = u at r
      cases r with
      | yld _ l tt i hr hi =>
        refine .inr ⟨j, l, tt, as.map f.ev, c.args.toList.map a.eval, ?_, argsA_rel has hf, hr, hv⟩
        simp only [execOp, ho, resolve, hcal, hx, Deferred.ofValue, Sem.run_bind, Sem.run_pure, Result.andThen_ok, invoke, e2]
        simp
    · simp at hv
  · rename_i rc name hcal
    simp only [Option.bind_eq_bind, Option.pure_def, Option.bind_eq_some_iff, Option.some.injEq, Sum.inr.injEq] at hc
    obtain ⟨ar, har, as, has, rfl⟩ := hc
    simp only [evCall] at hv
    split at hv
    · rename_i t dv he
      split at hv
      · rename_i i hi
        split at hv
        · rename_i m hm
          obtain ⟨g, hg, hgi⟩ := methTbl_lookup hi
          have hg' : fs[i]? = some g := by
            obtain ⟨h1, h2, _⟩ := List.idxOf?_eq_some_iff.1 hgi
            rw [List.getElem?_eq_getElem h1]
            simpa using h2
          obtain ⟨hcl, hac⟩ := hO.loc i g m hg' hm _ _ _ _ hv
          have r := argA_rel (κ := κ) har hf
          rw [he] at r
          generalize hx : a.eval rc = u at r
          cases r with
          | iface _ _ xx hxx =>
            refine .inl ⟨g, dv :: as.map f.ev, xx :: c.args.toList.map a.eval, ?_, VRelL.cons hxx (argsA_rel has hf), hac⟩
            have e3 : (#[Value.iface t xx] ++ c.args.map a.eval)[0]? = some (.iface t xx) := by simp [Array.getElem?_append]
            have e4 : (#[Value.iface t xx] ++ c.args.map a.eval).extract 1 (#[Value.iface t xx] ++ c.args.map a.eval).size = c.args.map a.eval := by
              apply Array.ext'; simp; rw [List.take_of_length_le (by simp)]
            have hdp : 0 < Made.depth := by decide
            obtain ⟨n, hn⟩ : ∃ n, P.types.size + Made.depth = n + 1 := ⟨P.types.size + Made.depth - 1, by omega⟩
            have e5 : #[xx] ++ c.args.map a.eval = (xx :: c.args.toList.map a.eval).toArray := by apply Array.ext'; simp
            simp only [execOp, ho, resolve, hcal, hx, Sem.run_bind, Sem.run_pure, Result.andThen_ok, invoke, e3, e4, callMethod, run_program, hn, run_method hg xx n w, run_callFunc hcl, e5]
        · simp at hv
      · simp at hv
    · simp at hv
  · simp at hc

/-- A frame that stands for an activation. -/
structure FrOk (κ : Kap) (n : Nat) (f : Fr) (a : Act) : Prop where
  rel : FRel κ f a.tmps
  size : a.tmps.size = n
  big : n ≤ markBase
  known : ∀ j ∈ marks f, ∃ p, κ.recs j = some p
  defers : a.defers = (marks f).map fun j => { target := .collected ((κ.recs j).elim 0 (·.2.defers)), args := #[] }

theorem FrOk.mono0 {n : Nat} {κ' : Kap} (hle : κ.le0 κ') (h : FrOk κ n f a) : FrOk κ' n f a := by
  refine ⟨fun t => (h.rel t).mono0 hle, h.size, h.big, fun j hj => ?_, ?_⟩
  · obtain ⟨p, hp⟩ := h.known j hj
    exact ⟨p, hle.2.2.2.2 j p hp⟩
  · rw [h.defers]
    apply List.map_congr_left
    intro j hj
    obtain ⟨p, hp⟩ := h.known j hj
    rw [hp, hle.2.2.2.2 j p hp]

theorem FrOk.mono {n : Nat} {κ' : Kap} (hle : κ.le κ') (h : FrOk κ n f a) : FrOk κ' n f a := h.mono0 hle.le0

theorem marks_set (f : Fr) {d : Nat} (v : AVal) (hd : d < markBase) : marks (f.set d v) = marks f := by
  unfold marks
  induction f with
  | nil => simp [Fr.set]; omega
  | cons p r ih =>
    obtain ⟨e, u⟩ := p
    simp only [Fr.set]
    by_cases h : d = e
    · subst h
      have h1 : ¬ markBase ≤ d := by omega
      simp [h1]
    · rw [if_neg h]
      simp only [List.filterMap_cons, ih]

theorem FrOk.put {n : Nat} (h : FrOk κ n f a) {dst : Option Tmp} (hd : ∀ d, dst = some d → d < n) {v : AVal} {v' : Value} (hv : VRel κ v v') : FrOk κ n (putA f dst v) (a.put dst v') := by
  cases dst with
  | none => exact h
  | some d =>
    have hm : marks (f.set d v) = marks f := marks_set f v (Nat.lt_of_lt_of_le (hd d rfl) h.big)
    refine ⟨fun t => ?_, by simp [Act.put, h.size], h.big, fun j hj => h.known j (by simp only [putA, hm] at hj; exact hj), by simp only [putA, hm]; exact h.defers⟩
    have hd := hd d rfl
    simp only [putA, Fr.get_set, Act.put]
    by_cases ht : t = d
    · subst ht
      rw [if_pos rfl]
      have hs := h.size
      have : (a.tmps.setIfInBounds t v').getD t undef = v' := by
        simp only [Array.getD_eq_getD_getElem?]
        rw [Array.getElem?_setIfInBounds_self_of_lt (by rw [hs]; exact hd)]
        rfl
      rw [this]; exact hv
    · rw [if_neg ht]
      have : (a.tmps.setIfInBounds d v').getD t undef = a.tmps.getD t undef := by
        simp only [Array.getD_eq_getD_getElem?]
        rw [Array.getElem?_setIfInBounds_ne (fun e => ht e.symm)]
      rw [this]; exact h.rel t

def compOper (P : Program) (fs : List FuncId) (n : Nat) (ops : Array Oper) (fz : Bool) (o : Oper) : Option AOper :=
  match compOp P fs fz o.op with
  | none => none
  | some op =>
    if (o.dst.all fun d => decide (d < n)) = true then
      match o.guard with
      | none => some ⟨o.dst, op, none⟩
      | some (j, want) => match (ops[j]?).bind (·.dst) with
        | some t => some ⟨o.dst, op, some (t, want)⟩
        | none => none
    else none

theorem yielded_rel {n : Nat} (h : FrOk κ n f a) {ops : Array Oper} {j : Nat} {t : Tmp} (hj : (ops[j]?).bind (·.dst) = some t) {b : Bool} (hb : f.get t = .bool b) : yielded ops a.tmps j = some b := by
  have := h.rel t
  rw [hb] at this
  have hg : a.tmps[t]? = some (.bool b) := by
    simp only [Array.getD_eq_getD_getElem?] at this
    cases hx : a.tmps[t]? with
    | none => rw [hx] at this; simp [undef] at this; cases this
    | some x => rw [hx] at this; simp at this; cases this; rfl
  simp [yielded, hj, hg]

theorem vrel_undef : VRel κ (.tup []) undef := .tup [] [] rfl (fun _ _ _ h => by simp at h)

theorem yielded_undef {n : Nat} (h : FrOk κ n f a) {ops : Array Oper} {j : Nat} {t : Tmp} (hj : (ops[j]?).bind (·.dst) = some t) (hb : f.get t = .tup []) : yielded ops a.tmps j = none := by
  have := h.rel t
  rw [hb] at this
  have hg : ∀ b, a.tmps[t]? ≠ some (.bool b) := by
    intro b hx
    simp only [Array.getD_eq_getD_getElem?, hx] at this
    simp at this
    cases this
  unfold yielded
  rw [hj, Option.bind_some]
  cases hx : a.tmps[t]? with
  | none => rfl
  | some y => cases y <;> first | rfl | exact absurd hx (hg _)

/-- One operation of a region, and what stands behind it. -/
theorem wpOp_of {κ0 : Kap} {ro : Option Nat} (hO : OrcOk P W fs O) (hY : YOk P W κ0 O.yld) (hle0 : κ0.le0 κ) {n : Nat} {ops : Array Oper} {Q : Exit → Act → World → Prop} {i : Nat} {o : Oper} {ao : AOper} (hi : ops[i]? = some o) (hc : compOper P fs n ops fz o = some ao)
    (hf : FrOk κ n f a) (h : Rel W κ S w) {f' : Fr} {S' : St} (hv : evOper O ao f S = some (f', S')) {K : Act → World → Prop}
    (hK : ∀ κ' w' a', κ.le κ' → FrOk κ' n f' a' → Rel W κ' S' w' → (∃ v', a' = a.put ao.dst v') → K a' w') : wpOpIn (FF ro) 0 P ops Q i K a w := by
  unfold compOper at hc
  split at hc
  · simp at hc
  · rename_i op hop
    split at hc
    · rename_i hdst
      have hd : ∀ d, o.dst = some d → d < n := by
        intro d hd; rw [hd] at hdst; simpa using hdst
      have hdd : ao.dst = o.dst := by
        split at hc
        · simp only [Option.some.injEq] at hc; subst hc; rfl
        · split at hc
          · simp only [Option.some.injEq] at hc; subst hc; rfl
          · simp at hc
      rw [hdd] at hK
      have key : putR f o.dst (evAny O f.ev S op) = some (f', S') → o.wpIn (FF ro) 0 P a w K Q := by
        intro hv
        have hns : op ≠ .inl .stop := by
          intro e
          rw [e] at hv
          simp [evAny, evOp, putR] at hv
        unfold putR at hv
        have hsem : o.semAt (FF ro).round a.eval = execOp a.eval o := Oper.semAt_eq _ _ _ (by
          intro c hc
          rw [hc] at hop
          simp [compOp, compOp1] at hop
          exact hns hop.symm)
        unfold Oper.wpIn
        rw [hsem]
        refine ⟨fun _ _ => trivial, ?_⟩
        cases op with
        | inl aop =>
          simp only [evAny] at hv
          split at hv
          · rename_i v S1 he
            simp only [Option.some.injEq, Prod.mk.injEq] at hv
            obtain ⟨rfl, rfl⟩ := hv
            obtain ⟨nx, w', κ', h1, h2, h3, h4⟩ := op_ok2 rfl hop hf.rel h he
            rw [h1]
            rcases h2 with ⟨v', rfl, hv'⟩ | ⟨rfl, rfl⟩
            · rw [Oper.uponIn_value]
              exact hK κ' w' _ h4 ((hf.mono h4).put hd hv') h3 ⟨_, rfl⟩
            · rw [Oper.uponIn_skip]
              exact hK κ' w' _ h4 ((hf.mono h4).put hd (.junk _)) h3 ⟨_, rfl⟩
          · simp at hv
        | inr ac =>
          simp only [evAny] at hv
          split at hv
          · rename_i v S1 he
            simp only [Option.some.injEq, Prod.mk.injEq] at hv
            obtain ⟨rfl, rfl⟩ := hv
            obtain ⟨c, hcall, hop⟩ := compOp_inr hop
            rcases callee_ok hO hcall hop hf.rel he w with ⟨g, args, args', r1, r2, r3⟩ | ⟨j, l, t, args, args', r1, r2, r3, r4⟩
            · rw [r1, Oper.uponIn_enter]
              refine ⟨FF_depth, FF_calls ((r3 κ w args' h r2).mono ?_)⟩
              rintro e w' ⟨v1, v', S2, κ', rfl, ⟨rfl, rfl⟩, q3, q4, q5⟩
              exact hK κ' w' _ q5 ((hf.mono q5).put hd q3) q4 ⟨_, rfl⟩
            · obtain ⟨fn, tmps, asn, body, r5, r6⟩ := hY j args S _ _ r4 κ w args' l t hle0 h r2 r3
              rw [r1, r5, Oper.uponIn_round]
              refine ⟨FF_depth, FF_round (r6.mono ?_)⟩
              rintro e w' ⟨v', κ', rfl, q3, q4, q5⟩
              exact hK κ' w' _ q5 ((hf.mono q5).put hd q3) q4 ⟨_, rfl⟩
          · simp at hv
      unfold wpOpIn
      rw [hi]
      simp only
      split at hc
      · rename_i hg
        simp only [Option.some.injEq] at hc
        subst hc
        have hw : Region.wanted o (yielded ops a.tmps) = true := by simp [Region.wanted, hg]
        rw [if_pos hw]
        exact key hv
      · rename_i j want hg
        split at hc
        · rename_i t ht
          simp only [Option.some.injEq] at hc
          subst hc
          simp only [evOper] at hv
          split at hv
          · rename_i b hb
            have hy := yielded_rel hf ht hb
            have hw : Region.wanted o (yielded ops a.tmps) = (b == want) := by simp [Region.wanted, hg, hy]
            split at hv
            · rename_i hbw
              rw [if_pos (by rw [hw]; simpa using hbw)]
              exact key hv
            · rename_i hbw
              rw [if_neg (by rw [hw]; simpa using hbw)]
              simp only [Option.some.injEq, Prod.mk.injEq] at hv
              obtain ⟨rfl, rfl⟩ := hv
              exact ⟨fun _ _ => trivial, hK κ w _ (Kap.le_refl κ) (hf.put hd vrel_undef) h ⟨_, rfl⟩⟩
          · rename_i vs hb
            split at hv
            · rename_i hvs
              have hvs' : vs = [] := by simpa using hvs
              subst hvs'
              have hy := yielded_undef hf ht hb
              have hw : Region.wanted o (yielded ops a.tmps) = false := by simp [Region.wanted, hg, hy]
              rw [if_neg (by rw [hw]; simp)]
              simp only [Option.some.injEq, Prod.mk.injEq] at hv
              obtain ⟨rfl, rfl⟩ := hv
              exact ⟨fun _ _ => trivial, hK κ w _ (Kap.le_refl κ) (hf.put hd vrel_undef) h ⟨_, rfl⟩⟩
            · simp at hv
          · simp at hv
        · simp at hc
    · simp at hc

end Am
