/- An operation that was translated stands for the model's. -/
import Derived.Test.YtgbifohffmdgeaaDoorAmOpsG
set_option linter.all false
namespace Am
open Go Go.RowKit

variable {P : Program} {W : World} {κ : Kap} {S : St} {w : World} {f : Fr} {a : Act} {fs : List FuncId} {fz : Bool}

/-- What an operation that calls nothing comes to. -/
def OpRuns (P : Program) (W : World) (κ : Kap) (w : World) (ρ : Operand → Value) (o : Oper) (v : AVal) (S' : St) : Prop :=
  ∃ nx w' κ', (execOp ρ o).run P w = .ok nx w' ∧ ((∃ v', nx = .value v' ∧ VRel κ' v v') ∨ (nx = .skip ∧ v = .junk)) ∧ Rel W κ' S' w' ∧ κ.le κ'

theorem OpRuns.of {ρ : Operand → Value} {o : Oper} {v : AVal} {S' : St} {m : Sem Value} (hm : ∀ v' w', m.run P w = .ok v' w' → (execOp ρ o).run P w = .ok (.value v') w') (h : Runs P W κ w m v S') : OpRuns P W κ w ρ o v S' := by
  obtain ⟨v', w', κ', h1, h2, h3, h4⟩ := h
  exact ⟨_, w', κ', hm _ _ h1, .inl ⟨v', rfl, h2⟩, h3, h4⟩

theorem same_some {S S' : St} {x : Option AVal} {v : AVal} (h : same S x = some (v, S')) : x = some v ∧ S' = S := by
  unfold same at h
  cases x with
  | none => simp at h
  | some y => simp at h; exact ⟨by rw [h.1], h.2.symm⟩

abbrev OpOk (P : Program) (fs : List FuncId) (fz : Bool) (op : Op) : Prop :=
  ∀ (W : World) (κ : Kap) (S : St) (w : World) (f : Fr) (a : Act) (o : Oper) (aop : AOp) (v : AVal) (S' : St), o.op = op → compOp1 P fs fz op = some (.inl aop) → FRel κ f a.tmps → Rel W κ S w →
    evOp f.ev S aop = some (v, S') → OpRuns P W κ w a.eval o v S'

theorem fgt_ok {x : Operand} {ax : Arg} (hax : argA x = some ax) (hf : FRel κ f a.tmps) (h : Rel W κ S w) {v : AVal} {S' : St} (hv : evOp f.ev S (.fgt ax) = some (v, S')) {o : Oper}
    (hr : (execOp a.eval o).run P w = .ok (.value (a.eval x)) w) : OpRuns P W κ w a.eval o v S' := by
  have r := argA_rel (κ := κ) hax hf
  simp only [evOp] at hv
  split at hv
  · rename_i e
    cases hv
    rw [e] at r
    refine ⟨_, w, κ, hr, .inl ⟨_, rfl, ?_⟩, h, Kap.le_refl κ⟩
    generalize a.eval x = u at r
    cases r with
    | slm _ _ _ _ _ _ inf a c hr hver hlm hmcc hext => exact .sl _ _ _ _ _ inf a c hr hver (by omega) hext
  · simp at hv

theorem ok_move (x : Operand) : OpOk P fs fz (.move x) := by
  intro W κ S w f a o aop v S' ho hc hf h hv
  simp only [compOp1, Option.bind_eq_bind, Option.bind_eq_some_iff, Option.pure_def, Option.some.injEq, Sum.inl.injEq] at hc
  obtain ⟨ax, hax, rfl⟩ := hc
  split at hv
  · exact fgt_ok hax hf h (by simpa using hv) (by simp only [execOp, ho, Sem.run_pure])
  simp only [evOp, Option.some.injEq, Prod.mk.injEq] at hv
  obtain ⟨rfl, rfl⟩ := hv
  exact ⟨_, w, κ, by simp only [execOp, ho, Sem.run_pure], .inl ⟨_, rfl, argA_rel hax hf⟩, h, Kap.le_refl κ⟩

theorem ok_assign (x : Operand) : OpOk P fs fz (.assign x) := by
  intro W κ S w f a o aop v S' ho hc hf h hv
  simp only [compOp1, Option.bind_eq_bind, Option.bind_eq_some_iff, Option.pure_def, Option.some.injEq, Sum.inl.injEq] at hc
  obtain ⟨ax, hax, rfl⟩ := hc
  split at hv
  · exact fgt_ok hax hf h (by simpa using hv) (by simp only [execOp, ho, Sem.run_pure])
  simp only [evOp, Option.some.injEq, Prod.mk.injEq] at hv
  obtain ⟨rfl, rfl⟩ := hv
  exact ⟨_, w, κ, by simp only [execOp, ho, Sem.run_pure], .inl ⟨_, rfl, argA_rel hax hf⟩, h, Kap.le_refl κ⟩

theorem ok_pick (c x y : Operand) : OpOk P fs fz (.pick c x y) := by
  intro W κ S w f a o aop v S' ho hc hf h hv
  simp only [compOp1, Option.bind_eq_bind, Option.bind_eq_some_iff, Option.pure_def, Option.some.injEq, Sum.inl.injEq] at hc
  obtain ⟨ac, hac, ax, hax, ay, hay, rfl⟩ := hc
  simp only [evOp] at hv
  have r := argA_rel (κ := κ) hac hf
  split at hv
  · rename_i t ht
    rw [ht] at r
    cases hr : a.eval c with
    | bool b =>
      rw [hr] at r
      cases r
      cases hv
      refine ⟨.value (if t = true then a.eval x else a.eval y), w, κ, by simp [execOp, ho, asBool, hr], .inl ⟨_, rfl, ?_⟩, h, Kap.le_refl κ⟩
      cases t
      · simpa using argA_rel hay hf
      · simpa using argA_rel hax hf
    | _ => rw [hr] at r; cases r
  · simp at hv

theorem ok_alloc (e : TypeId) : OpOk P fs fz (.alloc e) := by
  intro W κ S w f a o aop v S' ho hc hf h hv
  simp only [compOp1, Option.bind_eq_bind, Option.bind_eq_some_iff, Option.pure_def, Option.some.injEq, Sum.inl.injEq] at hc
  obtain ⟨z, hz, rfl⟩ := hc
  simp only [evOp, Option.some.injEq, Prod.mk.injEq] at hv
  obtain ⟨rfl, rfl⟩ := hv
  exact .of (fun v' w' h' => by simp [execOp, ho, h']) (alloc_ok h hz)

theorem ok_box (e : TypeId) (x : Operand) : OpOk P fs fz (.box e x) := by
  intro W κ S w f a o aop v S' ho hc hf h hv
  simp only [compOp1, Option.bind_eq_bind, Option.bind_eq_some_iff, Option.pure_def, Option.some.injEq, Sum.inl.injEq] at hc
  obtain ⟨ax, hax, rfl⟩ := hc
  simp only [evOp] at hv
  split at hv
  · rename_i cs hcs
    cases hv
    exact .of (fun v' w' h' => by simp [execOp, ho, h']) (box_ok h e (argA_rel hax hf) hcs)
  · simp at hv

theorem ok_build (t : TypeId) (parts : Array (Nat × Operand)) : OpOk P fs fz (.build t parts) := by
  intro W κ S w f a o aop v S' ho hc hf h hv
  simp only [compOp1, Option.bind_eq_bind, Option.bind_eq_some_iff, Option.pure_def] at hc
  obtain ⟨zero, hz, d, hd, hc⟩ := hc
  have fin : ∀ ps, aop = .build zero ps → ((∃ fields sizes, P.underlying t = some (.struct fields) ∧ fields.toList.mapM (fun f => do pure (f.offset, ← sizeP P f.type)) = some sizes ∧ compParts (sizes[·]?) parts.toList = some ps) ∨
      (∃ n e sz, P.underlying t = some (.array n e) ∧ sizeP P e = some sz ∧ compParts (fun i => some (i * sz, sz)) parts.toList = some ps)) → OpRuns P W κ w a.eval o v S' := by
    rintro ps rfl hp
    simp only [evOp] at hv
    replace hv := same_some hv; obtain ⟨hv, rfl⟩ := hv
    simp only [Option.map_eq_some_iff] at hv
    obtain ⟨cs, hcs, rfl⟩ := hv
    have := build_ok (P := P) h hz hf hp hcs
    refine .of (fun v' w' h' => ?_) this
    have e : (parts.map fun (i, x) => (i, a.eval x)) = (parts.toList.map fun (i, x) => (i, a.eval x)).toArray := by
      apply Array.ext'; simp
    simp only [execOp, ho, Sem.run_bind, e, h', Result.andThen_ok, Sem.run_pure]
  split at hc
  · rename_i fields
    simp only [Option.bind_eq_some_iff, Option.some.injEq, Sum.inl.injEq] at hc
    obtain ⟨sizes, hm, ps, hps, rfl⟩ := hc
    exact fin ps rfl (.inl ⟨fields, sizes, hd, by simpa using hm, hps⟩)
  · rename_i n e
    simp only [Option.bind_eq_some_iff, Option.some.injEq, Sum.inl.injEq] at hc
    obtain ⟨sz, hsz, ps, hps, rfl⟩ := hc
    exact fin ps rfl (.inr ⟨n, e, sz, hd, hsz, hps⟩)
  · simp at hc

theorem ok_buildSlice (t : TypeId) (len : Nat) (parts : Array (Nat × Operand)) : OpOk P fs fz (.buildSlice t len parts) := by
  intro W κ S w f a o aop v S' ho hc hf h hv
  simp only [compOp1, Option.bind_eq_bind, Option.bind_eq_some_iff, Option.pure_def] at hc
  obtain ⟨d, hd, hc⟩ := hc
  split at hc
  · rename_i e
    simp only [Option.bind_eq_some_iff] at hc
    obtain ⟨sz, hsz, zero, hz, hc⟩ := hc
    split at hc
    · simp at hc
    · rename_i hzl
      split at hc
      · simp at hc
      · rename_i hlim
        simp only [Option.bind_some, Option.bind_eq_some_iff, Option.some.injEq, Sum.inl.injEq] at hc
        obtain ⟨ps, hps, rfl⟩ := hc
        simp only [evOp] at hv
        split at hv
        · rename_i cs hcs
          have := bslice_ok (P := P) h hd hsz hz (by omega) (by omega) hf hps hcs fz
          have e2 : (parts.map fun (i, x) => (i, a.eval x)) = (parts.toList.map fun (i, x) => (i, a.eval x)).toArray := by
            apply Array.ext'; simp
          have hvv : v = (if fz = true then .fz true len cs else .sl S.length 0 0 len sz) ∧ S' = (if fz = true then S else S ++ [.live 0 cs]) := by
            cases fz <;> simp at hv ⊢ <;> exact ⟨hv.1.symm, hv.2.symm⟩
          rw [hvv.1, hvv.2]
          refine .of (fun v' w' h' => ?_) this
          simp only [execOp, ho, Sem.run_bind, e2, h', Result.andThen_ok, Sem.run_pure]
        · simp at hv
  · simp at hc

theorem ok_load (t : TypeId) (x : Operand) : OpOk P fs fz (.load t x) := by
  intro W κ S w f a o aop v S' ho hc hf h hv
  simp only [compOp1, Option.bind_eq_bind, Option.bind_eq_some_iff, Option.pure_def, Option.some.injEq, Sum.inl.injEq] at hc
  obtain ⟨n, hn, ax, hax, rfl⟩ := hc
  simp only [evOp] at hv
  replace hv := same_some hv; obtain ⟨hv, rfl⟩ := hv
  exact .of (fun v' w' h' => by simp [execOp, ho, h']) (loadAt_ok h hn (argA_rel hax hf) hv)

theorem ok_store (t : TypeId) (x y : Operand) : OpOk P fs fz (.store t x y) := by
  intro W κ S w f a o aop v S' ho hc hf h hv
  simp only [compOp1, Option.bind_eq_bind, Option.bind_eq_some_iff, Option.pure_def, Option.some.injEq, Sum.inl.injEq] at hc
  obtain ⟨n, hn, ax, hax, ay, hay, rfl⟩ := hc
  simp only [evOp, Option.map_eq_some_iff] at hv
  obtain ⟨S1, hs, hv⟩ := hv
  cases hv
  obtain ⟨w', h1, h2⟩ := storeAt_ok (P := P) h hn (argA_rel hax hf) (argA_rel hay hf) hs
  exact ⟨.skip, w', κ, by simp [execOp, ho, h1], .inr ⟨rfl, rfl⟩, h2, Kap.le_refl κ⟩

theorem ok_nilCheck (x : Operand) : OpOk P fs fz (.nilCheck x) := by
  intro W κ S w f a o aop v S' ho hc hf h hv
  simp only [compOp1, Option.bind_eq_bind, Option.bind_eq_some_iff, Option.pure_def, Option.some.injEq, Sum.inl.injEq] at hc
  obtain ⟨ax, hax, rfl⟩ := hc
  have r := argA_rel (κ := κ) hax hf
  simp only [evOp] at hv
  split at hv
  · rename_i he
    rw [he] at r
    cases hv
    cases hr : a.eval x with
    | pointer p =>
      rw [hr] at r
      cases p with
      | none => cases r
      | some p => exact ⟨.value (.pointer (some p)), w, κ, by simp [execOp, ho, hr], .inl ⟨_, rfl, r⟩, h, Kap.le_refl κ⟩
    | _ => rw [hr] at r; cases r
  · rename_i he
    rw [he] at r
    cases hv
    cases hr : a.eval x with
    | pointer p =>
      rw [hr] at r
      cases p with
      | none => cases r
      | some p => exact ⟨.value (.pointer (some p)), w, κ, by simp [execOp, ho, hr], .inl ⟨_, rfl, r⟩, h, Kap.le_refl κ⟩
    | _ => rw [hr] at r; cases r
  · simp at hv

theorem ok_unOp (op : UnOp) (t : TypeId) (x : Operand) : OpOk P fs fz (.unOp op t x) := by
  intro W κ S w f a o aop v S' ho hc hf h hv
  simp only [compOp1, Option.bind_eq_bind, Option.bind_eq_some_iff, Option.pure_def, Option.some.injEq, Sum.inl.injEq] at hc
  obtain ⟨ax, hax, rfl⟩ := hc
  simp only [evOp] at hv
  replace hv := same_some hv; obtain ⟨hv, rfl⟩ := hv
  obtain ⟨v', h1, h2⟩ := unA_ok (P := P) (argA_rel hax hf) hv w
  exact .of (fun v' w' h' => by simp [execOp, ho, h']) (.pure h h1 h2)

theorem ok_extract (x : Operand) (i : Nat) : OpOk P fs fz (.extract x i) := by
  intro W κ S w f a o aop v S' ho hc hf h hv
  simp only [compOp1, Option.bind_eq_bind, Option.bind_eq_some_iff, Option.pure_def, Option.some.injEq, Sum.inl.injEq] at hc
  obtain ⟨ax, hax, rfl⟩ := hc
  have r := argA_rel (κ := κ) hax hf
  simp only [evOp] at hv
  split at hv
  · rename_i vs he
    replace hv := same_some hv; obtain ⟨hv, rfl⟩ := hv
    rw [he] at r
    generalize hx : a.eval x = x' at r
    cases r with
    | tup _ ys hl hr =>
      obtain ⟨y, hy, hyr⟩ := VRelL.get ⟨hl, hr⟩ hv
      exact .of (m := Instr.extract (.tuple ys.toArray) i) (fun v' w' h' => by simp [execOp, ho, hx, h']) (.pure h (v' := y) (by simp [Instr.extract, hy]) hyr)
  · simp at hv

theorem ok_makeInterface (t : TypeId) (x : Operand) : OpOk P fs fz (.makeInterface t x) := by
  intro W κ S w f a o aop v S' ho hc hf h hv
  simp only [compOp1, Option.bind_eq_bind, Option.bind_eq_some_iff, Option.pure_def] at hc
  obtain ⟨d, hd, hc⟩ := hc
  split at hc
  · simp at hc
  · rename_i hni
    simp only [Option.bind_eq_some_iff, Option.some.injEq, Sum.inl.injEq] at hc
    obtain ⟨ax, hax, rfl⟩ := hc
    simp only [evOp, Option.some.injEq, Prod.mk.injEq] at hv
    obtain ⟨rfl, rfl⟩ := hv
    refine .of (m := Instr.makeInterface t (a.eval x)) (fun v' w' h' => by simp [execOp, ho, h']) (.pure h (v' := .iface t (a.eval x)) ?_ (.iface t _ _ (argA_rel hax hf)))
    simp only [Instr.makeInterface, Sem.run_bind, run_und hd, Result.andThen_ok]
    rfl

theorem ok_makeFunc (fn : Fn) (first captured : Array Operand) : OpOk P fs fz (.makeFunc fn first captured) := by
  intro W κ S w f a o aop v S' ho hc hf h hv
  simp only [compOp1, Option.bind_eq_bind, Option.bind_eq_some_iff, Option.pure_def, Option.some.injEq, Sum.inl.injEq] at hc
  obtain ⟨af, haf, ac, hac, rfl⟩ := hc
  simp only [evOp, Option.some.injEq, Prod.mk.injEq] at hv
  obtain ⟨rfl, rfl⟩ := hv
  have r1 := argsA_rel (κ := κ) haf hf
  have r2 := argsA_rel (κ := κ) hac hf
  refine .of (m := Instr.makeFunc fn (first.map a.eval) (captured.map a.eval)) (fun v' w' h' => by simp [execOp, ho, h']) (.pure h (v' := .func fn (first.map a.eval) (captured.map a.eval)) rfl ?_)
  have := VRel.fn fn _ _ _ _ r1.1 r2.1 r1.2 r2.2
  have e1 : (first.toList.map a.eval).toArray = first.map a.eval := by apply Array.ext'; simp
  have e2 : (captured.toList.map a.eval).toArray = captured.map a.eval := by apply Array.ext'; simp
  rw [e1, e2] at this
  exact this

theorem ok_fieldAddr (s : TypeId) (x : Operand) (i : Nat) : OpOk P fs fz (.fieldAddr s x i) := by
  intro W κ S w f a o aop v S' ho hc hf h hv
  simp only [compOp1, Option.bind_eq_bind, Option.bind_eq_some_iff, Option.pure_def] at hc
  obtain ⟨d, hd, hc⟩ := hc
  split at hc
  · rename_i fields
    simp only [Option.bind_eq_some_iff] at hc
    obtain ⟨fd, hfd, n, hn, hc⟩ := hc
    split at hc
    · simp at hc
    · rename_i hn0
      simp only [Option.bind_some, Option.bind_eq_some_iff, Option.some.injEq, Sum.inl.injEq] at hc
      obtain ⟨ax, hax, rfl⟩ := hc
      simp only [evOp] at hv
      replace hv := same_some hv; obtain ⟨hv, rfl⟩ := hv
      exact .of (fun v' w' h' => by simp [execOp, ho, h']) (faddr_ok h hd hfd hn hn0 (argA_rel hax hf) hv)
  · simp at hc

theorem ok_field (s : TypeId) (x : Operand) (i : Nat) : OpOk P fs fz (.field s x i) := by
  intro W κ S w f a o aop v S' ho hc hf h hv
  simp only [compOp1, Option.bind_eq_bind, Option.bind_eq_some_iff, Option.pure_def] at hc
  obtain ⟨d, hd, hc⟩ := hc
  split at hc
  · rename_i fields
    simp only [Option.bind_eq_some_iff, Option.some.injEq, Sum.inl.injEq] at hc
    obtain ⟨fd, hfd, n, hn, ax, hax, rfl⟩ := hc
    simp only [evOp] at hv
    split at hv
    · rename_i cs he
      replace hv := same_some hv; obtain ⟨hv, rfl⟩ := hv
      have r := argA_rel (κ := κ) hax hf
      rw [he] at r
      exact .of (fun v' w' h' => by simp [execOp, ho, h']) (fld_ok h hd hfd hn r hv)
    · simp at hv
  · simp at hc

theorem ok_indexAddr (t : TypeId) (x i : Operand) : OpOk P fs fz (.indexAddr t x i) := by
  intro W κ S w f a o aop v S' ho hc hf h hv
  simp only [compOp1, Option.bind_eq_bind, Option.bind_eq_some_iff, Option.pure_def] at hc
  obtain ⟨d, hd, hc⟩ := hc
  split at hc
  · simp only [Option.bind_eq_some_iff, Option.some.injEq, Sum.inl.injEq] at hc
    obtain ⟨sz, hsz, ax, hax, ai, hai, rfl⟩ := hc
    simp only [evOp] at hv
    replace hv := same_some hv; obtain ⟨hv, rfl⟩ := hv
    exact .of (fun v' w' h' => by simp [execOp, ho, h']) (iaddrA_ok h hd hsz (argA_rel hax hf) (argA_rel hai hf) hv)
  · simp only [Option.bind_eq_some_iff, Option.some.injEq, Sum.inl.injEq] at hc
    obtain ⟨sz, hsz, ax, hax, ai, hai, rfl⟩ := hc
    simp only [evOp] at hv
    replace hv := same_some hv; obtain ⟨hv, rfl⟩ := hv
    exact .of (fun v' w' h' => by simp [execOp, ho, h']) (iaddrS_ok h hd hsz (argA_rel hax hf) (argA_rel hai hf) hv)
  · simp at hc

theorem ok_index (t : TypeId) (x i : Operand) : OpOk P fs fz (.index t x i) := by
  intro W κ S w f a o aop v S' ho hc hf h hv
  simp only [compOp1, Option.bind_eq_bind, Option.bind_eq_some_iff, Option.pure_def] at hc
  obtain ⟨d, hd, hc⟩ := hc
  split at hc
  · simp only [Option.bind_eq_some_iff, Option.some.injEq, Sum.inl.injEq] at hc
    obtain ⟨n, hn, sz, hsz, ax, hax, ai, hai, rfl⟩ := hc
    simp only [evOp] at hv
    have r := argA_rel (κ := κ) hax hf
    have r2 := argA_rel (κ := κ) hai hf
    split at hv
    · rename_i e1 e2
      rw [e1] at r; rw [e2] at r2
      split at hv
      · rename_i hb
        replace hv := same_some hv; obtain ⟨hv, rfl⟩ := hv
        exact .of (fun v' w' h' => by simp [execOp, ho, h']) (idxA_ok h hd hn hsz r r2 hb hv)
      · simp at hv
    · simp at hv
  · simp only [Option.bind_eq_some_iff, Option.some.injEq, Sum.inl.injEq] at hc
    obtain ⟨ax, hax, ai, hai, rfl⟩ := hc
    simp only [evOp] at hv
    have r := argA_rel (κ := κ) hax hf
    have r2 := argA_rel (κ := κ) hai hf
    split at hv
    · rename_i e1 e2
      rw [e1] at r; rw [e2] at r2
      split at hv
      · rename_i hb
        split at hv
        · rename_i b hbb
          cases hv
          exact .of (fun v' w' h' => by simp [execOp, ho, h']) (idxStr_ok h hd r r2 hb hbb)
        · simp at hv
      · simp at hv
    · simp at hv
  · simp at hc

end Am
