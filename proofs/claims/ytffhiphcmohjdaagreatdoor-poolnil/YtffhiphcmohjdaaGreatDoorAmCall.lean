/- Calls: what the machine says of a function of the model. One operation, in its place in a region. -/
import Derived.Test.YtffhiphcmohjdaaGreatDoorAmOpsK
import Derived.LaidHandle
import Derived.Lib.LaidTab
import Derived.Lib.ItoaNum
import Derived.Lib.TrailingZeros
set_option linter.all false
namespace Am
open Go Go.RowKit

/-- A call, told by the machine: whatever the world that stands for S, the call returns, and Q holds of what it returns and of the heap behind it. -/
def ACalls (P : Program) (W : World) (g : FuncId) (args : List AVal) (S : St) (Q : AVal → St → Prop) : Prop :=
  ∀ (κ : Kap) (w : World) (args' : List Value), Rel W κ S w → VRelL κ args args' →
    Calls P g args'.toArray w fun e w' => ∃ v v' S' κ', e = .returned v' ∧ Q v S' ∧ VRel κ' v v' ∧ Rel W κ' S' w' ∧ κ.le κ'

theorem ACalls.mono {P : Program} {W : World} {g : FuncId} {args : List AVal} {S : St} {Q Q' : AVal → St → Prop} (h : ACalls P W g args S Q) (hq : ∀ v S', Q v S' → Q' v S') : ACalls P W g args S Q' :=
  fun κ w args' hr ha => (h κ w args' hr ha).mono fun _ _ ⟨v, v', S', κ', h1, h2, h3, h4, h5⟩ => ⟨v, v', S', κ', h1, hq _ _ h2, h3, h4, h5⟩

/-- A function with a body that the machine can enter. -/
def Callable (P : Program) (g : FuncId) : Prop := ∃ fn, P.funcs[g]? = some fn ∧ (fn.name == "runtime.NumGoroutine") = false ∧ fn.body.isSome = true

/-- What the first package variable holds, if it is errors' own. -/
def e0 (P : Program) : Option Value :=
  if P.globalNamed "errors.errorType" = some 0 then
    match (P.cutTypes.find? (·.1 == "internal/reflectlite.rtype")).map (·.2), (List.range P.types.size).find? fun t => P.rowNamed t [101, 114, 114, 111, 114] with
    | some rt, some ty => some (.iface rt (.agg #[typeHandle P ty]))
    | _, _ => none
  else none

/-- The library's tables, as its text lays them. -/
def wTabs : List (String × IntKind × List Int) := [("internal/strconv.uint64pow10", .u64, Lib.pow10Tab), ("math/bits.deBruijn64tab", .u8, Lib.deBruijn64tab.map Int.ofNat), ("math/bits.deBruijn32tab", .u8, Lib.deBruijn32tab.map Int.ofNat)]
/-- The library's errors. -/
def wErrs : List String := ["strconv.ErrSyntax", "strconv.ErrRange"]

/-- A world whose package variables hold what the program's text lays. -/
structure WOk (P : Program) (W : World) : Prop where
  err : ∀ y, e0 P = some y → W.cell? ⟨0, 0, none⟩ = some y
  tab : ∀ t ∈ wTabs, P.globalNamed t.1 ≠ none → Lib.TabIs P W t.1 t.2.1 t.2.2
  ers : ∀ n ∈ wErrs, P.globalNamed n ≠ none → ∃ t p, W.var? P n = some #[.iface t p]

/-- Where no such variable is named. -/
def wNone (P : Program) : Bool := (e0 P).isNone && (wTabs.map (·.1) ++ wErrs).all fun n => (P.globalNamed n).isNone
theorem WOk.none {P : Program} (h : wNone P = true) (W : World) : WOk P W := by
  simp only [wNone, Bool.and_eq_true, List.all_eq_true, List.mem_append, List.mem_map] at h
  refine ⟨fun y hy => ?_, fun t ht hn => ?_, fun n hn hg => ?_⟩
  · rw [hy] at h; simp at h
  · have := h.2 t.1 (.inl ⟨t, ht, rfl⟩); simp at this; exact absurd this hn
  · have := h.2 n (.inr hn); simp at this; exact absurd this hg

/-- A model tells the truth of a function, over a world. -/
def SoundW (P : Program) (W : World) (g : FuncId) (m : Model) : Prop :=
  ∀ args S v S', m args S = some (v, S') → Callable P g ∧ ACalls P W g args S fun u T => u = v ∧ T = S'

/-- A model tells the truth of a function. -/
def Sound (P : Program) (g : FuncId) (m : Model) : Prop := ∀ W, WOk P W → SoundW P W g m

theorem SoundW.none (P : Program) (W : World) (g : FuncId) : SoundW P W g (fun _ _ => none) := fun _ _ _ _ h => by simp at h
theorem Sound.none (P : Program) (g : FuncId) : Sound P g (fun _ _ => none) := fun W _ => SoundW.none P W g

structure OrcOk (P : Program) (W : World) (fs : List FuncId) (O : Orc) : Prop where
  loc : ∀ (i : Nat) g m, fs[i]? = some g → O.loc[i]? = some m → SoundW P W g m
  dyn : ∀ g, SoundW P W g (O.dyn g)

variable {P : Program} {W : World} {κ : Kap} {S : St} {w : World} {f : Fr} {a : Act} {fs : List FuncId} {fz : Bool} {O : Orc}

theorem run_builtin {c : Call} {b : Builtin} (hb : c.callee = .builtin b) {o : Oper} (ho : o.op = .call c) (ρ : Operand → Value) (w : World) :
    (execOp ρ o).run P w = (builtin b c.argTypes o.type (c.args.map fun | .const _ => true | _ => false) (c.args.map ρ)).run P w := by
  simp only [execOp, ho, resolve, hb, Sem.run_bind, Sem.run_pure, Result.andThen_ok, invoke]
  rfl

theorem ok_call (c : Call) : OpOk P fs fz (.call c) := by
  intro W κ S w f a o aop v S' ho hc hf h hv
  simp only [compOp1] at hc
  split at hc
  · unfold compAppR at hc
    split at hc
    rotate_left
    · simp at hc
    rename_i s x ts tx hcal hargs hty
    simp only [Option.bind_eq_bind, Option.pure_def, Option.bind_eq_some_iff] at hc
    obtain ⟨d, hd, hc⟩ := hc
    split at hc
    rotate_left
    · simp at hc
    rename_i e
    simp only [Option.bind_eq_some_iff] at hc
    obtain ⟨d2, hd2, sz, hsz, as, has, ax, hax, hc⟩ := hc
    split at hc
    rotate_left
    · simp at hc
    rename_i hcnd
    simp only [Option.some.injEq, Sum.inl.injEq] at hc
    subst hc
    simp only [evOp] at hv
    split at hv
    rotate_left
    · simp at hv
    rename_i n new hco
    have ha := appR_ok (P := P) (ty := o.type) h hd hd2 hcnd hsz (argA_rel has hf) (argA_rel hax hf) hco hv
    refine .of (fun v' w' h' => ?_) ha
    have e1 : c.argTypes = #[ts, tx] := by apply Array.ext'; simpa using hty
    have e2 : c.args.map a.eval = #[a.eval s, a.eval x] := by apply Array.ext'; simp [hargs]
    rw [run_builtin (P := P) hcal ho a.eval w, e1, e2]
    simp only [builtin, Sem.run_bind, h', Result.andThen_ok, Sem.run_pure]
  unfold compCall at hc
  split at hc
  · -- append
    rename_i s x ts tx hcal hargs hty
    simp only [Option.bind_eq_bind, Option.pure_def, Option.bind_eq_some_iff] at hc
    obtain ⟨d, hd, hc⟩ := hc
    split at hc
    · rename_i e
      simp only [Option.bind_eq_some_iff] at hc
      obtain ⟨d2, hd2, sz, hsz, zero, hz, bytes, hby, as, has, ax, hax, hc⟩ := hc
      split at hc
      · rename_i hcnd
        simp only [Option.some.injEq, Sum.inl.injEq] at hc
        subst hc
        simp only [evOp] at hv
        have ha := append_ok (P := P) (ty := o.type) h hd hd2 hcnd.1 hsz hby hcnd.2.2 hz hcnd.2.1 (argA_rel has hf) (argA_rel hax hf) hv
        refine .of (fun v' w' h' => ?_) ha
        have e1 : c.argTypes = #[ts, tx] := by apply Array.ext'; simpa using hty
        have e2 : c.args.map a.eval = #[a.eval s, a.eval x] := by apply Array.ext'; simp [hargs]
        rw [run_builtin (P := P) hcal ho a.eval w, e1, e2]
        simp only [builtin, Sem.run_bind, h', Result.andThen_ok, Sem.run_pure]
      · split at hc
        · rename_i hcnd
          simp only [Option.some.injEq, Sum.inl.injEq] at hc
          subst hc
          simp only [evOp] at hv
          split at hv
          rotate_left
          · simp at hv
          rename_i l el
          split at hv
          rotate_left
          · simp at hv
          rename_i hl
          have rn := argA_rel (κ := κ) hax hf
          rw [el] at rn
          obtain ⟨kd, rfl⟩ : ∃ kd, d2 = .int kd := by
            have := hcnd.1
            cases d2 <;> simp [notInt] at this
            exact ⟨_, rfl⟩
          have hxe : a.eval x = .int .i64 l := by
            generalize a.eval x = u at rn
            cases rn; rfl
          have ha := appn_ok (P := P) (ty := o.type) h hd hd2 hsz hby hcnd.2.2.1 hcnd.2.2.2 hz hcnd.2.1 hl (argA_rel has hf) hv
          refine .of (fun v' w' h' => ?_) ha
          have e1 : c.argTypes = #[ts, tx] := by apply Array.ext'; simpa using hty
          have e2 : c.args.map a.eval = #[a.eval s, .int .i64 l] := by apply Array.ext'; simp [hargs, hxe]
          rw [run_builtin (P := P) hcal ho a.eval w, e1, e2]
          simp only [builtin, Sem.run_bind, h', Result.andThen_ok, Sem.run_pure]
        · simp at hc
    · simp at hc
  · -- copy
    rename_i s x ts tr hcal hargs hty
    simp only [Option.bind_eq_bind, Option.pure_def, Option.bind_eq_some_iff] at hc
    obtain ⟨d, hd, hc⟩ := hc
    split at hc
    · rename_i e
      simp only [Option.bind_eq_some_iff, Option.some.injEq, Sum.inl.injEq] at hc
      obtain ⟨sz, hsz, as, has, ax, hax, rfl⟩ := hc
      simp only [evOp] at hv
      have ha := copy_ok (P := P) (ty := o.type) (rest := tr) h hd hsz (argA_rel has hf) (argA_rel hax hf) hv
      refine .of (fun v' w' h' => ?_) ha
      have e1 : c.argTypes = (ts :: tr).toArray := by apply Array.ext'; simpa using hty
      have e2 : c.args.map a.eval = #[a.eval s, a.eval x] := by apply Array.ext'; simp [hargs]
      rw [run_builtin (P := P) hcal ho a.eval w, e1, e2]
      simp only [builtin, Sem.run_bind, h', Result.andThen_ok, Sem.run_pure]
    · simp at hc
  · -- len
    rename_i x t hcal hargs hty
    simp only [Option.bind_eq_bind, Option.pure_def, Option.bind_eq_some_iff] at hc
    obtain ⟨d, hd, hc⟩ := hc
    have e1 : c.argTypes = [t].toArray := by apply Array.ext'; simpa using hty
    have e2 : c.args.map a.eval = #[a.eval x] := by apply Array.ext'; simp [hargs]
    have fin : ∀ q, LenT.fits q d → (∃ ax, argA x = some ax ∧ aop = .len q ax) → OpRuns P W κ w a.eval o v S' := by
      rintro q hq ⟨ax, hax, rfl⟩
      simp only [evOp] at hv
      replace hv := same_some hv; obtain ⟨hv, rfl⟩ := hv
      refine .of (fun v' w' h' => ?_) (len_ok (P := P) h hd hq (argA_rel hax hf) hv o.type [])
      rw [run_builtin (P := P) hcal ho a.eval w, e1, e2]
      simp only [builtin, Sem.run_bind, h', Result.andThen_ok, Sem.run_pure]
    split at hc
    · simp only [Option.bind_eq_some_iff, Option.some.injEq, Sum.inl.injEq] at hc
      obtain ⟨ax, hax, he⟩ := hc
      exact fin .str trivial ⟨ax, hax, he.symm⟩
    · simp only [Option.bind_eq_some_iff, Option.some.injEq, Sum.inl.injEq] at hc
      obtain ⟨ax, hax, he⟩ := hc
      exact fin .sl trivial ⟨ax, hax, he.symm⟩
    · simp only [Option.bind_eq_some_iff, Option.some.injEq, Sum.inl.injEq] at hc
      obtain ⟨ax, hax, rfl⟩ := hc
      simp only [evOp] at hv
      refine .of (fun v' w' h' => ?_) (mlen_ok (P := P) h hd hv (argA_rel hax hf) o.type [])
      rw [run_builtin (P := P) hcal ho a.eval w, e1, e2]
      simp only [builtin, Sem.run_bind, h', Result.andThen_ok, Sem.run_pure]
    · simp only [Option.some.injEq, Sum.inl.injEq] at hc
      subst hc
      simp only [evOp, Option.some.injEq, Prod.mk.injEq] at hv
      obtain ⟨rfl, rfl⟩ := hv
      refine ⟨.value (.int .i64 _), w, κ, ?_, .inl ⟨_, rfl, .int _ _⟩, h, Kap.le_refl κ⟩
      rw [run_builtin (P := P) hcal ho a.eval w, e1, e2]
      simp [builtin, Builtin.len_, run_und hd, goInt]
    · simp only [Option.bind_eq_some_iff] at hc
      obtain ⟨d2, hd2, hc⟩ := hc
      split at hc
      · simp only [Option.some.injEq, Sum.inl.injEq] at hc
        subst hc
        simp only [evOp, Option.some.injEq, Prod.mk.injEq] at hv
        obtain ⟨rfl, rfl⟩ := hv
        refine ⟨.value (.int .i64 _), w, κ, ?_, .inl ⟨_, rfl, .int _ _⟩, h, Kap.le_refl κ⟩
        rw [run_builtin (P := P) hcal ho a.eval w, e1, e2]
        simp [builtin, Builtin.len_, run_und hd, run_und hd2, goInt]
      · simp at hc
    · simp at hc
  · -- min
    rename_i x y hcal hargs
    simp only [Option.bind_eq_bind, Option.pure_def, Option.bind_eq_some_iff, Option.some.injEq, Sum.inl.injEq] at hc
    obtain ⟨ax, hax, ay, hay, rfl⟩ := hc
    have rx := argA_rel (κ := κ) hax hf
    have ry := argA_rel (κ := κ) hay hf
    have e2 : c.args.map a.eval = #[a.eval x, a.eval y] := by apply Array.ext'; simp [hargs]
    simp only [evOp] at hv
    split at hv
    · rename_i k m j n q1 q2
      split at hv
      · rename_i hk
        subst hk
        cases hv
        rw [q1] at rx; rw [q2] at ry
        generalize a.eval x = u at rx e2
        generalize a.eval y = u2 at ry e2
        cases rx; cases ry
        refine ⟨.value (.int k (min m n)), w, κ, ?_, .inl ⟨_, rfl, by simpa using VRel.int k (min m n)⟩, h, Kap.le_refl κ⟩
        rw [run_builtin (P := P) hcal ho a.eval w, e2]
        simp [builtin, Builtin.min_, Builtin.min2]
        split <;> omega
      · simp at hv
    · simp at hv
  · -- max
    rename_i x y hcal hargs
    simp only [Option.bind_eq_bind, Option.pure_def, Option.bind_eq_some_iff, Option.some.injEq, Sum.inl.injEq] at hc
    obtain ⟨ax, hax, ay, hay, rfl⟩ := hc
    have rx := argA_rel (κ := κ) hax hf
    have ry := argA_rel (κ := κ) hay hf
    have e2 : c.args.map a.eval = #[a.eval x, a.eval y] := by apply Array.ext'; simp [hargs]
    simp only [evOp] at hv
    split at hv
    · rename_i k m j n q1 q2
      split at hv
      · rename_i hk
        subst hk
        cases hv
        rw [q1] at rx; rw [q2] at ry
        generalize a.eval x = u at rx e2
        generalize a.eval y = u2 at ry e2
        cases rx; cases ry
        refine ⟨.value (.int k (max m n)), w, κ, ?_, .inl ⟨_, rfl, by simpa using VRel.int k (max m n)⟩, h, Kap.le_refl κ⟩
        rw [run_builtin (P := P) hcal ho a.eval w, e2]
        simp [builtin, Builtin.max_, Builtin.max2]
        split <;> omega
      · simp at hv
    · simp at hv
  · -- delete
    rename_i m k t t2 hcal hargs hty
    simp only [Option.bind_eq_bind, Option.pure_def, Option.bind_eq_some_iff] at hc
    obtain ⟨d, hd, hc⟩ := hc
    split at hc
    rotate_left
    · simp at hc
    rename_i kt e
    simp only [Option.bind_eq_some_iff] at hc
    obtain ⟨dk, hdk, hc⟩ := hc
    have key : ∃ s ax ak, keyT s dk ∧ argA m = some ax ∧ argA k = some ak ∧ aop = .mdel s ax ak := by
      split at hc
      · simp only [Option.bind_eq_some_iff, Option.some.injEq, Sum.inl.injEq] at hc
        obtain ⟨ax, h1, ak, h2, rfl⟩ := hc
        exact ⟨false, ax, ak, .inl ⟨_, rfl, rfl⟩, h1, h2, rfl⟩
      · simp only [Option.bind_eq_some_iff, Option.some.injEq, Sum.inl.injEq] at hc
        obtain ⟨ax, h1, ak, h2, rfl⟩ := hc
        exact ⟨true, ax, ak, .inr ⟨rfl, rfl⟩, h1, h2, rfl⟩
      · simp at hc
    obtain ⟨s, ax, ak, hkt, hax, hak, rfl⟩ := key
    simp only [evOp] at hv
    have e1 : c.argTypes = [t, t2].toArray := by apply Array.ext'; simpa using hty
    have e2 : c.args.map a.eval = #[a.eval m, a.eval k] := by apply Array.ext'; simp [hargs]
    refine .of (fun v' w' h' => ?_) (mdel_ok (P := P) h hd hdk hkt hv (argA_rel hax hf) (argA_rel hak hf) o.type [t2])
    rw [run_builtin (P := P) hcal ho a.eval w, e1, e2]
    simp only [builtin, Sem.run_bind, h', Result.andThen_ok, Sem.run_pure]
  · -- clear
    rename_i x t hcal hargs hty
    simp only [Option.bind_eq_bind, Option.pure_def, Option.bind_eq_some_iff] at hc
    obtain ⟨d, hd, hc⟩ := hc
    split at hc
    rotate_left
    · simp at hc
    rename_i e
    simp only [Option.bind_eq_some_iff, Option.some.injEq, Sum.inl.injEq] at hc
    obtain ⟨sz, hsz, zero, hz, ax, hax, rfl⟩ := hc
    simp only [evOp, Option.map_eq_some_iff] at hv
    obtain ⟨S1, hs1, hv⟩ := hv
    cases hv
    have e1 : c.argTypes = [t].toArray := by apply Array.ext'; simpa using hty
    have e2 : c.args.map a.eval = #[a.eval x] := by apply Array.ext'; simp [hargs]
    refine .of (fun v' w' h' => ?_) (clear_ok (P := P) h hd hsz hz hs1 (argA_rel hax hf) o.type [])
    rw [run_builtin (P := P) hcal ho a.eval w, e1, e2]
    simp only [builtin, Sem.run_bind, h', Result.andThen_ok, Sem.run_pure]
  · simp only [Option.bind_eq_bind, Option.pure_def, Option.bind_eq_some_iff] at hc
    obtain ⟨_, _, _, _, hc⟩ := hc
    simp at hc
  · simp only [Option.bind_eq_bind, Option.pure_def, Option.bind_eq_some_iff] at hc
    obtain ⟨_, _, hc⟩ := hc
    simp at hc
  · simp only [Option.bind_eq_bind, Option.pure_def, Option.bind_eq_some_iff] at hc
    obtain ⟨_, _, _, _, hc⟩ := hc
    simp at hc
  · simp at hc

theorem op_ok (op : Op) : OpOk P fs fz op := by
  intro W κ S w f a o aop v S' ho hc hf h hv
  cases op with
  | move x => exact ok_move x W κ S w f a o aop v S' ho hc hf h hv
  | assign x => exact ok_assign x W κ S w f a o aop v S' ho hc hf h hv
  | pick c x y => exact ok_pick c x y W κ S w f a o aop v S' ho hc hf h hv
  | alloc e => exact ok_alloc e W κ S w f a o aop v S' ho hc hf h hv
  | box e x => exact ok_box e x W κ S w f a o aop v S' ho hc hf h hv
  | build t ps => exact ok_build t ps W κ S w f a o aop v S' ho hc hf h hv
  | buildSlice t n ps => exact ok_buildSlice t n ps W κ S w f a o aop v S' ho hc hf h hv
  | load t x => exact ok_load t x W κ S w f a o aop v S' ho hc hf h hv
  | store t x y => exact ok_store t x y W κ S w f a o aop v S' ho hc hf h hv
  | nilCheck x => exact ok_nilCheck x W κ S w f a o aop v S' ho hc hf h hv
  | binOp op t x y ty => exact ok_binOp op t x y ty W κ S w f a o aop v S' ho hc hf h hv
  | unOp op t x => exact ok_unOp op t x W κ S w f a o aop v S' ho hc hf h hv
  | convert s d x => exact ok_convert s d x W κ S w f a o aop v S' ho hc hf h hv
  | makeInterface t x => exact ok_makeInterface t x W κ S w f a o aop v S' ho hc hf h hv
  | makeFunc fn x y => exact ok_makeFunc fn x y W κ S w f a o aop v S' ho hc hf h hv
  | makeMap t r =>
    cases r with
    | none => exact ok_makeMap t W κ S w f a o aop v S' ho hc hf h hv
    | some q => simp [compOp1] at hc
  | lookup t x k ok =>
    cases ok with
    | false => exact ok_lookup t x k W κ S w f a o aop v S' ho hc hf h hv
    | true => simp [compOp1] at hc
  | mapUpdate t m k x => exact ok_mapUpdate t m k x W κ S w f a o aop v S' ho hc hf h hv
  | makeSlice t x y => exact ok_makeSlice t x y W κ S w f a o aop v S' ho hc hf h hv
  | slice t x lo hi mx =>
    cases mx with
    | none => exact ok_slice t x lo hi W κ S w f a o aop v S' ho hc hf h hv
    | some m =>
      cases lo with
      | some l => exact ok_slice3 t x l hi m W κ S w f a o aop v S' ho hc hf h hv
      | none =>
        cases hi with
        | none => simp [compOp1] at hc
        | some hh =>
          cases h1 : zeroC hh with
          | none => simp [compOp1, h1] at hc
          | some k =>
            cases h2 : zeroC m with
            | none => simp [compOp1, h1, h2] at hc
            | some k' =>
              have e1 := zeroC_eq h1
              have e2 := zeroC_eq h2
              subst e1; subst e2
              exact ok_slice0 t x k k' W κ S w f a o aop v S' ho hc hf h hv
  | fieldAddr t x i => exact ok_fieldAddr t x i W κ S w f a o aop v S' ho hc hf h hv
  | field t x i => exact ok_field t x i W κ S w f a o aop v S' ho hc hf h hv
  | indexAddr t x i => exact ok_indexAddr t x i W κ S w f a o aop v S' ho hc hf h hv
  | index t x i => exact ok_index t x i W κ S w f a o aop v S' ho hc hf h hv
  | extract x i => exact ok_extract x i W κ S w f a o aop v S' ho hc hf h hv
  | sliceToArrayPointer t x => exact ok_arrP t x W κ S w f a o aop v S' ho hc hf h hv
  | typeAssert x xT t ok =>
    cases ok with
    | true => exact ok_typeAssert x xT t W κ S w f a o aop v S' ho hc hf h hv
    | false => simp [compOp1] at hc
  | call c => exact ok_call c W κ S w f a o aop v S' ho hc hf h hv
  | _ => simp [compOp1] at hc

theorem op_ok2 {op : Op} {o : Oper} {aop : AOp} {v : AVal} {S' : St} (ho : o.op = op) (hc : compOp P fs fz op = some (.inl aop)) (hf : FRel κ f a.tmps) (h : Rel W κ S w)
    (hv : evOp f.ev S aop = some (v, S')) : OpRuns P W κ w a.eval o v S' := by
  have : compOp1 P fs fz op = some (.inl aop) := by
    unfold compOp at hc
    split at hc
    · split at hc
      · rename_i x hx; simp only [Option.some.injEq] at hc; subst hc; exact hx
      · simp only [Option.some.injEq, Sum.inl.injEq] at hc; subst hc; simp [evOp] at hv
    · exact hc
    · split at hc
      · simp only [Option.some.injEq, Sum.inl.injEq] at hc; subst hc; assumption
      · simp only [Option.some.injEq, Sum.inl.injEq] at hc; subst hc; simp [evOp] at hv
  exact op_ok op W κ S w f a o aop v S' ho this hf h hv

theorem compOp_inr {op : Op} {ac : ACallee} (hc : compOp P fs fz op = some (.inr ac)) : ∃ c, op = .call c ∧ compCall P fs c = some (.inr ac) := by
  unfold compOp at hc
  split at hc
  · split at hc
    · rename_i x hx; simp only [Option.some.injEq] at hc; subst hc
      split at hx
      · unfold compAppR at hx
        split at hx
        · simp only [Option.bind_eq_bind, Option.pure_def, Option.bind_eq_some_iff] at hx
          obtain ⟨d, _, hx⟩ := hx
          split at hx
          · simp only [Option.bind_eq_some_iff] at hx
            obtain ⟨_, _, _, _, _, _, _, _, hx⟩ := hx
            split at hx <;> simp at hx
          · simp at hx
        · simp at hx
      · exact ⟨_, rfl, hx⟩
    · simp at hc
  · simp only [compOp1, Option.bind_eq_bind, Option.pure_def, Option.bind_eq_some_iff] at hc
    obtain ⟨_, _, hc⟩ := hc
    simp at hc
  · split at hc <;> simp at hc

end Am
