/- An operation that was translated stands for the model's: asked types, empty slices, arrays in slices. -/
import Derived.Test.YtgbifohffmdgeaaDoorAmOpsI
set_option linter.all false
namespace Am
open Go Go.RowKit

variable {P : Program} {W : World} {κ : Kap} {S : St} {w : World} {f : Fr} {a : Act} {fs : List FuncId} {fz : Bool}

theorem tup2 {x : AVal} {y : Value} (h : VRel κ x y) (b : Bool) : VRel κ (.tup [x, .bool b]) (.tuple #[y, .bool b]) :=
  .tup _ [y, .bool b] rfl (VRelL.cons h (.cons (.bool b) (.nil κ))).2

theorem ok_typeAssert (x : Operand) (xT t : TypeId) : OpOk P fs fz (.typeAssert x xT t true) := by
  intro W κ S w f a o aop v S' ho hc hf h hv
  simp only [compOp1, Option.bind_eq_bind, Option.bind_eq_some_iff, Option.pure_def] at hc
  obtain ⟨ax, hax, z, ⟨j, hj, hz⟩, az, haz, d, hd, hc⟩ := hc
  have r := argA_rel (κ := κ) hax hf
  have hzr := valA_rel haz κ
  have fin : ∀ {u : AVal} {v' : Value}, (Instr.typeAssert (a.eval x) xT t true).run P w = .ok v' w → VRel κ u v' → OpRuns P W κ w a.eval o u S := fun h1 h2 =>
    .of (m := Instr.typeAssert (a.eval x) xT t true) (fun v' w' h' => by simp [execOp, ho, h']) (.pure h h1 h2)
  split at hc
  · rename_i want
    simp only [Option.some.injEq, Sum.inl.injEq] at hc
    subst hc
    simp only [evOp] at hv
    split at hv
    · rename_i e
      cases hv
      rw [e] at r
      generalize hu : a.eval x = u at r fin
      cases r
      exact fin (v' := .tuple #[z, .bool false]) (by simp [Instr.typeAssert, run_underlying hd, zeroValue, typeInfo, hj, hz]) (tup2 hzr false)
    · rename_i dt dv e
      rw [e] at r
      generalize hu : a.eval x = u at r fin
      cases r with
      | iface _ _ xx hxx =>
      simp only [if_true] at hv
      split at hv
      · rename_i hy
        cases hv
        simp only [List.contains_iff_mem, List.mem_filter] at hy
        obtain ⟨_, hy⟩ := hy
        cases hi : P.info? dt with
        | none => rw [hi] at hy; simp at hy
        | some i =>
          rw [hi] at hy
          simp only [Option.any_some, List.isEmpty_iff] at hy
          exact fin (run_typeAssert_has hd hi hy) (tup2 (.iface dt dv xx hxx) true)
      · split at hv
        · rename_i hy
          cases hv
          simp only [List.contains_iff_mem, List.mem_filter] at hy
          obtain ⟨_, hy⟩ := hy
          cases hi : P.info? dt with
          | none => rw [hi] at hy; simp at hy
          | some i =>
            rw [hi] at hy
            simp only [Option.any_some, Bool.not_eq_true', List.isEmpty_eq_false_iff] at hy
            exact fin (run_typeAssert_lacks hd hi hj hz hy) (tup2 hzr false)
        · simp at hv
    · simp at hv
  · rename_i hni
    simp only [Option.some.injEq, Sum.inl.injEq] at hc
    subst hc
    simp only [evOp] at hv
    split at hv
    · rename_i e
      cases hv
      rw [e] at r
      generalize hu : a.eval x = u at r fin
      cases r
      refine fin (v' := .tuple #[z, .bool false]) ?_ (tup2 hzr false)
      cases d <;> first | (exfalso; exact hni _ rfl) | simp [Instr.typeAssert, run_underlying hd, zeroValue, typeInfo, hj, hz]
    · rename_i dt dv e
      rw [e] at r
      generalize hu : a.eval x = u at r fin
      cases r with
      | iface _ _ xx hxx =>
      simp only [Bool.false_eq_true, if_false] at hv
      split at hv
      · rename_i hdt
        subst hdt
        cases hv
        refine fin (v' := .tuple #[xx, .bool true]) ?_ (tup2 hxx true)
        cases d <;> first | (exfalso; exact hni _ rfl) | simp [Instr.typeAssert, run_underlying hd]
      · rename_i hdt
        cases hv
        refine fin (v' := .tuple #[z, .bool false]) ?_ (tup2 hzr false)
        cases d <;> first | (exfalso; exact hni _ rfl) | simp [Instr.typeAssert, run_underlying hd, hdt, zeroValue, typeInfo, hj, hz]
    · simp at hv

theorem ok_slice0 (t : TypeId) (x : Operand) (k k' : IntKind) : OpOk P fs fz (.slice t x none (some (.const (.int k 0))) (some (.const (.int k' 0)))) := by
  intro W κ S w f a o aop v S' ho hc hf h hv
  simp only [compOp1, Option.bind_some, zeroC, if_true, Option.bind_eq_bind, Option.bind_eq_some_iff, Option.pure_def] at hc
  obtain ⟨ax, hax, d, hd, hc⟩ := hc
  have r := argA_rel (κ := κ) hax hf
  split at hc
  · rename_i e
    simp only [Option.bind_eq_some_iff, Option.some.injEq, Sum.inl.injEq] at hc
    obtain ⟨sz, hsz, rfl⟩ := hc
    have hb : ∀ len cap, (Instr.sliceBounds true len cap none (some (.int k 0)) (some (.int k' 0))).run P w = .ok (0, 0, 0) w := fun len cap => by
      simp [Instr.sliceBounds, Instr.sliceBound, asIntOf]
    have fin : ∀ {u : AVal} {v' : Value}, (Instr.sliceAt t (a.eval x) none (some (.int k 0)) (some (.int k' 0))).run P w = .ok v' w → VRel κ u v' → OpRuns P W κ w a.eval o u S := fun h1 h2 =>
      .of (m := Instr.sliceAt t (a.eval x) none (some (.int k 0)) (some (.int k' 0))) (fun v' w' h' => by simp [execOp, ho, show a.eval (.const (.int k 0)) = .int k 0 from rfl, show a.eval (.const (.int k' 0)) = .int k' 0 from rfl, h']) (.pure h h1 h2)
    simp only [evOp] at hv
    split at hv
    · rename_i e'
      cases hv
      rw [e'] at r
      generalize hu : a.eval x = u at r fin
      cases r
      exact fin (v' := .slice none 0 0) (by simp [Instr.sliceAt, Instr.slice, run_und hd, hb, run_size hsz]) .nils
    · rename_i rr vv off len sz' e'
      cases hv
      rw [e'] at r
      generalize hu : a.eval x = u at r fin
      cases r with
      | sl _ _ _ _ _ inf ad c hr hver hlc hext =>
        exact fin (v' := .slice (some ad) 0 0) (by simp [Instr.sliceAt, Instr.slice, run_und hd, hb, run_size hsz]) (.fz true 0 [] ad 0 [] (Nat.le_refl _) (fun _ => rfl) (by simp) rfl (by simp) (by simp) (by simp))
    · rename_i full len cells e'
      cases hv
      rw [e'] at r
      generalize hu : a.eval x = u at r fin
      cases r with
      | fz _ _ _ ad c ys hlc hfull hs hl hsc hk hrr =>
        exact fin (v' := .slice (some ad) 0 0) (by simp [Instr.sliceAt, Instr.slice, run_und hd, hb, run_size hsz]) (.fz true 0 [] ad 0 [] (Nat.le_refl _) (fun _ => rfl) (by simp) rfl (by simp) (by simp) (by simp))
    · simp at hv
  · simp at hc

theorem ok_arrP (t : TypeId) (x : Operand) : OpOk P fs fz (.sliceToArrayPointer t x) := by
  intro W κ S w f a o aop v S' ho hc hf h hv
  simp only [compOp1, Option.bind_eq_bind, Option.bind_eq_some_iff, Option.pure_def] at hc
  obtain ⟨d, hd, hc⟩ := hc
  split at hc
  · rename_i n e
    simp only [Option.bind_eq_some_iff, Option.some.injEq, Sum.inl.injEq] at hc
    obtain ⟨sz, hsz, ax, hax, rfl⟩ := hc
    have r := argA_rel (κ := κ) hax hf
    have fin : ∀ {u : AVal} {v' : Value}, (Instr.arrayAt t (a.eval x)).run P w = .ok v' w → VRel κ u v' → OpRuns P W κ w a.eval o u S := fun h1 h2 =>
      .of (m := Instr.arrayAt t (a.eval x)) (fun v' w' h' => by simp [execOp, ho, h']) (.pure h h1 h2)
    simp only [evOp] at hv
    split at hv
    · rename_i rr vv off len sz' e'
      split at hv
      · rename_i hcnd
        obtain ⟨rfl, h1, h2⟩ := hcnd
        cases hv
        rw [e'] at r
        generalize hu : a.eval x = u at r fin
        cases r with
        | sl _ _ _ _ _ inf ad c hr hver hlc hext =>
          refine fin (v' := .pointer (some ad)) ?_ (.ptr rr vv off inf ad hr hver (fun e => ?_))
          · simp [Instr.arrayAt, run_underlying hd]; omega
          · rcases (hext e).2 with h0 | h0
            · omega
            · exact h0
      · simp at hv
    · rename_i full len cells e'
      split at hv
      · rename_i hcnd
        cases hv
        rw [e'] at r
        generalize hu : a.eval x = u at r fin
        cases r with
        | fz _ _ _ ad c ys hlc hfull hs hl hsc hk hrr =>
          refine fin (v' := .pointer (some ad)) ?_ (.fq cells ad ys hs hl hsc hk hrr)
          simp [Instr.arrayAt, run_underlying hd]; omega
      · simp at hv
    · simp at hv
  · simp at hc
end Am
