/- An operation that was translated stands for the model's: the rest, and all of them. -/
import Derived.Test.YtgbifohffmdgeaaDoorAmOpsH
set_option linter.all false
namespace Am
open Go Go.RowKit

variable {P : Program} {W : World} {κ : Kap} {S : St} {w : World} {f : Fr} {a : Act} {fs : List FuncId} {fz : Bool}

theorem ok_convert (src dst : TypeId) (x : Operand) : OpOk P fs fz (.convert src dst x) := by
  intro W κ S w f a o aop v S' ho hc hf h hv
  simp only [compOp1, Option.bind_eq_bind, Option.bind_eq_some_iff, Option.pure_def] at hc
  obtain ⟨ax, hax, d1, hd1, d2, hd2, hc⟩ := hc
  have r := argA_rel (κ := κ) hax hf
  split at hc
  · simp only [Option.some.injEq, Sum.inl.injEq] at hc
    subst hc
    simp only [evOp] at hv
    split at hv
    · rename_i e
      cases hv
      rw [e] at r
      generalize hr : a.eval x = u at r
      cases r
      refine .of (m := convert src dst (a.eval x)) (fun v' w' h' => by simp [execOp, ho, h']) (.pure h (v' := .int _ (IntKind.wrap _ _)) ?_ (.int _ _))
      rw [hr]
      simp [convert, run_und hd1, run_und hd2, Conv.intToInt]
    · simp at hv
  · simp only [Option.some.injEq, Sum.inl.injEq] at hc
    subst hc
    simp only [evOp] at hv
    split at hv
    · rename_i s e
      cases hv
      rw [e] at r
      generalize hr : a.eval x = u at r
      cases r with
      | str _ b hb =>
        refine .of (m := convert src dst (a.eval x)) (fun v' w' h' => by simp [execOp, ho, h']) (.pure h (v' := .string b) ?_ (.str _ b hb))
        rw [hr]
        simp [convert, run_und hd1, run_und hd2]
    · simp at hv
  · simp only [Option.bind_eq_some_iff] at hc
    obtain ⟨d3, hd3, hc⟩ := hc
    split at hc
    · simp only [Option.some.injEq, Sum.inl.injEq] at hc
      subst hc
      simp only [evOp] at hv
      split at hv
      · rename_i s hs
        cases hv
        unfold bytesA at hs
        split at hs
        · simp at hs
        · rename_i hns
          split at hs
          · rename_i n cs hcs
            exact .of (fun v' w' h' => by simp [execOp, ho, h']) (convBS_ok h hd1 hd3 hd2 r hcs hs hns)
          · simp at hs
      · simp at hv
    · simp at hc
  · simp only [Option.bind_eq_some_iff] at hc
    obtain ⟨d3, hd3, hc⟩ := hc
    split at hc
    · simp only [Option.some.injEq, Sum.inl.injEq] at hc
      subst hc
      simp only [evOp] at hv
      split at hv
      · rename_i s e
        cases hv
        rw [e] at r
        exact .of (fun v' w' h' => by simp [execOp, ho, h']) (convSB_ok h hd1 hd3 hd2 r)
      · simp at hv
    · simp at hc
  · simp only [Option.bind_eq_some_iff] at hc
    obtain ⟨d3, hd3, hc⟩ := hc
    split at hc
    · split at hc
      · rename_i hsd
        simp only [Option.some.injEq, Sum.inl.injEq] at hc
        subst hc
        subst hsd
        simp only [evOp] at hv
        split at hv
        · rename_i e
          split at hv
          · rename_i hS
            split at hv
            · rename_i hcnd
              cases hv
              rw [e] at r
              exact .of (fun v' w' h' => by simp [execOp, ho, h']) (convSL_ok h hd1 hd2 hd3 r hS hcnd.1 hcnd.2)
            · simp at hv
          · simp at hv
        · simp at hv
      · simp at hc
    · simp at hc
  · simp at hc

theorem optM_lims {lo hi : Option Operand} {alo ahi : Option Arg} (h1 : optM argA lo = some alo) (h2 : optM argA hi = some ahi) (hf : FRel κ f a.tmps) :
    Lims κ (alo.map f.ev) (ahi.map f.ev) (lo.map a.eval) (hi.map a.eval) := by
  have key : ∀ {lo : Option Operand} {alo : Option Arg}, optM argA lo = some alo → (∀ x, alo.map f.ev = some x → ∃ y, lo.map a.eval = some y ∧ VRel κ x y) ∧ (alo.map f.ev = none → lo.map a.eval = none) := by
    intro lo alo h
    cases lo with
    | none => simp [optM] at h; subst h; simp
    | some x =>
      simp only [optM, Option.map_eq_some_iff] at h
      obtain ⟨ax, hax, rfl⟩ := h
      refine ⟨fun y hy => ?_, fun hn => by simp at hn⟩
      simp at hy; subst hy
      exact ⟨_, rfl, argA_rel hax hf⟩
  exact ⟨(key h1).1, (key h1).2, (key h2).1, (key h2).2⟩

theorem ok_slice (t : TypeId) (x : Operand) (lo hi : Option Operand) : OpOk P fs fz (.slice t x lo hi none) := by
  intro W κ S w f a o aop v S' ho hc hf h hv
  simp only [compOp1, Option.bind_eq_bind, Option.bind_eq_some_iff, Option.pure_def] at hc
  obtain ⟨ax, hax, alo, hlo, ahi, hhi, d, hd, hc⟩ := hc
  have r := argA_rel (κ := κ) hax hf
  have L := optM_lims (κ := κ) hlo hhi hf
  have fin : Runs P W κ w (Instr.sliceAt t (a.eval x) (lo.map a.eval) (hi.map a.eval) none) v S' → OpRuns P W κ w a.eval o v S' :=
    fun hr => .of (fun v' w' h' => by simp [execOp, ho, h']) hr
  apply fin
  split at hc
  · simp only [Option.bind_eq_some_iff, Option.some.injEq, Sum.inl.injEq] at hc
    obtain ⟨sz, hsz, rfl⟩ := hc
    simp only [evOp] at hv
    replace hv := same_some hv; obtain ⟨hv, rfl⟩ := hv
    exact slcA_ok h (.inl hd) hsz r L hv
  · simp only [Option.some.injEq, Sum.inl.injEq] at hc
    subst hc
    simp only [evOp] at hv
    replace hv := same_some hv; obtain ⟨hv, rfl⟩ := hv
    exact slcStr_ok h hd r L.l1 L.l0 L.h1 L.h0 hv
  · simp only [Option.bind_eq_some_iff, Option.some.injEq, Sum.inl.injEq] at hc
    obtain ⟨sz, hsz, rfl⟩ := hc
    split at hv
    · simp only [evOp] at hv
      replace hv := same_some hv; obtain ⟨hv, rfl⟩ := hv
      exact slcM_ok h hd hsz r L hv
    · simp only [evOp] at hv
      replace hv := same_some hv; obtain ⟨hv, rfl⟩ := hv
      exact slcS_ok h hd hsz r L hv
  · simp only [Option.bind_eq_some_iff] at hc
    obtain ⟨d2, hd2, hc⟩ := hc
    split at hc
    · simp only [Option.bind_eq_some_iff, Option.some.injEq, Sum.inl.injEq] at hc
      obtain ⟨sz, hsz, rfl⟩ := hc
      simp only [evOp] at hv
      replace hv := same_some hv; obtain ⟨hv, rfl⟩ := hv
      exact slcA_ok h (.inr ⟨_, hd, hd2⟩) hsz r L hv
    · simp at hc
  · simp at hc

theorem ok_makeSlice (t : TypeId) (l c : Operand) : OpOk P fs fz (.makeSlice t l c) := by
  intro W κ S w f a o aop v S' ho hc hf h hv
  simp only [compOp1, Option.bind_eq_bind, Option.bind_eq_some_iff, Option.pure_def] at hc
  obtain ⟨d, hd, hc⟩ := hc
  split at hc
  · simp only [Option.bind_eq_some_iff] at hc
    obtain ⟨sz, hsz, zero, hz, hc⟩ := hc
    split at hc
    · simp at hc
    · simp only [Option.bind_some, Option.bind_eq_some_iff, Option.some.injEq, Sum.inl.injEq] at hc
      obtain ⟨bytes, hby, al, hal, ac, hac, rfl⟩ := hc
      split at hv
      · simp only [evOp] at hv
        exact .of (fun v' w' h' => by simp [execOp, ho, h']) (mkM_ok h hd hsz hby hz (argA_rel hal hf) (argA_rel hac hf) hv)
      · simp only [evOp] at hv
        exact .of (fun v' w' h' => by simp [execOp, ho, h']) (mk_ok h hd hsz hby hz (argA_rel hal hf) (argA_rel hac hf) hv)
  · simp at hc

theorem eqGuard_of {op : BinOp} {t : TypeId} {x y : Operand} {u v : Value} {d : TypeDesc} (ht : P.underlying t = some d) (hd : ∀ ms, d ≠ .interface ms) (hu : u ≠ .nilIface) (hagg : ∀ cs, u = .agg cs → P.eqGuardType P.depth t = false) (w : World) :
    (eqGuard op t x y u v).run P w = .ok () w := by
  unfold eqGuard
  split
  case h_3 => rfl
  all_goals
    simp only [Bool.not_true, Bool.false_eq_true, if_false]
    cases u <;> cases v <;> first
      | rfl
      | (exact absurd rfl hu)
      | (have := hagg _ rfl; simp [this])

theorem run_binOp_eql {t : TypeId} {u v : Value} {r : Bool} (hr : (Op.equal t u v).run P w = .ok r w) (hne : ∀ k n, u ≠ .int k n) (hns : ∀ s, u ≠ .string s) (hnf : ∀ k n, u ≠ .float k n) (hnc : ∀ k m n, u ≠ .complex k m n) :
    (binOp .eql t u v).run P w = .ok (.bool r) w ∧ (binOp .neq t u v).run P w = .ok (.bool (!r)) w := by
  cases u <;> first
    | exact absurd rfl (hne _ _)
    | exact absurd rfl (hns _)
    | exact absurd rfl (hnf _ _)
    | exact absurd rfl (hnc _ _ _)
    | (constructor <;> simp [binOp, hr])

theorem ok_binOp (op : BinOp) (t : TypeId) (x y : Operand) (ty : TypeId) : OpOk P fs fz (.binOp op t x y ty) := by
  intro W κ S w f a o aop v S' ho hc hf h hv
  simp only [compOp1, Option.bind_eq_bind, Option.bind_eq_some_iff, Option.pure_def] at hc
  obtain ⟨ax, hax, ay, hay, hc⟩ := hc
  have rx := argA_rel (κ := κ) hax hf
  have ry := argA_rel (κ := κ) hay hf
  have fin : (eqGuard op t x y (a.eval x) (a.eval y)).run P w = .ok () w → (∃ v', (binOp op t (a.eval x) (a.eval y)).run P w = .ok v' w ∧ VRel κ v v') → S' = S → OpRuns P W κ w a.eval o v S' := by
    rintro hg ⟨v', h1, h2⟩ rfl
    exact ⟨.value v', w, κ, by simp [execOp, ho, hg, h1], .inl ⟨v', rfl, h2⟩, h, Kap.le_refl κ⟩
  have bin : aop = .bin op ax ay → OpRuns P W κ w a.eval o v S' := by
    rintro rfl
    simp only [evOp] at hv
    replace hv := same_some hv; obtain ⟨hv, rfl⟩ := hv
    obtain ⟨v', h1, h2⟩ := binA_ok (P := P) rx ry hv t w
    refine fin ?_ ⟨v', h1, h2⟩ rfl
    have hx : ∀ u, f.ev ax = u → (∃ k n, u = .int k n) ∨ ∃ s, u = .str s := by
      intro u hu
      unfold binA at hv
      rw [hu] at hv
      split at hv
      · exact .inl ⟨_, _, rfl⟩
      · exact .inr ⟨_, rfl⟩
      · simp at hv
    refine eqGuard_const (fun e1 _ => ?_) (fun cs e1 => ?_) w
    · rw [e1] at rx
      rcases hx _ rfl with ⟨k, n, hu⟩ | ⟨s, hu⟩ <;> rw [hu] at rx <;> cases rx
    · rw [e1] at rx
      rcases hx _ rfl with ⟨k, n, hu⟩ | ⟨s, hu⟩ <;> rw [hu] at rx <;> cases rx
  have eqq : ∀ q d, P.underlying t = some d → EqT.fits q d → (op = .eql ∨ op = .neq) → aop = .eq (op = .neq) q ax ay → (q = .ifc → isConst x = true ∨ isConst y = true) → OpRuns P W κ w a.eval o v S' := by
    rintro q d hd hq hop rfl hcst
    simp only [evOp] at hv
    replace hv := same_some hv; obtain ⟨hv, rfl⟩ := hv
    simp only [Option.map_eq_some_iff] at hv
    obtain ⟨b, hb, rfl⟩ := hv
    have he := eq2_ok (P := P) rx ry hb hd hq w
    have hno : (∀ k n, a.eval x ≠ .int k n) ∧ (∀ s, a.eval x ≠ .string s) ∧ (∀ k n, a.eval x ≠ .float k n) ∧ (∀ k m n, a.eval x ≠ .complex k m n) ∧ (∀ cs, a.eval x ≠ .agg cs) ∧ (a.eval x = .nilIface → q = .ifc) := by
      generalize a.eval x = u at rx
      generalize f.ev ax = au at rx hb
      generalize f.ev ay = av at hb
      unfold eq2 at hb
      split at hb
      case h_18 => simp at hb
      all_goals (cases rx; simp)
    obtain ⟨n1, n2, n3, n4, n5, n6⟩ := hno
    have hb2 := run_binOp_eql (P := P) (w := w) he n1 n2 n3 n4
    refine fin (eqGuard_const (fun e1 _ => hcst (n6 e1)) n5 w) ?_ rfl
    rcases hop with rfl | rfl
    · exact ⟨_, hb2.1, by simpa using VRel.bool b⟩
    · exact ⟨_, hb2.2, by simpa using VRel.bool (!b)⟩
  split at hc
  · rename_i hop
    simp only [Option.bind_eq_some_iff] at hc
    obtain ⟨d, hd, hc⟩ := hc
    split at hc
    · simp only [Option.some.injEq, Sum.inl.injEq] at hc
      exact bin hc.symm
    · simp only [Option.some.injEq, Sum.inl.injEq] at hc
      exact bin hc.symm
    · simp only [Option.some.injEq, Sum.inl.injEq] at hc
      exact eqq .bool _ hd trivial hop hc.symm (by simp)
    · simp only [Option.some.injEq, Sum.inl.injEq] at hc
      exact eqq .ptr _ hd trivial hop hc.symm (by simp)
    · simp only [Option.some.injEq, Sum.inl.injEq] at hc
      exact eqq .sl _ hd trivial hop hc.symm (by simp)
    · simp only [Option.some.injEq, Sum.inl.injEq] at hc
      exact eqq .fn _ hd trivial hop hc.symm (by simp)
    · split at hc
      · rename_i hcst
        simp only [Option.some.injEq, Sum.inl.injEq] at hc
        exact eqq .ifc _ hd trivial hop hc.symm (fun _ => by simpa using hcst)
      · rename_i ms _
        simp only [Option.some.injEq, Sum.inl.injEq] at hc
        subst hc
        have done : (Op.equal t (a.eval x) (a.eval y)).run P w = .ok false w → (∀ k n, a.eval x ≠ .int k n) → (∀ s, a.eval x ≠ .string s) → (∀ k n, a.eval x ≠ .float k n) → (∀ k m n, a.eval x ≠ .complex k m n) →
            (a.eval x = .nilIface → a.eval y ≠ .nilIface) → (∀ cs, a.eval x ≠ .agg cs) → v = .bool (decide (op = .neq)) → S' = S → OpRuns P W κ w a.eval o v S' := by
          intro he n1 n2 n3 n4 n5 n6 hv1 hv2
          have hb2 := run_binOp_eql (P := P) (w := w) he n1 n2 n3 n4
          refine fin (eqGuard_const (fun e1 e2 => absurd e2 (n5 e1)) n6 w) ?_ hv2
          rw [hv1]
          rcases hop with rfl | rfl
          · exact ⟨_, hb2.1, by simpa using VRel.bool false⟩
          · exact ⟨_, hb2.2, by simpa using VRel.bool true⟩
        simp only [evOp] at hv
        split at hv
        · rename_i tx vx ty vy e1 e2
          split at hv
          · simp at hv
          · rename_i hne
            simp only [Option.some.injEq, Prod.mk.injEq] at hv
            rw [e1] at rx; rw [e2] at ry
            generalize hax' : a.eval x = u at rx done
            generalize hay' : a.eval y = u' at ry done
            cases rx; cases ry
            rename_i xx _ yy _
            have hh : ∀ d : Nat, (Op.equalIn (d + 1) t (.iface tx xx) (.iface ty yy)).run P w = .ok false w := fun d => by simp [Op.equalIn, run_underlying hd, hne]
            exact done (by simp only [Op.equal, Op.maxDepth]; exact hh 9999) (by simp) (by simp) (by simp) (by simp) (by simp) (by simp) hv.1.symm hv.2.symm
        · rename_i ty vy e1 e2
          simp only [Option.some.injEq, Prod.mk.injEq] at hv
          rw [e1] at rx; rw [e2] at ry
          have he := eq2_ok (P := P) rx ry (q := EqT.ifc) (b := false) rfl hd trivial w
          generalize hax' : a.eval x = u at rx done he
          generalize hay' : a.eval y = u' at ry done he
          cases rx; cases ry
          exact done he (by simp) (by simp) (by simp) (by simp) (by simp) (by simp) hv.1.symm hv.2.symm
        · rename_i ty vy e1 e2
          simp only [Option.some.injEq, Prod.mk.injEq] at hv
          rw [e1] at rx; rw [e2] at ry
          have he := eq2_ok (P := P) rx ry (q := EqT.ifc) (b := false) rfl hd trivial w
          generalize hax' : a.eval x = u at rx done he
          generalize hay' : a.eval y = u' at ry done he
          cases rx; cases ry
          exact done he (by simp) (by simp) (by simp) (by simp) (by simp) (by simp) hv.1.symm hv.2.symm
        · simp at hv
    · split at hc
      · simp at hc
      · rename_i hgt
        simp only [Option.bind_eq_some_iff, Option.some.injEq, Sum.inl.injEq] at hc
        obtain ⟨ks, hks, rfl⟩ := hc
        simp only [evOp] at hv
        split at hv
        · rename_i ca cb e1 e2
          replace hv := same_some hv; obtain ⟨hv, rfl⟩ := hv
          simp only [Option.map_eq_some_iff] at hv
          obtain ⟨b, hb, rfl⟩ := hv
          rw [e1] at rx; rw [e2] at ry
          have he := eqA_ok (P := P) h hks rx ry hb (by funext xs; simp [mkv, hd])
          have hag : ∃ cs, a.eval x = .agg cs := by generalize a.eval x = u at rx; cases rx; exact ⟨_, rfl⟩
          obtain ⟨cs, hcs⟩ := hag
          have hb2 := run_binOp_eql (P := P) (w := w) he (by rw [hcs]; simp) (by rw [hcs]; simp) (by rw [hcs]; simp) (by rw [hcs]; simp)
          refine fin (eqGuard_of hd (by intro ms; simp) (by rw [hcs]; simp) (fun _ _ => by simpa using hgt) w) ?_ rfl
          rcases hop with rfl | rfl
          · exact ⟨_, hb2.1, by simpa using VRel.bool b⟩
          · exact ⟨_, hb2.2, by simpa using VRel.bool (!b)⟩
        · simp at hv
    · split at hc
      · simp at hc
      · rename_i hgt
        simp only [Option.bind_eq_some_iff, Option.some.injEq, Sum.inl.injEq] at hc
        obtain ⟨ks, hks, rfl⟩ := hc
        simp only [evOp] at hv
        split at hv
        · rename_i ca cb e1 e2
          replace hv := same_some hv; obtain ⟨hv, rfl⟩ := hv
          simp only [Option.map_eq_some_iff] at hv
          obtain ⟨b, hb, rfl⟩ := hv
          rw [e1] at rx; rw [e2] at ry
          have he := eqA_ok (P := P) h hks rx ry hb (by funext xs; simp [mkv, hd])
          have hag : ∃ cs, a.eval x = .agg cs := by generalize a.eval x = u at rx; cases rx; exact ⟨_, rfl⟩
          obtain ⟨cs, hcs⟩ := hag
          have hb2 := run_binOp_eql (P := P) (w := w) he (by rw [hcs]; simp) (by rw [hcs]; simp) (by rw [hcs]; simp) (by rw [hcs]; simp)
          refine fin (eqGuard_of hd (by intro ms; simp) (by rw [hcs]; simp) (fun _ _ => by simpa using hgt) w) ?_ rfl
          rcases hop with rfl | rfl
          · exact ⟨_, hb2.1, by simpa using VRel.bool b⟩
          · exact ⟨_, hb2.2, by simpa using VRel.bool (!b)⟩
        · simp at hv
    · simp at hc
  · simp only [Option.some.injEq, Sum.inl.injEq] at hc
    exact bin hc.symm

end Am
