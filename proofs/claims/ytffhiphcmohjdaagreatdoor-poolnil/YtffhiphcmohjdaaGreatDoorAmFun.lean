/- A function of the machine stands for the model's. Weakening what is known of a call: what is made may be told in place, and what is left over be forgotten. -/
import Derived.Test.YtffhiphcmohjdaaGreatDoorAmCode
set_option linter.all false
namespace Am
open Go Go.RowKit

variable {P : Program} {W : World} {κ : Kap} {S : St} {w : World} {f : Fr} {a : Act} {fs : List FuncId} {O : Orc} {n : Nat}

theorem resA_ok {a : Act} (h : Rel W κ S w) (hf : FrOk κ n f a) {r : ResultVar} {ar : Nat ⊕ (Nat × Option Nat)} (hc : compR P n r = some ar) {v : AVal} (hv : resA f S ar = some v) :
    ∃ v', (match r with | .tmp t => Pure.pure (a.tmps.getD t undef) | .cell x t => do loadVar t (← asAddr (a.tmps.getD x undef)) : Sem Value).run P w = .ok v' w ∧ VRel κ v v' := by
  cases r with
  | tmp t =>
    simp only [compR] at hc
    split at hc
    · simp only [Option.some.injEq] at hc; subst hc
      simp only [resA, Option.some.injEq] at hv; subst hv
      exact ⟨_, rfl, hf.rel t⟩
    · simp at hc
  | cell x t =>
    simp only [compR, Option.map_eq_some_iff] at hc
    obtain ⟨m, hm, rfl⟩ := hc
    simp only [resA] at hv
    obtain ⟨cs, ha, hp⟩ := loadA_avail hv
    obtain ⟨ad, ys, he, hl, hsc, hat⟩ := avail_of h (hf.rel x) ha
    obtain ⟨v', hr, hvr⟩ := run_loadVar_cells (P := P) hm hl hsc hat hp
    exact ⟨v', by simp only [he, asAddr, Sem.run_bind, Sem.run_pure, Result.andThen_ok, hr], hvr⟩

theorem results_ok {fn : Func} (h : Rel W κ S w) (hf : FrOk κ n f a) {rs : List (Nat ⊕ (Nat × Option Nat))} (hc : fn.results.toList.mapM (compR P n) = some rs) {v : AVal} (hv : resultsA f S rs = some v) :
    ∃ v', (results fn a.tmps).run P w = .ok v' w ∧ VRel κ v v' := by
  have hm : ∀ (l : List ResultVar) (rs : List (Nat ⊕ (Nat × Option Nat))) (vs : List AVal), l.mapM (compR P n) = some rs → rs.mapM (resA f S) = some vs →
      ∃ vs', (l.mapM fun r => (match r with | .tmp t => Pure.pure (a.tmps.getD t undef) | .cell x t => do loadVar t (← asAddr (a.tmps.getD x undef)) : Sem Value)).run P w = .ok vs' w ∧ VRelL κ vs vs' := by
    intro l
    induction l with
    | nil => intro rs vs h1 h2; simp at h1; subst h1; simp at h2; subst h2; exact ⟨[], by simp, .nil κ⟩
    | cons r l ih =>
      intro rs vs h1 h2
      simp only [List.mapM_cons, Option.pure_def, Option.bind_eq_bind, Option.bind_eq_some_iff] at h1
      obtain ⟨ar, har, rs', hrs', h1⟩ := h1
      cases h1
      simp only [List.mapM_cons, Option.pure_def, Option.bind_eq_bind, Option.bind_eq_some_iff] at h2
      obtain ⟨v1, hv1, vs1, hvs1, h2⟩ := h2
      cases h2
      obtain ⟨v', r1, r2⟩ := resA_ok (P := P) h hf har hv1
      obtain ⟨vs', r3, r4⟩ := ih rs' vs1 hrs' hvs1
      refine ⟨v' :: vs', ?_, .cons r2 r4⟩
      simp only [List.mapM_cons, Sem.run_bind, r1, Result.andThen_ok, r3, Sem.run_pure]
  have hres : ∀ vs' : List Value, (fn.results.toList.mapM fun r => (match r with | .tmp t => Pure.pure (a.tmps.getD t undef) | .cell x t => do loadVar t (← asAddr (a.tmps.getD x undef)) : Sem Value)).run P w = .ok vs' w →
      (results fn a.tmps).run P w = .ok (if h : vs'.toArray.size = 1 then vs'.toArray[0] else .tuple vs'.toArray) w := by
    intro vs' h
    unfold results
    rw [Sem.run_bind, Array.mapM_eq_mapM_toList, Sem.run_map]
    exact (congrArg (fun r : Result (List Value) => (r.andThen fun a w' => .ok a.toArray w').andThen fun a w' => (.ok (if h : a.size = 1 then a[0] else .tuple a) w' : Result Value)) h).trans rfl
  unfold resultsA at hv
  split at hv
  · rename_i r
    have h2 : ([r] : List (Nat ⊕ (Nat × Option Nat))).mapM (resA f S) = some [v] := by simp [hv]
    obtain ⟨vs', h3, h4⟩ := hm _ _ _ hc h2
    obtain ⟨y, ys, rfl, hy, hys⟩ := h4.uncons
    have := hys.unnil; subst this
    exact ⟨y, by rw [hres _ h3]; simp, hy⟩
  · rename_i hne
    simp only [Option.map_eq_some_iff] at hv
    obtain ⟨vs, hvs, rfl⟩ := hv
    obtain ⟨vs', h3, h4⟩ := hm _ _ _ hc hvs
    refine ⟨.tuple vs'.toArray, ?_, .tup vs vs' h4.1 h4.2⟩
    rw [hres _ h3]
    have hl : vs'.toArray.size ≠ 1 := by
      intro h1
      have e1 : vs.length = 1 := by rw [h4.1]; simpa using h1
      have e2 : rs.length = 1 := by rw [← (mapM_rel hvs).1]; exact e1
      obtain ⟨r, hr⟩ := List.length_eq_one_iff.1 e2
      exact hne r hr
    rw [dif_neg hl]

theorem Fr.of_get (args : List AVal) (t : Nat) : (Fr.of args).get t = args.getD t .junk := by
  have : ∀ (l : List AVal) (k : Nat), Fr.get ((l.zipIdx k).map fun (v, i) => (i, v)) t = if k ≤ t then l.getD (t - k) .junk else .junk := by
    intro l
    induction l with
    | nil => intro k; simp [Fr.get]
    | cons v l ih =>
      intro k
      simp only [List.zipIdx_cons, List.map_cons, Fr.get, ih]
      by_cases h : t = k
      · subst h; simp
      · by_cases h2 : k ≤ t
        · obtain ⟨m, hm⟩ : ∃ m, t - k = m + 1 := ⟨t - k - 1, by omega⟩
          rw [if_neg h, if_pos (by omega), if_pos h2, hm, show t - (k + 1) = m from by omega]
          simp
        · rw [if_neg h, if_neg (by omega), if_neg h2]
  have h := this args 0
  simpa [Fr.of] using h

theorem shut_ok {fn : Func} {tmps : Array Value} {R : Ending → World → Prop} {S' : St} {κ : Kap}
    (hend : ∀ w', Rel W κ S' w' → ∃ v, (results fn tmps).run P w' = .ok v w' ∧ R (.returned v) w') : ∀ (ms : List Nat) (S : St) (w : World), shut ms S = some S' → Rel W κ S w →
    LeavesInM (FF none) 0 P fn tmps R (ms.map fun j => { target := .collected ((κ.recs j).elim 0 (·.2.defers)), args := #[] }) .returning w := by
  intro ms
  induction ms with
  | nil => intro S w h hr; simp only [shut, Option.some.injEq] at h; subst h; exact hend w hr
  | cons j ms ih =>
    intro S w h hr
    simp only [shut] at h
    split at h
    · rename_i st pe hj
      obtain ⟨l, t, h1, _⟩ := hr.loops.at' j st pe hj
      obtain ⟨h2, h3⟩ := hr.shutLoop hj h1
      refine ⟨by simp, .inl ⟨t.defers, w.putObj t.defers (.deferred none), ?_, run_takeDeferred h2, ih _ _ h h3⟩⟩
      simp [h1]
    · simp at h

/-- A function of the machine stands for the model's. -/
theorem fun_okK {κ0 : Kap} (hO : OrcOk P W fs O) (hI : OrcIOk P W O) (hY : YOk P W κ0 O.yld) (hmix : P.follows .mixedOrders = true) {g : FuncId} {fn : Func} (hg : P.funcs[g]? = some fn) {h : Nat → Nat → Bool} {F : AFun} (hc : compF P fs h fn = some F) {k : Nat}
    {args : List AVal} {S : St} {v : AVal} {S' : St} (hv : evF O k F args S = some (v, S')) : Callable P g ∧ ACallsK P W κ0 g args S fun u T => u = v ∧ T = S' := by
  unfold compF at hc
  split at hc
  · simp at hc
  · rename_i c hbody
    split at hc
    · simp at hc
    · rename_i hname
      split at hc
      · rename_i b rs hb hrs
        split at hc
        · rename_i hle
          obtain ⟨hle, hbig⟩ := hle
          simp only [Option.some.injEq] at hc
          subst hc
          refine ⟨⟨fn, hg, by simpa using hname, by rw [hbody]; rfl⟩, fun κ w args' hle0 hr ha => ?_⟩
          simp only [evF] at hv
          split at hv
          · rename_i hlen
            have hsz : args'.toArray.size = fn.params.size + fn.nfree := by have := ha.1; simp; omega
            have hm0 : marks (Fr.of args) = [] := by
              unfold marks
              rw [List.filterMap_eq_nil_iff]
              rintro ⟨i, x⟩ hx
              simp only [Fr.of, List.mem_map, Prod.mk.injEq] at hx
              obtain ⟨⟨y, k'⟩, hy, rfl, _⟩ := hx
              have := (List.mem_zipIdx_iff_getElem?.1 hy)
              have hk : k' < args.length := (List.getElem?_eq_some_iff.1 this).1
              rw [if_neg]; simp at hsz; have := ha.1; omega
            have hf : FrOk κ fn.ntmps (Fr.of args) { tmps := args'.toArray ++ Array.replicate (fn.ntmps - args'.toArray.size) undef, defers := [] } := by
              refine ⟨fun t => ?_, by simp; simp at hsz; omega, hbig, by rw [hm0]; simp, by rw [hm0]; rfl⟩
              rw [Fr.of_get]
              by_cases ht : t < args.length
              · have h1 : args.getD t .junk = args[t] := by simp [ht]
                have ht' : t < args'.length := by rw [← ha.1]; exact ht
                have h2 : (args'.toArray ++ Array.replicate (fn.ntmps - args'.toArray.size) undef).getD t undef = args'[t] := by
                  simp only [Array.getD_eq_getD_getElem?]
                  rw [Array.getElem?_append_left (by simpa using ht')]
                  simp [ht']
                rw [h1, h2]
                exact ha.2 t _ _ (List.getElem?_eq_getElem ht) (List.getElem?_eq_getElem ht')
              · have h1 : args.getD t .junk = .junk := by simp [List.getD_eq_getElem?_getD, List.getElem?_eq_none (Nat.le_of_not_lt ht)]
                rw [h1]; exact .junk _
            refine (callsIn_wide (n := 0)).1 (callsIn_of_wp_marks (F := Fence.wide) hg hbody trivial ?_)
            have fin : ∀ (e : Ex) (f' : Fr) (S1 S2 : St), evC O k b (Fr.of args) S = some (e, f', S1) → (e = .normal ∨ e = .ret) → shut (marks f') S1 = some S2 → (resultsA f' S2 rs).map (fun v => (v, S2)) = some (v, S') →
                c.wpIn (FF none) 0 P (bodyPostM (FF none) 0 P fn fun e w' => ∃ v0 v' S0 κ', e = .returned v' ∧ (v0 = v ∧ S0 = S') ∧ VRel κ' v0 v' ∧ Rel W κ' S0 w' ∧ κ.le κ') { tmps := args'.toArray ++ Array.replicate (fn.ntmps - args'.toArray.size) undef, defers := [] } w := by
              intro e f' S1 S2 he hee hsh hres
              simp only [Option.map_eq_some_iff] at hres
              obtain ⟨v1, hv1, hres⟩ := hres
              cases hres
              refine code_ok hO hI hY hmix k h c b hb none (.inl rfl) (Fr.of args) S κ w _ e f' S1 he hle0 hf hr _ (fun κ' w' a' hle' hf' hr' => ?_)
              have key : LeavesInM (FF none) 0 P fn a'.tmps (fun e w' => ∃ v0 v' S0 κ', e = .returned v' ∧ (v0 = v ∧ S0 = S') ∧ VRel κ' v0 v' ∧ Rel W κ' S0 w' ∧ κ.le κ') a'.defers .returning w' := by
                rw [hf'.defers]
                refine shut_ok (κ := κ') (fun w2 hr2 => ?_) (marks f') S1 w' hsh hr'
                obtain ⟨v', r1, r2⟩ := results_ok (P := P) hr2 hf' hrs hv1
                exact ⟨v', r1, v, v', S', κ', rfl, ⟨rfl, rfl⟩, r2, hr2, hle'⟩
              rcases hee with rfl | rfl
              · exact key
              · exact key
            split at hv
            · simp at hv
            · rename_i e f' S1 hne he
              have hee : e = .normal ∨ e = .ret := by
                cases e with
                | normal => exact .inl rfl
                | exit id => exact absurd rfl (hne id)
                | ret => exact .inr rfl
              split at hv
              · split at hv
                · rename_i S2 hS2
                  exact fin e f' S1 S2 he hee hS2 hv
                · simp at hv
              · rename_i hrng
                have hpl : b.plain = true := by simpa using hrng
                have hm : marks f' = [] := by rw [evC_marks hbig c b hb hpl _ _ _ _ _ he, hm0]
                exact fin e f' S1 S1 he hee (by rw [hm]; rfl) hv
            · simp at hv
          · simp at hv
        · simp at hc
      · simp at hc

theorem fun_ok (hO : OrcOk P W fs O) (hI : OrcIOk P W O) (hy : O.yld = fun _ _ _ => Option.none) (hmix : P.follows .mixedOrders = true) {g : FuncId} {fn : Func} (hg : P.funcs[g]? = some fn) {h : Nat → Nat → Bool} {F : AFun} (hc : compF P fs h fn = some F) {k : Nat}
    {args : List AVal} {S : St} {v : AVal} {S' : St} (hv : evF O k F args S = some (v, S')) : Callable P g ∧ ACalls P W g args S fun u T => u = v ∧ T = S' := by
  have hY : ∀ κ0, YOk P W κ0 O.yld := fun κ0 => by rw [hy]; exact YOk.nil P W κ0
  refine ⟨(fun_okK hO hI (hY { blocks := [], fz := fun _ _ => none }) hmix hg hc hv).1, fun κ w args' hr ha => ?_⟩
  exact (fun_okK hO hI (hY κ) hmix hg hc hv).2 κ w args' (Kap.le0_refl κ) hr ha

theorem Sound.of_ev (hO : ∀ W, WOk P W → OrcOk P W fs O) (hI : ∀ W, WOk P W → OrcIOk P W O) (hy : O.yld = fun _ _ _ => Option.none) (hmix : P.follows .mixedOrders = true) {g : FuncId} {fn : Func} (hg : P.funcs[g]? = some fn) {h : Nat → Nat → Bool} {F : AFun} (hc : compF P fs h fn = some F) {m : Model}
    (hm : ∀ args S r, m args S = some r → ∃ k, evF O k F args S = some r) : Sound P g m := by
  intro W hW args S v S' he
  obtain ⟨k, hk⟩ := hm args S _ he
  exact fun_ok (hO W hW) (hI W hW) hy hmix hg hc hk

end Am
