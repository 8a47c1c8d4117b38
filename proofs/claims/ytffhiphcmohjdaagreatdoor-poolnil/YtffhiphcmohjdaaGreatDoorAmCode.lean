/- Code and functions of the machine stand for the model's. -/
import Derived.Test.YtffhiphcmohjdaaGreatDoorAmFloat
set_option linter.all false
namespace Am
open Go Go.RowKit

variable {P : Program} {W : World} {κ : Kap} {S : St} {w : World} {f : Fr} {a : Act} {fs : List FuncId} {O : Orc} {n : Nat}

theorem countP_drop {p q : Nat → Bool} (i : Nat) (hq : ∀ j, q j = (p j && decide (j ≠ i))) : ∀ l : List Nat, l.Nodup → i ∈ l → p i = true → l.countP q + 1 = l.countP p := by
  intro l
  induction l with
  | nil => intro _ h; simp at h
  | cons x l ih =>
    intro hn hi hp
    obtain ⟨hx, hn'⟩ := List.nodup_cons.1 hn
    by_cases hxi : x = i
    · subst hxi
      have hsame : l.countP q = l.countP p := by
        apply List.countP_congr
        intro j hj
        rw [hq j]
        have : j ≠ x := fun e => hx (e ▸ hj)
        simp [this]
      rw [List.countP_cons, List.countP_cons, hsame, hq x]
      simp [hp]
    · have := ih hn' (by rcases List.mem_cons.1 hi with e | e; exact absurd e.symm hxi; exact e) hp
      rw [List.countP_cons, List.countP_cons, hq x]
      simp only [hxi, ne_eq, not_false_eq_true, decide_true, Bool.and_true]
      omega

def unlisted (ops : Array Oper) (L : Array Bool) : Nat := (List.range ops.size).countP fun i => !L.getD i true

theorem unlisted_set {ops : Array Oper} {L : Array Bool} {i : Nat} (hi : i < ops.size) (hs : L.size = ops.size) (hL : L.getD i true = false) : unlisted ops (L.setIfInBounds i true) + 1 = unlisted ops L := by
  unfold unlisted
  refine countP_drop i (fun j => ?_) _ List.nodup_range (by simpa using hi) (by simp [hL])
  simp only [Array.getD_eq_getD_getElem?]
  by_cases h : j = i
  · subst h; simp [hs, hi]
  · rw [Array.getElem?_setIfInBounds_ne (fun e => h e.symm)]; simp [h]

theorem all_listed {ops : Array Oper} {L : Array Bool} (hon : ∀ (j : Nat) o, ops[j]? = some o → ∀ i ∈ ons o, i < j) (hs : L.size = ops.size) (hr : Region.ready .any ops L = []) : ∀ i, i < ops.size → Lst L i := by
  intro i
  induction i using Nat.strongRecOn with
  | _ i ih =>
    intro hi
    rcases Bool.eq_false_or_eq_true (L.getD i true) with h | h
    · unfold Lst
      simp only [Array.getD_eq_getD_getElem?] at h ⊢
      have : i < L.size := by omega
      simp [this] at h ⊢; exact h
    · exfalso
      have : i ∈ Region.ready .any ops L := mem_ready.2 ⟨hi, h, ops[i], by simp [hi], fun j hj => by
        have hlt := hon i ops[i] (by simp [hi]) j hj
        exact ih j hlt (by omega)⟩
      rw [hr] at this; simp at this

theorem evOps_marks {O : Orc} : ∀ (l : List AOper) (f : Fr) (S : St) (f' : Fr) (S' : St), (∀ ao ∈ l, ∀ d, ao.dst = some d → d < markBase) → evOps O l f S = some (f', S') → marks f' = marks f := by
  intro l
  induction l with
  | nil => intro f S f' S' _ h; simp [evOps] at h; rw [h.1]
  | cons o l ih =>
    intro f S f' S' hd h
    simp only [evOps] at h
    split at h
    · rename_i f1 S1 ho
      rw [ih f1 S1 f' S' (fun ao hao => hd ao (by simp [hao])) h]
      obtain ⟨v, h1, _⟩ := evOper_float ho (g := f) (T := S) (fun _ _ => rfl) (fun _ => rfl) (fun _ => .inl rfl)
      rw [h1]
      cases hx : o.dst with
      | none => rfl
      | some d => exact marks_set f v (hd o (by simp) d hx)
    · simp at h

theorem any_ok {κ0 κs : Kap} {ro : Option Nat} {ops : Array Oper} {aos : List AOper} {F : Nat → Fr} {T : Nat → St} (hO : OrcOk P W fs O) (hY : YOk P W κ0 O.yld) (h : Ran P fs O n ops aos F T) (hle0 : κ0.le0 κs) {Q : Exit → Act → World → Prop} :
    ∀ (fuel : Nat) (L L' : Array Bool) (pd : List (Nat × Nat)) (g : Fr) (S : St) (κ : Kap) (w : World) (a : Act), Mid ops aos F T L' g S → PendOk P W ops aos κs κ L L' a pd → Eager aos L' pd → unlisted ops L = fuel → marks (F ops.size) = marks g → FrOk κ n g a → Rel W κ S w →
      (∀ κ' w' a', κs.le κ' → FrOk κ' n (F ops.size) a' → Rel W κ' (T ops.size) w' → Q .normal a' w') → wpAnyIn (FF ro) 0 P .any ops Q fuel L a w := by
  intro fuel
  have fin : ∀ (L L' : Array Bool) (pd : List (Nat × Nat)) (g : Fr) (S : St) (κ : Kap) (w : World) (a : Act), Mid ops aos F T L' g S → PendOk P W ops aos κs κ L L' a pd → Eager aos L' pd → marks (F ops.size) = marks g → FrOk κ n g a → Rel W κ S w → Region.ready .any ops L = [] →
      (∀ κ' w' a', κs.le κ' → FrOk κ' n (F ops.size) a' → Rel W κ' (T ops.size) w' → Q .normal a' w') → Q .normal a w := by
    intro L L' pd g S κ w a hm hp he hmk hf hr hrd hK
    have hallL := all_listed h.ons hp.size hrd
    have hpd : pd = [] := by
      apply List.eq_nil_iff_forall_not_mem.2
      rintro ⟨i, b⟩ hib
      obtain ⟨k, c, h1, h2, h3, h4⟩ := eager_min hp he i b hib
      obtain ⟨_, hi, _⟩ := hp.mem i b hib
      exact h4 (hallL k (by omega))
    subst hpd
    have hall : ∀ i, i < ops.size → Lst L' i := by
      intro i hi
      rcases (hp.split i).1 (hallL i hi) with h1 | ⟨b, hb⟩
      · exact h1
      · simp at hb
    have hres : κ.res = κs.res := by funext b; exact hp.res b (by simp)
    refine hK κ w a (hp.le.le hres) ⟨fun t => ?_, hf.size, hf.big, by rw [hmk]; exact hf.known, by rw [hmk]; exact hf.defers⟩ ?_
    · obtain ⟨q, hq, hg, hw⟩ := hm.slots t
      have : (F ops.size).get t = (F q).get t := frame_between h t _ _ (Nat.le_refl _) hq (fun j ao hj hd => by
        have hjs : j < ops.size := by rw [← h.len]; exact (List.getElem?_eq_some_iff.1 hj).1
        rw [← hw j ao hj hd]
        exact ⟨fun _ => hall j hjs, fun _ => hjs⟩)
      rw [this, ← hg]; exact hf.rel t
    · obtain ⟨k, hk, hS, hw⟩ := hm.heap
      have : T ops.size = T k := state_between h _ _ (Nat.le_refl _) hk (fun j ao hj hd => by
        have hjs : j < ops.size := by rw [← h.len]; exact (List.getElem?_eq_some_iff.1 hj).1
        rw [← hw j ao hj hd]
        exact ⟨fun _ => hall j hjs, fun _ => hjs⟩)
      rw [this, ← hS]; exact hr
  induction fuel with
  | zero =>
    intro L L' pd g S κ w a hm hp he hu hmk hf hr hK
    have hrd : Region.ready .any ops L = [] := by
      apply List.eq_nil_iff_forall_not_mem.2
      intro i hi
      obtain ⟨hlt, hL, _⟩ := mem_ready.1 hi
      have := unlisted_set hlt hp.size hL
      omega
    exact ⟨hrd, fin L L' pd g S κ w a hm hp he hmk hf hr hrd hK⟩
  | succ fuel ih =>
    intro L L' pd g S κ w a hm hp he hu hmk hf hr hK
    refine ⟨fun hrd => fin L L' pd g S κ w a hm hp he hmk hf hr hrd hK, fun i hi => ?_⟩
    obtain ⟨hlt, hL, oi, hoi, honL⟩ := mem_ready.1 hi
    have hfu : unlisted ops (L.setIfInBounds i true) = fuel := by have := unlisted_set hlt hp.size hL; omega
    have hnL : ¬ Lst L i := (not_lst hL).1
    have hnL' : ¬ Lst L' i := fun hl => hnL ((hp.split i).2 (.inl hl))
    have hclosed' : ∀ (j : Nat) o, ops[j]? = some o → Lst (L.setIfInBounds i true) j → ∀ k ∈ ons o, Lst (L.setIfInBounds i true) k := by
      intro j o ho hj k hk
      rw [lst_set (by rw [hp.size]; exact hlt)] at hj ⊢
      rcases hj with rfl | hj
      · rw [hoi] at ho; cases ho; exact .inr (honL k hk)
      · exact .inr (hp.closed j o ho hj k hk)
    have hnpd : ∀ b, (i, b) ∉ pd := fun b hb => hnL ((hp.split i).2 (.inr ⟨b, hb⟩))
    by_cases hpend : flB ops aos (masks ops) i = true ∧ ∃ (j : Nat) (ao : AOper), j < i ∧ aos[j]? = some ao ∧ kindOf ao.op = .eff ∧ ¬ Lst L' j
    · obtain ⟨hfl, hex⟩ := hpend
      obtain ⟨ao, hao⟩ := h.op hlt
      obtain ⟨o, fz, ho, hc⟩ := h.comp i ao hao
      rw [hoi] at ho; cases ho
      have hal : isAlloc oi = true := by simp only [flB, hoi, Bool.and_eq_true] at hfl; exact hfl.1
      obtain ⟨e, zero, t, hop, hz, haop, hd, hod, hog, haog, htn⟩ := alloc_comp hc hal
      obtain ⟨iz, z, hi1, hi2, hi3, hi4⟩ := zeroA_rel hz κ
      have hrun : (oi.semAt (FF ro).round a.eval).run P w = .ok (.value (.pointer (some ⟨w.heap.size, 0, none⟩))) (w.alloc (.cells z.cells e)) := by
        rw [Oper.semAt_eq _ _ _ (by intro c hc'; rw [hop] at hc'; cases hc')]
        simp [execOp, hop, Instr.alloc, run_zero hi1 hi2, newVar, newRow]
      unfold wpOpIn
      rw [hoi]
      simp only
      have hw : Region.wanted oi (yielded ops a.tmps) = true := by simp [Region.wanted, hog]
      rw [if_pos hw]
      refine ⟨fun _ _ => trivial, ?_⟩
      rw [hrun, Oper.uponIn_value, hod]
      have hrel := hr.hold z.cells e
      have hle := Kap.le0_hold κ w.heap.size (.cells z.cells e)
      have hjunk : g.get t = .junk := by
        obtain ⟨q, hq, hg, hw'⟩ := hm.slots t
        rw [hg, ← h.junk i ao t hfl hao hd]
        refine frame_between h t q 0 hq (Nat.zero_le _) (fun j b hb hbd => ?_)
        by_cases hji : j = i
        · subst hji
          have := hw' j ao hao hd
          exact ⟨fun hx => absurd (this.2 hx) hnL', fun hx => by omega⟩
        · exact absurd (hbd.trans hd.symm) (h.one i j ao b hfl hao hb hji)
      have hts : t < a.tmps.size := by rw [hf.size]; exact htn
      have hput : ∀ s, (a.put (some t) (.pointer (some ⟨w.heap.size, 0, none⟩))).tmps.getD s undef = if s = t then .pointer (some ⟨w.heap.size, 0, none⟩) else a.tmps.getD s undef := by
        intro s
        simp only [Act.put, Array.getD_eq_getD_getElem?]
        by_cases hs : s = t
        · subst hs; rw [Array.getElem?_setIfInBounds_self_of_lt hts]; simp
        · rw [Array.getElem?_setIfInBounds_ne (fun e => hs e.symm), if_neg hs]
      have hf' := hf.mono0 hle
      refine ih (L.setIfInBounds i true) L' ((i, w.heap.size) :: pd) g S _ _ _ hm ?_ ?_ hfu hmk ⟨fun s => ?_, by simp [Act.put, hf.size], hf'.big, hf'.known, hf'.defers⟩ hrel hK
      · refine ⟨fun j c hjc => ?_, fun j => ?_, ?_, ?_, Kap.le0_trans hp.le hle, fun c hc' => ?_, fun c hc' => ?_, hclosed', by simp [hp.size]⟩
        · rcases List.mem_cons.1 hjc with e' | hjc
          · cases e'
            refine ⟨hnL', hlt, hfl, ao, t, zero, z.cells, e, hao, hd, haop, haog, ?_, ?_, ?_, ?_, ?_⟩
            · show (if w.heap.size = w.heap.size then some (Obj.cells z.cells e) else _) = _
              rw [if_pos rfl]
            · exact hi3.arr.1
            · intro κ' j x y hx hy
              obtain ⟨iz', z', k1, k2, k3, _⟩ := zeroA_rel hz κ'
              rw [hi1] at k1; cases k1; rw [hi2] at k2; cases k2
              exact k3.arr.2 j x y hx hy
            · exact scal_arr hi4 _
            · rw [hput, if_pos rfl]
          · obtain ⟨k1, k2, k3, ao1, t1, z1, arr1, e1, k4, k5, k6, k7, k8, k9, k10, k11, k12⟩ := hp.mem j c hjc
            have hne : t1 ≠ t := by
              rintro rfl
              have hij : i ≠ j := fun e' => hnpd c (e' ▸ hjc)
              exact h.one j i ao1 ao k3 k4 hao hij (hd.trans k5.symm)
            refine ⟨k1, k2, k3, ao1, t1, z1, arr1, e1, k4, k5, k6, k7, ?_, k9, k10, k11, by rw [hput, if_neg hne]; exact k12⟩
            have hcl := (Array.getElem?_eq_some_iff.1 (hr.held.at' c _ k8).1).1
            show (if c = w.heap.size then _ else κ.res c) = _
            rw [if_neg (by omega)]; exact k8
        · rw [lst_set (by rw [hp.size]; exact hlt), hp.split j]
          constructor
          · rintro (rfl | h1 | ⟨c, hc'⟩)
            · exact .inr ⟨_, List.mem_cons_self ..⟩
            · exact .inl h1
            · exact .inr ⟨c, List.mem_cons_of_mem _ hc'⟩
          · rintro (h1 | ⟨c, hc'⟩)
            · exact .inr (.inl h1)
            · rcases List.mem_cons.1 hc' with e' | hc'
              · cases e'; exact .inl rfl
              · exact .inr (.inr ⟨c, hc'⟩)
        · rw [List.map_cons, List.nodup_cons]
          refine ⟨fun hm' => ?_, hp.nd⟩
          obtain ⟨⟨j, c⟩, hjc, hce⟩ := List.mem_map.1 hm'
          obtain ⟨_, _, _, _, _, _, _, _, _, _, _, _, k8, _⟩ := hp.mem j c hjc
          have hcl := (Array.getElem?_eq_some_iff.1 (hr.held.at' c _ k8).1).1
          simp only at hce; omega
        · rw [List.map_cons, List.nodup_cons]
          refine ⟨fun hm' => ?_, hp.nd1⟩
          obtain ⟨⟨j, c⟩, hjc, hce⟩ := List.mem_map.1 hm'
          simp only at hce; subst hce; exact hnpd c hjc
        · rw [List.map_cons, List.mem_cons, not_or] at hc'
          show (if c = w.heap.size then _ else κ.res c) = _
          rw [if_neg hc'.1]; exact hp.res c hc'.2
        · rw [List.map_cons, List.mem_cons] at hc'
          rcases hc' with rfl | hc'
          · have hnr : κ.res w.heap.size = none := by
              cases hx : κ.res w.heap.size with
              | none => rfl
              | some ob => have := (Array.getElem?_eq_some_iff.1 (hr.held.at' _ _ hx).1).1; simp at this
            by_cases hin : w.heap.size ∈ pd.map Prod.snd
            · exact hp.fresh _ hin
            · rw [← hp.res _ hin]; exact hnr
          · exact hp.fresh c hc'
      · intro j c hjc
        rcases List.mem_cons.1 hjc with e' | hjc
        · cases e'; exact hex
        · exact he j c hjc
      · rw [hput]
        split
        · rename_i hs; subst hs; rw [hjunk]; exact .junk _
        · exact hf'.rel s
    · have hready := ready_ahead h hp hm.size hoi hnL' honL (fun j b hb _ => eager_min hp he j b hb)
      have hfl : flB ops aos (masks ops) i = true → ∀ (j : Nat) a, j < i → aos[j]? = some a → kindOf a.op = .eff → Lst L' j := by
        intro hf1 j b h1 h2 h3
        apply Classical.byContradiction
        intro h4
        exact hpend ⟨hf1, j, b, h1, h2, h3, h4⟩
      obtain ⟨ao, v, S', hao, hev, hm'⟩ := mid_step h hm hready hfl
      obtain ⟨o, fz, ho, hc⟩ := h.comp i ao hao
      refine wpOp_of hO hY (Kap.le0_trans hle0 hp.le) ho hc hf hr hev (fun κ' w' a' hle hf' hr' hput => ?_)
      obtain ⟨v', hput⟩ := hput
      have hmk' : marks (F ops.size) = marks (putA g ao.dst v) := by
        rw [hmk]
        cases hd : ao.dst with
        | none => rfl
        | some d => exact (marks_set g v (Nat.lt_of_lt_of_le (compOper_dst hc d hd) hf.big)).symm
      have hp' : PendOk P W ops aos κs κ' (L.setIfInBounds i true) (L'.setIfInBounds i true) a' pd := by
        have hL1 := lst_set (L := L) (i := i) (by rw [hp.size]; exact hlt)
        have hL2 := lst_set (L := L') (i := i) (by rw [hm.size]; exact hlt)
        refine ⟨fun j c hjc => ?_, fun j => ?_, hp.nd, hp.nd1, Kap.le0_trans hp.le hle.le0, fun c hc' => by rw [hle.2.2.2.2.2]; exact hp.res c hc', hp.fresh, hclosed', by simp [hp.size]⟩
        · obtain ⟨k1, k2, k3, ao1, t1, z1, arr1, e1, k4, k5, k6, k7, k8, k9, k10, k11, k12⟩ := hp.mem j c hjc
          have hji : j ≠ i := fun e' => hnpd c (e' ▸ hjc)
          refine ⟨fun hl => ?_, k2, k3, ao1, t1, z1, arr1, e1, k4, k5, k6, k7, by rw [hle.2.2.2.2.2]; exact k8, k9, k10, k11, ?_⟩
          · rcases (hL2 j).1 hl with h1 | h1
            · exact hji h1
            · exact k1 h1
          · rw [hput, ← k12]
            cases hd : ao.dst with
            | none => rfl
            | some d =>
              have hne : d ≠ t1 := by
                rintro rfl
                exact h.one j i ao1 ao k3 k4 hao (fun e' => hji e'.symm) (hd.trans k5.symm)
              simp only [Act.put, Array.getD_eq_getD_getElem?]
              rw [Array.getElem?_setIfInBounds_ne hne]
        · rw [hL1 j, hL2 j, hp.split j, or_assoc]
      obtain ⟨L2, g2, S2, κ2, pd2, q1, q2, q3, q4, q5, q6⟩ := absorb h pd.length _ _ _ κ' pd (Nat.le_refl _) hm' hp' hmk' hf' hr'
      exact ih _ L2 pd2 g2 S2 κ2 w' a' q1 q2 q3 hfu q4 q5 q6 hK

theorem FrOk.junk1 {κ : Kap} (h : FrOk κ n f a) {t : Nat} (ht : t < n) : FrOk κ n (f.set t .junk) a ∧ marks (f.set t .junk) = marks f := by
  have hm : marks (f.set t .junk) = marks f := marks_set f _ (Nat.lt_of_lt_of_le ht h.big)
  refine ⟨⟨fun s => ?_, h.size, h.big, by rw [hm]; exact h.known, by rw [hm]; exact h.defers⟩, hm⟩
  rw [Fr.get_set]
  split
  · exact .junk _
  · exact h.rel s

theorem FrOk.junkL {κ : Kap} {aos : List AOper} (hd : ∀ ao ∈ aos, ∀ d, ao.dst = some d → d < n) : ∀ (l : List (Nat × List Nat)) (f : Fr), FrOk κ n f a → FrOk κ n (junkL l aos f) a ∧ marks (junkL l aos f) = marks f
  | [], f, h => ⟨h, rfl⟩
  | (j, []) :: r, f, h => by
    simp only [Am.junkL]
    cases hx : (aos[j]?).bind (·.dst) with
    | none => exact FrOk.junkL hd r f h
    | some t =>
      obtain ⟨ao, h1, h2⟩ := Option.bind_eq_some_iff.1 hx
      obtain ⟨k1, k2⟩ := h.junk1 (hd ao (List.mem_of_getElem? h1) t h2)
      obtain ⟨k3, k4⟩ := FrOk.junkL hd r _ k1
      exact ⟨k3, k4.trans k2⟩
  | (_, _ :: _) :: r, f, h => FrOk.junkL hd r f h

theorem junkL_keep {aos : List AOper} {t : Nat} : ∀ (l : List (Nat × List Nat)) (f : Fr), f.get t = .junk → (junkL l aos f).get t = .junk
  | [], f, h => h
  | (j, []) :: r, f, h => by
    simp only [junkL]
    apply junkL_keep r
    cases hx : (aos[j]?).bind (·.dst) with
    | none => exact h
    | some s => simp only [Fr.get_set]; split <;> first | rfl | exact h
  | (_, _ :: _) :: r, f, h => junkL_keep r f h

theorem junkL_get {aos : List AOper} {t j : Nat} : ∀ (l : List (Nat × List Nat)) (f : Fr), (j, []) ∈ l → (aos[j]?).bind (·.dst) = some t → (junkL l aos f).get t = .junk
  | [], f, h, _ => by simp at h
  | (j', []) :: r, f, h, hj => by
    simp only [junkL]
    rcases List.mem_cons.1 h with e | h
    · cases e
      rw [hj]
      apply junkL_keep
      simp [Fr.get_set]
    · exact junkL_get r _ h hj
  | (_, _ :: _) :: r, f, h, hj => by
    simp only [junkL]
    rcases List.mem_cons.1 h with e | h
    · cases e
    · exact junkL_get r _ h hj

theorem trL_facts {O : Orc} : ∀ (l : List AOper) (f : Fr) (S : St) (f' : Fr) (S' : St), evOps O l f S = some (f', S') →
    (trL O l f S).length = l.length + 1 ∧ (trL O l f S)[0]? = some (f, S) ∧ (trL O l f S)[l.length]? = some (f', S') ∧
    ∀ (i : Nat) o, l[i]? = some o → ∃ p q, (trL O l f S)[i]? = some p ∧ (trL O l f S)[i + 1]? = some q ∧ evOper O o p.1 p.2 = some q := by
  intro l
  induction l with
  | nil => intro f S f' S' h; simp [evOps] at h; obtain ⟨rfl, rfl⟩ := h; simp [trL]
  | cons o l ih =>
    intro f S f' S' h
    simp only [evOps] at h
    split at h
    · rename_i f1 S1 ho
      obtain ⟨h1, h2, h3, h4⟩ := ih f1 S1 f' S' h
      have ht : trL O (o :: l) f S = (f, S) :: trL O l f1 S1 := by simp [trL, ho]
      rw [ht]
      refine ⟨by simp [h1], rfl, by simpa using h3, fun i o' hi => ?_⟩
      cases i with
      | zero => simp at hi; subst hi; exact ⟨(f, S), (f1, S1), rfl, by simpa using h2, ho⟩
      | succ i =>
        obtain ⟨p, q, h5, h6, h7⟩ := h4 i o' (by simpa using hi)
        exact ⟨p, q, by simpa using h5, by simpa using h6, h7⟩
    · simp at h

def compOps (P : Program) (fs : List FuncId) (n : Nat) (ops : Array Oper) (h : Nat → Bool) : Option (List AOper) :=
  ops.toList.zipIdx.mapM fun (o, i) => compOper P fs n ops (h i) o

theorem compOps_get {ops : Array Oper} {h : Nat → Bool} {aos : List AOper} (hc : compOps P fs n ops h = some aos) :
    aos.length = ops.size ∧ ∀ (i : Nat) ao, aos[i]? = some ao → ∃ o, ops[i]? = some o ∧ compOper P fs n ops (h i) o = some ao := by
  obtain ⟨h1, h2⟩ := mapM_rel hc
  refine ⟨by simpa using h1, fun i ao hi => ?_⟩
  have hlt : i < ops.size := by
    have := (List.getElem?_eq_some_iff.1 hi).1; simp at h1; omega
  have hz : ops.toList.zipIdx[i]? = some (ops[i], i) := by simp [List.getElem?_zipIdx, hlt]
  exact ⟨ops[i], by simp [hlt], h2 i _ ao hz hi⟩

/-- From the model's code to the machine's. 'h' tells which composite literals of a region hold cells that never change. -/
def compC (P : Program) (fs : List FuncId) (n : Nat) (h : Nat → Nat → Bool) : Code → Option ACode
  | .skip => some .skip
  | .region id ops draw => match compOps P fs n ops (h id) with
    | some aos => if draw = true then (if drawOk ops aos = true then some (.region (some (floats ops aos)) aos) else none) else some (.region none aos)
    | none => none
  | .seq x y => match compC P fs n h x, compC P fs n h y with
    | some a, some b => some (.seq a b)
    | _, _ => none
  | .cond c x y => match argA c, compC P fs n h x, compC P fs n h y with
    | some c, some a, some b => some (.cond c a b)
    | _, _, _ => none
  | .block id b => (compC P fs n h b).map (.block id)
  | .loop b => (compC P fs n h b).map .loop
  | .rangeFunc g ps asn b => match argA g, compC P fs n h asn, compC P fs n h b with
    | some g, some x, some y => if x.plain = true ∧ y.plain = true ∧ ps.all (· < n) = true then some (.range g ps.toList x y) else none
    | _, _, _ => none
  | .exit id => some (.exit id)
  | .ret => some .ret
  | _ => none

theorem ops_ok {κ0 : Kap} {ro : Option Nat} (hO : OrcOk P W fs O) (hY : YOk P W κ0 O.yld) {ops : Array Oper} {Q : Exit → Act → World → Prop} : ∀ (l : List Nat) (aos : List AOper), l.length = aos.length →
    (∀ (k : Nat) i ao, l[k]? = some i → aos[k]? = some ao → ∃ o fz, ops[i]? = some o ∧ compOper P fs n ops fz o = some ao) →
    ∀ (f : Fr) (S : St) (κ : Kap) (w : World) (a : Act) (f' : Fr) (S' : St), evOps O aos f S = some (f', S') → κ0.le0 κ → FrOk κ n f a → Rel W κ S w →
      (∀ κ' w' a', κ.le κ' → FrOk κ' n f' a' → Rel W κ' S' w' → Q .normal a' w') → wpOpsIn (FF ro) 0 P ops Q l a w := by
  intro l
  induction l with
  | nil =>
    intro aos hl _ f S κ w a f' S' hv hle0 hf hr hK
    have := List.eq_nil_of_length_eq_zero hl.symm; subst this
    simp [evOps] at hv; obtain ⟨rfl, rfl⟩ := hv
    exact hK κ w a (Kap.le_refl κ) hf hr
  | cons i l ih =>
    intro aos hl hc f S κ w a f' S' hv hle0 hf hr hK
    cases aos with
    | nil => simp at hl
    | cons ao aos =>
      obtain ⟨o, fz, ho, hco⟩ := hc 0 i ao rfl rfl
      simp only [evOps] at hv
      split at hv
      · rename_i f1 S1 h1
        rw [wpOpsIn_cons]
        refine wpOp_of hO hY hle0 ho hco hf hr h1 (fun κ' w' a' hle hf' hr' _ => ?_)
        exact ih aos (by simpa using hl) (fun k i' ao' h1 h2 => hc (k + 1) i' ao' (by simpa using h1) (by simpa using h2)) f1 S1 κ' w' a' f' S' hv (Kap.le0_trans hle0 hle.le0) hf' hr'
          (fun κ2 w2 a2 h1 h2 h3 => hK κ2 w2 a2 (Kap.le_trans hle h1) h2 h3)
      · simp at hv

theorem floats_mem {ops : Array Oper} {aos : List AOper} {i j : Nat} {a b : AOper} (ha : aos[i]? = some a) (hb : aos[j]? = some b) (hka : kindOf a.op = .read) (hkb : kindOf b.op = .eff)
    (hm : (if i < j then ((masks ops).getD j 0).testBit i else ((masks ops).getD i 0).testBit j) = false) : ∃ l, (i, l) ∈ floats ops aos ∧ j ∈ l := by
  generalize hl : (aos.zipIdx.filterMap fun (b, j) => if kindOf b.op = .eff ∧ (!(if i < j then ((masks ops).getD j 0).testBit i else ((masks ops).getD i 0).testBit j)) = true then some j else none) = l
  have hj : j ∈ l := by
    rw [← hl]
    refine List.mem_filterMap.2 ⟨(b, j), zipIdx_mem hb, ?_⟩
    simp only [hkb, hm, Bool.not_false, and_self, if_true]
  refine ⟨l, ?_, hj⟩
  unfold floats
  refine List.mem_append.2 (.inl ?_)
  refine List.mem_filterMap.2 ⟨(a, i), zipIdx_mem ha, ?_⟩
  simp only [hka, if_true]
  rw [hl]
  cases l with
  | nil => simp at hj
  | cons x l => rfl


/-- A loop's body, so many times, and then what stands behind it: in a fence. -/
def roundsIn (F : Fence) (m : Nat) (P : Program) (c : Code) (Q : Exit → Act → World → Prop) : Nat → Act → World → Prop
  | 0 => fun _ _ => False
  | n + 1 => fun a w => c.wpIn F m P (Exit.then (roundsIn F m P c Q n) Q) a w

theorem wpIn_loop_rounds {F : Fence} {m : Nat} {c : Code} {Q : Exit → Act → World → Prop} (n : Nat) {a : Act} {w : World} (h : roundsIn F m P c Q n a w) : (Code.loop c).wpIn F m P Q a w := by
  intro b k cs hro hb hr
  have key : ∀ n a w, roundsIn F m P c Q n a w →
      ∃ e a' w', Q e a' w' ∧ ArrivesIn (Machine.fenced P F) P (lone (b.atR a (.code c :: .inLoop c :: k)) cs w) b k cs e a' w' := by
    intro n
    induction n with
    | zero => intro a w h; exact h.elim
    | succ n ih =>
      intro a w h
      obtain ⟨e, a₁, w₁, hq, harr⟩ := h b (.inLoop c :: k) cs hro hb hr
      cases e with
      | normal =>
        obtain ⟨e₂, a₂, w₂, hq₂, harr₂⟩ := ih a₁ w₁ hq
        exact ⟨e₂, a₂, w₂, hq₂, .of_steps (StepsIn.trans harr (.one (fenced_calm hb hr rfl) stepR_inLoop)) harr₂⟩
      | exit id => exact ⟨_, a₁, w₁, hq, .pass (x := .inLoop c) rfl (fun _ _ => .inl (by simp)) harr⟩
      | goto l => exact ⟨_, a₁, w₁, hq, .pass (x := .inLoop c) rfl (fun _ _ => .inl (by simp)) harr⟩
      | ret => exact ⟨_, a₁, w₁, hq, .pass (x := .inLoop c) rfl (fun _ _ => .inl (by simp)) harr⟩
      | panic ch => exact ⟨_, a₁, w₁, hq, .pass (x := .inLoop c) rfl (fun _ _ => .inl (by simp)) harr⟩
      | outgrown => exact ⟨_, a₁, w₁, hq, .pass (x := .inLoop c) rfl (fun _ _ => .inl (by simp)) harr⟩
  obtain ⟨e, a', w', hq, harr⟩ := key n a w h
  exact ⟨e, a', w', hq, .of_steps (.one (fenced_calm hb hr rfl) stepR_loop) harr⟩

/-- The machine's code stands for the model's. -/
theorem code_ok {κ0 : Kap} (hO : OrcOk P W fs O) (hI : OrcIOk P W O) (hY : YOk P W κ0 O.yld) (hmix : P.follows .mixedOrders = true) (k : Nat) (h : Nat → Nat → Bool) : ∀ (c : Code) (ac : ACode), compC P fs n h c = some ac →
    ∀ (ro : Option Nat), (ro = none ∨ ac.plain = true) → ∀ (f : Fr) (S : St) (κ : Kap) (w : World) (a : Act) (e : Ex) (f' : Fr) (S' : St), evC O k ac f S = some (e, f', S') → κ0.le0 κ → FrOk κ n f a → Rel W κ S w →
      ∀ Q : Exit → Act → World → Prop, (∀ κ' w' a', κ.le κ' → FrOk κ' n f' a' → Rel W κ' S' w' → Q e.conc a' w') → c.wpIn (FF ro) 0 P Q a w := by
  intro c
  induction c with
  | skip =>
    intro ac hc ro hpl f S κ w a e f' S' hv hle0 hf hr Q hQ
    simp only [compC, Option.some.injEq] at hc; subst hc
    simp only [evC, Option.some.injEq, Prod.mk.injEq] at hv
    obtain ⟨rfl, rfl, rfl⟩ := hv
    exact wpIn_skip (hQ κ w a (Kap.le_refl κ) hf hr)
  | region id ops draw =>
    intro ac hc ro hpl f S κ w a e f' S' hv hle0 hf hr Q hQ
    simp only [compC] at hc
    split at hc
    · rename_i aos hao
      obtain ⟨hlen, hget⟩ := compOps_get hao
      by_cases hdr : draw = true
      · subst hdr
        rw [if_pos rfl] at hc
        split at hc
        · rename_i hok
          simp only [Option.some.injEq] at hc
          subst hc
          simp only [evC] at hv
          split at hv
          · rename_i f1 S1 h1
            split at hv
            · rename_i hst
              simp only [Option.some.injEq, Prod.mk.injEq] at hv
              obtain ⟨rfl, rfl, rfl⟩ := hv
              have hdst : ∀ ao ∈ aos, ∀ d, ao.dst = some d → d < n := fun ao hao d hd => by
                obtain ⟨i, hi⟩ := List.getElem?_of_mem hao
                obtain ⟨o, _, hco⟩ := hget i ao hi
                exact compOper_dst hco d hd
              have hjunk : ∀ (j : Nat) b t, flB ops aos (masks ops) j = true → aos[j]? = some b → b.dst = some t → (junkA (some (floats ops aos)) aos f).get t = .junk := by
                intro j b t hj hb ht
                refine junkL_get _ _ (j := j) ?_ (by rw [hb]; exact ht)
                unfold floats
                refine List.mem_append.2 (.inr (List.mem_filterMap.2 ⟨(b, j), zipIdx_mem hb, ?_⟩))
                simp only [hj, if_true]
              obtain ⟨hf', hmk'⟩ := FrOk.junkL hdst (floats ops aos) f hf
              change FrOk κ n (junkA (some (floats ops aos)) aos f) a at hf'
              change marks (junkA (some (floats ops aos)) aos f) = marks f at hmk'
              generalize junkA (some (floats ops aos)) aos f = f at h1 hst hjunk hf' hmk'
              replace hf := hf'
              obtain ⟨t1, t2, t3, t4⟩ := trL_facts _ _ _ _ _ h1
              simp only [drawOk, Bool.and_eq_true, List.all_eq_true] at hok
              let F : Nat → Fr := fun i => ((trL O aos f S).getD i (f, S)).1
              let T : Nat → St := fun i => ((trL O aos f S).getD i (f, S)).2
              have hFT : ∀ (i : Nat) p, (trL O aos f S)[i]? = some p → (F i, T i) = p := by
                intro i p hp
                simp only [F, T, List.getD_eq_getElem?_getD, hp, Option.getD_some]
              have hran : Ran P fs O n ops aos F T := by
                refine ⟨hlen, fun i ao hi => ?_, fun i ao hi => ?_, fun j o ho i hi => ?_, fun i j x y hij hx hy hcf => ?_, fun j k b c hj hb hc' hkj => ?_, fun j k i x hj hks hbit hij hx hke => ?_, fun j b t hj hb ht => ?_, fun i j x y hx hy hkx hky hm => ?_⟩
                · obtain ⟨o, ho, hco⟩ := hget i ao hi
                  exact ⟨o, _, ho, hco⟩
                · obtain ⟨p, q, h5, h6, h7⟩ := t4 i ao hi
                  have e1 := hFT i p h5
                  have e2 := hFT (i + 1) q h6
                  rw [← e1] at h7; rw [e2]; exact h7
                · have := hok.1.1 (o, j) (zipIdx_mem (by simpa using ho))
                  simpa using this i hi
                · have := hok.1.2 (y, j) (zipIdx_mem hy) (x, i) (zipIdx_mem hx)
                  simp only [hij, hcf, decide_true, Bool.not_true, Bool.false_or, Bool.or_eq_true, Bool.and_eq_true, Bool.not_eq_true'] at this
                  exact this
                · have := hok.2 (b, j) (zipIdx_mem hb)
                  simp only [hj, Bool.not_true, Bool.false_or, List.all_eq_true] at this
                  have := this (c, k) (zipIdx_mem hc')
                  simp only [Bool.and_eq_true, Bool.or_eq_true, beq_iff_eq, bne_iff_ne, ne_eq] at this
                  exact this.1.resolve_left hkj
                · obtain ⟨b, hb⟩ : ∃ b, aos[j]? = some b := by
                    cases hb : aos[j]? with
                    | some b => exact ⟨b, rfl⟩
                    | none =>
                      have h2 := List.getElem?_eq_none_iff.1 hb
                      have : ops[j]? = none := by simp; omega
                      simp [flB, this] at hj
                  have := hok.2 (b, j) (zipIdx_mem hb)
                  simp only [hj, Bool.not_true, Bool.false_or, List.all_eq_true] at this
                  obtain ⟨c, hc'⟩ : ∃ c, aos[k]? = some c := ⟨_, List.getElem?_eq_getElem (by omega)⟩
                  have := this (c, k) (zipIdx_mem hc')
                  simp only [Bool.and_eq_true, Bool.or_eq_true, List.all_eq_true, hbit, Bool.not_true, Bool.false_or, Bool.false_eq_true, false_or] at this
                  have := this.2 (x, i) (zipIdx_mem hx)
                  simpa [hij, hke] using this
                · have h0 := hFT 0 _ t2
                  have hF0 : F 0 = f := congrArg Prod.fst h0
                  rw [hF0]; exact hjunk j b t hj hb ht
                · obtain ⟨l, hl, hjl⟩ := floats_mem hx hy hkx hky hm
                  have hst' : ((floats ops aos).all fun (i, es) => es.all fun e => match aos[i]?, (trL O aos f S)[i]?, (trL O aos f S)[if i < e then e + 1 else e]? with
                      | some o, some (fi, Si), some (_, Sj) => sameRead O o fi Si Sj
                      | _, _, _ => false) = true := by
                    cases hfl : floats ops aos with
                    | nil => rw [hfl] at hl; simp at hl
                    | cons x xs => rw [hfl] at hst; exact hst
                  rw [List.all_eq_true] at hst'
                  have h5 := hst' (i, l) hl
                  simp only [List.all_eq_true] at h5
                  have h6 := h5 j hjl
                  obtain ⟨p, _, hp, _, _⟩ := t4 i x hx
                  have hjs : j < aos.length := (List.getElem?_eq_some_iff.1 hy).1
                  have hq : ∃ q, (trL O aos f S)[if i < j then j + 1 else j]? = some q := ⟨_, List.getElem?_eq_getElem (by rw [t1]; split <;> omega)⟩
                  obtain ⟨q, hq⟩ := hq
                  rw [hx, hp, hq] at h6
                  simp only at h6
                  have e1 := hFT i p hp
                  have e2 := hFT _ q hq
                  have e3 : F i = p.1 := by rw [← e1]
                  have e4 : T i = p.2 := by rw [← e1]
                  have e5 : T (if i < j then j + 1 else j) = q.2 := by rw [← e2]
                  have e6 : (if i < j then T (j + 1) else T j) = q.2 := by rw [← e5]; split <;> rfl
                  rw [e3, e4, e6]; exact h6
              have h0 := hFT 0 _ t2
              have hN := hFT _ _ t3
              rw [hlen] at hN
              have hF0 : F 0 = f := congrArg Prod.fst h0
              have hT0 : T 0 = S := congrArg Prod.snd h0
              have hFN : F ops.size = f1 := congrArg Prod.fst hN
              have hTN : T ops.size = S1 := congrArg Prod.snd hN
              refine wpIn_region_any hmix ?_
              have hnl : ∀ i, ¬ Lst (Array.replicate ops.size false) i := by
                intro i hi
                simp only [Lst, Array.getD_eq_getD_getElem?, Array.getElem?_replicate] at hi
                split at hi <;> simp at hi
              have hmid : Mid ops aos F T (Array.replicate ops.size false) f S := by
                refine ⟨by simp, fun j o ho hl => absurd hl (hnl j), fun t => ⟨0, Nat.zero_le _, by rw [hF0], fun j ao _ _ => ⟨fun hl => absurd hl (hnl j), fun hx => by omega⟩⟩,
                  ⟨0, Nat.zero_le _, hT0.symm, fun j ao _ _ => ⟨fun hl => absurd hl (hnl j), fun hx => by omega⟩⟩, fun j _ hl => absurd hl (hnl j)⟩
              refine any_ok hO hY hran hle0 ops.size _ _ [] f S κ _ a hmid ⟨fun i b hb => by simp at hb, fun i => by simp, by simp, by simp, Kap.le0_refl κ, fun _ _ => rfl, fun b hb => by simp at hb, fun j o _ hl => absurd hl (hnl j), by simp⟩
                (fun i b hb => by simp at hb) ?_ (by rw [hFN]; exact evOps_marks _ _ _ _ _ (fun ao hao d hd => Nat.lt_of_lt_of_le (hdst ao hao d hd) hf.big) h1) hf (hr.drawn _) (fun κ' w' a' h1 h2 h3 => hQ κ' w' a' h1 (by rw [hFN] at h2; exact h2) (by rw [hTN] at h3; exact h3))
              unfold unlisted
              have : (List.range ops.size).countP (fun i => !(Array.replicate ops.size false).getD i true) = (List.range ops.size).length := by
                rw [List.countP_eq_length]
                intro i hi
                have : i < ops.size := by simpa using hi
                simp [Array.getD_eq_getD_getElem?, this]
              rw [this]; simp
            · simp at hv
          · simp at hv
        · simp at hc
      · simp only [hdr, Bool.false_eq_true, if_false, Option.some.injEq] at hc
        subst hc
        have hdr' : draw = false := by simpa using hdr
        subst hdr'
        simp only [evC] at hv
        split at hv
        · rename_i f1 S1 h1
          simp only [stable, if_true, Option.some.injEq, Prod.mk.injEq] at hv
          obtain ⟨rfl, rfl, rfl⟩ := hv
          refine wpIn_region (ops_ok hO hY (List.range ops.size) aos (by simp [hlen]) ?_ f S κ w a f1 S1 h1 hle0 hf hr hQ)
          intro q i ao hi hao'
          have : i = q := by
            rw [List.getElem?_range] at hi
            · simpa using hi.symm
            · have := (List.getElem?_eq_some_iff.1 hi).1; simpa using this
          subst this
          obtain ⟨o, ho, hco⟩ := hget i ao hao'
          exact ⟨o, _, ho, hco⟩
        · simp at hv
    · simp at hc
  | seq x y ihx ihy =>
    intro ac hc ro hpl f S κ w a e f' S' hv hle0 hf hr Q hQ
    simp only [compC] at hc
    split at hc
    · rename_i ax ay hx hy
      simp only [Option.some.injEq] at hc; subst hc
      simp only [evC] at hv
      refine wpIn_seq ?_
      split at hv
      · rename_i f1 S1 h1
        refine ihx ax hx ro (hpl.imp id fun h => ((Bool.and_eq_true _ _).mp h).1) f S κ w a .normal f1 S1 h1 hle0 hf hr _ (fun κ' w' a' hle hf' hr' => ?_)
        exact ihy ay hy ro (hpl.imp id fun h => ((Bool.and_eq_true _ _).mp h).2) f1 S1 κ' w' a' e f' S' hv (Kap.le0_trans hle0 hle.le0) hf' hr' Q (fun κ2 w2 a2 h1 h2 h3 => hQ κ2 w2 a2 (Kap.le_trans hle h1) h2 h3)
      · rename_i hne
        refine ihx ax hx ro (hpl.imp id fun h => ((Bool.and_eq_true _ _).mp h).1) f S κ w a e f' S' hv hle0 hf hr _ (fun κ' w' a' hle hf' hr' => ?_)
        have := hQ κ' w' a' hle hf' hr'
        cases e with
        | normal => exact absurd hv (hne f' S')
        | exit id => exact this
        | ret => exact this
    · simp at hc
  | cond c x y ihx ihy =>
    intro ac hc ro hpl f S κ w a e f' S' hv hle0 hf hr Q hQ
    simp only [compC] at hc
    split at hc
    · rename_i acnd ax ay hcn hx hy
      simp only [Option.some.injEq] at hc; subst hc
      simp only [evC] at hv
      have r := argA_rel (κ := κ) hcn hf.rel
      split at hv
      · rename_i b hb
        rw [hb] at r
        have hev : a.eval c = .bool b := by
          generalize a.eval c = u at r
          cases r; rfl
        refine wpIn_cond hev ?_
        cases b with
        | true => exact ihx ax hx ro (hpl.imp id fun h => ((Bool.and_eq_true _ _).mp h).1) f S κ w a e f' S' (by simpa using hv) hle0 hf hr Q hQ
        | false => exact ihy ay hy ro (hpl.imp id fun h => ((Bool.and_eq_true _ _).mp h).2) f S κ w a e f' S' (by simpa using hv) hle0 hf hr Q hQ
      · simp at hv
    · simp at hc
  | block id b ih =>
    intro ac hc ro hpl f S κ w a e f' S' hv hle0 hf hr Q hQ
    simp only [compC, Option.map_eq_some_iff] at hc
    obtain ⟨ab, hb, rfl⟩ := hc
    simp only [evC] at hv
    refine wpIn_block ?_
    split at hv
    · rename_i id' f1 S1 h1
      simp only [Option.some.injEq, Prod.mk.injEq] at hv
      obtain ⟨he, rfl, rfl⟩ := hv
      refine ih ab hb ro hpl f S κ w a (.exit id') f1 S1 h1 hle0 hf hr _ (fun κ' w' a' hle hf' hr' => ?_)
      have := hQ κ' w' a' hle hf' hr'
      simp only [Ex.conc, Exit.inBlock]
      by_cases hid : id' = id
      · rw [if_pos hid] at he ⊢; subst he; exact this
      · rw [if_neg hid] at he ⊢; subst he; exact this
    · rename_i hne
      refine ih ab hb ro hpl f S κ w a e f' S' hv hle0 hf hr _ (fun κ' w' a' hle hf' hr' => ?_)
      have := hQ κ' w' a' hle hf' hr'
      cases e with
      | normal => exact this
      | exit id' => exact absurd hv (hne id' f' S')
      | ret => exact this
  | loop b ih =>
    intro ac hc ro hpl f S κ w a e f' S' hv hle0 hf hr Q hQ
    simp only [compC, Option.map_eq_some_iff] at hc
    obtain ⟨ab, hb, rfl⟩ := hc
    simp only [evC] at hv
    have key : ∀ (m : Nat) (f : Fr) (S : St) (κ1 : Kap) (w : World) (a : Act), iter (evC O k ab) m f S = some (e, f', S') → κ.le κ1 → FrOk κ1 n f a → Rel W κ1 S w → roundsIn (FF ro) 0 P b Q m a w := by
      intro m
      induction m with
      | zero => intro f S κ1 w a hv; simp [iter] at hv
      | succ m ihm =>
        intro f S κ1 w a hv hle1 hf hr
        simp only [iter] at hv
        show b.wpIn (FF ro) 0 P (Exit.then (roundsIn (FF ro) 0 P b Q m) Q) a w
        split at hv
        · rename_i f1 S1 h1
          exact ih ab hb ro hpl f S κ1 w a .normal f1 S1 h1 (Kap.le0_trans hle0 hle1.le0) hf hr _ (fun κ' w' a' hle hf' hr' => ihm f1 S1 κ' w' a' hv (Kap.le_trans hle1 hle) hf' hr')
        · rename_i hne
          refine ih ab hb ro hpl f S κ1 w a e f' S' hv (Kap.le0_trans hle0 hle1.le0) hf hr _ (fun κ' w' a' hle hf' hr' => ?_)
          have := hQ κ' w' a' (Kap.le_trans hle1 hle) hf' hr'
          cases e with
          | normal => exact absurd hv (hne f' S')
          | exit id => exact this
          | ret => exact this
    exact wpIn_loop_rounds k (key k f S κ w a hv (Kap.le_refl κ) hf hr)
  | exit id =>
    intro ac hc ro hpl f S κ w a e f' S' hv hle0 hf hr Q hQ
    simp only [compC, Option.some.injEq] at hc; subst hc
    simp only [evC, Option.some.injEq, Prod.mk.injEq] at hv
    obtain ⟨rfl, rfl, rfl⟩ := hv
    exact wpIn_exit (hQ κ w a (Kap.le_refl κ) hf hr)
  | ret =>
    intro ac hc ro hpl f S κ w a e f' S' hv hle0 hf hr Q hQ
    simp only [compC, Option.some.injEq] at hc; subst hc
    simp only [evC, Option.some.injEq, Prod.mk.injEq] at hv
    obtain ⟨rfl, rfl, rfl⟩ := hv
    exact wpIn_ret (hQ κ w a (Kap.le_refl κ) hf hr)
  | rangeFunc g ps asn b iha ihb =>
    intro ac hc ro hpl f S κ w a e f' S' hv hle0 hf hr Q hQ
    simp only [compC] at hc
    split at hc
    · rename_i ag ax ay hg hx hy
      split at hc
      · rename_i hcnd
        simp only [Option.some.injEq] at hc; subst hc
        have hro : ro = none := by
          rcases hpl with h | h
          · exact h
          · simp [ACode.plain] at h
        subst hro
        simp only [evC] at hv
        split at hv
        · rename_i kf first captured he hm
          exact range_ok hI hcnd.2.2 (argA_rel (κ := κ) hg hf.rel)
            (fun ro f S κ' w a e f' S' hv hle hf hr Q hQ => iha ax hx ro (.inr hcnd.1) f S κ' w a e f' S' hv (Kap.le0_trans hle0 hle) hf hr Q hQ)
            (fun ro f S κ' w a e f' S' hv hle hf hr Q hQ => ihb ay hy ro (.inr hcnd.2.1) f S κ' w a e f' S' hv (Kap.le0_trans hle0 hle) hf hr Q hQ)
            he hm hv hf hr hQ
        · simp at hv
      · simp at hc
    · simp at hc
  | _ => intro ac hc; simp [compC] at hc


def compR (P : Program) (n : Nat) : ResultVar → Option (Nat ⊕ (Nat × Option Nat))
  | .tmp t => if t < n then some (.inl t) else none
  | .cell t ty => (nOf P ty).map fun m => .inr (t, m)

/-- From the model's function to the machine's. -/
def compF (P : Program) (fs : List FuncId) (h : Nat → Nat → Bool) (fn : Func) : Option AFun :=
  match fn.body with
  | none => none
  | some c =>
    if (fn.name == "runtime.NumGoroutine") = true then none else
    match compC P fs fn.ntmps h c, fn.results.toList.mapM (compR P fn.ntmps) with
    | some b, some rs => if fn.params.size + fn.nfree ≤ fn.ntmps ∧ fn.ntmps ≤ markBase then some ⟨fn.params.size + fn.nfree, rs, b, !b.plain⟩ else none
    | _, _ => none

theorem junkA_marks {aos : List AOper} (hd : ∀ ao ∈ aos, ∀ d, ao.dst = some d → d < markBase) (dr : Option (List (Nat × List Nat))) (f : Fr) : marks (junkA dr aos f) = marks f := by
  cases dr with
  | none => rfl
  | some l =>
    show marks (junkL l aos f) = marks f
    induction l generalizing f with
    | nil => rfl
    | cons p l ih =>
      obtain ⟨j, es⟩ := p
      cases es with
      | nil =>
        simp only [junkL]
        rw [ih]
        cases hx : (aos[j]?).bind (·.dst) with
        | none => rfl
        | some t =>
          obtain ⟨ao, h1, h2⟩ := Option.bind_eq_some_iff.1 hx
          exact marks_set f _ (hd ao (List.mem_of_getElem? h1) t h2)
      | cons x xs => simp only [junkL]; exact ih f

/-- Code without a loop over a function leaves no mark. -/
theorem evC_marks {k : Nat} {h : Nat → Nat → Bool} (hn : n ≤ markBase) : ∀ (c : Code) (ac : ACode), compC P fs n h c = some ac → ac.plain = true → ∀ (f : Fr) (S : St) (e : Ex) (f' : Fr) (S' : St),
    evC O k ac f S = some (e, f', S') → marks f' = marks f := by
  intro c
  induction c with
  | skip => intro ac hc _ f S e f' S' hv; simp only [compC, Option.some.injEq] at hc; subst hc; simp [evC] at hv; rw [hv.2.1]
  | region id ops draw =>
    intro ac hc _ f S e f' S' hv
    simp only [compC] at hc
    split at hc
    · rename_i aos hao
      obtain ⟨_, hget⟩ := compOps_get hao
      have hd : ∀ ao ∈ aos, ∀ d, ao.dst = some d → d < markBase := fun ao hm d hd => by
        obtain ⟨i, hi⟩ := List.getElem?_of_mem hm
        obtain ⟨o, _, hco⟩ := hget i ao hi
        exact Nat.lt_of_lt_of_le (compOper_dst hco d hd) hn
      have key : ∀ dr, evC O k (.region dr aos) f S = some (e, f', S') → marks f' = marks f := by
        intro dr hv
        simp only [evC] at hv
        split at hv
        · rename_i f1 S1 h1
          split at hv
          · simp only [Option.some.injEq, Prod.mk.injEq] at hv
            obtain ⟨_, rfl, rfl⟩ := hv
            rw [evOps_marks _ _ _ _ _ hd h1, junkA_marks hd]
          · simp at hv
        · simp at hv
      split at hc
      · split at hc
        · simp only [Option.some.injEq] at hc; subst hc; exact key _ hv
        · simp at hc
      · simp only [Option.some.injEq] at hc; subst hc; exact key _ hv
    · simp at hc
  | seq x y ihx ihy =>
    intro ac hc hp f S e f' S' hv
    simp only [compC] at hc
    split at hc
    · rename_i ax ay hx hy
      simp only [Option.some.injEq] at hc; subst hc
      simp only [ACode.plain, Bool.and_eq_true] at hp
      simp only [evC] at hv
      split at hv
      · rename_i f1 S1 h1
        rw [ihy ay hy hp.2 f1 S1 e f' S' hv, ihx ax hx hp.1 f S _ f1 S1 h1]
      · exact ihx ax hx hp.1 f S e f' S' hv
    · simp at hc
  | cond c x y ihx ihy =>
    intro ac hc hp f S e f' S' hv
    simp only [compC] at hc
    split at hc
    · rename_i acnd ax ay _ hx hy
      simp only [Option.some.injEq] at hc; subst hc
      simp only [ACode.plain, Bool.and_eq_true] at hp
      simp only [evC] at hv
      split at hv
      · split at hv
        · exact ihx ax hx hp.1 f S e f' S' hv
        · exact ihy ay hy hp.2 f S e f' S' hv
      · simp at hv
    · simp at hc
  | block id b ih =>
    intro ac hc hp f S e f' S' hv
    simp only [compC, Option.map_eq_some_iff] at hc
    obtain ⟨ab, hb, rfl⟩ := hc
    simp only [evC] at hv
    split at hv
    · rename_i id' f1 S1 h1
      simp only [Option.some.injEq, Prod.mk.injEq] at hv
      obtain ⟨_, rfl, rfl⟩ := hv
      exact ih ab hb hp f S _ f1 S1 h1
    · exact ih ab hb hp f S e f' S' hv
  | loop b ih =>
    intro ac hc hp f S e f' S' hv
    simp only [compC, Option.map_eq_some_iff] at hc
    obtain ⟨ab, hb, rfl⟩ := hc
    simp only [evC] at hv
    have key : ∀ (m : Nat) (f : Fr) (S : St), iter (evC O k ab) m f S = some (e, f', S') → marks f' = marks f := by
      intro m
      induction m with
      | zero => intro f S hv; simp [iter] at hv
      | succ m ihm =>
        intro f S hv
        simp only [iter] at hv
        split at hv
        · rename_i f1 S1 h1
          rw [ihm f1 S1 hv, ih ab hb hp f S _ f1 S1 h1]
        · exact ih ab hb hp f S e f' S' hv
    exact key k f S hv
  | rangeFunc g ps asn b iha ihb =>
    intro ac hc hp
    simp only [compC] at hc
    split at hc
    · split at hc
      · simp only [Option.some.injEq] at hc; subst hc; simp [ACode.plain] at hp
      · simp at hc
    · simp at hc
  | exit id => intro ac hc _ f S e f' S' hv; simp only [compC, Option.some.injEq] at hc; subst hc; simp [evC] at hv; rw [hv.2.1]
  | ret => intro ac hc _ f S e f' S' hv; simp only [compC, Option.some.injEq] at hc; subst hc; simp [evC] at hv; rw [hv.2.1]
  | _ => intro ac hc; simp [compC] at hc

end Am
