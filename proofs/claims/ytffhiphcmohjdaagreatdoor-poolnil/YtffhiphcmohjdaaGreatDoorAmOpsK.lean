/- An operation that was translated stands for the model's: maps. -/
import Derived.Test.YtffhiphcmohjdaaGreatDoorAmOpsG
import Derived.Test.YtffhiphcmohjdaaGreatDoorAmMap
set_option linter.all false
namespace Am
open Go Go.RowKit

variable {P : Program} {W : World} {κ : Kap} {S : St} {w : World} {f : Fr} {a : Act} {fs : List FuncId} {fz : Bool}

theorem flat_of {k : AVal} {k' : Value} (h : VRel κ k k') (hf : flatA k = true) : flatV k k' := by
  cases h <;> simp [flatA] at hf
  · exact ⟨rfl, rfl⟩
  · assumption

theorem flatV.rel {k : AVal} {k' : Value} (h : flatV k k') (κ : Kap) : VRel κ k k' := by
  cases k <;> cases k' <;> simp only [flatV] at h
  · obtain ⟨rfl, rfl⟩ := h; exact .int _ _
  · exact .str _ _ h

/-- A key's type. -/
def keyT (s : Bool) (d : TypeDesc) : Prop := (∃ k, d = .int k ∧ s = false) ∨ (d = .string ∧ s = true)

theorem key_flat {s : Bool} {k : AVal} (h : keyA s k = true) : flatA k = true := by cases k <;> simp [keyA, flatA] at h ⊢

theorem bytes_beq (a b : ByteArray) : (a == b) = true ↔ a.data.toList = b.data.toList := by
  have e : (a == b) = (a.data == b.data) := rfl
  rw [e, beq_iff_eq]
  constructor
  · intro h; rw [h]
  · intro h; exact Array.ext' h

theorem sameNow_of {s : Bool} {d : TypeDesc} (hd : keyT s d) {k e : AVal} {k' e' : Value} (hs : keyA s k = true) (hk : flatV k k') (he : flatV e e') {b : Bool} (hb : sameK k e = some b) :
    Instr.sameNow d k' e' = some b := by
  cases k <;> cases k' <;> simp only [flatV] at hk <;> cases e <;> simp only [sameK] at hb <;> try (simp at hb; done)
  · obtain ⟨rfl, rfl⟩ := hk
    cases e' <;> simp only [flatV] at he
    obtain ⟨rfl, rfl⟩ := he
    simp only [keyA, Bool.not_eq_true'] at hs
    rcases hd with ⟨q, rfl, _⟩ | ⟨rfl, h⟩
    · exact hb
    · rw [h] at hs; simp at hs
  · cases e' <;> simp only [flatV] at he
    simp only [keyA] at hs
    rcases hd with ⟨q, rfl, h⟩ | ⟨rfl, _⟩
    · rw [h] at hs; simp at hs
    · subst hk; subst he
      rename_i b1 b2 _
      simp only [Option.some.injEq] at hb
      simp only [Instr.sameNow, Option.some.injEq]
      rw [← hb, Bool.eq_iff_iff, bytes_beq, beq_iff_eq]

theorem sameK_eq {k e : AVal} (h : sameK k e = some true) : k = e := by
  cases k <;> cases e <;> simp only [sameK] at h <;> try (simp at h; done)
  · split at h
    · rename_i hk; simp at h; rw [hk, h]
    · simp at h
  · simp at h; rw [h]

theorem find_of {s : Bool} {d : TypeDesc} (hd : keyT s d) {k : AVal} {k' : Value} (hs : keyA s k = true) (hk : flatV k k') : ∀ (es : List (AVal × AVal)) (xs : List MapEntry) (i : Nat) {r : Option (Nat × AVal)}, es.length = xs.length →
    (∀ (i : Nat) e x, es[i]? = some e → xs[i]? = some x → flatV e.1 x.key ∧ flatV e.2 x.val) → mfind k es i = some r →
    (r = none ∧ Instr.findNow d k' xs i = some none) ∨ ∃ j v v', r = some (i + j, v) ∧ Instr.findNow d k' xs i = some (some (i + j, v')) ∧ flatV v v' ∧ j < es.length ∧ ∃ x, xs[j]? = some x ∧ flatV k x.key
  | [], [], i, r, _, _, h => by simp only [mfind, Option.some.injEq] at h; exact .inl ⟨h.symm, rfl⟩
  | e :: es, x :: xs, i, r, hl, hr, h => by
    obtain ⟨h1, h2⟩ := hr 0 e x rfl rfl
    simp only [mfind] at h
    split at h
    · rename_i hb
      simp only [Option.some.injEq] at h
      exact .inr ⟨0, e.2, x.val, h.symm, by simp [Instr.findNow, sameNow_of hd hs hk h1 hb], h2, by simp, x, rfl, by rw [sameK_eq hb]; exact h1⟩
    · rename_i hb
      have ih := find_of hd hs hk es xs (i + 1) (by simpa using hl) (fun j a b ha hb => hr (j + 1) a b (by simpa using ha) (by simpa using hb)) h
      have hn : Instr.findNow d k' (x :: xs) i = Instr.findNow d k' xs (i + 1) := by simp [Instr.findNow, sameNow_of hd hs hk h1 hb]
      rcases ih with ⟨q1, q2⟩ | ⟨j, v, v', q1, q2, q3, q4, x0, q5, q6⟩
      · exact .inl ⟨q1, by rw [hn]; exact q2⟩
      · exact .inr ⟨j + 1, v, v', by rw [q1, Nat.add_right_comm, Nat.add_assoc], by rw [hn, q2, Nat.add_right_comm, Nat.add_assoc], q3, by simp; omega, x0, by simpa using q5, q6⟩
    · simp at h
  | [], _ :: _, _, _, hl, _, _ => by simp at hl
  | _ :: _, [], _, _, hl, _, _ => by simp at hl

theorem run_checkKeyN {s : Bool} {kt : TypeId} {d : TypeDesc} (hu : P.underlying kt = some d) (hd : keyT s d) {k : AVal} {k' : Value} (hk : flatV k k') (b : Bool) (n : Nat) (w : World) : (Instr.checkKey b (n + 1) kt k').run P w = .ok () w := by
  rcases hd with ⟨q, rfl, _⟩ | ⟨rfl, _⟩ <;> cases k <;> cases k' <;> simp only [flatV] at hk <;> simp [Instr.checkKey, run_underlying hu]
theorem run_checkKey {s : Bool} {kt : TypeId} {d : TypeDesc} (hu : P.underlying kt = some d) (hd : keyT s d) {k : AVal} {k' : Value} (hk : flatV k k') (b : Bool) (w : World) : (Instr.checkKey b 10000 kt k').run P w = .ok () w :=
  run_checkKeyN hu hd hk b 9999 w

theorem run_findKey {kt : TypeId} {d : TypeDesc} (hu : P.underlying kt = some d) {k' : Value} {xs : List MapEntry} {r : Option (Nat × Value)} (h : Instr.findNow d k' xs 0 = some r) (w : World) : (Instr.findKey kt k' xs).run P w = .ok r w := by
  simp [Instr.findKey, run_underlying hu, h]

/-- Where a map lies. -/
theorem map_at (h : Rel W κ S w) {j : Nat} {x' : Value} (hx : VRel κ (.mpv j) x') {es : List (AVal × AVal)} {clk : Nat} (hS : S[j]? = some (.mp es clk)) :
    ∃ l t xs, x' = .map (some l) ∧ κ.recs j = some (l, t) ∧ w.heap[l]? = some (.map xs clk) ∧ EntsOk es xs ∧ Born clk xs := by
  cases hx with
  | mpv _ l t i hr hi =>
    obtain ⟨_, _, _, _, xs, h3, h4⟩ := h.loops.bnd (b := .mp es clk) rfl hS hr
    exact ⟨l, t, xs, rfl, hr, h3, h4⟩

theorem run_getObj {l : Nat} {xs : Array MapEntry} {clk : Nat} (h : w.heap[l]? = some (.map xs clk)) : (Go.getObj l).run P w = .ok (.map xs clk) w := by
  simp [Go.getObj, Sem.run, h]

theorem run_setObj {l : Nat} {xs ys : Array MapEntry} {clk clk' : Nat} (h : w.heap[l]? = some (.map xs clk)) : (Go.setObj l (.map ys clk')).run P w = .ok () (w.putObj l (.map ys clk')) := by
  simp [Go.setObj, Sem.run, h, World.putObj]

theorem run_keyThatStays {k : AVal} {k1 k2 : Value} (h1 : flatV k k1) (h2 : flatV k k2) : (Instr.keyThatStays k1 k2).run P w = .ok k2 w := by
  have : Instr.sameBits 10000 k1 k2 = true := by
    cases k <;> cases k1 <;> cases k2 <;> simp only [flatV] at h1 h2
    · obtain ⟨rfl, rfl⟩ := h1; obtain ⟨rfl, rfl⟩ := h2; simp [Instr.sameBits]
    · rename_i l b1 b2
      have : b1 = b2 := ByteArray.ext (Array.ext' (h1.trans h2.symm))
      simp [Instr.sameBits, this, bytes_beq]
  simp [Instr.keyThatStays, this]

theorem ok_makeMap (T : TypeId) : OpOk P fs fz (.makeMap T none) := by
  intro W κ S w f a o aop v S' ho hc hf h hv
  simp only [compOp1, Option.pure_def, Option.some.injEq, Sum.inl.injEq] at hc
  subst hc
  simp only [evOp, Option.some.injEq, Prod.mk.injEq] at hv
  obtain ⟨rfl, rfl⟩ := hv
  obtain ⟨h1, h2⟩ := h.newMap
  refine ⟨.value (.map (some w.heap.size)), w.alloc (.map #[] 0), _, ?_, .inl ⟨_, rfl, ?_⟩, h1, h2⟩
  · simp [execOp, ho, Instr.makeMap, newObj, Sem.run]
  · refine .mpv _ _ (mapLoop w.heap.size) ⟨0, 0, 0, 0⟩ ?_ ?_
    · show (if S.length = S.length then _ else _) = _; rw [if_pos rfl]
    · show (κ.blocks ++ [_])[S.length]? = _; rw [← h.len]; simp

theorem ok_lookup (t : TypeId) (x k : Operand) : OpOk P fs fz (.lookup t x k false) := by
  intro W κ S w f a o aop v S' ho hc hf h hv
  simp only [compOp1, Option.bind_eq_bind, Option.bind_eq_some_iff, Option.pure_def] at hc
  obtain ⟨d, hd, hc⟩ := hc
  split at hc
  rotate_left
  · simp at hc
  rename_i kt e
  simp only [Option.bind_eq_some_iff] at hc
  obtain ⟨z, ⟨i, hi, hz⟩, az, haz, dk, hdk, hc⟩ := hc
  have key : ∃ s ax ak, keyT s dk ∧ argA x = some ax ∧ argA k = some ak ∧ aop = .mget s az ax ak := by
    split at hc
    · simp only [Option.bind_eq_some_iff, Option.some.injEq, Sum.inl.injEq] at hc
      obtain ⟨ax, h1, ak, h2, rfl⟩ := hc
      exact ⟨false, ax, ak, .inl ⟨_, rfl, rfl⟩, h1, h2, rfl⟩
    · simp only [Option.bind_eq_some_iff, Option.some.injEq, Sum.inl.injEq] at hc
      obtain ⟨ax, h1, ak, h2, rfl⟩ := hc
      exact ⟨true, ax, ak, .inr ⟨rfl, rfl⟩, h1, h2, rfl⟩
    · simp at hc
  obtain ⟨s, ax, ak, hkt, hax, hak, rfl⟩ := key
  have rx := argA_rel (κ := κ) hax hf
  have rk := argA_rel (κ := κ) hak hf
  have hzr := valA_rel haz κ
  have hzero : (zeroValue e).run P w = .ok z w := run_zero hi hz w
  simp only [evOp] at hv
  split at hv
  · rename_i ex
    rw [ex] at rx
    generalize hu : a.eval x = u at rx
    cases rx
    split at hv
    · rename_i hk
      cases hv
      have hfl := flat_of rk (key_flat hk)
      refine .of (m := Instr.lookup t (a.eval x) (a.eval k) false) (fun v' w' h' => by simp [execOp, ho, h']) (.pure h ?_ hzr)
      have hf0 : (Instr.findKey kt (a.eval k) []).run P w = .ok none w := run_findKey (r := none) hdk rfl w
      rw [hu]
      simp [Instr.lookup, run_underlying hd, run_checkKey hdk hkt hfl, hf0, hzero]
    · simp at hv
  · rename_i j ex
    rw [ex] at rx
    split at hv
    · rename_i es clk hS
      split at hv
      · rename_i hk
        obtain ⟨l, t', xs, hu, hr, hl, he, hB⟩ := map_at h rx hS
        have hfl := flat_of rk (key_flat hk)
        cases hm : mfind (f.ev ak) es 0 with
        | none => rw [hm] at hv; simp at hv
        | some r =>
          rw [hm] at hv
          have fin : ∀ {v' : Value}, (Instr.lookup t (a.eval x) (a.eval k) false).run P w = .ok v' w → VRel κ v v' → S' = S → OpRuns P W κ w a.eval o v S' := fun h1 h2 h3 => by
            subst h3; exact .of (m := Instr.lookup t (a.eval x) (a.eval k) false) (fun v' w' h' => by simp [execOp, ho, h']) (.pure h h1 h2)
          rcases find_of hkt hk hfl es xs.toList 0 (by simpa using he.1) (fun i e x h1 h2 => he.2 i e x h1 (by simpa using h2)) hm with ⟨rfl, h2⟩ | ⟨i, q, q', rfl, h2, h3, _, _⟩
          · cases hv
            refine fin (v' := z) ?_ hzr rfl
            rw [hu]
            simp [Instr.lookup, run_underlying hd, run_getObj hl, run_checkKey hdk hkt hfl, run_findKey hdk h2, hzero]
          · cases hv
            refine fin (v' := q') ?_ (h3.rel κ) rfl
            rw [hu]
            simp [Instr.lookup, run_underlying hd, run_getObj hl, run_checkKey hdk hkt hfl, run_findKey hdk h2]
      · simp at hv
    · simp at hv
  · simp at hv

theorem ents_set {es : List (AVal × AVal)} {xs : Array MapEntry} (h : EntsOk es xs) {i : Nat} {k y : AVal} {k' y' : Value} (hk : flatV k k') (hy : flatV y y') :
    EntsOk (es.set i (k, y)) (xs.modify i fun e => { e with key := k', val := y' }) := by
  refine ⟨by simp [h.1], fun j e x h1 h2 => ?_⟩
  rw [List.getElem?_set] at h1
  rw [Array.getElem?_modify] at h2
  by_cases e0 : i = j
  · subst e0
    rw [if_pos rfl] at h1 h2
    split at h1
    · simp only [Option.some.injEq] at h1; subst h1
      simp only [Option.map_eq_some_iff] at h2
      obtain ⟨x0, _, rfl⟩ := h2
      exact ⟨hk, hy⟩
    · simp at h1
  · rw [if_neg e0] at h1 h2
    exact h.2 j e x h1 h2

theorem ents_push {es : List (AVal × AVal)} {xs : Array MapEntry} (h : EntsOk es xs) {k y : AVal} {k' y' : Value} {n : Nat} (hk : flatV k k') (hy : flatV y y') :
    EntsOk (es ++ [(k, y)]) (xs.push { key := k', val := y', born := n }) := by
  refine ⟨by simp [h.1], fun j e x h1 h2 => ?_⟩
  rcases getElem?_concat_cases h1 with ⟨h3, h4⟩ | ⟨rfl, rfl⟩
  · rw [Array.getElem?_push_lt (by rw [← h.1]; exact h4)] at h2
    simp only [Option.some.injEq] at h2
    exact h.2 j e x h3 (by rw [Array.getElem?_eq_getElem (by rw [← h.1]; exact h4), h2])
  · rw [h.1] at h2
    simp at h2
    subst h2; exact ⟨hk, hy⟩

theorem ents_erase {es : List (AVal × AVal)} {xs : Array MapEntry} (h : EntsOk es xs) {i : Nat} (hi : i < es.length) : EntsOk (es.eraseIdx i) (xs.eraseIdxIfInBounds i) := by
  have e : (xs.eraseIdxIfInBounds i).toList = xs.toList.eraseIdx i := by
    rw [Array.eraseIdxIfInBounds, dif_pos (by rw [← h.1]; exact hi)]; simp
  refine ⟨?_, fun j e1 x h1 h2 => ?_⟩
  · have : (xs.eraseIdxIfInBounds i).size = (xs.toList.eraseIdx i).length := by rw [← e, Array.length_toList]
    rw [this, List.length_eraseIdx, List.length_eraseIdx, h.1]; simp
  · have h2' : (xs.toList.eraseIdx i)[j]? = some x := by rw [← e, Array.getElem?_toList]; exact h2
    rw [List.getElem?_eraseIdx] at h1 h2'
    split at h1
    · rename_i hj; rw [if_pos hj] at h2'; exact h.2 _ _ _ h1 (by simpa using h2')
    · rename_i hj; rw [if_neg hj] at h2'; exact h.2 _ _ _ h1 (by simpa using h2')

theorem born_push {clk : Nat} {xs : Array MapEntry} (h : Born clk xs) {k v : Value} : Born (clk + 1) (xs.push { key := k, val := v, born := clk }) := by
  refine ⟨?_, fun x hx => ?_⟩
  · rw [Array.toList_push, List.map_append, List.nodup_append]
    refine ⟨h.1, by simp, fun a ha b hb => ?_⟩
    simp only [List.map_cons, List.map_nil, List.mem_singleton] at hb
    obtain ⟨y, hy, rfl⟩ := List.mem_map.1 ha
    have := h.2 y hy
    omega
  · rw [Array.toList_push, List.mem_append] at hx
    rcases hx with hx | hx
    · have := h.2 x hx; omega
    · rw [List.mem_singleton.1 hx]; exact Nat.lt_succ_self _
theorem born_set {clk : Nat} {xs : Array MapEntry} (h : Born clk xs) {k v : Value} {i : Nat} : Born clk (xs.modify i fun e => { e with key := k, val := v }) := by
  have e : (xs.modify i fun e => { e with key := k, val := v }).toList.map (·.born) = xs.toList.map (·.born) := by
    apply List.ext_getElem?
    intro j
    simp only [List.getElem?_map, Array.getElem?_toList, Array.getElem?_modify]
    split
    · cases xs[j]? <;> rfl
    · rfl
  refine ⟨by rw [e]; exact h.1, fun x hx => ?_⟩
  have : x.born ∈ xs.toList.map (·.born) := by rw [← e]; exact List.mem_map_of_mem hx
  obtain ⟨y, hy, e⟩ := List.mem_map.1 this
  rw [← e]; exact h.2 y hy
theorem born_erase {clk : Nat} {xs : Array MapEntry} (h : Born clk xs) {i : Nat} : Born clk (xs.eraseIdxIfInBounds i) := by
  unfold Array.eraseIdxIfInBounds
  split
  · refine ⟨?_, fun x hx => ?_⟩
    · rw [Array.toList_eraseIdx]
      exact List.Sublist.nodup ((List.eraseIdx_sublist _ _).map _) h.1
    · rw [Array.toList_eraseIdx] at hx
      exact h.2 x (List.mem_of_mem_eraseIdx hx)
  · exact h

theorem ok_mapUpdate (t : TypeId) (x k y : Operand) : OpOk P fs fz (.mapUpdate t x k y) := by
  intro W κ S w f a o aop v S' ho hc hf h hv
  simp only [compOp1, Option.bind_eq_bind, Option.bind_eq_some_iff, Option.pure_def] at hc
  obtain ⟨d, hd, hc⟩ := hc
  split at hc
  rotate_left
  · simp at hc
  rename_i kt e
  simp only [Option.bind_eq_some_iff] at hc
  obtain ⟨dk, hdk, hc⟩ := hc
  have key : ∃ s ax ak ay, keyT s dk ∧ argA x = some ax ∧ argA k = some ak ∧ argA y = some ay ∧ aop = .mset s ax ak ay := by
    split at hc
    · simp only [Option.bind_eq_some_iff, Option.some.injEq, Sum.inl.injEq] at hc
      obtain ⟨ax, h1, ak, h2, ay, h3, rfl⟩ := hc
      exact ⟨false, ax, ak, ay, .inl ⟨_, rfl, rfl⟩, h1, h2, h3, rfl⟩
    · simp only [Option.bind_eq_some_iff, Option.some.injEq, Sum.inl.injEq] at hc
      obtain ⟨ax, h1, ak, h2, ay, h3, rfl⟩ := hc
      exact ⟨true, ax, ak, ay, .inr ⟨rfl, rfl⟩, h1, h2, h3, rfl⟩
    · simp at hc
  obtain ⟨s, ax, ak, ay, hkt, hax, hak, hay, rfl⟩ := key
  have rx := argA_rel (κ := κ) hax hf
  have rk := argA_rel (κ := κ) hak hf
  have ry := argA_rel (κ := κ) hay hf
  simp only [evOp] at hv
  split at hv
  rotate_left
  · simp at hv
  rename_i j ex
  rw [ex] at rx
  split at hv
  rotate_left
  · simp at hv
  rename_i es clk hS
  split at hv
  rotate_left
  · simp at hv
  rename_i hk
  obtain ⟨l, t', xs, hu, hr, hl, he, hB⟩ := map_at h rx hS
  have hfl := flat_of rk (key_flat hk.1)
  have hfy := flat_of ry hk.2
  cases hm : mfind (f.ev ak) es 0 with
  | none => rw [hm] at hv; simp at hv
  | some r =>
    rw [hm] at hv
    rcases find_of hkt hk.1 hfl es xs.toList 0 (by simpa using he.1) (fun i e x h1 h2 => he.2 i e x h1 (by simpa using h2)) hm with ⟨rfl, h2⟩ | ⟨i, q, q', rfl, h2, h3, hi, x0, hx0, hkk⟩
    · cases hv
      refine ⟨.skip, _, κ, ?_, .inr ⟨rfl, rfl⟩, h.setMap hS hr (ents_push (n := clk) he hfl hfy) (born_push hB), Kap.le_refl κ⟩
      simp [execOp, ho, hu, Instr.mapUpdate, run_underlying hd, run_getObj hl, run_checkKey hdk hkt hfl, run_findKey hdk h2, run_setObj hl]
    · cases hv
      simp only [Nat.zero_add] at h2
      have hx1 : xs[i]? = some x0 := by simpa using hx0
      have hks := run_keyThatStays (P := P) (w := w) hkk hfl
      rw [Nat.zero_add]
      refine ⟨.skip, _, κ, ?_, .inr ⟨rfl, rfl⟩, h.setMap hS hr (ents_set (i := i) he hfl hfy) (born_set hB), Kap.le_refl κ⟩
      simp [execOp, ho, hu, Instr.mapUpdate, run_underlying hd, run_getObj hl, run_checkKey hdk hkt hfl, run_findKey hdk h2, hx1, hks, run_setObj hl]

theorem mdel_ok {t : TypeId} {kt e : TypeId} {dk : TypeDesc} {s : Bool} {x k : AVal} {x' k' : Value} {v : AVal} {S' : St} (h : Rel W κ S w) (hd : P.underlying t = some (.map kt e)) (hdk : P.underlying kt = some dk) (hkt : keyT s dk)
    (hv : (match x with
      | .mpv j => match S[j]? with
        | some (.mp es clk) => if keyA s k = true then (match mfind k es 0 with
          | some (some (i, _)) => some (AVal.tup [], S.set j (.mp (es.eraseIdx i) clk))
          | some none => some (.tup [], S.set j (.mp es clk))
          | none => none) else none
        | _ => none
      | _ => none) = some (v, S')) (rx : VRel κ x x') (rk : VRel κ k k') (ty : TypeId) (rest : List TypeId) : Runs P W κ w (Builtin.delete_ (t :: rest).toArray ty #[x', k']) v S' := by
  cases x <;> first | (simp at hv; done) | skip
  rename_i j
  simp only at hv
  split at hv
  rotate_left
  · simp at hv
  rename_i es clk hS
  split at hv
  rotate_left
  · simp at hv
  rename_i hk
  obtain ⟨l, t', xs, hu, hr, hl, he, hB⟩ := map_at h rx hS
  have hfl := flat_of rk (key_flat hk)
  cases hm : mfind k es 0 with
  | none => rw [hm] at hv; simp at hv
  | some r =>
    rw [hm] at hv
    rcases find_of hkt hk hfl es xs.toList 0 (by simpa using he.1) (fun i e x h1 h2 => he.2 i e x h1 (by simpa using h2)) hm with ⟨rfl, h2⟩ | ⟨i, q, q', rfl, h2, h3, hi, _⟩
    · cases hv
      refine ⟨.tuple #[], _, κ, ?_, .tup [] [] rfl (by simp), h.setMap hS hr he hB, Kap.le_refl κ⟩
      simp [Builtin.delete_, hu, run_underlying hd, run_getObj hl, run_checkKey hdk hkt hfl, run_findKey hdk h2, run_setObj hl]
    · cases hv
      simp only [Nat.zero_add] at h2
      rw [Nat.zero_add]
      refine ⟨.tuple #[], _, κ, ?_, .tup [] [] rfl (by simp), h.setMap hS hr (ents_erase he hi) (born_erase hB), Kap.le_refl κ⟩
      simp [Builtin.delete_, hu, run_underlying hd, run_getObj hl, run_checkKey hdk hkt hfl, run_findKey hdk h2, run_setObj hl]

theorem mlen_ok {t : TypeId} {kt e : TypeId} {x : AVal} {x' : Value} {v : AVal} {S' : St} (h : Rel W κ S w) (hd : P.underlying t = some (.map kt e)) (hv : (match x with
      | .mapn => some (AVal.int .i64 0, S)
      | .mpv j => match S[j]? with
        | some (.mp es _) => some (.int .i64 (es.length : Nat), S)
        | _ => none
      | _ => none) = some (v, S')) (rx : VRel κ x x') (ty : TypeId) (rest : List TypeId) : Runs P W κ w (Builtin.len_ (t :: rest).toArray ty #[x']) v S' := by
  cases x
  case mapn =>
    cases hv; cases rx
    exact .pure h (v' := .int .i64 0) (by simp [Builtin.len_, run_underlying hd, goInt]) (.int _ _)
  case mpv j =>
    simp only at hv
    split at hv
    · rename_i es clk hS
      cases hv
      obtain ⟨l, t', xs, hu, hr, hl, he, hB⟩ := map_at h rx hS
      refine .pure h (v' := .int .i64 (xs.size : Nat)) ?_ (by rw [he.1]; exact .int _ _)
      rw [hu]
      simp [Builtin.len_, run_underlying hd, run_getObj hl, goInt]
    · simp at hv
  all_goals simp at hv

theorem appn_ok (h : Rel W κ S w) {ts tx ty e : TypeId} {sz bytes : Nat} {kd : IntKind} {zero : List AVal} (ht : P.underlying ts = some (.slice e)) (hx : P.underlying tx = some (.int kd))
    (hsz : sizeP P e = some sz) (hby : bytesP P e = some bytes) (hb0 : bytes ≠ 0) (hs0 : sz ≠ 0) (hz : zeroA P e = some zero) (hzl : zero.length = sz)
    {x v : AVal} {x' : Value} {S' : St} {l : Int} (hl : 0 ≤ l ∧ l.toNat * bytes ≤ 140737488355328 ∧ l ≤ 9223372036854775807) (hxr : VRel κ x x') (hv : appendC sz bytes x l.toNat (List.replicate l.toNat zero).flatten S = some (v, S')) :
    Runs P W κ w (Builtin.append_ #[ts, tx] ty #[x', .int .i64 l]) v S' := by
  obtain ⟨i, z, hi, hzz, hzr, hzs⟩ := zeroA_rel hz κ
  obtain ⟨i', hi', hsz'⟩ := sizeP_info hsz
  rw [hi] at hi'; cases hi'
  obtain ⟨i', hi', hby'⟩ := bytesP_info hby
  rw [hi] at hi'; cases hi'
  have hzsz : z.cells.size = sz := by have := hzr.1; simp at this; omega
  obtain ⟨m1, m2⟩ := made_cells (κ := κ) hzl hzr hzs l.toNat
  have hmade : madeCells z.cells (l.toNat * sz) = Builtin.zeroCells z.cells l.toNat := by simp only [madeCells, Builtin.zeroCells, hzsz]
  rw [hmade] at m1 m2
  have hw : IntKind.i64.wrap l = l := by simp [IntKind.wrap, IntKind.bits, IntKind.signed]; omega
  have c1 : ¬ l < 0 := by omega
  have c2 : ¬ (l * (i.bytes : Int) > 2 ^ 48) := by
    rw [hby']
    have : l * (bytes : Int) = ((l.toNat * bytes : Nat) : Int) := by rw [Int.natCast_mul]; congr 1; omega
    rw [this]; omega
  have hti : ∀ w1, (typeInfo e).run P w1 = .ok i w1 := fun w1 => by simp [typeInfo, hi]
  have happ : ∀ w1 : World, (if l.toNat * sz = 0 then (Pure.pure #[] : Sem (Array Value)) else zeroValue e >>= fun q => Pure.pure (Builtin.zeroCells q.cells l.toNat)).run P w1 = .ok (Builtin.zeroCells z.cells l.toNat) w1 := by
    intro w1
    split
    · rename_i h0
      have : l.toNat = 0 := by
        rcases Nat.mul_eq_zero.1 h0 with h | h
        · exact h
        · exact absurd h hs0
      rw [this]; simp [Builtin.zeroCells]
    · simp only [Sem.run_bind, run_zero hi hzz, Result.andThen_ok, Sem.run_pure]
  have hty : ∀ {s' : Value} (w1 : World), (Builtin.append_ #[ts, tx] ty #[s', .int .i64 l]).run P w1 = (Builtin.append_ #[ts, tx] ty #[s', .int .i64 l]).run P w1 := fun _ => rfl
  refine append_core (e := e) h hzsz (arr := (Builtin.zeroCells z.cells l.toNat).toList) (arrd := (Builtin.zeroCells z.cells l.toNat).toList) ⟨?_, ?_, ?_⟩ (by simp [hzl]) m1 m2 m1 m2 hxr hv
  · intro a sLen sCap w' hroom hst
    unfold Builtin.append_
    simp only [List.getElem?_toArray, List.getElem?_cons_zero, List.getElem?_cons_succ, Sem.run_bind, run_und ht, Result.andThen_ok, run_size hsz, run_und hx, Sem.run_pure, if_true, asInt, asIntOf, hw, if_neg c1, hti, if_neg c2, Bool.not_true, Bool.false_eq_true, if_false, hroom, happ, hst]
  · intro h0
    unfold Builtin.append_
    simp only [List.getElem?_toArray, List.getElem?_cons_zero, List.getElem?_cons_succ, Sem.run_bind, run_und ht, Result.andThen_ok, run_size hsz, run_und hx, Sem.run_pure, if_true, asInt, asIntOf, hw, if_neg c1, hti, if_neg c2, Bool.not_true, Bool.false_eq_true, if_false, happ, h0, Nat.add_zero, Nat.le_refl]
    simp [Builtin.zeroCells]
  · intro base sLen sCap old ho hr hb
    have h1 : ¬ (sLen + l.toNat ≤ sCap) := by omega
    have hgf := growslice_fits (old := sCap) (need := sLen + l.toNat) (bytes := bytes) hr hb
    have h2 : ¬ (Builtin.nextslicecap (sLen + l.toNat) sCap * i.bytes > 2 ^ 48) := by rw [hby']; omega
    have h3 : ¬ (((sLen + l.toNat : Nat) : Int) > IntKind.i64.max) := by
      have hb1 : sLen + l.toNat ≤ (sLen + l.toNat) * bytes := Nat.le_mul_of_pos_right _ (by omega)
      simp only [IntKind.max, IntKind.signed, IntKind.bits]
      simp; omega
    refine ⟨(Question.appendCap (sLen + l.toNat) sCap e).cut (w.tape w.drawn (Question.appendCap (sLen + l.toNat) sCap e)), by simp [Question.cut], ?_⟩
    have ho' := ho w.drew rfl
    have hq : (Question.appendCap (sLen + l.toNat) sCap e).forced = false := rfl
    unfold Builtin.append_
    simp only [List.getElem?_toArray, List.getElem?_cons_zero, List.getElem?_cons_succ, Sem.run_bind, run_und ht, Result.andThen_ok, run_size hsz, run_und hx, Sem.run_pure, if_true, asInt, asIntOf, hw, if_neg c1, hti, if_neg c2, Bool.not_true, Bool.false_eq_true, if_false, h1, h2, h3, false_and, run_choose, hq, World.drew_eq, run_askRoom, ho', happ, run_zero hi hzz, newRow, run_newObj, World.alloc_eq, World.size_drew]

theorem ok_slice3 (t : TypeId) (x l : Operand) (hi : Option Operand) (m : Operand) : OpOk P fs fz (.slice t x (some l) hi (some m)) := by
  intro W κ S w f a o aop v S' ho hc hf h hv
  simp only [compOp1, Option.bind_eq_bind, Option.bind_eq_some_iff, Option.pure_def] at hc
  obtain ⟨ax, hax, d, hd, hc⟩ := hc
  split at hc
  rotate_left
  · simp at hc
  rename_i e
  simp only [Option.bind_eq_some_iff] at hc
  obtain ⟨sz, hsz, hc⟩ := hc
  split at hc
  rotate_left
  · simp at hc
  rename_i hh
  simp only [Option.bind_eq_some_iff, Option.some.injEq, Sum.inl.injEq] at hc
  obtain ⟨al, hal, ah, hah, am, ham, rfl⟩ := hc
  have rx := argA_rel (κ := κ) hax hf
  have rl := argA_rel (κ := κ) hal hf
  have rh := argA_rel (κ := κ) hah hf
  have rm := argA_rel (κ := κ) ham hf
  simp only [evOp] at hv
  split at hv
  rotate_left
  · simp at hv
  rename_i r u off len sz' k1 l1 k2 h1 k3 m1 e1 e2 e3 e4
  split at hv
  rotate_left
  · simp at hv
  rename_i hb
  obtain ⟨b0, b1, b2, b3⟩ := hb
  cases hv
  rw [e1] at rx; rw [e2] at rl; rw [e3] at rh; rw [e4] at rm
  generalize hu : a.eval x = u1 at rx
  generalize hu2 : a.eval l = u2 at rl
  generalize hu3 : a.eval hh = u3 at rh
  generalize hu4 : a.eval m = u4 at rm
  cases rl; cases rh; cases rm
  cases rx with
  | sl _ _ _ _ _ inf ad c hr hver hlc hext =>
    have c1 : 0 ≤ m1 ∧ m1 ≤ (c : Int) := ⟨by omega, by omega⟩
    have c2 : 0 ≤ h1 ∧ h1 ≤ (m1.toNat : Int) := ⟨by omega, by omega⟩
    have c3 : 0 ≤ l1 ∧ l1 ≤ (h1.toNat : Int) := ⟨by omega, by omega⟩
    have d2 : h1 ≤ max m1 0 := by omega
    have d3 : l1 ≤ max h1 0 := by omega
    have hrun : (Instr.sliceAt t (a.eval x) ((some l).map a.eval) ((some hh).map a.eval) (some (a.eval m))).run P w = .ok (.slice (if m1.toNat = l1.toNat then some ad else (some ad).map (·.add (l1.toNat * sz))) (h1.toNat - l1.toNat) (m1.toNat - l1.toNat)) w := by
      simp [Instr.sliceAt, Instr.slice, Instr.sliceBounds, Instr.sliceBound, asIntOf, run_und hd, hu, hu2, hu3, hu4, c1, c2, c3, d2, d3, run_size hsz]
    exact .of (fun v' w' h' => by simp [execOp, ho] at h' ⊢; rw [h']; rfl) (.pure h hrun (.junk _))

theorem clear_ok (h : Rel W κ S w) {t e : TypeId} {sz : Nat} {zero : List AVal} (ht : P.underlying t = some (.slice e)) (hsz : sizeP P e = some sz) (hz : zeroA P e = some zero) {x : AVal} {S' : St} (hv : clearA sz zero x S = some S') {x' : Value}
    (rx : VRel κ x x') (ty : TypeId) (rest : List TypeId) : Runs P W κ w (Builtin.clear_ (t :: rest).toArray ty #[x']) (.tup []) S' := by
  have htup : ∀ κ', VRel κ' (.tup []) (.tuple #[]) := fun κ' => .tup [] [] rfl (by simp)
  unfold clearA at hv
  split at hv
  · cases hv; cases rx
    exact .pure h (v' := .tuple #[]) (by simp [Builtin.clear_, run_und ht]) (htup _)
  · rename_i r u off len sz'
    split at hv
    rotate_left
    · simp at hv
    rename_i v' cs hS
    split at hv
    rotate_left
    · simp at hv
    rename_i hcnd
    obtain ⟨rfl, rfl, hzl, hle⟩ := hcnd
    simp only [Option.some.injEq] at hv
    subst hv
    cases rx with
    | sl _ _ _ _ _ inf a c hr hver hlc hext =>
      have hvv : v' = inf.ver := ((h.own r v' cs inf hS hr).1).symm
      obtain ⟨i, z, hi, hzz, hzr, hzs⟩ := zeroA_rel hz κ
      have hzsz : z.cells.size = sz' := by have := hzr.1; simp at this; omega
      obtain ⟨m1, m2⟩ := made_cells (κ := κ) hzl hzr hzs len
      have hmade : madeCells z.cells (len * sz') = Builtin.zeroCells z.cells len := by simp only [madeCells, Builtin.zeroCells, hzsz]
      rw [hmade] at m1 m2
      have hfl : (List.replicate len zero).flatten.length = len * sz' := by simp [hzl]
      obtain ⟨w', h1, h2⟩ := Rel.storeCells (P := P) h (off := off) hS hr m1 m2 (by rw [hfl]; exact hle) (a := a) (fun hne => by
        have hn : len ≠ 0 := by rintro rfl; exact hne (by simp)
        rcases (hext hvv).2 with h0 | h0
        · omega
        · exact h0)
      refine ⟨.tuple #[], w', κ, ?_, htup _, h2, Kap.le_refl κ⟩
      cases len with
      | zero =>
        have : w' = w := by
          have e0 : (Builtin.zeroCells z.cells 0).toList = [] := by simp [Builtin.zeroCells]
          rw [e0] at h1
          simp [Go.storeCells] at h1
          exact h1.symm
        subst this
        simp [Builtin.clear_, run_und ht]
      | succ n => simp [Builtin.clear_, run_und ht, run_zero hi hzz, h1]
  · simp at hv
end Am
