/- Each operation of the machine stands for the model's: append, copy, texts, aggregates. -/
import Derived.Test.YtgbifohffmdgeaaDoorAmOpsD
import Derived.Laws.Append
set_option linter.all false
namespace Am
open Go Go.RowKit
variable {P : Program} {W : World} {κ : Kap} {S : St} {w : World}
theorem run_append_room {ts tx ty e : TypeId} {sz : Nat} {d : TypeDesc} (ht : P.underlying ts = some (.slice e)) (hx : P.underlying tx = some d) (hd : notInt d = true) (hsz : sizeP P e = some sz)
    {a : Addr} {sLen sCap n : Nat} {x' : Value} {arr : List Value} (hlen : (Builtin.lenOf x').run P w = .ok n w) (hfc : (Builtin.firstCells sz n x').run P w = .ok arr.toArray w)
    (hroom : sLen + n ≤ sCap) {w' : World} (hst : (Go.storeCells (a.add (sLen * sz)) arr).run P w = .ok () w') :
    (Builtin.append_ #[ts, tx] ty #[.slice (some a) sLen sCap, x']).run P w = .ok (.slice (some a) (sLen + n) sCap) w' := by
  unfold Builtin.append_
  simp only [List.getElem?_toArray, List.getElem?_cons_zero, List.getElem?_cons_succ, Sem.run_bind, run_und ht, Result.andThen_ok, run_size hsz, run_und hx]
  split
  · simp [notInt] at hd
  · simp only [Sem.run_pure, Result.andThen_ok, Bool.false_eq_true, if_false, Sem.run_bind, hlen, Bool.not_false, if_true, hroom, hfc, hst]
theorem run_append_nil0 {ts tx ty e : TypeId} {sz : Nat} {d : TypeDesc} (ht : P.underlying ts = some (.slice e)) (hx : P.underlying tx = some d) (hd : notInt d = true) (hsz : sizeP P e = some sz)
    {x' : Value} {arr : List Value} (hlen : (Builtin.lenOf x').run P w = .ok 0 w) (hfc : (Builtin.firstCells sz 0 x').run P w = .ok arr.toArray w) :
    (Builtin.append_ #[ts, tx] ty #[.slice none 0 0, x']).run P w = .ok (.slice none 0 0) w := by
  unfold Builtin.append_
  simp only [List.getElem?_toArray, List.getElem?_cons_zero, List.getElem?_cons_succ, Sem.run_bind, run_und ht, Result.andThen_ok, run_size hsz, run_und hx]
  split
  · simp [notInt] at hd
  · simp only [Sem.run_pure, Result.andThen_ok, Bool.false_eq_true, if_false, Sem.run_bind, hlen, Bool.not_false, if_true, hfc, Nat.add_zero, Nat.le_refl]

theorem run_append_grow {ts tx ty e : TypeId} {sz bytes : Nat} {d : TypeDesc} {z : Value} (ht : P.underlying ts = some (.slice e)) (hx : P.underlying tx = some d) (hd : notInt d = true) (hsz : sizeP P e = some sz)
    (hby : bytesP P e = some bytes) (hz : ∃ i, P.info? e = some i ∧ i.zero = some z)
    {base : Option Addr} {sLen sCap n : Nat} {x' : Value} {old arr : List Value} (hlen : (Builtin.lenOf x').run P w = .ok n w) (hfc : ∀ w1, w1 = w.drew → (Builtin.firstCells sz n x').run P w1 = .ok arr.toArray w1)
    (hold : ∀ w1, w1 = w.drew → (Builtin.firstCells sz sLen (.slice base sLen sCap)).run P w1 = .ok old.toArray w1)
    (hroom : sCap < sLen + n) (hb : (sLen + n) * bytes ≤ 140737488355328) (hb0 : bytes ≠ 0) :
    ∃ cap, sLen + n ≤ cap ∧ (Builtin.append_ #[ts, tx] ty #[.slice base sLen sCap, x']).run P w =
      .ok (.slice (some ⟨w.heap.size, 0, none⟩) (sLen + n) cap) (w.drew.alloc (.cells (old.toArray ++ arr.toArray ++ Builtin.zeroCells z.cells (cap - (sLen + n))) e)) := by
  obtain ⟨i, hi, hzz⟩ := hz
  obtain ⟨i', hi', hby'⟩ := bytesP_info hby
  rw [hi] at hi'; cases hi'
  obtain ⟨i', hi', hsz'⟩ := sizeP_info hsz
  rw [hi] at hi'; cases hi'
  have h1 : ¬ (sLen + n ≤ sCap) := by omega
  have hgf := growslice_fits (old := sCap) (need := sLen + n) (bytes := bytes) hroom hb
  have h2 : ¬ (Builtin.nextslicecap (sLen + n) sCap * i.bytes > 2 ^ 48) := by rw [hby']; omega
  have h3 : ¬ (i.bytes = 0) := by rw [hby']; exact hb0
  refine ⟨(Question.appendCap (sLen + n) sCap e).cut (w.tape w.drawn (Question.appendCap (sLen + n) sCap e)), by simp [Question.cut], ?_⟩
  have hf := hfc w.drew rfl
  have ho := hold w.drew rfl
  have hq : (Question.appendCap (sLen + n) sCap e).forced = false := rfl
  have hti : ∀ w1, (typeInfo e).run P w1 = .ok i w1 := fun w1 => by simp [typeInfo, hi]
  unfold Builtin.append_
  simp only [List.getElem?_toArray, List.getElem?_cons_zero, List.getElem?_cons_succ, Sem.run_bind, run_und ht, Result.andThen_ok, run_size hsz, run_und hx]
  split
  · simp [notInt] at hd
  · simp only [Sem.run_pure, Result.andThen_ok, Bool.false_eq_true, if_false, Sem.run_bind, hlen, Bool.not_false, if_true, h1, hti, h2, h3, false_or, and_false, run_choose, hq, World.drew_eq, run_askRoom, ho, hf, run_zero hi hzz, newRow, run_newObj, World.alloc_eq, Sem.run_pure, World.size_drew]

theorem lit_cells {cs : List AVal} {a b z : List Value} {arr : Array Value} (harr : arr.toList = a ++ b ++ z) (hl : VRelL κ cs (a ++ b)) (hsc : ∀ y ∈ a ++ b, scalar y) :
    cs.length ≤ arr.size ∧ (∀ (j : Nat) x y, cs[j]? = some x → arr[j]? = some y → VRel κ x y) ∧ (∀ (j : Nat) y, j < cs.length → arr[j]? = some y → scalar y) := by
  have hsz : arr.size = (a ++ b ++ z).length := by rw [← harr]; simp
  have hlen := hl.1
  have key : ∀ (j : Nat) y, j < cs.length → arr[j]? = some y → (a ++ b)[j]? = some y := by
    intro j y hj hy
    have : arr.toList[j]? = some y := by simpa using hy
    rw [harr, List.getElem?_append_left (by omega)] at this
    exact this
  refine ⟨by rw [hsz, List.length_append]; omega, fun j x y hx hy => ?_, fun j y hj hy => hsc y (List.mem_of_getElem? (key j y hj hy))⟩
  exact hl.2 j x y hx (key j y (List.getElem?_eq_some_iff.1 hx).1 hy)

theorem zeroCells_size (z : Array Value) (n : Nat) : (Builtin.zeroCells z n).size = n * z.size := by simp [Builtin.zeroCells]

/-- What adding some cells comes to. -/
structure AppRun (P : Program) (w : World) (ts tx ty e : TypeId) (sz bytes : Nat) (z : Value) (x' : Value) (n : Nat) (arr arrd : List Value) : Prop where
  room : ∀ {a : Addr} {sLen sCap : Nat} {w' : World}, sLen + n ≤ sCap → (Go.storeCells (a.add (sLen * sz)) arr).run P w = .ok () w' →
    (Builtin.append_ #[ts, tx] ty #[.slice (some a) sLen sCap, x']).run P w = .ok (.slice (some a) (sLen + n) sCap) w'
  nil0 : n = 0 → (Builtin.append_ #[ts, tx] ty #[.slice none 0 0, x']).run P w = .ok (.slice none 0 0) w
  grow : ∀ {base : Option Addr} {sLen sCap : Nat} {old : List Value}, (∀ w1, w1 = w.drew → (Builtin.firstCells sz sLen (.slice base sLen sCap)).run P w1 = .ok old.toArray w1) →
    sCap < sLen + n → (sLen + n) * bytes ≤ 140737488355328 →
    ∃ cap, sLen + n ≤ cap ∧ (Builtin.append_ #[ts, tx] ty #[.slice base sLen sCap, x']).run P w =
      .ok (.slice (some ⟨w.heap.size, 0, none⟩) (sLen + n) cap) (w.drew.alloc (.cells (old.toArray ++ arrd.toArray ++ Builtin.zeroCells z.cells (cap - (sLen + n))) e))

theorem append_core (h : Rel W κ S w) {ts tx ty e : TypeId} {sz bytes : Nat} {z : Value} (hzsz : z.cells.size = sz)
    {x v : AVal} {x' y' : Value} {S' : St} {n : Nat} {new : List AVal} {arr arrd : List Value} (A : AppRun P w ts tx ty e sz bytes z y' n arr arrd) (hnl : new.length = n * sz)
    (hf2 : VRelL κ new arr) (hf3 : ∀ q ∈ arr, scalar q) (hd2 : VRelL κ new arrd) (hd3 : ∀ q ∈ arrd, scalar q) (hxr : VRel κ x x') (hv : appendC sz bytes x n new S = some (v, S')) :
    Runs P W κ w (Builtin.append_ #[ts, tx] ty #[x', y']) v S' := by
  unfold appendC at hv
  · have hn0 : n = 0 → arr = [] := by intro h0; subst h0; have := hf2.1; rw [hnl] at this; simp at this; exact List.eq_nil_of_length_eq_zero this.symm
    split at hv
    · -- nil
      cases hxr
      split at hv
      · rename_i h0; cases hv
        subst h0
        exact .pure h (A.nil0 rfl) .nils
      · rename_i h0
        split at hv
        · rename_i hbb
          cases hv
          obtain ⟨cap, hcap, hrun⟩ := A.grow (old := []) (base := none) (sLen := 0) (sCap := 0)
            (fun w1 _ => by simp [Builtin.firstCells]) (by omega) (by simpa using hbb)
          simp only [Nat.zero_add] at hrun hcap
          obtain ⟨k1, k2, k3⟩ := lit_cells (κ := κ) (cs := new) (a := []) (b := arrd) (z := (Builtin.zeroCells z.cells (cap - n)).toList)
            (arr := ([] : List Value).toArray ++ arrd.toArray ++ Builtin.zeroCells z.cells (cap - n)) (by simp) (by simpa using hd2) (by simpa using hd3)
          refine ⟨_, _, _, hrun, ?_, h.drew.alloc _ e new k1 k2 k3, Kap.le_add _ _⟩
          refine .sl _ _ _ _ _ ⟨w.heap.size, 0, (([] : List Value).toArray ++ arrd.toArray ++ Builtin.zeroCells z.cells (cap - n)).size, 0⟩ _ _ ?_ (Nat.le_refl _) hcap (fun _ => ⟨?_, .inr rfl⟩)
          · show (κ.blocks ++ [_])[S.length]? = _
            rw [← h.len]; simp
          · have : arrd.length = n * sz := by rw [← hnl]; exact hd2.1.symm
            simp [zeroCells_size, hzsz, this]
            rw [← Nat.add_mul]; exact Nat.mul_le_mul_right _ (by omega)
        · simp at hv
    · -- frozen
      rename_i full len cells
      split at hv
      · rename_i h0; cases hv
        subst h0
        have hx2 := hxr
        cases hxr with
        | fz _ _ _ a c ys g1 g2 g3 g4 g5 g6 g7 =>
          have := A.room (a := a) (sLen := len) (sCap := c) (by omega) (w' := w) (by rw [hn0 rfl]; simp [Go.storeCells])
          exact .pure h this hx2
      · rename_i h0
        split at hv
        · rename_i hcnd
          obtain ⟨hfull, hcl, hbb⟩ := hcnd
          cases hv
          obtain ⟨_, hol, hofc⟩ := cellsOf_ok (P := P) h.drew hxr (sz := sz) (n := len) (cs := cells) (by simp [cellsOf, hcl])
          obtain ⟨old, o1, o2, o3⟩ := hofc len (Nat.le_refl _)
          rw [List.take_of_length_le (by omega)] at o2
          cases hxr with
          | fz _ _ _ a c ys g1 g2 g3 g4 g5 g6 g7 =>
            have hcc := g2 hfull
            subst hcc
            obtain ⟨cap, hcap, hrun⟩ := A.grow (old := old) (base := some a) (sLen := c) (sCap := c)
              (fun w1 h1 => by rw [h1]; exact o1) (by omega) hbb
            obtain ⟨k1, k2, k3⟩ := lit_cells (κ := κ) (cs := cells ++ new) (a := old) (b := arrd) (z := (Builtin.zeroCells z.cells (cap - (c + n))).toList)
              (arr := old.toArray ++ arrd.toArray ++ Builtin.zeroCells z.cells (cap - (c + n))) (by simp) (o2.append hd2) (by intro q hq; rcases List.mem_append.1 hq with hq | hq; exact o3 q hq; exact hd3 q hq)
            refine ⟨_, _, _, hrun, ?_, h.drew.alloc _ e (cells ++ new) k1 k2 k3, Kap.le_add _ _⟩
            refine .sl _ _ _ _ _ ⟨w.heap.size, 0, (old.toArray ++ arrd.toArray ++ Builtin.zeroCells z.cells (cap - (c + n))).size, 0⟩ _ _ ?_ (Nat.le_refl _) hcap (fun _ => ⟨?_, .inr rfl⟩)
            · show (κ.blocks ++ [_])[S.length]? = _
              rw [← h.len]; simp
            · have ha : arrd.length = n * sz := by rw [← hnl]; exact hd2.1.symm
              have hb : old.length = c * sz := by rw [← hol]; exact o2.1.symm
              simp [zeroCells_size, hzsz, ha, hb]
              rw [← Nat.add_mul, ← Nat.add_mul]; exact Nat.mul_le_mul_right _ (by omega)
        · simp at hv
    · -- owned
      rename_i r u off len sz'
      split at hv
      · rename_i v' cs hS
        split at hv
        · rename_i hcnd
          obtain ⟨rfl, rfl, hle, hbb⟩ := hcnd
          cases hv
          have hxr2 := hxr
          cases hxr with
          | sl _ _ _ _ _ inf a c hr hver hlc hext =>
            have hvv : v' = inf.ver := ((h.own r v' cs inf hS hr).1).symm
            obtain ⟨e1, e2, e3, barr, be, bfr, e4, e5, e6, e7, e8⟩ := h.own r v' cs inf hS hr
            have hol : ((cs.drop off).take (len * sz')).length = len * sz' := by simp; omega
            have hlt : r < κ.blocks.length := (List.getElem?_eq_some_iff.1 hr).1
            by_cases hroom : len + n ≤ c
            · -- in place
              have hextc := (hext hvv).1
              have hmul : (len + n) * sz' ≤ c * sz' := Nat.mul_le_mul_right _ hroom
              rw [Nat.add_mul] at hmul
              have harrl : arr.length = n * sz' := by rw [← hnl]; exact hf2.1.symm
              have hst : ∃ w' arr', (Go.storeCells (a.add (len * sz')) arr).run P w = .ok () w' ∧ w'.heap[inf.blk]? = some (.cells arr' be bfr) ∧ arr'.size = barr.size ∧
                  (∀ k, arr'[k]? = if inf.base + off + len * sz' ≤ k ∧ k < inf.base + off + len * sz' + arr.length then arr[k - (inf.base + off + len * sz')]? else barr[k]?) ∧
                  (∀ b, b ≠ inf.blk → w'.heap[b]? = w.heap[b]?) ∧ w'.heap.size = w.heap.size ∧ w'.os = w.os ∧ w'.tape = w.tape ∧ w'.output = w.output := by
                by_cases hn : arr = []
                · subst hn
                  exact ⟨w, barr, by simp [Go.storeCells], e4, rfl, fun k => by rw [if_neg (by simp)], fun _ _ => rfl, rfl, rfl, rfl, rfl⟩
                · have hc0 : c ≠ 0 := by
                    intro h0; subst h0
                    have : n = 0 := by omega
                    exact hn (hn0 this)
                  have haddr : a.add (len * sz') = ⟨inf.blk, inf.base + off + len * sz', none⟩ := by
                    rcases (hext hvv).2 with h0 | h0
                    · exact absurd h0 hc0
                    · rw [h0, add_plain]
                  rw [haddr]
                  obtain ⟨w', arr', h1, h2, h3, h4, h5, h6, h7, h8, h9, h10⟩ := run_storeCells P arr ⟨inf.blk, inf.base + off + len * sz', none⟩ 0 w barr rfl (fun _ => .inl rfl) e4
                    (by simp; omega) (fun k hk => by simp; omega) hf3
                  exact ⟨w', arr', h1, h2, h3, fun k => by have := h4 k; simpa using this, h5, h6, h7, h8, h9⟩
              obtain ⟨w', arr', h1, h2, h3, h4, h5, h6, h7, h8, h9⟩ := hst
              have hrun := A.room (a := a) (sLen := len) (sCap := c) hroom h1
              have hw := Rel.write h (j := ⟨inf.blk, inf.base + off, c * sz', v' + 1⟩) (new := (cs.drop off).take (len * sz') ++ new) hS hr (v' + 1) (.inr ⟨by simp; omega, rfl⟩) rfl h2
                (by simp; omega) (by simp only [List.length_append, hol, hnl]; omega) (by rw [h3]; exact e6) ?_ ?_ h5 h6 h7 h8 h9
              · refine ⟨_, w', _, hrun, ?_, hw.1, hw.2⟩
                refine .sl _ _ _ _ _ ⟨inf.blk, inf.base + off, c * sz', v' + 1⟩ _ _ ?_ (Nat.le_refl _) hroom (fun _ => ⟨by simp, ?_⟩)
                · show (κ.blocks.set r _)[r]? = _
                  simp [hlt]
                · rcases (hext hvv).2 with h0 | h0
                  · exact .inl h0
                  · exact .inr (by simp [h0])
              · intro k p q hp hq
                simp only at hq
                rw [h4] at hq
                rw [List.getElem?_append, hol] at hp
                by_cases hk : k < len * sz'
                · rw [if_pos hk, List.getElem?_take, if_pos hk, List.getElem?_drop] at hp
                  rw [if_neg (by omega)] at hq
                  exact e7 (off + k) p q hp (by rw [← Nat.add_assoc]; exact hq)
                · rw [if_neg hk] at hp
                  have hkl : k - len * sz' < new.length := (List.getElem?_eq_some_iff.1 hp).1
                  rw [if_pos (by omega)] at hq
                  exact hf2.2 (k - len * sz') p q hp (by rw [← hq]; congr 1; omega)
              · intro k q hk hq
                simp only at hq
                rw [h4] at hq
                split at hq
                · exact hf3 q (List.mem_of_getElem? hq)
                · rename_i hne
                  simp only [List.length_append, hol, hnl] at hk
                  exact e8 (off + k) q (by omega) (by rw [← Nat.add_assoc]; exact hq)
            · -- it grows
              obtain ⟨_, _, hofc⟩ := cellsOf_ok (P := P) h.drew hxr2 (sz := sz') (n := len) (cs := (cs.drop off).take (len * sz')) (by simp [cellsOf, hS, hle])
              obtain ⟨old, o1, o2, o3⟩ := hofc len (Nat.le_refl _)
              rw [List.take_of_length_le (by omega)] at o2
              obtain ⟨cap, hcap, hrun⟩ := A.grow (old := old) (base := some a) (sLen := len) (sCap := c)
                (fun w1 h1 => by rw [h1]; exact o1) (by omega) hbb
              obtain ⟨k1, k2, k3⟩ := lit_cells (κ := κ) (cs := (cs.drop off).take (len * sz') ++ new) (a := old) (b := arrd) (z := (Builtin.zeroCells z.cells (cap - (len + n))).toList)
                (arr := old.toArray ++ arrd.toArray ++ Builtin.zeroCells z.cells (cap - (len + n))) (by simp) (o2.append hd2) (by intro q hq; rcases List.mem_append.1 hq with hq | hq; exact o3 q hq; exact hd3 q hq)
              obtain ⟨m1, m2⟩ := Rel.move h.drew hS hr _ e k1 k2 k3
              refine ⟨_, _, _, hrun, ?_, m1, m2⟩
              refine .sl _ _ _ _ _ ⟨w.heap.size, 0, (old.toArray ++ arrd.toArray ++ Builtin.zeroCells z.cells (cap - (len + n))).size, v' + 1⟩ _ _ ?_ (Nat.le_refl _) hcap (fun _ => ⟨?_, .inr rfl⟩)
              · show (κ.blocks.set r _)[r]? = _
                simp [hlt]
              · have ha : arrd.length = n * sz' := by rw [← hnl]; exact hd2.1.symm
                have hb : old.length = len * sz' := by rw [← hol]; exact o2.1.symm
                simp [zeroCells_size, hzsz, ha, hb]
                rw [← Nat.add_mul, ← Nat.add_mul]; exact Nat.mul_le_mul_right _ (by omega)
        · simp at hv
      · simp at hv
    · simp at hv


theorem append_ok (h : Rel W κ S w) {ts tx ty e : TypeId} {sz bytes : Nat} {d : TypeDesc} {zero : List AVal} (ht : P.underlying ts = some (.slice e)) (hx : P.underlying tx = some d) (hd : notInt d = true)
    (hsz : sizeP P e = some sz) (hby : bytesP P e = some bytes) (hb0 : bytes ≠ 0) (hz : zeroA P e = some zero) (hzl : zero.length = sz)
    {x y v : AVal} {x' y' : Value} {S' : St} (hxr : VRel κ x x') (hyr : VRel κ y y') (hv : appendA sz bytes x y S = some (v, S')) :
    Runs P W κ w (Builtin.append_ #[ts, tx] ty #[x', y']) v S' := by
  rw [appendA_eq] at hv
  split at hv
  · simp at hv
  · rename_i n new hc
    obtain ⟨hlenof, hnl, hfc⟩ := cellsOf_ok (P := P) h hyr hc
    obtain ⟨_, _, hfcd⟩ := cellsOf_ok (P := P) h.drew hyr hc
    obtain ⟨arr, hf1, hf2, hf3⟩ := hfc n (Nat.le_refl _)
    obtain ⟨arrd, hd1, hd2, hd3⟩ := hfcd n (Nat.le_refl _)
    rw [List.take_of_length_le (by omega)] at hf2 hd2
    obtain ⟨i, z, hi, hzz, hzr, hzs⟩ := zeroA_rel hz κ
    have hzsz : z.cells.size = sz := by have := hzr.1; simp at this; omega
    exact append_core h hzsz (arr := arr) (arrd := arrd) ⟨fun hr hs => run_append_room ht hx hd hsz hlenof hf1 hr hs, fun h0 => by subst h0; exact run_append_nil0 ht hx hd hsz hlenof hf1,
      fun ho hr hb => run_append_grow ht hx hd hsz hby ⟨i, hi, hzz⟩ hlenof (fun w1 h1 => by rw [h1]; exact hd1) ho hr hb hb0⟩ hnl hf2 hf3 hd2 hd3 hxr hv

theorem appR_ok (h : Rel W κ S w) {ts tx ty e : TypeId} {sz : Nat} {d : TypeDesc} (ht : P.underlying ts = some (.slice e)) (hx : P.underlying tx = some d) (hd : notInt d = true)
    (hsz : sizeP P e = some sz) {x y v : AVal} {x' y' : Value} {S' : St} (hxr : VRel κ x x') (hyr : VRel κ y y') {n : Nat} {new : List AVal} (hc : cellsOf sz y S = some (n, new)) (hv : appendR x sz n new S = some (v, S')) :
    Runs P W κ w (Builtin.append_ #[ts, tx] ty #[x', y']) v S' := by
  obtain ⟨hlenof, hnl, hfc⟩ := cellsOf_ok (P := P) h hyr hc
  obtain ⟨arr, hf1, hf2, hf3⟩ := hfc n (Nat.le_refl _)
  rw [List.take_of_length_le (by omega)] at hf2
  unfold appendR at hv
  split at hv
  rotate_left
  · simp at hv
  rename_i r u off len mc sz'
  split at hv
  rotate_left
  · simp at hv
  rename_i v' cs hS
  split at hv
  rotate_left
  · simp at hv
  rename_i hcnd
  obtain ⟨rfl, rfl, hmc, hle⟩ := hcnd
  cases hv
  cases hxr with
  | slm _ _ _ _ _ _ inf a c hr hver hlm hmcc hext =>
    have hvv : v' = inf.ver := ((h.own r v' cs inf hS hr).1).symm
    rw [Nat.add_mul] at hle
    obtain ⟨w', h1, h2⟩ := Rel.storeCells (P := P) h (off := off + len * sz') hS hr hf2 hf3 (by omega) (a := a.add (len * sz')) (fun hne => by
      have hn : n ≠ 0 := by
        intro h0; subst h0
        exact hne (List.length_eq_zero_iff.1 (by simpa using hnl))
      rcases (hext hvv).2 with h0 | h0
      · omega
      · rw [h0, add_plain, Nat.add_assoc])
    have hrun := run_append_room (P := P) (w := w) (ty := ty) (a := a) (sLen := len) (sCap := c) ht hx hd hsz hlenof hf1 (by omega) h1
    exact ⟨_, w', κ, hrun, .slm _ _ _ _ _ _ inf a c hr hver (by omega) hmcc hext, h2, Kap.le_refl κ⟩
end Am
