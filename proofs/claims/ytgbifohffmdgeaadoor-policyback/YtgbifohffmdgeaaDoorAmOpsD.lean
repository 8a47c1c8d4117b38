/- Each operation of the machine stands for the model's: slices of memory, append, copy, make, texts. -/
import Derived.Test.YtgbifohffmdgeaaDoorAmOpsC
import Derived.Laws.MakeOwn
import Derived.Laws.BytesString
set_option linter.all false
namespace Am
open Go Go.RowKit

variable {P : Program} {W : World} {κ : Kap} {S : St} {w : World}

/-- What the operands of a slice expression need. -/
structure Lims (κ : Kap) (lo hi : Option AVal) (lo' hi' : Option Value) : Prop where
  l1 : ∀ x, lo = some x → ∃ y, lo' = some y ∧ VRel κ x y
  l0 : lo = none → lo' = none
  h1 : ∀ x, hi = some x → ∃ y, hi' = some y ∧ VRel κ x y
  h0 : hi = none → hi' = none

theorem slcM_ok (h : Rel W κ S w) {t e : TypeId} {sz : Nat} (ht : P.underlying t = some (.slice e)) (hsz : sizeP P e = some sz) {x v : AVal} {lo hi : Option AVal} {x' : Value} {lo' hi' : Option Value}
    (hx : VRel κ x x') (hl : Lims κ lo hi lo' hi') (hv : slcMA sz x lo hi = some v) : Runs P W κ w (Instr.sliceAt t x' lo' hi' none) v S := by
  unfold slcMA at hv
  split at hv
  · rename_i r u off len sz'
    split at hv
    · rename_i l hh hb
      split at hv
      · rename_i hs; subst hs
        cases hv
        cases hx with
        | sl _ _ _ _ _ inf a c hr hver hlc hext =>
          obtain ⟨h1, h2, h3⟩ := bounds_ok (P := P) (κ := κ) hb hl.l1 hl.l0 hl.h1 hl.h0 true c hlc w
          refine .pure h (v' := .slice (if c = l then some a else (some a).map (·.add (l * sz'))) (hh - l) (c - l)) ?_ ?_
          · simp [Instr.sliceAt, Instr.slice, run_und ht, h1, run_size hsz]
          · have hmul : l * sz' + (c - l) * sz' = c * sz' := by rw [← Nat.add_mul]; congr 1; omega
            by_cases hcl : c = l
            · rw [if_pos hcl]
              exact .slm _ _ _ _ _ _ inf a _ hr hver (by omega) (by omega) (fun e => by have := (hext e).1; exact ⟨by rw [Nat.add_assoc, hmul]; exact this, .inl (by omega)⟩)
            · rw [if_neg hcl]
              refine .slm _ _ _ _ _ _ inf _ _ hr hver (by omega) (by omega) (fun e => ?_)
              have := hext e
              refine ⟨by rw [Nat.add_assoc, hmul]; exact this.1, .inr ?_⟩
              rcases this.2 with h0 | h0
              · omega
              · rw [h0]; show Addr.add _ _ = _; rw [add_plain, Nat.add_assoc]
      · simp at hv
    · simp at hv
  · rename_i r u off len mc sz' hq
    split at hv
    · rename_i l hh hb
      split at hv
      · rename_i hs; subst hs
        cases hv
        cases hx with
        | slm _ _ _ _ _ _ inf a c hr hver hlm hmc hext =>
          obtain ⟨h1, h2, h3⟩ := bounds_ok (P := P) (κ := κ) hb hl.l1 hl.l0 hl.h1 hl.h0 true c hmc w
          obtain ⟨q', hq', _⟩ := hl.h1 _ rfl
          have hse : Instr.sliceBounds true len c lo' hi' none = Instr.sliceBounds true mc c lo' hi' none := by rw [hq']; rfl
          refine .pure h (v' := .slice (if c = l then some a else (some a).map (·.add (l * sz'))) (hh - l) (c - l)) ?_ ?_
          · simp [Instr.sliceAt, Instr.slice, run_und ht, hse, h1, run_size hsz]
          · have hmul : l * sz' + (c - l) * sz' = c * sz' := by rw [← Nat.add_mul]; congr 1; omega
            by_cases hcl : c = l
            · rw [if_pos hcl]
              exact .sl _ _ _ _ _ inf a _ hr hver (by omega) (fun e => by have := (hext e).1; exact ⟨by rw [Nat.add_assoc, hmul]; exact this, .inl (by omega)⟩)
            · rw [if_neg hcl]
              refine .sl _ _ _ _ _ inf _ _ hr hver (by omega) (fun e => ?_)
              have := hext e
              refine ⟨by rw [Nat.add_assoc, hmul]; exact this.1, .inr ?_⟩
              rcases this.2 with h0 | h0
              · omega
              · rw [h0]; show Addr.add _ _ = _; rw [add_plain, Nat.add_assoc]
      · simp at hv
    · simp at hv
  · simp at hv

theorem slcS_ok (h : Rel W κ S w) {t e : TypeId} {sz : Nat} (ht : P.underlying t = some (.slice e)) (hsz : sizeP P e = some sz) {x v : AVal} {lo hi : Option AVal} {x' : Value} {lo' hi' : Option Value}
    (hx : VRel κ x x') (hl : Lims κ lo hi lo' hi') (hv : slcSA sz x lo hi = some v) : Runs P W κ w (Instr.sliceAt t x' lo' hi' none) v S := by
  unfold slcSA at hv
  split at hv
  · split at hv
    · rename_i p hb
      obtain ⟨l, hh⟩ := p
      cases hv
      cases hx
      obtain ⟨h1, h2, h3⟩ := bounds_ok (P := P) (κ := κ) hb hl.l1 hl.l0 hl.h1 hl.h0 true 0 (Nat.le_refl _) w
      have : l = 0 ∧ hh = 0 := by omega
      obtain ⟨rfl, rfl⟩ := this
      exact .pure h (v' := .slice none 0 0) (by simp [Instr.sliceAt, Instr.slice, run_und ht, h1, run_size hsz]) .nils
    · simp at hv
  · rename_i r u off len sz'
    split at hv
    · rename_i l hh hb
      split at hv
      · rename_i hs; subst hs
        cases hv
        cases hx with
        | sl _ _ _ _ _ inf a c hr hver hlc hext =>
          obtain ⟨h1, h2, h3⟩ := bounds_ok (P := P) (κ := κ) hb hl.l1 hl.l0 hl.h1 hl.h0 true c hlc w
          refine .pure h (v' := .slice (if c = l then some a else (some a).map (·.add (l * sz'))) (hh - l) (c - l)) ?_ ?_
          · simp [Instr.sliceAt, Instr.slice, run_und ht, h1, run_size hsz]
          · have hmul : l * sz' + (c - l) * sz' = c * sz' := by rw [← Nat.add_mul]; congr 1; omega
            by_cases hcl : c = l
            · rw [if_pos hcl]
              exact .sl _ _ _ _ _ inf a _ hr hver (by omega) (fun e => by have := (hext e).1; exact ⟨by rw [Nat.add_assoc, hmul]; exact this, .inl (by omega)⟩)
            · rw [if_neg hcl]
              refine .sl _ _ _ _ _ inf _ _ hr hver (by omega) (fun e => ?_)
              have := hext e
              refine ⟨by rw [Nat.add_assoc, hmul]; exact this.1, .inr ?_⟩
              rcases this.2 with h0 | h0
              · omega
              · rw [h0]; show Addr.add _ _ = _; rw [add_plain, Nat.add_assoc]
      · simp at hv
    · simp at hv
  · rename_i full len cells
    split at hv
    · rename_i l hh hb
      split at hv
      · rename_i hcl
        cases hv
        have hx2 := hx
        cases hx with
        | fz _ _ _ a c ys hc hfull hs hlen hsc hk hr =>
          obtain ⟨h1, h2, h3⟩ := bounds_ok (P := P) (κ := κ) hb hl.l1 hl.l0 hl.h1 hl.h0 true c hc w
          refine .pure h (v' := .slice (if c = l then some a else (some a).map (·.add (l * sz))) (hh - l) (c - l)) ?_ ?_
          · simp [Instr.sliceAt, Instr.slice, run_und ht, h1, run_size hsz]
          · have hfq := fz_fq hx2
            have hfull' : (full && decide (hh = len)) = true → c - l = hh - l := by
              intro hb; simp at hb; rw [hfull hb.1, hb.2]
            by_cases hcl' : c = l
            · rw [if_pos hcl']
              have : hh - l = 0 := by omega
              rw [this]
              exact .fz _ 0 _ a _ [] (by omega) (by intro hb; rw [this] at hfull'; exact hfull' hb) (by simp) (by simp) (by simp) (by simp) (by simp)
            · rw [if_neg hcl']
              obtain ⟨a', ha', hr'⟩ := ptr_add (off := l * sz) hfq rfl
              cases ha'
              have hr'' := fq_take hr' ((hh - l) * sz)
              cases hr'' with
              | fq _ _ ys' g1 g2 g3 g4 g5 => exact .fz _ _ _ _ _ ys' (by omega) hfull' g1 g2 g3 g4 g5
      · simp at hv
    · simp at hv
  · simp at hv

theorem slcA_ok (h : Rel W κ S w) {t e : TypeId} {sz len : Nat} (ht : P.underlying t = some (.array len e) ∨ ∃ arr, P.underlying t = some (.pointer arr) ∧ P.underlying arr = some (.array len e)) (hsz : sizeP P e = some sz)
    {x v : AVal} {lo hi : Option AVal} {x' : Value} {lo' hi' : Option Value}
    (hx : VRel κ x x') (hl : Lims κ lo hi lo' hi') (hv : slcAA sz len x lo hi S = some v) : Runs P W κ w (Instr.sliceAt t x' lo' hi' none) v S := by
  unfold slcAA at hv
  split at hv
  · simp at hv
  · rename_i l hh hb
    obtain ⟨h1, h2, h3⟩ := bounds_ok (P := P) (κ := κ) hb hl.l1 hl.l0 hl.h1 hl.h0 false len (Nat.le_refl _) w
    have run : ∀ a, x' = .pointer (some a) → (Instr.sliceAt t x' lo' hi' none).run P w = .ok (.slice (some (if len = l then a else a.add (l * sz))) (hh - l) (len - l)) w := by
      rintro a rfl
      rcases ht with ht | ⟨arr, ht, harr⟩
      · simp [Instr.sliceAt, run_und ht, Instr.sureAddr, h1, run_size hsz]
      · simp [Instr.sliceAt, Instr.slice, run_und ht, run_und harr, asAddr, h1, run_size hsz]
    have hmul : l * sz + (len - l) * sz = len * sz := by rw [← Nat.add_mul]; congr 1; omega
    split at hv
    · rename_i r u off
      split at hv
      · rename_i v' cs hS
        split at hv
        · rename_i hc
          obtain ⟨rfl, hle⟩ := hc
          cases hv
          cases hx with
          | ptr _ _ _ inf a hr hver hext =>
            obtain ⟨e1, e2, e3, _⟩ := h.own r v' cs inf hS hr
            refine .pure h (run a rfl) (.sl _ _ _ _ _ inf _ _ hr hver (by omega) (fun e => ⟨by omega, ?_⟩))
            by_cases hll : len = l
            · left; omega
            · right; rw [if_neg hll, hext e, add_plain, Nat.add_assoc]
        · simp at hv
      · simp at hv
    · rename_i cells
      split at hv
      · rename_i hle
        cases hv
        have hx2 := hx
        cases hx with
        | fq _ a ys g1 g2 g3 g4 g5 =>
          refine .pure h (run a rfl) ?_
          by_cases hll : len = l
          · rw [if_pos hll]
            have : hh - l = 0 := by omega
            rw [this]
            exact .fz _ 0 _ a _ [] (by omega) (by intro _; omega) (by simp) (by simp) (by simp) (by simp) (by simp)
          · rw [if_neg hll]
            obtain ⟨a', ha', hr'⟩ := ptr_add (off := l * sz) hx2 rfl
            cases ha'
            have hr'' := fq_take hr' ((hh - l) * sz)
            cases hr'' with
            | fq _ _ ys' k1 k2 k3 k4 k5 => exact .fz _ _ _ _ _ ys' (by omega) (by intro hb; simp at hb; omega) k1 k2 k3 k4 k5
      · simp at hv
    · simp at hv

def LenT.fits (t : LenT) (d : TypeDesc) : Prop :=
  match t, d with
  | .str, .string => True
  | .sl, .slice _ => True
  | .map, .map .. => True
  | _, _ => False

theorem len_ok (h : Rel W κ S w) {t : TypeId} {d : TypeDesc} (ht : P.underlying t = some d) {q : LenT} (hq : q.fits d) {x v : AVal} {x' : Value} (hx : VRel κ x x')
    (hv : lenA q x = some v) (ty : TypeId) (rest : List TypeId) : Runs P W κ w (Builtin.len_ (t :: rest).toArray ty #[x']) v S := by
  have key : ∃ v', (Builtin.len_ (t :: rest).toArray ty #[x']).run P w = .ok v' w ∧ VRel κ v v' := by
    unfold lenA at hv
    split at hv
    case h_7 => simp at hv
    all_goals
      cases hv
      cases d <;> simp only [LenT.fits] at hq
    case h_1 =>
      cases hx with
      | str _ b hs => exact ⟨_, by simp [Builtin.len_, run_und ht, goInt]; rfl, by rw [size_eq, hs]; exact .int _ _⟩
    all_goals (cases hx; refine ⟨_, ?_, .int _ _⟩; simp [Builtin.len_, run_und ht, goInt])
  obtain ⟨v', h1, h2⟩ := key
  exact .pure h h1 h2

theorem mk_ok (h : Rel W κ S w) {t e : TypeId} {sz bytes : Nat} {zero : List AVal} (ht : P.underlying t = some (.slice e)) (hsz : sizeP P e = some sz) (hby : bytesP P e = some bytes) (hz : zeroA P e = some zero)
    {l c v : AVal} {S' : St} {l' c' : Value} (hl : VRel κ l l') (hc : VRel κ c c') (hv : mkA sz bytes zero l c S = some (v, S')) : Runs P W κ w (Instr.makeSlice t l' c') v S' := by
  unfold mkA at hv
  split at hv
  · rename_i k l k' c
    split at hv
    · rename_i hcnd
      obtain ⟨h0, hlc, hb, h63, hzl⟩ := hcnd
      cases hv
      cases hl; cases hc
      obtain ⟨i, hi, hisz⟩ := sizeP_info hsz
      obtain ⟨i', hi', hiby⟩ := bytesP_info hby
      rw [hi] at hi'; cases hi'
      obtain ⟨i', z, hi', hzz, hzr, hzs⟩ := zeroA_rel hz κ
      rw [hi] at hi'; cases hi'
      have hrun := run_make (P := P) w t e i z ht hi hzz k k' l c h0 hlc (by rw [hiby, Int.mul_comm]; exact hb) h63
      have hzlen : z.cells.size = sz := by have := hzr.1; simp at this; omega
      have hmsz : (madeCells z.cells (c.toNat * i.size)).size = c.toNat * sz := by rw [size_madeCells, hisz]
      have hsc : ∀ (j : Nat) y, (madeCells z.cells (c.toNat * i.size))[j]? = some y → scalar y ∧ z.cells[j % sz]? = some y := by
        intro j y hy
        have hj : j < c.toNat * sz := by rw [← hmsz]; exact (Array.getElem?_eq_some_iff.1 hy).1
        have hsz0 : 0 < sz := by
          rcases Nat.eq_zero_or_pos sz with h | h
          · rw [h] at hj; simp at hj
          · exact h
        have hm : j % sz < z.cells.size := by rw [hzlen]; exact Nat.mod_lt _ hsz0
        simp only [madeCells, Array.getElem?_map, Array.getElem?_range, Option.map_eq_some_iff] at hy
        obtain ⟨q, hq, hy⟩ := hy
        split at hq
        · cases hq
          rw [hzlen, getElem!_pos z.cells (j % sz) hm] at hy
          exact ⟨hzs y (by rw [← hy]; simp), by rw [← hy]; simp [hm]⟩
        · simp at hq
      have hrepl : ∀ (j : Nat) x, (List.replicate l.toNat zero).flatten[j]? = some x → zero[j % sz]? = some x := by
        generalize l.toNat = n
        induction n with
        | zero => intro j x hx; simp at hx
        | succ n ih =>
          intro j x hx
          rw [List.replicate_succ, List.flatten_cons, List.getElem?_append, hzl] at hx
          split at hx
          · rename_i hj; rw [Nat.mod_eq_of_lt hj]; exact hx
          · rename_i hj
            have := ih (j - sz) x hx
            rw [Nat.mod_eq_sub_mod (by omega)]; exact this
      have hflen : (List.replicate l.toNat zero).flatten.length = l.toNat * sz := by simp [hzl]
      have hle : l.toNat * sz ≤ c.toNat * sz := Nat.mul_le_mul_right _ (by omega)
      refine ⟨_, _, κ.add ⟨w.heap.size, 0, (madeCells z.cells (c.toNat * i.size)).size, 0⟩, hrun, ?_, ?_, Kap.le_add _ _⟩
      · refine .sl _ _ _ _ _ ⟨w.heap.size, 0, (madeCells z.cells (c.toNat * i.size)).size, 0⟩ _ _ ?_ (Nat.le_refl _) (by omega) (fun _ => ⟨by rw [hmsz]; simp, .inr rfl⟩)
        show (κ.blocks ++ [_])[S.length]? = _
        rw [← h.len]; simp
      · refine h.alloc _ e _ (by rw [hflen, hmsz]; exact hle) ?_ ?_
        · intro j x y hx hy
          exact hzr.2 (j % sz) x y (hrepl j x hx) (by simpa using (hsc j y hy).2)
        · intro j y _ hy
          exact (hsc j y hy).1
    · simp at hv
  · simp at hv

theorem mkM_ok (h : Rel W κ S w) {t e : TypeId} {sz bytes : Nat} {zero : List AVal} (ht : P.underlying t = some (.slice e)) (hsz : sizeP P e = some sz) (hby : bytesP P e = some bytes) (hz : zeroA P e = some zero)
    {l c v : AVal} {S' : St} {l' c' : Value} (hl : VRel κ l l') (hc : VRel κ c c') (hv : mkM sz bytes zero l c S = some (v, S')) : Runs P W κ w (Instr.makeSlice t l' c') v S' := by
  unfold mkM at hv
  split at hv
  · rename_i k l k' c
    split at hv
    · rename_i hcnd
      obtain ⟨h0, hlc, hb, h63, hzl⟩ := hcnd
      cases hv
      cases hl; cases hc
      obtain ⟨i, hi, hisz⟩ := sizeP_info hsz
      obtain ⟨i', hi', hiby⟩ := bytesP_info hby
      rw [hi] at hi'; cases hi'
      obtain ⟨i', z, hi', hzz, hzr, hzs⟩ := zeroA_rel hz κ
      rw [hi] at hi'; cases hi'
      have hrun := run_make (P := P) w t e i z ht hi hzz k k' l c h0 hlc (by rw [hiby, Int.mul_comm]; exact hb) h63
      have hzlen : z.cells.size = sz := by have := hzr.1; simp at this; omega
      have hmsz : (madeCells z.cells (c.toNat * i.size)).size = c.toNat * sz := by rw [size_madeCells, hisz]
      have hsc : ∀ (j : Nat) y, (madeCells z.cells (c.toNat * i.size))[j]? = some y → scalar y ∧ z.cells[j % sz]? = some y := by
        intro j y hy
        have hj : j < c.toNat * sz := by rw [← hmsz]; exact (Array.getElem?_eq_some_iff.1 hy).1
        have hsz0 : 0 < sz := by
          rcases Nat.eq_zero_or_pos sz with h | h
          · rw [h] at hj; simp at hj
          · exact h
        have hm : j % sz < z.cells.size := by rw [hzlen]; exact Nat.mod_lt _ hsz0
        simp only [madeCells, Array.getElem?_map, Array.getElem?_range, Option.map_eq_some_iff] at hy
        obtain ⟨q, hq, hy⟩ := hy
        split at hq
        · cases hq
          rw [hzlen, getElem!_pos z.cells (j % sz) hm] at hy
          exact ⟨hzs y (by rw [← hy]; simp), by rw [← hy]; simp [hm]⟩
        · simp at hq
      have hrepl : ∀ (j : Nat) x, (List.replicate c.toNat zero).flatten[j]? = some x → zero[j % sz]? = some x := by
        generalize c.toNat = n
        induction n with
        | zero => intro j x hx; simp at hx
        | succ n ih =>
          intro j x hx
          rw [List.replicate_succ, List.flatten_cons, List.getElem?_append, hzl] at hx
          split at hx
          · rename_i hj; rw [Nat.mod_eq_of_lt hj]; exact hx
          · rename_i hj
            have := ih (j - sz) x hx
            rw [Nat.mod_eq_sub_mod (by omega)]; exact this
      have hflen : (List.replicate c.toNat zero).flatten.length = c.toNat * sz := by simp [hzl]
      have hle : l.toNat * sz ≤ c.toNat * sz := Nat.mul_le_mul_right _ (by omega)
      refine ⟨_, _, κ.add ⟨w.heap.size, 0, (madeCells z.cells (c.toNat * i.size)).size, 0⟩, hrun, ?_, ?_, Kap.le_add _ _⟩
      · refine .slm _ _ _ _ _ _ ⟨w.heap.size, 0, (madeCells z.cells (c.toNat * i.size)).size, 0⟩ _ _ ?_ (Nat.le_refl _) (by omega) (Nat.le_refl _) (fun _ => ⟨by rw [hmsz]; simp, .inr rfl⟩)
        show (κ.blocks ++ [_])[S.length]? = _
        rw [← h.len]; simp
      · refine h.alloc _ e _ (by rw [hflen, hmsz]; exact Nat.le_refl _) ?_ ?_
        · intro j x y hx hy
          exact hzr.2 (j % sz) x y (hrepl j x hx) (by simpa using (hsc j y hy).2)
        · intro j y _ hy
          exact (hsc j y hy).1
    · simp at hv
  · simp at hv

theorem cellsOf_ok (h : Rel W κ S w) {sz : Nat} {y : AVal} {y' : Value} (hy : VRel κ y y') {n : Nat} {cs : List AVal} (hc : cellsOf sz y S = some (n, cs)) :
    (Builtin.lenOf y').run P w = .ok n w ∧ cs.length = n * sz ∧
    ∀ m, m ≤ n → ∃ arr : List Value, (Builtin.firstCells sz m y').run P w = .ok arr.toArray w ∧ VRelL κ (cs.take (m * sz)) arr ∧ (∀ z ∈ arr, scalar z) := by
  unfold cellsOf at hc
  split at hc
  · cases hc; cases hy
    refine ⟨by simp [Builtin.lenOf], by simp, fun m hm => ⟨[], by simp [Builtin.firstCells], ?_, by simp⟩⟩
    simp; exact .nil κ
  · rename_i full len cells
    split at hc
    · rename_i hlen
      cases hc
      have hfq := hy
      cases hy with
      | fz _ _ _ a c ys g1 g2 g3 g4 g5 g6 g7 =>
        obtain ⟨a', ys', he, k1, k2, k3⟩ := avail_of h (fz_fq hfq) (S := S) (cs := cs) rfl
        cases he
        refine ⟨by simp [Builtin.lenOf], hlen, fun m hm => ⟨ys'.take (m * sz), ?_, k1.take _, fun z hz => k2 z (List.mem_of_mem_take hz)⟩⟩
        simp only [Builtin.firstCells]
        have : m * sz ≤ n * sz := Nat.mul_le_mul_right _ hm
        exact run_loadCells P w _ _ _ (by simp; have := k1.1; omega) (k3.take _)
    · simp at hc
  · rename_i r u off len sz'
    split at hc
    · rename_i v' cells hS
      split at hc
      · rename_i hcnd
        obtain ⟨rfl, rfl, hle⟩ := hcnd
        cases hc
        cases hy with
        | sl _ _ _ _ _ inf a c hr hver hlc hext =>
          obtain ⟨ys, k1, k2, k3⟩ := h.cells hS hr
          have hvv : v' = inf.ver := ((h.own r v' cells inf hS hr).1).symm
          refine ⟨by simp [Builtin.lenOf], by simp; omega, fun m hm => ?_⟩
          have hmm : m * sz' ≤ n * sz' := Nat.mul_le_mul_right _ hm
          refine ⟨((ys.drop off).take (n * sz')).take (m * sz'), ?_, ((k1.drop off).take _).take _, fun z hz => k2 z (List.mem_of_mem_drop (List.mem_of_mem_take (List.mem_of_mem_take hz)))⟩
          simp only [Builtin.firstCells]
          have hlen := k1.1
          refine run_loadCells P w _ _ _ (by simp; omega) ?_
          by_cases hm0 : m * sz' = 0
          · rw [hm0]; intro j y hy; simp only [List.take_zero, List.getElem?_nil, reduceCtorEq] at hy
          · have hc0 : c ≠ 0 := by intro h0; subst h0; have : n = 0 := by omega
                                   subst this; rw [Nat.zero_mul] at hmm; omega
            rcases (hext hvv).2 with h0 | h0
            · exact absurd h0 hc0
            · rw [h0, ← add_plain]
              exact ((k3.drop off).take _).take _
      · simp at hc
    · simp at hc
  · rename_i s
    split at hc
    · rename_i h1; subst h1
      cases hc
      cases hy with
      | str _ b hb =>
        subst hb
        refine ⟨by simp only [Builtin.lenOf, Sem.run_pure]; rw [size_eq], by simp, fun m hm => ⟨(b.data.toList.take m).map fun b => .int .u8 b.toNat, ?_, ?_, ?_⟩⟩
        · simp only [Builtin.firstCells, Sem.run_pure]
          congr 1
          apply Array.ext'
          simp [ByteArray.data_extract, List.extract_eq_take_drop]
        · rw [← List.map_take, Nat.mul_one]
          refine ⟨by simp, fun j x y hx hy => ?_⟩
          simp only [List.getElem?_map, Option.map_eq_some_iff] at hx hy
          obtain ⟨p, hp, rfl⟩ := hx
          obtain ⟨q, hq, rfl⟩ := hy
          rw [hp] at hq; cases hq
          exact .int _ _
        · intro z hz
          obtain ⟨p, _, rfl⟩ := List.mem_map.1 hz
          trivial
    · simp at hc
  · simp at hc
end Am
