/- What a call made and hands back may be told in place, and what is left over be forgotten. -/
import Derived.Test.YtffhiphcmohjdaaGreatDoorAmFun
set_option linter.all false
namespace Am
open Go Go.RowKit

/-- A value in which each block from n on is told in place. -/
def deep (S : St) (n : Nat) : Nat → AVal → Option AVal
  | 0, _ => none
  | k + 1, v => match v with
    | .sl r v off len sz => if r < n then some (.sl r v off len sz) else match S[r]? with
      | some (.live v' cells) => if v' = v ∧ off + len * sz ≤ cells.length then (((cells.drop off).take (len * sz)).mapM (deep S n k)).map (.fz false len) else none
      | _ => none
    | .slm r v off len mc sz => if r < n then some (.slm r v off len mc sz) else none
    | .ptr r v off => if r < n then some (.ptr r v off) else match S[r]? with
      | some (.live v' cells) => if v' = v ∧ off ≤ cells.length then ((cells.drop off).mapM (deep S n k)).map .fq else none
      | _ => none
    | .fz full len cells => (cells.mapM (deep S n k)).map (.fz full len)
    | .fq cells => (cells.mapM (deep S n k)).map .fq
    | .agg cells => (cells.mapM (deep S n k)).map .agg
    | .tup cells => (cells.mapM (deep S n k)).map .tup
    | .iface t v => (deep S n k v).map (.iface t)
    | .fn f a b => match a.mapM (deep S n k), b.mapM (deep S n k) with
      | some a, some b => some (.fn f a b)
      | _, _ => none
    | .yld j => if j < n then some (.yld j) else none
    | .mpv j => if j < n then some (.mpv j) else none
    | v => some v

mutual
/-- No reference to a block from n on. -/
def closedV (n : Nat) : AVal → Bool
  | .sl r _ _ _ _ => decide (r < n)
  | .slm r _ _ _ _ _ => decide (r < n)
  | .ptr r _ _ => decide (r < n)
  | .fz _ _ cs => closedL n cs
  | .fq cs => closedL n cs
  | .agg cs => closedL n cs
  | .tup cs => closedL n cs
  | .iface _ v => closedV n v
  | .fn _ a b => closedL n a && closedL n b
  | .yld j => decide (j < n)
  | .mpv j => decide (j < n)
  | _ => true
def closedL (n : Nat) : List AVal → Bool
  | [] => true
  | c :: cs => closedV n c && closedL n cs
end

theorem closedL_iff {n : Nat} : ∀ {cs : List AVal}, closedL n cs = true ↔ ∀ c ∈ cs, closedV n c = true
  | [] => by simp [closedL]
  | c :: cs => by simp [closedL, closedL_iff (cs := cs)]

/-- The relation behind a call whose new blocks are told in place. -/
noncomputable def Kap.tell (κ : Kap) (n : Nat) (S : St) (w : World) : Kap where
  blocks := κ.blocks.take n
  lo := κ.lo
  recs := fun j => if j < n then κ.recs j else none
  res := κ.res
  fz := fun b o => match κ.fz b o with
    | some y => some y
    | none => open Classical in if ∃ r v cells i, n ≤ r ∧ S[r]? = some (.live v cells) ∧ κ.blocks[r]? = some i ∧ i.blk = b ∧ i.base ≤ o ∧ o < i.base + cells.length then w.cell? ⟨b, o, none⟩ else none

variable {P : Program} {W : World} {κ κ0 : Kap} {S S0 : St} {w : World} {n : Nat}

theorem tell_fz {b o : Nat} {y : Value} (h : κ.fz b o = some y) : (κ.tell n S w).fz b o = some y := by simp [Kap.tell, h]

theorem tell_blocks {r : Nat} (h : r < n) : (κ.tell n S w).blocks[r]? = κ.blocks[r]? := by
  simp [Kap.tell, List.getElem?_take, h]

theorem VRel.closed {c : AVal} {y : Value} (h : VRel κ c y) (hc : closedV n c = true) : VRel (κ.tell n S w) c y := by
  induction h with
  | junk x => exact .junk x
  | bool b => exact .bool b
  | int k m => exact .int k m
  | str s b h => exact .str s b h
  | ptr r v off i a hr hv h => simp [closedV] at hc; exact .ptr r v off i a (by rw [tell_blocks hc]; exact hr) hv h
  | nilp => exact .nilp
  | sl r v off len sz i a c hr hv hcc h => simp [closedV] at hc; exact .sl r v off len sz i a c (by rw [tell_blocks hc]; exact hr) hv hcc h
  | slm r v off len mc sz i a c hr hv hm hcc h => simp [closedV] at hc; exact .slm r v off len mc sz i a c (by rw [tell_blocks hc]; exact hr) hv hm hcc h
  | nils => exact .nils
  | fz full len cells a c ys hcc hfull hs hl hsc hk _ ih =>
    simp only [closedV, closedL_iff] at hc
    exact .fz full len cells a c ys hcc hfull hs hl hsc (fun j y hy => tell_fz (hk j y hy)) (fun j x y hx hy => ih j x y hx hy (hc x (List.mem_of_getElem? hx)))
  | fq cells a ys hs hl hsc hk _ ih =>
    simp only [closedV, closedL_iff] at hc
    exact .fq cells a ys hs hl hsc (fun j y hy => tell_fz (hk j y hy)) (fun j x y hx hy => ih j x y hx hy (hc x (List.mem_of_getElem? hx)))
  | fn f first captured first' captured' hl hl' _ _ ih ih' =>
    simp only [closedV, Bool.and_eq_true, closedL_iff] at hc
    exact .fn f first captured first' captured' hl hl' (fun j x y hx hy => ih j x y hx hy (hc.1 x (List.mem_of_getElem? hx))) (fun j x y hx hy => ih' j x y hx hy (hc.2 x (List.mem_of_getElem? hx)))
  | nilf => exact .nilf
  | iface t v x _ ih => simp only [closedV] at hc; exact .iface t v x (ih hc)
  | nili => exact .nili
  | agg cells ys hl hsc _ ih =>
    simp only [closedV, closedL_iff] at hc
    exact .agg cells ys hl hsc (fun j x y hx hy => ih j x y hx hy (hc x (List.mem_of_getElem? hx)))
  | tup cells ys hl _ ih =>
    simp only [closedV, closedL_iff] at hc
    exact .tup cells ys hl (fun j x y hx hy => ih j x y hx hy (hc x (List.mem_of_getElem? hx)))
  | mapn => exact .mapn
  | yld j l t i h hi =>
    have hj : j < n := by simpa [closedV] using hc
    exact .yld j l t i (by simp [Kap.tell, hj, h]) (by rw [tell_blocks hj]; exact hi)
  | mpv j l t i h hi =>
    have hj : j < n := by simpa [closedV] using hc
    exact .mpv j l t i (by simp [Kap.tell, hj, h]) (by rw [tell_blocks hj]; exact hi)

theorem VRel.isClosed {c : AVal} {y : Value} (h : VRel κ0 c y) (hn : κ0.blocks.length ≤ n) : closedV n c = true := by
  have lst : ∀ {cs : List AVal} {ys : List Value}, cs.length = ys.length → (∀ (j : Nat) x y, cs[j]? = some x → ys[j]? = some y → closedV n x = true) → closedL n cs = true := by
    intro cs ys hl h
    rw [closedL_iff]
    intro c hc
    obtain ⟨j, hj⟩ := List.getElem?_of_mem hc
    have hlt : j < ys.length := by rw [← hl]; exact (List.getElem?_eq_some_iff.1 hj).1
    exact h j c ys[j] hj (List.getElem?_eq_getElem hlt)
  induction h with
  | ptr r v off i a hr hv h => have := (List.getElem?_eq_some_iff.1 hr).1; simp [closedV]; omega
  | sl r v off len sz i a c hr hv hcc h => have := (List.getElem?_eq_some_iff.1 hr).1; simp [closedV]; omega
  | slm r v off len mc sz i a c hr hv hm hcc h => have := (List.getElem?_eq_some_iff.1 hr).1; simp [closedV]; omega
  | fz full len cells a c ys hcc hfull hs hl hsc hk _ ih => simp only [closedV]; exact lst hl ih
  | fq cells a ys hs hl hsc hk _ ih => simp only [closedV]; exact lst hl ih
  | fn f first captured first' captured' hl hl' _ _ ih ih' => simp only [closedV, Bool.and_eq_true]; exact ⟨lst hl ih, lst hl' ih'⟩
  | iface t v x _ ih => simp only [closedV]; exact ih
  | agg cells ys hl hsc _ ih => simp only [closedV]; exact lst hl ih
  | tup cells ys hl _ ih => simp only [closedV]; exact lst hl ih
  | yld j l t i h hi => have := (List.getElem?_eq_some_iff.1 hi).1; simp [closedV]; omega
  | mpv j l t i h hi => have := (List.getElem?_eq_some_iff.1 hi).1; simp [closedV]; omega
  | _ => simp [closedV]

theorem mapM_vrel {g : AVal → Option AVal} {κ' : Kap} (hg : ∀ c c' y, g c = some c' → VRel κ c y → VRel κ' c' y) {cs cs' : List AVal} (hm : cs.mapM g = some cs') {ys : List Value} (h : VRelL κ cs ys) : VRelL κ' cs' ys := by
  obtain ⟨h1, h2⟩ := mapM_rel hm
  refine ⟨by rw [h1]; exact h.1, fun j x y hx hy => ?_⟩
  have hlt : j < cs.length := by rw [← h1]; exact (List.getElem?_eq_some_iff.1 hx).1
  have hc : cs[j]? = some cs[j] := List.getElem?_eq_getElem hlt
  exact hg _ _ _ (h2 j _ _ hc hx) (h.2 j _ _ hc hy)

theorem tell_new (hr : Rel W κ S w) {r v : Nat} {cells : List AVal} {i : BInfo} (hn : n ≤ r) (hS : S[r]? = some (.live v cells)) (hi : κ.blocks[r]? = some i) {o : Nat} (ho : i.base ≤ o) (ho' : o < i.base + cells.length) {y : Value}
    (hy : w.cell? ⟨i.blk, o, none⟩ = some y) : (κ.tell n S w).fz i.blk o = some y := by
  simp only [Kap.tell]
  cases hx : κ.fz i.blk o with
  | some z => have := hr.fz _ _ _ hx; rw [this] at hy; simpa using hy
  | none =>
    simp only
    rw [if_pos ⟨r, v, cells, i, hn, hS, hi, rfl, ho, ho'⟩]; exact hy

theorem deep_ok (hr : Rel W κ S w) : ∀ (k : Nat) (c c' : AVal) (y : Value), deep S n k c = some c' → VRel κ c y → VRel (κ.tell n S w) c' y := by
  intro k
  induction k with
  | zero => intro c c' y h; simp [deep] at h
  | succ k ih =>
    intro c c' y h hv
    have hlist : ∀ {cs cs' : List AVal} {ys : List Value}, cs.mapM (deep S n k) = some cs' → VRelL κ cs ys → VRelL (κ.tell n S w) cs' ys := fun hm hl => mapM_vrel ih hm hl
    have hclosed : closedV n c = true → c' = c → VRel (κ.tell n S w) c' y := by rintro h1 rfl; exact hv.closed h1
    cases hv with
    | sl r v off len sz i a cp hb hver hcc hext =>
      simp only [deep] at h
      split at h
      · rename_i hlt; simp only [Option.some.injEq] at h; exact hclosed (by simpa [closedV] using hlt) h.symm
      · rename_i hge
        split at h
        · rename_i v' cells hS
          split at h
          · rename_i hcnd
            obtain ⟨rfl, hle⟩ := hcnd
            simp only [Option.map_eq_some_iff] at h
            obtain ⟨cs', hm, rfl⟩ := h
            obtain ⟨ys, k1, k2, k3⟩ := hr.cells hS hb
            have hvv : v' = i.ver := ((hr.own r v' cells i hS hb).1).symm
            have hl := hlist hm ((k1.drop off).take (len * sz))
            have hylen := k1.1
            have haddr : ((ys.drop off).take (len * sz)) ≠ [] → a = ⟨i.blk, i.base + off, none⟩ := by
              intro hne
              rcases (hext hvv).2 with h0 | h0
              · exfalso; apply hne; have : len = 0 := by omega
                subst this; simp
              · exact h0
            refine .fz false len cs' a cp ((ys.drop off).take (len * sz)) hcc (by simp) (fun hne => by rw [haddr hne]) hl.1 (fun z hz => k2 z (List.mem_of_mem_drop (List.mem_of_mem_take hz))) ?_ hl.2
            intro j z hz
            have hne : ((ys.drop off).take (len * sz)) ≠ [] := by intro h0; rw [h0] at hz; simp at hz
            rw [haddr hne]
            rw [List.getElem?_take] at hz
            split at hz
            · rename_i hj
              rw [List.getElem?_drop] at hz
              have hat := k3 _ z hz
              rw [add_plain] at hat
              have hol : off + j < cells.length := by rw [k1.1]; exact (List.getElem?_eq_some_iff.1 hz).1
              simp only
              rw [Nat.add_assoc]
              exact tell_new hr (by omega) hS hb (by omega) (by omega) hat
            · simp at hz
          · simp at h
        · simp at h
    | slm r v off len mc sz i a cp hb hver hm hcc hext =>
      simp only [deep] at h
      split at h
      · rename_i hj; simp only [Option.some.injEq] at h; exact hclosed (by simpa [closedV] using hj) h.symm
      · simp at h
    | ptr r v off i a hb hver hext =>
      simp only [deep] at h
      split at h
      · rename_i hlt; simp only [Option.some.injEq] at h; exact hclosed (by simpa [closedV] using hlt) h.symm
      · rename_i hge
        split at h
        · rename_i v' cells hS
          split at h
          · rename_i hcnd
            obtain ⟨rfl, hle⟩ := hcnd
            simp only [Option.map_eq_some_iff] at h
            obtain ⟨cs', hm, rfl⟩ := h
            obtain ⟨ys, k1, k2, k3⟩ := hr.cells hS hb
            have hvv : v' = i.ver := ((hr.own r v' cells i hS hb).1).symm
            have hl := hlist hm (k1.drop off)
            have haddr := hext hvv
            subst haddr
            refine .fq cs' _ (ys.drop off) (fun _ => rfl) hl.1 (fun z hz => k2 z (List.mem_of_mem_drop hz)) ?_ hl.2
            intro j z hz
            rw [List.getElem?_drop] at hz
            have hat := k3 _ z hz
            rw [add_plain] at hat
            have hol : off + j < cells.length := by rw [k1.1]; exact (List.getElem?_eq_some_iff.1 hz).1
            simp only
            rw [Nat.add_assoc]
            exact tell_new hr (by omega) hS hb (by omega) (by omega) hat
          · simp at h
        · simp at h
    | fz full len cells a cp ys hcc hfull hs hl hsc hk hrr =>
      simp only [deep, Option.map_eq_some_iff] at h
      obtain ⟨cs', hm, rfl⟩ := h
      have hl' := hlist hm ⟨hl, hrr⟩
      exact .fz full len cs' a cp ys hcc hfull hs hl'.1 hsc (fun j y hy => tell_fz (hk j y hy)) hl'.2
    | fq cells a ys hs hl hsc hk hrr =>
      simp only [deep, Option.map_eq_some_iff] at h
      obtain ⟨cs', hm, rfl⟩ := h
      have hl' := hlist hm ⟨hl, hrr⟩
      exact .fq cs' a ys hs hl'.1 hsc (fun j y hy => tell_fz (hk j y hy)) hl'.2
    | agg cells ys hl hsc hrr =>
      simp only [deep, Option.map_eq_some_iff] at h
      obtain ⟨cs', hm, rfl⟩ := h
      have hl' := hlist hm ⟨hl, hrr⟩
      exact .agg cs' ys hl'.1 hsc hl'.2
    | tup cells ys hl hrr =>
      simp only [deep, Option.map_eq_some_iff] at h
      obtain ⟨cs', hm, rfl⟩ := h
      have hl' := hlist hm ⟨hl, hrr⟩
      exact .tup cs' ys hl'.1 hl'.2
    | iface t v x hx =>
      simp only [deep, Option.map_eq_some_iff] at h
      obtain ⟨c2, hm, rfl⟩ := h
      exact .iface t c2 x (ih _ _ _ hm hx)
    | fn f first captured first' captured' hl hl' hrr hrr' =>
      simp only [deep] at h
      split at h
      · rename_i p q hp hq
        simp only [Option.some.injEq] at h; subst h
        have h1 := hlist hp ⟨hl, hrr⟩
        have h2 := hlist hq ⟨hl', hrr'⟩
        exact .fn f p q first' captured' h1.1 h2.1 h1.2 h2.2
      · simp at h
    | yld j l t i hr hi =>
      simp only [deep] at h
      split at h
      · rename_i hj; simp only [Option.some.injEq] at h; exact hclosed (by simpa [closedV] using hj) h.symm
      · simp at h
    | mpv j l t i hr hi =>
      simp only [deep] at h
      split at h
      · rename_i hj; simp only [Option.some.injEq] at h; exact hclosed (by simpa [closedV] using hj) h.symm
      · simp at h
    | _ =>
      simp only [deep, Option.some.injEq] at h
      exact hclosed (by simp [closedV]) h.symm

/-- The heap behind: the blocks that were there, as they are now. -/
theorem tell_rel (hr : Rel W κ S w) (hn : n ≤ S.length) (hcl : ∀ (r v : Nat) cells, r < n → S[r]? = some (.live v cells) → closedL n cells = true) : Rel W (κ.tell n S w) (S.take n) w := by
  have hb : ∀ {r : Nat} {b : ABlock}, (S.take n)[r]? = some b → r < n ∧ S[r]? = some b := by
    intro r b h
    rw [List.getElem?_take] at h
    split at h
    · exact ⟨by assumption, h⟩
    · simp at h
  have hrecs : ∀ j p, (κ.tell n S w).recs j = some p → j < n ∧ κ.recs j = some p := by
    intro j p h
    simp only [Kap.tell] at h
    split at h
    · exact ⟨by assumption, h⟩
    · simp at h
  refine ⟨hr.below, ?_, ?_, ?_, ?_, ?_, hr.lo, ⟨fun j q hq hj => ?_, fun j j' q q' l t l' t' hq hq' hj hj' hl hl' hh => ?_⟩, fun j p hp => ?_, ⟨hr.held.at', ?_, ?_, ?_⟩⟩
  rotate_right
  · intro b o j q l t hbo hq hj hl
    exact hr.held.loopO b o j q l t hbo hq (hb hj).2 (hrecs _ _ hl).2
  rotate_right
  · intro b o x y hbo hy
    simp only [Kap.tell] at hy
    split at hy
    · rename_i z hz; exact hr.held.fz b o x z hbo hz
    · split at hy
      · rename_i hex
        obtain ⟨r', v', cells', i', h1, h2, h3, h4, _⟩ := hex
        exact hr.held.live b o r' v' cells' i' hbo h2 h3 h4
      · simp at hy
  rotate_right
  · intro b o r v cs i hbo hS hi
    obtain ⟨hlt, hS1⟩ := hb hS
    rw [tell_blocks hlt] at hi
    exact hr.held.live b o r v cs i hbo hS1 hi
  rotate_right
  · obtain ⟨h1, h2⟩ := hrecs j p hp
    have := hr.dom j p h2
    simp [Kap.tell]; omega
  rotate_right
  · exact hr.loops.disjO j j' q q' l t l' t' hq hq' (hb hj).2 (hb hj').2 (hrecs _ _ hl).2 (hrecs _ _ hl').2 hh
  rotate_right
  · obtain ⟨l, t, h1, h2⟩ := hr.loops.atO j q hq (hb hj).2
    exact ⟨l, t, by simp [Kap.tell, (hb hj).1, h1], h2⟩
  · simp [Kap.tell, hr.len]
  · intro r v cells i hS hi
    obtain ⟨hlt, hS'⟩ := hb hS
    rw [tell_blocks hlt] at hi
    obtain ⟨a1, a2, a3, arr, e, fr, a4, a5, a6, a7, a8⟩ := hr.own r v cells i hS' hi
    refine ⟨a1, a2, a3, arr, e, fr, a4, a5, a6, fun j x y hx hy => ?_, a8⟩
    exact (a7 j x y hx hy).closed (closedL_iff.1 (hcl r v cells hlt hS') x (List.mem_of_getElem? hx))
  · intro r r' v v' cs cs' i i' hS hS' hi hi' hblk
    obtain ⟨hlt, hS1⟩ := hb hS
    obtain ⟨hlt', hS1'⟩ := hb hS'
    rw [tell_blocks hlt] at hi; rw [tell_blocks hlt'] at hi'
    exact hr.disj r r' v v' cs cs' i i' hS1 hS1' hi hi' hblk
  · intro b o y hy
    simp only [Kap.tell] at hy
    split at hy
    · rename_i z hz; cases hy; exact hr.fz b o _ hz
    · split at hy
      · exact hy
      · simp at hy
  · intro b o y r v cs i hy hS hi
    obtain ⟨hlt, hS1⟩ := hb hS
    rw [tell_blocks hlt] at hi
    simp only [Kap.tell] at hy
    split at hy
    · rename_i z hz; exact hr.fzd b o z r v cs i hz hS1 hi
    · split at hy
      · rename_i hex
        obtain ⟨r', v', cells', i', h1, h2, h3, h4, _⟩ := hex
        intro e
        have := hr.disj r r' v v' cs cells' i i' hS1 h2 hi h3 (by rw [e, h4])
        omega
      · simp at hy

/-- What a call made and hands back is told in place; the rest of what it made is forgotten. -/
theorem ACalls.tell {g : FuncId} {args : List AVal} {v v' : AVal} {S S0 T : St} {k : Nat} (h : ACalls P W g args S fun u U => u = v ∧ U = S0 ++ T) (hlen : S0.length = S.length)
    (hold : ∀ (r u : Nat) cells, S0[r]? = some (.live u cells) → S[r]? = some (.live u cells) ∨ closedL S.length cells = true)
    (hd : deep (S0 ++ T) S.length k v = some v') : ACalls P W g args S fun u U => u = v' ∧ U = S0 := by
  intro κ w args' hr ha
  refine (h κ w args' hr ha).mono ?_
  rintro e w' ⟨v1, x, S1, κ1, rfl, ⟨rfl, rfl⟩, hv, hr1, hle⟩
  have htake : (S0 ++ T).take S.length = S0 := by rw [← hlen]; simp
  have hcl : ∀ (r u : Nat) cells, r < S.length → (S0 ++ T)[r]? = some (.live u cells) → closedL S.length cells = true := by
    intro r u cells hlt hS
    rw [List.getElem?_append_left (by omega)] at hS
    rcases hold r u cells hS with h1 | h1
    · obtain ⟨i, hi⟩ := hr.info h1
      obtain ⟨ys, k1, _, _⟩ := hr.cells h1 hi
      rw [closedL_iff]
      intro c hc
      obtain ⟨j, hj⟩ := List.getElem?_of_mem hc
      obtain ⟨y, hy, hrel⟩ := k1.get hj
      exact hrel.isClosed (by rw [hr.len]; exact Nat.le_refl _)
    · exact h1
  have hrel := tell_rel hr1 (n := S.length) (by simp; omega) hcl
  rw [htake] at hrel
  refine ⟨v', x, S0, κ1.tell S.length (S0 ++ T) w', rfl, ⟨rfl, rfl⟩, deep_ok hr1 k v1 v' x hd hv, hrel, ?_⟩
  refine ⟨fun r i hi => ?_, fun b o y hy => tell_fz (hle.2.1 b o y hy), hle.2.2.1, fun b o y hy => ?_, fun j p hp => ?_, hle.2.2.2.2.2⟩
  rotate_right
  · have := hr.dom j p hp
    rw [hr.len] at this
    simp [Kap.tell, this, hle.2.2.2.2.1 j p hp]
  rotate_left
  · simp only [Kap.tell] at hy
    split at hy
    · rename_i z hz
      simp only [Option.some.injEq] at hy; subst hy
      exact hle.2.2.2.1 b o z hz
    · split at hy
      · rename_i hex
        obtain ⟨r', u', cells', i', _, h2, h3, h4, _⟩ := hex
        obtain ⟨_, h5, _⟩ := hr1.own r' u' cells' i' h2 h3
        have := hr1.lo
        rw [hle.2.2.1] at this
        exact .inr (by omega)
      · simp at hy
  have hlt : r < S.length := by rw [← hr.len]; exact (List.getElem?_eq_some_iff.1 hi).1
  rw [tell_blocks hlt]
  exact hle.1 r i hi

end Am
