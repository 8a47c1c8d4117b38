/- Each operation of the machine stands for the model's: addresses, parts, slices, aggregates, functions. -/
import Derived.Test.YtgbifohffmdgeaaDoorAmOpsB
set_option linter.all false
namespace Am
open Go Go.RowKit

variable {P : Program} {W : World} {κ : Kap} {S : St} {w : World}

theorem sizeP_info {t : TypeId} {n : Nat} (h : sizeP P t = some n) : ∃ i, P.info? t = some i ∧ i.size = n := by
  unfold sizeP at h
  cases hi : P.info? t with
  | none => rw [hi] at h; simp at h
  | some i => rw [hi] at h; simp at h; exact ⟨i, rfl, h⟩
theorem bytesP_info {t : TypeId} {n : Nat} (h : bytesP P t = some n) : ∃ i, P.info? t = some i ∧ i.bytes = n := by
  unfold bytesP at h
  cases hi : P.info? t with
  | none => rw [hi] at h; simp at h
  | some i => rw [hi] at h; simp at h; exact ⟨i, rfl, h⟩
theorem run_size {t : TypeId} {n : Nat} (h : sizeP P t = some n) (w : World) : (Go.sizeOf t).run P w = .ok n w := by
  obtain ⟨i, hi, rfl⟩ := sizeP_info h
  exact run_sizeOf hi w
theorem run_und {t : TypeId} {d : TypeDesc} (h : P.underlying t = some d) (w : World) : (underlying t).run P w = .ok d w := by
  simp [underlying, h]

theorem part_ok {cs : List AVal} {ys : List Value} (hl : VRelL κ cs ys) (hsc : ∀ y ∈ ys, scalar y) {t : TypeId} {n : Option Nat} (hn : nOf P t = some n) {off : Nat} {v : AVal}
    (h : partA n off cs = some v) (w : World) : ∃ v', (part t ys.toArray off).run P w = .ok v' w ∧ VRel κ v v' := by
  obtain ⟨i, hi, hsz⟩ := nOf_info hn
  cases n with
  | none =>
    simp only [partA] at h
    obtain ⟨y, hy, hr⟩ := hl.get h
    exact ⟨y, by simp [part, run_isAgg hn, hy], hr⟩
  | some n =>
    simp only [partA] at h
    split at h
    · rename_i hle
      cases h
      have h2 := (hl.drop off).take n
      refine ⟨.agg ((ys.drop off).take n).toArray, ?_, .agg _ _ h2.1 (fun y hy => hsc y (List.mem_of_mem_drop (List.mem_of_mem_take hy))) h2.2⟩
      have : ys.toArray.extract off (off + n) = ((ys.drop off).take n).toArray := by
        apply Array.ext'
        simp [List.extract_eq_take_drop]
      simp [part, run_isAgg hn, run_sizeOf hi, hsz n rfl, this]
    · simp at h

/-- A pointer moved on by some cells. -/
theorem ptr_add {x : AVal} {x' : Value} (h : VRel κ x x') {off : Nat} {v : AVal} (hv : faddrA off x = some v) : ∃ a, x' = .pointer (some a) ∧ VRel κ v (.pointer (some (a.add off))) := by
  cases h <;> simp only [faddrA, Option.some.injEq, reduceCtorEq] at hv
  case ptr r u o i a hr hver hh =>
    subst hv
    exact ⟨a, rfl, .ptr _ _ _ i _ hr hver (fun e => by rw [hh e, add_plain, Nat.add_assoc])⟩
  case fq cells a ys hs hl hsc hk hr =>
    subst hv
    refine ⟨a, rfl, .fq _ _ (ys.drop off) ?_ (by simp [hl]) (fun y hy => hsc y (List.mem_of_mem_drop hy)) ?_ ?_⟩
    · intro hne
      unfold Addr.add
      split
      · apply hs; rintro rfl; simp at hne
      · rfl
    · intro j y hy
      rw [List.getElem?_drop] at hy
      rw [add_block]
      have := hk _ y hy
      rw [← this]
      congr 1
      unfold Addr.add
      split
      · rename_i h0; subst h0; simp
      · simp; omega
    · intro j a b ha hb
      rw [List.getElem?_drop] at ha hb
      exact hr _ a b ha hb

theorem fq_take {cells : List AVal} {a : Addr} (h : VRel κ (.fq cells) (.pointer (some a))) (n : Nat) : VRel κ (.fq (cells.take n)) (.pointer (some a)) := by
  cases h with
  | fq _ _ ys hs hl hsc hk hr =>
    refine .fq _ _ (ys.take n) (fun hne => hs (by rintro rfl; simp at hne)) (by simp [hl]) (fun y hy => hsc y (List.mem_of_mem_take hy)) ?_ ?_
    · intro j y hy
      rw [List.getElem?_take] at hy
      split at hy
      · exact hk j y hy
      · simp at hy
    · intro j x y hx hy
      rw [List.getElem?_take] at hx hy
      split at hx
      · rename_i hj; rw [if_pos hj] at hy; exact hr j x y hx hy
      · simp at hx

theorem faddr_ok (h : Rel W κ S w) {s : TypeId} {fields : Array Field} {fd : Field} {f : Nat} (hs : P.underlying s = some (.struct fields)) (hf : fields[f]? = some fd)
    {n : Nat} (hn : sizeP P fd.type = some n) (hn0 : n ≠ 0) {x v : AVal} {x' : Value} (hx : VRel κ x x')
    (hv : faddrA fd.offset x = some v) : Runs P W κ w (Instr.fieldAt s x' f) v S := by
  obtain ⟨a, rfl, hr⟩ := ptr_add hx hv
  refine .pure h ?_ hr
  simp [Instr.fieldAt, run_und hs, hf, Instr.sureAddr, fieldPlace, run_size hn, hn0]

theorem iaddrA_ok (h : Rel W κ S w) {t e : TypeId} {len sz : Nat} (ht : P.underlying t = some (.array len e)) (hsz : sizeP P e = some sz)
    {x i v : AVal} {x' i' : Value} (hx : VRel κ x x') (hi : VRel κ i i') (hv : iaddrAA sz len x i = some v) : Runs P W κ w (Instr.indexAt t x' i') v S := by
  unfold iaddrAA at hv
  split at hv
  · rename_i r u off k n
    cases hi
    split at hv
    · rename_i hc
      cases hv
      obtain ⟨a, rfl, hr⟩ := ptr_add (off := n.toNat * sz) hx rfl
      refine .pure h ?_ hr
      simp [Instr.indexAt, asIntOf, run_und ht, Instr.sureAddr, hc, run_size hsz]
    · simp at hv
  · rename_i cells k n
    cases hi
    split at hv
    · rename_i hc
      cases hv
      obtain ⟨a, rfl, hr⟩ := ptr_add (off := n.toNat * sz) hx rfl
      refine .pure h ?_ (fq_take hr sz)
      simp [Instr.indexAt, asIntOf, run_und ht, Instr.sureAddr, hc, run_size hsz]
    · simp at hv
  · simp at hv

/-- A frozen slice's pointer to its cells. -/
theorem fz_fq {full : Bool} {len c : Nat} {cells : List AVal} {a : Addr} (h : VRel κ (.fz full len cells) (.slice (some a) len c)) : VRel κ (.fq cells) (.pointer (some a)) := by
  cases h with
  | fz _ _ _ _ _ ys hc hfull hs hl hsc hk hr => exact .fq _ _ ys hs hl hsc hk hr

theorem iaddrS_ok (h : Rel W κ S w) {t e : TypeId} {sz : Nat} (ht : P.underlying t = some (.slice e)) (hsz : sizeP P e = some sz)
    {x i v : AVal} {x' i' : Value} (hx : VRel κ x x') (hi : VRel κ i i') (hv : iaddrSA sz x i = some v) : Runs P W κ w (Instr.indexAt t x' i') v S := by
  unfold iaddrSA at hv
  split at hv
  · rename_i r u off len sz' k n
    cases hi
    split at hv
    · rename_i hc
      obtain ⟨rfl, h0, h1⟩ := hc
      cases hv
      cases hx with
      | sl _ _ _ _ _ inf a c hr hver hlc hh =>
        refine .pure h (v' := .pointer (some (a.add (n.toNat * sz')))) ?_ ?_
        · simp [Instr.indexAt, asIntOf, run_und ht, h0, h1, run_size hsz]
        · refine .ptr _ _ _ inf _ hr hver (fun e => ?_)
          rcases (hh e).2 with hc0 | hc0
          · omega
          · rw [hc0, add_plain, Nat.add_assoc]
    · simp at hv
  · rename_i full len cells k n
    cases hi
    split at hv
    · rename_i hc
      obtain ⟨hlen, h0, h1⟩ := hc
      cases hv
      have hx2 := hx
      cases hx with
      | fz _ _ _ a c ys hcc hfull hs hl hsc hk hr =>
        have hfq := fz_fq hx2
        obtain ⟨a', ha', hr'⟩ := ptr_add (off := n.toNat * sz) hfq rfl
        cases ha'
        refine .pure h (v' := .pointer (some (a.add (n.toNat * sz)))) ?_ (fq_take hr' sz)
        simp [Instr.indexAt, asIntOf, run_und ht, h0, h1, run_size hsz]
    · simp at hv
  · simp at hv

theorem fld_ok (h : Rel W κ S w) {s : TypeId} {fields : Array Field} {fd : Field} {f : Nat} (hs : P.underlying s = some (.struct fields)) (hf : fields[f]? = some fd)
    {n : Option Nat} (hn : nOf P fd.type = some n) {cs : List AVal} {v : AVal} {x' : Value} (hx : VRel κ (.agg cs) x')
    (hv : partA n fd.offset cs = some v) : Runs P W κ w (Instr.field s x' f) v S := by
  cases hx with
  | agg _ ys hl hsc hr =>
    obtain ⟨v', h1, h2⟩ := part_ok (P := P) ⟨hl, hr⟩ hsc hn hv w
    exact .pure h (by simp [Instr.field, run_und hs, hf, asAgg, h1]) h2

theorem idxA_ok (h : Rel W κ S w) {t e : TypeId} {len sz : Nat} {n : Option Nat} (ht : P.underlying t = some (.array len e)) (hn : nOf P e = some n) (hsz : sizeP P e = some sz)
    {cs : List AVal} {k : IntKind} {i : Int} {v : AVal} {x' i' : Value} (hx : VRel κ (.agg cs) x') (hi : VRel κ (.int k i) i')
    (hb : 0 ≤ i ∧ i < len) (hv : partA n (i.toNat * sz) cs = some v) : Runs P W κ w (Instr.index t x' i') v S := by
  cases hx with
  | agg _ ys hl hsc hr =>
    cases hi
    obtain ⟨v', h1, h2⟩ := part_ok (P := P) ⟨hl, hr⟩ hsc hn hv w
    exact .pure h (by simp [Instr.index, asIntOf, run_und ht, hb, run_size hsz, h1]) h2

theorem idxStr_ok (h : Rel W κ S w) {t : TypeId} (ht : P.underlying t = some .string) {s : List UInt8} {k : IntKind} {i : Int} {b : UInt8} {x' i' : Value}
    (hx : VRel κ (.str s) x') (hi : VRel κ (.int k i) i') (h0 : 0 ≤ i) (hb : s[i.toNat]? = some b) : Runs P W κ w (Instr.index t x' i') (.int .u8 b.toNat) S := by
  cases hx with
  | str _ bs hs =>
    cases hi
    subst hs
    have hlt : i.toNat < bs.size := by
      rw [size_eq]; exact (List.getElem?_eq_some_iff.1 hb).1
    have hg : bs[i.toNat]? = some b := by
      have h1 : bs[i.toNat]? = some bs[i.toNat] := getElem?_pos bs i.toNat hlt
      rw [h1]
      have h2 : bs[i.toNat] = bs.data[i.toNat]'hlt := rfl
      rw [h2]
      have h3 := (List.getElem?_eq_some_iff.1 hb).2
      rw [← h3]; simp
    exact .pure h (by simp [Instr.index, asIntOf, run_und ht, h0, hg]) (.int _ _)

theorem bounds_ok {n : Nat} {lo hi : Option AVal} {lo' hi' : Option Value} {l hh : Nat} (h : bounds n lo hi = some (l, hh)) (hlo : ∀ x, lo = some x → ∃ y, lo' = some y ∧ VRel κ x y) (hlo0 : lo = none → lo' = none)
    (hhi : ∀ x, hi = some x → ∃ y, hi' = some y ∧ VRel κ x y) (hhi0 : hi = none → hi' = none) (isSlice : Bool) (cap : Nat) (hc : n ≤ cap) (w : World) :
    (Instr.sliceBounds isSlice n cap lo' hi' none).run P w = .ok (l, hh, cap) w ∧ l ≤ hh ∧ hh ≤ n := by
  unfold bounds at h
  cases hi with
  | none =>
    rw [hhi0 rfl]
    cases lo with
    | none =>
      rw [hlo0 rfl]
      simp at h; obtain ⟨rfl, rfl⟩ := h
      simp [Instr.sliceBounds]
    | some x =>
      obtain ⟨y, rfl, hy⟩ := hlo x rfl
      cases hy <;> simp at h
      rename_i k m
      obtain ⟨⟨h1, h2⟩, rfl, rfl⟩ := h
      simp [Instr.sliceBounds, Instr.sliceBound, asIntOf, h1, h2]
  | some x =>
    obtain ⟨y, rfl, hy⟩ := hhi x rfl
    cases lo with
    | none =>
      rw [hlo0 rfl]
      cases hy <;> simp at h
      rename_i k m
      obtain ⟨⟨h1, h2⟩, rfl, rfl⟩ := h
      simp [Instr.sliceBounds, Instr.sliceBound, asIntOf]
      have : m ≤ (cap : Int) := by omega
      simp [h1, this]
      omega
    | some z =>
      obtain ⟨y', rfl, hy'⟩ := hlo z rfl
      cases hy <;> cases hy' <;> simp at h
      rename_i k m k' m'
      obtain ⟨⟨h1, h2, h3⟩, rfl, rfl⟩ := h
      simp [Instr.sliceBounds, Instr.sliceBound, asIntOf]
      have h4 : m ≤ (cap : Int) := by omega
      have h5 : 0 ≤ m := by omega
      simp [h4, h5]
      have h6 : m' ≤ max m 0 := by omega
      simp [h1, h6]
      omega

theorem extract_data (s : ByteArray) (l h : Nat) : (s.extract l h).data.toList = (s.data.toList.take h).drop l := by
  simp [ByteArray.data_extract, List.extract_eq_take_drop, List.drop_take]

theorem slcStr_ok (h : Rel W κ S w) {t : TypeId} (ht : P.underlying t = some .string) {x v : AVal} {lo hi : Option AVal} {x' : Value} {lo' hi' : Option Value} (hx : VRel κ x x')
    (hlo : ∀ x, lo = some x → ∃ y, lo' = some y ∧ VRel κ x y) (hlo0 : lo = none → lo' = none)
    (hhi : ∀ x, hi = some x → ∃ y, hi' = some y ∧ VRel κ x y) (hhi0 : hi = none → hi' = none)
    (hv : slcStrA x lo hi = some v) : Runs P W κ w (Instr.sliceAt t x' lo' hi' none) v S := by
  unfold slcStrA at hv
  split at hv
  · rename_i s
    split at hv
    · rename_i l hh hb
      cases hv
      cases hx with
      | str _ bs hs =>
        subst hs
        rw [← size_eq] at hb
        obtain ⟨h1, h2, h3⟩ := bounds_ok (P := P) (κ := κ) hb hlo hlo0 hhi hhi0 false bs.size (Nat.le_refl _) w
        refine .pure h ?_ (.str _ (bs.extract l hh) (extract_data bs l hh))
        simp [Instr.sliceAt, Instr.slice, run_und ht, h1]
    · simp at hv
  · simp at hv

end Am
