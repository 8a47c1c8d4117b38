/- A region that draws its order comes to what its text's order comes to: the induction. -/
import Derived.Test.YtgbifohffmdgeaaDoorAmDraw2
set_option linter.all false
namespace Am
open Go Go.RowKit

/-- All that is known of a region whose text's order was run. -/
structure Ran (P : Program) (fs : List FuncId) (O : Orc) (n : Nat) (ops : Array Oper) (aos : List AOper) (F : Nat → Fr) (T : Nat → St) : Prop where
  len : aos.length = ops.size
  comp : ∀ (i : Nat) ao, aos[i]? = some ao → ∃ o fz, ops[i]? = some o ∧ compOper P fs n ops fz o = some ao
  step : ∀ (i : Nat) ao, aos[i]? = some ao → evOper O ao (F i) (T i) = some (F (i + 1), T (i + 1))
  ons : ∀ (j : Nat) o, ops[j]? = some o → ∀ i ∈ ons o, i < j
  conf : ∀ (i j : Nat) a b, i < j → aos[i]? = some a → aos[j]? = some b → conflict a b = true → ((masks ops).getD j 0).testBit i = true ∨ (flB ops aos (masks ops) j = true ∧ slotConf a b = false)
  one : ∀ (j k : Nat) b c, flB ops aos (masks ops) j = true → aos[j]? = some b → aos[k]? = some c → k ≠ j → c.dst ≠ b.dst
  up : ∀ (j k i : Nat) a, flB ops aos (masks ops) j = true → k < ops.size → ((masks ops).getD k 0).testBit j = true → i < j → aos[i]? = some a → kindOf a.op = .eff → ((masks ops).getD k 0).testBit i = true
  junk : ∀ (j : Nat) b t, flB ops aos (masks ops) j = true → aos[j]? = some b → b.dst = some t → (F 0).get t = .junk
  flt : ∀ (i j : Nat) a b, aos[i]? = some a → aos[j]? = some b → kindOf a.op = .read → kindOf b.op = .eff →
    (if i < j then ((masks ops).getD j 0).testBit i else ((masks ops).getD i 0).testBit j) = false → sameRead O a (F i) (T i) (if i < j then T (j + 1) else T j) = true

variable {P : Program} {W : World} {fs : List FuncId} {O : Orc} {n : Nat} {ops : Array Oper} {aos : List AOper} {F : Nat → Fr} {T : Nat → St}

def Lst (L : Array Bool) (i : Nat) : Prop := L.getD i false = true

theorem Ran.op (h : Ran P fs O n ops aos F T) {i : Nat} (hi : i < ops.size) : ∃ ao, aos[i]? = some ao :=
  ⟨_, List.getElem?_eq_getElem (by rw [h.len]; exact hi)⟩

/-- What is listed draws in all that must come ahead of it. -/
theorem closed_masks (h : Ran P fs O n ops aos F T) {L : Array Bool} (hL : ∀ (j : Nat) o, ops[j]? = some o → Lst L j → ∀ i ∈ ons o, Lst L i) :
    ∀ (j : Nat) o, ops[j]? = some o → Lst L j → ∀ i, ((masks ops).getD j 0).testBit i = true → Lst L i := by
  intro j
  induction j using Nat.strongRecOn with
  | _ j ih =>
    intro o ho hj i hi
    obtain ⟨on, h1, h2⟩ := masks_bit ho (h.ons j o ho) hi
    have hon := hL j o ho hj on h1
    have hlt := h.ons j o ho on h1
    rcases h2 with rfl | h2
    · exact hon
    · have hlt' : on < ops.size := by have := (Array.getElem?_eq_some_iff.1 ho).1; omega
      exact ih on hlt ops[on] (by simp [hlt']) hon i h2

theorem mask_lt (h : Ran P fs O n ops aos F T) : ∀ (j : Nat) o, ops[j]? = some o → ∀ i, ((masks ops).getD j 0).testBit i = true → i < j := by
  intro j
  induction j using Nat.strongRecOn with
  | _ j ih =>
    intro o ho i hi
    obtain ⟨on, h1, h2⟩ := masks_bit ho (h.ons j o ho) hi
    have hlt := h.ons j o ho on h1
    rcases h2 with rfl | h2
    · exact hlt
    · have hlt' : on < ops.size := by have := (Array.getElem?_eq_some_iff.1 ho).1; omega
      have := ih on hlt ops[on] (by simp [hlt']) i h2
      omega

/-- A slot that nobody writes between two places of the text holds the same at both. -/
theorem frame_const (h : Ran P fs O n ops aos F T) (t : Nat) : ∀ (d q : Nat), q + d ≤ ops.size → (∀ (j : Nat) ao, q ≤ j → j < q + d → aos[j]? = some ao → ao.dst ≠ some t) → (F (q + d)).get t = (F q).get t := by
  intro d
  induction d with
  | zero => intro q _ _; rfl
  | succ d ih =>
    intro q hq hw
    have h1 := ih q (by omega) (fun j ao h1 h2 h3 => hw j ao h1 (by omega) h3)
    obtain ⟨ao, hao⟩ := h.op (show q + d < ops.size from by omega)
    obtain ⟨v, h2, _, _⟩ := evOper_float (h.step _ _ hao) (g := F (q + d)) (T := T (q + d)) (fun _ _ => rfl) (fun _ => rfl) (fun _ => .inl rfl)
    have hd := hw (q + d) ao (by omega) (by omega) hao
    rw [← Nat.add_assoc, h2, ← h1]
    cases hdst : ao.dst with
    | none => rfl
    | some d' =>
      simp only [putA, Fr.get_set]
      rw [if_neg]
      intro e; subst e; exact hd hdst

theorem frame_between (h : Ran P fs O n ops aos F T) (t p q : Nat) (hp : p ≤ ops.size) (hq : q ≤ ops.size)
    (hw : ∀ (j : Nat) ao, aos[j]? = some ao → ao.dst = some t → (j < p ↔ j < q)) : (F p).get t = (F q).get t := by
  rcases Nat.le_total p q with hpq | hpq
  · obtain ⟨d, rfl⟩ : ∃ d, q = p + d := ⟨q - p, by omega⟩
    exact (frame_const h t d p hq (fun j ao h1 h2 h3 h4 => by have := (hw j ao h3 h4).2 h2; omega)).symm
  · obtain ⟨d, rfl⟩ : ∃ d, p = q + d := ⟨p - q, by omega⟩
    exact frame_const h t d q hp (fun j ao h1 h2 h3 h4 => by have := (hw j ao h3 h4).1 h2; omega)

theorem state_const (h : Ran P fs O n ops aos F T) : ∀ (d q : Nat), q + d ≤ ops.size → (∀ (j : Nat) ao, q ≤ j → j < q + d → aos[j]? = some ao → kindOf ao.op ≠ .eff) → T (q + d) = T q := by
  intro d
  induction d with
  | zero => intro q _ _; rfl
  | succ d ih =>
    intro q hq hw
    have h1 := ih q (by omega) (fun j ao h1 h2 h3 => hw j ao h1 (by omega) h3)
    obtain ⟨ao, hao⟩ := h.op (show q + d < ops.size from by omega)
    obtain ⟨v, _, _, h2⟩ := evOper_float (h.step _ _ hao) (g := F (q + d)) (T := T (q + d)) (fun _ _ => rfl) (fun _ => rfl) (fun _ => .inl rfl)
    have hd := hw (q + d) ao (by omega) (by omega) hao
    rw [← Nat.add_assoc, h2 hd, h1]

theorem state_between (h : Ran P fs O n ops aos F T) (p q : Nat) (hp : p ≤ ops.size) (hq : q ≤ ops.size)
    (hw : ∀ (j : Nat) ao, aos[j]? = some ao → kindOf ao.op = .eff → (j < p ↔ j < q)) : T p = T q := by
  rcases Nat.le_total p q with hpq | hpq
  · obtain ⟨d, rfl⟩ : ∃ d, q = p + d := ⟨q - p, by omega⟩
    exact (state_const h d p hq (fun j ao h1 h2 h3 h4 => by have := (hw j ao h3 h4).2 h2; omega)).symm
  · obtain ⟨d, rfl⟩ : ∃ d, p = q + d := ⟨p - q, by omega⟩
    exact state_const h d q hp (fun j ao h1 h2 h3 h4 => by have := (hw j ao h3 h4).1 h2; omega)

/-- Where a region stands that has run what is listed. -/
structure Mid (ops : Array Oper) (aos : List AOper) (F : Nat → Fr) (T : Nat → St) (L : Array Bool) (g : Fr) (S : St) : Prop where
  size : L.size = ops.size
  closed : ∀ (j : Nat) o, ops[j]? = some o → Lst L j → ∀ i ∈ ons o, Lst L i
  slots : ∀ t, ∃ q, q ≤ ops.size ∧ g.get t = (F q).get t ∧ ∀ (j : Nat) ao, aos[j]? = some ao → ao.dst = some t → (Lst L j ↔ j < q)
  heap : ∃ k, k ≤ ops.size ∧ S = T k ∧ ∀ (j : Nat) ao, aos[j]? = some ao → kindOf ao.op = .eff → (Lst L j ↔ j < k)
  late : ∀ (j : Nat), flB ops aos (masks ops) j = true → Lst L j → ∀ (i : Nat) a, i < j → aos[i]? = some a → kindOf a.op = .eff → Lst L i

theorem mem_ready {L : Array Bool} {i : Nat} : i ∈ Region.ready .any ops L ↔ i < ops.size ∧ L.getD i true = false ∧ ∃ o, ops[i]? = some o ∧ ∀ j ∈ ons o, Lst L j := by
  unfold Region.ready
  simp only [List.mem_filter, List.mem_range, Bool.and_eq_true, Bool.not_eq_true']
  constructor
  · rintro ⟨h1, h2, h3⟩
    refine ⟨h1, h2, ?_⟩
    cases ho : ops[i]? with
    | none => rw [ho] at h3; simp at h3
    | some o =>
      rw [ho] at h3
      refine ⟨o, rfl, fun j hj => ?_⟩
      simp only [Option.map_some, Option.getD_some, Array.all_eq_true_iff_forall_mem] at h3
      simp only [ons, List.mem_map, List.mem_filter] at hj
      obtain ⟨e, ⟨he1, he2⟩, rfl⟩ := hj
      have := h3 e (by simpa using he1)
      rw [he2] at this
      simpa [Lst] using this
  · rintro ⟨h1, h2, o, ho, h3⟩
    refine ⟨h1, h2, ?_⟩
    rw [ho]
    simp only [Option.map_some, Option.getD_some, Array.all_eq_true_iff_forall_mem]
    intro e he
    by_cases hb : Region.binds .any e = true
    · have := h3 e.on (List.mem_map.2 ⟨e, List.mem_filter.2 ⟨by simpa using he, hb⟩, rfl⟩)
      simp [hb]; simpa [Lst] using this
    · simp [Bool.not_eq_true] at hb
      simp [hb]

theorem lst_set {L : Array Bool} {i : Nat} (hi : i < L.size) (j : Nat) : Lst (L.setIfInBounds i true) j ↔ j = i ∨ Lst L j := by
  unfold Lst
  simp only [Array.getD_eq_getD_getElem?]
  by_cases h : j = i
  · subst h; simp [hi]
  · rw [Array.getElem?_setIfInBounds_ne (fun e => h e.symm)]; simp [h]

theorem not_lst {L : Array Bool} {i : Nat} (h : L.getD i true = false) : ¬ Lst L i ∧ i < L.size := by
  unfold Lst
  simp only [Array.getD_eq_getD_getElem?] at h ⊢
  cases hx : L[i]? with
  | none => rw [hx] at h; simp at h
  | some b => rw [hx] at h; simp at h; subst h; exact ⟨by simp, (Array.getElem?_eq_some_iff.1 hx).1⟩

/-- One step of a region in any order. -/
theorem mid_step (h : Ran P fs O n ops aos F T) {L : Array Bool} {g : Fr} {S : St} (hm : Mid ops aos F T L g S) {i : Nat} (hi : i ∈ Region.ready .any ops L)
    (hfl : flB ops aos (masks ops) i = true → ∀ (j : Nat) a, j < i → aos[j]? = some a → kindOf a.op = .eff → Lst L j) :
    ∃ ao v S', aos[i]? = some ao ∧ evOper O ao g S = some (putA g ao.dst v, S') ∧ Mid ops aos F T (L.setIfInBounds i true) (putA g ao.dst v) S' := by
  obtain ⟨hlt, hL, o, ho, hon⟩ := mem_ready.1 hi
  obtain ⟨hnl, hsz⟩ := not_lst hL
  obtain ⟨ao, hao⟩ := h.op hlt
  -- what comes ahead of i is listed, what waits for i isn't
  have ahead : ∀ j, ((masks ops).getD i 0).testBit j = true → Lst L j := by
    intro j hj
    obtain ⟨on, h1, h2⟩ := masks_bit ho (h.ons i o ho) hj
    rcases h2 with rfl | h2
    · exact hon _ h1
    · have hlt' : on < ops.size := by have := h.ons i o ho on h1; omega
      exact closed_masks h hm.closed on ops[on] (by simp [hlt']) (hon on h1) j h2
  have behind : ∀ j, j < ops.size → ((masks ops).getD j 0).testBit i = true → ¬ Lst L j := by
    intro j hj hb hl
    exact hnl (closed_masks h hm.closed j ops[j] (by simp [hj]) hl i hb)
  have order : ∀ (j : Nat) b, aos[j]? = some b → j ≠ i → (slotConf b ao = true ∨ slotConf ao b = true) → (j < i → slotConf b ao = true) → (i < j → slotConf ao b = true) → (Lst L j ↔ j < i) := by
    intro j b hb hji _ h1 h2
    have hjs : j < ops.size := by rw [← h.len]; exact (List.getElem?_eq_some_iff.1 hb).1
    rcases Nat.lt_or_gt_of_ne hji with hlt | hgt
    · refine ⟨fun _ => hlt, fun _ => ahead j ?_⟩
      rcases h.conf j i b ao hlt hb hao (by simp [conflict, h1 hlt]) with hc | ⟨_, hc⟩
      · exact hc
      · rw [h1 hlt] at hc; simp at hc
    · refine ⟨fun hl => absurd hl (behind j hjs ?_), fun hx => by omega⟩
      rcases h.conf i j ao b hgt hao hb (by simp [conflict, h2 hgt]) with hc | ⟨_, hc⟩
      · exact hc
      · rw [h2 hgt] at hc; simp at hc
  have orderE : ∀ (j : Nat) b, aos[j]? = some b → j ≠ i → kindOf ao.op = .eff → kindOf b.op = .eff → (Lst L j ↔ j < i) := by
    intro j b hb hji hke hbe
    have hjs : j < ops.size := by rw [← h.len]; exact (List.getElem?_eq_some_iff.1 hb).1
    rcases Nat.lt_or_gt_of_ne hji with hlt | hgt
    · refine ⟨fun _ => hlt, fun _ => ?_⟩
      rcases h.conf j i b ao hlt hb hao (by simp [conflict, hke, hbe]) with hc | ⟨hc, _⟩
      · exact ahead j hc
      · exact hfl hc j b hlt hb hbe
    · refine ⟨fun hl => ?_, fun hx => by omega⟩
      rcases h.conf i j ao b hgt hao hb (by simp [conflict, hke, hbe]) with hc | ⟨hc, _⟩
      · exact absurd hl (behind j hjs hc)
      · exact absurd (hm.late j hc hl i ao hgt hao hke) hnl
  -- slots that i reads
  have reads : ∀ t ∈ ao.reads, g.get t = (F i).get t := by
    intro t ht
    obtain ⟨q, hq, hg, hw⟩ := hm.slots t
    rw [hg]
    refine frame_between h t q i hq (by omega) (fun j b hb hd => ?_)
    rw [← hw j b hb hd]
    by_cases hji : j = i
    · subst hji; exact ⟨fun hl => absurd hl hnl, fun hx => by omega⟩
    · refine order j b hb hji ?_ ?_ ?_
      · left; simp only [slotConf, hd]; simp [ht]
      · intro _; simp only [slotConf, hd]; simp [ht]
      · intro _; simp only [slotConf, hd]; simp [ht]
  obtain ⟨k, hk, hS, hkw⟩ := hm.heap
  subst hS
  have heff : kindOf ao.op = .eff → T k = T i := by
    intro hke
    refine state_between h k i hk (by omega) (fun j b hb hbe => ?_)
    rw [← hkw j b hb hbe]
    by_cases hji : j = i
    · subst hji; exact ⟨fun hl => absurd hl hnl, fun hx => by omega⟩
    · exact orderE j b hb hji hke hbe
  have hread : kindOf ao.op = .read → T k = T i ∨ sameRead O ao (F i) (T i) (T k) = true := by
    intro hkr
    by_cases hsome : ∃ j b, aos[j]? = some b ∧ kindOf b.op = .eff ∧ j < k ∧ i < j
    · -- the last effect that ran stands behind i in the text
      right
      obtain ⟨j, b, hb, hbe, hjk, hij⟩ : ∃ j b, aos[j]? = some b ∧ kindOf b.op = .eff ∧ j < k ∧ i < j := hsome
      obtain ⟨m, hmx⟩ : ∃ m, (∃ b, aos[m]? = some b ∧ kindOf b.op = .eff ∧ m < k ∧ i < m) ∧ ∀ j b, aos[j]? = some b → kindOf b.op = .eff → j < k → i < j → j ≤ m := by
        have : ∀ d m, (∃ b, aos[m]? = some b ∧ kindOf b.op = .eff ∧ m < k ∧ i < m) → k - m = d → ∃ m, (∃ b, aos[m]? = some b ∧ kindOf b.op = .eff ∧ m < k ∧ i < m) ∧ ∀ j b, aos[j]? = some b → kindOf b.op = .eff → j < k → i < j → j ≤ m := by
          intro d
          induction d using Nat.strongRecOn with
          | _ d ih =>
            intro m hm hd
            by_cases hx : ∃ j b, aos[j]? = some b ∧ kindOf b.op = .eff ∧ j < k ∧ i < j ∧ m < j
            · obtain ⟨j, b, h1, h2, h3, h4, h5⟩ := hx
              exact ih (k - j) (by omega) j ⟨b, h1, h2, h3, h4⟩ rfl
            · refine ⟨m, hm, fun j b h1 h2 h3 h4 => ?_⟩
              rcases Nat.lt_or_ge m j with h5 | h5
              · exact absurd ⟨j, b, h1, h2, h3, h4, h5⟩ hx
              · exact h5
        exact this _ j ⟨b, hb, hbe, hjk, hij⟩ rfl
      obtain ⟨⟨b, hb, hbe, hmk, him⟩, hmax⟩ := hmx
      have hms : m < ops.size := by rw [← h.len]; exact (List.getElem?_eq_some_iff.1 hb).1
      have hTk : T k = T (m + 1) := by
        refine state_between h k (m + 1) hk (by omega) (fun j b' hb' hbe' => ⟨fun hj => ?_, fun hj => by omega⟩)
        by_cases hij' : i < j
        · have := hmax j b' hb' hbe' hj hij'; omega
        · omega
      have hml : Lst L m := (hkw m b hb hbe).2 hmk
      have hnb : ((masks ops).getD m 0).testBit i = false := by
        cases hx : ((masks ops).getD m 0).testBit i with
        | false => rfl
        | true => exact absurd hml (behind m hms hx)
      have := h.flt i m ao b hao hb hkr hbe (by rw [if_pos him]; exact hnb)
      rw [if_pos him] at this
      rw [hTk]; exact this
    · by_cases hmiss : ∃ j b, aos[j]? = some b ∧ kindOf b.op = .eff ∧ j < i ∧ k ≤ j
      · -- an effect ahead of i in the text has not run: the first such
        right
        obtain ⟨m, hmn⟩ : ∃ m, (∃ b, aos[m]? = some b ∧ kindOf b.op = .eff ∧ m < i ∧ k ≤ m) ∧ ∀ j b, aos[j]? = some b → kindOf b.op = .eff → j < i → k ≤ j → m ≤ j := by
          have : ∀ m, (∃ b, aos[m]? = some b ∧ kindOf b.op = .eff ∧ m < i ∧ k ≤ m) → ∃ m, (∃ b, aos[m]? = some b ∧ kindOf b.op = .eff ∧ m < i ∧ k ≤ m) ∧ ∀ j b, aos[j]? = some b → kindOf b.op = .eff → j < i → k ≤ j → m ≤ j := by
            intro m
            induction m using Nat.strongRecOn with
            | _ m ih =>
              intro hm
              by_cases hx : ∃ j b, aos[j]? = some b ∧ kindOf b.op = .eff ∧ j < i ∧ k ≤ j ∧ j < m
              · obtain ⟨j, b, h1, h2, h3, h4, h5⟩ := hx
                exact ih j h5 ⟨b, h1, h2, h3, h4⟩
              · refine ⟨m, hm, fun j b h1 h2 h3 h4 => ?_⟩
                rcases Nat.lt_or_ge j m with h5 | h5
                · exact absurd ⟨j, b, h1, h2, h3, h4, h5⟩ hx
                · exact h5
          obtain ⟨j, b, h1, h2, h3, h4⟩ := hmiss
          exact this j ⟨b, h1, h2, h3, h4⟩
        obtain ⟨⟨b, hb, hbe, hmi, hkm⟩, hmin⟩ := hmn
        have hTk : T k = T m := by
          refine state_between h k m hk (by omega) (fun j b' hb' hbe' => ⟨fun hj => by omega, fun hj => ?_⟩)
          rcases Nat.lt_or_ge j k with h5 | h5
          · exact h5
          · have := hmin j b' hb' hbe' (by omega) h5; omega
        have hml : ¬ Lst L m := fun hl => by have := (hkw m b hb hbe).1 hl; omega
        have hnb : ((masks ops).getD i 0).testBit m = false := by
          cases hx : ((masks ops).getD i 0).testBit m with
          | false => rfl
          | true => exact absurd (ahead m hx) hml
        have := h.flt i m ao b hao hb hkr hbe (by rw [if_neg (by omega)]; exact hnb)
        rw [if_neg (by omega)] at this
        rw [hTk]; exact this
      · left
        refine state_between h k i hk (by omega) (fun j b hb hbe => ⟨fun hj => ?_, fun hj => ?_⟩)
        · rcases Nat.lt_trichotomy j i with h5 | h5 | h5
          · exact h5
          · subst h5; rw [hao] at hb; cases hb; rw [hkr] at hbe; simp at hbe
          · exact absurd ⟨j, b, hb, hbe, hj, h5⟩ hsome
        · rcases Nat.lt_or_ge j k with h5 | h5
          · exact h5
          · exact absurd ⟨j, b, hb, hbe, hj, h5⟩ hmiss
  obtain ⟨v, hF, hev, hst⟩ := evOper_float (h.step i ao hao) reads heff hread
  refine ⟨ao, v, _, hao, hev, ?_, ?_, ?_, ?_, fun j hj hl k a hk ha hae => ?_⟩
  rotate_right
  · rw [lst_set hsz] at hl ⊢
    rcases hl with rfl | hl
    · exact .inr (hfl hj k a hk ha hae)
    · exact .inr (hm.late j hj hl k a hk ha hae)
  · simp [hm.size]
  · intro j oj hoj hl i' hi'
    rw [lst_set hsz] at hl ⊢
    rcases hl with rfl | hl
    · rw [ho] at hoj; cases hoj; exact .inr (hon i' hi')
    · exact .inr (hm.closed j oj hoj hl i' hi')
  · intro t
    by_cases hd : ao.dst = some t
    · refine ⟨i + 1, by omega, ?_, fun j b hb hbd => ?_⟩
      · rw [hF, hd]; simp [putA, Fr.get_set]
      · rw [lst_set hsz]
        by_cases hji : j = i
        · subst hji; exact ⟨fun _ => by omega, fun _ => .inl rfl⟩
        · have : (Lst L j ↔ j < i) := by
            refine order j b hb hji ?_ ?_ ?_
            · left; simp only [slotConf, hd, hbd]; simp
            · intro _; simp only [slotConf, hd, hbd]; simp
            · intro _; simp only [slotConf, hd, hbd]; simp
          constructor
          · rintro (e | hl)
            · exact absurd e hji
            · have := this.1 hl; omega
          · intro hlt'; right; exact this.2 (by omega)
    · obtain ⟨q, hq, hg, hw⟩ := hm.slots t
      refine ⟨q, hq, ?_, fun j b hb hbd => ?_⟩
      · rw [← hg]
        cases hdst : ao.dst with
        | none => rfl
        | some d => simp only [putA, Fr.get_set]; rw [if_neg]; intro e; subst e; exact hd hdst
      · rw [lst_set hsz, ← hw j b hb hbd]
        constructor
        · rintro (e | hl)
          · subst e; rw [hao] at hb; cases hb; exact absurd hbd hd
          · exact hl
        · exact .inr
  · by_cases hke : kindOf ao.op = .eff
    · rw [if_pos hke]
      refine ⟨i + 1, by omega, rfl, fun j b hb hbe => ?_⟩
      rw [lst_set hsz]
      by_cases hji : j = i
      · subst hji; exact ⟨fun _ => by omega, fun _ => .inl rfl⟩
      · have : (Lst L j ↔ j < i) := orderE j b hb hji hke hbe
        constructor
        · rintro (e | hl)
          · exact absurd e hji
          · have := this.1 hl; omega
        · intro hlt'; right; exact this.2 (by omega)
    · rw [if_neg hke]
      refine ⟨k, hk, rfl, fun j b hb hbe => ?_⟩
      rw [lst_set hsz, ← hkw j b hb hbe]
      constructor
      · rintro (e | hl)
        · subst e; rw [hao] at hb; cases hb; exact absurd hbe hke
        · exact hl
      · exact .inr

end Am
