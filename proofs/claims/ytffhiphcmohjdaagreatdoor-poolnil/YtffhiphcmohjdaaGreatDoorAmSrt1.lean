/- Numbers are sorted by insertion (the library's own text). -/
import Derived.Test.YtffhiphcmohjdaaGreatDoorAmIrSort
import Derived.Test.YtffhiphcmohjdaaGreatDoorAmSortd
import Derived.Test.YtffhiphcmohjdaaGreatDoorAmQ1
set_option linter.all false
set_option linter.all false
namespace Am.Srt
open Am Go Am.Ir
set_option maxRecDepth 100000
attribute [local simp] ox oz kx kz og ogz kg kgz mo ai

def u3 (n : Int) : AVal := .int .u32 n
@[simp] theorem cells_u3 (n : Int) : cells? (u3 n) = some [u3 n] := rfl
theorem u32s_u3 (l : List Int) : u32s l = l.map u3 := rfl
theorem u32s_len (l : List Int) : (u32s l).length = l.length := by simp [u32s]
theorem u32s_at {l : List Int} {i : Nat} {n : Int} (h : l[i]? = some n) : (u32s l)[i]? = some (u3 n) := by simp [u32s, h]; rfl

theorem store_u3 {r v o : Nat} {S : St} {cs : List AVal} {x : Int} (h : S[r]? = some (.live v cs)) (ho : o < cs.length) : storeA 1 (.ptr r v o) (u3 x) S = some (S.set r (.live v (cs.set o (u3 x)))) := store_int h ho

def sorted (l : List Int) : Prop := l.Pairwise (· ≤ ·)
theorem sortI_of {l m : List Int} (h : sorted m) (hp : m.Perm l) : m = sortI l := by
  have tr : ∀ a b c : Int, leI a b = true → leI b c = true → leI a c = true := fun a b c h1 h2 => by simp only [leI, decide_eq_true_eq] at *; exact Int.le_trans h1 h2
  have to : ∀ a b : Int, (leI a b || leI b a) = true := fun a b => by simp only [leI, Bool.or_eq_true, decide_eq_true_eq]; exact Int.le_total a b
  refine List.Perm.eq_of_pairwise (le := fun a b => leI a b = true) (fun a b _ _ h1 h2 => ?_) (h.imp fun h => by simpa [leI] using h) (List.pairwise_mergeSort tr to l) (hp.trans (List.mergeSort_perm l leI).symm)
  simp only [leI, decide_eq_true_eq] at h1 h2
  exact Int.le_antisymm h1 h2

def LessOk (mL : Model) : Prop := ∀ (x y : Int) (S : St), mL [u3 x, u3 y] S = some (.bool (decide (x < y)), S)

theorem iaddr_at {r v n j : Nat} (h : j < n) : iaddrSA 1 (.sl r v 0 n 1) (.int .i64 (j : Int)) = some (.ptr r v j) := by
  simp [iaddrSA]; omega

/-- What the inner rounds keep: A1 ++ A2 in order, x below all of A2. -/
structure InI (S : St) (r v n i : Nat) (x : Int) (L B : List Int) (m : Nat) (f : Fr) (T : St) (A1 A2 : List Int) : Prop where
  len : A1.length = m
  tot : A1.length + 1 + A2.length + B.length = n
  st : T = S.set r (.live v (u32s (A1 ++ x :: A2 ++ B)))
  srt : sorted (A1 ++ A2)
  low : ∀ z ∈ A2, x < z
  perm : (A1 ++ x :: A2 ++ B).Perm L
  fr : Sl f [(0, .sl r v 0 n 1), (1, .int .i64 0), (2, .int .i64 (n : Int)), (6, .int .i64 (i : Int)), (7, .int .i64 (m : Int))]

theorem split_last {l : List Int} (h : l ≠ []) : ∃ a y, l = a ++ [y] := ⟨l.dropLast, l.getLast h, (List.dropLast_concat_getLast h).symm⟩

theorem inner_round {mL : Model} (hL : LessOk mL) {S : St} {r v n i : Nat} {x : Int} {L B : List Int} {cs : List AVal} (hS : S[r]? = some (.live v cs)) (hn : n ≤ 1000) (m : Nat) (f : Fr) (T : St) (hI : ∃ A1 A2, InI S r v n i x L B m f T A1 A2) :
    Post (evC (orc [mL]) 100000 slices_insertionSortOrdered_l0 f T) fun e f' S' => (e = .normal ∧ ∃ m', m' < m ∧ ∃ A1 A2, InI S r v n i x L B m' f' S' A1 A2) ∨
      (e ≠ .normal ∧ (e = .exit 2 ∧ ∃ A, A.length + B.length = n ∧ S' = S.set r (.live v (u32s (A ++ B))) ∧ sorted A ∧ (A ++ B).Perm L ∧ Sl f' [(0, .sl r v 0 n 1), (1, .int .i64 0), (2, .int .i64 (n : Int)), (6, .int .i64 (i : Int))])) := by
  obtain ⟨A1, A2, h⟩ := hI
  have hr : r < S.length := (List.getElem?_eq_some_iff.1 hS).1
  obtain ⟨f0, f1, f2, f6, f7, _⟩ := h.fr
  have hT : T[r]? = some (.live v (u32s (A1 ++ x :: A2 ++ B))) := by rw [h.st]; simp [hr]
  by_cases hm : A1 = []
  · have hm0 : m = 0 := by rw [← h.len, hm]; rfl
    subst hm0
    simp [slices_insertionSortOrdered_l0, f0, f1, f2, f6, f7]
    refine ⟨x :: A2, ?_, ?_, ?_, ?_⟩
    · have := h.tot; rw [hm] at this; simp at this ⊢; omega
    · rw [h.st, hm]; rfl
    · have := h.srt; rw [hm] at this
      exact List.pairwise_cons.2 ⟨fun z hz => Int.le_of_lt (h.low z hz), this⟩
    · have := h.perm; rw [hm] at this; exact this
  · obtain ⟨A, y, rfl⟩ := split_last hm
    have hlen := h.len
    have htot := h.tot
    simp only [List.length_append, List.length_singleton] at hlen htot
    obtain ⟨k, rfl⟩ : ∃ k, m = k + 1 := ⟨m - 1, by omega⟩
    have hAk : A.length = k := by omega
    have cx : (u32s (A ++ [y] ++ x :: A2 ++ B))[k + 1]? = some (u3 x) := u32s_at (by simp [hAk])
    have cy : (u32s (A ++ [y] ++ x :: A2 ++ B))[k]? = some (u3 y) := u32s_at (by simp [← hAk])
    have c1 : iaddrSA 1 (.sl r v 0 n 1) (.int .i64 ((k + 1 : Nat) : Int)) = some (.ptr r v (k + 1)) := iaddr_at (by omega)
    have c2 : iaddrSA 1 (.sl r v 0 n 1) (.int .i64 (k : Int)) = some (.ptr r v k) := iaddr_at (by omega)
    have c3 : binA .sub (.int .i64 ((k + 1 : Nat) : Int)) (.int .i64 1) = some (.int .i64 (k : Int)) := by
      rw [sub_i (by omega) (by omega)]; congr 2; omega
    have c4 : (0 : Int) < ((k + 1 : Nat) : Int) := by omega
    have c5 : loadA none (.ptr r v (k + 1)) T = some (u3 x) := by rw [load_live none hT]; exact cx
    have c6 : loadA none (.ptr r v k) T = some (u3 y) := by rw [load_live none hT]; exact cy
    generalize hk1 : ((k + 1 : Nat) : Int) = k1 at *
    generalize hk0 : ((k : Nat) : Int) = k0 at *
    by_cases hlt : x < y
    · have hL1 := hL x y T
      simp only [hlt, decide_true] at hL1
      have e1 : u32s (A ++ [y] ++ x :: A2 ++ B) = u32s A ++ u3 y :: u3 x :: u32s (A2 ++ B) := by simp [u32s, u3]
      have s1 : storeA 1 (.ptr r v (k + 1)) (u3 y) T = some (T.set r (.live v (u32s A ++ u3 y :: u3 y :: u32s (A2 ++ B)))) := by
        rw [store_u3 hT (by rw [u32s_len]; simp; omega), e1]
        congr 3
        rw [← hAk, ← u32s_len A, List.set_append_right _ _ (by omega)]
        simp [u3]
      have s2 : storeA 1 (.ptr r v k) (u3 x) (T.set r (.live v (u32s A ++ u3 y :: u3 y :: u32s (A2 ++ B)))) = some ((T.set r (.live v (u32s A ++ u3 y :: u3 y :: u32s (A2 ++ B)))).set r (.live v (u32s A ++ u3 x :: u3 y :: u32s (A2 ++ B)))) := by
        rw [store_u3 (v := v) (cs := u32s A ++ u3 y :: u3 y :: u32s (A2 ++ B)) (by rw [h.st]; simp [hr]) (by simp [u32s_len]; omega)]
        congr 3
        rw [← hAk, ← u32s_len A, List.set_append_right _ _ (by omega)]
        simp [u3]
      simp [-load_live, slices_insertionSortOrdered_l0, f0, f1, f2, f6, f7, c1, c2, c3, c4, c5, c6, hL1, s1, s2]
      refine ⟨k, Nat.lt_succ_self _, A, y :: A2, ?_⟩
      refine ⟨hAk, by simp only [List.length_cons]; omega, ?_, ?_, ?_, ?_, ?_⟩
      · rw [h.st]; simp [u32s, u3]
      · have := h.srt; simpa [sorted] using this
      · intro z hz
        rcases List.mem_cons.1 hz with rfl | hz
        · exact hlt
        · exact h.low z hz
      · refine List.Perm.trans ?_ h.perm
        have : (A ++ x :: y :: A2 ++ B).Perm (A ++ y :: x :: A2 ++ B) := by
          rw [List.append_assoc, List.append_assoc]
          exact List.Perm.append_left _ (List.Perm.swap _ _ _)
        simpa using this
      · simp [f0, f1, f2, f6, hk0]
    · have hL1 := hL x y T
      simp only [hlt, decide_false] at hL1
      simp [-load_live, slices_insertionSortOrdered_l0, f0, f1, f2, f6, f7, c1, c2, c3, c4, c5, c6, hL1]
      refine ⟨A ++ [y] ++ x :: A2, ?_, ?_, ?_, ?_⟩
      · simp; omega
      · rw [h.st]
      · have hs := h.srt
        simp only [sorted, List.pairwise_append] at hs ⊢
        refine ⟨hs.1, List.pairwise_cons.2 ⟨fun z hz => Int.le_of_lt (h.low z hz), hs.2.1⟩, fun a ha b hb => ?_⟩
        rcases List.mem_cons.1 hb with rfl | hb
        · rcases List.mem_append.1 ha with ha1 | ha1
          · have := hs.1.2.2 a ha1 y (by simp); omega
          · have := List.mem_singleton.1 ha1; omega
        · exact hs.2.2 a ha b hb
      · exact h.perm


theorem set_same {S : St} {r : Nat} {b : ABlock} (h : S[r]? = some b) : S.set r b = S := by
  apply List.ext_getElem?
  intro j
  rw [List.getElem?_set]
  by_cases e : r = j
  · subst e; rw [if_pos rfl, if_pos (List.getElem?_eq_some_iff.1 h).1, h]
  · rw [if_neg e]

def SlO (r v n i : Nat) (f : Fr) : Prop := Sl f [(0, .sl r v 0 n 1), (1, .int .i64 0), (2, .int .i64 (n : Int)), (6, .int .i64 (i : Int))]

theorem ins_ok {mL : Model} (hL : LessOk mL) {S : St} {r v n : Nat} {L : List Int} (hS : S[r]? = some (.live v (u32s L))) (hl : L.length = n) (hn : n ≤ 1000) (h0 : 0 < n) :
    exM (orc [mL]) slices_insertionSortOrdered 100000 [.sl r v 0 n 1, .int .i64 0, .int .i64 (n : Int)] S = some (.tup [], S.set r (.live v (u32s (sortI L)))) := by
  have hr : r < S.length := (List.getElem?_eq_some_iff.1 hS).1
  unfold exM
  refine evF_post (F := slices_insertionSortOrdered) rfl rfl ?_
  have c0 : binA .add (.int .i64 0) (.int .i64 1) = some (.int .i64 1) := by rw [add_i (by omega) (by omega)]; rfl
  simp [slices_insertionSortOrdered, slices_insertionSortOrdered_s5, c0]
  refine loopP (fun j f T => ∃ A B, A.length = j + 1 ∧ A.length + B.length = n ∧ T = S.set r (.live v (u32s (A ++ B))) ∧ sorted A ∧ (A ++ B).Perm L ∧ SlO r v n (j + 1) f) (n - 1) (by show n - 1 < 100000; omega) ?_ ?_ ?_ ?_
  · obtain ⟨a, l, rfl⟩ : ∃ a l, L = a :: l := by
      cases L with
      | nil => simp at hl; omega
      | cons a l => exact ⟨a, l, rfl⟩
    refine ⟨[a], l, rfl, by simp at hl ⊢; omega, ?_, List.pairwise_singleton _ _, List.Perm.refl _, ?_⟩
    · show S = S.set r _
      exact (set_same hS).symm
    · simp [SlO]
  · rintro j hj f T ⟨A, B, hA, hAB, rfl, hs, hp, hf⟩
    obtain ⟨f0, f1, f2, f6, _⟩ := hf
    obtain ⟨x, B', rfl⟩ : ∃ x B', B = x :: B' := by
      cases B with
      | nil => simp at hAB; omega
      | cons x B' => exact ⟨x, B', rfl⟩
    have c1 : ((j + 1 : Nat) : Int) < (n : Int) := by omega
    have c2 : binA .add (.int .i64 ((j + 1 : Nat) : Int)) (.int .i64 1) = some (.int .i64 ((j + 1 + 1 : Nat) : Int)) := by
      rw [add_i (by omega) (by omega)]; rfl
    generalize hk1 : ((j + 1 : Nat) : Int) = k1 at *
    generalize hk2 : ((j + 1 + 1 : Nat) : Int) = k2 at *
    simp [slices_insertionSortOrdered_l4, slices_insertionSortOrdered_t3, slices_insertionSortOrdered_b2, slices_insertionSortOrdered_s1, f0, f1, f2, f6, c1]
    refine loopM (fun m f T => ∃ A1 A2, InI S r v n (j + 1) x L B' m f T A1 A2)
      (fun e f' S' => e = .exit 2 ∧ ∃ A, A.length + B'.length = n ∧ S' = S.set r (.live v (u32s (A ++ B'))) ∧ sorted A ∧ (A ++ B').Perm L ∧ Sl f' [(0, .sl r v 0 n 1), (1, .int .i64 0), (2, .int .i64 (n : Int)), (6, .int .i64 ((j + 1 : Nat) : Int))])
      (j + 1) (by show j + 1 < 100000; omega) ?_ (fun m f T h => inner_round hL hS hn m f T h) ?_
    · refine ⟨A, [], hA, by simp at hAB ⊢; omega, by simp, by simpa using hs, by simp, by simpa using hp, ?_⟩
      simp [f0, f1, f2, f6, hk1]
    · rintro e f' S' ⟨rfl, A', g1, g2, g3, g4, g5⟩
      obtain ⟨k0, k1', k2', k6, _⟩ := g5
      rw [hk1] at k6
      simp [k0, k1', k2', k6, c2]
      simp only [List.length_cons] at hAB
      refine ⟨A', by omega, B', by omega, g2, g3, g4, ?_⟩
      simp [SlO, k0, k1', k2', hk2]
  · rintro f T ⟨A, B, hA, hAB, rfl, hs, hp, hf⟩
    obtain ⟨f0, f1, f2, f6, _⟩ := hf
    have c1 : ¬ ((n - 1 + 1 : Nat) : Int) < (n : Int) := by omega
    have hf' : SlO r v n (n - 1 + 1) f := ⟨f0, f1, f2, f6, trivial⟩
    generalize hk1 : ((n - 1 + 1 : Nat) : Int) = k1 at *
    simp [slices_insertionSortOrdered_l4, f0, f1, f2, f6, c1]
    exact ⟨A, hA, B, hAB, rfl, hs, hp, by simp [SlO, f0, f1, f2, f6, hk1]⟩
  · rintro f T ⟨A, B, hA, hAB, rfl, hs, hp, hf⟩
    have hB : B = [] := List.eq_nil_of_length_eq_zero (by omega)
    subst hB
    rw [List.append_nil] at hp
    rw [List.append_nil, sortI_of hs hp]
    exact ⟨.inl rfl, rfl⟩

noncomputable def mNaN : Model := exM (orc []) cmp_isNaN 10
noncomputable def mLess : Model := exM (orc [mNaN]) cmp_Less 10
theorem nan_ok (x : Int) (S : St) : mNaN [u3 x] S = some (.bool false, S) := by
  unfold mNaN exM
  refine evF_post (F := cmp_isNaN) rfl rfl ?_
  simp [cmp_isNaN, u3]
theorem less_ok : LessOk mLess := by
  intro x y S
  unfold mLess exM
  refine evF_post (F := cmp_Less) rfl rfl ?_
  have c1 := nan_ok x S
  have c2 := nan_ok y S
  generalize mNaN = m1 at *
  by_cases h : x < y <;> simp [cmp_Less, c1, c2] <;> simp [u3, h]

noncomputable def mIns : Model := exM (orc [mLess]) slices_insertionSortOrdered 100000
def noM : Model := fun _ _ => none
noncomputable def mPdq : Model := exM (orc [mIns, noM, noM, noM, noM, noM, noM, noM, noM, noM]) slices_pdqsortOrdered 10

theorem pdq_ok {S : St} {r v n : Nat} {L : List Int} (hS : S[r]? = some (.live v (u32s L))) (hl : L.length = n) (hn : n ≤ 12) (h0 : 0 < n) (q : Int) :
    mPdq [.sl r v 0 n 1, .int .i64 0, .int .i64 (n : Int), .int .i64 q] S = some (.tup [], S.set r (.live v (u32s (sortI L)))) := by
  have c1 := ins_ok less_ok hS hl (by omega) h0
  have c1 : mIns [.sl r v 0 n 1, .int .i64 0, .int .i64 (n : Int)] S = some (.tup [], S.set r (.live v (u32s (sortI L)))) := c1
  unfold mPdq exM
  refine evF_post (F := slices_pdqsortOrdered) rfl rfl ?_
  have c2 : binA .sub (.int .i64 (n : Int)) (.int .i64 0) = some (.int .i64 (n : Int)) := by rw [sub_i (by omega) (by omega)]; simp
  have c3 : (n : Int) ≤ 12 := by omega
  generalize mIns = m1 at *
  generalize (n : Int) = n1 at *
  simp [slices_pdqsortOrdered, slices_pdqsortOrdered_s1]
  rw [Post_block]
  simp only [evC]
  rw [Post_iter]
  simp [slices_pdqsortOrdered_l0, c1, c2, c3]

/-- The number of bits of a number, whatever it is. -/
def LenOk (mB : Model) : Prop := ∀ (n : Nat) (S : St), n ≤ 12 → ∃ q : Int, mB [.int .u64 (n : Int)] S = some (.int .i64 q, S)
noncomputable def xSort (mB : Model) : Model := exM (orc [mB, mPdq]) slices_Sort 10

theorem sort_ok {mB : Model} (hB : LenOk mB) {S : St} {r v n : Nat} {L : List Int} (hS : S[r]? = some (.live v (u32s L))) (hl : L.length = n) (hn : n ≤ 12) (h0 : 0 < n) :
    xSort mB [.sl r v 0 n 1] S = some (.tup [], S.set r (.live v (u32s (sortI L)))) := by
  obtain ⟨q, hq⟩ := hB n S hn
  have c1 := pdq_ok hS hl hn h0 q
  unfold xSort exM
  refine evF_post (F := slices_Sort) rfl rfl ?_
  have c2 : convA .u64 (.int .i64 (n : Int)) = some (.int .u64 (n : Int)) := by
    rw [conv_int, conv_u64 (by omega) (by omega)]
  generalize mPdq = m1 at *
  simp [slices_Sort, lenA, c1, c2, hq]

theorem sort_nil {mB : Model} (hB : LenOk mB) (hE : ∀ q S, mPdq [.nils, .int .i64 0, .int .i64 0, .int .i64 q] S = some (.tup [], S)) (S : St) : xSort mB [.nils] S = some (.tup [], S) := by
  obtain ⟨q, hq⟩ := hB 0 S (by omega)
  have c1 := hE q S
  unfold xSort exM
  refine evF_post (F := slices_Sort) rfl rfl ?_
  have c2 : convA .u64 (.int .i64 0) = some (.int .u64 0) := by rw [conv_int]; rfl
  have hq : mB [.int .u64 0] S = some (.int .i64 q, S) := hq
  generalize mPdq = m1 at *
  simp [slices_Sort, lenA, c1, c2, hq]

theorem ins_nil {S : St} : mIns [.nils, .int .i64 0, .int .i64 0] S = some (.tup [], S) := by
  unfold mIns exM
  refine evF_post (F := slices_insertionSortOrdered) rfl rfl ?_
  have c0 : binA .add (.int .i64 0) (.int .i64 1) = some (.int .i64 1) := by rw [add_i (by omega) (by omega)]; rfl
  simp [slices_insertionSortOrdered, slices_insertionSortOrdered_s5, c0]
  rw [Post_block]
  simp only [evC]
  rw [Post_iter]
  simp [slices_insertionSortOrdered_l4]

theorem pdq_nil (q : Int) (S : St) : mPdq [.nils, .int .i64 0, .int .i64 0, .int .i64 q] S = some (.tup [], S) := by
  have c1 := ins_nil (S := S)
  unfold mPdq exM
  refine evF_post (F := slices_pdqsortOrdered) rfl rfl ?_
  have c2 : binA .sub (.int .i64 0) (.int .i64 0) = some (.int .i64 0) := by rw [sub_i (by omega) (by omega)]; simp
  generalize mIns = m1 at *
  simp [slices_pdqsortOrdered, slices_pdqsortOrdered_s1]
  rw [Post_block]
  simp only [evC]
  rw [Post_iter]
  simp [slices_pdqsortOrdered_l0, c1, c2]

/-- The sort, up to twelve. -/
theorem sortsN {P : Program} {g : FuncId} {mB : Model} (hB : LenOk mB) (hs : Sound P g (xSort mB)) {W : World} (hW : WOk P W) : SortsN P g 12 W where
  some S ss hnd hl hne := by
    have h0 : 0 < ss.length := by cases ss with
      | nil => exact absurd rfl hne
      | cons a l => simp
    have h1 := sort_ok (S := S ++ [.live 0 (u32s ss)]) (r := S.length) (v := 0) hB (L := ss) (by rw [List.getElem?_append_right (Nat.le_refl _)]; simp) rfl hl h0
    refine (hs W hW _ _ _ _ h1).2.mono ?_
    rintro u T ⟨_, rfl⟩
    rw [List.set_append_right _ _ (Nat.le_refl _)]; simp
  none S := (hs W hW _ _ _ _ (sort_nil hB pdq_nil S)).2.mono fun u T h => h.2

end Am.Srt
