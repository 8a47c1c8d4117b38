/- Faults: what one tells; whether one has a number. -/
import Derived.Test.YtgkkggfhnlhbiaaDoorAmFault2
set_option linter.all false
namespace Am.Fault
open Am Go Am.Ir
set_option maxRecDepth 100000

/-- Operations such as are asked about. -/
structure Small (ops : List (List UInt8)) : Prop where
  n : ops.length ≤ 30
  each : ∀ o ∈ ops, o.length ≤ 30

def textS (ops : List (List UInt8)) (c : Int) : List UInt8 := ops.foldl textP [] ++ nameS c

theorem text_len : ∀ (ops : List (List UInt8)) (s : List UInt8), (∀ o ∈ ops, o.length ≤ 30) → (ops.foldl textP s).length ≤ s.length + ops.length * 32
  | [], s, _ => by simp
  | o :: ops, s, h => by
    have h1 := h o (by simp)
    have := text_len ops (textP s o) (fun x hx => h x (by simp [hx]))
    simp only [List.foldl_cons, List.length_cons]
    have e : (textP s o).length = s.length + (o.length + 2) := by simp [textP, sep]
    omega

theorem foldl_take_succ {α : Type} (st : α → List UInt8 → α) (a0 : α) {ops : List (List UInt8)} {j : Nat} {op : List UInt8} (h : ops[j]? = some op) : (ops.take (j + 1)).foldl st a0 = st ((ops.take j).foldl st a0) op := by
  rw [List.take_add_one, h, List.foldl_append]; rfl

noncomputable def mText : Model := pureM 3 (exM (orc [xEach 23 xText1, mName]) fault_Text 10)
noncomputable def mRoot : Model := pureM 3 (exM (orc [xEach 21 xRoot1]) fault_Root 10)
noncomputable def mDepth : Model := pureM 3 (exM (orc [xEach 22 xDepth1]) fault_Depth 10)
noncomputable def mErr : Model := pureM 3 (exM (orc [mText]) fault_Fault_Error 10)

theorem text_nil (S : St) : mText [.nilp] S = some (.str [], S) := by
  refine pureM_run (T := []) (v := .str []) rfl ?_ rfl
  simp [exM, fault_Text, exM, orc, orcD, evF, evC, evOps, evOper, evAny, evOp, evCall, putR, putA, Fr.ev, Fr.of, Fr.get, Fr.set, stable, junkA, junkL, resultsA, resA, same, eq2]

theorem text_ok {ops : List (List UInt8)} (hs : Small ops) (c : Int) (hne : ops ≠ []) (S : St) : mText [fV ops c] S = some (.str (textS ops c), S) := by
  have he := each_ok (k := 23) (d := xText1) (r := 0) (c := c) (fun s => AVal.str s) textP [] (ops := ops) (by have := hs.n; omega) (S := [.live 0 [.str []]]) rfl (fun j op hop T hT => by
    rw [foldl_take_succ textP [] hop]
    refine text1_ok hT ?_
    have h1 := text_len (ops.take j) [] (fun o ho => hs.each o (List.mem_of_mem_take ho))
    have h2 := hs.each op (List.mem_of_getElem? hop)
    have h3 := hs.n
    simp at h1
    have : min j ops.length * 32 ≤ ops.length * 32 := Nat.mul_le_mul_right _ (Nat.min_le_right _ _)
    omega)
  have hl := text_len ops [] hs.each
  have hn := nameS_len c
  have h3 := hs.n
  have b1 : binA .add (.str (ops.foldl textP [])) (.str (nameS c)) = some (.str (textS ops c)) := by simp [binA, strBin, textS]; simp at hl; omega
  have hnm := fun S => name_ok c S
  refine pureM_run (T := [.live 0 [.str (ops.foldl textP [])]]) (v := .str (textS ops c)) (by simp [closedL, closed_fV]) ?_ rfl
  obtain ⟨op, r, rfl⟩ : ∃ op r, ops = op :: r := by cases ops with | nil => exact absurd rfl hne | cons a b => exact ⟨a, b, rfl⟩
  have hq : eq2 .ptr (fV (op :: r) c) .nilp = some false := rfl
  have hfa : faddrA 1 (fV (op :: r) c) = some (.fq [.int .i64 c, fV r c]) := rfl
  have hst : storeA 1 (.ptr 0 0 0) (.str []) [.live 0 [.str []]] = some [.live 0 [.str []]] := rfl
  have hld : loadA none (.ptr 0 0 0) [.live 0 [.str ((op :: r).foldl textP [])]] = some (.str ((op :: r).foldl textP [])) := rfl
  have hset : ([.live 0 [.str []]] : St).set 0 (.live 0 [.str ((op :: r).foldl textP [])]) = [.live 0 [.str ((op :: r).foldl textP [])]] := rfl
  rw [hset] at he
  have hnc : ∃ cs, fV (op :: r) c = .fq cs := ⟨_, rfl⟩
  obtain ⟨cs, hcs⟩ := hnc
  rw [hcs] at hq hfa he
  have goal0 : exM (orc [xEach 23 xText1, mName]) fault_Text 10 [.fq cs] [] = some (.str (textS (op :: r) c), [.live 0 [.str ((op :: r).foldl textP [])]]) := by
    generalize (op :: r).foldl textP [] = F at *
    generalize textS (op :: r) c = G at *
    generalize nameS c = N at *
    generalize fV r c = R at *
    simp [exM, fault_Text, exM, orc, orcD, evF, evC, evOps, evOper, evAny, evOp, evCall, putR, putA, Fr.ev, Fr.of, Fr.get, Fr.set, stable, junkA, junkL, resultsA, resA, same, hq, hst, he, hld, hfa, load_fq, hnm, b1, trL, sameRead, sameVal, beqV_refl]
  rw [hcs]; exact goal0

def rootS (ops : List (List UInt8)) : List UInt8 := ops.foldl (fun _ o => o) []

theorem root_ok {ops : List (List UInt8)} (hs : Small ops) (c : Int) (S : St) : mRoot [fV ops c] S = some (.str (rootS ops), S) := by
  have he := each_ok (k := 21) (d := xRoot1) (r := 0) (c := c) (fun s => AVal.str s) (fun _ o => o) [] (ops := ops) (by have := hs.n; omega) (S := [.live 0 [.str []]]) rfl (fun j op hop T hT => by
    rw [foldl_take_succ _ [] hop]
    exact root1_ok hT)
  refine pureM_run (T := [.live 0 [.str (rootS ops)]]) (v := .str (rootS ops)) (by simp [closedL, closed_fV]) ?_ rfl
  have hset : ([.live 0 [.str []]] : St).set 0 (.live 0 [.str (ops.foldl (fun _ o => o) [])]) = [.live 0 [.str (rootS ops)]] := rfl
  rw [hset] at he
  have hst : storeA 1 (.ptr 0 0 0) (.str []) [.live 0 [.str []]] = some [.live 0 [.str []]] := rfl
  have hld : loadA none (.ptr 0 0 0) [.live 0 [.str (rootS ops)]] = some (.str (rootS ops)) := rfl
  generalize rootS ops = G at *
  generalize fV ops c = R at *
  simp [exM, fault_Root, exM, orc, orcD, evF, evC, evOps, evOper, evAny, evOp, evCall, putR, putA, Fr.ev, Fr.of, Fr.get, Fr.set, stable, junkA, junkL, resultsA, resA, same, hst, he, hld]

theorem depth_fold : ∀ (ops : List (List UInt8)) (n : Nat), ops.foldl (fun n _ => n + 1) n = n + ops.length
  | [], n => rfl
  | o :: ops, n => by rw [List.foldl_cons, depth_fold ops, List.length_cons]; omega

theorem depth_ok {ops : List (List UInt8)} (hs : Small ops) (c : Int) (S : St) : mDepth [fV ops c] S = some (.int .i64 (ops.length : Int), S) := by
  have he := each_ok (k := 22) (d := xDepth1) (r := 0) (c := c) (fun n : Nat => AVal.int .i64 (n : Int)) (fun n _ => n + 1) 0 (ops := ops) (by have := hs.n; omega) (S := [.live 0 [.int .i64 0]]) rfl (fun j op hop T hT => by
    rw [foldl_take_succ _ 0 hop]
    refine depth1_ok hT ?_
    rw [depth_fold]
    have := hs.n
    simp; omega)
  rw [depth_fold, Nat.zero_add] at he
  refine pureM_run (T := [.live 0 [.int .i64 (ops.length : Int)]]) (v := .int .i64 (ops.length : Int)) (by simp [closedL, closed_fV]) ?_ rfl
  have hset : ([.live 0 [.int .i64 0]] : St).set 0 (.live 0 [.int .i64 (ops.length : Int)]) = [.live 0 [.int .i64 (ops.length : Int)]] := rfl
  rw [hset] at he
  have hst : storeA 1 (.ptr 0 0 0) (.int .i64 0) [.live 0 [.int .i64 0]] = some [.live 0 [.int .i64 0]] := rfl
  have hld : loadA none (.ptr 0 0 0) [.live 0 [.int .i64 (ops.length : Int)]] = some (.int .i64 (ops.length : Int)) := rfl
  generalize (ops.length : Int) = G at *
  generalize fV ops c = R at *
  simp [exM, fault_Depth, exM, orc, orcD, evF, evC, evOps, evOper, evAny, evOp, evCall, putR, putA, Fr.ev, Fr.of, Fr.get, Fr.set, stable, junkA, junkL, resultsA, resA, same, hst, he, hld]

theorem err_ok {ops : List (List UInt8)} (hs : Small ops) (c : Int) (hne : ops ≠ []) (S : St) : mErr [fV ops c] S = some (.str (textS ops c), S) := by
  have h := text_ok hs c hne []
  refine pureM_run (T := []) (v := .str (textS ops c)) (by simp [closedL, closed_fV]) ?_ rfl
  generalize textS ops c = G at *
  generalize fV ops c = R at *
  simp [exM, fault_Fault_Error, exM, orc, orcD, evF, evC, evOps, evOper, evAny, evOp, evCall, putR, putA, Fr.ev, Fr.of, Fr.get, Fr.set, stable, junkA, junkL, resultsA, resA, same, h]

/-- A code as an error. -/
def cV (n : Int) : AVal := .iface 47 (.int .i64 n)

theorem lis_ok (op : List UInt8) (r : List (List UInt8)) (c n : Int) (S : St) : mLIs [.agg [fV (op :: r) c], cV n] S = some (.bool (decide (n = c)), S) := by
  refine pureM_run (T := [.live 0 [fV (op :: r) c]]) (v := .bool (decide (n = c))) (by simp [closedL, closedV, closed_fV, cV]) ?_ rfl
  have hb : binA .eql (.int .i64 n) (.int .i64 c) = some (.bool (decide (n = c))) := by simp [binA, intBin]; exact Bool.beq_eq_decide_eq n c
  generalize decide (n = c) = d at *
  simp [exM, fault_link_Is, exM, orc, orcD, evF, evC, evOps, evOper, evAny, evOp, evCall, putR, putA, Fr.ev, Fr.of, Fr.get, Fr.set, stable, junkA, junkL, resultsA, resA, same, cells?, cV, fV, faddrA, loadA, partA, hb]

theorem isM_at (g : Model) (x n : AVal) (S : St) : isM g [.iface 46 x, .iface 47 n] S = g [.iface 46 x, .iface 47 n, .bool true] S := rfl

noncomputable def xIsE : Model := exM (orc [mLIs, mLUnwrap]) errors_is 1000
noncomputable def mIsE : Model := pureM 3 xIsE
noncomputable def mIs : Model := isM mIsE
noncomputable def mHas : Model := pureM 3 (exM (orc [mIs]) fault_Has 10)

theorem is_round {f : Fr} {op : List UInt8} {r : List (List UInt8)} {c n : Int} (hr : r.length ≤ 90) (h0 : f.get 0 = lV (op :: r) c) (h1 : f.get 1 = cV n) (h2 : f.get 2 = .bool true) :
    Post (evC (orc [mLIs, mLUnwrap]) 1000 errors_is_l7 f []) fun e f' T => T = [] ∧ (if n = c then e = .ret ∧ f'.get 6 = .bool true else if r = [] then e = .ret ∧ f'.get 6 = .bool false else e = .normal ∧ f'.get 0 = lV r c ∧ f'.get 1 = cV n ∧ f'.get 2 = .bool true) := by
  have hi := lis_ok op r c n []
  have hu := lunwrap_ok op r c hr []
  have hl : lV (op :: r) c = .iface 46 (.agg [fV (op :: r) c]) := rfl
  have hc : cV n = .iface 47 (.int .i64 n) := rfl
  rw [hl] at h0
  rw [hc] at h1 hi
  generalize fV (op :: r) c = F at *
  by_cases hnc : n = c
  · simp only [if_pos hnc]
    rw [decide_eq_true hnc] at hi
    simp [errors_is_l7, errors_is_b6, errors_is_b5, errors_is_c4, errors_is_c3, exM, orc, orcD, evF, evC, evOps, evOper, evAny, evOp, evCall, putR, putA, Fr.ev, Fr.of, Fr.get, Fr.set, stable, junkA, junkL, resultsA, resA, same, Fr.get_set, h0, h1, h2, hi, List.lookup, Post_some]
  · simp only [if_neg hnc]
    rw [decide_eq_false hnc] at hi
    by_cases hr0 : r = []
    · simp only [if_pos hr0]
      rw [nextL, if_pos hr0] at hu
      simp [errors_is_l7, errors_is_b6, errors_is_b5, errors_is_c4, errors_is_c3, exM, orc, orcD, evF, evC, evOps, evOper, evAny, evOp, evCall, putR, putA, Fr.ev, Fr.of, Fr.get, Fr.set, stable, junkA, junkL, resultsA, resA, same, Fr.get_set, h0, h1, h2, hi, hu, List.lookup, eq2, Post_some]
    · simp only [if_neg hr0]
      rw [nextL, if_neg hr0] at hu
      have hl2 : lV r c = .iface 46 (.agg [fV r c]) := rfl
      rw [hl2] at hu ⊢
      generalize fV r c = G at *
      simp [errors_is_l7, errors_is_b6, errors_is_b5, errors_is_c4, errors_is_c3, exM, orc, orcD, evF, evC, evOps, evOper, evAny, evOp, evCall, putR, putA, Fr.ev, Fr.of, Fr.get, Fr.set, stable, junkA, junkL, resultsA, resA, same, Fr.get_set, h0, h1, h2, hi, hu, List.lookup, eq2, hc, Post_some]

theorem isE_ok {ops : List (List UInt8)} (hs : Small ops) (hne : ops ≠ []) (c n : Int) (S : St) : mIsE [lV ops c, cV n, .bool true] S = some (.bool (decide (n = c)), S) := by
  have hlen := hs.n
  have hpos : 0 < ops.length := List.length_pos_iff.2 hne
  have key := iter_post (step := evC (orc [mLIs, mLUnwrap]) 1000 errors_is_l7) (fuel := 1000)
    (I := fun j f T => j < ops.length ∧ (j = 0 ∨ n ≠ c) ∧ T = [] ∧ f.get 0 = lV (ops.drop j) c ∧ f.get 1 = cV n ∧ f.get 2 = .bool true)
    (Q := fun e f T => e = .ret ∧ T = [] ∧ f.get 6 = .bool (decide (n = c))) (ops.length - 1)
    (fun j hj f T ⟨g0, gn, hT, g1, g2, g3⟩ => by
      subst hT
      obtain ⟨op, hop⟩ : ∃ op, ops[j]? = some op := ⟨_, List.getElem?_eq_getElem g0⟩
      have hdr : ops.drop j = op :: ops.drop (j + 1) := by
        rw [List.drop_eq_getElem_cons g0]; congr 1; exact (List.getElem?_eq_some_iff.1 hop).2
      rw [hdr] at g1
      have hne2 : ops.drop (j + 1) ≠ [] := by
        intro h
        have := congrArg List.length h
        simp at this; omega
      refine (is_round (by simp; omega) g1 g2 g3).mono ?_
      rintro e f' T ⟨rfl, h⟩
      by_cases hnc : n = c
      · rw [if_pos hnc] at h
        obtain ⟨rfl, h⟩ := h
        exact .inr ⟨by simp, rfl, rfl, by rw [h, decide_eq_true hnc]⟩
      · rw [if_neg hnc, if_neg hne2] at h
        obtain ⟨rfl, k0, k1, k2⟩ := h
        exact .inl ⟨rfl, by omega, .inr hnc, rfl, k0, k1, k2⟩)
    (fun f T ⟨g0, gn, hT, g1, g2, g3⟩ => by
      subst hT
      obtain ⟨op, hop⟩ : ∃ op, ops[ops.length - 1]? = some op := ⟨_, List.getElem?_eq_getElem g0⟩
      have hdr : ops.drop (ops.length - 1) = op :: ops.drop (ops.length - 1 + 1) := by
        rw [List.drop_eq_getElem_cons g0]; congr 1; exact (List.getElem?_eq_some_iff.1 hop).2
      have hnil : ops.drop (ops.length - 1 + 1) = [] := List.drop_of_length_le (by omega)
      rw [hdr, hnil] at g1
      refine (is_round (by simp) g1 g2 g3).mono ?_
      rintro e f' T ⟨rfl, h⟩
      by_cases hnc : n = c
      · rw [if_pos hnc] at h
        obtain ⟨rfl, h⟩ := h
        exact ⟨by simp, rfl, rfl, by rw [h, decide_eq_true hnc]⟩
      · rw [if_neg hnc, if_pos rfl] at h
        obtain ⟨rfl, h⟩ := h
        exact ⟨by simp, rfl, rfl, by rw [h, decide_eq_false hnc]⟩)
    (by omega) (f := (Fr.of [lV ops c, cV n, .bool true]).set 6 (.bool false)) (S := []) ⟨hpos, .inl rfl, rfl, rfl, rfl, rfl⟩
  obtain ⟨e, f', T, k1, _, rfl, rfl, k2⟩ := key
  refine pureM_run (T := []) (v := .bool (decide (n = c))) (by simp [closedL, closed_lV, closedV, cV]) ?_ rfl
  unfold xIsE exM
  refine evF_post rfl rfl ?_
  simp only [errors_is, Post_seq]
  simp [exM, orc, orcD, evF, evC, evOps, evOper, evAny, evOp, evCall, putR, putA, Fr.ev, Fr.of, Fr.get, Fr.set, stable, junkA, junkL, resultsA, resA, same, Post_some]
  rw [show errors_is_s8 = .block 0 (.loop errors_is_l7) from rfl]
  have k1' : iter (evC (orc [mLIs, mLUnwrap]) 1000 errors_is_l7) 1000 [(0, lV ops c), (1, cV n), (2, .bool true), (6, .bool false)] [] = some (.ret, f', []) := k1
  refine Post.block (Post.of (by simpa only [evC, orc] using k1') ?_)
  simp [k2]

theorem has_nil (n : Int) (S : St) : mHas [.nilp, .int .i64 n] S = some (.bool false, S) := by
  refine pureM_run (T := []) (v := .bool false) rfl ?_ rfl
  simp [exM, fault_Has, exM, orc, orcD, evF, evC, evOps, evOper, evAny, evOp, evCall, putR, putA, Fr.ev, Fr.of, Fr.get, Fr.set, stable, junkA, junkL, resultsA, resA, same, eq2]

theorem has_ok {ops : List (List UInt8)} (hs : Small ops) (hne : ops ≠ []) (c n : Int) (S : St) : mHas [fV ops c, .int .i64 n] S = some (.bool (decide (n = c)), S) := by
  have hi := isE_ok hs hne c n []
  have hi' : mIs [.iface 46 (.agg [fV ops c]), .iface 47 (.int .i64 n)] [] = some (.bool (decide (n = c)), []) := by rw [mIs, isM_at]; exact hi
  refine pureM_run (T := []) (v := .bool (decide (n = c))) (by simp [closedL, closed_fV, closedV]) ?_ rfl
  obtain ⟨op, r, rfl⟩ : ∃ op r, ops = op :: r := by cases ops with | nil => exact absurd rfl hne | cons a b => exact ⟨a, b, rfl⟩
  have hq : eq2 .ptr (fV (op :: r) c) .nilp = some false := rfl
  have hc : cells? (fV (op :: r) c) = some [fV (op :: r) c] := rfl
  generalize fV (op :: r) c = F at *
  generalize decide (n = c) = d at *
  simp [exM, fault_Has, exM, orc, orcD, evF, evC, evOps, evOper, evAny, evOp, evCall, putR, putA, Fr.ev, Fr.of, Fr.get, Fr.set, stable, junkA, junkL, resultsA, resA, same, hq, fillA, hc, splice, hi']
end Am.Fault
