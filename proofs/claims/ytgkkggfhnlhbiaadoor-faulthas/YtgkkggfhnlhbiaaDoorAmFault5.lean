/- Faults: the three laws over the machine. -/
import Derived.Test.YtgkkggfhnlhbiaaDoorAmFault4
set_option linter.all false
namespace Am.Fault
open Am Go Am.Ir
set_option maxRecDepth 100000

/-- A slice of texts that has its block for itself. -/
def StrO (S : St) (m : AVal) (l : List (List UInt8)) (r : Nat) : Prop := ∃ v, m = .sl r v 0 l.length 1 ∧ S[r]? = some (.live v (scells l))

theorem StrO.app1 {S : St} {m : AVal} {l : List (List UInt8)} {r : Nat} (h : StrO S m l r) (s : List UInt8) (hl : l.length < 1000) :
    ∃ m' T, appendA 1 16 m (.sl S.length 0 0 1 1) (S ++ [.live 0 [.str s]]) = some (m', T) ∧ StrO T m' (l ++ [s]) r := by
  obtain ⟨v, rfl, h2⟩ := h
  have hlt := live_lt h2
  have hc : cellsOf 1 (.sl S.length 0 0 1 1) (S ++ [.live 0 [.str s]]) = some (1, [.str s]) := by simp [cellsOf]
  have h2' : (S ++ [ABlock.live 0 [AVal.str s]])[r]? = some (.live v (scells l)) := by rw [get_old hlt]; exact h2
  refine ⟨.sl r (v + 1) 0 (l.length + 1) 1, (S ++ [ABlock.live 0 [.str s]]).set r (.live (v + 1) (scells (l ++ [s]))), ?_, v + 1, by simp, by rw [List.getElem?_set_self (by simp; omega)]⟩
  simp only [appendA, hc, h2']
  rw [if_pos ⟨by trivial, by trivial, by rw [scells_len]; omega, by omega⟩, Nat.mul_one, List.drop_zero, List.take_of_length_le (by rw [scells_len]; omega)]
  simp [scells]

theorem StrO.strs {S : St} {m : AVal} {l : List (List UInt8)} {r : Nat} (h : StrO S m l r) : StrsI S m l := by
  obtain ⟨v, rfl, h2⟩ := h
  refine ⟨rfl, fun i s hi => ⟨.ptr r v (0 + i * 1), by rw [iaS (by omega) (by have := (List.getElem?_eq_some_iff.1 hi).1; omega), Int.toNat_natCast], ?_⟩⟩
  rw [load_c h2]
  simpa using scells_get hi

theorem madeL_all (root : List UInt8) (l : List (List UInt8)) : madeL root l l.length = l.reverse ++ [root] := by simp [madeL]

theorem root_last (l : List (List UInt8)) (root : List UInt8) : rootS (l ++ [root]) = root := by simp [rootS]

theorem foldl_textP (s : List UInt8) : ∀ (ops : List (List UInt8)) (u : List UInt8), ops.foldl textP (s ++ u) = s ++ ops.foldl textP u
  | [], u => rfl
  | o :: ops, u => by
    rw [List.foldl_cons, List.foldl_cons]
    have : textP (s ++ u) o = s ++ textP u o := by simp [textP]
    rw [this, foldl_textP s ops]

theorem textS_cons (o : List UInt8) (ops : List (List UInt8)) (c : Int) : textS (o :: ops) c = (o ++ sep) ++ textS ops c := by
  have h := foldl_textP (o ++ sep) ops []
  rw [List.append_nil] at h
  simp only [textS, List.foldl_cons]
  have : textP [] o = o ++ sep := by simp [textP]
  rw [this, h, List.append_assoc]

theorem small_made {l : List (List UInt8)} {root : List UInt8} (h1 : l.length ≤ 20) (h2 : ∀ o ∈ l, o.length ≤ 20) (h3 : root.length ≤ 20) : Small (l.reverse ++ [root]) := by
  refine ⟨by simp; omega, fun o ho => ?_⟩
  rcases List.mem_append.1 ho with h | h
  · have := h2 o (List.mem_reverse.1 h); omega
  · simp at h; subst h; omega

noncomputable def oHas : Orc := orc [xSmall, mAlive, xMade, mHas, mName, mName2]

theorem faultHas {x : AVal} {l : List (List UInt8)} (hx : OpsV x l) (hll : l.length ≤ 9223372036854775807) (c n : Int) : evF oHas 100 l03_FaultHas [x, .int .i64 c, .int .i64 n] [] = some (.bool true, []) := by
  obtain ⟨b, hb, hsm⟩ := small_ok hx hll [] (by simp) []
  have al := alive_ok []
  cases b with
  | false => simp [l03_FaultHas, exM, orc, orcD, evF, evC, evOps, evOper, evAny, evOp, evCall, putR, putA, Fr.ev, Fr.of, Fr.get, Fr.set, stable, junkA, junkL, resultsA, resA, same, oHas, hb, unA, al]
  | true =>
    obtain ⟨h1, h2, _⟩ := hsm rfl
    have hm := made_ok hx h1 [114, 111, 111, 116] c []
    have hn1 := name_ok n []
    have hn2 := name2_ok n []
    have hnil := has_nil n []
    have be : ∀ s : List UInt8, binA .eql (.str s) (.str s) = some (.bool true) := fun s => by simp [binA, strBin]
    by_cases hc : c = 0
    · subst hc
      rw [if_pos rfl] at hm
      have bn : binA .neq (.int .i64 0) (.int .i64 0) = some (.bool false) := rfl
      by_cases hcn : (0 : Int) = n
      · subst hcn
        have b1 : binA .eql (.int .i64 0) (.int .i64 0) = some (.bool true) := rfl
        generalize nameS 0 = N at *
        simp [l03_FaultHas, exM, orc, orcD, evF, evC, evOps, evOper, evAny, evOp, evCall, putR, putA, Fr.ev, Fr.of, Fr.get, Fr.set, stable, junkA, junkL, resultsA, resA, same, oHas, hb, unA, al, hm, hnil, b1, bn, eq2, hn1, hn2, be]
      · have b1 : binA .eql (.int .i64 0) (.int .i64 n) = some (.bool false) := eql_f hcn
        generalize nameS n = N at *
        simp [l03_FaultHas, exM, orc, orcD, evF, evC, evOps, evOper, evAny, evOp, evCall, putR, putA, Fr.ev, Fr.of, Fr.get, Fr.set, stable, junkA, junkL, resultsA, resA, same, oHas, hb, unA, al, hm, hnil, b1, eq2, hn1, hn2, be]
    · rw [if_neg hc, madeL_all] at hm
      have hh := has_ok (small_made (root := [114, 111, 111, 116]) h1 h2 (by simp)) (by simp) c n []
      have bn : binA .neq (.int .i64 c) (.int .i64 0) = some (.bool true) := neq_t hc
      generalize fV (l.reverse ++ [[114, 111, 111, 116]]) c = F at *
      by_cases hcn : c = n
      · subst hcn
        rw [decide_eq_true rfl] at hh
        have b1 : binA .eql (.int .i64 c) (.int .i64 c) = some (.bool true) := eql_t rfl
        generalize nameS c = N at *
        simp [l03_FaultHas, exM, orc, orcD, evF, evC, evOps, evOper, evAny, evOp, evCall, putR, putA, Fr.ev, Fr.of, Fr.get, Fr.set, stable, junkA, junkL, resultsA, resA, same, oHas, hb, unA, al, hm, hh, hnil, b1, bn, eq2, hn1, hn2, be]
      · rw [decide_eq_false (fun e => hcn e.symm)] at hh
        have b1 : binA .eql (.int .i64 c) (.int .i64 n) = some (.bool false) := eql_f hcn
        generalize nameS n = N at *
        simp [l03_FaultHas, exM, orc, orcD, evF, evC, evOps, evOper, evAny, evOp, evCall, putR, putA, Fr.ev, Fr.of, Fr.get, Fr.set, stable, junkA, junkL, resultsA, resA, same, oHas, hb, unA, al, hm, hh, hnil, b1, bn, eq2, hn1, hn2, be]

noncomputable def oWrapped : Orc := orc [xSmall, mAlive, xMade, mWrap, mCode, mRoot, mDepth, mText]

theorem faultWrapped {x : AVal} {l : List (List UInt8)} (hx : OpsV x l) (hll : l.length ≤ 9223372036854775807) (op : List UInt8) (hop : op.length ≤ 9223372036854775807) (c : Int) : evF oWrapped 100 l03_FaultWrapped [x, .str op, .int .i64 c] [] = some (.bool true, []) := by
  obtain ⟨b, hb, hsm⟩ := small_ok hx hll op hop []
  have al := alive_ok []
  cases b with
  | false => simp [l03_FaultWrapped, exM, orc, orcD, evF, evC, evOps, evOper, evAny, evOp, evCall, putR, putA, Fr.ev, Fr.of, Fr.get, Fr.set, stable, junkA, junkL, resultsA, resA, same, oWrapped, hb, unA, al]
  | true =>
    obtain ⟨h1, h2, h3⟩ := hsm rfl
    have hm := made_ok hx h1 [114, 111, 111, 116] c []
    have be : ∀ s : List UInt8, binA .eql (.str s) (.str s) = some (.bool true) := fun s => by simp [binA, strBin]
    by_cases hc : c = 0
    · subst hc
      rw [if_pos rfl] at hm
      have b0 : binA .eql (.int .i64 0) (.int .i64 0) = some (.bool true) := rfl
      have hw := wrap_nil op []
      simp [l03_FaultWrapped, exM, orc, orcD, evF, evC, evOps, evOper, evAny, evOp, evCall, putR, putA, Fr.ev, Fr.of, Fr.get, Fr.set, stable, junkA, junkL, resultsA, resA, same, oWrapped, hb, unA, al, hm, hw, b0, eq2]
    · rw [if_neg hc, madeL_all] at hm
      have b0 : binA .eql (.int .i64 c) (.int .i64 0) = some (.bool false) := eql_f hc
      have bc : binA .eql (.int .i64 c) (.int .i64 c) = some (.bool true) := eql_t rfl
      have hs1 := small_made (l := l) (root := [114, 111, 111, 116]) h1 h2 (by simp)
      obtain ⟨E, hE⟩ : ∃ E, l.reverse ++ [[114, 111, 111, 116]] = E := ⟨_, rfl⟩
      rw [hE] at hs1 hm
      obtain ⟨o1, r, hr⟩ : ∃ o1 r, E = o1 :: r := by
        cases E with
        | nil => simp at hE
        | cons a r => exact ⟨a, r, rfl⟩
      have hsn := hs1.n
      have hrn : r.length ≤ 29 := by rw [hr] at hsn; simp at hsn; omega
      have hEl : E.length ≤ 21 := by rw [← hE]; simp; omega
      have hs2 : Small (op :: E) := ⟨by simp; omega, fun o ho => by
        rcases List.mem_cons.1 ho with rfl | ho
        · omega
        · exact hs1.each o ho⟩
      have hw := wrap_ok op o1 r c (by omega) []
      rw [← hr] at hw
      have hcd := code_ok' op E c []
      have hr1 := root_ok hs2 c []
      have hr2 := root_ok hs1 c []
      have hre : rootS (op :: E) = rootS E := by rw [hr]; rfl
      rw [hre] at hr1
      have hd1 := depth_ok hs2 c []
      have hd2 := depth_ok hs1 c []
      have ht1 := text_ok hs2 c (by simp) []
      have ht2 := text_ok hs1 c (by rw [hr]; simp) []
      rw [textS_cons] at ht1
      have htl := text_len E [] hs1.each
      have hnl := nameS_len c
      have b1 : binA .add (.int .i64 (E.length : Int)) (.int .i64 1) = some (.int .i64 ((op :: E).length : Int)) := add_is (by simp) (by omega) (by simp; omega)
      have b2 : binA .eql (.int .i64 ((op :: E).length : Int)) (.int .i64 ((op :: E).length : Int)) = some (.bool true) := eql_t rfl
      have b3 : binA .add (.str op) (.str [58, 32]) = some (.str (op ++ sep)) := by simp [binA, strBin, sep]; omega
      have b4 : binA .add (.str (op ++ sep)) (.str (textS E c)) = some (.str (op ++ sep ++ textS E c)) := by simp [binA, strBin, textS, sep]; simp at htl; omega
      have hq : eq2 .ptr (fV (op :: E) c) .nilp = some false := rfl
      generalize ((op :: E).length : Int) = d1 at *
      generalize (E.length : Int) = d2 at *
      generalize fV (op :: E) c = F1 at *
      generalize fV E c = F2 at *
      generalize op ++ sep ++ textS E c = z1 at *
      generalize op ++ sep = z2 at *
      generalize textS E c = z3 at *
      generalize rootS E = z4 at *
      simp [l03_FaultWrapped, exM, orc, orcD, evF, evC, evOps, evOper, evAny, evOp, evCall, putR, putA, Fr.ev, Fr.of, Fr.get, Fr.set, stable, junkA, junkL, resultsA, resA, same, oWrapped, hb, unA, al, hm, hw, b0, bc, hq, hcd, hr1, hr2, hd1, hd2, b1, b2, b3, b4, ht1, ht2, be]

noncomputable def oTold : Orc := orc [xSmall, mAlive, xMade, mCode, mText, mRoot, mDepth, mErr, xText2]

theorem told_loop {f : Fr} {S : St} {m x : AVal} {l : List (List UInt8)} {r : Nat} {root e : AVal} {c : AVal} (hx : OpsV x l) (hll : l.length ≤ 20) (hm : StrO S m [] r) (h0 : f.get 0 = root) (h1 : f.get 1 = x) (h2 : f.get 2 = c) (h7 : f.get 7 = e) (h8 : f.get 8 = m) (h9 : f.get 9 = .int .i64 ((l.length : Int) - 1)) :
    Post (evC oTold 100 l03_FaultTold_s1 f S) fun ee f' T => ee = .normal ∧ f'.get 0 = root ∧ f'.get 2 = c ∧ f'.get 7 = e ∧ ∃ m', f'.get 8 = m' ∧ StrO T m' l.reverse r := by
  obtain ⟨f', T', k1, k2⟩ := loop_post (O := oTold) (k := 100) (id := 0) (b := l03_FaultTold_l0)
    (I := fun j f T => f.get 0 = root ∧ f.get 1 = x ∧ f.get 2 = c ∧ f.get 7 = e ∧ f.get 9 = .int .i64 ((l.length : Int) - 1 - (j : Int)) ∧ ∃ m', f.get 8 = m' ∧ StrO T m' (l.reverse.take j) r)
    (Q := fun f' T => f'.get 0 = root ∧ f'.get 2 = c ∧ f'.get 7 = e ∧ ∃ m', f'.get 8 = m' ∧ StrO T m' l.reverse r) l.length (by omega)
    (by
      rintro j hj f T ⟨g0, g1, g2, g7, g9, m1, g8, g10⟩
      have hi : l.length - 1 - j < l.length := by omega
      obtain ⟨o, ho⟩ : ∃ o, l[l.length - 1 - j]? = some o := ⟨_, List.getElem?_eq_getElem hi⟩
      have hix := hx.ix ho
      have e1 : ((l.length - 1 - j : Nat) : Int) = (l.length : Int) - 1 - (j : Int) := by omega
      rw [e1] at hix
      obtain ⟨m2, T2, a1, a2⟩ := g10.app1 o (by simp; omega)
      have hrev : l.reverse[j]? = some o := by rw [List.getElem?_reverse hj]; exact ho
      have htk : l.reverse.take (j + 1) = l.reverse.take j ++ [o] := by rw [List.take_add_one, hrev]; rfl
      have b1 : binA .geq (.int .i64 ((l.length : Int) - 1 - (j : Int))) (.int .i64 0) = some (.bool true) := geq_t (by omega)
      have b2 : binA .sub (.int .i64 ((l.length : Int) - 1 - (j : Int))) (.int .i64 1) = some (.int .i64 ((l.length : Int) - 1 - ((j + 1 : Nat) : Int))) := sub_is (by omega) (by omega) (by omega)
      suffices hmid : Post (evC oTold 100 l03_FaultTold_l0 f T) (fun ee f' T' => ee = .normal ∧ T' = T2 ∧ f'.get 0 = root ∧ f'.get 1 = x ∧ f'.get 2 = c ∧ f'.get 7 = e ∧ f'.get 9 = .int .i64 ((l.length : Int) - 1 - ((j + 1 : Nat) : Int)) ∧ f'.get 8 = m2) by
        refine hmid.mono ?_
        rintro ee f' T' ⟨q1, rfl, q3, q4, q5, q6, q7, q8⟩
        exact ⟨q1, q3, q4, q5, q6, q7, m2, q8, by rw [htk]; exact a2⟩
      generalize (l.length : Int) - 1 - ((j + 1 : Nat) : Int) = z1 at *
      generalize (l.length : Int) - 1 - (j : Int) = z2 at *
      simp [l03_FaultTold_l0, exM, orc, orcD, evF, evC, evOps, evOper, evAny, evOp, evCall, putR, putA, Fr.ev, Fr.of, Fr.get, Fr.set, stable, junkA, junkL, resultsA, resA, same, Fr.get_set, g0, g1, g2, g7, g8, g9, b1, b2, hix, load_fq, fillA, cells?, splice, a1, Post_some])
    (by
      rintro f T ⟨g0, g1, g2, g7, g9, m1, g8, g10⟩
      rw [List.take_of_length_le (by simp)] at g10
      have b1 : binA .geq (.int .i64 ((l.length : Int) - 1 - (l.length : Int))) (.int .i64 0) = some (.bool false) := geq_f (by omega)
      suffices hmid : Post (evC oTold 100 l03_FaultTold_l0 f T) (fun ee f' T' => ee = .exit 0 ∧ T' = T ∧ f'.get 0 = root ∧ f'.get 2 = c ∧ f'.get 7 = e ∧ f'.get 8 = m1) by
        refine hmid.mono ?_
        rintro ee f' T' ⟨q1, rfl, q3, q5, q6, q8⟩
        exact ⟨q1, q3, q5, q6, m1, q8, g10⟩
      generalize (l.length : Int) - 1 - (l.length : Int) = z2 at *
      simp [l03_FaultTold_l0, exM, orc, orcD, evF, evC, evOps, evOper, evAny, evOp, evCall, putR, putA, Fr.ev, Fr.of, Fr.get, Fr.set, stable, junkA, junkL, resultsA, resA, same, Fr.get_set, g0, g1, g2, g7, g8, g9, b1, Post_some])
    (f := f) (S := S) ⟨h0, h1, h2, h7, by rw [h9]; simp, m, h8, by simpa using hm⟩
  rw [show l03_FaultTold_s1 = .block 0 (.loop l03_FaultTold_l0) from rfl, k1]
  exact Post.of rfl ⟨rfl, k2⟩

theorem faultTold {x : AVal} {l : List (List UInt8)} (hx : OpsV x l) (hll : l.length ≤ 9223372036854775807) (root : List UInt8) (hroot : root.length ≤ 9223372036854775807) (c : Int) : ∃ T, evF oTold 100 l03_FaultTold [.str root, x, .int .i64 c] [] = some (.bool true, T) := by
  obtain ⟨b, hb, hsm⟩ := small_ok hx hll root hroot []
  have al := alive_ok
  cases b with
  | false => exact ⟨[], by simp [l03_FaultTold, exM, orc, orcD, evF, evC, evOps, evOper, evAny, evOp, evCall, putR, putA, Fr.ev, Fr.of, Fr.get, Fr.set, stable, junkA, junkL, resultsA, resA, same, oTold, hb, unA, al]⟩
  | true =>
    obtain ⟨h1, h2, h3⟩ := hsm rfl
    have hm := made_ok hx h1 root c []
    have be : ∀ s : List UInt8, binA .eql (.str s) (.str s) = some (.bool true) := fun s => by simp [binA, strBin]
    have hlen := hx.len
    have bs : binA .sub (.int .i64 (l.length : Int)) (.int .i64 1) = some (.int .i64 ((l.length : Int) - 1)) := sub_i (by omega) (by omega)
    refine evF_postX (R := fun _ => True) rfl rfl ?_ |>.imp fun T h => h.1
    simp only [l03_FaultTold, l03_FaultTold_t2, Post_seq]
    obtain ⟨E0, hE0⟩ : ∃ E0, (if c = 0 then AVal.nilp else fV (madeL root l l.length) c) = E0 := ⟨_, rfl⟩
    rw [hE0] at hm
    obtain ⟨ll1, hll1⟩ : ∃ z : Int, (l.length : Int) - 1 = z := ⟨_, rfl⟩
    rw [hll1] at bs
    simp [exM, orc, orcD, evF, evC, evOps, evOper, evAny, evOp, evCall, putR, putA, Fr.ev, Fr.of, Fr.get, Fr.set, stable, junkA, junkL, resultsA, resA, same, oTold, hb, unA, hm, fillA, hlen, bs, Fr.get_set, Post_some]
    refine (told_loop (r := 0) (S := [.live 0 []]) (m := .sl 0 0 0 0 1) (root := .str root) (e := E0) (c := .int .i64 c) hx h1 ⟨0, rfl, rfl⟩ rfl rfl rfl rfl rfl (by rw [hll1]; rfl)).mono ?_
    rintro ee f T ⟨rfl, g0, g2, g7, m1, g8, g10⟩
    obtain ⟨m2, T2, a1, a2⟩ := g10.app1 root (by simp; omega)
    by_cases hc : c = 0
    · subst hc
      rw [if_pos rfl] at hE0
      subst hE0
      have b0 : binA .eql (.int .i64 0) (.int .i64 0) = some (.bool true) := rfl
      have hcd := code_nil T2
      have htx := text_nil T2
      have hrt := root_ok (ops := []) ⟨by simp, by simp⟩ 0 T2
      have hdp := depth_ok (ops := []) ⟨by simp, by simp⟩ 0 T2
      have hf0 : fV [] 0 = .nilp := rfl
      have hr0 : rootS [] = [] := rfl
      have al2 := al T2
      rw [hf0] at hrt hdp
      rw [hr0] at hrt
      have hdp' : mDepth [.nilp] T2 = some (.int .i64 0, T2) := hdp
      have be' : binA .eql (.str []) (.str []) = some (.bool true) := be []
      simp [exM, orc, orcD, evF, evC, evOps, evOper, evAny, evOp, evCall, putR, putA, Fr.ev, Fr.of, Fr.get, Fr.set, stable, junkA, junkL, resultsA, resA, same, oTold, Fr.get_set, g0, g2, g7, g8, fillA, cells?, splice, a1, b0, al2, hcd, htx, hrt, hdp', eq2, be', Post_some]
    · rw [if_neg hc, madeL_all] at hE0
      subst hE0
      have b0 : binA .eql (.int .i64 c) (.int .i64 0) = some (.bool false) := eql_f hc
      have bc : binA .eql (.int .i64 c) (.int .i64 c) = some (.bool true) := eql_t rfl
      have hs1 := small_made (l := l) (root := root) h1 h2 h3
      have hne : l.reverse ++ [root] ≠ [] := by simp
      have hre := root_last l.reverse root
      obtain ⟨E, hE⟩ : ∃ E, l.reverse ++ [root] = E := ⟨_, rfl⟩
      rw [hE] at hs1 hne a2 hre g7
      have htx := text_ok hs1 c hne T2
      have her := err_ok hs1 c hne T2
      have hrt := root_ok hs1 c T2
      rw [hre] at hrt
      have hdp := depth_ok hs1 c T2
      have ht2 := text2_ok a2.strs hs1 hne c hc
      have hln := a2.strs.len
      obtain ⟨o1, r, hr⟩ : ∃ o1 r, E = o1 :: r := by
        cases E with
        | nil => exact absurd rfl hne
        | cons a r => exact ⟨a, r, rfl⟩
      have hcd : mCode [fV E c] T2 = some (.int .i64 c, T2) := by rw [hr]; exact code_ok' o1 r c T2
      have hq : eq2 .ptr (fV E c) .nilp = some false := by rw [hr]; rfl
      have bl : binA .eql (.int .i64 (E.length : Int)) (.int .i64 (E.length : Int)) = some (.bool true) := eql_t rfl
      have al2 := al T2
      generalize (E.length : Int) = el at *
      generalize fV E c = F at *
      generalize textS E c = z at *
      simp [exM, orc, orcD, evF, evC, evOps, evOper, evAny, evOp, evCall, putR, putA, Fr.ev, Fr.of, Fr.get, Fr.set, stable, junkA, junkL, resultsA, resA, same, oTold, Fr.get_set, g0, g2, g7, g8, fillA, cells?, splice, a1, b0, bc, bl, al2, hq, hcd, htx, her, hrt, hdp, ht2, hln, be, Post_some]
end Am.Fault
