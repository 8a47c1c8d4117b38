import Derived.Test.YtgbifohffmdgeaaDoorAmPolSD
import Derived.Lib.ItoaNum
import Derived.Lib.Join
set_option linter.all false
/- Texts: the words of a text, one by one. -/
section
namespace Am.Pol
open Am Go Am.Ir
set_option maxRecDepth 100000
attribute [local congr] Post_cg
attribute [local simp] ox oz kx kz og ogz kg kgz mo ai

theorem get_lt {S : St} {r : Nat} {b : ABlock} (h : S[r]? = some b) : r < S.length := (List.getElem?_eq_some_iff.1 h).1

/-- The words of a text. -/
def wordsF : Nat → List UInt8 → List (List UInt8)
  | 0, s => [s]
  | n + 1, s => if Lib.indexByte s 32 < 0 then [s] else s.take (Lib.indexByte s 32).toNat :: wordsF n (s.drop ((Lib.indexByte s 32).toNat + 1))
def parseGo : Nat → List Int → List (List UInt8) → Option (List Int)
  | _, many, [] => some many
  | a, many, w :: ws => match stepW a many w with
    | some (a', m') => parseGo a' m' ws
    | none => none

/-- What the iterator holds. -/
structure ItI (T : St) (rest : List UInt8) : Prop where
  b5 : T[5]? = some (.live 0 [.str rest])
  b6 : T[6]? = some (.live 0 [.str [32]])
  b7 : T[7]? = some (.live 0 [.int .i64 0])
  b8 : T[8]? = some (.loop .ready none)

def yP (sp p1 : Nat) (f : Fr) : Nat → Model := fun j args S' => if j = 8 then rnd (evC (oParse sp p1) 1000 policy_Parse_a0) (evC (oParse sp p1) 1000 (parseR p1)) [18] f j args S' else none

theorem rnd_ok {sp p1 a : Nat} {many : List Int} {T : St} {rest w : List UInt8} (h : ParX T a many) (hi : ItI T rest) (hw : w.length < 900) {f : Fr} (hf : BodF f) :
    ∃ (ok : Bool) (U : St), yP sp p1 f 8 [.str w] T = some (.bool ok, U) ∧ U[5]? = T[5]? ∧ U[6]? = T[6]? ∧ U[7]? = T[7]? ∧
      match stepW a many w with
      | some (a', many') => ok = true ∧ ParX U a' many' ∧ U[8]? = some (.loop .ready none)
      | none => ok = false ∧ ParF U ∧ U[8]? = some (.loop .done (some .ret)) := by
  have hl : 8 < T.length := get_lt hi.b8
  obtain ⟨s2, s3, s4, s5⟩ := hf
  obtain ⟨f1, hf1⟩ : ∃ f1, f1 = (f.set 18 (.str w)).set 6 (.str w) := ⟨_, rfl⟩
  have ha : evC (oParse sp p1) 1000 policy_Parse_a0 (f.set 18 (.str w)) T = some (.normal, f1, T) := by
    simp [policy_Parse_a0, evC_region, evOps, evOper, evAny, evOp, putR, putA, Fr.ev, stable, junkA, Fr.get_set, hf1]
  have hB : BodF f1 := by rw [hf1]; exact ⟨by simp [Fr.get_set, s2], by simp [Fr.get_set, s3], by simp [Fr.get_set, s4], by simp [Fr.get_set, s5]⟩
  have h6 : f1.get 6 = .str w := by rw [hf1]; simp [Fr.get_set]
  have gs : ∀ q, q ≠ 8 → (T.set 8 (.loop .busy none))[q]? = T[q]? := fun q hq => by rw [List.getElem?_set, if_neg (Ne.symm hq)]
  have hX : ParX (T.set 8 (.loop .busy none)) a many := ⟨by rw [gs 0 (by omega)]; exact h.b0, by rw [gs 1 (by omega)]; exact h.b1, by rw [gs 2 (by omega)]; exact h.b2, by rw [gs 3 (by omega)]; exact h.b3, by rw [gs 4 (by omega)]; exact h.b4, h.len, h.at5⟩
  obtain ⟨e, f', U, g1, g2, g3, g4⟩ := (body_ok (sp := sp) (p1 := p1) hX (by simp; omega) hw hB h6).ex
  have hlU : 8 < U.length := by simp at g3; omega
  have hb8 : U[8]? = some (.loop .busy none) := by rw [g2 8 (by omega) (by simp; omega), List.getElem?_set_self hl]
  have us : ∀ (b : ABlock) q, q ≠ 8 → (U.set 8 b)[q]? = U[q]? := fun b q hq => by rw [List.getElem?_set, if_neg (Ne.symm hq)]
  have hrun : ∀ b : ABlock, b = (if e = .normal then ABlock.loop .ready none else .loop .done (some e)) → yP sp p1 f 8 [.str w] T = some (.bool (decide (e = .normal)), U.set 8 b) := by
    intro b hb
    rw [hb]
    simp only [yP, if_true, rnd, List.length_cons, List.length_nil, hi.b8, List.zip_cons_cons, List.zip_nil_left, List.foldl_cons, List.foldl_nil, ha, g1, hb8]
  cases hs : stepW a many w with
  | none =>
    rw [hs] at g4
    obtain ⟨rfl, hF⟩ := g4
    refine ⟨false, _, hrun _ rfl, ?_, ?_, ?_, rfl, ⟨?_, ?_⟩, ?_⟩
    · rw [us _ 5 (by omega), g2 5 (by omega) (by simp; omega), gs 5 (by omega)]
    · rw [us _ 6 (by omega), g2 6 (by omega) (by simp; omega), gs 6 (by omega)]
    · rw [us _ 7 (by omega), g2 7 (by omega) (by simp; omega), gs 7 (by omega)]
    · rw [us _ 0 (by omega)]; exact hF.b0
    · rw [us _ 1 (by omega)]; exact hF.b1
    · rw [List.getElem?_set_self hlU]; rfl
  | some x =>
    obtain ⟨a', m'⟩ := x
    rw [hs] at g4
    obtain ⟨rfl, hF⟩ := g4
    refine ⟨true, _, hrun _ rfl, ?_, ?_, ?_, rfl, ⟨?_, ?_, ?_, ?_, ?_, hF.len, hF.at5⟩, ?_⟩
    · rw [us _ 5 (by omega), g2 5 (by omega) (by simp; omega), gs 5 (by omega)]
    · rw [us _ 6 (by omega), g2 6 (by omega) (by simp; omega), gs 6 (by omega)]
    · rw [us _ 7 (by omega), g2 7 (by omega) (by simp; omega), gs 7 (by omega)]
    · rw [us _ 0 (by omega)]; exact hF.b0
    · rw [us _ 1 (by omega)]; exact hF.b1
    · rw [us _ 2 (by omega)]; exact hF.b2
    · rw [us _ 3 (by omega)]; exact hF.b3
    · rw [us _ 4 (by omega)]; exact hF.b4
    · rw [List.getElem?_set_self hlU]; rfl

def oIt (sp p1 : Nat) (f : Fr) : Orc := { orc [noM, xIndex] with yld := yP sp p1 f }

structure ItF (g : Fr) : Prop where
  s0 : g.get 0 = .yld 8
  s1 : g.get 1 = .ptr 6 0 0
  s2 : g.get 2 = .ptr 5 0 0
  s3 : g.get 3 = .ptr 7 0 0

/-- How the words end. -/
def Ends (T : St) (r : Option (List Int)) : Prop := (∃ a many, r = some many ∧ ParX T a many ∧ T[8]? = some (.loop .ready none)) ∨ (r = none ∧ ParF T ∧ T[8]? = some (.loop .done (some .ret)))

theorem split_round {sp p1 a : Nat} {many : List Int} {T : St} {s : List UInt8} (h : ParX T a many) (hi : ItI T s) (hs : s.length < 900) {f : Fr} (hf : BodF f) {g : Fr} (hg : ItF g) :
    Post (evC (oIt sp p1 f) 1000 strings_splitSeq_1_l3 g T) fun e g' U => if Lib.indexByte s 32 < 0 then e = .exit 2 ∧ U = T ∧ ItF g' else
      match stepW a many (s.take (Lib.indexByte s 32).toNat) with
      | some (a', many') => e = .normal ∧ ItF g' ∧ ParX U a' many' ∧ ItI U (s.drop ((Lib.indexByte s 32).toNat + 1))
      | none => e = .ret ∧ ParF U ∧ U[8]? = some (.loop .done (some .ret)) := by
  obtain ⟨s0, s1, s2, s3⟩ := hg
  have l5 : loadA none (.ptr 5 0 0) T = some (.str s) := by rw [load_c hi.b5]; rfl
  have l6 : loadA none (.ptr 6 0 0) T = some (.str [32]) := by rw [load_c hi.b6]; rfl
  have l7 : loadA none (.ptr 7 0 0) T = some (.int .i64 0) := by rw [load_c hi.b7]; rfl
  have c1 := index_ok s 32 T
  rcases indexByte_cases s 32 with ⟨h1, _⟩ | ⟨i, h1, h2, h3, _⟩
  · have hneg : Lib.indexByte s 32 < 0 := by omega
    simp only [if_pos hneg]
    rw [h1] at c1
    have c2 : binA .lss (.int .i64 (-1)) (.int .i64 0) = some (.bool true) := rfl
    suffices hmid : Post (evC (oIt sp p1 f) 1000 strings_splitSeq_1_l3 g T) (fun e g' U => e = .exit 2 ∧ U = T ∧ g'.get 0 = .yld 8 ∧ g'.get 1 = .ptr 6 0 0 ∧ g'.get 2 = .ptr 5 0 0 ∧ g'.get 3 = .ptr 7 0 0) by
      refine hmid.mono ?_
      rintro e g' U ⟨rfl, hU, k0, k1, k2, k3⟩
      exact ⟨rfl, hU, k0, k1, k2, k3⟩
    unfold oIt
    generalize xIndex = m at *
    generalize yP sp p1 f = y at *
    simp [strings_splitSeq_1_l3, exM, orc, orcD, evF, evC_skip, evC_region, evC_cond, evC_exit, evC_ret, evOps, evOper, evAny, evOp, evCall, putR, putA, Fr.ev, Fr.of, Fr.get, Fr.set, stable, junkA, junkL, resultsA, resA, same, Post_seq, Post_block, Post_some, Fr.get_set, s0, s1, s2, s3, l5, l6, c1, c2]
  · have hneg : ¬ Lib.indexByte s 32 < 0 := by omega
    simp only [if_neg hneg]
    rw [h1] at c1
    simp only [h1, Int.toNat_natCast]
    have c2 : binA .lss (.int .i64 (i : Int)) (.int .i64 0) = some (.bool false) := lss_f (by omega)
    have c3 : binA .add (.int .i64 (i : Int)) (.int .i64 0) = some (.int .i64 (i : Int)) := add_is (by omega) (by omega) (by omega)
    have c4 : slcStrA (.str s) none (some (.int .i64 (i : Int))) = some (.str (s.take i)) := by
      simp only [slcStrA, bounds_nh (n := s.length) (k := .i64) (u := (i : Int)) (by omega) (by omega)]
      simp
    have c5 : binA .add (.int .i64 (i : Int)) (.int .i64 1) = some (.int .i64 ((i + 1 : Nat) : Int)) := add_is (by omega) (by omega) (by omega)
    have c6 : slcStrA (.str s) (some (.int .i64 ((i + 1 : Nat) : Int))) none = some (.str (s.drop (i + 1))) := by
      simp only [slcStrA, bounds_ln (n := s.length) (k := .i64) (l := ((i + 1 : Nat) : Int)) (by omega) (by omega)]
      rw [Int.toNat_natCast, List.take_of_length_le (Nat.le_refl _)]
    obtain ⟨ok, U, y1, y5, y6, y7, y8⟩ := rnd_ok (sp := sp) (p1 := p1) (w := s.take i) h hi (by simp; omega) hf
    cases hst : stepW a many (s.take i) with
    | none =>
      rw [hst] at y8
      obtain ⟨rfl, z1, z2⟩ := y8
      simp only []
      suffices hmid : Post (evC (oIt sp p1 f) 1000 strings_splitSeq_1_l3 g T) (fun e g' V => e = .ret ∧ V = U) by
        refine hmid.mono ?_
        rintro e g' V ⟨rfl, rfl⟩
        exact ⟨rfl, z1, z2⟩
      unfold oIt
      generalize xIndex = m at *
      generalize yP sp p1 f = y at *
      generalize s.take i = w at *
      simp [strings_splitSeq_1_l3, exM, orc, orcD, evF, evC_skip, evC_region, evC_cond, evC_exit, evC_ret, evOps, evOper, evAny, evOp, evCall, putR, putA, Fr.ev, Fr.of, Fr.get, Fr.set, stable, junkA, junkL, resultsA, resA, same, Post_seq, Post_block, Post_some, unA, Fr.get_set, s0, s1, s2, s3, l5, l6, l7, c1, c2, c3, c4, y1]
    | some x =>
      obtain ⟨a', m'⟩ := x
      rw [hst] at y8
      obtain ⟨rfl, z1, z2⟩ := y8
      simp only []
      have u5 : U[5]? = some (.live 0 [.str s]) := by rw [y5]; exact hi.b5
      have m5 : loadA none (.ptr 5 0 0) U = some (.str s) := by rw [load_c u5]; rfl
      have m6 : loadA none (.ptr 6 0 0) U = some (.str [32]) := by rw [load_c (v := 0) (cs := [.str [32]]) (by rw [y6]; exact hi.b6)]; rfl
      have c7 := store1 (o := 0) (x := .str (s.drop (i + 1))) u5 (by simp) rfl
      obtain ⟨V, hV⟩ : ∃ V : St, V = U.set 5 (.live 0 [.str (s.drop (i + 1))]) := ⟨_, rfl⟩
      have c7' : storeA 1 (.ptr 5 0 0) (.str (s.drop (i + 1))) U = some V := by rw [c7, hV]; rfl
      have vs : ∀ q, q ≠ 5 → V[q]? = U[q]? := fun q hq => by rw [hV, List.getElem?_set, if_neg (Ne.symm hq)]
      suffices hmid : Post (evC (oIt sp p1 f) 1000 strings_splitSeq_1_l3 g T) (fun e g' W => e = .normal ∧ W = V ∧ g'.get 0 = .yld 8 ∧ g'.get 1 = .ptr 6 0 0 ∧ g'.get 2 = .ptr 5 0 0 ∧ g'.get 3 = .ptr 7 0 0) by
        refine hmid.mono ?_
        rintro e g' W ⟨rfl, hW, k0, k1, k2, k3⟩
        rw [hW]
        refine ⟨rfl, ⟨k0, k1, k2, k3⟩, ⟨?_, ?_, ?_, ?_, ?_, z1.len, z1.at5⟩, ⟨?_, ?_, ?_, ?_⟩⟩
        · rw [vs 0 (by omega)]; exact z1.b0
        · rw [vs 1 (by omega)]; exact z1.b1
        · rw [vs 2 (by omega)]; exact z1.b2
        · rw [vs 3 (by omega)]; exact z1.b3
        · rw [vs 4 (by omega)]; exact z1.b4
        · rw [hV, List.getElem?_set_self (get_lt u5)]
        · rw [vs 6 (by omega), y6]; exact hi.b6
        · rw [vs 7 (by omega), y7]; exact hi.b7
        · rw [vs 8 (by omega)]; exact z2
      unfold oIt
      generalize xIndex = m at *
      generalize yP sp p1 f = y at *
      generalize s.take i = w at *
      generalize s.drop (i + 1) = w2 at *
      generalize ((i + 1 : Nat) : Int) = z at *
      simp [strings_splitSeq_1_l3, exM, orc, orcD, evF, evC_skip, evC_region, evC_cond, evC_exit, evC_ret, evOps, evOper, evAny, evOp, evCall, putR, putA, Fr.ev, Fr.of, Fr.get, Fr.set, stable, junkA, junkL, resultsA, resA, same, Post_seq, Post_block, Post_some, unA, lenA, Fr.get_set, s0, s1, s2, s3, l5, l6, l7, c1, c2, c3, c4, y1, m5, m6, c5, c6, c7']
end Am.Pol
end

/- Texts: all the words. -/
section
namespace Am.Pol
open Am Go Am.Ir
set_option maxRecDepth 100000
attribute [local congr] Post_cg
attribute [local simp] ox oz kx kz og ogz kg kgz mo ai

theorem words_run {sp p1 a n : Nat} {many : List Int} {T : St} {s : List UInt8} (h : ParX T a many) (hi : ItI T s) (hs : s.length < 900) (hn : s.length ≤ n) (hn9 : n < 900) {f : Fr} (hf : BodF f) :
    ∃ U, itSplit (yP sp p1 f) [.yld 8, .ptr 6 0 0, .ptr 5 0 0, .ptr 7 0 0] T = some (.tup [], U) ∧ Ends U (parseGo a many (wordsF n s)) := by
  obtain ⟨r, hr⟩ : ∃ r, r = parseGo a many (wordsF n s) := ⟨_, rfl⟩
  rw [← hr]
  have key : ∀ g, ItF g → Post (evC (oIt sp p1 f) 1000 strings_splitSeq_1_s4 g T) fun e g' U => (e = .normal ∨ e = .ret) ∧
      ((e = .normal ∧ ItF g' ∧ ∃ a many s, s.length < 900 ∧ ParX U a many ∧ ItI U s ∧ r = parseGo a many [s]) ∨ (e = .ret ∧ Ends U r)) := by
    intro g hg
    refine loop_measR (O := oIt sp p1 f) (k := 1000) (id := 2) (b := strings_splitSeq_1_l3) (m := n)
      (I := fun c g U => ItF g ∧ ∃ a many s, s.length ≤ c ∧ s.length < 900 ∧ ParX U a many ∧ ItI U s ∧ r = parseGo a many (wordsF c s))
      (Q := fun e g' U => (e = .normal ∧ ItF g' ∧ ∃ a many s, s.length < 900 ∧ ParX U a many ∧ ItI U s ∧ r = parseGo a many [s]) ∨ (e = .ret ∧ Ends U r)) ?_ (by omega) ⟨hg, a, many, s, hn, hs, h, hi, hr⟩
    rintro c g U ⟨hg, a, many, s, hc, hs, h, hi, hr⟩
    refine (split_round h hi hs hf hg).mono ?_
    intro e g' V hq
    by_cases hneg : Lib.indexByte s 32 < 0
    · rw [if_pos hneg] at hq
      obtain ⟨rfl, hV, hg'⟩ := hq
      rw [hV]
      refine .inr (.inl ⟨rfl, .inl ⟨rfl, hg', a, many, s, hs, h, hi, ?_⟩⟩)
      rw [hr]
      cases c with
      | zero => rfl
      | succ c => rw [wordsF, if_pos hneg]
    · rw [if_neg hneg] at hq
      have hpos : 0 < s.length := by
        cases s with
        | nil => exact absurd (by decide : Lib.indexByte [] 32 < 0) hneg
        | cons _ _ => simp
      obtain ⟨c, rfl⟩ : ∃ c', c = c' + 1 := ⟨c - 1, by omega⟩
      rw [wordsF, if_neg hneg, parseGo] at hr
      cases hst : stepW a many (s.take (Lib.indexByte s 32).toNat) with
      | none =>
        rw [hst] at hq hr
        obtain ⟨rfl, z1, z2⟩ := hq
        exact .inr (.inr ⟨rfl, .inr ⟨rfl, .inr ⟨hr, z1, z2⟩⟩⟩)
      | some x =>
        obtain ⟨a', m'⟩ := x
        rw [hst] at hq hr
        obtain ⟨rfl, hg', z1, z2⟩ := hq
        exact .inl ⟨rfl, c, by omega, hg', a', m', _, by simp; omega, by simp; omega, z1, z2, hr⟩
  suffices hmain : ∃ U, evF (oIt sp p1 f) 1000 strings_splitSeq_1 [.yld 8, .ptr 6 0 0, .ptr 5 0 0, .ptr 7 0 0] T = some (.tup [], U) ∧ Ends U r from hmain
  refine evF_postX (F := strings_splitSeq_1) (R := fun U => Ends U r) rfl rfl ?_
  have l6 : loadA none (.ptr 6 0 0) T = some (.str [32]) := by rw [load_c hi.b6]; rfl
  have c1 : binA .eql (.int .i64 1) (.int .i64 0) = some (.bool false) := rfl
  generalize hE : Ends = E at *
  have fin : ∀ (a : Nat) (many : List Int) (s : List UInt8) (U : St), s.length < 900 → ParX U a many → ItI U s → r = parseGo a many [s] → ∀ g', ItF g' → Post (evC (oIt sp p1 f) 1000 (.region none [mo 49 0, ox 50 (.load none (.t 2)), kx 51 (.v (.t 49) [.t 50])]) g' U) (fun e f1 S1 => (e = .normal ∨ e = .ret) ∧ resultsA f1 S1 [] = some (.tup []) ∧ E S1 r) := by
    intro a many s U hs h hi hr g' hg'
    obtain ⟨s0, s1, s2, s3⟩ := hg'
    have l5 : loadA none (.ptr 5 0 0) U = some (.str s) := by rw [load_c hi.b5]; rfl
    obtain ⟨ok, V, y1, y5, y6, y7, y8⟩ := rnd_ok (sp := sp) (p1 := p1) (w := s) h hi hs hf
    have hend : E V r := by
      rw [← hE, hr, parseGo]
      cases hst : stepW a many s with
      | none =>
        rw [hst] at y8
        exact .inr ⟨rfl, y8.2.1, y8.2.2⟩
      | some x =>
        obtain ⟨a', m'⟩ := x
        rw [hst] at y8
        exact .inl ⟨a', m', rfl, y8.2.1, y8.2.2⟩
    unfold oIt
    generalize yP sp p1 f = y at *
    simp [exM, orc, orcD, evF, evC_skip, evC_region, evC_cond, evC_exit, evC_ret, evOps, evOper, evAny, evOp, evCall, putR, putA, Fr.ev, Fr.of, Fr.get, Fr.set, stable, junkA, junkL, resultsA, resA, same, Post_seq, Post_block, Post_some, Fr.get_set, s0, s1, s2, s3, l5, y1, hend]
  have ht5 : strings_splitSeq_1_t5 = .seq strings_splitSeq_1_s4 (.region none [mo 49 0, ox 50 (.load none (.t 2)), kx 51 (.v (.t 49) [.t 50])]) := rfl
  have first : Post (evC (oIt sp p1 f) 1000 strings_splitSeq_1_t5 [(0, .yld 8), (1, .ptr 6 0 0), (2, .ptr 5 0 0), (3, .ptr 7 0 0), (9, .str [32]), (10, .int .i64 1), (11, .bool false)] T) (fun e f1 S1 => (e = .normal ∨ e = .ret) ∧ resultsA f1 S1 [] = some (.tup []) ∧ E S1 r) := by
    rw [ht5, Post_seq]
    refine (key _ ⟨by simp [Fr.get], by simp [Fr.get], by simp [Fr.get], by simp [Fr.get]⟩).mono ?_
    rintro e g' U ⟨_, ⟨rfl, hg', a, many, s, hs, h, hi, hr⟩ | ⟨rfl, hr⟩⟩
    · rw [if_pos rfl]
      exact fin a many s U hs h hi hr g' hg'
    · rw [if_neg (by simp)]
      exact ⟨.inr rfl, rfl, hr⟩
  generalize oIt sp p1 f = O at *
  simp [strings_splitSeq_1, strings_splitSeq_1_t6, exM, orc, orcD, evF, evC_skip, evC_region, evC_cond, evC_exit, evC_ret, evOps, evOper, evAny, evOp, evCall, putR, putA, Fr.ev, Fr.of, Fr.get, Fr.set, stable, junkA, junkL, resultsA, resA, same, Post_seq, Post_block, Post_some, lenA, l6, c1]
  simpa [resultsA] using first
end Am.Pol
end

/- Texts: Parse. -/
section
namespace Am.Pol
open Am Go Am.Ir
set_option maxRecDepth 100000
attribute [local congr] Post_cg
attribute [local simp] ox oz kx kz og ogz kg kgz mo ai

theorem get_mk {f : Fr} {j t : Nat} (v : AVal) (ht : t < markBase) : Fr.get ((markBase + j, v) :: f) t = f.get t := by
  simp only [Fr.get]; rw [if_neg (by omega)]

theorem range_ok {sp p1 : Nat} {s : List UInt8} {S : St} (hS : S.length = 8) (h : ParX (S ++ [.loop .ready none]) 0 zero5) (hi : ItI (S ++ [.loop .ready none]) s) (hs : s.length < 900) {f : Fr} (hf : BodF f) (hm : marks f = [])
    (h17 : f.get 17 = .fn (.func sp) [] [.ptr 6 0 0, .ptr 5 0 0, .ptr 7 0 0]) :
    Post (evC (oParse sp p1) 1000 (.block 0 (.range (.t 17) [18] policy_Parse_a0 (parseR p1))) f S) fun e f' U => f' = (markBase + 8, .junk) :: f ∧ (∃ st pe, U[8]? = some (.loop st pe)) ∧
      match parseGo 0 zero5 (wordsF s.length s) with
      | some many => e = .normal ∧ ∃ a, ParX U a many
      | none => e = .ret ∧ ParF U := by
  obtain ⟨T', k1, k2⟩ := words_run (sp := sp) (p1 := p1) (n := s.length) h hi hs (Nat.le_refl _) hs hf
  have hit : (oParse sp p1).itr sp = itSplit := by simp [oParse, orcD, pickI]
  have hY : (fun j args S' => if j = S.length then rnd (evC (oParse sp p1) 1000 policy_Parse_a0) (evC (oParse sp p1) 1000 (parseR p1)) [18] f j args S' else none) = yP sp p1 f := by
    funext j args S'
    simp only [yP, hS]
  have hev : evC (oParse sp p1) 1000 (.range (.t 17) [18] policy_Parse_a0 (parseR p1)) f S = rngEnd f 8 (some (.tup [], T')) := by
    simp only [evC, Fr.ev, h17, hm]
    rw [hit, hY, hS, ← k1]; rfl
  rw [Post_block, hev]
  rcases k2 with ⟨a, many, e1, e2, e3⟩ | ⟨e1, e2, e3⟩
  · rw [e1]
    have hlt := get_lt e3
    simp only [rngEnd, e3, Post_some]
    have us : ∀ (b : ABlock) q, q ≠ 8 → (T'.set 8 b)[q]? = T'[q]? := fun b q hq => by rw [List.getElem?_set, if_neg (Ne.symm hq)]
    refine ⟨trivial, ⟨_, _, List.getElem?_set_self hlt⟩, by simp, a, ?_, ?_, ?_, ?_, ?_, e2.len, e2.at5⟩
    · rw [us _ 0 (by omega)]; exact e2.b0
    · rw [us _ 1 (by omega)]; exact e2.b1
    · rw [us _ 2 (by omega)]; exact e2.b2
    · rw [us _ 3 (by omega)]; exact e2.b3
    · rw [us _ 4 (by omega)]; exact e2.b4
  · rw [e1]
    have hlt := get_lt e3
    simp only [rngEnd, e3, Post_some]
    have us : ∀ (b : ABlock) q, q ≠ 8 → (T'.set 8 b)[q]? = T'[q]? := fun b q hq => by rw [List.getElem?_set, if_neg (Ne.symm hq)]
    refine ⟨trivial, ⟨_, _, List.getElem?_set_self hlt⟩, by simp, ?_, ?_⟩
    · rw [us _ 0 (by omega)]; exact e2.b0
    · rw [us _ 1 (by omega)]; exact e2.b1

/-- What Parse makes of a text: the numbers, and the code of the error. -/
def parseN (s : List UInt8) : List Int × Int :=
  if s = [110, 111, 110, 101] then (zero5, 0) else match parseGo 0 zero5 (wordsF s.length s) with
    | some many => (many, 0)
    | none => (zero5, 3)

theorem spl_ok (sp : Nat) (s : List UInt8) (S : St) : xSpl sp [.str s, .str [32]] S = some (.fn (.func sp) [] [.ptr (S.length + 1) 0 0, .ptr S.length 0 0, .ptr (S.length + 2) 0 0], S ++ [.live 0 [.str s], .live 0 [.str [32]], .live 0 [.int .i64 0]]) := by
  have h0 : xSpl0 sp [.str s, .str [32], .int .i64 0] S = some (.fn (.func sp) [] [.ptr (S.length + 1) 0 0, .ptr S.length 0 0, .ptr (S.length + 2) 0 0], S ++ [.live 0 [.str s], .live 0 [.str [32]], .live 0 [.int .i64 0]]) := by
    unfold xSpl0 exM
    refine evF_post (F := splitSeqF sp) rfl rfl ?_
    simp [splitSeqF, exM, orc, orcD, evF, evC_skip, evC_region, evC_cond, evC_exit, evC_ret, evOps, evOper, evAny, evOp, evCall, putR, putA, Fr.ev, Fr.of, Fr.get, Fr.set, stable, junkA, junkL, resultsA, resA, same, Post_seq, Post_block, Post_some, cells?]
  unfold xSpl exM
  refine evF_post (F := strings_SplitSeq) rfl rfl ?_
  generalize xSpl0 sp = m at *
  simp [strings_SplitSeq, exM, orc, orcD, evF, evC_skip, evC_region, evC_cond, evC_exit, evC_ret, evOps, evOper, evAny, evOp, evCall, putR, putA, Fr.ev, Fr.of, Fr.get, Fr.set, stable, junkA, junkL, resultsA, resA, same, Post_seq, Post_block, Post_some, h0]

theorem fin_ok {V : St} {m : List Int} {n : Int} {st : LoopState} {pe : Option Ex} (h0 : V[0]? = some (.live 0 (mc m))) (hm : m.length = 5) (h1 : V[1]? = some (.live 0 [.int .i64 n])) (h8 : V[8]? = some (.loop st pe)) {f : Fr} (f2 : f.get 2 = .ptr 0 0 0) (f3 : f.get 3 = .ptr 1 0 0) :
    shut [8] V = some (V.set 8 .dead) ∧ loadA (some 5) (f.get 2) (V.set 8 .dead) = some (.agg (mc m)) ∧ loadA none (f.get 3) (V.set 8 .dead) = some (.int .i64 n) := by
  have us : ∀ q, q ≠ 8 → (V.set 8 .dead)[q]? = V[q]? := fun q hq => by rw [List.getElem?_set, if_neg (Ne.symm hq)]
  have e0 : loadA (some 5) (.ptr 0 0 0) (V.set 8 .dead) = some (.agg (mc m)) := by
    simp only [loadA, us 0 (by omega), h0, if_true, partA, mc_len, hm]
    rw [if_pos (by omega), List.drop_zero, List.take_of_length_le (by rw [mc_len]; omega)]
  have e1 : loadA none (.ptr 1 0 0) (V.set 8 .dead) = some (.int .i64 n) := by
    rw [load_c (v := 0) (cs := [.int .i64 n]) (by rw [us 1 (by omega)]; exact h1)]; rfl
  exact ⟨by simp [shut, h8], by rw [f2]; exact e0, by rw [f3]; exact e1⟩

theorem store5 {U : St} {m m' : List Int} (h : U[0]? = some (.live 0 (mc m))) (hm : m.length = 5) (hm' : m'.length = 5) : storeA 5 (.ptr 0 0 0) (.agg (mc m')) U = some (U.set 0 (.live 0 (mc m'))) := by
  have hs : splice (mc m) 0 (mc m') = mc m' := by
    simp only [splice, List.take_zero, List.nil_append, Nat.zero_add]
    rw [List.drop_of_length_le (by simp [mc_len, hm, hm']), List.append_nil]
  have hc : cells? (.agg (mc m')) = some (mc m') := rfl
  simp only [storeA, hc, h, mc_len, hm, hm']
  rw [if_pos ⟨trivial, trivial, by omega⟩, hs]

set_option maxHeartbeats 1000000 in
theorem parse_run (sp p1 : Nat) (s : List UInt8) (hs : s.length < 900) : ∃ T, xParse sp p1 [.str s] [] = some (.tup [.agg (mc (parseN s).1), .int .i64 (parseN s).2], T) := by
  obtain ⟨r, hr⟩ : ∃ r, r = parseN s := ⟨_, rfl⟩
  rw [← hr]
  suffices hmain : Post (evC (oParse sp p1) 1000 (parseF p1).body (Fr.of [.str s]) []) (fun e f S1 => (e = .normal ∨ e = .ret) ∧ ∃ T, shut (marks f) S1 = some T ∧ resultsA f T (parseF p1).results = some (.tup [.agg (mc r.1), .int .i64 r.2])) by
    obtain ⟨e, f, S1, g1, g2, T, g3, g4⟩ := hmain.ex
    have := evF_postR (O := oParse sp p1) (k := 1000) (F := parseF p1) (args := [.str s]) (S := []) (v := .tup [.agg (mc r.1), .int .i64 r.2]) (S' := T) rfl rfl (.of g1 ⟨g2, g3, g4⟩)
    exact ⟨T, this⟩
  unfold parseN at hr
  have hz : mc zero5 = [.int .i64 0, .int .i64 0, .int .i64 0, .int .i64 0, .int .i64 0] := rfl
  by_cases h0 : s = [110, 111, 110, 101]
  · rw [if_pos h0] at hr
    rw [hr]
    have c1 : binA .eql (.str s) (.str [110, 111, 110, 101]) = some (.bool true) := by rw [h0]; rfl
    unfold oParse
    generalize xCut = m1 at *
    generalize xIdxF p1 = m2 at *
    generalize mCount = m3 at *
    generalize xParts = m4 at *
    generalize xSpl sp = m5 at *
    simp [parseF, exM, orc, orcD, evF, evC_skip, evC_region, evC_cond, evC_exit, evC_ret, evOps, evOper, evAny, evOp, evCall, putR, putA, Fr.ev, Fr.of, Fr.get, Fr.set, stable, junkA, junkL, resultsA, resA, same, Post_seq, Post_block, Post_some, c1, loadA, partA, storeA, cells?, splice, marks, markBase, shut, hz]
  · rw [if_neg h0] at hr
    have c1 : binA .eql (.str s) (.str [110, 111, 110, 101]) = some (.bool false) := by
      have : (s == [110, 111, 110, 101]) = false := by simpa using h0
      show some (AVal.bool (s == [110, 111, 110, 101])) = _
      rw [this]
    obtain ⟨S3, hS3⟩ : ∃ S3 : St, S3 = [.live 0 (mc zero5), .live 0 [.int .i64 0], .live 0 (mc zero5)] := ⟨_, rfl⟩
    obtain ⟨S5, hS5⟩ : ∃ S5 : St, S5 = [.live 0 (mc zero5), .live 0 [.int .i64 0], .live 0 (mc zero5), .live 0 (partsC 2), .live 0 [.sl 3 0 0 5 2]] := ⟨_, rfl⟩
    have c2 := parts_ok 2 S3
    have c3 : storeA 1 (.ptr 4 0 0) (.sl 3 0 0 5 2) (S3 ++ [.live 0 (partsC 2), .live 0 [.nils]]) = some S5 := by
      rw [hS3, hS5]
      simp [storeA, cells?, splice]
    have c4 := spl_ok sp s S5
    have l3 : S3.length = 3 := by rw [hS3]; rfl
    have l5 : S5.length = 5 := by rw [hS5]; rfl
    rw [l3] at c2
    rw [l5] at c4
    obtain ⟨S8, hS8⟩ : ∃ S8 : St, S8 = S5 ++ [.live 0 [.str s], .live 0 [.str [32]], .live 0 [.int .i64 0]] := ⟨_, rfl⟩
    rw [← hS8] at c4
    have l8 : S8.length = 8 := by rw [hS8]; simp [l5]
    have hX : ParX (S8 ++ [.loop .ready none]) 0 zero5 := by
      rw [hS8, hS5]; exact ⟨rfl, rfl, rfl, rfl, rfl, rfl, by omega⟩
    have hI : ItI (S8 ++ [.loop .ready none]) s := by
      rw [hS8, hS5]; exact ⟨rfl, rfl, rfl, rfl⟩
    have key := fun f hf hm h17 => range_ok (sp := sp) (p1 := p1) (f := f) l8 hX hI hs hf hm h17
    obtain ⟨rg, hrg⟩ : ∃ rg : ACode, rg = .block 0 (.range (.t 17) [18] policy_Parse_a0 (parseR p1)) := ⟨_, rfl⟩
    rw [← hrg] at key
    have hS3' : ([.live 0 [.int .i64 0, .int .i64 0, .int .i64 0, .int .i64 0, .int .i64 0], .live 0 [.int .i64 0], .live 0 [.int .i64 0, .int .i64 0, .int .i64 0, .int .i64 0, .int .i64 0]] : St) = S3 := hS3.symm
    unfold oParse at *
    generalize xCut = m1 at *
    generalize xIdxF p1 = m2 at *
    generalize mCount = m3 at *
    generalize xParts = m4 at *
    generalize xSpl sp = m5 at *
    simp only [parseF]
    rw [← hrg]
    simp [exM, orc, orcD, evF, evC_skip, evC_region, evC_cond, evC_exit, evC_ret, evOps, evOper, evAny, evOp, evCall, putR, putA, Fr.ev, Fr.of, Fr.get, Fr.set, stable, junkA, junkL, resultsA, resA, same, Post_seq, Post_block, Post_some, c1, hS3', c2, l3, c3, c4]
    refine (key _ ?_ ?_ ?_).mono ?_
    · exact ⟨by simp [Fr.get], by simp [Fr.get], by simp [Fr.get], by simp [Fr.get]⟩
    · simp [marks, markBase]
    · simp [Fr.get]
    rintro e f' U ⟨hf', ⟨st, pe, h8⟩, hq⟩
    have f2 : f'.get 2 = .ptr 0 0 0 := by rw [hf', get_mk _ (by simp [markBase])]; simp [Fr.get]
    have f3 : f'.get 3 = .ptr 1 0 0 := by rw [hf', get_mk _ (by simp [markBase])]; simp [Fr.get]
    have f4 : f'.get 4 = .ptr 2 0 0 := by rw [hf', get_mk _ (by simp [markBase])]; simp [Fr.get]
    have hmk : marks f' = [8] := by rw [hf', marks_mark]; simp [marks, markBase]
    cases hg : parseGo 0 zero5 (wordsF s.length s) with
    | none =>
      rw [hg] at hq hr
      obtain ⟨rfl, hF⟩ := hq
      obtain ⟨q1, q2, q3⟩ := fin_ok hF.b0 rfl hF.b1 h8 f2 f3
      rw [hr]
      simp [hmk, q1, q2, q3]
    | some many =>
      rw [hg] at hq hr
      obtain ⟨rfl, a, hF⟩ := hq
      rw [hr]
      have m1' : loadA (some 5) (.ptr 2 0 0) U = some (.agg (mc many)) := by
        simp only [loadA, hF.b2, if_true, partA, mc_len, hF.len]
        rw [if_pos (by omega), List.drop_zero, List.take_of_length_le (by rw [mc_len, hF.len]; omega)]
      have m2' := store5 (m' := many) hF.b0 rfl hF.len
      have v1 : (U.set 0 (.live 0 (mc many)))[1]? = some (.live 0 [.int .i64 0]) := by rw [List.getElem?_set, if_neg (by omega)]; exact hF.b1
      have m3' := store1 (o := 0) (x := .int .i64 0) v1 (by simp) rfl
      obtain ⟨V, hV⟩ : ∃ V : St, V = (U.set 0 (.live 0 (mc many))).set 1 (.live 0 [.int .i64 0]) := ⟨_, rfl⟩
      have m3'' : storeA 1 (.ptr 1 0 0) (.int .i64 0) (U.set 0 (.live 0 (mc many))) = some V := by rw [m3', hV]; rfl
      have w0 : V[0]? = some (.live 0 (mc many)) := by rw [hV, List.getElem?_set, if_neg (by omega), List.getElem?_set_self (get_lt hF.b0)]
      have w1 : V[1]? = some (.live 0 [.int .i64 0]) := by rw [hV, List.getElem?_set_self (get_lt v1)]
      have w8 : V[8]? = some (.loop st pe) := by rw [hV, List.getElem?_set, if_neg (by omega), List.getElem?_set, if_neg (by omega)]; exact h8
      obtain ⟨q1, q2, q3⟩ := fin_ok w0 hF.len w1 w8 f2 f3
      rw [f2] at q2
      rw [f3] at q3
      have hms : ∀ v : AVal, marks (f'.set 48 v) = [8] := fun v => by rw [marks_set f' v (by simp [markBase]), hmk]
      simp only [if_true]
      generalize mc many = mz at *
      simp [exM, orc, orcD, evF, evC_skip, evC_region, evC_cond, evC_exit, evC_ret, evOps, evOper, evAny, evOp, evCall, putR, putA, Fr.ev, Fr.of, Fr.get, Fr.set, stable, junkA, junkL, resultsA, resA, same, Post_seq, Post_block, Post_some, Fr.get_set, f2, f3, f4, m1', m2', m3'', hms, q1, q2, q3]

def mParse (sp p1 : Nat) : Model := pureM 3 (xParse sp p1)
theorem parse_ok (sp p1 : Nat) (s : List UInt8) (hs : s.length < 900) (S : St) : mParse sp p1 [.str s] S = some (.tup [.agg (mc (parseN s).1), .int .i64 (parseN s).2], S) := by
  obtain ⟨T, h⟩ := parse_run sp p1 s hs
  refine pureM_run rfl h ?_
  have hl : ∀ l : List Int, (mc l).mapM (deep T 0 1) = some (mc l) := by
    intro l
    induction l with
    | nil => rfl
    | cons a l ih =>
      show ((AVal.int .i64 a :: mc l).mapM (deep T 0 1)) = _
      rw [List.mapM_cons, ih]; rfl
  show ([AVal.agg (mc (parseN s).1), .int .i64 (parseN s).2].mapM (deep T 0 2)).map AVal.tup = _
  have h1 : deep T 0 2 (.agg (mc (parseN s).1)) = some (.agg (mc (parseN s).1)) := by
    show ((mc (parseN s).1).mapM (deep T 0 1)).map AVal.agg = _
    rw [hl]; rfl
  simp only [List.mapM_cons, List.mapM_nil, h1, show deep T 0 2 (.int .i64 (parseN s).2) = some (.int .i64 (parseN s).2) from rfl]
  rfl
end Am.Pol
end

/- Texts: the program's Text. -/
section
namespace Am.Pol
open Am Go Am.Ir
set_option maxRecDepth 100000
attribute [local congr] Post_cg
attribute [local simp] ox oz kx kz og ogz kg kgz mo ai

/-- strconv.Itoa. -/
def mItoa : Model := fun args S => match args with
  | [.int .i64 n] => if -9223372036854775808 ≤ n ∧ n ≤ 9223372036854775807 then some (.str (Lib.itoa n), S) else none
  | _ => none
/-- Cells that are texts. -/
def strC (xs : List (List UInt8)) : List AVal := xs.map .str
def strs : List AVal → Option (List (List UInt8))
  | [] => some []
  | .str s :: r => (strs r).map (s :: ·)
  | _ => none
theorem strs_C : ∀ xs, strs (strC xs) = some xs
  | [] => rfl
  | x :: xs => by
    show (strs (strC xs)).map (x :: ·) = _
    rw [strs_C xs]; rfl
theorem strs_inv : ∀ {cs : List AVal} {xs}, strs cs = some xs → cs = strC xs
  | [], xs, h => by cases h; rfl
  | .str s :: r, xs, h => by
    have h' : (strs r).map (s :: ·) = some xs := h
    cases hr : strs r with
    | none => rw [hr] at h'; cases h'
    | some ys =>
      rw [hr] at h'; cases h'
      show AVal.str s :: r = AVal.str s :: strC ys
      rw [← strs_inv hr]
/-- strings.Join, over a whole block. -/
def mJoin : Model := fun args S => match args with
  | [.sl r v 0 n 1, .str sep] => match S[r]? with
    | some (.live v' cs) => match strs cs with
      | some xs => if v' = v ∧ xs.length = n ∧ (0 < n ∧ n ≤ 1000) ∧ (Lib.join xs sep).length ≤ 1000000 then some (.str (Lib.join xs sep), S) else none
      | none => none
    | _ => none
  | _ => none

def Pc.num (p : Pc) : Nat → Int
  | 0 => p.last
  | 1 => p.hours
  | 2 => p.days
  | 3 => p.weeks
  | _ => p.months
/-- A part's word. -/
def wordP (p : Pc) (i : Nat) : List UInt8 := nm i ++ [61] ++ Lib.itoa (p.num i)
/-- The words of the first parts. -/
def wordsP (p : Pc) : Nat → List (List UInt8)
  | 0 => []
  | i + 1 => if 0 < p.num i then wordsP p i ++ [wordP p i] else wordsP p i
theorem wordsP_len (p : Pc) : ∀ i, (wordsP p i).length ≤ i
  | 0 => by simp [wordsP]
  | i + 1 => by
    have := wordsP_len p i
    unfold wordsP; split <;> simp <;> omega
/-- What a policy is written as. -/
def textN (p : Pc) : List UInt8 := if wordsP p 5 = [] then [110, 111, 110, 101] else Lib.join (wordsP p 5) [32]

structure Pc.Ok2 (p : Pc) : Prop where
  last : -9223372036854775808 ≤ p.last ∧ p.last ≤ 9223372036854775807
  hours : -9223372036854775808 ≤ p.hours ∧ p.hours ≤ 9223372036854775807
  days : -9223372036854775808 ≤ p.days ∧ p.days ≤ 9223372036854775807
  weeks : -9223372036854775808 ≤ p.weeks ∧ p.weeks ≤ 9223372036854775807
  months : -9223372036854775808 ≤ p.months ∧ p.months ≤ 9223372036854775807
theorem Pc.Ok2.num {p : Pc} (h : p.Ok2) (i : Nat) : -9223372036854775808 ≤ p.num i ∧ p.num i ≤ 9223372036854775807 := by
  unfold Pc.num
  split
  · exact h.last
  · exact h.hours
  · exact h.days
  · exact h.weeks
  · exact h.months

theorem mItoa_ok {n : Int} (h : -9223372036854775808 ≤ n ∧ n ≤ 9223372036854775807) (S : St) : mItoa [.int .i64 n] S = some (.str (Lib.itoa n), S) := by
  simp only [mItoa]; rw [if_pos h]

theorem cells_num (p : Pc) {i : Nat} (hi : i < 5) : p.cells[i]? = some (.int .i64 (p.num i)) := by
  obtain rfl | rfl | rfl | rfl | rfl : i = 0 ∨ i = 1 ∨ i = 2 ∨ i = 3 ∨ i = 4 := by omega
  all_goals rfl

theorem append_oneS (T : St) (c : AVal) : appendA 1 16 .nils (.sl T.length 0 0 1 1) (T ++ [ABlock.live 0 [c]]) = some (.sl (T.length + 1) 0 0 1 1, T ++ [ABlock.live 0 [c]] ++ [ABlock.live 0 [c]]) := by
  simp [appendA, cellsOf]
theorem OutN.app16 {B : Nat} {S T : St} {out : AVal} {cs : List AVal} (h : OutN B T out cs) (hBT : B ≤ T.length) (hS : Old B S T) (hi : cs.length < 1000000) (c : AVal) :
    ∃ out' U, appendA 1 16 out (.sl T.length 0 0 1 1) (T ++ [.live 0 [c]]) = some (out', U) ∧ OutN B U out' (cs ++ [c]) ∧ Old B S U ∧ T.length ≤ U.length := by
  rcases h with ⟨rfl, rfl⟩ | h
  · refine ⟨_, _, append_oneS T c, .inr ⟨T.length + 1, 0, by omega, rfl, by simp⟩, ?_, by simp⟩
    rw [List.append_assoc]
    exact hS.trans ((Old.app T _).less hBT)
  · obtain ⟨o, U, h1, h2, h3, h4⟩ := h.app (bt := 16) hS (by omega) c
    exact ⟨o, U, h1, .inr h2, h3, h4⟩

theorem nDig_le : ∀ (k u : Nat), 1 ≤ k → u < 10 ^ k → Lib.nDigits u ≤ k
  | 0, _, h, _ => by omega
  | k + 1, u, _, h => by
    by_cases hu : u < 10
    · rw [Lib.nDigits_small hu]; omega
    · rw [Lib.nDigits_big hu]
      cases k with
      | zero => simp at h; omega
      | succ k =>
        have := nDig_le (k + 1) (u / 10) (by omega) (by rw [Nat.pow_succ] at h; omega)
        omega
theorem itoa_pos {n : Int} (h : 0 < n) : Lib.itoa n = Lib.decDigits n.toNat := by unfold Lib.itoa; rw [if_neg (by omega)]
theorem itoa_len {n : Int} (h : 0 < n) (h1 : n ≤ 9223372036854775807) : (Lib.itoa n).length ≤ 19 := by
  rw [itoa_pos h, Lib.decDigits_length]
  exact nDig_le 19 _ (by omega) (by have : (10 : Nat) ^ 19 = 10000000000000000000 := by decide
                                    omega)
theorem nm_len (i : Nat) : (nm i).length ≤ 6 := by
  unfold nm; split <;> simp
theorem add_s {a b : List UInt8} (h : a.length + b.length ≤ 1000000) : binA .add (.str a) (.str b) = some (.str (a ++ b)) := by simp [binA, strBin]; omega

def S2 (p : Pc) : St := [.live 0 p.cells, .live 0 (partsC 0)]

structure TxtF (f : Fr) (out : AVal) (i : Nat) : Prop where
  s3 : f.get 3 = out
  s6 : f.get 6 = .sl 1 0 0 5 2
  s7 : f.get 7 = .int .i64 5
  s8 : f.get 8 = .int .i64 (i : Int)

def oText : Orc := orc [xParts, mItoa, mJoin]

set_option maxHeartbeats 1000000 in
theorem text_round {p : Pc} (hp : p.Ok2) {T : St} (hS : Old 2 (S2 p) T) (hT : 2 ≤ T.length) {i : Nat} (hi : i < 5) {out : AVal} (ho : OutN 2 T out (strC (wordsP p i))) {f : Fr} (hf : TxtF f out i) :
    Post (evC oText 1000 policy_Text_l0 f T) fun e f' U => e = .normal ∧ ∃ out', OutN 2 U out' (strC (wordsP p (i + 1))) ∧ Old 2 (S2 p) U ∧ 2 ≤ U.length ∧ TxtF f' out' (i + 1) := by
  obtain ⟨s3, s6, s7, s8⟩ := hf
  obtain ⟨pa1, pa2, pa3⟩ := parts_at 0 hi
  have b0 : T[0]? = some (.live 0 p.cells) := hS 0 (by omega)
  have b1 : T[1]? = some (.live 0 (partsC 0)) := hS 1 (by omega)
  have c1 : binA .lss (.int .i64 (i : Int)) (.int .i64 5) = some (.bool true) := lss_t (by omega)
  have c2 : binA .add (.int .i64 (i : Int)) (.int .i64 1) = some (.int .i64 ((i + 1 : Nat) : Int)) := add_is (by omega) (by omega) (by omega)
  have c3 : iaddrSA 2 (.sl 1 0 0 5 2) (.int .i64 (i : Int)) = some (.ptr 1 0 (i * 2)) := by rw [iaS (by omega) (by omega), Int.toNat_natCast, Nat.zero_add]
  have c4 : loadA (some 2) (.ptr 1 0 (i * 2)) T = some (.agg [.str (nm i), .ptr 0 0 i]) := by
    have hl : (partsC 0).length = 10 := rfl
    simp only [loadA, b1, if_true, partA, hl, pa1]
    rw [if_pos (by omega)]
  obtain ⟨T1, hT1⟩ : ∃ T1 : St, T1 = T ++ [.live 0 [.str (nm i), .ptr 0 0 i]] := ⟨_, rfl⟩
  have c5 : storeA 2 (.ptr T.length 0 0) (.agg [.str (nm i), .ptr 0 0 i]) (T ++ [.live 0 [.str [], .nilp]]) = some T1 := by
    simp [storeA, cells?, splice, hT1]
  have hl1 : T1.length = T.length + 1 := by rw [hT1]; simp
  have hS1 : Old 2 (S2 p) T1 := by rw [hT1]; exact hS.trans ((Old.app T _).less hT)
  have n1 : T1[T.length]? = some (.live 0 [.str (nm i), .ptr 0 0 i]) := by rw [hT1]; simp
  have c6 : loadA none (.ptr T.length 0 1) T1 = some (.ptr 0 0 i) := by rw [load_c n1]; rfl
  have c7 : loadA none (.ptr T.length 0 0) T1 = some (.str (nm i)) := by rw [load_c n1]; rfl
  have c8 : loadA none (.ptr 0 0 i) T1 = some (.int .i64 (p.num i)) := by rw [load_c (hS1 0 (by omega))]; exact cells_num p hi
  have c9 : binA .gtr (.int .i64 (p.num i)) (.int .i64 0) = some (.bool (decide (0 < p.num i))) := by
    rfl
  have g1 : Grown T T1 := by rw [hT1]; exact Grown.app T _
  have ho1 := ho.go g1
  have hwl := wordsP_len p i
  by_cases h : 0 < p.num i
  · have e1 : wordsP p (i + 1) = wordsP p i ++ [wordP p i] := by rw [wordsP, if_pos h]
    rw [decide_eq_true h] at c9
    have c10 := mItoa_ok (hp.num i) T1
    obtain ⟨out', U, d1, d2, d3, d4⟩ := ho1.app16 (S := S2 p) (by omega) hS1 (by simp [strC]; omega) (.str (wordP p i))
    have e2 : strC (wordsP p i) ++ [.str (wordP p i)] = strC (wordsP p (i + 1)) := by rw [e1]; simp [strC]
    rw [e2] at d2
    rw [hl1] at d1
    have c11 := fill_one (.str []) (.str (wordP p i)) rfl
    have c12 : binA .add (.str (nm i)) (.str [61]) = some (.str (nm i ++ [61])) := add_s (by have := nm_len i; simp; omega)
    have c13 : binA .add (.str (nm i ++ [61])) (.str (Lib.itoa (p.num i))) = some (.str (wordP p i)) := add_s (by have := nm_len i; have := itoa_len h (hp.num i).2; simp; omega)
    suffices hmid : Post (evC oText 1000 policy_Text_l0 f T) (fun e f' V => e = .normal ∧ V = U ∧ f'.get 3 = out' ∧ f'.get 6 = .sl 1 0 0 5 2 ∧ f'.get 7 = .int .i64 5 ∧ f'.get 8 = .int .i64 ((i + 1 : Nat) : Int)) by
      refine hmid.mono ?_
      rintro e f' V ⟨k1, rfl, k2, k3, k4, k5⟩
      exact ⟨k1, out', d2, d3, by omega, k2, k3, k4, k5⟩
    unfold oText
    generalize ((i + 1 : Nat) : Int) = z1 at *
    generalize xParts = m1 at *
    generalize mItoa = m2 at *
    generalize mJoin = m3 at *
    generalize wordP p i = wp at *
    generalize nm i ++ [61] = wq at *
    generalize Lib.itoa (p.num i) = wr at *
    simp [policy_Text_l0, exM, orc, orcD, evF, evC_skip, evC_region, evC_cond, evC_exit, evC_ret, evOps, evOper, evAny, evOp, evCall, putR, putA, Fr.ev, Fr.of, Fr.get, Fr.set, stable, junkA, junkL, resultsA, resA, same, Post_seq, Post_block, Post_some, trL, sameRead, sameVal, beqV_refl, Fr.get_set, faddrA, s3, s6, s7, s8, c1, c2, c3, c4, c5, c6, c7, c8, c9, c10, c11, c12, c13, hl1, d1]
  · have e1 : wordsP p (i + 1) = wordsP p i := by rw [wordsP, if_neg h]
    rw [decide_eq_false h] at c9
    rw [e1]
    suffices hmid : Post (evC oText 1000 policy_Text_l0 f T) (fun e f' V => e = .normal ∧ V = T1 ∧ f'.get 3 = out ∧ f'.get 6 = .sl 1 0 0 5 2 ∧ f'.get 7 = .int .i64 5 ∧ f'.get 8 = .int .i64 ((i + 1 : Nat) : Int)) by
      refine hmid.mono ?_
      rintro e f' V ⟨k1, rfl, k2, k3, k4, k5⟩
      exact ⟨k1, out, ho1, hS1, by omega, k2, k3, k4, k5⟩
    unfold oText
    generalize ((i + 1 : Nat) : Int) = z1 at *
    generalize xParts = m1 at *
    generalize mItoa = m2 at *
    generalize mJoin = m3 at *
    simp [policy_Text_l0, exM, orc, orcD, evF, evC_skip, evC_region, evC_cond, evC_exit, evC_ret, evOps, evOper, evAny, evOp, evCall, putR, putA, Fr.ev, Fr.of, Fr.get, Fr.set, stable, junkA, junkL, resultsA, resA, same, Post_seq, Post_block, Post_some, trL, sameRead, sameVal, beqV_refl, Fr.get_set, faddrA, s3, s6, s7, s8, c1, c2, c3, c4, c5, c6, c7, c8, c9]
end Am.Pol
end

/- Texts: the program's Text, whole. -/
section
namespace Am.Pol
open Am Go Am.Ir
set_option maxRecDepth 100000
attribute [local congr] Post_cg
attribute [local simp] ox oz kx kz og ogz kg kgz mo ai

theorem join_snoc (xs : List (List UInt8)) (w sep : List UInt8) : Lib.join (xs ++ [w]) sep = if xs = [] then w else Lib.join xs sep ++ sep ++ w := by
  cases xs with
  | nil => simp [Lib.join_one]
  | cons x r =>
    rw [if_neg (by simp), List.cons_append, Lib.join_cons, Lib.join_cons]
    simp [Lib.joinTail, List.append_assoc]

theorem wordP_len {p : Pc} (hp : p.Ok2) {i : Nat} (h : 0 < p.num i) : (wordP p i).length ≤ 26 ∧ wordP p i ≠ [] := by
  have h1 := nm_len i
  have h2 := itoa_len h (hp.num i).2
  refine ⟨?_, ?_⟩
  · simp [wordP]; omega
  · simp [wordP]
theorem wordsP_mem {p : Pc} (hp : p.Ok2) : ∀ i, (Lib.join (wordsP p i) [32]).length ≤ 27 * i ∧ (wordsP p i ≠ [] → Lib.join (wordsP p i) [32] ≠ [])
  | 0 => by simp [wordsP, Lib.join_nil]
  | i + 1 => by
    obtain ⟨h1, h2⟩ := wordsP_mem hp i
    unfold wordsP
    split
    · rename_i h
      obtain ⟨g1, g2⟩ := wordP_len hp h
      rw [join_snoc]
      split
      · exact ⟨by omega, fun _ => g2⟩
      · refine ⟨by simp only [List.length_append, List.length_singleton]; omega, fun _ => by simp⟩
    · exact ⟨by omega, h2⟩

def xText : Model := exM oText policy_Text 1000

theorem join_ok {B : Nat} {T : St} {out : AVal} {xs : List (List UInt8)} (h : Out B T out (strC xs)) (h0 : 0 < xs.length) (hl : xs.length ≤ 1000) (hj : (Lib.join xs [32]).length ≤ 1000000) : mJoin [out, .str [32]] T = some (.str (Lib.join xs [32]), T) := by
  obtain ⟨r, v, h1, rfl, h2⟩ := h
  have e : (strC xs).length = xs.length := by simp [strC]
  rw [e]
  simp only [mJoin, h2, strs_C]
  rw [if_pos ⟨trivial, trivial, ⟨h0, hl⟩, hj⟩]

set_option maxHeartbeats 1000000 in
theorem text_loop {p : Pc} (hp : p.Ok2) {f : Fr} (hf : TxtF f .nils 0) : ∃ f' T, evC oText 1000 policy_Text_s1 f (S2 p) = some (.normal, f', T) ∧ ∃ out, f'.get 3 = out ∧ OutN 2 T out (strC (wordsP p 5)) := by
  refine loop_post (O := oText) (k := 1000) (id := 0) (b := policy_Text_l0)
    (I := fun i f T => ∃ out, OutN 2 T out (strC (wordsP p i)) ∧ Old 2 (S2 p) T ∧ 2 ≤ T.length ∧ TxtF f out i)
    (Q := fun f T => ∃ out, f.get 3 = out ∧ OutN 2 T out (strC (wordsP p 5))) 5 (by omega) ?_ ?_ ⟨.nils, .inl ⟨rfl, rfl⟩, fun _ _ => rfl, Nat.le_refl _, hf⟩
  · rintro i hi f T ⟨out, h1, h2, h3, h4⟩
    exact text_round hp h2 h3 hi h1 h4
  · rintro f T ⟨out, h1, h2, h3, h4⟩
    obtain ⟨s3, s6, s7, s8⟩ := h4
    have c1 : binA .lss (.int .i64 5) (.int .i64 5) = some (.bool false) := rfl
    suffices hmid : Post (evC oText 1000 policy_Text_l0 f T) (fun e f' U => e = .exit 0 ∧ f'.get 3 = out ∧ U = T) by
      refine hmid.mono ?_
      rintro e f' U ⟨rfl, g1, rfl⟩
      exact ⟨rfl, out, g1, h1⟩
    have s8' : f.get 8 = .int .i64 5 := s8
    simp [policy_Text_l0, exM, orc, orcD, evF, evC_skip, evC_region, evC_cond, evC_exit, evC_ret, evOps, evOper, evAny, evOp, evCall, putR, putA, Fr.ev, Fr.of, Fr.get, Fr.set, stable, junkA, junkL, resultsA, resA, same, Post_seq, Post_block, Post_some, Fr.get_set, s3, s7, s8', c1]

set_option maxHeartbeats 1000000 in
theorem text_run {p : Pc} (hp : p.Ok2) : ∃ T, xText [.agg p.cells] [] = some (.str (textN p), T) := by
  suffices h : ∃ T, evF oText 1000 policy_Text [.agg p.cells] [] = some (.str (textN p), T) ∧ True by
    obtain ⟨T, h, _⟩ := h; exact ⟨T, h⟩
  refine evF_postX (F := policy_Text) (R := fun _ => True) rfl rfl ?_
  have c1 := parts_ok 0 [ABlock.live 0 p.cells]
  have hS : ([ABlock.live 0 p.cells] ++ [.live 0 (partsC 0)] : St) = S2 p := rfl
  simp only [List.length_singleton] at c1
  rw [hS] at c1
  have c0 : cells? (.agg p.cells) = some p.cells := rfl
  have key := fun f hf => text_loop hp (f := f) hf
  obtain ⟨hb1, hb2⟩ := wordsP_mem hp 5
  have hwl := wordsP_len p 5
  unfold textN
  obtain ⟨s1, hs1⟩ : ∃ s1, s1 = policy_Text_s1 := ⟨_, rfl⟩
  have hjn : ∀ T out, wordsP p 5 ≠ [] → Out 2 T out (strC (wordsP p 5)) → mJoin [out, .str [32]] T = some (.str (Lib.join (wordsP p 5) [32]), T) := fun T out h0 h => join_ok h (List.length_pos_iff.2 h0) (by omega) (by omega)
  have hO : oText = orc [xParts, mItoa, mJoin] := rfl
  rw [← hs1] at key
  rw [hO] at key ⊢
  generalize xParts = m1 at *
  generalize mItoa = m2 at *
  generalize mJoin = m3 at *
  simp only [policy_Text, policy_Text_t2, ← hs1]
  have cl : lenA .sl (.sl 1 0 0 5 2) = some (.int .i64 5) := rfl
  simp [exM, orc, orcD, evF, evC_skip, evC_region, evC_cond, evC_exit, evC_ret, evOps, evOper, evAny, evOp, evCall, putR, putA, Fr.ev, Fr.of, Fr.get, Fr.set, stable, junkA, junkL, resultsA, resA, same, Post_seq, Post_block, Post_some, c0, c1, cl]
  refine (Post.ran (key _ ?_)).mono ?_
  · exact ⟨by simp [Fr.get], by simp [Fr.get], by simp [Fr.get], by simp [Fr.get]⟩
  · rintro e f' T ⟨rfl, out, g1, g2⟩
    by_cases hw : wordsP p 5 = []
    · rw [if_pos hw]
      rw [hw] at g2
      have g3 := g2.lenA
      have c2 : binA .eql (.int .i64 0) (.int .i64 0) = some (.bool true) := rfl
      have g4 : lenA .sl out = some (.int .i64 0) := g3
      simp [exM, orc, orcD, evF, evC_skip, evC_region, evC_cond, evC_exit, evC_ret, evOps, evOper, evAny, evOp, evCall, putR, putA, Fr.ev, Fr.of, Fr.get, Fr.set, stable, junkA, junkL, resultsA, resA, same, Post_seq, Post_block, Post_some, Fr.get_set, g1, g4, c2]
    · rw [if_neg hw]
      have g3 := g2.lenA
      have hz : (strC (wordsP p 5)).length = (wordsP p 5).length := by simp [strC]
      rw [hz] at g3
      have hpos : 0 < (wordsP p 5).length := List.length_pos_iff.2 hw
      have c2 : binA .eql (.int .i64 ((wordsP p 5).length : Int)) (.int .i64 0) = some (.bool false) := eql_f (by omega)
      have g4 : Out 2 T out (strC (wordsP p 5)) := by
        rcases g2 with ⟨_, h⟩ | h
        · exact absurd (List.map_eq_nil_iff.1 h) hw
        · exact h
      have c3 := hjn T out hw g4
      generalize Lib.join (wordsP p 5) [32] = tx at *
      generalize ((wordsP p 5).length : Int) = zz at *
      simp [exM, orc, orcD, evF, evC_skip, evC_region, evC_cond, evC_exit, evC_ret, evOps, evOper, evAny, evOp, evCall, putR, putA, Fr.ev, Fr.of, Fr.get, Fr.set, stable, junkA, junkL, resultsA, resA, same, Post_seq, Post_block, Post_some, Fr.get_set, g1, g3, c2, c3]

def mText : Model := pureM 1 xText
theorem text_ok {p : Pc} (hp : p.Ok2) (S : St) : mText [.agg p.cells] S = some (.str (textN p), S) := by
  obtain ⟨T, h⟩ := text_run hp
  exact pureM_run rfl h rfl
end Am.Pol
end

/- Texts: the document's cut, names, count. -/
section
namespace Am.Pol
open Am Go Am.Ir
set_option maxRecDepth 100000
attribute [local congr] Post_cg
attribute [local simp] ox oz kx kz og ogz kg kgz mo ai

theorem mem_take {s : List UInt8} {c : UInt8} {i j : Nat} (h : s[i]? = some c) (hj : i < j) : c ∈ s.take j := by
  have : (s.take j)[i]? = some c := by rw [List.getElem?_take, if_pos hj]; exact h
  exact List.mem_of_getElem? this
theorem cutAt_none {s : List UInt8} {c : UInt8} (h : c ∉ s) : cutAt s c = (s, [], false) := by
  rcases indexByte_cases s c with ⟨h1, _⟩ | ⟨i, h1, h2, h3, h4⟩
  · unfold cutAt; rw [if_pos (by omega)]
  · exact absurd (by rw [h3]; simp) h
theorem cutAt_at {s : List UInt8} {c : UInt8} {i : Nat} (h : s[i]? = some c) (hn : c ∉ s.take i) : cutAt s c = (s.take i, s.drop (i + 1), true) := by
  rcases indexByte_cases s c with ⟨h1, h2⟩ | ⟨j, h1, h2, h3, h4⟩
  · exact absurd (List.mem_of_getElem? h) h2
  · have hj : s[j]? = some c := by
      rw [h3]
      have : (s.take j).length = j := by simp; omega
      rw [List.getElem?_append_right (by omega), this]; simp
    have e : j = i := by
      rcases Nat.lt_trichotomy j i with g | g | g
      · exact absurd (mem_take hj g) hn
      · exact g
      · exact absurd (mem_take h g) h4
    subst e
    unfold cutAt; rw [if_neg (by omega), h1]; rfl

theorem eq_u8 (a b : UInt8) : binA .eql (.int .u8 (a.toNat : Int)) (.int .u8 (b.toNat : Int)) = some (.bool (decide (a = b))) := by
  by_cases h : a = b
  · subst h; rw [eql_t rfl]; simp
  · rw [eql_f (fun e => h (UInt8.toNat_inj.1 (by omega)))]; simp [h]

def xCut2 : Model := exM (orc []) r30_cut 1000

set_option maxHeartbeats 1000000 in
theorem cut2_ok (s : List UInt8) (c : UInt8) (hs : s.length < 900) (S : St) : xCut2 [.str s, .int .u8 (c.toNat : Int)] S = some (.tup [.str (cutAt s c).1, .str (cutAt s c).2.1, .bool (cutAt s c).2.2], S) := by
  obtain ⟨k, hk⟩ : ∃ k : Int, k = (c.toNat : Int) := ⟨_, rfl⟩
  rw [← hk]
  have key : ∀ f : Fr, f.get 0 = .str s → f.get 1 = .int .u8 k → f.get 7 = .int .i64 0 → Post (evC (orc []) 1000 r30_cut_s1 f S) fun e f' T => (e = .normal ∨ e = .ret) ∧ T = S ∧
      ((e = .normal ∧ c ∉ s ∧ f'.get 0 = .str s) ∨ (e = .ret ∧ f'.get 4 = .str (cutAt s c).1 ∧ f'.get 5 = .str (cutAt s c).2.1 ∧ f'.get 6 = .bool (cutAt s c).2.2)) := by
    intro f f0 f1 f7
    refine loop_measR (O := orc []) (k := 1000) (id := 0) (b := r30_cut_l0) (m := s.length)
      (I := fun m f T => T = S ∧ f.get 0 = .str s ∧ f.get 1 = .int .u8 k ∧ ∃ i : Nat, f.get 7 = .int .i64 (i : Int) ∧ i + m = s.length ∧ c ∉ s.take i)
      (Q := fun e f' T => T = S ∧ ((e = .normal ∧ c ∉ s ∧ f'.get 0 = .str s) ∨ (e = .ret ∧ f'.get 4 = .str (cutAt s c).1 ∧ f'.get 5 = .str (cutAt s c).2.1 ∧ f'.get 6 = .bool (cutAt s c).2.2))) ?_ (by omega) ⟨rfl, f0, f1, 0, f7, by omega, by simp⟩
    rintro m f T ⟨hT, f0, f1, i, f7, hi, hn⟩
    rw [hT]
    by_cases h : i < s.length
    · have c1 : binA .lss (.int .i64 (i : Int)) (.int .i64 (s.length : Int)) = some (.bool true) := lss_t (by omega)
      have c2 : binA .add (.int .i64 (i : Int)) (.int .i64 1) = some (.int .i64 ((i + 1 : Nat) : Int)) := add_is (by omega) (by omega) (by omega)
      have c3 : s[i]? = some s[i] := List.getElem?_eq_getElem h
      have c4 := eq_u8 s[i] c
      rw [← hk] at c4
      have c5 : slcStrA (.str s) none (some (.int .i64 (i : Int))) = some (.str (s.take i)) := by
        simp only [slcStrA, bounds_nh (n := s.length) (k := .i64) (u := (i : Int)) (by omega) (by omega)]
        simp
      have c6 : slcStrA (.str s) (some (.int .i64 ((i + 1 : Nat) : Int))) none = some (.str (s.drop (i + 1))) := by
        simp only [slcStrA, bounds_ln (n := s.length) (k := .i64) (l := ((i + 1 : Nat) : Int)) (by omega) (by omega)]
        rw [Int.toNat_natCast, List.take_of_length_le (Nat.le_refl _)]
      obtain ⟨d, hd⟩ : ∃ d, d = s[i] := ⟨_, rfl⟩
      rw [← hd] at c3 c4
      by_cases hc : d = c
      · rw [decide_eq_true hc] at c4
        rw [hc] at c3
        rw [cutAt_at c3 hn]
        suffices hmid : Post (evC (orc []) 1000 r30_cut_l0 f S) (fun e f' U => e = .ret ∧ U = S ∧ f'.get 4 = .str (s.take i) ∧ f'.get 5 = .str (s.drop (i + 1)) ∧ f'.get 6 = .bool true) by
          refine hmid.mono ?_
          rintro e f' U ⟨rfl, rfl, h4⟩
          exact .inr (.inr ⟨rfl, rfl, .inr ⟨rfl, h4⟩⟩)
        rw [hc] at c4
        rw [hk] at *
        generalize ((i + 1 : Nat) : Int) = z1 at *
        simp [r30_cut_l0, exM, orc, orcD, evF, evC_skip, evC_region, evC_cond, evC_exit, evC_ret, evOps, evOper, evAny, evOp, evCall, putR, putA, Fr.ev, Fr.of, Fr.get, Fr.set, stable, junkA, junkL, resultsA, resA, same, Post_seq, Post_block, Post_some, lenA, Fr.get_set, f0, f1, f7, c1, c2, c3, c4, c5, c6]
      · rw [decide_eq_false hc] at c4
        suffices hmid : Post (evC (orc []) 1000 r30_cut_l0 f S) (fun e f' U => e = .normal ∧ U = S ∧ f'.get 0 = .str s ∧ f'.get 1 = .int .u8 k ∧ f'.get 7 = .int .i64 ((i + 1 : Nat) : Int)) by
          refine hmid.mono ?_
          rintro e f' U ⟨rfl, rfl, h4, h5, h6⟩
          refine .inl ⟨rfl, m - 1, by omega, rfl, h4, h5, i + 1, h6, by omega, ?_⟩
          rw [List.take_add_one, c3]
          simp [hn, Ne.symm hc]
        generalize ((i + 1 : Nat) : Int) = z1 at *
        simp [r30_cut_l0, exM, orc, orcD, evF, evC_skip, evC_region, evC_cond, evC_exit, evC_ret, evOps, evOper, evAny, evOp, evCall, putR, putA, Fr.ev, Fr.of, Fr.get, Fr.set, stable, junkA, junkL, resultsA, resA, same, Post_seq, Post_block, Post_some, lenA, Fr.get_set, f0, f1, f7, c1, c2, c3, c4]
    · have c1 : binA .lss (.int .i64 (i : Int)) (.int .i64 (s.length : Int)) = some (.bool false) := lss_f (by omega)
      rw [List.take_of_length_le (by omega)] at hn
      suffices hmid : Post (evC (orc []) 1000 r30_cut_l0 f S) (fun e f' U => e = .exit 0 ∧ U = S ∧ f'.get 0 = .str s) by
        refine hmid.mono ?_
        rintro e f' U ⟨rfl, rfl, h4⟩
        exact .inr (.inl ⟨rfl, rfl, .inl ⟨rfl, hn, h4⟩⟩)
      simp [r30_cut_l0, exM, orc, orcD, evF, evC_skip, evC_region, evC_cond, evC_exit, evC_ret, evOps, evOper, evAny, evOp, evCall, putR, putA, Fr.ev, Fr.of, Fr.get, Fr.set, stable, junkA, junkL, resultsA, resA, same, Post_seq, Post_block, Post_some, lenA, Fr.get_set, f0, f1, f7, c1]
  unfold xCut2 exM
  refine evF_post (F := r30_cut) rfl rfl ?_
  obtain ⟨s1, hs1⟩ : ∃ s1, s1 = r30_cut_s1 := ⟨_, rfl⟩
  rw [← hs1] at key
  simp only [r30_cut, r30_cut_t2, ← hs1]
  obtain ⟨O, hO⟩ : ∃ O, O = orc [] := ⟨_, rfl⟩
  rw [← hO] at key ⊢
  simp [exM, orc, orcD, evF, evC_skip, evC_region, evC_cond, evC_exit, evC_ret, evOps, evOper, evAny, evOp, evCall, putR, putA, Fr.ev, Fr.of, Fr.get, Fr.set, stable, junkA, junkL, resultsA, resA, same, Post_seq, Post_block, Post_some]
  refine (key _ ?_ ?_ ?_).mono ?_
  · simp [Fr.get]
  · simp [Fr.get]
  · simp [Fr.get]
  · rintro e f' T ⟨_, rfl, h | h⟩
    · obtain ⟨rfl, h1, h2⟩ := h
      rw [cutAt_none h1]
      simp [exM, orc, orcD, evF, evC_skip, evC_region, evC_cond, evC_exit, evC_ret, evOps, evOper, evAny, evOp, evCall, putR, putA, Fr.ev, Fr.of, Fr.get, Fr.set, stable, junkA, junkL, resultsA, resA, same, Post_seq, Post_block, Post_some, Fr.get_set, h2]
    · obtain ⟨rfl, h1, h2, h3⟩ := h
      simp [exM, orc, orcD, evF, evC_skip, evC_region, evC_cond, evC_exit, evC_ret, evOps, evOper, evAny, evOp, evCall, putR, putA, Fr.ev, Fr.of, Fr.get, Fr.set, stable, junkA, junkL, resultsA, resA, same, Post_seq, Post_block, Post_some, h1, h2, h3]

def names : List (List UInt8) := [nm 0, nm 1, nm 2, nm 3, nm 4]
def xNames : Model := exM (orc []) r30_names 10
theorem names_ok (S : St) : xNames [] S = some (.sl S.length 0 0 5 1, S ++ [.live 0 (strC names)]) := by
  unfold xNames exM
  refine evF_post (F := r30_names) rfl rfl ?_
  have c1 : fillA (List.replicate 5 [AVal.str []]).flatten [(0, 1, .str (nm 0)), (1, 1, .str (nm 1)), (2, 1, .str (nm 2)), (3, 1, .str (nm 3)), (4, 1, .str (nm 4))] = some (strC names) := by
    simp [fillA, cells?, splice, strC, names, List.replicate]
  have e0 : AVal.str [108, 97, 115, 116] = .str (nm 0) := rfl
  have e1 : AVal.str [104, 111, 117, 114, 115] = .str (nm 1) := rfl
  have e2 : AVal.str [100, 97, 121, 115] = .str (nm 2) := rfl
  have e3 : AVal.str [119, 101, 101, 107, 115] = .str (nm 3) := rfl
  have e4 : AVal.str [109, 111, 110, 116, 104, 115] = .str (nm 4) := rfl
  simp only [List.replicate, List.flatten_cons, List.flatten_nil, List.cons_append, List.nil_append, List.append_nil] at c1
  simp [r30_names, e0, e1, e2, e3, e4, exM, orc, orcD, evF, evC_skip, evC_region, evC_cond, evC_exit, evC_ret, evOps, evOper, evAny, evOp, evCall, putR, putA, Fr.ev, Fr.of, Fr.get, Fr.set, stable, junkA, junkL, resultsA, resA, same, Post_seq, Post_block, Post_some, c1]
theorem names_at {i : Nat} (hi : i < 5) : (strC names)[i]? = some (.str (nm i)) := by
  obtain rfl | rfl | rfl | rfl | rfl : i = 0 ∨ i = 1 ∨ i = 2 ∨ i = 3 ∨ i = 4 := by omega
  all_goals rfl
end Am.Pol
end

