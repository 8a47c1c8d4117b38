/- Faults: going through one; texts. -/
import Derived.Test.YtgkkggfhnlhbiaaDoorAmFault1
set_option linter.all false
namespace Am.Fault
open Am Go Am.Ir
set_option maxRecDepth 100000

theorem set_same {S : St} {r : Nat} {b : ABlock} (h : S[r]? = some b) : S.set r b = S := by
  apply List.ext_getElem?
  intro i
  by_cases e : r = i
  · subst e; rw [List.getElem?_set_self (List.getElem?_eq_some_iff.1 h).1, h]
  · rw [List.getElem?_set_ne e]

noncomputable def xEach (k : FuncId) (d : Model) : Model := exM (orcD [mNext] [(k, d)] []) fault_each 1000

theorem each_ok {k : FuncId} {d : Model} {α : Type} (enc : α → AVal) (st : α → List UInt8 → α) (a0 : α) {r : Nat} {ops : List (List UInt8)} {c : Int} (hl : ops.length ≤ 90) {S : St} (hS : S[r]? = some (.live 0 [enc a0]))
    (hd : ∀ (j : Nat) op, ops[j]? = some op → ∀ T : St, T[r]? = some (.live 0 [enc ((ops.take j).foldl st a0)]) → d [.str op, .ptr r 0 0] T = some (.tup [], T.set r (.live 0 [enc ((ops.take (j + 1)).foldl st a0)]))) :
    xEach k d [fV ops c, .fn (.func k) [] [.ptr r 0 0]] S = some (.tup [], S.set r (.live 0 [enc (ops.foldl st a0)])) := by
  have hlt := (List.getElem?_eq_some_iff.1 hS).1
  obtain ⟨f', T', h1, h2⟩ := loop_post (O := orcD [mNext] [(k, d)] []) (k := 1000) (id := 0) (b := fault_each_l0)
    (I := fun j f T => f.get 0 = fV (ops.drop j) c ∧ f.get 1 = .fn (.func k) [] [.ptr r 0 0] ∧ T = S.set r (.live 0 [enc ((ops.take j).foldl st a0)]))
    (Q := fun f T => T = S.set r (.live 0 [enc (ops.foldl st a0)])) ops.length (by omega)
    (by
      rintro j hj f T ⟨g0, g1, g2⟩
      obtain ⟨op, hop⟩ : ∃ op, ops[j]? = some op := ⟨_, List.getElem?_eq_getElem hj⟩
      have hdr : ops.drop j = op :: ops.drop (j + 1) := by
        rw [List.drop_eq_getElem_cons hj]; congr 1; exact (List.getElem?_eq_some_iff.1 hop).2
      have hT : T[r]? = some (.live 0 [enc ((ops.take j).foldl st a0)]) := by rw [g2, List.getElem?_set_self hlt]
      have hd1 := hd j op hop T hT
      have hT2 : T.set r (.live 0 [enc ((ops.take (j + 1)).foldl st a0)]) = S.set r (.live 0 [enc ((ops.take (j + 1)).foldl st a0)]) := by rw [g2, List.set_set]
      rw [hT2] at hd1
      have hn := next_ok op (ops.drop (j + 1)) c (by simp; omega) (S.set r (.live 0 [enc ((ops.take (j + 1)).foldl st a0)]))
      rw [hdr] at g0
      have hq : eq2 .ptr (fV (op :: ops.drop (j + 1)) c) .nilp = some false := rfl
      have hfa : faddrA 0 (fV (op :: ops.drop (j + 1)) c) = some (fV (op :: ops.drop (j + 1)) c) := rfl
      have hld : ∀ T, loadA none (fV (op :: ops.drop (j + 1)) c) T = some (.str op) := fun _ => rfl
      have hnc : ∃ cs, fV (op :: ops.drop (j + 1)) c = .fq cs := ⟨_, rfl⟩
      suffices hmid : Post (evC (orcD [mNext] [(k, d)] []) 1000 fault_each_l0 f T) (fun e f' T' => e = .normal ∧ T' = S.set r (.live 0 [enc ((ops.take (j + 1)).foldl st a0)]) ∧ f'.get 0 = fV (ops.drop (j + 1)) c ∧ f'.get 1 = .fn (.func k) [] [.ptr r 0 0]) by
        refine hmid.mono ?_
        rintro e f' T' ⟨k1, k2, k3, k4⟩
        exact ⟨k1, k3, k4, k2⟩
      generalize S.set r (.live 0 [enc ((ops.take (j + 1)).foldl st a0)]) = T1 at *
      generalize fV (ops.drop (j + 1)) c = G at *
      obtain ⟨cs, hcs⟩ := hnc
      rw [hcs] at g0 hq hfa hld hn
      simp [fault_each_l0, exM, orc, orcD, evF, evC, evOps, evOper, evAny, evOp, evCall, putR, putA, Fr.ev, Fr.of, Fr.get, Fr.set, stable, junkA, junkL, resultsA, resA, same, orcD, pickD, Fr.get_set, g0, g1, hq, hfa, hld, hd1, hn, Post_some])
    (by
      rintro f T ⟨g0, g1, g2⟩
      rw [List.drop_length] at g0
      have g0' : f.get 0 = .nilp := g0
      rw [List.take_length] at g2
      have hq : eq2 .ptr .nilp .nilp = some true := rfl
      simp [fault_each_l0, exM, orc, orcD, evF, evC, evOps, evOper, evAny, evOp, evCall, putR, putA, Fr.ev, Fr.of, Fr.get, Fr.set, stable, junkA, junkL, resultsA, resA, same, Fr.get_set, g0', hq, Post_some]
      exact g2)
    (f := Fr.of [fV ops c, .fn (.func k) [] [.ptr r 0 0]]) (S := S) ⟨rfl, rfl, by rw [List.take_zero]; exact (set_same hS).symm⟩
  unfold xEach exM
  refine evF_post rfl rfl ?_
  simp only [fault_each]
  rw [show fault_each_s1 = .block 0 (.loop fault_each_l0) from rfl, h1]
  refine Post.of rfl ⟨.inl rfl, ?_, h2⟩
  rfl

/-- A text's part. -/
def sep : List UInt8 := [58, 32]
def textP (s : List UInt8) (op : List UInt8) : List UInt8 := s ++ (op ++ sep)

noncomputable def xText1 : Model := exM (orc []) fault_Text_1 10
noncomputable def xRoot1 : Model := exM (orc []) fault_Root_1 10
noncomputable def xDepth1 : Model := exM (orc []) fault_Depth_1 10

theorem store1 {S : St} {r : Nat} {x y : AVal} (hS : S[r]? = some (.live 0 [x])) (hy : cells? y = some [y]) : storeA 1 (.ptr r 0 0) y S = some (S.set r (.live 0 [y])) := by
  simp [storeA, hy, hS, splice]
theorem load1 {S : St} {r : Nat} {x : AVal} (hS : S[r]? = some (.live 0 [x])) : loadA none (.ptr r 0 0) S = some x := by
  rw [load_c hS]; rfl

theorem text1_ok {S : St} {r : Nat} {s op : List UInt8} (hS : S[r]? = some (.live 0 [.str s])) (hl : s.length + (op.length + 2) ≤ 9223372036854775807) : xText1 [.str op, .ptr r 0 0] S = some (.tup [], S.set r (.live 0 [.str (textP s op)])) := by
  have h1 := load1 hS
  have b1 : binA .add (.str op) (.str [58, 32]) = some (.str (op ++ sep)) := by simp [binA, strBin, sep]; omega
  have b2 : binA .add (.str s) (.str (op ++ sep)) = some (.str (textP s op)) := by simp [binA, strBin, textP, sep]; omega
  have h2 := store1 (y := .str (textP s op)) hS rfl
  generalize textP s op = z at *
  generalize op ++ sep = y at *
  simp [xText1, exM, fault_Text_1, exM, orc, orcD, evF, evC, evOps, evOper, evAny, evOp, evCall, putR, putA, Fr.ev, Fr.of, Fr.get, Fr.set, stable, junkA, junkL, resultsA, resA, same, h1, b1, b2, h2]

theorem root1_ok {S : St} {r : Nat} {s op : List UInt8} (hS : S[r]? = some (.live 0 [.str s])) : xRoot1 [.str op, .ptr r 0 0] S = some (.tup [], S.set r (.live 0 [.str op])) := by
  have h2 := store1 (y := .str op) hS rfl
  simp [xRoot1, exM, fault_Root_1, exM, orc, orcD, evF, evC, evOps, evOper, evAny, evOp, evCall, putR, putA, Fr.ev, Fr.of, Fr.get, Fr.set, stable, junkA, junkL, resultsA, resA, same, h2]

theorem depth1_ok {S : St} {r : Nat} {n : Nat} {op : List UInt8} (hS : S[r]? = some (.live 0 [.int .i64 (n : Int)])) (hn : n < 1000000) : xDepth1 [.str op, .ptr r 0 0] S = some (.tup [], S.set r (.live 0 [.int .i64 ((n + 1 : Nat) : Int)])) := by
  have h1 := load1 hS
  have b1 : binA .add (.int .i64 (n : Int)) (.int .i64 1) = some (.int .i64 ((n + 1 : Nat) : Int)) := add_is (by omega) (by omega) (by omega)
  have h2 := store1 (y := .int .i64 ((n + 1 : Nat) : Int)) hS rfl
  generalize ((n + 1 : Nat) : Int) = z at *
  simp [xDepth1, exM, fault_Depth_1, exM, orc, orcD, evF, evC, evOps, evOper, evAny, evOp, evCall, putR, putA, Fr.ev, Fr.of, Fr.get, Fr.set, stable, junkA, junkL, resultsA, resA, same, h1, b1, h2]

def names : List (List UInt8) := [[111, 107], [97, 114, 103, 117, 109, 101, 110, 116], [115, 104, 111, 114, 116], [102, 111, 114, 109], [108, 97, 114, 103, 101], [110, 111, 110, 101], [101, 120, 105, 115, 116, 115], [102, 117, 108, 108], [100, 111, 119, 110], [100, 97, 109, 97, 103, 101, 100], [98, 97, 100], [104, 101, 108, 100], [115, 116, 97, 108, 101], [98, 117, 115, 121], [115, 117, 109], [112, 111, 111, 108]]
def nameS (c : Int) : List UInt8 := if 0 ≤ c ∧ c < 16 then names.getD c.toNat [] else [63]

theorem nameS_len (c : Int) : (nameS c).length ≤ 8 := by
  unfold nameS
  split
  · rename_i h
    obtain ⟨n, hn⟩ : ∃ n : Nat, c = (n : Int) := ⟨c.toNat, by omega⟩
    subst hn
    have hn16 : n < 16 := by omega
    rw [Int.toNat_natCast]
    rcases n with _ | _ | _ | _ | _ | _ | _ | _ | _ | _ | _ | _ | _ | _ | _ | _ | n
    all_goals first | decide | omega
  · decide

noncomputable def mName : Model := pureM 3 (exM (orc []) fault_Name 10)
noncomputable def mNames : Model := pureM 3 (exM (orc []) r03_Names 10)
noncomputable def mName2 : Model := pureM 3 (exM (orc [mNames]) r03_Name 10)

theorem names_ok (S : St) : mNames [] S = some (.fz false 16 (scells names), S) := by
  have h : exM (orc []) r03_Names 10 [] [] = some (.sl 0 0 0 16 1, [.live 0 (scells names)]) := by rfl
  refine pureM_run rfl h ?_
  refine deep_sl (cells := scells names) (by omega) rfl (by decide) ?_
  rw [List.drop_zero, List.take_of_length_le (by decide)]
  exact flats_deep _ _ _ (flat_scells _)

theorem name_ok (c : Int) (S : St) : mName [.int .i64 c] S = some (.str (nameS c), S) := by
  by_cases h : 0 ≤ c ∧ c < 16
  · obtain ⟨n, hn⟩ : ∃ n : Nat, c = (n : Int) := ⟨c.toNat, by omega⟩
    subst hn
    have hn16 : n < 16 := by omega
    have e : nameS (n : Int) = names.getD n [] := by rw [nameS, if_pos h, Int.toNat_natCast]
    rw [e]
    refine pureM_run (T := [.live 0 (scells names)]) (v := .str (names.getD n [])) rfl ?_ rfl
    have b1 : binA .lss (.int .i64 (n : Int)) (.int .i64 0) = some (.bool false) := lss_f (by omega)
    have b2 : binA .geq (.int .i64 (n : Int)) (.int .i64 16) = some (.bool false) := geq_f (by omega)
    have hi : iaddrAA 1 16 (.ptr 0 0 0) (.int .i64 (n : Int)) = some (.ptr 0 0 n) := by rw [iaA (by omega) (by omega)]; simp
    have hld : loadA none (.ptr 0 0 n) [.live 0 (scells names)] = some (.str (names.getD n [])) := by
      have hg : names[n]? = some (names.getD n []) := by
        have : n < names.length := by show n < 16; exact hn16
        simp [List.getD, List.getElem?_eq_getElem this]
      rw [load_c (v := 0) (r := 0) (cs := scells names) rfl]
      exact scells_get hg
    generalize names.getD n [] = z at *
    generalize (n : Int) = nn at *
    simp only [scells, names, List.map_cons, List.map_nil] at hld ⊢
    simp [exM, fault_Name, exM, orc, orcD, evF, evC, evOps, evOper, evAny, evOp, evCall, putR, putA, Fr.ev, Fr.of, Fr.get, Fr.set, stable, junkA, junkL, resultsA, resA, same, fillA, cells?, splice, storeA, b1, b2, hi, hld]
  · rw [nameS, if_neg h]
    refine pureM_run (T := [.live 0 (scells names)]) (v := .str [63]) rfl ?_ rfl
    by_cases h0 : c < 0
    · have b1 : binA .lss (.int .i64 c) (.int .i64 0) = some (.bool true) := lss_t h0
      simp [exM, fault_Name, exM, orc, orcD, evF, evC, evOps, evOper, evAny, evOp, evCall, putR, putA, Fr.ev, Fr.of, Fr.get, Fr.set, stable, junkA, junkL, resultsA, resA, same, fillA, cells?, splice, storeA, b1, scells, names]
    · have b1 : binA .lss (.int .i64 c) (.int .i64 0) = some (.bool false) := lss_f (by omega)
      have b2 : binA .geq (.int .i64 c) (.int .i64 16) = some (.bool true) := geq_t (by omega)
      simp [exM, fault_Name, exM, orc, orcD, evF, evC, evOps, evOper, evAny, evOp, evCall, putR, putA, Fr.ev, Fr.of, Fr.get, Fr.set, stable, junkA, junkL, resultsA, resA, same, fillA, cells?, splice, storeA, b1, b2, scells, names]

theorem name2_ok (c : Int) (S : St) : mName2 [.int .i64 c] S = some (.str (nameS c), S) := by
  have hn := names_ok []
  have hlen : lenA .sl (.fz false 16 (scells names)) = some (.int .i64 16) := rfl
  refine pureM_run (T := []) (v := .str (nameS c)) rfl ?_ rfl
  by_cases h0 : c < 0
  · rw [nameS, if_neg (by omega)]
    have b1 : binA .lss (.int .i64 c) (.int .i64 0) = some (.bool true) := lss_t h0
    generalize AVal.fz false 16 (scells names) = N at *
    simp [exM, r03_Name, exM, orc, orcD, evF, evC, evOps, evOper, evAny, evOp, evCall, putR, putA, Fr.ev, Fr.of, Fr.get, Fr.set, stable, junkA, junkL, resultsA, resA, same, hn, b1]
  · have b1 : binA .lss (.int .i64 c) (.int .i64 0) = some (.bool false) := lss_f (by omega)
    by_cases h1 : 16 ≤ c
    · rw [nameS, if_neg (by omega)]
      have b2 : binA .geq (.int .i64 c) (.int .i64 16) = some (.bool true) := geq_t h1
      generalize AVal.fz false 16 (scells names) = N at *
      simp [exM, r03_Name, exM, orc, orcD, evF, evC, evOps, evOper, evAny, evOp, evCall, putR, putA, Fr.ev, Fr.of, Fr.get, Fr.set, stable, junkA, junkL, resultsA, resA, same, hn, hlen, b1, b2]
    · rw [nameS, if_pos (by omega)]
      have b2 : binA .geq (.int .i64 c) (.int .i64 16) = some (.bool false) := geq_f (by omega)
      obtain ⟨n, hnn⟩ : ∃ n : Nat, c = (n : Int) := ⟨c.toNat, by omega⟩
      subst hnn
      have hn16 : n < 16 := by omega
      have hi : iaddrSA 1 (.fz false 16 (scells names)) (.int .i64 (n : Int)) = some (.fq [.str (names.getD n [])]) := by
        have hg : names[n]? = some (names.getD n []) := by
          have : n < names.length := by show n < 16; exact hn16
          simp [List.getD, List.getElem?_eq_getElem this]
        exact svA_ix hg
      rw [Int.toNat_natCast]
      generalize AVal.fz false 16 (scells names) = N at *
      generalize names.getD n [] = z at *
      simp [exM, r03_Name, exM, orc, orcD, evF, evC, evOps, evOper, evAny, evOp, evCall, putR, putA, Fr.ev, Fr.of, Fr.get, Fr.set, stable, junkA, junkL, resultsA, resA, same, hn, hlen, b1, b2, hi, load_fq]
end Am.Fault
