import Derived.Test.YtgbifohffmdgeaaDoorAmPol7
set_option linter.all false
/- The stable sort: swapRange. -/
section
namespace Am.Pol
open Am Go Am.Ir
set_option maxRecDepth 100000
attribute [local simp] ox oz kx kz og ogz kg kgz mo ai

/-- Places in cells. -/
def pc (d : List Nat) : List AVal := d.map fun (i : Nat) => .int .i64 (i : Int)
theorem pc_len (d : List Nat) : (pc d).length = d.length := by simp [pc]
theorem pc_get (d : List Nat) (i : Nat) : (pc d)[i]? = d[i]?.map fun (i : Nat) => .int .i64 (i : Int) := by simp [pc]
theorem pc_set (d : List Nat) (i x : Nat) : (pc d).set i (.int .i64 (x : Int)) = pc (d.set i x) := by simp [pc, List.map_set]

theorem cells_int' (k : IntKind) (n : Int) : cells? (.int k n) = some [.int k n] := rfl

/-- The list at a slice. -/
structure PL (S : St) (r v : Nat) (d : List Nat) : Prop where
  at' : S[r]? = some (.live v (pc d))
  len : d.length < 1000000

theorem PL.load {S : St} {r v : Nat} {d : List Nat} (h : PL S r v d) {i x : Nat} (hx : d[i]? = some x) : loadA none (.ptr r v (0 + i * 1)) S = some (.int .i64 (x : Int)) := by
  rw [load_c h.at', Nat.zero_add, Nat.mul_one, pc_get, hx]; rfl

theorem PL.store {S : St} {r v : Nat} {d : List Nat} (h : PL S r v d) {i x : Nat} (hi : i < d.length) :
    storeA 1 (.ptr r v (0 + i * 1)) (.int .i64 (x : Int)) S = some (S.set r (.live v (pc (d.set i x)))) := by
  have hs : splice (pc d) i [.int .i64 (x : Int)] = pc (d.set i x) := by
    rw [← pc_set]
    simp only [splice, List.length_singleton]
    rw [List.set_eq_take_append_cons_drop, if_pos (by rw [pc_len]; exact hi)]
    simp
  simp only [storeA, cells_int', h.at', Nat.zero_add, Nat.mul_one, List.length_singleton, pc_len]
  rw [if_pos ⟨trivial, trivial, by omega⟩, hs]
end Am.Pol
end

/- The stable sort: swapRange's rounds. -/
section
namespace Am.Pol
open Am Go Am.Ir
set_option maxRecDepth 100000
attribute [local simp] ox oz kx kz og ogz kg kgz mo ai

/-- All but one block stays. -/
def Off (S T : St) (r : Nat) : Prop := T.length = S.length ∧ ∀ q, q ≠ r → T[q]? = S[q]?
theorem Off.refl (S : St) (r : Nat) : Off S S r := ⟨rfl, fun _ _ => rfl⟩
theorem Off.trans {S T U : St} {r : Nat} (h : Off S T r) (h' : Off T U r) : Off S U r := ⟨h'.1.trans h.1, fun q hq => (h'.2 q hq).trans (h.2 q hq)⟩
theorem Off.set (S : St) (r : Nat) (b : ABlock) : Off S (S.set r b) r := ⟨by simp, fun q hq => by rw [List.getElem?_set, if_neg (fun h => hq h.symm)]⟩
theorem PL.set {S : St} {r v : Nat} {d e : List Nat} (h : PL S r v d) (he : e.length = d.length) : PL (S.set r (.live v (pc e))) r v e :=
  ⟨by rw [List.getElem?_set_self (live_lt h.at')], by rw [he]; exact h.len⟩

/-- Two places change. -/
def sw (d : List Nat) (i j : Nat) : List Nat := (d.set i (d.getD j 0)).set j (d.getD i 0)
theorem sw_len (d : List Nat) (i j : Nat) : (sw d i j).length = d.length := by simp [sw]
def swN (d : List Nat) (a b : Nat) : Nat → List Nat
  | 0 => d
  | n + 1 => sw (swN d a b n) (a + n) (b + n)
theorem swN_len (d : List Nat) (a b : Nat) : ∀ n, (swN d a b n).length = d.length
  | 0 => rfl
  | n + 1 => by rw [swN, sw_len, swN_len d a b n]

theorem getD_some {d : List Nat} {i : Nat} (h : i < d.length) : d[i]? = some (d.getD i 0) := by
  simp [List.getD_eq_getElem?_getD, List.getElem?_eq_getElem h]

/-- The two stores of a swap. -/
theorem PL.swap {S : St} {r v : Nat} {d : List Nat} (h : PL S r v d) {i j : Nat} (hi : i < d.length) (hj : j < d.length) :
    ∃ T U, storeA 1 (.ptr r v (0 + i * 1)) (.int .i64 (d.getD j 0 : Int)) S = some T ∧ storeA 1 (.ptr r v (0 + j * 1)) (.int .i64 (d.getD i 0 : Int)) T = some U ∧ PL U r v (sw d i j) ∧ Off S U r := by
  have h1 := h.store (x := d.getD j 0) hi
  have h2 : PL (S.set r (.live v (pc (d.set i (d.getD j 0))))) r v (d.set i (d.getD j 0)) := h.set (by simp)
  have h3 := h2.store (i := j) (x := d.getD i 0) (by simpa using hj)
  refine ⟨_, _, h1, h3, h2.set (by simp), (Off.set ..).trans (Off.set ..)⟩

def xSwapRange : Model := exM (orc []) slices_swapRangeCmpFunc 1000

structure SwF (f : Fr) (r v n a b m : Nat) : Prop where
  s0 : f.get 0 = .sl r v 0 n 1
  s1 : f.get 1 = .int .i64 (a : Int)
  s2 : f.get 2 = .int .i64 (b : Int)
  s3 : f.get 3 = .int .i64 (m : Int)

theorem swap_round {r v n a b m i : Nat} {d : List Nat} (hd : d.length = n) (ha : a + m ≤ n) (hb : b + m ≤ n) (hi : i < m) {f : Fr} {S : St} (hS : PL S r v d) (hf : SwF f r v n a b m) (h10 : f.get 10 = .int .i64 (i : Int)) :
    Post (evC (orc []) 1000 slices_swapRangeCmpFunc_l0 f S) fun e f' T => e = .normal ∧ PL T r v (sw d (a + i) (b + i)) ∧ Off S T r ∧ SwF f' r v n a b m ∧ f'.get 10 = .int .i64 ((i + 1 : Nat) : Int) := by
  obtain ⟨s0, s1, s2, s3⟩ := hf
  have hn := hS.len
  obtain ⟨T, U, g1, g2, g3, g4⟩ := hS.swap (i := a + i) (j := b + i) (by omega) (by omega)
  have l1 := hS.load (i := b + i) (getD_some (by omega))
  have l2 := hS.load (i := a + i) (getD_some (by omega))
  have c0 : binA .lss (.int .i64 (i : Int)) (.int .i64 (m : Int)) = some (.bool true) := lss_t (by omega)
  have c1 : binA .add (.int .i64 (a : Int)) (.int .i64 (i : Int)) = some (.int .i64 ((a + i : Nat) : Int)) := add_is (by omega) (by omega) (by omega)
  have c2 : binA .add (.int .i64 (b : Int)) (.int .i64 (i : Int)) = some (.int .i64 ((b + i : Nat) : Int)) := add_is (by omega) (by omega) (by omega)
  have c3 : binA .add (.int .i64 (i : Int)) (.int .i64 1) = some (.int .i64 ((i + 1 : Nat) : Int)) := add_is (by omega) (by omega) (by omega)
  have p1 : iaddrSA 1 (.sl r v 0 n 1) (.int .i64 ((a + i : Nat) : Int)) = some (.ptr r v (0 + (a + i) * 1)) := by rw [iaS (by omega) (by omega), Int.toNat_natCast]
  have p2 : iaddrSA 1 (.sl r v 0 n 1) (.int .i64 ((b + i : Nat) : Int)) = some (.ptr r v (0 + (b + i) * 1)) := by rw [iaS (by omega) (by omega), Int.toNat_natCast]
  suffices hmid : Post (evC (orc []) 1000 slices_swapRangeCmpFunc_l0 f S) (fun e f' T => e = .normal ∧ T = U ∧ f'.get 0 = .sl r v 0 n 1 ∧ f'.get 1 = .int .i64 (a : Int) ∧ f'.get 2 = .int .i64 (b : Int) ∧ f'.get 3 = .int .i64 (m : Int) ∧ f'.get 10 = .int .i64 ((i + 1 : Nat) : Int)) by
    refine hmid.mono ?_
    rintro e f' T' ⟨k1, rfl, k2, k3, k4, k5, k6⟩
    exact ⟨k1, g3, g4, ⟨k2, k3, k4, k5⟩, k6⟩
  generalize ((a + i : Nat) : Int) = z1 at *
  generalize ((b + i : Nat) : Int) = z2 at *
  generalize ((i + 1 : Nat) : Int) = z3 at *
  generalize (0 + (a + i) * 1) = o1 at *
  generalize (0 + (b + i) * 1) = o2 at *
  generalize ((d.getD (a + i) 0 : Nat) : Int) = x1 at *
  generalize ((d.getD (b + i) 0 : Nat) : Int) = x2 at *
  simp [slices_swapRangeCmpFunc_l0, exM, orc, orcD, evF, evC, evOps, evOper, evAny, evOp, evCall, putR, putA, Fr.ev, Fr.of, Fr.get, Fr.set, stable, junkA, junkL, resultsA, resA, same, Fr.get_set, s0, s1, s2, s3, h10, c0, c1, c2, c3, p1, p2, l1, l2, g1, g2, Post_some]
end Am.Pol
end

/- The stable sort: swapRange. -/
section
namespace Am.Pol
open Am Go Am.Ir
set_option maxRecDepth 100000
attribute [local simp] ox oz kx kz og ogz kg kgz mo ai

theorem swapRange_ok {r v n a b m : Nat} {d : List Nat} (hd : d.length = n) (ha : a + m ≤ n) (hb : b + m ≤ n) (hn : n < 900) {S : St} (hS : PL S r v d) (c : AVal) :
    ∃ T, xSwapRange [.sl r v 0 n 1, .int .i64 (a : Int), .int .i64 (b : Int), .int .i64 (m : Int), c] S = some (.tup [], T) ∧ PL T r v (swN d a b m) ∧ Off S T r := by
  unfold xSwapRange exM
  refine evF_postX (F := slices_swapRangeCmpFunc) (R := fun T => PL T r v (swN d a b m) ∧ Off S T r) rfl rfl ?_
  obtain ⟨f', T', g1, g2⟩ := loop_post (O := orc []) (k := 1000) (id := 0) (b := slices_swapRangeCmpFunc_l0)
    (I := fun i f T => PL T r v (swN d a b i) ∧ Off S T r ∧ SwF f r v n a b m ∧ f.get 10 = .int .i64 (i : Int))
    (Q := fun f T => PL T r v (swN d a b m) ∧ Off S T r) m (by omega)
    (by
      rintro i hi f T ⟨hP, hO, hF, h10⟩
      refine (swap_round (by rw [swN_len]; exact hd) ha hb hi hP hF h10).mono ?_
      rintro e f' U ⟨rfl, k1, k2, k3, k4⟩
      exact ⟨rfl, k1, hO.trans k2, k3, k4⟩)
    (by
      rintro f T ⟨hP, hO, ⟨s0, s1, s2, s3⟩, h10⟩
      have c0 : binA .lss (.int .i64 (m : Int)) (.int .i64 (m : Int)) = some (.bool false) := lss_f (by omega)
      suffices hmid : Post (evC (orc []) 1000 slices_swapRangeCmpFunc_l0 f T) (fun e f' T' => e = .exit 0 ∧ T' = T) by
        refine hmid.mono ?_
        rintro e f' T' ⟨rfl, rfl⟩
        exact ⟨rfl, hP, hO⟩
      simp [slices_swapRangeCmpFunc_l0, exM, orc, orcD, evF, evC, evOps, evOper, evAny, evOp, evCall, putR, putA, Fr.ev, Fr.of, Fr.get, Fr.set, stable, junkA, junkL, resultsA, resA, same, Fr.get_set, s3, h10, c0, Post_some])
    (f := [(0, .sl r v 0 n 1), (1, .int .i64 (a : Int)), (2, .int .i64 (b : Int)), (3, .int .i64 (m : Int)), (4, c), (10, .int .i64 0)]) (S := S)
    ⟨hS, Off.refl S r, ⟨by simp [Fr.get], by simp [Fr.get], by simp [Fr.get], by simp [Fr.get]⟩, by simp [Fr.get]⟩
  simp only [slices_swapRangeCmpFunc, Post_seq]
  simp only [orc] at g1
  simp [exM, orc, orcD, evF, evC, evOps, evOper, evAny, evOp, evCall, putR, putA, Fr.ev, Fr.of, Fr.get, Fr.set, stable, junkA, junkL, resultsA, resA, same, Post_some]
  rw [show slices_swapRangeCmpFunc_s1 = .block 0 (.loop slices_swapRangeCmpFunc_l0) from rfl, g1]
  simp [Post_some, resultsA, g2]
end Am.Pol
end

/- The stable sort: what swapRange does to a list. -/
section
namespace Am.Pol
set_option maxRecDepth 100000

theorem sw_get {d : List Nat} {i j : Nat} (hi : i < d.length) (hj : j < d.length) (k : Nat) : (sw d i j)[k]? = if k = j then d[i]? else if k = i then d[j]? else d[k]? := by
  unfold sw
  rw [List.getElem?_set, List.getElem?_set]
  simp only [List.length_set]
  by_cases h1 : k = j
  · subst h1; rw [if_pos rfl, if_pos hj, if_pos rfl, getD_some hi]
  · rw [if_neg (fun h => h1 h.symm), if_neg h1]
    by_cases h2 : k = i
    · subst h2; rw [if_pos rfl, if_pos hi, if_pos rfl, getD_some hj]
    · rw [if_neg (fun h => h2 h.symm), if_neg h2]

theorem swN_get {d : List Nat} {a b m : Nat} (hab : a + m ≤ b) (hb : b + m ≤ d.length) : ∀ (i : Nat), i ≤ m → ∀ k,
    (swN d a b i)[k]? = if a ≤ k ∧ k < a + i then d[k - a + b]? else if b ≤ k ∧ k < b + i then d[k - b + a]? else d[k]?
  | 0, _, k => by rw [swN, if_neg (by omega), if_neg (by omega)]
  | i + 1, hi, k => by
    have ih := swN_get hab hb i (by omega)
    rw [swN, sw_get (by rw [swN_len]; omega) (by rw [swN_len]; omega)]
    by_cases h1 : k = b + i
    · subst h1
      rw [if_pos rfl, ih, if_neg (by omega), if_neg (by omega), if_neg (by omega), if_pos (by omega)]
      congr 1; omega
    · rw [if_neg h1]
      by_cases h2 : k = a + i
      · subst h2
        rw [if_pos rfl, ih, if_neg (by omega), if_neg (by omega), if_pos (by omega)]
        congr 1; omega
      · rw [if_neg h2, ih]
        by_cases h3 : a ≤ k ∧ k < a + i
        · rw [if_pos h3, if_pos (by omega)]
        · rw [if_neg h3, if_neg (show ¬ (a ≤ k ∧ k < a + (i + 1)) by omega)]
          by_cases h4 : b ≤ k ∧ k < b + i
          · rw [if_pos h4, if_pos (by omega)]
          · rw [if_neg h4, if_neg (by omega)]

/-- Two runs of the same length change. -/
theorem swN_parts {p x z y q : List Nat} (h : x.length = y.length) : swN (p ++ (x ++ (z ++ (y ++ q)))) p.length (p.length + x.length + z.length) x.length = p ++ (y ++ (z ++ (x ++ q))) := by
  apply List.ext_getElem?
  intro k
  rw [swN_get (m := x.length) (by omega) (by simp; omega) _ (Nat.le_refl _)]
  simp only [List.getElem?_append]
  by_cases c1 : k < p.length
  · rw [if_neg (by omega), if_neg (by omega)]; simp only [if_pos c1]
  by_cases c2 : k < p.length + x.length
  · rw [if_pos (by omega), if_neg (by omega), if_neg (by omega), if_neg (by omega), if_pos (by omega), if_neg c1, if_pos (by omega)]
    congr 1; omega
  by_cases c3 : k < p.length + x.length + z.length
  · rw [if_neg (by omega), if_neg (by omega)]
    simp only [if_neg c1, if_neg (show ¬ k - p.length < x.length by omega), if_neg (show ¬ k - p.length < y.length by omega), h]
    rw [if_pos (by omega), if_pos (by omega)]
  by_cases c4 : k < p.length + x.length + z.length + x.length
  · rw [if_neg (by omega), if_pos (by omega), if_neg (by omega), if_pos (by omega), if_neg c1, if_neg (by omega), if_neg (by omega), if_pos (by omega)]
    congr 1; omega
  · rw [if_neg (by omega), if_neg (by omega)]
    simp only [if_neg c1, if_neg (show ¬ k - p.length < x.length by omega), if_neg (show ¬ k - p.length < y.length by omega), h]
    rw [if_neg (by omega), if_neg (by omega), if_neg (by omega), if_neg (by omega)]
end Am.Pol
end

