/- Views: what is had, where they are unlike. -/
import Derived.Test.YtohopanblpgldaaAmDig1
set_option linter.all false
namespace Am.Dig
open Am Go Am.Ir Am.Sha
set_option maxRecDepth 100000

theorem eqFlats_bytes : ∀ (u w : List UInt8), u.length = w.length → eqFlats (List.replicate u.length CK.i) (bcells u) (bcells w) = some (u == w)
  | [], [], _ => rfl
  | a :: u, b :: w, h => by
    have ih := eqFlats_bytes u w (by simpa using h)
    simp only [List.length_cons, List.replicate_succ, bcells, List.map_cons] at ih ⊢
    simp only [eqFlats, eqFlat, if_true, ih]
    have : ((a.toNat : Int) == (b.toNat : Int)) = (a == b) := by
      rw [Bool.eq_iff_iff]; simp
      constructor
      · intro h; exact UInt8.toNat_inj.1 (by omega)
      · rintro rfl; rfl
    rw [this]
    cases hab : a == b <;> simp [hab]

theorem eq32 {u w : List UInt8} (hu : u.length = 32) (hw : w.length = 32) : eqFlats [CK.i, CK.i, CK.i, CK.i, CK.i, CK.i, CK.i, CK.i, CK.i, CK.i, CK.i, CK.i, CK.i, CK.i, CK.i, CK.i, CK.i, CK.i, CK.i, CK.i, CK.i, CK.i, CK.i, CK.i, CK.i, CK.i, CK.i, CK.i, CK.i, CK.i, CK.i, CK.i] (bcells u) (bcells w) = some (u == w) := by
  have := eqFlats_bytes u w (by omega)
  rw [hu] at this
  exact this

/-- Whole numbers in cells. -/
def icells (l : List Int) : List AVal := l.map fun x => .int .i64 x
theorem icells_len (l : List Int) : (icells l).length = l.length := by simp [icells]
theorem flat_icells (l : List Int) : ∀ v ∈ icells l, flat v = true := by
  intro v hv
  obtain ⟨b, _, rfl⟩ := List.mem_map.1 hv
  rfl

/-- A slice of whole numbers that has its block, behind some blocks, for itself. -/
def IntsI (B : Nat) (S : St) (m : AVal) (l : List Int) : Prop := (m = .nils ∧ l = []) ∨ ∃ r v, m = .sl r v 0 l.length 1 ∧ S[r]? = some (.live v (icells l)) ∧ B ≤ r
/-- What lies ahead stays. -/
def KB (B : Nat) (S T : St) : Prop := S.length ≤ T.length ∧ ∀ r, r < B → T[r]? = S[r]?
theorem KB.refl (B : Nat) (S : St) : KB B S S := ⟨Nat.le_refl _, fun _ _ => rfl⟩
theorem KB.trans {B : Nat} {S T U : St} (h : KB B S T) (h' : KB B T U) : KB B S U := ⟨Nat.le_trans h.1 h'.1, fun r hr => (h'.2 r hr).trans (h.2 r hr)⟩
theorem KB.mono {B B' : Nat} {S T : St} (h : KB B S T) (hb : B' ≤ B) : KB B' S T := ⟨h.1, fun r hr => h.2 r (by omega)⟩
theorem KB.keeps {S T : St} (h : KB S.length S T) : Keeps S T [] := ⟨h.1, fun r hr _ => h.2 r hr⟩
theorem KB.append {B : Nat} {S X : St} (h : B ≤ S.length) : KB B S (S ++ X) := ⟨by simp, fun r hr => get_old (by omega)⟩
theorem KB.set {B r : Nat} {S : St} {b : ABlock} (h : B ≤ r) : KB B S (S.set r b) := ⟨by simp, fun q hq => by rw [List.getElem?_set_ne (by omega)]⟩

theorem IntsI.app1 {B : Nat} {S : St} {m : AVal} {l : List Int} (h : IntsI B S m l) (hB : B ≤ S.length) (x : Int) (hl : l.length < 1000000) :
    ∃ m' T, appendA 1 8 m (.sl S.length 0 0 1 1) (S ++ [.live 0 [.int .i64 x]]) = some (m', T) ∧ IntsI B T m' (l ++ [x]) ∧ KB B S T := by
  have hc : cellsOf 1 (.sl S.length 0 0 1 1) (S ++ [.live 0 [.int .i64 x]]) = some (1, [.int .i64 x]) := by simp [cellsOf]
  rcases h with ⟨rfl, rfl⟩ | ⟨r, v, rfl, hr, hBr⟩
  · refine ⟨.sl (S.length + 1) 0 0 1 1, S ++ [.live 0 [.int .i64 x]] ++ [.live 0 [.int .i64 x]], ?_, .inr ⟨S.length + 1, 0, rfl, by simp [icells], by omega⟩, ?_⟩
    · simp only [appendA, hc]
      simp
    · rw [List.append_assoc]; exact KB.append hB
  · have hrl := get_lt' hr
    have hr' : (S ++ [ABlock.live 0 [AVal.int .i64 x]])[r]? = some (.live v (icells l)) := by rw [get_old hrl]; exact hr
    refine ⟨.sl r (v + 1) 0 (l.length + 1) 1, (S ++ [ABlock.live 0 [.int .i64 x]]).set r (.live (v + 1) (icells (l ++ [x]))), ?_, .inr ⟨r, v + 1, by simp, ?_, hBr⟩, ?_⟩
    · simp only [appendA, hc, hr']
      rw [if_pos ⟨by trivial, by trivial, by rw [icells_len]; omega, by omega⟩, Nat.mul_one, List.drop_zero, List.take_of_length_le (by rw [icells_len]; omega)]
      simp [icells]
    · rw [List.getElem?_set_self (by simp; omega)]
    · exact KB.trans (KB.append hB) (KB.set hBr)

theorem IntsI.keep {B B' : Nat} {S T : St} {m : AVal} {l : List Int} (h : IntsI B S m l) (hk : ∀ r, B ≤ r → r < S.length → T[r]? = S[r]?) (hB : B' ≤ B) : IntsI B' T m l := by
  rcases h with h | ⟨r, v, rfl, hr, hBr⟩
  · exact .inl h
  · exact .inr ⟨r, v, rfl, by rw [hk r hBr (get_lt' hr)]; exact hr, by omega⟩

/-- Whole numbers told in place. -/
def IntsV (x : AVal) (l : List Int) : Prop := (x = .nils ∧ l = []) ∨ x = .fz false l.length (icells l)

theorem IntsI.told {B : Nat} {S : St} {m : AVal} {l : List Int} (h : IntsI B S m l) (k : Nat) : ∃ x, deep S B (k + 2) m = some x ∧ IntsV x l := by
  rcases h with ⟨rfl, rfl⟩ | ⟨r, v, rfl, hr, hBr⟩
  · exact ⟨.nils, rfl, .inl ⟨rfl, rfl⟩⟩
  · refine ⟨_, deep_sl hBr hr (by rw [icells_len]; omega) ?_, .inr rfl⟩
    rw [List.drop_zero, List.take_of_length_le (by rw [icells_len]; omega)]
    exact flats_deep _ _ _ (flat_icells _)

theorem IntsV.len {x : AVal} {l : List Int} (h : IntsV x l) : lenA .sl x = some (.int .i64 (l.length : Int)) := by
  rcases h with ⟨rfl, rfl⟩ | rfl <;> rfl

theorem IntsV.ix {x : AVal} {l : List Int} (h : IntsV x l) {i : Nat} {n : Int} (hi : l[i]? = some n) : iaddrSA 1 x (.int .i64 (i : Int)) = some (.fq [.int .i64 n]) := by
  have hl := (List.getElem?_eq_some_iff.1 hi).1
  rcases h with ⟨rfl, rfl⟩ | rfl
  · simp at hl
  · have h1 : ((icells l).drop i).take 1 = [.int .i64 n] := by
      have hl' : i < (icells l).length := by rw [icells_len]; exact hl
      rw [List.drop_eq_getElem_cons hl']
      have : (icells l)[i] = .int .i64 n := by simp [icells, (List.getElem?_eq_some_iff.1 hi).2]
      rw [this]; rfl
    have h2 : (i : Int) < (l.length : Int) := by omega
    simp [iaddrSA, h2, h1, icells_len]

noncomputable def xSame : Model := exM (orc []) r09_SameInts 1000

theorem same_loop {O : Orc} {f : Fr} {T : St} {x y : AVal} {l : List Int} (hx : IntsV x l) (hy : IntsV y l) (hl : l.length < 900) (h0 : f.get 0 = x) (h1 : f.get 1 = y) (h5 : f.get 5 = .int .i64 0) (h4 : f.get 4 = .bool false) :
    Post (evC O 1000 r09_SameInts_s1 f T) fun e f' T' => e = .normal ∧ T' = T := by
  obtain ⟨f', T', h1', h3⟩ := loop_post (O := O) (k := 1000) (id := 0) (b := r09_SameInts_l0)
    (I := fun j f T' => f.get 0 = x ∧ f.get 1 = y ∧ f.get 5 = .int .i64 (j : Int) ∧ T' = T) (Q := fun f T' => T' = T) l.length (by omega)
    (by
      rintro j hj f T1 ⟨g0, g1, g5, rfl⟩
      obtain ⟨n, hn⟩ : ∃ n, l[j]? = some n := ⟨_, List.getElem?_eq_getElem hj⟩
      have ix := hx.ix hn
      have iy := hy.ix hn
      have hlen := hx.len
      have hlss : binA .lss (.int .i64 (j : Int)) (.int .i64 (l.length : Int)) = some (.bool true) := lss_t (by omega)
      have had : binA .add (.int .i64 (j : Int)) (.int .i64 1) = some (.int .i64 ((j + 1 : Nat) : Int)) := add_is (by omega) (by omega) (by omega)
      have hne : binA .neq (.int .i64 n) (.int .i64 n) = some (.bool false) := neq_f rfl
      suffices hmid : Post (evC O 1000 r09_SameInts_l0 f T1) (fun e f' T' => e = .normal ∧ T' = T1 ∧ f'.get 0 = x ∧ f'.get 1 = y ∧ f'.get 5 = .int .i64 ((j + 1 : Nat) : Int)) by
        refine hmid.mono ?_
        rintro e f' T' ⟨h1, h0, h2, h3, h4⟩
        exact ⟨h1, h2, h3, h4, h0⟩
      generalize ((j + 1 : Nat) : Int) = z at *
      generalize (j : Int) = jj at *
      generalize (l.length : Int) = nn at *
      simp [r09_SameInts_l0, exM, orc, orcD, evF, evC, evOps, evOper, evAny, evOp, evCall, putR, putA, Fr.ev, Fr.of, Fr.get, Fr.set, stable, junkA, junkL, resultsA, resA, same, Fr.get_set, g0, g1, g5, hlen, hlss, had, ix, iy, load_fq, hne, Post_some])
    (by
      rintro f T1 ⟨g0, g1, g5, rfl⟩
      have hlen := hx.len
      have hlss : binA .lss (.int .i64 (l.length : Int)) (.int .i64 (l.length : Int)) = some (.bool false) := lss_f (by omega)
      generalize (l.length : Int) = nn at *
      simp [r09_SameInts_l0, exM, orc, orcD, evF, evC, evOps, evOper, evAny, evOp, evCall, putR, putA, Fr.ev, Fr.of, Fr.get, Fr.set, stable, junkA, junkL, resultsA, resA, same, Fr.get_set, g0, g1, g5, hlen, hlss, Post_some])
    (f := f) (S := T) ⟨h0, h1, h5, rfl⟩
  rw [show r09_SameInts_s1 = .block 0 (.loop r09_SameInts_l0) from rfl, h1']
  exact Post.of rfl ⟨rfl, h3⟩

theorem same_ok {x y : AVal} {l : List Int} (hx : IntsV x l) (hy : IntsV y l) (hl : l.length < 900) (S : St) : xSame [x, y] S = some (.bool true, S) := by
  have hlx := hx.len
  have hly := hy.len
  have hne : binA .neq (.int .i64 (l.length : Int)) (.int .i64 (l.length : Int)) = some (.bool false) := neq_f rfl
  unfold xSame exM
  refine evF_post rfl rfl ?_
  simp only [r09_SameInts, r09_SameInts_t2, Post_seq]
  generalize (l.length : Int) = nn at *
  simp [exM, orc, orcD, evF, evC, evOps, evOper, evAny, evOp, evCall, putR, putA, Fr.ev, Fr.of, Fr.get, Fr.set, stable, junkA, junkL, resultsA, resA, same, hlx, hly, hne, Fr.get_set, Post_some]
  refine (same_loop hx hy hl (by simp [Fr.get_set, Fr.get]) (by simp [Fr.get_set, Fr.get]) (by simp [Fr.get_set, Fr.get]) (by simp [Fr.get_set, Fr.get])).mono ?_
  rintro e f' T' ⟨rfl, rfl⟩
  simp [exM, orc, orcD, evF, evC, evOps, evOper, evAny, evOp, evCall, putR, putA, Fr.ev, Fr.of, Fr.get, Fr.set, stable, junkA, junkL, resultsA, resA, same, Fr.get_set, Post_some]

/-- An element of a view. -/
theorem ix_view {S : St} {r : Nat} {vs : List (List UInt8)} (h : View vs) (hr : S[r]? = some (.live 0 (vc vs))) {i : Int} (h0 : 0 ≤ i) (h1 : i < 16) :
    iaddrAA 32 16 (.ptr r 0 0) (.int .i64 i) = some (.ptr r 0 (i.toNat * 32)) ∧ loadA (some 32) (.ptr r 0 (i.toNat * 32)) S = some (.agg (bcells (vs.getD i.toNat []))) := by
  refine ⟨by rw [iaA h0 (by omega)]; simp, ?_⟩
  have hh := hs_rng (lo := 0) (n := 16) h hr (by omega)
  have hn := h.n
  have hg : (rng vs 0 16)[i.toNat]? = some (vs.getD i.toNat []) := by
    simp only [rng, List.drop_zero, List.getD]
    rw [List.getElem?_take, if_pos (by omega), List.getElem?_eq_getElem (by omega)]; rfl
  obtain ⟨p, hp, hl⟩ := hh.one hg
  have hl16 : (rng vs 0 16).length = 16 := h.rng_len (by omega)
  rw [iaS (by omega) (by omega), Int.toNat_natCast, Nat.zero_mul, Nat.zero_add] at hp
  cases hp
  exact hl S (Keeps.refl S _)

def hasS (vs : List (List UInt8)) (i : Int) : Bool := decide (0 ≤ i) && (decide (i < 16) && !(vs.getD i.toNat [] == zeros32))

theorem View.get_len {vs : List (List UInt8)} (h : View vs) {i : Nat} (hi : i < 16) : (vs.getD i []).length = 32 := by
  have hn := h.n
  have : vs.getD i [] = vs[i] := by simp [List.getD, List.getElem?_eq_getElem (show i < vs.length by omega)]
  rw [this]; exact h.each _ (List.getElem_mem _)

noncomputable def mHas : Model := tellM 1 (exM (orc []) digest_Has 10)
noncomputable def mHas2 : Model := tellM 1 (exM (orc []) r20_Has 10)

theorem has_ok {vs : List (List UInt8)} (h : View vs) (i : Int) (S : St) : mHas [va vs, .int .i64 i] S = some (.bool (hasS vs i), S) ∧ mHas2 [va vs, .int .i64 i] S = some (.bool (hasS vs i), S) := by
  obtain ⟨S1, hS1⟩ : ∃ S1 : St, S ++ [.live 0 (vc vs)] = S1 := ⟨_, rfl⟩
  have hk1 : Keeps S S1 [] := by rw [← hS1]; exact Keeps.append ..
  have h1v : S1[S.length]? = some (.live 0 (vc vs)) := by rw [← hS1]; simp
  suffices hs : exM (orc []) digest_Has 10 [va vs, .int .i64 i] S = some (.bool (hasS vs i), S1) ∧ exM (orc []) r20_Has 10 [va vs, .int .i64 i] S = some (.bool (hasS vs i), S1) from
    ⟨tellM_keeps hs.1 hk1 rfl, tellM_keeps hs.2 hk1 rfl⟩
  by_cases c1 : 0 ≤ i
  · have b1 : binA .geq (.int .i64 i) (.int .i64 0) = some (.bool true) := geq_t c1
    by_cases c2 : i < 16
    · have b2 : binA .lss (.int .i64 i) (.int .i64 16) = some (.bool true) := lss_t c2
      obtain ⟨i1, i2⟩ := ix_view h h1v c1 c2
      have he := eq32 (h.get_len (i := i.toNat) (by omega)) zeros32_len
      have hz : bcells zeros32 = [.int .u8 0, .int .u8 0, .int .u8 0, .int .u8 0, .int .u8 0, .int .u8 0, .int .u8 0, .int .u8 0, .int .u8 0, .int .u8 0, .int .u8 0, .int .u8 0, .int .u8 0, .int .u8 0, .int .u8 0, .int .u8 0, .int .u8 0, .int .u8 0, .int .u8 0, .int .u8 0, .int .u8 0, .int .u8 0, .int .u8 0, .int .u8 0, .int .u8 0, .int .u8 0, .int .u8 0, .int .u8 0, .int .u8 0, .int .u8 0, .int .u8 0, .int .u8 0] := by rw [zeros32_cells]; rfl
      rw [hz] at he
      have hb : hasS vs i = !(vs.getD i.toNat [] == zeros32) := by simp [hasS, c1, c2]
      rw [hb]
      generalize i.toNat * 32 = o at *
      generalize bcells (vs.getD i.toNat []) = E at *
      generalize (vs.getD i.toNat [] == zeros32) = q at *
      constructor
      · simp [exM, digest_Has, exM, orc, orcD, evF, evC, evOps, evOper, evAny, evOp, evCall, putR, putA, Fr.ev, Fr.of, Fr.get, Fr.set, stable, junkA, junkL, resultsA, resA, same, cells_va, hS1, b1, b2, i1, i2, fillA, he]
      · simp [exM, r20_Has, exM, orc, orcD, evF, evC, evOps, evOper, evAny, evOp, evCall, putR, putA, Fr.ev, Fr.of, Fr.get, Fr.set, stable, junkA, junkL, resultsA, resA, same, cells_va, hS1, b1, b2, i1, i2, fillA, he]
    · have b2 : binA .lss (.int .i64 i) (.int .i64 16) = some (.bool false) := lss_f (by omega)
      have hb : hasS vs i = false := by simp [hasS, c2]
      rw [hb]
      constructor
      · simp [exM, digest_Has, exM, orc, orcD, evF, evC, evOps, evOper, evAny, evOp, evCall, putR, putA, Fr.ev, Fr.of, Fr.get, Fr.set, stable, junkA, junkL, resultsA, resA, same, cells_va, hS1, b1, b2]
      · simp [exM, r20_Has, exM, orc, orcD, evF, evC, evOps, evOper, evAny, evOp, evCall, putR, putA, Fr.ev, Fr.of, Fr.get, Fr.set, stable, junkA, junkL, resultsA, resA, same, cells_va, hS1, b1, b2]
  · have b1 : binA .geq (.int .i64 i) (.int .i64 0) = some (.bool false) := geq_f (by omega)
    have hb : hasS vs i = false := by simp [hasS, c1]
    rw [hb]
    constructor
    · simp [exM, digest_Has, exM, orc, orcD, evF, evC, evOps, evOper, evAny, evOp, evCall, putR, putA, Fr.ev, Fr.of, Fr.get, Fr.set, stable, junkA, junkL, resultsA, resA, same, cells_va, hS1, b1]
    · simp [exM, r20_Has, exM, orc, orcD, evF, evC, evOps, evOper, evAny, evOp, evCall, putR, putA, Fr.ev, Fr.of, Fr.get, Fr.set, stable, junkA, junkL, resultsA, resA, same, cells_va, hS1, b1]

noncomputable def mDigest : Model := tellM 2 (exM (orc [treeM 5]) manifest_Digest 10)

theorem digest_ok {vs : List (List UInt8)} (h : View vs) (S : St) : mDigest [va vs] S = some (.agg (bcells (rangeH vs 0 16)), S) := by
  obtain ⟨Z, hZ⟩ : ∃ Z : List AVal, List.replicate 32 (AVal.int .u8 0) = Z := ⟨_, rfl⟩
  have hZl : Z.length = 32 := by rw [← hZ]; simp
  have hZ' := hZ
  simp only [List.replicate_succ, List.replicate_zero] at hZ'
  obtain ⟨S1, hS1⟩ : ∃ S1 : St, S ++ [.live 0 (vc vs), .live 0 Z] = S1 := ⟨_, rfl⟩
  have hk1 : Keeps S S1 [] := by rw [← hS1]; exact Keeps.append ..
  have h1v : S1[S.length]? = some (.live 0 (vc vs)) := by rw [← hS1]; simp
  have h1z : S1[S.length + 1]? = some (.live 0 Z) := by rw [← hS1]; simp
  have hsl : slcAA 32 16 (.ptr S.length 0 0) none none S1 = some (.sl S.length 0 0 16 32) := by
    have := h.len
    simp only [slcAA, bounds_nn, h1v]
    rw [if_pos ⟨by trivial, by omega⟩]
  have hH := hs_rng h h1v (lo := 0) (n := 16) (by omega)
  have hn := h.rng_len (lo := 0) (n := 16) (by omega)
  have ht : treeM 5 [.sl S.length 0 0 16 32] S1 = some (.agg (bcells (rangeH vs 0 16)), S1) := tree_ok 4 hH (by omega) (by omega) (by omega)
  have hl := rangeH_len h 0 16
  have hst := store32 hZl hl h1z
  have hld := load32 hl (get_lt' h1z)
  refine tellM_keeps (T := S1.set (S.length + 1) (.live 0 (bcells (rangeH vs 0 16)))) ?_ (hk1.after (Keeps.set ..) (by omega)) (deep_agg_bytes ..)
  generalize bcells (rangeH vs 0 16) = B at *
  simp [exM, manifest_Digest, exM, orc, orcD, evF, evC, evOps, evOper, evAny, evOp, evCall, putR, putA, Fr.ev, Fr.of, Fr.get, Fr.set, stable, junkA, junkL, resultsA, resA, same, cells_va, hZ', hS1, hsl, ht, hst, hld]
end Am.Dig
