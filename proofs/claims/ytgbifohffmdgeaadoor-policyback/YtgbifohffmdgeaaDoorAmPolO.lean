import Derived.Test.YtgbifohffmdgeaaDoorAmPolI
set_option linter.all false
/- The stable sort: the order, and what an insertion does to it. -/
section
namespace Am.Pol
set_option maxRecDepth 100000

/-- The stable order: the greater time first; of equal ones the lesser place. -/
def bf (L : Nat → Nat) (x y : Nat) : Prop := L y < L x ∨ (L x = L y ∧ x < y)
def SB (L : Nat → Nat) (s : List Nat) : Prop := s.Pairwise (bf L)
/-- Of equal times the lesser place stands ahead. -/
def Stb (L : Nat → Nat) (s : List Nat) : Prop := s.Pairwise fun x y => L x = L y → x < y

theorem bf.trans {L : Nat → Nat} {x y z : Nat} (h : bf L x y) (h' : bf L y z) : bf L x z := by
  unfold bf at *; omega
theorem bf.of {L : Nat → Nat} {x y : Nat} (h : L y ≤ L x) (h' : L x = L y → x < y) : bf L x y := by
  unfold bf; by_cases he : L x = L y
  · exact .inr ⟨he, h' he⟩
  · exact .inl (by omega)
theorem bf.le {L : Nat → Nat} {x y : Nat} (h : bf L x y) : L y ≤ L x := by unfold bf at h; omega
theorem bf.eq {L : Nat → Nat} {x y : Nat} (h : bf L x y) (e : L x = L y) : x < y := by unfold bf at h; omega
theorem SB.stb {L : Nat → Nat} {s : List Nat} (h : SB L s) : Stb L s := List.Pairwise.imp (fun h => bf.eq h) h

/-- An element in its place. -/
theorem SB.ins {L : Nat → Nat} {x1 x2 : List Nat} {e : Nat} (h : SB L (x1 ++ x2)) (hs : ∀ y ∈ x1, L y = L e → y < e) (h2 : ∀ y ∈ x2, L y < L e) (h1 : ∀ x0 z, x1 = x0 ++ [z] → L e ≤ L z) : SB L (x1 ++ e :: x2) := by
  unfold SB at *
  rw [List.pairwise_append] at h ⊢
  obtain ⟨a, b, c⟩ := h
  have key : ∀ y ∈ x1, bf L y e := by
    intro y hy
    refine bf.of ?_ (hs y hy)
    by_cases hx : x1 = []
    · subst hx; simp at hy
    · obtain ⟨x0, z, rfl⟩ := eq_snoc hx
      have hz := h1 x0 z rfl
      rw [List.pairwise_append] at a
      rcases List.mem_append.1 hy with hy | hy
      · have := (a.2.2 y hy z (by simp)).le; omega
      · simp at hy; subst hy; exact hz
  refine ⟨a, List.pairwise_cons.2 ⟨fun y hy => .inl (h2 y hy), b⟩, fun y hy z hz => ?_⟩
  rcases List.mem_cons.1 hz with rfl | hz
  · exact key y hy
  · exact c y hy z hz
end Am.Pol
end

/- The stable sort: insertionSort. -/
section
namespace Am.Pol
open Am Go Am.Ir
set_option maxRecDepth 100000
attribute [local simp] ox oz kx kz og ogz kg kgz mo ai

theorem ins_turn {O : Orc} {k : Nat} {bx : AVal} {P : St → Prop} {r v n b i e : Nat} {L : Nat → Nat} {p x q : List Nat} (hC : Cm O.dyn k bx P r n fun y z => decide (L z < L y))
    (hd : (p ++ (x ++ e :: q)).length = n) (hlt : Lt (p ++ (x ++ e :: q)) n) (hn : n < 900) (hi : i = p.length + x.length) (hib : i < b) (hb : b ≤ n)
    {f : Fr} {S : St} (hP : P S) (hS : PL S r v (p ++ (x ++ e :: q))) (hf : InF f r v n p.length b k bx i) :
    Post (evC O 1000 slices_insertionSortCmpFunc_l4 f S) fun y f' T => y = .normal ∧ ∃ x1 x2, x = x1 ++ x2 ∧ PL T r v (p ++ (x1 ++ e :: (x2 ++ q))) ∧ Off S T r ∧ InF f' r v n p.length b k bx (i + 1) ∧
      (∀ y ∈ x2, L y < L e) ∧ ∀ x0 z, x1 = x0 ++ [z] → L e ≤ L z := by
  have c0 : binA .lss (.int .i64 (i : Int)) (.int .i64 (b : Int)) = some (.bool true) := lss_t (by omega)
  have c1 : binA .add (.int .i64 (i : Int)) (.int .i64 1) = some (.int .i64 ((i + 1 : Nat) : Int)) := add_is (by omega) (by omega) (by omega)
  have key := fun (g : Fr) (hg : InF g r v n p.length b k bx i) (h9 : g.get 9 = .int .i64 (i : Int)) => ins_loop (O := O) (f := g) (i := i) (b := b) hC hd hlt hn hP hS hg (by rw [h9, hi])
  obtain ⟨s0, s1, s2, s3, s8⟩ := hf
  obtain ⟨f', T, h1, x1, x2, h2, h3, h4, ⟨t0, t1, t2, t3, t8⟩, h6⟩ := key (((((f.set 12 (.int .i64 (i : Int))).set 13 (.int .i64 (b : Int))).set 14 (.bool true)).set 17 (.int .i64 (i : Int))).set 9 (.int .i64 (i : Int)))
    ⟨by simp [Fr.get_set, s0], by simp [Fr.get_set, s1], by simp [Fr.get_set, s2], by simp [Fr.get_set, s3], by simp [Fr.get_set, s8]⟩ (by simp [Fr.get_set])
  suffices hmid : Post (evC O 1000 slices_insertionSortCmpFunc_l4 f S) (fun e g T' => e = .normal ∧ T' = T ∧ g.get 0 = .sl r v 0 n 1 ∧ g.get 1 = .int .i64 (p.length : Int) ∧ g.get 2 = .int .i64 (b : Int) ∧ g.get 3 = .fn (.func k) [] [bx] ∧ g.get 8 = .int .i64 ((i + 1 : Nat) : Int)) by
    refine hmid.mono ?_
    rintro e g T' ⟨rfl, rfl, k0, k1, k2, k3, k8⟩
    exact ⟨rfl, x1, x2, h2, h3, h4, ⟨k0, k1, k2, k3, k8⟩, h6⟩
  simp only [slices_insertionSortCmpFunc_l4, slices_insertionSortCmpFunc_t3, slices_insertionSortCmpFunc_b2, Post_seq, Post_block]
  generalize ((i + 1 : Nat) : Int) = z1 at *
  simp [exM, orc, orcD, evF, evC, evOps, evOper, evAny, evOp, evCall, putR, putA, Fr.ev, Fr.of, Fr.get, Fr.set, stable, junkA, junkL, resultsA, resA, same, Fr.get_set, s0, s1, s2, s3, s8, c0, h1, t0, t1, t2, t3, t8, c1, Post_some]
end Am.Pol
end

/- The stable sort: symMerge's searches. -/
section
namespace Am.Pol
open Am Go Am.Ir
set_option maxRecDepth 100000
attribute [local simp] ox oz kx kz og ogz kg kgz mo ai

theorem shr1 (n : Nat) : binA .shr (.int .u64 (n : Int)) (.int .u64 1) = some (.int .u64 ((n / 2 : Nat) : Int)) := by
  simp only [binA, shiftA]
  rw [if_pos (by simp), if_neg (by omega)]
  simp only [show ((1 : Int).toNat) = 1 from rfl, show min 1 IntKind.u64.bits = 1 from rfl]
  congr 2
  rw [Int.fdiv_eq_ediv_of_nonneg _ (by omega)]
  simp

structure SyF (f : Fr) (r v n a m b : Nat) (k : Nat) (bx : AVal) : Prop where
  s0 : f.get 0 = .sl r v 0 n 1
  s1 : f.get 1 = .int .i64 (a : Int)
  s2 : f.get 2 = .int .i64 (m : Int)
  s3 : f.get 3 = .int .i64 (b : Int)
  s4 : f.get 4 = .fn (.func k) [] [bx]

/-- A place that a search finds. -/
def Found (pr : Nat → Bool) (lo hi i : Nat) : Prop := lo ≤ i ∧ i ≤ hi ∧ (i = lo ∨ pr (i - 1) = true) ∧ (i = hi ∨ pr i = false)
/-- What a search holds. -/
def Seek (pr : Nat → Bool) (lo hi i j : Nat) : Prop := lo ≤ i ∧ i ≤ j ∧ j ≤ hi ∧ (i = lo ∨ pr (i - 1) = true) ∧ (j = hi ∨ pr j = false)
theorem Seek.found {pr : Nat → Bool} {lo hi i : Nat} (h : Seek pr lo hi i i) : Found pr lo hi i := ⟨h.1, h.2.2.1, h.2.2.2.1, h.2.2.2.2⟩
theorem Seek.up {pr : Nat → Bool} {lo hi i j : Nat} (h : Seek pr lo hi i j) (hij : i < j) (hp : pr ((i + j) / 2) = true) : Seek pr lo hi ((i + j) / 2 + 1) j := by
  obtain ⟨h1, h2, h3, h4, h5⟩ := h
  exact ⟨by omega, by omega, h3, .inr (by simpa using hp), h5⟩
theorem Seek.down {pr : Nat → Bool} {lo hi i j : Nat} (h : Seek pr lo hi i j) (hij : i < j) (hp : pr ((i + j) / 2) = false) : Seek pr lo hi i ((i + j) / 2) := by
  obtain ⟨h1, h2, h3, h4, h5⟩ := h
  exact ⟨h1, by omega, by omega, h4, .inr hp⟩

/-- What a round of a search reckons. -/
theorem half (i j : Nat) (h : i + j < 1000000) : binA .add (.int .i64 (i : Int)) (.int .i64 (j : Int)) = some (.int .i64 ((i + j : Nat) : Int)) ∧ IntKind.u64.wrap ((i + j : Nat) : Int) = ((i + j : Nat) : Int) ∧
    binA .shr (.int .u64 ((i + j : Nat) : Int)) (.int .u64 1) = some (.int .u64 (((i + j) / 2 : Nat) : Int)) ∧ IntKind.i64.wrap (((i + j) / 2 : Nat) : Int) = (((i + j) / 2 : Nat) : Int) ∧
    binA .add (.int .i64 (((i + j) / 2 : Nat) : Int)) (.int .i64 1) = some (.int .i64 (((i + j) / 2 + 1 : Nat) : Int)) :=
  ⟨add_is (by omega) (by omega) (by omega), conv_u64 (by omega) (by omega), shr1 _, conv_i64 (by omega) (by omega), add_is (by omega) (by omega) (by omega)⟩

theorem seek0_round {O : Orc} {k : Nat} {bx : AVal} {P : St → Prop} {r v n a m b i j : Nat} {lt : Nat → Nat → Bool} {d : List Nat} (hC : Cm O.dyn k bx P r n lt) (hd : d.length = n) (hlt : Lt d n) (hn : n < 900) (ha : a < n) (hj : j ≤ n)
    {f : Fr} {S : St} (hP : P S) (hS : PL S r v d) (hf : SyF f r v n a m b k bx) (h10 : f.get 10 = .int .i64 (i : Int)) (h11 : f.get 11 = .int .i64 (j : Int)) :
    Post (evC O 1000 slices_symMergeCmpFunc_l0 f S) fun e f' T => T = S ∧ SyF f' r v n a m b k bx ∧
      if i < j then e = .normal ∧ (if lt (d.getD ((i + j) / 2) 0) (d.getD a 0) = true then f'.get 10 = .int .i64 (((i + j) / 2 + 1 : Nat) : Int) ∧ f'.get 11 = .int .i64 (j : Int) else f'.get 10 = .int .i64 (i : Int) ∧ f'.get 11 = .int .i64 (((i + j) / 2 : Nat) : Int))
      else e = .exit 0 ∧ f'.get 10 = .int .i64 (i : Int) := by
  obtain ⟨s0, s1, s2, s3, s4⟩ := hf
  by_cases hij : i < j
  rotate_left
  · have c0 : binA .lss (.int .i64 (i : Int)) (.int .i64 (j : Int)) = some (.bool false) := lss_f (by omega)
    simp only [if_neg hij]
    suffices hmid : Post (evC O 1000 slices_symMergeCmpFunc_l0 f S) (fun e f' T => T = S ∧ f'.get 0 = .sl r v 0 n 1 ∧ f'.get 1 = .int .i64 (a : Int) ∧ f'.get 2 = .int .i64 (m : Int) ∧ f'.get 3 = .int .i64 (b : Int) ∧ f'.get 4 = .fn (.func k) [] [bx] ∧ e = .exit 0 ∧ f'.get 10 = .int .i64 (i : Int)) by
      refine hmid.mono ?_
      rintro e f' T ⟨k1, k2, k3, k4, k5, k6, k7⟩
      exact ⟨k1, ⟨k2, k3, k4, k5, k6⟩, k7⟩
    simp only [slices_symMergeCmpFunc_l0, Post_seq, Post_block]
    simp [exM, orc, orcD, evF, evC, evOps, evOper, evAny, evOp, evCall, putR, putA, Fr.ev, Fr.of, Fr.get, Fr.set, stable, junkA, junkL, resultsA, resA, same, Fr.get_set, s0, s1, s2, s3, s4, h10, h11, c0, Post_some]
  have c0 : binA .lss (.int .i64 (i : Int)) (.int .i64 (j : Int)) = some (.bool true) := lss_t (by omega)
  obtain ⟨e1, e2, e3, e4, e5⟩ := half i j (by omega)
  have l1 := hS.load (i := (i + j) / 2) (getD_some (by omega))
  have l2 := hS.load (i := a) (getD_some (by omega))
  have p1 : iaddrSA 1 (.sl r v 0 n 1) (.int .i64 (((i + j) / 2 : Nat) : Int)) = some (.ptr r v (0 + (i + j) / 2 * 1)) := by rw [iaS (by omega) (by omega), Int.toNat_natCast]
  have p2 : iaddrSA 1 (.sl r v 0 n 1) (.int .i64 (a : Int)) = some (.ptr r v (0 + a * 1)) := by rw [iaS (by omega) (by omega), Int.toNat_natCast]
  obtain ⟨z, hz, hl⟩ := hC.call S hP (d.getD ((i + j) / 2) 0) (d.getD a 0) (hlt.get (by omega)) (hlt.get (by omega))
  rw [hl]
  simp only [if_pos hij]
  suffices hmid : Post (evC O 1000 slices_symMergeCmpFunc_l0 f S) (fun e f' T => T = S ∧ f'.get 0 = .sl r v 0 n 1 ∧ f'.get 1 = .int .i64 (a : Int) ∧ f'.get 2 = .int .i64 (m : Int) ∧ f'.get 3 = .int .i64 (b : Int) ∧ f'.get 4 = .fn (.func k) [] [bx] ∧ e = .normal ∧
      if z < 0 then f'.get 10 = .int .i64 (((i + j) / 2 + 1 : Nat) : Int) ∧ f'.get 11 = .int .i64 (j : Int) else f'.get 10 = .int .i64 (i : Int) ∧ f'.get 11 = .int .i64 (((i + j) / 2 : Nat) : Int)) by
    refine hmid.mono ?_
    rintro e f' T ⟨k1, k2, k3, k4, k5, k6, k7, k8⟩
    exact ⟨k1, ⟨k2, k3, k4, k5, k6⟩, k7, by simpa using k8⟩
  generalize (((i + j) / 2 + 1 : Nat) : Int) = z1 at *
  generalize (((i + j) / 2 : Nat) : Int) = z2 at *
  generalize ((i + j : Nat) : Int) = z3 at *
  generalize (0 + (i + j) / 2 * 1) = o1 at *
  generalize (0 + a * 1) = o2 at *
  generalize ((d.getD ((i + j) / 2) 0 : Nat) : Int) = x1 at *
  generalize ((d.getD a 0 : Nat) : Int) = x2 at *
  simp only [slices_symMergeCmpFunc_l0, Post_seq, Post_block]
  by_cases hzz : z < 0
  · have c2 : binA .lss (.int .i64 z) (.int .i64 0) = some (.bool true) := lss_t hzz
    simp [exM, orc, orcD, evF, evC, evOps, evOper, evAny, evOp, evCall, putR, putA, Fr.ev, Fr.of, Fr.get, Fr.set, stable, junkA, junkL, resultsA, resA, same, Fr.get_set, s0, s1, s2, s3, s4, h10, h11, c0, c2, e1, e2, e3, e4, e5, p1, p2, l1, l2, hz, hzz, Post_some]
  · have c2 : binA .lss (.int .i64 z) (.int .i64 0) = some (.bool false) := lss_f (by omega)
    simp [exM, orc, orcD, evF, evC, evOps, evOper, evAny, evOp, evCall, putR, putA, Fr.ev, Fr.of, Fr.get, Fr.set, stable, junkA, junkL, resultsA, resA, same, Fr.get_set, s0, s1, s2, s3, s4, h10, h11, c0, c2, e1, e2, e3, e4, e5, p1, p2, l1, l2, hz, hzz, Post_some]

theorem seek0 {O : Orc} {k : Nat} {bx : AVal} {P : St → Prop} {r v n a m b lo hi : Nat} {lt : Nat → Nat → Bool} {d : List Nat} (hC : Cm O.dyn k bx P r n lt) (hd : d.length = n) (hlt : Lt d n) (hn : n < 900) (ha : a < n) (hlh : lo ≤ hi) (hj : hi ≤ n)
    {f : Fr} {S : St} (hP : P S) (hS : PL S r v d) (hf : SyF f r v n a m b k bx) (h10 : f.get 10 = .int .i64 (lo : Int)) (h11 : f.get 11 = .int .i64 (hi : Int)) :
    ∃ f' T, evC O 1000 slices_symMergeCmpFunc_s1 f S = some (.normal, f', T) ∧ T = S ∧ SyF f' r v n a m b k bx ∧ ∃ i, Found (fun h => lt (d.getD h 0) (d.getD a 0)) lo hi i ∧ f'.get 10 = .int .i64 (i : Int) := by
  refine loop_meas (O := O) (k := 1000) (id := 0) (b := slices_symMergeCmpFunc_l0)
    (I := fun c g T => T = S ∧ SyF g r v n a m b k bx ∧ ∃ i j, c = j - i ∧ Seek (fun h => lt (d.getD h 0) (d.getD a 0)) lo hi i j ∧ g.get 10 = .int .i64 (i : Int) ∧ g.get 11 = .int .i64 (j : Int))
    ?_ (m := hi - lo) (by omega) ⟨rfl, hf, lo, hi, rfl, ⟨by omega, by omega, by omega, .inl rfl, .inl rfl⟩, h10, h11⟩
  rintro c g T ⟨rfl, hg, i, j, rfl, hs, g10, g11⟩
  refine (seek0_round hC hd hlt hn ha (by have := hs.2.2.1; omega) hP hS hg g10 g11).mono ?_
  rintro e f' U ⟨rfl, hg', hq⟩
  by_cases hij : i < j
  · rw [if_pos hij] at hq
    obtain ⟨rfl, hq⟩ := hq
    by_cases hp : lt (d.getD ((i + j) / 2) 0) (d.getD a 0) = true
    · rw [if_pos hp] at hq
      exact .inl ⟨rfl, j - ((i + j) / 2 + 1), by omega, rfl, hg', _, _, rfl, hs.up hij hp, hq.1, hq.2⟩
    · rw [if_neg hp] at hq
      exact .inl ⟨rfl, (i + j) / 2 - i, by omega, rfl, hg', _, _, rfl, hs.down hij (by simpa using hp), hq.1, hq.2⟩
  · rw [if_neg hij] at hq
    have : i = j := by have := hs.2.1; omega
    subst this
    exact .inr ⟨hq.1, rfl, hg', i, hs.found, hq.2⟩
end Am.Pol
end

/- The stable sort: the plain law of a merge. -/
section
namespace Am.Pol
set_option maxRecDepth 100000

/-- Of equal times those of the one list have the lesser places. -/
def Bef (L : Nat → Nat) (s t : List Nat) : Prop := ∀ x ∈ s, ∀ y ∈ t, L x = L y → x < y

theorem SB.app {L : Nat → Nat} {s t : List Nat} (hs : SB L s) (ht : SB L t) (h : ∀ x ∈ s, ∀ y ∈ t, bf L x y) : SB L (s ++ t) := by
  unfold SB at *; rw [List.pairwise_append]; exact ⟨hs, ht, h⟩
theorem SB.fst {L : Nat → Nat} {s t : List Nat} (h : SB L (s ++ t)) : SB L s := by unfold SB at *; rw [List.pairwise_append] at h; exact h.1
theorem SB.snd {L : Nat → Nat} {s t : List Nat} (h : SB L (s ++ t)) : SB L t := by unfold SB at *; rw [List.pairwise_append] at h; exact h.2.1
theorem SB.cross {L : Nat → Nat} {s t : List Nat} (h : SB L (s ++ t)) : ∀ x ∈ s, ∀ y ∈ t, bf L x y := by unfold SB at *; rw [List.pairwise_append] at h; exact h.2.2
/-- The last one of a sorted list is the least. -/
theorem SB.last {L : Nat → Nat} {s : List Nat} {z : Nat} (h : SB L (s ++ [z])) : ∀ x ∈ s ++ [z], L z ≤ L x := by
  intro x hx
  rcases List.mem_append.1 hx with hx | hx
  · exact (h.cross x hx z (by simp)).le
  · simp at hx; subst hx; exact Nat.le_refl _
theorem SB.head {L : Nat → Nat} {s : List Nat} {z : Nat} (h : SB L (z :: s)) : ∀ x ∈ z :: s, L x ≤ L z := by
  intro x hx
  rcases List.mem_cons.1 hx with rfl | hx
  · exact Nat.le_refl _
  · exact ((List.pairwise_cons.1 h).1 x hx).le

theorem SB.left {L : Nat → Nat} {e : Nat} {y1 y2 : List Nat} (h : SB L (y1 ++ y2)) (hb : Bef L [e] (y1 ++ y2)) (h1 : ∀ y0 z, y1 = y0 ++ [z] → L e < L z) (h2 : ∀ z y0, y2 = z :: y0 → L z ≤ L e) : SB L (y1 ++ e :: y2) := by
  have a1 : ∀ y ∈ y1, L e < L y := by
    intro y hy
    have hne : y1 ≠ [] := by intro h; subst h; simp at hy
    obtain ⟨y0, z, rfl⟩ := eq_snoc hne
    have := h1 y0 z rfl
    have := h.fst.last y hy
    omega
  have a2 : ∀ y ∈ y2, bf L e y := by
    intro y hy
    refine bf.of ?_ (hb e (by simp) y (by simp [hy]))
    cases y2 with
    | nil => simp at hy
    | cons z y0 =>
      have := h2 z y0 rfl
      have := h.snd.head y hy
      omega
  refine h.fst.app (List.pairwise_cons.2 ⟨a2, h.snd⟩) ?_
  intro x hx y hy
  rcases List.mem_cons.1 hy with rfl | hy
  · exact .inl (a1 x hx)
  · exact h.cross x hx y hy

theorem SB.right {L : Nat → Nat} {e : Nat} {x1 x2 : List Nat} (h : SB L (x1 ++ x2)) (hb : Bef L (x1 ++ x2) [e]) (h1 : ∀ x0 z, x1 = x0 ++ [z] → L e ≤ L z) (h2 : ∀ z x0, x2 = z :: x0 → L z < L e) : SB L (x1 ++ e :: x2) := by
  refine h.ins (fun y hy => hb y (by simp [hy]) e (by simp)) ?_ h1
  intro y hy
  cases x2 with
  | nil => simp at hy
  | cons z x0 =>
    have := h2 z x0 rfl
    have := h.snd.head y hy
    omega

/-- Two runs, cut and put across. -/
theorem SB.across {L : Nat → Nat} {a1 l2 r1 r2 : List Nat} (hx : SB L (a1 ++ l2)) (hy : SB L (r1 ++ r2)) (hb : Bef L (a1 ++ l2) (r1 ++ r2))
    (k1 : ∀ z l0 r0 w, l2 = z :: l0 → r1 = r0 ++ [w] → L z < L w) (k2 : ∀ a0 z w r0, a1 = a0 ++ [z] → r2 = w :: r0 → L w ≤ L z) :
    ∀ u ∈ a1 ++ r1, ∀ v ∈ l2 ++ r2, bf L u v := by
  intro u hu v hv
  rcases List.mem_append.1 hu with hu | hu <;> rcases List.mem_append.1 hv with hv | hv
  · exact hx.cross u hu v hv
  · refine bf.of ?_ (hb u (by simp [hu]) v (by simp [hv]))
    have hne : a1 ≠ [] := by intro h; subst h; simp at hu
    obtain ⟨a0, z, rfl⟩ := eq_snoc hne
    cases r2 with
    | nil => simp at hv
    | cons w r0 =>
      have := k2 a0 z w r0 rfl rfl
      have := hx.fst.last u hu
      have := hy.snd.head v hv
      omega
  · have hne : r1 ≠ [] := by intro h; subst h; simp at hu
    obtain ⟨r0, w, rfl⟩ := eq_snoc hne
    cases l2 with
    | nil => simp at hv
    | cons z l0 =>
      have := k1 z l0 r0 w rfl rfl
      have := hy.fst.last u hu
      have := hx.snd.head v hv
      exact .inl (by omega)
  · exact hy.cross u hu v hv

theorem Bef.sub {L : Nat → Nat} {s t s' t' : List Nat} (h : Bef L s t) (hs : ∀ x ∈ s', x ∈ s) (ht : ∀ x ∈ t', x ∈ t) : Bef L s' t' := fun x hx y hy => h x (hs x hx) y (ht y hy)

/-- The two halves, sorted. -/
theorem SB.join {L : Nat → Nat} {z1 z2 s t : List Nat} (h1 : SB L z1) (h2 : SB L z2) (p1 : z1.Perm s) (p2 : z2.Perm t) (h : ∀ u ∈ s, ∀ v ∈ t, bf L u v) : SB L (z1 ++ z2) :=
  h1.app h2 fun u hu v hv => h u (p1.mem_iff.1 hu) v (p2.mem_iff.1 hv)

theorem getD_mid {p x q : List Nat} {i : Nat} (h : i < x.length) : (p ++ (x ++ q)).getD (p.length + i) 0 = x.getD i 0 := by
  simp only [List.getD_eq_getElem?_getD]
  rw [List.getElem?_append_right (by omega), Nat.add_sub_cancel_left, List.getElem?_append_left h]
theorem head_drop {x l : List Nat} {i z : Nat} (h : x.drop i = z :: l) : x.getD i 0 = z := by
  have : (x.drop i)[0]? = some z := by rw [h]; rfl
  rw [List.getElem?_drop] at this
  simp only [List.getD_eq_getElem?_getD]
  simpa using congrArg (fun o => o.getD 0) this
theorem last_take {x l : List Nat} {i z : Nat} (hi : i ≤ x.length) (h : x.take i = l ++ [z]) : 0 < i ∧ x.getD (i - 1) 0 = z := by
  have hl : (x.take i).length = i := by simp; omega
  have hp : 0 < i := by rw [← hl, h]; simp
  refine ⟨hp, ?_⟩
  have h1 : (x.take i)[i - 1]? = some z := by
    have : i - 1 = l.length := by have := congrArg List.length h; simp at this; omega
    rw [h, this]; simp
  rw [List.getElem?_take, if_pos (by omega)] at h1
  simp [List.getD_eq_getElem?_getD, h1]
end Am.Pol
end

/- The stable sort: symMerge's moves of one element. -/
section
namespace Am.Pol
open Am Go Am.Ir
set_option maxRecDepth 100000
attribute [local simp] ox oz kx kz og ogz kg kgz mo ai

theorem move0_round {O : Orc} {k : Nat} {bx : AVal} {r v n a m b i j : Nat} {d : List Nat} (hd : d.length = n) (hn : n < 900) (hi : i ≤ n) (hi0 : 0 < i)
    {f : Fr} {S : St} (hS : PL S r v d) (hf : SyF f r v n a m b k bx) (h10 : f.get 10 = .int .i64 (i : Int)) (h13 : f.get 13 = .int .i64 (j : Int)) :
    Post (evC O 1000 slices_symMergeCmpFunc_l2 f S) fun e f' T => SyF f' r v n a m b k bx ∧ f'.get 10 = .int .i64 (i : Int) ∧ if j < i - 1 then e = .normal ∧ PL T r v (sw d j (j + 1)) ∧ Off S T r ∧ f'.get 13 = .int .i64 ((j + 1 : Nat) : Int)
      else e = .exit 2 ∧ T = S := by
  obtain ⟨s0, s1, s2, s3, s4⟩ := hf
  have c1 : binA .sub (.int .i64 (i : Int)) (.int .i64 1) = some (.int .i64 ((i - 1 : Nat) : Int)) := sub_is (by omega) (by omega) (by omega)
  by_cases hij : j < i - 1
  rotate_left
  · have c0 : binA .lss (.int .i64 (j : Int)) (.int .i64 ((i - 1 : Nat) : Int)) = some (.bool false) := lss_f (by omega)
    simp only [if_neg hij]
    suffices hmid : Post (evC O 1000 slices_symMergeCmpFunc_l2 f S) (fun e f' T => f'.get 0 = .sl r v 0 n 1 ∧ f'.get 1 = .int .i64 (a : Int) ∧ f'.get 2 = .int .i64 (m : Int) ∧ f'.get 3 = .int .i64 (b : Int) ∧ f'.get 4 = .fn (.func k) [] [bx] ∧ f'.get 10 = .int .i64 (i : Int) ∧ e = .exit 2 ∧ T = S) by
      refine hmid.mono ?_
      rintro e f' T ⟨k2, k3, k4, k5, k6, k7⟩
      exact ⟨⟨k2, k3, k4, k5, k6⟩, k7⟩
    simp only [slices_symMergeCmpFunc_l2, Post_seq, Post_block]
    generalize ((i - 1 : Nat) : Int) = z1 at *
    simp [exM, orc, orcD, evF, evC, evOps, evOper, evAny, evOp, evCall, putR, putA, Fr.ev, Fr.of, Fr.get, Fr.set, stable, junkA, junkL, resultsA, resA, same, Fr.get_set, s0, s1, s2, s3, s4, h10, h13, c0, c1, Post_some]
  have c0 : binA .lss (.int .i64 (j : Int)) (.int .i64 ((i - 1 : Nat) : Int)) = some (.bool true) := lss_t (by omega)
  have c2 : binA .add (.int .i64 (j : Int)) (.int .i64 1) = some (.int .i64 ((j + 1 : Nat) : Int)) := add_is (by omega) (by omega) (by omega)
  have l1 := hS.load (i := j) (getD_some (by omega))
  have l2 := hS.load (i := j + 1) (getD_some (by omega))
  have p1 : iaddrSA 1 (.sl r v 0 n 1) (.int .i64 (j : Int)) = some (.ptr r v (0 + j * 1)) := by rw [iaS (by omega) (by omega), Int.toNat_natCast]
  have p2 : iaddrSA 1 (.sl r v 0 n 1) (.int .i64 ((j + 1 : Nat) : Int)) = some (.ptr r v (0 + (j + 1) * 1)) := by rw [iaS (by omega) (by omega), Int.toNat_natCast]
  obtain ⟨T, U, g1, g2, g3, g4⟩ := hS.swap (i := j) (j := j + 1) (by omega) (by omega)
  simp only [if_pos hij]
  suffices hmid : Post (evC O 1000 slices_symMergeCmpFunc_l2 f S) (fun e f' V => f'.get 0 = .sl r v 0 n 1 ∧ f'.get 1 = .int .i64 (a : Int) ∧ f'.get 2 = .int .i64 (m : Int) ∧ f'.get 3 = .int .i64 (b : Int) ∧ f'.get 4 = .fn (.func k) [] [bx] ∧ f'.get 10 = .int .i64 (i : Int) ∧ e = .normal ∧ V = U ∧ f'.get 13 = .int .i64 ((j + 1 : Nat) : Int)) by
    refine hmid.mono ?_
    rintro e f' V ⟨k2, k3, k4, k5, k6, k7, k8, rfl, k9⟩
    exact ⟨⟨k2, k3, k4, k5, k6⟩, k7, k8, g3, g4, k9⟩
  simp only [slices_symMergeCmpFunc_l2, Post_seq, Post_block]
  generalize ((i - 1 : Nat) : Int) = z1 at *
  generalize ((j + 1 : Nat) : Int) = z2 at *
  generalize (0 + j * 1) = o1 at *
  generalize (0 + (j + 1) * 1) = o2 at *
  generalize ((d.getD j 0 : Nat) : Int) = x1 at *
  generalize ((d.getD (j + 1) 0 : Nat) : Int) = x2 at *
  simp [exM, orc, orcD, evF, evC, evOps, evOper, evAny, evOp, evCall, putR, putA, Fr.ev, Fr.of, Fr.get, Fr.set, stable, junkA, junkL, resultsA, resA, same, Fr.get_set, s0, s1, s2, s3, s4, h10, h13, c0, c1, c2, p1, p2, l1, l2, g1, g2, Post_some]

theorem move0 {O : Orc} {k : Nat} {bx : AVal} {r v n m b i e : Nat} {p y q : List Nat} (hd : (p ++ e :: (y ++ q)).length = n) (hn : n < 900) (hi : p.length < i) (hi' : i - 1 - p.length ≤ y.length)
    {f : Fr} {S : St} (hS : PL S r v (p ++ e :: (y ++ q))) (hf : SyF f r v n p.length m b k bx) (h10 : f.get 10 = .int .i64 (i : Int)) (h13 : f.get 13 = .int .i64 (p.length : Int)) :
    ∃ f' T, evC O 1000 slices_symMergeCmpFunc_s3 f S = some (.normal, f', T) ∧ PL T r v (p ++ (y.take (i - 1 - p.length) ++ e :: (y.drop (i - 1 - p.length) ++ q))) ∧ Off S T r := by
  refine loop_meas (O := O) (k := 1000) (id := 2) (b := slices_symMergeCmpFunc_l2)
    (I := fun c g T => SyF g r v n p.length m b k bx ∧ g.get 10 = .int .i64 (i : Int) ∧ Off S T r ∧ ∃ ya yb, y = ya ++ yb ∧ ya.length + c = i - 1 - p.length ∧ PL T r v (p ++ (ya ++ e :: (yb ++ q))) ∧ g.get 13 = .int .i64 ((p.length + ya.length : Nat) : Int))
    ?_ (m := i - 1 - p.length) (by simp at hd; omega) ⟨hf, h10, Off.refl S r, [], y, rfl, by simp, by simpa using hS, h13⟩
  rintro c g T ⟨hg, g10, hO, ya, yb, rfl, hc, hT, g13⟩
  have hd' : (p ++ (ya ++ e :: (yb ++ q))).length = n := by simp at hd ⊢; omega
  refine (move0_round hd' hn (by simp at hd hi'; omega) (by omega) hT hg g10 g13).mono ?_
  rintro x f' U ⟨hg', g10', hq⟩
  by_cases h : p.length + ya.length < i - 1
  · rw [if_pos h] at hq
    obtain ⟨rfl, h1, h2, h3⟩ := hq
    cases yb with
    | nil => simp at hi'; omega
    | cons w yb =>
      have hsw : sw (p ++ (ya ++ e :: ((w :: yb) ++ q))) (p.length + ya.length) (p.length + ya.length + 1) = p ++ ((ya ++ [w]) ++ e :: (yb ++ q)) := by
        have := sw_dn (p ++ ya) (yb ++ q) e w
        simpa [Nat.add_assoc] using this
      rw [hsw] at h1
      exact .inl ⟨rfl, c - 1, by omega, hg', g10', hO.trans h2, ya ++ [w], yb, by simp, by simp; omega, h1, by rw [h3]; congr 2; simp; omega⟩
  · rw [if_neg h] at hq
    obtain ⟨rfl, rfl⟩ := hq
    have h0 : ya.length = i - 1 - p.length := by omega
    refine .inr ⟨rfl, ?_, hO⟩
    rw [← h0, List.take_left' rfl, List.drop_left' rfl]
    exact hT

theorem move1_round {O : Orc} {k : Nat} {bx : AVal} {r v n a m b i j : Nat} {d : List Nat} (hd : d.length = n) (hn : n < 900) (hj : j < n)
    {f : Fr} {S : St} (hS : PL S r v d) (hf : SyF f r v n a m b k bx) (h14 : f.get 14 = .int .i64 (i : Int)) (h17 : f.get 17 = .int .i64 (j : Int)) :
    Post (evC O 1000 slices_symMergeCmpFunc_l9 f S) fun e f' T => SyF f' r v n a m b k bx ∧ f'.get 14 = .int .i64 (i : Int) ∧ if i < j then e = .normal ∧ PL T r v (sw d j (j - 1)) ∧ Off S T r ∧ f'.get 17 = .int .i64 ((j - 1 : Nat) : Int)
      else e = .exit 6 ∧ T = S := by
  obtain ⟨s0, s1, s2, s3, s4⟩ := hf
  by_cases hij : i < j
  rotate_left
  · have c0 : binA .gtr (.int .i64 (j : Int)) (.int .i64 (i : Int)) = some (.bool false) := gtr_f (by omega)
    simp only [if_neg hij]
    suffices hmid : Post (evC O 1000 slices_symMergeCmpFunc_l9 f S) (fun e f' T => f'.get 0 = .sl r v 0 n 1 ∧ f'.get 1 = .int .i64 (a : Int) ∧ f'.get 2 = .int .i64 (m : Int) ∧ f'.get 3 = .int .i64 (b : Int) ∧ f'.get 4 = .fn (.func k) [] [bx] ∧ f'.get 14 = .int .i64 (i : Int) ∧ e = .exit 6 ∧ T = S) by
      refine hmid.mono ?_
      rintro e f' T ⟨k2, k3, k4, k5, k6, k7⟩
      exact ⟨⟨k2, k3, k4, k5, k6⟩, k7⟩
    simp only [slices_symMergeCmpFunc_l9, Post_seq, Post_block]
    simp [exM, orc, orcD, evF, evC, evOps, evOper, evAny, evOp, evCall, putR, putA, Fr.ev, Fr.of, Fr.get, Fr.set, stable, junkA, junkL, resultsA, resA, same, Fr.get_set, s0, s1, s2, s3, s4, h14, h17, c0, Post_some]
  have c0 : binA .gtr (.int .i64 (j : Int)) (.int .i64 (i : Int)) = some (.bool true) := gtr_t (by omega)
  have c2 : binA .sub (.int .i64 (j : Int)) (.int .i64 1) = some (.int .i64 ((j - 1 : Nat) : Int)) := sub_is (by omega) (by omega) (by omega)
  have l1 := hS.load (i := j) (getD_some (by omega))
  have l2 := hS.load (i := j - 1) (getD_some (by omega))
  have p1 : iaddrSA 1 (.sl r v 0 n 1) (.int .i64 (j : Int)) = some (.ptr r v (0 + j * 1)) := by rw [iaS (by omega) (by omega), Int.toNat_natCast]
  have p2 : iaddrSA 1 (.sl r v 0 n 1) (.int .i64 ((j - 1 : Nat) : Int)) = some (.ptr r v (0 + (j - 1) * 1)) := by rw [iaS (by omega) (by omega), Int.toNat_natCast]
  obtain ⟨T, U, g1, g2, g3, g4⟩ := hS.swap (i := j) (j := j - 1) (by omega) (by omega)
  simp only [if_pos hij]
  suffices hmid : Post (evC O 1000 slices_symMergeCmpFunc_l9 f S) (fun e f' V => f'.get 0 = .sl r v 0 n 1 ∧ f'.get 1 = .int .i64 (a : Int) ∧ f'.get 2 = .int .i64 (m : Int) ∧ f'.get 3 = .int .i64 (b : Int) ∧ f'.get 4 = .fn (.func k) [] [bx] ∧ f'.get 14 = .int .i64 (i : Int) ∧ e = .normal ∧ V = U ∧ f'.get 17 = .int .i64 ((j - 1 : Nat) : Int)) by
    refine hmid.mono ?_
    rintro e f' V ⟨k2, k3, k4, k5, k6, k7, k8, rfl, k9⟩
    exact ⟨⟨k2, k3, k4, k5, k6⟩, k7, k8, g3, g4, k9⟩
  simp only [slices_symMergeCmpFunc_l9, Post_seq, Post_block]
  generalize ((j - 1 : Nat) : Int) = z2 at *
  generalize (0 + j * 1) = o1 at *
  generalize (0 + (j - 1) * 1) = o2 at *
  generalize ((d.getD j 0 : Nat) : Int) = x1 at *
  generalize ((d.getD (j - 1) 0 : Nat) : Int) = x2 at *
  simp [exM, orc, orcD, evF, evC, evOps, evOper, evAny, evOp, evCall, putR, putA, Fr.ev, Fr.of, Fr.get, Fr.set, stable, junkA, junkL, resultsA, resA, same, Fr.get_set, s0, s1, s2, s3, s4, h14, h17, c0, c2, p1, p2, l1, l2, g1, g2, Post_some]

theorem move1 {O : Orc} {k : Nat} {bx : AVal} {r v n a b i e : Nat} {p x q : List Nat} (hd : (p ++ (x ++ e :: q)).length = n) (hn : n < 900) (hi : p.length ≤ i) (hi' : i - p.length ≤ x.length)
    {f : Fr} {S : St} (hS : PL S r v (p ++ (x ++ e :: q))) (hf : SyF f r v n a (p.length + x.length) b k bx) (h14 : f.get 14 = .int .i64 (i : Int)) (h17 : f.get 17 = .int .i64 ((p.length + x.length : Nat) : Int)) :
    ∃ f' T, evC O 1000 slices_symMergeCmpFunc_s10 f S = some (.normal, f', T) ∧ PL T r v (p ++ (x.take (i - p.length) ++ e :: (x.drop (i - p.length) ++ q))) ∧ Off S T r := by
  refine loop_meas (O := O) (k := 1000) (id := 6) (b := slices_symMergeCmpFunc_l9)
    (I := fun c g T => SyF g r v n a (p.length + x.length) b k bx ∧ g.get 14 = .int .i64 (i : Int) ∧ Off S T r ∧ ∃ xa xb, x = xa ++ xb ∧ xa.length = i - p.length + c ∧ PL T r v (p ++ (xa ++ e :: (xb ++ q))) ∧ g.get 17 = .int .i64 ((p.length + xa.length : Nat) : Int))
    ?_ (m := x.length - (i - p.length)) (by simp at hd; omega) ⟨hf, h14, Off.refl S r, x, [], by simp, by omega, by simpa using hS, h17⟩
  rintro c g T ⟨hg, g14, hO, xa, xb, rfl, hc, hT, g17⟩
  have hd' : (p ++ (xa ++ e :: (xb ++ q))).length = n := by simp at hd ⊢; omega
  refine (move1_round hd' hn (by simp at hd'; omega) hT hg g14 g17).mono ?_
  rintro y f' U ⟨hg', g14', hq⟩
  by_cases h : i < p.length + xa.length
  · rw [if_pos h] at hq
    obtain ⟨rfl, h1, h2, h3⟩ := hq
    have hne : xa ≠ [] := by intro h0; subst h0; simp at hc h; omega
    obtain ⟨x0, w, rfl⟩ := eq_snoc hne
    have hw : (x0 ++ [w]).length = x0.length + 1 := by simp
    have hsw : sw (p ++ ((x0 ++ [w]) ++ e :: (xb ++ q))) (p.length + (x0 ++ [w]).length) (p.length + (x0 ++ [w]).length - 1) = p ++ (x0 ++ e :: ((w :: xb) ++ q)) := by
      have := sw_up (p ++ x0) (xb ++ q) w e
      simpa [Nat.add_assoc] using this
    rw [hsw] at h1
    refine .inl ⟨rfl, c - 1, by omega, hg', g14', hO.trans h2, x0, w :: xb, by simp, by omega, h1, ?_⟩
    rw [h3]; congr 2; simp
  · rw [if_neg h] at hq
    obtain ⟨rfl, rfl⟩ := hq
    have h0 : xa.length = i - p.length := by omega
    refine .inr ⟨rfl, ?_, hO⟩
    rw [← h0, List.take_left' rfl, List.drop_left' rfl]
    exact hT
end Am.Pol
end

/- The stable sort: symMerge's other searches. -/
section
namespace Am.Pol
open Am Go Am.Ir
set_option maxRecDepth 100000
attribute [local simp] ox oz kx kz og ogz kg kgz mo ai

theorem seek1_round {O : Orc} {k : Nat} {bx : AVal} {P : St → Prop} {r v n a m b i j : Nat} {lt : Nat → Nat → Bool} {d : List Nat} (hC : Cm O.dyn k bx P r n lt) (hd : d.length = n) (hlt : Lt d n) (hn : n < 900) (hm : m < n) (hj : j ≤ n)
    {f : Fr} {S : St} (hP : P S) (hS : PL S r v d) (hf : SyF f r v n a m b k bx) (h14 : f.get 14 = .int .i64 (i : Int)) (h15 : f.get 15 = .int .i64 (j : Int)) :
    Post (evC O 1000 slices_symMergeCmpFunc_l7 f S) fun e f' T => T = S ∧ SyF f' r v n a m b k bx ∧
      if i < j then e = .normal ∧ (if lt (d.getD m 0) (d.getD ((i + j) / 2) 0) = false then f'.get 14 = .int .i64 (((i + j) / 2 + 1 : Nat) : Int) ∧ f'.get 15 = .int .i64 (j : Int) else f'.get 14 = .int .i64 (i : Int) ∧ f'.get 15 = .int .i64 (((i + j) / 2 : Nat) : Int))
      else e = .exit 4 ∧ f'.get 14 = .int .i64 (i : Int) := by
  obtain ⟨s0, s1, s2, s3, s4⟩ := hf
  by_cases hij : i < j
  rotate_left
  · have c0 : binA .lss (.int .i64 (i : Int)) (.int .i64 (j : Int)) = some (.bool false) := lss_f (by omega)
    simp only [if_neg hij]
    suffices hmid : Post (evC O 1000 slices_symMergeCmpFunc_l7 f S) (fun e f' T => T = S ∧ f'.get 0 = .sl r v 0 n 1 ∧ f'.get 1 = .int .i64 (a : Int) ∧ f'.get 2 = .int .i64 (m : Int) ∧ f'.get 3 = .int .i64 (b : Int) ∧ f'.get 4 = .fn (.func k) [] [bx] ∧ e = .exit 4 ∧ f'.get 14 = .int .i64 (i : Int)) by
      refine hmid.mono ?_
      rintro e f' T ⟨k1, k2, k3, k4, k5, k6, k7⟩
      exact ⟨k1, ⟨k2, k3, k4, k5, k6⟩, k7⟩
    simp only [slices_symMergeCmpFunc_l7, Post_seq, Post_block]
    simp [exM, orc, orcD, evF, evC, evOps, evOper, evAny, evOp, evCall, putR, putA, Fr.ev, Fr.of, Fr.get, Fr.set, stable, junkA, junkL, resultsA, resA, same, unA, Fr.get_set, s0, s1, s2, s3, s4, h14, h15, c0, Post_some]
  have c0 : binA .lss (.int .i64 (i : Int)) (.int .i64 (j : Int)) = some (.bool true) := lss_t (by omega)
  obtain ⟨e1, e2, e3, e4, e5⟩ := half i j (by omega)
  have l1 := hS.load (i := (i + j) / 2) (getD_some (by omega))
  have l2 := hS.load (i := m) (getD_some (by omega))
  have p1 : iaddrSA 1 (.sl r v 0 n 1) (.int .i64 (((i + j) / 2 : Nat) : Int)) = some (.ptr r v (0 + (i + j) / 2 * 1)) := by rw [iaS (by omega) (by omega), Int.toNat_natCast]
  have p2 : iaddrSA 1 (.sl r v 0 n 1) (.int .i64 (m : Int)) = some (.ptr r v (0 + m * 1)) := by rw [iaS (by omega) (by omega), Int.toNat_natCast]
  obtain ⟨z, hz, hl⟩ := hC.call S hP (d.getD m 0) (d.getD ((i + j) / 2) 0) (hlt.get (by omega)) (hlt.get (by omega))
  rw [hl]
  simp only [if_pos hij]
  suffices hmid : Post (evC O 1000 slices_symMergeCmpFunc_l7 f S) (fun e f' T => T = S ∧ f'.get 0 = .sl r v 0 n 1 ∧ f'.get 1 = .int .i64 (a : Int) ∧ f'.get 2 = .int .i64 (m : Int) ∧ f'.get 3 = .int .i64 (b : Int) ∧ f'.get 4 = .fn (.func k) [] [bx] ∧ e = .normal ∧
      if ¬ z < 0 then f'.get 14 = .int .i64 (((i + j) / 2 + 1 : Nat) : Int) ∧ f'.get 15 = .int .i64 (j : Int) else f'.get 14 = .int .i64 (i : Int) ∧ f'.get 15 = .int .i64 (((i + j) / 2 : Nat) : Int)) by
    refine hmid.mono ?_
    rintro e f' T ⟨k1, k2, k3, k4, k5, k6, k7, k8⟩
    exact ⟨k1, ⟨k2, k3, k4, k5, k6⟩, k7, by simpa using k8⟩
  generalize (((i + j) / 2 + 1 : Nat) : Int) = z1 at *
  generalize (((i + j) / 2 : Nat) : Int) = z2 at *
  generalize ((i + j : Nat) : Int) = z3 at *
  generalize (0 + (i + j) / 2 * 1) = o1 at *
  generalize (0 + m * 1) = o2 at *
  generalize ((d.getD ((i + j) / 2) 0 : Nat) : Int) = x1 at *
  generalize ((d.getD m 0 : Nat) : Int) = x2 at *
  simp only [slices_symMergeCmpFunc_l7, Post_seq, Post_block]
  by_cases hzz : z < 0
  · have c2 : binA .lss (.int .i64 z) (.int .i64 0) = some (.bool true) := lss_t hzz
    simp [exM, orc, orcD, evF, evC, evOps, evOper, evAny, evOp, evCall, putR, putA, Fr.ev, Fr.of, Fr.get, Fr.set, stable, junkA, junkL, resultsA, resA, same, unA, Fr.get_set, s0, s1, s2, s3, s4, h14, h15, c0, c2, e1, e2, e3, e4, e5, p1, p2, l1, l2, hz, hzz, Post_some]
  · have c2 : binA .lss (.int .i64 z) (.int .i64 0) = some (.bool false) := lss_f (by omega)
    simp [exM, orc, orcD, evF, evC, evOps, evOper, evAny, evOp, evCall, putR, putA, Fr.ev, Fr.of, Fr.get, Fr.set, stable, junkA, junkL, resultsA, resA, same, unA, Fr.get_set, s0, s1, s2, s3, s4, h14, h15, c0, c2, e1, e2, e3, e4, e5, p1, p2, l1, l2, hz, hzz, Post_some]

theorem seek1 {O : Orc} {k : Nat} {bx : AVal} {P : St → Prop} {r v n a m b lo hi : Nat} {lt : Nat → Nat → Bool} {d : List Nat} (hC : Cm O.dyn k bx P r n lt) (hd : d.length = n) (hlt : Lt d n) (hn : n < 900) (hm : m < n) (hlh : lo ≤ hi) (hj : hi ≤ n)
    {f : Fr} {S : St} (hP : P S) (hS : PL S r v d) (hf : SyF f r v n a m b k bx) (h14 : f.get 14 = .int .i64 (lo : Int)) (h15 : f.get 15 = .int .i64 (hi : Int)) :
    ∃ f' T, evC O 1000 slices_symMergeCmpFunc_s8 f S = some (.normal, f', T) ∧ T = S ∧ SyF f' r v n a m b k bx ∧ ∃ i, Found (fun h => !lt (d.getD m 0) (d.getD h 0)) lo hi i ∧ f'.get 14 = .int .i64 (i : Int) := by
  refine loop_meas (O := O) (k := 1000) (id := 4) (b := slices_symMergeCmpFunc_l7)
    (I := fun c g T => T = S ∧ SyF g r v n a m b k bx ∧ ∃ i j, c = j - i ∧ Seek (fun h => !lt (d.getD m 0) (d.getD h 0)) lo hi i j ∧ g.get 14 = .int .i64 (i : Int) ∧ g.get 15 = .int .i64 (j : Int))
    ?_ (m := hi - lo) (by omega) ⟨rfl, hf, lo, hi, rfl, ⟨by omega, by omega, by omega, .inl rfl, .inl rfl⟩, h14, h15⟩
  rintro c g T ⟨rfl, hg, i, j, rfl, hs, g14, g15⟩
  refine (seek1_round hC hd hlt hn hm (by have := hs.2.2.1; omega) hP hS hg g14 g15).mono ?_
  rintro e f' U ⟨rfl, hg', hq⟩
  by_cases hij : i < j
  · rw [if_pos hij] at hq
    obtain ⟨rfl, hq⟩ := hq
    by_cases hp : lt (d.getD m 0) (d.getD ((i + j) / 2) 0) = false
    · rw [if_pos hp] at hq
      exact .inl ⟨rfl, j - ((i + j) / 2 + 1), by omega, rfl, hg', _, _, rfl, hs.up hij (by simpa using hp), hq.1, hq.2⟩
    · rw [if_neg hp] at hq
      exact .inl ⟨rfl, (i + j) / 2 - i, by omega, rfl, hg', _, _, rfl, hs.down hij (by simpa using hp), hq.1, hq.2⟩
  · rw [if_neg hij] at hq
    have : i = j := by have := hs.2.1; omega
    subst this
    exact .inr ⟨hq.1, rfl, hg', i, hs.found, hq.2⟩
theorem seek2_round {O : Orc} {k : Nat} {bx : AVal} {P : St → Prop} {r v n a m b i j t md nn : Nat} {lt : Nat → Nat → Bool} {d : List Nat} (hC : Cm O.dyn k bx P r n lt) (hd : d.length = n) (hlt : Lt d n) (hn : n < 900) (ht : t < i + n) (htj : j ≤ t + 1) (ht0 : t < 1000000) (hj : j ≤ n)
    {f : Fr} {S : St} (hP : P S) (hS : PL S r v d) (hf : SyF f r v n a m b k bx) (h18 : f.get 18 = .int .i64 (md : Int)) (h19 : f.get 19 = .int .i64 (nn : Int)) (h22 : f.get 22 = .int .i64 (t : Int)) (h20 : f.get 20 = .int .i64 (i : Int)) (h21 : f.get 21 = .int .i64 (j : Int)) :
    Post (evC O 1000 slices_symMergeCmpFunc_l14 f S) fun e f' T => T = S ∧ SyF f' r v n a m b k bx ∧ (f'.get 18 = .int .i64 (md : Int) ∧ f'.get 19 = .int .i64 (nn : Int) ∧ f'.get 22 = .int .i64 (t : Int)) ∧
      if i < j then e = .normal ∧ (if lt (d.getD (t - (i + j) / 2) 0) (d.getD ((i + j) / 2) 0) = false then f'.get 20 = .int .i64 (((i + j) / 2 + 1 : Nat) : Int) ∧ f'.get 21 = .int .i64 (j : Int) else f'.get 20 = .int .i64 (i : Int) ∧ f'.get 21 = .int .i64 (((i + j) / 2 : Nat) : Int))
      else e = .exit 8 ∧ f'.get 20 = .int .i64 (i : Int) := by
  obtain ⟨s0, s1, s2, s3, s4⟩ := hf
  by_cases hij : i < j
  rotate_left
  · have c0 : binA .lss (.int .i64 (i : Int)) (.int .i64 (j : Int)) = some (.bool false) := lss_f (by omega)
    simp only [if_neg hij]
    suffices hmid : Post (evC O 1000 slices_symMergeCmpFunc_l14 f S) (fun e f' T => T = S ∧ f'.get 0 = .sl r v 0 n 1 ∧ f'.get 1 = .int .i64 (a : Int) ∧ f'.get 2 = .int .i64 (m : Int) ∧ f'.get 3 = .int .i64 (b : Int) ∧ f'.get 4 = .fn (.func k) [] [bx] ∧ (f'.get 18 = .int .i64 (md : Int) ∧ f'.get 19 = .int .i64 (nn : Int) ∧ f'.get 22 = .int .i64 (t : Int)) ∧ e = .exit 8 ∧ f'.get 20 = .int .i64 (i : Int)) by
      refine hmid.mono ?_
      rintro e f' T ⟨k1, k2, k3, k4, k5, k6, kx, k7⟩
      exact ⟨k1, ⟨k2, k3, k4, k5, k6⟩, kx, k7⟩
    simp only [slices_symMergeCmpFunc_l14, Post_seq, Post_block]
    simp [exM, orc, orcD, evF, evC, evOps, evOper, evAny, evOp, evCall, putR, putA, Fr.ev, Fr.of, Fr.get, Fr.set, stable, junkA, junkL, resultsA, resA, same, unA, Fr.get_set, s0, s1, s2, s3, s4, h18, h19, h22, h20, h21, c0, Post_some]
  have c0 : binA .lss (.int .i64 (i : Int)) (.int .i64 (j : Int)) = some (.bool true) := lss_t (by omega)
  obtain ⟨e1, e2, e3, e4, e5⟩ := half i j (by omega)
  have l1 := hS.load (i := (i + j) / 2) (getD_some (by omega))
  have l2 := hS.load (i := t - (i + j) / 2) (getD_some (by omega))
  have p1 : iaddrSA 1 (.sl r v 0 n 1) (.int .i64 (((i + j) / 2 : Nat) : Int)) = some (.ptr r v (0 + (i + j) / 2 * 1)) := by rw [iaS (by omega) (by omega), Int.toNat_natCast]
  have e6 : binA .sub (.int .i64 (t : Int)) (.int .i64 (((i + j) / 2 : Nat) : Int)) = some (.int .i64 ((t - (i + j) / 2 : Nat) : Int)) := sub_is (by omega) (by omega) (by omega)
  have p2 : iaddrSA 1 (.sl r v 0 n 1) (.int .i64 ((t - (i + j) / 2 : Nat) : Int)) = some (.ptr r v (0 + (t - (i + j) / 2) * 1)) := by rw [iaS (by omega) (by omega), Int.toNat_natCast]
  obtain ⟨z, hz, hl⟩ := hC.call S hP (d.getD (t - (i + j) / 2) 0) (d.getD ((i + j) / 2) 0) (hlt.get (by omega)) (hlt.get (by omega))
  rw [hl]
  simp only [if_pos hij]
  suffices hmid : Post (evC O 1000 slices_symMergeCmpFunc_l14 f S) (fun e f' T => T = S ∧ f'.get 0 = .sl r v 0 n 1 ∧ f'.get 1 = .int .i64 (a : Int) ∧ f'.get 2 = .int .i64 (m : Int) ∧ f'.get 3 = .int .i64 (b : Int) ∧ f'.get 4 = .fn (.func k) [] [bx] ∧ (f'.get 18 = .int .i64 (md : Int) ∧ f'.get 19 = .int .i64 (nn : Int) ∧ f'.get 22 = .int .i64 (t : Int)) ∧ e = .normal ∧
      if ¬ z < 0 then f'.get 20 = .int .i64 (((i + j) / 2 + 1 : Nat) : Int) ∧ f'.get 21 = .int .i64 (j : Int) else f'.get 20 = .int .i64 (i : Int) ∧ f'.get 21 = .int .i64 (((i + j) / 2 : Nat) : Int)) by
    refine hmid.mono ?_
    rintro e f' T ⟨k1, k2, k3, k4, k5, k6, kx, k7, k8⟩
    exact ⟨k1, ⟨k2, k3, k4, k5, k6⟩, kx, k7, by simpa using k8⟩
  generalize ((t - (i + j) / 2 : Nat) : Int) = z0 at *
  generalize (((i + j) / 2 + 1 : Nat) : Int) = z1 at *
  generalize (((i + j) / 2 : Nat) : Int) = z2 at *
  generalize ((i + j : Nat) : Int) = z3 at *
  generalize (0 + (i + j) / 2 * 1) = o1 at *
  generalize (0 + (t - (i + j) / 2) * 1) = o2 at *
  generalize ((d.getD ((i + j) / 2) 0 : Nat) : Int) = x1 at *
  generalize ((d.getD (t - (i + j) / 2) 0 : Nat) : Int) = x2 at *
  simp only [slices_symMergeCmpFunc_l14, Post_seq, Post_block]
  by_cases hzz : z < 0
  · have c2 : binA .lss (.int .i64 z) (.int .i64 0) = some (.bool true) := lss_t hzz
    simp [exM, orc, orcD, evF, evC, evOps, evOper, evAny, evOp, evCall, putR, putA, Fr.ev, Fr.of, Fr.get, Fr.set, stable, junkA, junkL, resultsA, resA, same, unA, Fr.get_set, s0, s1, s2, s3, s4, h18, h19, h22, h20, h21, c0, c2, e1, e2, e3, e4, e5, e6, p1, p2, l1, l2, hz, hzz, Post_some]
  · have c2 : binA .lss (.int .i64 z) (.int .i64 0) = some (.bool false) := lss_f (by omega)
    simp [exM, orc, orcD, evF, evC, evOps, evOper, evAny, evOp, evCall, putR, putA, Fr.ev, Fr.of, Fr.get, Fr.set, stable, junkA, junkL, resultsA, resA, same, unA, Fr.get_set, s0, s1, s2, s3, s4, h18, h19, h22, h20, h21, c0, c2, e1, e2, e3, e4, e5, e6, p1, p2, l1, l2, hz, hzz, Post_some]

theorem seek2 {O : Orc} {k : Nat} {bx : AVal} {P : St → Prop} {r v n a m b lo hi t md nn : Nat} {lt : Nat → Nat → Bool} {d : List Nat} (hC : Cm O.dyn k bx P r n lt) (hd : d.length = n) (hlt : Lt d n) (hn : n < 900) (ht : t < lo + n) (htj : hi ≤ t + 1) (ht0 : t < 1000000) (hlh : lo ≤ hi) (hj : hi ≤ n)
    {f : Fr} {S : St} (hP : P S) (hS : PL S r v d) (hf : SyF f r v n a m b k bx) (h18 : f.get 18 = .int .i64 (md : Int)) (h19 : f.get 19 = .int .i64 (nn : Int)) (h22 : f.get 22 = .int .i64 (t : Int)) (h20 : f.get 20 = .int .i64 (lo : Int)) (h21 : f.get 21 = .int .i64 (hi : Int)) :
    ∃ f' T, evC O 1000 slices_symMergeCmpFunc_s15 f S = some (.normal, f', T) ∧ T = S ∧ SyF f' r v n a m b k bx ∧ (f'.get 18 = .int .i64 (md : Int) ∧ f'.get 19 = .int .i64 (nn : Int) ∧ f'.get 22 = .int .i64 (t : Int)) ∧ ∃ i, Found (fun h => !lt (d.getD (t - h) 0) (d.getD h 0)) lo hi i ∧ f'.get 20 = .int .i64 (i : Int) := by
  refine loop_meas (O := O) (k := 1000) (id := 8) (b := slices_symMergeCmpFunc_l14)
    (I := fun c g T => T = S ∧ SyF g r v n a m b k bx ∧ (g.get 18 = .int .i64 (md : Int) ∧ g.get 19 = .int .i64 (nn : Int) ∧ g.get 22 = .int .i64 (t : Int)) ∧ ∃ i j, c = j - i ∧ Seek (fun h => !lt (d.getD (t - h) 0) (d.getD h 0)) lo hi i j ∧ g.get 20 = .int .i64 (i : Int) ∧ g.get 21 = .int .i64 (j : Int))
    ?_ (m := hi - lo) (by omega) ⟨rfl, hf, ⟨h18, h19, h22⟩, lo, hi, rfl, ⟨by omega, by omega, by omega, .inl rfl, .inl rfl⟩, h20, h21⟩
  rintro c g T ⟨rfl, hg, ⟨g18, g19, g22⟩, i, j, rfl, hs, g20, g21⟩
  refine (seek2_round hC hd hlt hn (by have := hs.1; omega) (by have := hs.2.2.1; omega) ht0 (by have := hs.2.2.1; omega) hP hS hg g18 g19 g22 g20 g21).mono ?_
  rintro e f' U ⟨rfl, hg', hx, hq⟩
  by_cases hij : i < j
  · rw [if_pos hij] at hq
    obtain ⟨rfl, hq⟩ := hq
    by_cases hp : lt (d.getD (t - (i + j) / 2) 0) (d.getD ((i + j) / 2) 0) = false
    · rw [if_pos hp] at hq
      exact .inl ⟨rfl, j - ((i + j) / 2 + 1), by omega, rfl, hg', hx, _, _, rfl, hs.up hij (by simpa using hp), hq.1, hq.2⟩
    · rw [if_neg hp] at hq
      exact .inl ⟨rfl, (i + j) / 2 - i, by omega, rfl, hg', hx, _, _, rfl, hs.down hij (by simpa using hp), hq.1, hq.2⟩
  · rw [if_neg hij] at hq
    have : i = j := by have := hs.2.1; omega
    subst this
    exact .inr ⟨hq.1, rfl, hg', hx, i, hs.found, hq.2⟩
end Am.Pol
end

