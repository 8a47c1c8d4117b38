import Derived.Test.YtgbifohffmdgeaaDoorAmPu4
import Derived.Test.YtgbifohffmdgeaaDoorAmPk1
import Derived.Lib.AppendIntMem
import Derived.Test.YtgbifohffmdgeaaDoorAmIrPolD
import Derived.Test.YtgbifohffmdgeaaDoorAmPolSD
import Derived.Test.YtgbifohffmdgeaaDoorAmTop
import Derived.Handed
import Derived.LaidLaws
import Derived.LaidHandle
set_option linter.all false
/- Texts: a list of texts in the program's memory. -/
section
namespace Am.Pol
open Am Go Go.RowKit
variable {P : Program} {W : World} {κ : Kap} {S : St} {w : World}

theorem sl_own (h : Rel W κ S w) {r v n : Nat} {cs : List AVal} (hS : S[r]? = some (.live v cs)) (hn : 0 < n) {y : Value} (hy : VRel κ (.sl r v 0 n 1) y) :
    ∃ i c, y = .slice (some ⟨i.blk, i.base, none⟩) n c ∧ n ≤ c ∧ κ.blocks[r]? = some i ∧ i.blk < w.heap.size := by
  cases hy with
  | sl _ _ _ _ _ i a c hr hv hc hh =>
    obtain ⟨a1, a2, a3, arr, e, fr, a4, _⟩ := h.own r v cs i hS hr
    obtain ⟨_, g | g⟩ := hh a1.symm
    · omega
    · rw [Nat.add_zero] at g
      exact ⟨i, c, by rw [g], hc, hr, (Array.getElem?_eq_some_iff.1 a4).1⟩

def toBytes (l : List UInt8) : ByteArray := ⟨l.toArray⟩
theorem texts_at (h : Rel W κ S w) {r v : Nat} {xs : List (List UInt8)} (hS : S[r]? = some (.live v (strC xs))) (hn : 0 < xs.length) {y : Value} (hy : VRel κ (.sl r v 0 xs.length 1) y) :
    ∃ bk o c, y = .slice (some ⟨bk, o, none⟩) (xs.map toBytes).length c ∧ (xs.map toBytes).length ≤ c ∧ bk < w.heap.size ∧ ∀ (j : Nat) x, (xs.map toBytes)[j]? = some x → w.cell? ⟨bk, o + j, none⟩ = some (.string x) := by
  obtain ⟨i, c, rfl, hc, hi, hb⟩ := sl_own h hS hn hy
  obtain ⟨ys, h1, _, h3⟩ := h.cells hS hi
  refine ⟨i.blk, i.base, c, by simp, by simpa using hc, hb, fun j x hx => ?_⟩
  rw [List.getElem?_map] at hx
  cases hl : xs[j]? with
  | none => rw [hl] at hx; cases hx
  | some l =>
    rw [hl] at hx
    have hx : toBytes l = x := Option.some.inj hx
    have hj : j < ys.length := by
      rw [← h1.1]
      have := (List.getElem?_eq_some_iff.1 hl).1
      simpa [strC] using this
    have hy : ys[j]? = some ys[j] := List.getElem?_eq_getElem hj
    have hs : (strC xs)[j]? = some (.str l) := by simp [strC, hl]
    have hv := h1.2 j _ _ hs hy
    obtain ⟨b, e, hb⟩ := str_inv hv
    have : w.cell? ((⟨i.blk, i.base, none⟩ : Addr).add j) = some ys[j] := h3 j _ hy
    rw [e] at this
    have e2 : b = toBytes l := by
      unfold toBytes; rw [← hb]
    rw [← hx, ← e2]
    have e3 : (⟨i.blk, i.base, none⟩ : Addr).add j = ⟨i.blk, i.base + j, none⟩ := by
      unfold Addr.add
      split
      · rename_i h0; rw [h0]; rfl
      · rfl
    rw [e3] at this
    exact this
theorem toBytes_back (xs : List (List UInt8)) : (xs.map toBytes).map (·.data.toList) = xs := by
  induction xs with
  | nil => rfl
  | cons x xs ih => rw [List.map_cons, List.map_cons, ih]; rfl
end Am.Pol
end

/- PolicyBack: there and back, in plain Lean. -/
section
namespace Am.Pol
open Am Go Am.Ir
set_option maxRecDepth 100000

theorem tn {d : Nat} (hd : d < 10) : (UInt8.ofNat (48 + d)).toNat = 48 + d := by
  obtain rfl | rfl | rfl | rfl | rfl | rfl | rfl | rfl | rfl | rfl : d = 0 ∨ d = 1 ∨ d = 2 ∨ d = 3 ∨ d = 4 ∨ d = 5 ∨ d = 6 ∨ d = 7 ∨ d = 8 ∨ d = 9 := by omega
  all_goals rfl
theorem nt {c : UInt8} (h : isD c = true) : UInt8.ofNat (48 + (c.toNat - 48)) = c := by
  simp only [isD, Bool.and_eq_true, decide_eq_true_eq] at h
  rw [show 48 + (c.toNat - 48) = c.toNat by omega]; simp
theorem val_snoc (l : List UInt8) (c : UInt8) : val (l ++ [c]) = val l * 10 + (c.toNat - 48) := by simp [val, List.foldl_append]
theorem isD_of {d : Nat} (hd : d < 10) : isD (UInt8.ofNat (48 + d)) = true := by
  have := tn hd
  simp only [isD, Bool.and_eq_true, decide_eq_true_eq]; omega

theorem headAp {l r : List UInt8} (h : l ≠ []) : (l ++ r).head? = l.head? := by
  cases l with
  | nil => exact absurd rfl h
  | cons a l => rfl
theorem all_one (c : UInt8) : [c].all isD = isD c := by
  show (isD c && true) = _
  rw [Bool.and_true]

theorem dig_spec (n : Nat) : (Lib.decDigits n).all isD = true ∧ val (Lib.decDigits n) = n ∧ (0 < n → (Lib.decDigits n).head? ≠ some 48) ∧ Lib.decDigits n ≠ [] := by
  induction n using Nat.strongRecOn with
  | _ n ih =>
    by_cases h : n < 10
    · rw [Lib.decDigits_one h]
      have ht := tn h
      refine ⟨by rw [all_one]; exact isD_of h, ?_, fun hn e => ?_, by simp⟩
      · have := val_snoc [] (UInt8.ofNat (48 + n))
        rw [List.nil_append] at this
        rw [this, ht]
        simp [val]
      · have e2 : UInt8.ofNat (48 + n) = 48 := by simpa using e
        rw [e2] at ht
        have : (48 : UInt8).toNat = 48 := rfl
        omega
    · have e : Lib.decDigits n = Lib.decDigits (n / 10) ++ [UInt8.ofNat (48 + n % 10)] := by
        conv => lhs; rw [Lib.decDigits, dif_neg h]
      obtain ⟨i1, i2, i3, i4⟩ := ih (n / 10) (by omega)
      have hd : n % 10 < 10 := Nat.mod_lt _ (by omega)
      rw [e]
      refine ⟨by rw [List.all_append, i1, all_one]; exact isD_of hd, by rw [val_snoc, i2, tn hd]; omega, fun _ => ?_, by simp⟩
      rw [headAp i4]
      exact i3 (by omega)

theorem countN_itoa {n : Int} (h0 : 0 < n) (h1 : n ≤ 9999) : (countN (Lib.itoa n) : Int) = n := by
  rw [itoa_pos h0]
  obtain ⟨i1, i2, i3, _⟩ := dig_spec n.toNat
  unfold countN
  have h4 : (Lib.decDigits n.toNat).length ≤ 4 := by
    rw [Lib.decDigits_length]
    have h10 : n.toNat < 10 ^ 4 := by
      have : (10 : Nat) ^ 4 = 10000 := by decide
      omega
    exact nDig_le 4 _ (by omega) h10
  rw [if_pos ⟨h4, i1, i3 (by omega)⟩, i2]
  omega

theorem snoc_ind {P : List UInt8 → Prop} (h0 : P []) (h1 : ∀ l c, P l → P (l ++ [c])) (l : List UInt8) : P l := by
  have : ∀ n (l : List UInt8), l.length = n → P l := by
    intro n
    induction n with
    | zero => intro l hl; rw [List.eq_nil_of_length_eq_zero hl]; exact h0
    | succ n ih =>
      intro l hl
      by_cases hn : l = []
      · subst hn; exact h0
      · obtain ⟨y, c, rfl⟩ := snocU hn
        exact h1 y c (ih y (by simp at hl; omega))
  exact this _ l rfl

theorem dec_val (d : List UInt8) : d ≠ [] → d.all isD = true → d.head? ≠ some 48 → Lib.decDigits (val d) = d := by
  refine snoc_ind (P := fun d => d ≠ [] → d.all isD = true → d.head? ≠ some 48 → Lib.decDigits (val d) = d) (fun h => absurd rfl h) (fun l c ih _ ha hh => ?_) d
  rw [List.all_append, Bool.and_eq_true] at ha
  have hc : isD c = true := by simpa using ha.2
  have hc' := hc
  simp only [isD, Bool.and_eq_true, decide_eq_true_eq] at hc'
  rw [val_snoc]
  by_cases hl : l = []
  · subst hl
    have : val [] = 0 := rfl
    rw [this, Nat.zero_mul, Nat.zero_add, Lib.decDigits_one (by omega), nt hc]; rfl
  · have h1 := ih hl ha.1 (by rw [headAp hl] at hh; exact hh)
    have hpos : 0 < val l := by
      rcases Nat.eq_zero_or_pos (val l) with h | h
      · rw [h, Lib.decDigits_one (by omega)] at h1
        rw [headAp hl, ← h1] at hh
        exact absurd rfl hh
      · exact h
    rw [Lib.decDigits, dif_neg (by omega)]
    rw [show (val l * 10 + (c.toNat - 48)) / 10 = val l by omega, show (val l * 10 + (c.toNat - 48)) % 10 = c.toNat - 48 by omega, h1, nt hc]

theorem countN_inv {d : List UInt8} (h : countN d ≠ 0) : Lib.itoa (countN d : Int) = d ∧ countN d ≤ 9999 := by
  unfold countN at h ⊢
  split
  · rename_i hh
    rw [if_pos hh] at h
    have hne : d ≠ [] := fun e => by subst e; exact h rfl
    refine ⟨?_, ?_⟩
    · rw [itoa_pos (by omega), Int.toNat_natCast]
      exact dec_val d hne hh.2.1 hh.2.2
    · have h1 := val_lt hh.2.1
      have h2 : 10 ^ d.length ≤ 10 ^ 4 := Nat.pow_le_pow_right (by omega) hh.1
      have : (10 : Nat) ^ 4 = 10000 := by decide
      omega
  · rename_i hh; rw [if_neg hh] at h; exact absurd rfl h

/-- A part's word, of a number. -/
def wordN (i : Nat) (n : Int) : List UInt8 := nm i ++ [61] ++ Lib.itoa n

theorem nm_no {i : Nat} (hi : i < 5) : (61 : UInt8) ∉ nm i ∧ (32 : UInt8) ∉ nm i := by
  obtain rfl | rfl | rfl | rfl | rfl : i = 0 ∨ i = 1 ∨ i = 2 ∨ i = 3 ∨ i = 4 := by omega
  all_goals (constructor <;> decide)
theorem cut_mid {x y : List UInt8} {c : UInt8} (h : c ∉ x) : cutAt (x ++ c :: y) c = (x, y, true) := by
  have h1 : (x ++ c :: y)[x.length]? = some c := by rw [List.getElem?_append_right (by omega)]; simp
  have h2 : (x ++ c :: y).take x.length = x := by simp
  rw [cutAt_at h1 (by rw [h2]; exact h), h2]
  have h3 : (x ++ c :: y).drop (x.length + 1) = y := by
    rw [List.drop_append, List.drop_of_length_le (by omega)]
    simp
  rw [h3]
theorem findN_self {a i : Nat} (ha : a ≤ i) (hi : i < 5) : findN (nm i) a (5 - a) = some i := by
  obtain rfl | rfl | rfl | rfl | rfl : i = 0 ∨ i = 1 ∨ i = 2 ∨ i = 3 ∨ i = 4 := by omega
  all_goals obtain rfl | rfl | rfl | rfl | rfl : a = 0 ∨ a = 1 ∨ a = 2 ∨ a = 3 ∨ a = 4 := by omega
  all_goals first
    | rfl
    | (exfalso; omega)
theorem findN_nm : ∀ (m a k : Nat) (name : List UInt8), findN name a m = some k → nm k = name
  | 0, _, _, _, h => by cases h
  | m + 1, a, k, name, h => by
    unfold findN at h
    split at h
    · rename_i hh; cases h; simpa using hh
    · exact findN_nm m (a + 1) k name h

theorem stepW_word {a i : Nat} (ha : a ≤ i) (hi : i < 5) {n : Int} (h0 : 0 < n) (h1 : n ≤ 9999) (many : List Int) : stepW a many (wordN i n) = some (i + 1, many.set i n) := by
  have e : cutAt (wordN i n) 61 = (nm i, Lib.itoa n, true) := by
    unfold wordN
    rw [List.append_assoc]
    exact cut_mid (nm_no hi).1
  have hc := countN_itoa h0 h1
  unfold stepW
  rw [e]
  simp only [findN_self ha hi]
  rw [if_neg (by omega), hc]
end Am.Pol
end

/- PolicyBack: the words there and back. -/
section
namespace Am.Pol
open Am Go Am.Ir
set_option maxRecDepth 100000

/-- Parse's words, with the place where it stands. -/
def parseSt : Nat → List Int → List (List UInt8) → Option (Nat × List Int)
  | a, many, [] => some (a, many)
  | a, many, w :: ws => match stepW a many w with
    | some (a', m') => parseSt a' m' ws
    | none => none
theorem parseGo_St : ∀ (ws : List (List UInt8)) (a : Nat) (many : List Int), parseGo a many ws = (parseSt a many ws).map (·.2)
  | [], _, _ => rfl
  | w :: ws, a, many => by
    rw [parseGo, parseSt]
    cases stepW a many w with
    | none => rfl
    | some r => exact parseGo_St ws r.1 r.2
theorem parseSt_snoc : ∀ (ws : List (List UInt8)) (w : List UInt8) (a : Nat) (many : List Int), parseSt a many (ws ++ [w]) = match parseSt a many ws with
    | some (a', m') => stepW a' m' w
    | none => none
  | [], w, a, many => by
    show (match stepW a many w with | some (a', m') => some (a', m') | none => none) = stepW a many w
    cases stepW a many w with
    | none => rfl
    | some r => rfl
  | x :: ws, w, a, many => by
    rw [List.cons_append, parseSt, parseSt]
    cases stepW a many x with
    | none => rfl
    | some r => exact parseSt_snoc ws w r.1 r.2

theorem word_no {i : Nat} (hi : i < 5) {n : Int} (h0 : 0 < n) : (32 : UInt8) ∉ wordN i n ∧ (61 : UInt8) ∈ wordN i n := by
  refine ⟨fun h => ?_, by simp [wordN]⟩
  unfold wordN at h
  rw [List.mem_append, List.mem_append] at h
  rcases h with (h | h) | h
  · exact (nm_no hi).2 h
  · revert h; decide
  · rw [itoa_pos h0] at h
    have := List.all_eq_true.1 (dig_spec n.toNat).1 32 h
    revert this; decide
theorem wordsP_no (p : Pc) : ∀ i, i ≤ 5 → ∀ w ∈ wordsP p i, (32 : UInt8) ∉ w ∧ (61 : UInt8) ∈ w
  | 0, _, w, hw => by simp [wordsP] at hw
  | i + 1, hi, w, hw => by
    unfold wordsP at hw
    split at hw
    · rename_i h
      rcases List.mem_append.1 hw with hw | hw
      · exact wordsP_no p i (by omega) w hw
      · have e : w = wordP p i := by simpa using hw
        have e2 : wordP p i = wordN i (p.num i) := rfl
        rw [e, e2]; exact word_no (by omega) h
    · exact wordsP_no p i (by omega) w hw

theorem join_two (x : List UInt8) {r : List (List UInt8)} (hr : r ≠ []) : Lib.join (x :: r) [32] = x ++ 32 :: Lib.join r [32] := by
  cases r with
  | nil => exact absurd rfl hr
  | cons y r =>
    rw [Lib.join_cons, Lib.join_cons]
    simp [Lib.joinTail]
theorem wordsF_join : ∀ (ws : List (List UInt8)), ws ≠ [] → (∀ w ∈ ws, (32 : UInt8) ∉ w) → ∀ n, (Lib.join ws [32]).length ≤ n → wordsF n (Lib.join ws [32]) = ws
  | [], h, _, _, _ => absurd rfl h
  | x :: r, _, hno, n, hn => by
    have hx := hno x (by simp)
    by_cases hr : r = []
    · subst hr
      rw [Lib.join_one] at hn ⊢
      obtain ⟨n', h1, h2⟩ := words_cut n x hn
      rw [h2, cutAt_none hx]; rfl
    · rw [join_two x hr] at hn ⊢
      obtain ⟨n', h1, h2⟩ := words_cut n _ hn
      rw [cut_mid hx] at h1 h2
      rw [h2, if_pos rfl, wordsF_join r hr (fun w hw => hno w (by simp [hw])) n' h1]
theorem join_wordsF : ∀ (n : Nat) (s : List UInt8), s.length ≤ n → Lib.join (wordsF n s) [32] = s ∧ wordsF n s ≠ []
  | 0, s, _ => by unfold wordsF; exact ⟨Lib.join_one _ _, by simp⟩
  | n + 1, s, hs => by
    rw [wordsF]
    rcases indexByte_cases s 32 with ⟨h1, h2⟩ | ⟨i, h1, h2, h3, h4⟩
    · rw [if_pos (by omega)]; exact ⟨Lib.join_one _ _, by simp⟩
    · rw [if_neg (by omega), h1, Int.toNat_natCast]
      obtain ⟨k1, k2⟩ := join_wordsF n (s.drop (i + 1)) (by simp; omega)
      refine ⟨?_, by simp⟩
      rw [join_two _ k2, k1]
      exact h3.symm

structure In4 (p : Pc) : Prop where
  num : ∀ i, 0 ≤ p.num i ∧ p.num i ≤ 9999
theorem In4.ok {p : Pc} (h : In4 p) : p.Ok2 := by
  have h0 := h.num 0
  have h1 := h.num 1
  have h2 := h.num 2
  have h3 := h.num 3
  have h4 := h.num 4
  simp only [Pc.num] at h0 h1 h2 h3 h4
  exact ⟨by omega, by omega, by omega, by omega, by omega⟩

def manyP (p : Pc) (k : Nat) : List Int := [if 0 < k then p.last else 0, if 1 < k then p.hours else 0, if 2 < k then p.days else 0, if 3 < k then p.weeks else 0, if 4 < k then p.months else 0]
theorem there_st {p : Pc} (hp : In4 p) : ∀ k, k ≤ 5 → ∃ a, a ≤ k ∧ parseSt 0 zero5 (wordsP p k) = some (a, manyP p k)
  | 0, _ => ⟨0, Nat.le_refl _, rfl⟩
  | k + 1, hk => by
    obtain ⟨a, ha, h⟩ := there_st hp k (by omega)
    have hb := hp.num k
    have hc : k = 0 ∨ k = 1 ∨ k = 2 ∨ k = 3 ∨ k = 4 := by omega
    unfold wordsP
    by_cases h0 : 0 < p.num k
    · rw [if_pos h0, parseSt_snoc, h]
      refine ⟨k + 1, Nat.le_refl _, ?_⟩
      have e : wordP p k = wordN k (p.num k) := rfl
      simp only [e, stepW_word ha (by omega) h0 hb.2]
      congr 2
      rcases hc with rfl | rfl | rfl | rfl | rfl <;> simp [manyP, Pc.num]
    · rw [if_neg h0, h]
      refine ⟨a, by omega, ?_⟩
      congr 2
      have hz : p.num k = 0 := by omega
      rcases hc with rfl | rfl | rfl | rfl | rfl <;> (simp only [Pc.num] at hz; simp [manyP, hz])

def plist (p : Pc) : List Int := [p.last, p.hours, p.days, p.weeks, p.months]
theorem there {p : Pc} (hp : In4 p) : parseN (textN p) = (plist p, 0) := by
  obtain ⟨a, _, h⟩ := there_st hp 5 (by omega)
  have e5 : manyP p 5 = plist p := by simp [manyP, plist]
  rw [e5] at h
  have hno := wordsP_no p 5 (by omega)
  have hgo := parseGo_St (wordsP p 5) 0 zero5
  rw [h] at hgo
  unfold textN parseN
  by_cases hw : wordsP p 5 = []
  · rw [if_pos hw, if_pos rfl]
    rw [hw] at h
    have : (0, zero5) = (a, plist p) := Option.some.inj h
    rw [Prod.mk.injEq] at this
    rw [this.2]
  · rw [if_neg hw]
    have hf := wordsF_join _ hw (fun w h => (hno w h).1) _ (Nat.le_refl _)
    have hne : Lib.join (wordsP p 5) [32] ≠ [110, 111, 110, 101] := by
      intro e
      rw [e] at hf
      have hf2 : wordsP p 5 = [[110, 111, 110, 101]] := hf.symm
      have := (hno [110, 111, 110, 101] (by rw [hf2]; simp)).2
      revert this; decide
    rw [if_neg hne, hf, hgo]; rfl

/-- A policy of numbers. -/
def numL (l : List Int) (i : Nat) : Int := l.getD i 0
def pcOf (l : List Int) : Pc := ⟨numL l 0, numL l 1, numL l 2, numL l 3, numL l 4⟩
theorem pcOf_num (l : List Int) {i : Nat} (hi : i < 5) : (pcOf l).num i = numL l i := by
  obtain rfl | rfl | rfl | rfl | rfl : i = 0 ∨ i = 1 ∨ i = 2 ∨ i = 3 ∨ i = 4 := by omega
  all_goals rfl
theorem pcOf_cells {l : List Int} (h : l.length = 5) : mc l = (pcOf l).cells := by
  obtain ⟨a, b, c, d, e, rfl⟩ := five h
  rfl
theorem numL_set (l : List Int) (k : Nat) (n : Int) (hk : k < l.length) (i : Nat) : numL (l.set k n) i = if i = k then n else numL l i := by
  unfold numL
  simp only [List.getD_eq_getElem?_getD, List.getElem?_set]
  by_cases h : i = k
  · subst h; simp [hk]
  · rw [if_neg (Ne.symm h), if_neg h]

theorem words_ext {p q : Pc} : ∀ i, (∀ j, j < i → p.num j = q.num j) → wordsP p i = wordsP q i
  | 0, _ => rfl
  | i + 1, h => by
    have e := words_ext (p := p) (q := q) i (fun j hj => h j (by omega))
    unfold wordsP wordP
    rw [e, h i (by omega)]
theorem words_zero {p : Pc} {a : Nat} : ∀ b, a ≤ b → (∀ j, a ≤ j → j < b → p.num j = 0) → wordsP p b = wordsP p a
  | 0, h, _ => by rw [show a = 0 by omega]
  | b + 1, h, hz => by
    by_cases e : a = b + 1
    · rw [e]
    · have := words_zero (p := p) (a := a) b (by omega) (fun j h1 h2 => hz j h1 (by omega))
      rw [← this]
      conv => lhs; unfold wordsP
      rw [if_neg (by rw [hz b (by omega) (by omega)]; omega)]

theorem step_inv {a : Nat} {many m1 : List Int} {w : List UInt8} {a1 : Nat} (ha : a ≤ 5) (h : stepW a many w = some (a1, m1)) :
    ∃ k, a ≤ k ∧ k < 5 ∧ a1 = k + 1 ∧ ∃ c : Nat, c ≠ 0 ∧ c ≤ 9999 ∧ m1 = many.set k (c : Int) ∧ w = wordN k (c : Int) := by
  unfold stepW at h
  cases hf : findN (cutAt w 61).1 a (5 - a) with
  | none => rw [hf] at h; cases h
  | some k =>
    rw [hf] at h
    simp only at h
    split at h
    · cases h
    · rename_i hc
      cases h
      obtain ⟨g1, g2⟩ := findN_ge _ _ _ _ hf
      have g3 := findN_nm _ _ _ _ hf
      obtain ⟨i1, i2⟩ := countN_inv hc
      refine ⟨k, g1, by omega, rfl, countN (cutAt w 61).2.1, hc, i2, rfl, ?_⟩
      unfold wordN
      rw [g3, i1]
      rcases indexByte_cases w 61 with ⟨h1, _⟩ | ⟨i, h1, h2, h3, h4⟩
      · exfalso
        apply hc
        unfold cutAt; rw [if_pos (by omega)]; rfl
      · unfold cutAt; rw [if_neg (by omega), h1, Int.toNat_natCast]
        simpa using h3

theorem back_st : ∀ (ws : List (List UInt8)) (a : Nat) (many many' : List Int), many.length = 5 → a ≤ 5 → (∀ j, a ≤ j → j < 5 → numL many j = 0) → (∀ j, j < 5 → 0 ≤ numL many j ∧ numL many j ≤ 9999) → parseGo a many ws = some many' →
    wordsP (pcOf many') 5 = wordsP (pcOf many) 5 ++ ws ∧ (∀ j, j < 5 → 0 ≤ numL many' j ∧ numL many' j ≤ 9999)
  | [], a, many, many', hl, ha, hz, hb, h => by
    cases h
    exact ⟨by simp, hb⟩
  | w :: ws, a, many, many', hl, ha, hz, hb, h => by
    rw [parseGo] at h
    cases hs : stepW a many w with
    | none => rw [hs] at h; cases h
    | some r =>
      obtain ⟨a1, m1⟩ := r
      rw [hs] at h
      obtain ⟨k, k1, k2, rfl, c, c0, c1, rfl, hw⟩ := step_inv ha hs
      have hn := numL_set many k (c : Int) (by omega)
      obtain ⟨i1, i2⟩ := back_st ws (k + 1) (many.set k (c : Int)) many' (by simp [hl]) (by omega)
        (fun j h1 h2 => by rw [hn, if_neg (by omega)]; exact hz j (by omega) h2)
        (fun j h2 => by
          rw [hn]
          split
          · omega
          · exact hb j h2) h
      refine ⟨?_, i2⟩
      rw [i1]
      have e1 : wordsP (pcOf (many.set k (c : Int))) 5 = wordsP (pcOf (many.set k (c : Int))) (k + 1) :=
        words_zero 5 (by omega) (fun j h1 h2 => by rw [pcOf_num _ h2, hn, if_neg (by omega)]; exact hz j (by omega) h2)
      have e2 : wordsP (pcOf many) 5 = wordsP (pcOf many) k :=
        words_zero 5 (by omega) (fun j h1 h2 => by rw [pcOf_num _ h2]; exact hz j (by omega) h2)
      have e3 : wordsP (pcOf (many.set k (c : Int))) k = wordsP (pcOf many) k :=
        words_ext k (fun j hj => by rw [pcOf_num _ (by omega), pcOf_num _ (by omega), hn, if_neg (by omega)])
      have e4 : (pcOf (many.set k (c : Int))).num k = (c : Int) := by rw [pcOf_num _ k2, hn, if_pos rfl]
      have e5 : wordsP (pcOf (many.set k (c : Int))) (k + 1) = wordsP (pcOf (many.set k (c : Int))) k ++ [wordN k (c : Int)] := by
        conv => lhs; unfold wordsP
        rw [e4, if_pos (by omega)]
        unfold wordP wordN
        rw [e4]
      rw [e1, e5, e3, e2, ← hw]
      simp

/-- A text that is parsed, written again, is the text. -/
theorem back {s : List UInt8} (h : (parseN s).2 = 0) : textN (pcOf (parseN s).1) = s ∧ (pcOf (parseN s).1).Ok2 := by
  unfold parseN at h ⊢
  by_cases h0 : s = [110, 111, 110, 101]
  · rw [if_pos h0, h0]
    exact ⟨by kernel_rfl, ⟨by decide, by decide, by decide, by decide, by decide⟩⟩
  · rw [if_neg h0] at h ⊢
    cases hg : parseGo 0 zero5 (wordsF s.length s) with
    | none => rw [hg] at h; simp at h
    | some many =>
      have hz : ∀ j, j < 5 → numL zero5 j = 0 := fun j hj => by
        obtain rfl | rfl | rfl | rfl | rfl : j = 0 ∨ j = 1 ∨ j = 2 ∨ j = 3 ∨ j = 4 := by omega
        all_goals rfl
      obtain ⟨i1, i2⟩ := back_st _ 0 zero5 many rfl (by omega) (fun j _ hj => hz j hj) (fun j hj => by rw [hz j hj]; omega) hg
      have e0 : wordsP (pcOf zero5) 5 = [] := by
        rw [words_zero 5 (a := 0) (by omega) (fun j _ hj => by rw [pcOf_num _ hj]; exact hz j hj)]; rfl
      rw [e0, List.nil_append] at i1
      obtain ⟨j1, j2⟩ := join_wordsF s.length s (Nat.le_refl _)
      refine ⟨?_, ?_⟩
      · show textN (pcOf many) = s
        unfold textN
        rw [i1, if_neg j2, j1]
      · show (pcOf many).Ok2
        have b0 := i2 0 (by omega)
        have b1 := i2 1 (by omega)
        have b2 := i2 2 (by omega)
        have b3 := i2 3 (by omega)
        have b4 := i2 4 (by omega)
        refine ⟨?_, ?_, ?_, ?_, ?_⟩ <;> simp only [pcOf] <;> omega
end Am.Pol
end

/- PolicyBack: the law. -/
section
namespace Am.Pol
open Am Go Am.Ir
set_option maxRecDepth 100000
attribute [local congr] Post_cg
attribute [local simp] ox oz kx kz og ogz kg kgz mo ai

def xIsIn : Model := exM (orc []) l30_isIn 1000
def inB (n : Int) : Bool := decide (0 ≤ n) && decide (n ≤ 9999)
theorem isIn_ok (n : Int) (S : St) : xIsIn [.int .i64 n] S = some (.bool (inB n), S) := by
  unfold xIsIn exM
  refine evF_post (F := l30_isIn) rfl rfl ?_
  have c1 : binA .leq (.int .i64 n) (.int .i64 9999) = some (.bool (decide (n ≤ 9999))) := rfl
  unfold inB
  by_cases h : 0 ≤ n
  · have c2 : binA .geq (.int .i64 n) (.int .i64 0) = some (.bool true) := geq_t h
    rw [decide_eq_true h]
    generalize decide (n ≤ 9999) = b at *
    simp [l30_isIn, exM, orc, orcD, evF, evC_skip, evC_region, evC_cond, evC_exit, evC_ret, evOps, evOper, evAny, evOp, evCall, putR, putA, Fr.ev, Fr.of, Fr.get, Fr.set, stable, junkA, junkL, resultsA, resA, same, Post_seq, Post_block, Post_some, c1, c2]
  · have c2 : binA .geq (.int .i64 n) (.int .i64 0) = some (.bool false) := geq_f (by omega)
    rw [decide_eq_false h]
    simp [l30_isIn, exM, orc, orcD, evF, evC_skip, evC_region, evC_cond, evC_exit, evC_ret, evOps, evOper, evAny, evOp, evCall, putR, putA, Fr.ev, Fr.of, Fr.get, Fr.set, stable, junkA, junkL, resultsA, resA, same, Post_seq, Post_block, Post_some, c2]

def oLawB (al : Model) (sp p1 : Nat) : Orc := orc [al, mParse sp p1, mText, xIsIn]
def xLawBack (al : Model) (sp p1 : Nat) : Model := exM (oLawB al sp p1) l30_PolicyBack 1000

theorem textN_len {p : Pc} (hp : p.Ok2) : (textN p).length < 900 := by
  have := (wordsP_mem hp 5).1
  unfold textN
  split
  · simp
  · omega

set_option maxHeartbeats 4000000 in
theorem lawBack_ok {al : Model} (hal : ∀ S, al [] S = some (.bool true, S)) (sp p1 : Nat) {p : Pc} (s : List UInt8) :
    ∃ T, xLawBack al sp p1 [.agg p.cells, .str s] [] = some (.bool true, T) := by
  suffices h : ∃ T, evF (oLawB al sp p1) 1000 l30_PolicyBack [.agg p.cells, .str s] [] = some (.bool true, T) ∧ True by
    obtain ⟨T, h, _⟩ := h; exact ⟨T, h⟩
  refine evF_postX (F := l30_PolicyBack) (R := fun _ => True) rfl rfl ?_
  have c0 : cells? (.agg p.cells) = some p.cells := rfl
  by_cases h1 : 100 < s.length
  · have c1 : binA .gtr (.int .i64 (s.length : Int)) (.int .i64 100) = some (.bool true) := gtr_t (by omega)
    unfold oLawB
    generalize mParse sp p1 = m1 at *
    generalize mText = m3 at *
    generalize xIsIn = m4 at *
    simp [l30_PolicyBack, exM, orc, orcD, evF, evC_skip, evC_region, evC_cond, evC_exit, evC_ret, evOps, evOper, evAny, evOp, evCall, putR, putA, Fr.ev, Fr.of, Fr.get, Fr.set, stable, junkA, junkL, resultsA, resA, same, Post_seq, Post_block, Post_some, lenA, c0, c1, hal]
  have c1 : binA .gtr (.int .i64 (s.length : Int)) (.int .i64 100) = some (.bool false) := gtr_f (by omega)
  obtain ⟨q, hq⟩ : ∃ q : Pc, q = pcOf (parseN s).1 := ⟨_, rfl⟩
  have hqc : mc (parseN s).1 = q.cells := by rw [hq]; exact pcOf_cells (parseN_len s)
  have c2 := fun S => parse_ok sp p1 s (by omega) S
  rw [hqc] at c2
  have st1 : storeA 5 (.ptr 1 0 0) (.agg q.cells) [.live 0 p.cells, .live 0 [.int .i64 0, .int .i64 0, .int .i64 0, .int .i64 0, .int .i64 0]] = some [.live 0 p.cells, .live 0 q.cells] := by
    simp [storeA, cells?, splice, Pc.cells]
  obtain ⟨S2, hS2⟩ : ∃ S2 : St, S2 = [.live 0 p.cells, .live 0 q.cells] := ⟨_, rfl⟩
  have k1 : loadA (some 5) (.ptr 1 0 0) S2 = some (.agg q.cells) := by rw [hS2]; exact load_pol rfl
  have k0 : loadA (some 5) (.ptr 0 0 0) S2 = some (.agg p.cells) := by rw [hS2]; exact load_pol rfl
  have b0 : S2[0]? = some (.live 0 p.cells) := by rw [hS2]; rfl
  have l0 : loadA none (.ptr 0 0 0) S2 = some (.int .i64 p.last) := by rw [load_c b0]; rfl
  have l1 : loadA none (.ptr 0 0 1) S2 = some (.int .i64 p.hours) := by rw [load_c b0]; rfl
  have l2 : loadA none (.ptr 0 0 2) S2 = some (.int .i64 p.days) := by rw [load_c b0]; rfl
  have l3 : loadA none (.ptr 0 0 3) S2 = some (.int .i64 p.weeks) := by rw [load_c b0]; rfl
  have l4 : loadA none (.ptr 0 0 4) S2 = some (.int .i64 p.months) := by rw [load_c b0]; rfl
  have hl2 : S2.length = 2 := by rw [hS2]; rfl
  have st2 : storeA 5 (.ptr 2 0 0) (.agg p.cells) (S2 ++ [.live 0 [.int .i64 0, .int .i64 0, .int .i64 0, .int .i64 0, .int .i64 0]]) = some (S2 ++ [.live 0 p.cells]) := by
    rw [hS2]; simp [storeA, cells?, splice, Pc.cells]
  obtain ⟨S3, hS3⟩ : ∃ S3 : St, S3 = S2 ++ [.live 0 p.cells] := ⟨_, rfl⟩
  have j0 : loadA (some 5) (.ptr 0 0 0) S3 = some (.agg p.cells) := by rw [hS3, hS2]; exact load_pol rfl
  have j2 : loadA (some 5) (.ptr 2 0 0) S3 = some (.agg p.cells) := by rw [hS3, hS2]; exact load_pol rfl
  rw [← hS3] at st2
  rw [← hS2] at st1
  have n0 := isIn_ok p.last
  have n1 := isIn_ok p.hours
  have n2 := isIn_ok p.days
  have n3 := isIn_ok p.weeks
  have n4 := isIn_ok p.months
  have d2 := eq5 p
  have d3 : binA .eql (.int .i64 0) (.int .i64 0) = some (.bool true) := rfl
  -- a text that is parsed
  have hb : ((parseN s).2 = 0 ∧ binA .eql (.int .i64 (parseN s).2) (.int .i64 0) = some (.bool true) ∧ (∀ S, mText [.agg q.cells] S = some (.str s, S))) ∨ binA .eql (.int .i64 (parseN s).2) (.int .i64 0) = some (.bool false) := by
    by_cases he : (parseN s).2 = 0
    · obtain ⟨t1, t2⟩ := back he
      rw [← hq] at t1 t2
      exact .inl ⟨he, eql_t he, fun S => by rw [text_ok t2, t1]⟩
    · exact .inr (eql_f he)
  have d4 : binA .neq (.str s) (.str s) = some (.bool false) := by
    show some (AVal.bool !(s == s)) = _
    simp
  -- a policy that is written
  have hw : inB p.last = true → inB p.hours = true → inB p.days = true → inB p.weeks = true → inB p.months = true →
      ∃ tx, (∀ S, mText [.agg p.cells] S = some (.str tx, S)) ∧ ∀ S, mParse sp p1 [.str tx] S = some (.tup [.agg p.cells, .int .i64 0], S) := by
    intro a0 a1 a2 a3 a4
    simp only [inB, Bool.and_eq_true, decide_eq_true_eq] at a0 a1 a2 a3 a4
    have hi : In4 p := ⟨fun i => by
      unfold Pc.num
      split
      · exact a0
      · exact a1
      · exact a2
      · exact a3
      · exact a4⟩
    refine ⟨textN p, fun S => text_ok hi.ok S, fun S => ?_⟩
    rw [parse_ok sp p1 (textN p) (textN_len hi.ok), there hi]
    rfl
  unfold oLawB
  generalize mParse sp p1 = m1 at *
  generalize mText = m3 at *
  generalize xIsIn = m4 at *
  generalize p.cells = pcs at *
  generalize q.cells = qcs at *
  generalize (parseN s).2 = er at *
  generalize inB p.last = i0 at *
  generalize inB p.hours = i1 at *
  generalize inB p.days = i2 at *
  generalize inB p.weeks = i3 at *
  generalize inB p.months = i4 at *
  rcases hb with ⟨he, e1, e2⟩ | e1
  · cases i0
    · simp [l30_PolicyBack, exM, orc, orcD, evF, evC_skip, evC_region, evC_cond, evC_exit, evC_ret, evOps, evOper, evAny, evOp, evCall, putR, putA, Fr.ev, Fr.of, Fr.get, Fr.set, stable, junkA, junkL, resultsA, resA, same, Post_seq, Post_block, Post_some, faddrA, unA, lenA, Fr.get_set, c0, c1, c2, st1, e1, e2, k1, d4, hal, l0, n0]
    cases i1
    · simp [l30_PolicyBack, exM, orc, orcD, evF, evC_skip, evC_region, evC_cond, evC_exit, evC_ret, evOps, evOper, evAny, evOp, evCall, putR, putA, Fr.ev, Fr.of, Fr.get, Fr.set, stable, junkA, junkL, resultsA, resA, same, Post_seq, Post_block, Post_some, faddrA, unA, lenA, Fr.get_set, c0, c1, c2, st1, e1, e2, k1, d4, hal, l0, n0, l1, n1]
    cases i2
    · simp [l30_PolicyBack, exM, orc, orcD, evF, evC_skip, evC_region, evC_cond, evC_exit, evC_ret, evOps, evOper, evAny, evOp, evCall, putR, putA, Fr.ev, Fr.of, Fr.get, Fr.set, stable, junkA, junkL, resultsA, resA, same, Post_seq, Post_block, Post_some, faddrA, unA, lenA, Fr.get_set, c0, c1, c2, st1, e1, e2, k1, d4, hal, l0, n0, l1, n1, l2, n2]
    cases i3
    · simp [l30_PolicyBack, exM, orc, orcD, evF, evC_skip, evC_region, evC_cond, evC_exit, evC_ret, evOps, evOper, evAny, evOp, evCall, putR, putA, Fr.ev, Fr.of, Fr.get, Fr.set, stable, junkA, junkL, resultsA, resA, same, Post_seq, Post_block, Post_some, faddrA, unA, lenA, Fr.get_set, c0, c1, c2, st1, e1, e2, k1, d4, hal, l0, n0, l1, n1, l2, n2, l3, n3]
    cases i4
    · simp [l30_PolicyBack, exM, orc, orcD, evF, evC_skip, evC_region, evC_cond, evC_exit, evC_ret, evOps, evOper, evAny, evOp, evCall, putR, putA, Fr.ev, Fr.of, Fr.get, Fr.set, stable, junkA, junkL, resultsA, resA, same, Post_seq, Post_block, Post_some, faddrA, unA, lenA, Fr.get_set, c0, c1, c2, st1, e1, e2, k1, d4, hal, l0, n0, l1, n1, l2, n2, l3, n3, l4, n4]
    obtain ⟨tx, w1, w2⟩ := hw rfl rfl rfl rfl rfl
    simp [l30_PolicyBack, exM, orc, orcD, evF, evC_skip, evC_region, evC_cond, evC_exit, evC_ret, evOps, evOper, evAny, evOp, evCall, putR, putA, Fr.ev, Fr.of, Fr.get, Fr.set, stable, junkA, junkL, resultsA, resA, same, Post_seq, Post_block, Post_some, faddrA, unA, lenA, Fr.get_set, c0, c1, c2, st1, e1, e2, k1, d4, hal, l0, n0, l1, n1, l2, n2, l3, n3, l4, n4, k0, w1, w2, hl2, st2, j0, j2, d2, d3]
  · cases i0
    · simp [l30_PolicyBack, exM, orc, orcD, evF, evC_skip, evC_region, evC_cond, evC_exit, evC_ret, evOps, evOper, evAny, evOp, evCall, putR, putA, Fr.ev, Fr.of, Fr.get, Fr.set, stable, junkA, junkL, resultsA, resA, same, Post_seq, Post_block, Post_some, faddrA, unA, lenA, Fr.get_set, c0, c1, c2, st1, e1, hal, l0, n0]
    cases i1
    · simp [l30_PolicyBack, exM, orc, orcD, evF, evC_skip, evC_region, evC_cond, evC_exit, evC_ret, evOps, evOper, evAny, evOp, evCall, putR, putA, Fr.ev, Fr.of, Fr.get, Fr.set, stable, junkA, junkL, resultsA, resA, same, Post_seq, Post_block, Post_some, faddrA, unA, lenA, Fr.get_set, c0, c1, c2, st1, e1, hal, l0, n0, l1, n1]
    cases i2
    · simp [l30_PolicyBack, exM, orc, orcD, evF, evC_skip, evC_region, evC_cond, evC_exit, evC_ret, evOps, evOper, evAny, evOp, evCall, putR, putA, Fr.ev, Fr.of, Fr.get, Fr.set, stable, junkA, junkL, resultsA, resA, same, Post_seq, Post_block, Post_some, faddrA, unA, lenA, Fr.get_set, c0, c1, c2, st1, e1, hal, l0, n0, l1, n1, l2, n2]
    cases i3
    · simp [l30_PolicyBack, exM, orc, orcD, evF, evC_skip, evC_region, evC_cond, evC_exit, evC_ret, evOps, evOper, evAny, evOp, evCall, putR, putA, Fr.ev, Fr.of, Fr.get, Fr.set, stable, junkA, junkL, resultsA, resA, same, Post_seq, Post_block, Post_some, faddrA, unA, lenA, Fr.get_set, c0, c1, c2, st1, e1, hal, l0, n0, l1, n1, l2, n2, l3, n3]
    cases i4
    · simp [l30_PolicyBack, exM, orc, orcD, evF, evC_skip, evC_region, evC_cond, evC_exit, evC_ret, evOps, evOper, evAny, evOp, evCall, putR, putA, Fr.ev, Fr.of, Fr.get, Fr.set, stable, junkA, junkL, resultsA, resA, same, Post_seq, Post_block, Post_some, faddrA, unA, lenA, Fr.get_set, c0, c1, c2, st1, e1, hal, l0, n0, l1, n1, l2, n2, l3, n3, l4, n4]
    obtain ⟨tx, w1, w2⟩ := hw rfl rfl rfl rfl rfl
    simp [l30_PolicyBack, exM, orc, orcD, evF, evC_skip, evC_region, evC_cond, evC_exit, evC_ret, evOps, evOper, evAny, evOp, evCall, putR, putA, Fr.ev, Fr.of, Fr.get, Fr.set, stable, junkA, junkL, resultsA, resA, same, Post_seq, Post_block, Post_some, faddrA, unA, lenA, Fr.get_set, c0, c1, c2, st1, e1, hal, l0, n0, l1, n1, l2, n2, l3, n3, l4, n4, k0, w1, w2, hl2, st2, j0, j2, d2, d3]
end Am.Pol
end

/- Policy: Text, and the laws that ask for it. Printed by a program of ours. -/
section
namespace Am.PolD
open Am Am.Pol Go Am.Ir Go.Proofs Go.RowKit
set_option maxRecDepth 100000

theorem powN : (Tryd.prog.globalNamed "internal/strconv.uint64pow10").isSome = true := by kernel_rfl
theorem powNe : Tryd.prog.globalNamed "internal/strconv.uint64pow10" ≠ none := fun h => by have h2 := powN; rw [h] at h2; cases h2

theorem sItoa : Sound Tryd.prog 19 mItoa := fun W hW => SoundW.of ⟨_, Tryd.func19, by kernel_rfl, by kernel_rfl⟩ (fun args S v S' hm => by
  unfold mItoa at hm
  split at hm
  · rename_i n
    split at hm
    · rename_i hh
      cases hm
      refine ⟨rfl, fun κ w args' hW hr ha => ?_⟩
      obtain ⟨y, ys, rfl, h1, h2⟩ := ha.uncons
      have := h2.unnil; subst this
      obtain rfl := int_inv h1
      have ht := hW.tab ("internal/strconv.uint64pow10", .u64, Lib.pow10Tab) (by simp [wTabs]) powNe
      refine (Tryd.strconv_Itoa n hh.1 hh.2 w ht).mono ?_
      rintro e w' ⟨rfl, k, os, rfl⟩
      exact ⟨_, rfl, str_of _, Lib.below_grow _ w (Nat.le_refl _) k os⟩
    · cases hm
  · cases hm) hW

theorem sJoin : Sound Tryd.prog 20 mJoin := fun W hW => SoundW.of ⟨_, Tryd.func20, by kernel_rfl, by kernel_rfl⟩ (fun args S v S' hm => by
  unfold mJoin at hm
  split at hm
  · rename_i r vv n sep
    split at hm
    · rename_i v' cs hS
      split at hm
      · rename_i xs hx
        split at hm
        · rename_i hh
          obtain ⟨rfl, rfl, ⟨h0, h1⟩, hj⟩ := hh
          cases hm
          obtain rfl := strs_inv hx
          refine ⟨rfl, fun κ w args' hW hr ha => ?_⟩
          obtain ⟨y, ys, rfl, g1, g2⟩ := ha.uncons
          obtain ⟨z, zs, rfl, g3, g4⟩ := g2.uncons
          have := g4.unnil; subst this
          obtain ⟨b, rfl, hb⟩ := str_inv g3
          obtain ⟨bk, o, c, rfl, q1, q2, q3⟩ := texts_at hr hS h0 g1
          have q4 := toBytes_back xs
          refine (Tryd.strings_Join bk o c (xs.map toBytes) b w q3 q2 (by simp; omega) q1 (by rw [q4, hb]; omega)).mono ?_
          rintro e w' ⟨rfl, hw⟩
          rw [q4, hb]
          exact ⟨_, rfl, str_of _, hw⟩
        · cases hm
      · cases hm
    · cases hm
  · cases hm) hW

theorem sParseP : Sound Tryd.prog 8 (mParse 36 17) := Sound.pure 3 sParse
theorem sText : Sound Tryd.prog 9 (mText) := Sound.pure 1 (sx (fs := [13, 19, 20]) (l := [xParts, mItoa, mJoin]) ⟨sParts, sItoa, sJoin, trivial⟩ Tryd.func9 policy_Text_ok 1000)
theorem sIsIn : Sound Tryd.prog 10 (xIsIn) := sx (fs := []) (l := []) trivial Tryd.func10 l30_isIn_ok 1000
theorem sLawBack : Sound Tryd.prog 4 (xLawBack (mAlive 22 100 36 17) 36 17) := sx (fs := [5, 8, 9, 10]) (l := [mAlive 22 100 36 17, mParse 36 17, mText, xIsIn]) ⟨sAlive, sParseP, sText, sIsIn, trivial⟩ Tryd.func4 l30_PolicyBack_ok 1000
end Am.PolD
end

/- From the machine's word at an empty heap to a row whose listed variable is laid. -/
section
namespace Am
open Go Go.RowKit Go.ChangeShapes Go.WideShapes
section
variable {H : Type} {enc : TypeId × Value → H}

theorem liftedL {C : Checked} {os : Os} {f : FuncId} {fn : Func} {s : ChangeSpec} {conds : List PathCond} {fresh handsOn again : Bool} {tb : TypeId} {X : World → Prop}
    (own : ownKnob C.prog.godebug = none) (started : os.Started) (noInit : C.prog.inits.idxOf? f = none) (hfn : C.prog.funcs[f]? = some fn)
    (hXh : ∀ (w w' : World), w.heap = w'.heap → X w → X w')
    (witness : ∃ (w : World) (tape : Tape) (i : Input), w.os = os ∧ (w.forCall tape i).Shaped C.prog ∧ i.vars = [] ∧ Input.okWide C.prog (w.forCall tape i) .any w.heap.size f i ∧
      ((s.pre enc C.prog fn conds false (w.forCall tape i).memory i.args ∧ X (w.forCall tape i).memory) ∧ sizedMet enc C.prog fn (OpenSpec.ofChange s) false (w.forCall tape i).memory i.args) ∧ ({} : Assume).holds C.prog (lone (Frame.enter C.prog f i.args .normal) [] (w.forCall tape i)))
    (hv : s.vars = []) (hl : laidOutB C.prog = true) (ts : List DT) (hf : fitAll C.prog ts fn.params.toList = true)
    (hr : fn.resultTypes = #[tb]) (ht : (C.prog.underlying tb matches some .bool) = true)
    (hs : ∀ ds : List (DataW H), ds.length = fn.params.toList.length → s.fn H ds = { results := [.lit (.bool true)], args := ds })
    (hXW : ∀ W, X W → WOk C.prog W) (law : ∀ x : Vals ts, Wfs ts x → ∀ W, WOk C.prog W → ACalls C.prog W f (encs ts x) [] fun v _ => v = .bool true) :
    ReturnsInHanded {} C os f .any (fun w args => (s.pre enc C.prog fn conds false w args ∧ X w) ∧ sizedMet enc C.prog fn (OpenSpec.ofChange s) false w args) (s.post enc C.prog fn false fresh handsOn again) := by
  have ht' : C.prog.underlying tb = some .bool := by split at ht <;> simp_all
  refine returnsInHanded_of_change_and (X := fun w _ => X w) (fun w w' _ hh h => hXh w w' hh h) own started noInit hfn witness ?_
  intro W base args ds gs before hval hW _ _ hX _
  have hW0 := hW
  obtain ⟨p, q, hA, hV, hpq, hfz, hnd⟩ := hW
  obtain ⟨h1, h2⟩ := fitAll_ok hf
  obtain ⟨x, hx1, hx2⟩ := told_all (b := base) ts fn.params.toList args.toList ds p h1
    (fun j u v hu hv => hval j u v (by simpa using hu) (by simpa using hv)) hA
  have := law x hx1 W (hXW W hX) (kap0 W) W args.toList (rel0 W) hx2
  simp only [Array.toArray_toList] at this
  refine this.mono fun e W' ⟨v, v', S', κ', he, hv', hrel, hR, _⟩ => ?_
  subst hv'
  cases hrel
  exact ⟨_, he, post_true hW0 hv hl h2 hr ht' hs hR.below⟩
end
end Am
end

