import Derived.Test.YtgbifohffmdgeaaDoorAmPolU
set_option linter.all false
/- The first time of each slot stays: mark. -/
section
namespace Am.Pol
open Am Go Am.Ir
set_option maxRecDepth 100000
attribute [local congr] Post_cg
attribute [local simp] ox oz kx kz og ogz kg kgz mo ai

/-- Truths in cells. -/
def bc (d : List Bool) : List AVal := d.map .bool
theorem bc_len (d : List Bool) : (bc d).length = d.length := by simp [bc]
theorem bc_get (d : List Bool) (i : Nat) : (bc d)[i]? = d[i]?.map .bool := by simp [bc]
theorem store_b {S : St} {r v : Nat} {d : List Bool} (h : S[r]? = some (.live v (bc d))) {i : Nat} (hi : i < d.length) (b : Bool) :
    storeA 1 (.ptr r v (0 + i * 1)) (.bool b) S = some (S.set r (.live v (bc (d.set i b)))) := by
  have hs : splice (bc d) i [.bool b] = bc (d.set i b) := by
    simp only [splice, List.length_singleton, bc, List.map_set]
    rw [List.set_eq_take_append_cons_drop, if_pos (by simpa using hi)]
    simp
  have hc : cells? (.bool b) = some [.bool b] := rfl
  simp only [storeA, hc, h, Nat.zero_add, Nat.mul_one, List.length_singleton, bc_len]
  rw [if_pos ⟨trivial, trivial, by omega⟩, hs]

/-- What mark does. -/
def markL (sl : Nat → Nat) : Option Nat → Int → List Nat → List Bool → List Bool
  | _, _, [], ks => ks
  | prev, many, i :: r, ks => if prev = some (sl i) then markL sl (some (sl i)) many r ks else if many ≤ 0 then ks else markL sl (some (sl i)) (many - 1) r (ks.set i true)

/-- Places that can be read, whatever is done to a block. -/
structure Ords (S : St) (r : Nat) (o : AVal) (d : List Nat) : Prop where
  len : lenA .sl o = some (.int .i64 (d.length : Int))
  get : ∀ T, Off S T r → ∀ i, i < d.length → ∃ a, iaddrSA 1 o (.int .i64 (i : Int)) = some a ∧ loadA none a T = some (.int .i64 (L0 d i : Int))
theorem Ords.go {S T : St} {r : Nat} {o : AVal} {d : List Nat} (h : Ords S r o d) (hT : Off S T r) : Ords T r o d := ⟨h.len, fun _ hU => h.get _ (hT.trans hU)⟩

/-- Times are 64 bits. -/
def U64 (l : List Nat) : Prop := ∀ x ∈ l, x < 18446744073709551616
theorem U64.get {l : List Nat} (h : U64 l) (i : Nat) : L0 l i < 18446744073709551616 := by
  unfold L0
  by_cases hi : i < l.length
  · rw [List.getD_eq_getElem?_getD, List.getElem?_eq_getElem hi]; exact h _ (List.getElem_mem hi)
  · rw [List.getD_eq_getElem?_getD, List.getElem?_eq_none (by omega)]; simp

structure MarkF (f : Fr) (rk vk n : Nat) (x o : AVal) (kind : Int) (many : Int) (i : Nat) : Prop where
  s0 : f.get 0 = .sl rk vk 0 n 1
  s1 : f.get 1 = x
  s2 : f.get 2 = o
  s3 : f.get 3 = .int .i64 kind
  s4 : f.get 4 = .int .i64 many
  s13 : f.get 13 = o
  s14 : f.get 14 = .int .i64 (n : Int)
  s15 : f.get 15 = .int .i64 (i : Int)

theorem mark_round {O : Orc} {g : Nat} (h0 : O.loc[0]? = some (xSlot g)) {B rk vk n : Nat} {S : St} {x o : AVal} {l d : List Nat} {ks : List Bool} {kind many : Int} {i : Nat}
    (hx : Times B S x l) (hl : U64 l) (ho : Ords S rk o d) (hd : d.length = n) (hln : l.length = n) (hlt : Lt d n) (hk : S[rk]? = some (.live vk (bc ks))) (hkn : ks.length = n) (hn : n < 900) (hi : i < n) (hm : many ≤ 9223372036854775807)
    {f : Fr} (hf : MarkF f rk vk n x o kind many i) :
    Post (evC O 1000 policy_mark_l0 f S) fun e f' T =>
      if 0 < i ∧ slotN (L0 l (L0 d i)) kind = slotN (L0 l (L0 d (i - 1))) kind then e = .normal ∧ T = S ∧ MarkF f' rk vk n x o kind many (i + 1)
      else if many ≤ 0 then e = .ret ∧ T = S else e = .normal ∧ T = S.set rk (.live vk (bc (ks.set (L0 d i) true))) ∧ MarkF f' rk vk n x o kind (many - 1) (i + 1) := by
  obtain ⟨s0, s1, s2, s3, s4, s13, s14, s15⟩ := hf
  have c1 : binA .lss (.int .i64 (i : Int)) (.int .i64 (n : Int)) = some (.bool true) := lss_t (by omega)
  have c2 : binA .add (.int .i64 (i : Int)) (.int .i64 1) = some (.int .i64 ((i + 1 : Nat) : Int)) := add_is (by omega) (by omega) (by omega)
  have hdi : L0 d i < n := hlt.get (by omega)
  obtain ⟨a1, p1, p2⟩ := ho.get S (Off.refl S rk) i (by omega)
  obtain ⟨a2, p3, p4⟩ := hx.get S (Old.refl B S) (L0 d i) (by omega)
  have q1 := slot_ok g (L0 l (L0 d i)) (hl.get _) kind S
  have fin : ∀ (f' : Fr) (mm : Int), (f'.get 0 = .sl rk vk 0 n 1 ∧ f'.get 1 = x ∧ f'.get 2 = o ∧ f'.get 3 = .int .i64 kind ∧ f'.get 4 = .int .i64 mm ∧ f'.get 13 = o ∧ f'.get 14 = .int .i64 (n : Int) ∧ f'.get 15 = .int .i64 ((i + 1 : Nat) : Int)) → MarkF f' rk vk n x o kind mm (i + 1) :=
    fun f' mm ⟨k1, k2, k3, k4, k5, k6, k7, k8⟩ => ⟨k1, k2, k3, k4, k5, k6, k7, k8⟩
  have c3 : iaddrSA 1 (.sl rk vk 0 n 1) (.int .i64 (L0 d i : Int)) = some (.ptr rk vk (0 + L0 d i * 1)) := by rw [iaS (by omega) (by omega), Int.toNat_natCast]
  have c4 := store_b hk (i := L0 d i) (by omega) true
  by_cases h0i : 0 < i
  · have c5 : binA .gtr (.int .i64 (i : Int)) (.int .i64 0) = some (.bool true) := gtr_t (by omega)
    have c6 : binA .sub (.int .i64 (i : Int)) (.int .i64 1) = some (.int .i64 ((i - 1 : Nat) : Int)) := sub_is (by omega) (by omega) (by omega)
    have hdj : L0 d (i - 1) < n := hlt.get (by omega)
    obtain ⟨a3, p5, p6⟩ := ho.get S (Off.refl S rk) (i - 1) (by omega)
    obtain ⟨a4, p7, p8⟩ := hx.get S (Old.refl B S) (L0 d (i - 1)) (by omega)
    have q2 := slot_ok g (L0 l (L0 d (i - 1))) (hl.get _) kind S
    by_cases he : slotN (L0 l (L0 d i)) kind = slotN (L0 l (L0 d (i - 1))) kind
    · have c7 : binA .eql (.int .u64 (slotN (L0 l (L0 d i)) kind : Int)) (.int .u64 (slotN (L0 l (L0 d (i - 1))) kind : Int)) = some (.bool true) := eql_t (by rw [he])
      simp only [if_pos (And.intro h0i he)]
      suffices hmid : Post (evC O 1000 policy_mark_l0 f S) (fun e f' T => e = .normal ∧ T = S ∧ f'.get 0 = .sl rk vk 0 n 1 ∧ f'.get 1 = x ∧ f'.get 2 = o ∧ f'.get 3 = .int .i64 kind ∧ f'.get 4 = .int .i64 many ∧ f'.get 13 = o ∧ f'.get 14 = .int .i64 (n : Int) ∧ f'.get 15 = .int .i64 ((i + 1 : Nat) : Int)) by
        refine hmid.mono ?_
        rintro e f' T ⟨k1, k2, k3⟩
        exact ⟨k1, k2, fin f' many k3⟩
      generalize ((i + 1 : Nat) : Int) = z1 at *
      generalize ((i - 1 : Nat) : Int) = z2 at *
      simp [policy_mark_l0, exM, orc, orcD, evF, evC_skip, evC_region, evC_cond, evC_exit, evC_ret, evOps, evOper, evAny, evOp, evCall, putR, putA, Fr.ev, Fr.of, Fr.get, Fr.set, stable, junkA, junkL, resultsA, resA, same, Post_seq, Post_block, Post_some, Fr.get_set, s0, s1, s2, s3, s4, s13, s14, s15, c1, c2, p1, p2, p3, p4, q1, h0, c5, c6, p5, p6, p7, p8, q2, c7]
    · have c7 : binA .eql (.int .u64 (slotN (L0 l (L0 d i)) kind : Int)) (.int .u64 (slotN (L0 l (L0 d (i - 1))) kind : Int)) = some (.bool false) := eql_f (by omega)
      simp only [if_neg (fun h : 0 < i ∧ slotN (L0 l (L0 d i)) kind = slotN (L0 l (L0 d (i - 1))) kind => he h.2)]
      by_cases hz : many ≤ 0
      · have c8 : binA .leq (.int .i64 many) (.int .i64 0) = some (.bool true) := leq_t hz
        simp only [if_pos hz]
        generalize ((i + 1 : Nat) : Int) = z1 at *
        generalize ((i - 1 : Nat) : Int) = z2 at *
        simp [policy_mark_l0, exM, orc, orcD, evF, evC_skip, evC_region, evC_cond, evC_exit, evC_ret, evOps, evOper, evAny, evOp, evCall, putR, putA, Fr.ev, Fr.of, Fr.get, Fr.set, stable, junkA, junkL, resultsA, resA, same, Post_seq, Post_block, Post_some, Fr.get_set, s0, s1, s2, s3, s4, s13, s14, s15, c1, c2, p1, p2, p3, p4, q1, h0, c5, c6, p5, p6, p7, p8, q2, c7, c8]
      · have c8 : binA .leq (.int .i64 many) (.int .i64 0) = some (.bool false) := leq_f (by omega)
        have c9 : binA .sub (.int .i64 many) (.int .i64 1) = some (.int .i64 (many - 1)) := sub_is rfl (by omega) (by omega)
        simp only [if_neg hz]
        suffices hmid : Post (evC O 1000 policy_mark_l0 f S) (fun e f' T => e = .normal ∧ T = S.set rk (.live vk (bc (ks.set (L0 d i) true))) ∧ f'.get 0 = .sl rk vk 0 n 1 ∧ f'.get 1 = x ∧ f'.get 2 = o ∧ f'.get 3 = .int .i64 kind ∧ f'.get 4 = .int .i64 (many - 1) ∧ f'.get 13 = o ∧ f'.get 14 = .int .i64 (n : Int) ∧ f'.get 15 = .int .i64 ((i + 1 : Nat) : Int)) by
          refine hmid.mono ?_
          rintro e f' T ⟨k1, k2, k3⟩
          exact ⟨k1, k2, fin f' (many - 1) k3⟩
        generalize ((i + 1 : Nat) : Int) = z1 at *
        generalize ((i - 1 : Nat) : Int) = z2 at *
        generalize S.set rk (.live vk (bc (ks.set (L0 d i) true))) = U at *
        generalize (0 + L0 d i * 1) = o1 at *
        simp [policy_mark_l0, exM, orc, orcD, evF, evC_skip, evC_region, evC_cond, evC_exit, evC_ret, evOps, evOper, evAny, evOp, evCall, putR, putA, Fr.ev, Fr.of, Fr.get, Fr.set, stable, junkA, junkL, resultsA, resA, same, Post_seq, Post_block, Post_some, Fr.get_set, s0, s1, s2, s3, s4, s13, s14, s15, c1, c2, p1, p2, p3, p4, q1, h0, c5, c6, p5, p6, p7, p8, q2, c7, c8, c9, c3, c4]
  · have c5 : binA .gtr (.int .i64 (i : Int)) (.int .i64 0) = some (.bool false) := gtr_f (by omega)
    simp only [if_neg (fun h : 0 < i ∧ slotN (L0 l (L0 d i)) kind = slotN (L0 l (L0 d (i - 1))) kind => h0i h.1)]
    by_cases hz : many ≤ 0
    · have c8 : binA .leq (.int .i64 many) (.int .i64 0) = some (.bool true) := leq_t hz
      simp only [if_pos hz]
      generalize ((i + 1 : Nat) : Int) = z1 at *
      simp [policy_mark_l0, exM, orc, orcD, evF, evC_skip, evC_region, evC_cond, evC_exit, evC_ret, evOps, evOper, evAny, evOp, evCall, putR, putA, Fr.ev, Fr.of, Fr.get, Fr.set, stable, junkA, junkL, resultsA, resA, same, Post_seq, Post_block, Post_some, Fr.get_set, s0, s1, s2, s3, s4, s13, s14, s15, c1, c2, p1, p2, p3, p4, q1, h0, c5, c8]
    · have c8 : binA .leq (.int .i64 many) (.int .i64 0) = some (.bool false) := leq_f (by omega)
      have c9 : binA .sub (.int .i64 many) (.int .i64 1) = some (.int .i64 (many - 1)) := sub_is rfl (by omega) (by omega)
      simp only [if_neg hz]
      suffices hmid : Post (evC O 1000 policy_mark_l0 f S) (fun e f' T => e = .normal ∧ T = S.set rk (.live vk (bc (ks.set (L0 d i) true))) ∧ f'.get 0 = .sl rk vk 0 n 1 ∧ f'.get 1 = x ∧ f'.get 2 = o ∧ f'.get 3 = .int .i64 kind ∧ f'.get 4 = .int .i64 (many - 1) ∧ f'.get 13 = o ∧ f'.get 14 = .int .i64 (n : Int) ∧ f'.get 15 = .int .i64 ((i + 1 : Nat) : Int)) by
        refine hmid.mono ?_
        rintro e f' T ⟨k1, k2, k3⟩
        exact ⟨k1, k2, fin f' (many - 1) k3⟩
      generalize ((i + 1 : Nat) : Int) = z1 at *
      generalize S.set rk (.live vk (bc (ks.set (L0 d i) true))) = U at *
      generalize (0 + L0 d i * 1) = o1 at *
      simp [policy_mark_l0, exM, orc, orcD, evF, evC_skip, evC_region, evC_cond, evC_exit, evC_ret, evOps, evOper, evAny, evOp, evCall, putR, putA, Fr.ev, Fr.of, Fr.get, Fr.set, stable, junkA, junkL, resultsA, resA, same, Post_seq, Post_block, Post_some, Fr.get_set, s0, s1, s2, s3, s4, s13, s14, s15, c1, c2, p1, p2, p3, p4, q1, h0, c5, c8, c9, c3, c4]
end Am.Pol
end

/- mark, and Keep. -/
section
namespace Am.Pol
open Am Go Am.Ir
set_option maxRecDepth 100000
attribute [local congr] Post_cg
attribute [local simp] ox oz kx kz og ogz kg kgz mo ai

def xMark (g : Nat) : Model := exM (orc [xSlot g]) policy_mark 1000
def slK (l : List Nat) (kind : Int) (i : Nat) : Nat := slotN (L0 l i) kind

theorem drop_L0 {d : List Nat} {i : Nat} (h : i < d.length) : d.drop i = L0 d i :: d.drop (i + 1) := by
  rw [List.drop_eq_getElem_cons h]
  simp [L0, List.getD_eq_getElem?_getD, List.getElem?_eq_getElem h]

theorem markL_len (sl : Nat → Nat) : ∀ (r : List Nat) (prev : Option Nat) (many : Int) (ks : List Bool), (markL sl prev many r ks).length = ks.length
  | [], _, _, _ => rfl
  | i :: r, prev, many, ks => by
    rw [markL]
    split
    · exact markL_len sl r _ _ _
    · split
      · rfl
      · rw [markL_len sl r]; simp

theorem mark_ok {B rk vk n g : Nat} {S : St} {x o : AVal} {l d : List Nat} {ks : List Bool} {kind many : Int}
    (hx : Times B S x l) (hl : U64 l) (ho : Ords S rk o d) (hd : d.length = n) (hln : l.length = n) (hlt : Lt d n) (hk : S[rk]? = some (.live vk (bc ks))) (hkn : ks.length = n) (hn : n < 900) (hB : B ≤ rk) (hm : many ≤ 9223372036854775807) :
    ∃ T, xMark g [.sl rk vk 0 n 1, x, o, .int .i64 kind, .int .i64 many] S = some (.tup [], T) ∧ T[rk]? = some (.live vk (bc (markL (slK l kind) none many d ks))) ∧ Off S T rk := by
  unfold xMark exM
  refine evF_postX (F := policy_mark) (R := fun T => T[rk]? = some (.live vk (bc (markL (slK l kind) none many d ks))) ∧ Off S T rk) rfl rfl ?_
  have key : ∀ f, MarkF f rk vk n x o kind many 0 → Post (evC (orc [xSlot g]) 1000 policy_mark_s1 f S) fun e f' T => (e = .normal ∨ e = .ret) ∧ (T[rk]? = some (.live vk (bc (markL (slK l kind) none many d ks))) ∧ Off S T rk) := by
    intro f hf
    refine loop_measR (O := orc [xSlot g]) (k := 1000) (id := 0) (b := policy_mark_l0) (m := n)
      (I := fun c f T => ∃ i mm kk, i + c = n ∧ T[rk]? = some (.live vk (bc kk)) ∧ Off S T rk ∧ MarkF f rk vk n x o kind mm i ∧ kk.length = n ∧ mm ≤ 9223372036854775807 ∧
        markL (slK l kind) (if i = 0 then none else some (slK l kind (L0 d (i - 1)))) mm (d.drop i) kk = markL (slK l kind) none many d ks)
      (Q := fun _ _ T => T[rk]? = some (.live vk (bc (markL (slK l kind) none many d ks))) ∧ Off S T rk) ?_ (by omega) ⟨0, many, ks, by omega, hk, Off.refl S rk, hf, hkn, hm, by simp⟩
    rintro c f T ⟨i, mm, kk, hc, hT, hO, hf, hkk, hmm, he⟩
    by_cases hi : i < n
    · have hd' := drop_L0 (d := d) (i := i) (by omega)
      rw [hd', markL] at he
      refine (mark_round rfl (hx.go (hO.old hB)) hl (ho.go hO) hd hln hlt hT hkk hn hi hmm hf).mono ?_
      intro e f' U hq
      by_cases h1 : 0 < i ∧ slotN (L0 l (L0 d i)) kind = slotN (L0 l (L0 d (i - 1))) kind
      · rw [if_pos h1] at hq
        obtain ⟨rfl, rfl, hf'⟩ := hq
        rw [if_pos (by rw [if_neg (by omega)]; unfold slK; rw [h1.2])] at he
        exact .inl ⟨rfl, c - 1, by omega, i + 1, mm, kk, by omega, hT, hO, hf', hkk, hmm, by rw [if_neg (by omega)]; simpa using he⟩
      · rw [if_neg h1] at hq
        have h1' : ¬ ((if i = 0 then none else some (slK l kind (L0 d (i - 1)))) = some (slK l kind (L0 d i))) := by
          intro h
          by_cases h0 : i = 0
          · rw [if_pos h0] at h; cases h
          · rw [if_neg h0] at h
            refine h1 ⟨by omega, ?_⟩
            unfold slK at h
            exact (Option.some.inj h).symm
        rw [if_neg h1'] at he
        by_cases h2 : mm ≤ 0
        · rw [if_pos h2] at hq he
          obtain ⟨rfl, rfl⟩ := hq
          exact .inr (.inr ⟨rfl, by rw [← he]; exact hT, hO⟩)
        · rw [if_neg h2] at hq he
          obtain ⟨rfl, rfl, hf'⟩ := hq
          exact .inl ⟨rfl, c - 1, by omega, i + 1, mm - 1, kk.set (L0 d i) true, by omega, by rw [List.getElem?_set_self (live_lt hT)], hO.trans (Off.set ..), hf', by simp [hkk], by omega, by rw [if_neg (by omega)]; simpa using he⟩
    · obtain ⟨s0, s1, s2, s3, s4, s13, s14, s15⟩ := hf
      have c1 : binA .lss (.int .i64 (i : Int)) (.int .i64 (n : Int)) = some (.bool false) := lss_f (by omega)
      rw [List.drop_of_length_le (by omega)] at he
      suffices hmid : Post (evC (orc [xSlot g]) 1000 policy_mark_l0 f T) (fun e f' U => e = .exit 0 ∧ U = T) by
        refine hmid.mono ?_
        rintro e f' U ⟨rfl, rfl⟩
        refine .inr (.inl ⟨rfl, ?_, hO⟩)
        rw [← he]; exact hT
      simp [policy_mark_l0, exM, orc, orcD, evF, evC_skip, evC_region, evC_cond, evC_exit, evC_ret, evOps, evOper, evAny, evOp, evCall, putR, putA, Fr.ev, Fr.of, Fr.get, Fr.set, stable, junkA, junkL, resultsA, resA, same, Post_seq, Post_block, Post_some, Fr.get_set, s14, s15, c1]
  have hlen := ho.len
  rw [hd] at hlen
  generalize (fun T : St => T[rk]? = some (.live vk (bc (markL (slK l kind) none many d ks))) ∧ Off S T rk) = R at *
  generalize orc [xSlot g] = O at *
  simp [policy_mark, exM, orc, orcD, evF, evC_skip, evC_region, evC_cond, evC_exit, evC_ret, evOps, evOper, evAny, evOp, evCall, putR, putA, Fr.ev, Fr.of, Fr.get, Fr.set, stable, junkA, junkL, resultsA, resA, same, Post_seq, Post_block, Post_some, hlen]
  refine (key _ ?_).mono ?_
  · exact ⟨by simp [Fr.get], by simp [Fr.get], by simp [Fr.get], by simp [Fr.get], by simp [Fr.get], by simp [Fr.get], by simp [Fr.get], by simp [Fr.get]⟩
  · intro e f T h
    simpa [resultsA] using h

/-- The last ones stay. -/
def lastL (last : Int) : Nat → List Nat → List Bool → List Bool
  | _, [], ks => ks
  | j, i :: r, ks => lastL last (j + 1) r (ks.set i (decide ((j : Int) < last)))

theorem lastL_len (last : Int) : ∀ (r : List Nat) (j : Nat) (ks : List Bool), (lastL last j r ks).length = ks.length
  | [], _, _ => rfl
  | i :: r, j, ks => by rw [lastL, lastL_len last r]; simp

/-- A policy. -/
structure Pc where
  last : Int
  hours : Int
  days : Int
  weeks : Int
  months : Int
def Pc.cells (p : Pc) : List AVal := [.int .i64 p.last, .int .i64 p.hours, .int .i64 p.days, .int .i64 p.weeks, .int .i64 p.months]
structure Pc.Ok (p : Pc) : Prop where
  last : p.last ≤ 9223372036854775807
  hours : p.hours ≤ 9223372036854775807
  days : p.days ≤ 9223372036854775807
  weeks : p.weeks ≤ 9223372036854775807
  months : p.months ≤ 9223372036854775807
def Pc.many (p : Pc) : Nat → Int
  | 0 => p.hours
  | 1 => p.days
  | 2 => p.weeks
  | _ => p.months

/-- What Keep reckons over an order. -/
def markN (l d : List Nat) (p : Pc) (ks : List Bool) : Nat → List Bool
  | 0 => ks
  | k + 1 => markL (slK l (k : Int)) none (p.many k) d (markN l d p ks k)
def keepL (l d : List Nat) (p : Pc) : List Bool := markN l d p (lastL p.last 0 d (List.replicate l.length false)) 4
theorem markN_len (l d : List Nat) (p : Pc) (ks : List Bool) : ∀ k, (markN l d p ks k).length = ks.length
  | 0 => rfl
  | k + 1 => by rw [markN, markL_len, markN_len l d p ks k]
theorem keepL_len (l d : List Nat) (p : Pc) : (keepL l d p).length = l.length := by rw [keepL, markN_len, lastL_len]; simp

structure KeepF (f : Fr) (rp rk vk n : Nat) (x o : AVal) : Prop where
  s0 : f.get 0 = x
  s3 : f.get 3 = .ptr rp 0 0
  s5 : f.get 5 = .sl rk vk 0 n 1
  s6 : f.get 6 = o

theorem last_loop {O : Orc} {rp rk vk n : Nat} {S : St} {x o : AVal} {d : List Nat} {ks : List Bool} {p : Pc} (ho : Ords S rk o d) (hd : d.length = n) (hlt : Lt d n) (hk : S[rk]? = some (.live vk (bc ks))) (hkn : ks.length = n) (hn : n < 900)
    (hp : S[rp]? = some (.live 0 p.cells)) (hpk : rp ≠ rk) {f : Fr} (hf : KeepF f rp rk vk n x o) (f16 : f.get 16 = o) (f17 : f.get 17 = .int .i64 (n : Int)) (f18 : f.get 18 = .int .i64 0) :
    ∃ f' T, evC O 1000 policy_Keep_s1 f S = some (.normal, f', T) ∧ T[rk]? = some (.live vk (bc (lastL p.last 0 d ks))) ∧ Off S T rk ∧ KeepF f' rp rk vk n x o := by
  refine loop_post (O := O) (k := 1000) (id := 0) (b := policy_Keep_l0)
    (I := fun i f T => KeepF f rp rk vk n x o ∧ f.get 16 = o ∧ f.get 17 = .int .i64 (n : Int) ∧ f.get 18 = .int .i64 (i : Int) ∧ Off S T rk ∧ ∃ kk, T[rk]? = some (.live vk (bc kk)) ∧ kk.length = n ∧ lastL p.last i (d.drop i) kk = lastL p.last 0 d ks)
    (Q := fun f T => T[rk]? = some (.live vk (bc (lastL p.last 0 d ks))) ∧ Off S T rk ∧ KeepF f rp rk vk n x o) n (by omega) ?_ ?_ ⟨hf, f16, f17, f18, Off.refl S rk, ks, hk, hkn, rfl⟩
  · rintro i hi f T ⟨hf, f16, f17, f18, hO, kk, hT, hkk, he⟩
    obtain ⟨s0, s3, s5, s6⟩ := hf
    have c1 : binA .lss (.int .i64 (i : Int)) (.int .i64 (n : Int)) = some (.bool true) := lss_t (by omega)
    have c2 : binA .add (.int .i64 (i : Int)) (.int .i64 1) = some (.int .i64 ((i + 1 : Nat) : Int)) := add_is (by omega) (by omega) (by omega)
    obtain ⟨a1, p1, p2⟩ := ho.get T hO i (by omega)
    have hdi : L0 d i < n := hlt.get (by omega)
    have hpT : T[rp]? = some (.live 0 p.cells) := by rw [hO.2 _ hpk]; exact hp
    have l1 : loadA none (.ptr rp 0 (0 + 0)) T = some (.int .i64 p.last) := by rw [load_c hpT]; rfl
    have c3 : binA .lss (.int .i64 (i : Int)) (.int .i64 p.last) = some (.bool (decide ((i : Int) < p.last))) := rfl
    have c4 : iaddrSA 1 (.sl rk vk 0 n 1) (.int .i64 (L0 d i : Int)) = some (.ptr rk vk (0 + L0 d i * 1)) := by rw [iaS (by omega) (by omega), Int.toNat_natCast]
    have c5 := store_b hT (i := L0 d i) (by omega) (decide ((i : Int) < p.last))
    rw [drop_L0 (by omega), lastL] at he
    suffices hmid : Post (evC O 1000 policy_Keep_l0 f T) (fun e f' U => e = .normal ∧ U = T.set rk (.live vk (bc (kk.set (L0 d i) (decide ((i : Int) < p.last))))) ∧ f'.get 0 = x ∧ f'.get 3 = .ptr rp 0 0 ∧ f'.get 5 = .sl rk vk 0 n 1 ∧ f'.get 6 = o ∧ f'.get 16 = o ∧ f'.get 17 = .int .i64 (n : Int) ∧ f'.get 18 = .int .i64 ((i + 1 : Nat) : Int)) by
      refine hmid.mono ?_
      rintro e f' U ⟨k1, rfl, k2, k3, k4, k5, k6, k7, k8⟩
      exact ⟨k1, ⟨k2, k3, k4, k5⟩, k6, k7, k8, hO.trans (Off.set ..), _, by rw [List.getElem?_set_self (live_lt hT)], by simp [hkk], he⟩
    generalize T.set rk (.live vk (bc (kk.set (L0 d i) (decide ((i : Int) < p.last))))) = U at *
    generalize decide ((i : Int) < p.last) = b1 at *
    generalize ((i + 1 : Nat) : Int) = z1 at *
    generalize (0 + L0 d i * 1) = o1 at *
    simp [policy_Keep_l0, exM, orc, orcD, evF, evC_skip, evC_region, evC_cond, evC_exit, evC_ret, evOps, evOper, evAny, evOp, evCall, putR, putA, Fr.ev, Fr.of, Fr.get, Fr.set, stable, junkA, junkL, resultsA, resA, same, Post_seq, Post_block, Post_some, Fr.get_set, faddrA, s0, s3, s5, s6, f16, f17, f18, c1, c2, p1, p2, l1, c3, c4, c5]
  · rintro f T ⟨hf, f16, f17, f18, hO, kk, hT, hkk, he⟩
    obtain ⟨s0, s3, s5, s6⟩ := hf
    have c1 : binA .lss (.int .i64 (n : Int)) (.int .i64 (n : Int)) = some (.bool false) := lss_f (by omega)
    rw [List.drop_of_length_le (by omega)] at he
    suffices hmid : Post (evC O 1000 policy_Keep_l0 f T) (fun e f' U => e = .exit 0 ∧ U = T ∧ f'.get 0 = x ∧ f'.get 3 = .ptr rp 0 0 ∧ f'.get 5 = .sl rk vk 0 n 1 ∧ f'.get 6 = o) by
      refine hmid.mono ?_
      rintro e f' U ⟨k1, rfl, k2, k3, k4, k5⟩
      exact ⟨k1, by rw [← he]; exact hT, hO, k2, k3, k4, k5⟩
    simp [policy_Keep_l0, exM, orc, orcD, evF, evC_skip, evC_region, evC_cond, evC_exit, evC_ret, evOps, evOper, evAny, evOp, evCall, putR, putA, Fr.ev, Fr.of, Fr.get, Fr.set, stable, junkA, junkL, resultsA, resA, same, Post_seq, Post_block, Post_some, Fr.get_set, s0, s3, s5, s6, f17, f18, c1]
end Am.Pol
end

/- Keep. -/
section
namespace Am.Pol
open Am Go Am.Ir
set_option maxRecDepth 100000
attribute [local congr] Post_cg
attribute [local simp] ox oz kx kz og ogz kg kgz mo ai

theorem marks_loop {O : Orc} {g : Nat} (h1 : O.loc[1]? = some (xMark g)) {B rp rk vk n : Nat} {S : St} {x o : AVal} {l d : List Nat} {ks : List Bool} {p : Pc} (hx : Times B S x l) (hl : U64 l) (ho : Ords S rk o d) (hd : d.length = n) (hln : l.length = n) (hlt : Lt d n) (hk : S[rk]? = some (.live vk (bc ks))) (hkn : ks.length = n) (hn : n < 900) (hB : B ≤ rk)
    (hok : p.Ok) {f : Fr} (hf : KeepF f rp rk vk n x o) (f39 : f.get 39 = .agg [.int .i64 p.hours, .int .i64 p.days, .int .i64 p.weeks, .int .i64 p.months]) (f40 : f.get 40 = .int .i64 0) :
    ∃ f' T, evC O 1000 policy_Keep_s3 f S = some (.normal, f', T) ∧ T[rk]? = some (.live vk (bc (markN l d p ks 4))) ∧ Off S T rk ∧ KeepF f' rp rk vk n x o := by
  refine loop_post (O := O) (k := 1000) (id := 2) (b := policy_Keep_l2)
    (I := fun i f T => KeepF f rp rk vk n x o ∧ f.get 39 = .agg [.int .i64 p.hours, .int .i64 p.days, .int .i64 p.weeks, .int .i64 p.months] ∧ f.get 40 = .int .i64 (i : Int) ∧ Off S T rk ∧ T[rk]? = some (.live vk (bc (markN l d p ks i))))
    (Q := fun f T => T[rk]? = some (.live vk (bc (markN l d p ks 4))) ∧ Off S T rk ∧ KeepF f rp rk vk n x o) 4 (by omega) ?_ ?_ ⟨hf, f39, f40, Off.refl S rk, hk⟩
  · rintro i hi f T ⟨hf, f39, f40, hO, hT⟩
    obtain ⟨s0, s3, s5, s6⟩ := hf
    have hmany : p.many i ≤ 9223372036854775807 := by
      obtain ⟨_, a, b, c, d⟩ := hok
      unfold Pc.many; split <;> assumption
    obtain ⟨U, g1, g2, g3⟩ := mark_ok (g := g) (kind := (i : Int)) (many := p.many i) (hx.go (hO.old hB)) hl (ho.go hO) hd hln hlt hT (by rw [markN_len]; exact hkn) hn hB hmany
    have c1 : binA .lss (.int .i64 (i : Int)) (.int .i64 4) = some (.bool true) := lss_t (by omega)
    have c2 : binA .add (.int .i64 (i : Int)) (.int .i64 1) = some (.int .i64 ((i + 1 : Nat) : Int)) := add_is (by omega) (by omega) (by omega)
    have c3 : partA none i [.int .i64 p.hours, .int .i64 p.days, .int .i64 p.weeks, .int .i64 p.months] = some (.int .i64 (p.many i)) := by
      obtain rfl | rfl | rfl | rfl : i = 0 ∨ i = 1 ∨ i = 2 ∨ i = 3 := by omega
      all_goals rfl
    have c4 : (i : Int) < 4 := by omega
    suffices hmid : Post (evC O 1000 policy_Keep_l2 f T) (fun e f' V => e = .normal ∧ V = U ∧ f'.get 0 = x ∧ f'.get 3 = .ptr rp 0 0 ∧ f'.get 5 = .sl rk vk 0 n 1 ∧ f'.get 6 = o ∧ f'.get 39 = .agg [.int .i64 p.hours, .int .i64 p.days, .int .i64 p.weeks, .int .i64 p.months] ∧ f'.get 40 = .int .i64 ((i + 1 : Nat) : Int)) by
      refine hmid.mono ?_
      rintro e f' V ⟨k1, rfl, k2, k3, k4, k5, k6, k7⟩
      exact ⟨k1, ⟨k2, k3, k4, k5⟩, k6, k7, hO.trans g3, g2⟩
    generalize ((i + 1 : Nat) : Int) = z1 at *
    generalize xMark g = m at *
    simp [policy_Keep_l2, exM, orc, orcD, evF, evC_skip, evC_region, evC_cond, evC_exit, evC_ret, evOps, evOper, evAny, evOp, evCall, putR, putA, Fr.ev, Fr.of, Fr.get, Fr.set, stable, junkA, junkL, resultsA, resA, same, Post_seq, Post_block, Post_some, Fr.get_set, s0, s3, s5, s6, f39, f40, c1, c2, c3, c4, h1, g1]
  · rintro f T ⟨hf, f39, f40, hO, hT⟩
    obtain ⟨s0, s3, s5, s6⟩ := hf
    have c1 : binA .lss (.int .i64 ((4 : Nat) : Int)) (.int .i64 4) = some (.bool false) := rfl
    suffices hmid : Post (evC O 1000 policy_Keep_l2 f T) (fun e f' U => e = .exit 2 ∧ U = T ∧ f'.get 0 = x ∧ f'.get 3 = .ptr rp 0 0 ∧ f'.get 5 = .sl rk vk 0 n 1 ∧ f'.get 6 = o) by
      refine hmid.mono ?_
      rintro e f' U ⟨k1, rfl, k2, k3, k4, k5⟩
      exact ⟨k1, hT, hO, k2, k3, k4, k5⟩
    generalize ((4 : Nat) : Int) = z1 at *
    simp [policy_Keep_l2, exM, orc, orcD, evF, evC_skip, evC_region, evC_cond, evC_exit, evC_ret, evOps, evOper, evAny, evOp, evCall, putR, putA, Fr.ev, Fr.of, Fr.get, Fr.set, stable, junkA, junkL, resultsA, resA, same, Post_seq, Post_block, Post_some, Fr.get_set, s0, s3, s5, s6, f40, c1]

theorem Times.more {B C : Nat} {S : St} {x : AVal} {l : List Nat} (h : Times B S x l) (hc : B ≤ C) : Times C S x l := ⟨h.len, fun T hT => h.get T (hT.less hc), h.cell⟩

def xKeep (k g : Nat) : Model := exM (orc [xNewest k, xMark g]) policy_Keep 1000

theorem Order.len {l d : List Nat} (h : Order l d) : d.length = l.length := by rw [h.1.length_eq]; simp
theorem Order.lt {l d : List Nat} (h : Order l d) : Lt d l.length := fun x hx => by simpa using h.1.mem_iff.1 hx

theorem keep_ok {B : Nat} {S : St} {x : AVal} {l : List Nat} (hx : Times B S x l) (hl : U64 l) (hB : S.length = B) (hn : l.length ≤ 30) (k g : Nat) {p : Pc} (hok : p.Ok) :
    ∃ T d, xKeep k g [x, .agg p.cells] S = some (.sl (B + 1) 0 0 l.length 1, T) ∧ T[B + 1]? = some (.live 0 (bc (keepL l d p))) ∧ Old B S T ∧ Order l d ∧ B + 1 < T.length := by
  obtain ⟨n, hnl⟩ : ∃ n, n = l.length := ⟨_, rfl⟩
  have hlen := hx.len
  rw [← hnl] at hlen hn ⊢
  have hS2 : Old B S (S ++ [ABlock.live 0 p.cells, ABlock.live 0 (bc (List.replicate n false))]) := by rw [← hB]; exact Old.app S _
  obtain ⟨T3, out, d, n1, n2, n3, n4, n5⟩ := newest_ok (B := B + 2) (S := S ++ [ABlock.live 0 p.cells, ABlock.live 0 (bc (List.replicate n false))]) ((hx.go hS2).more (by omega)) (by simp [hB]) (by omega) k
  have hT3 : Old B S T3 := hS2.trans (n2.less (by omega))
  have hd : d.length = n := by rw [n4.len, hnl]
  have hlt : Lt d n := by rw [hnl]; exact n4.lt
  have hp3 : T3[B]? = some (.live 0 p.cells) := by
    rw [n2 B (by omega), List.getElem?_append_right (by omega)]; simp [hB]
  have hk3 : T3[B + 1]? = some (.live 0 (bc (List.replicate n false))) := by
    rw [n2 (B + 1) (by omega), List.getElem?_append_right (by omega)]; simp [hB]
  have ho : Ords T3 (B + 1) out d := by
    rcases n5 with ⟨h1, rfl⟩ | ⟨r, v, h1, h2, rfl, h3⟩
    · have : d.length = 0 := by omega
      exact ⟨by rw [this]; rfl, fun T _ i hi => by omega⟩
    · refine ⟨by rw [hd, ← hnl]; rfl, fun T hT i hi => ⟨.ptr r v (0 + i * 1), ?_, ?_⟩⟩
      · rw [iaS (by omega) (by omega), Int.toNat_natCast]
      · have h4 : PL T r v d := ⟨by rw [hT.2 r (by omega)]; exact h3.at', h3.len⟩
        exact h4.load (getD_some hi)
  have hx3 : Times B T3 x l := hx.go hT3
  obtain ⟨T5, hev, hT5, hO5⟩ : ∃ T5, xKeep k g [x, .agg p.cells] S = some (.sl (B + 1) 0 0 n 1, T5) ∧ T5[B + 1]? = some (.live 0 (bc (keepL l d p))) ∧ Off T3 T5 (B + 1) := by
    unfold xKeep exM
    refine evF_postX (F := policy_Keep) (R := fun T5 => T5[B + 1]? = some (.live 0 (bc (keepL l d p))) ∧ Off T3 T5 (B + 1)) rfl rfl ?_
    have c1 : mkA 1 1 [.bool false] (.int .i64 (n : Int)) (.int .i64 (n : Int)) (S ++ [ABlock.live 0 p.cells]) = some (.sl (B + 1) 0 0 n 1, S ++ [ABlock.live 0 p.cells, ABlock.live 0 (bc (List.replicate n false))]) := by
      unfold mkA
      simp only []
      rw [if_pos ⟨by omega, by omega, by omega, by omega, rfl⟩]
      simp [hB, bc]
    have c2 : cells? (.agg p.cells) = some p.cells := rfl
    have key1 := fun f hf f16 f17 f18 => last_loop (O := orc [xNewest k, xMark g]) (rp := B) (rk := B + 1) (vk := 0) (n := n) (x := x) (p := p) (f := f) ho hd hlt hk3 (by simp) (by omega) hp3 (by omega) hf f16 f17 f18
    have l1 : loadA none (.ptr B 0 1) T3 = some (.int .i64 p.hours) := by rw [load_c hp3]; rfl
    have hol := ho.len
    rw [hd] at hol
    simp [policy_Keep, exM, orc, orcD, evF, evC_skip, evC_region, evC_cond, evC_exit, evC_ret, evOps, evOper, evAny, evOp, evCall, putR, putA, Fr.ev, Fr.of, Fr.get, Fr.set, stable, junkA, junkL, resultsA, resA, same, Post_seq, Post_block, Post_some, hlen, c1, c2, hB, n1]
    rw [show policy_Keep_t5 = .seq (.seq (.region none [mo 16 6, ox 17 (.len .sl (.t 16)), ox 18 (.mv (ai 0))]) policy_Keep_s1) policy_Keep_t4 from rfl]
    simp [exM, orc, orcD, evF, evC_skip, evC_region, evC_cond, evC_exit, evC_ret, evOps, evOper, evAny, evOp, evCall, putR, putA, Fr.ev, Fr.of, Fr.get, Fr.set, stable, junkA, junkL, resultsA, resA, same, Post_seq, Post_block, Post_some, hol]
    refine (Post.ran (key1 _ ?_ ?_ ?_ ?_)).mono ?_
    · exact ⟨by simp [Fr.get], by simp [Fr.get], by simp [Fr.get], by simp [Fr.get]⟩
    · simp [Fr.get]
    · simp [Fr.get]
    · simp [Fr.get]
    rintro _ f T4 ⟨rfl, hT4, hO4, hf4⟩
    have hp4 : T4[B]? = some (.live 0 p.cells) := by rw [hO4.2 B (by omega)]; exact hp3
    have m1 : loadA none (.ptr B 0 1) T4 = some (.int .i64 p.hours) := by rw [load_c hp4]; rfl
    have m2 : loadA none (.ptr B 0 2) T4 = some (.int .i64 p.days) := by rw [load_c hp4]; rfl
    have m3 : loadA none (.ptr B 0 3) T4 = some (.int .i64 p.weeks) := by rw [load_c hp4]; rfl
    have m4 : loadA none (.ptr B 0 4) T4 = some (.int .i64 p.months) := by rw [load_c hp4]; rfl
    have m5 : fillA [.int .i64 0, .int .i64 0, .int .i64 0, .int .i64 0] [(0, 1, .int .i64 p.hours), (1, 1, .int .i64 p.days), (2, 1, .int .i64 p.weeks), (3, 1, .int .i64 p.months)] = some [.int .i64 p.hours, .int .i64 p.days, .int .i64 p.weeks, .int .i64 p.months] := by simp [fillA, cells?, splice]
    have key2 := fun f hf f39 f40 => marks_loop (O := orc [xNewest k, xMark g]) (g := g) (rp := B) (rk := B + 1) (vk := 0) (n := n) (x := x) (p := p) (f := f) rfl (hx3.go (hO4.old (by omega))) hl (ho.go hO4) hd hnl.symm hlt hT4 (by rw [lastL_len]; simp) (by omega) (by omega) hok hf f39 f40
    obtain ⟨s0, s3, s5, s6⟩ := hf4
    rw [if_pos rfl]
    simp [policy_Keep_t4, exM, orc, orcD, evF, evC_skip, evC_region, evC_cond, evC_exit, evC_ret, evOps, evOper, evAny, evOp, evCall, putR, putA, Fr.ev, Fr.of, Fr.get, Fr.set, stable, junkA, junkL, resultsA, resA, same, Post_seq, Post_block, Post_some, Fr.get_set, faddrA, s0, s3, s5, s6, m1, m2, m3, m4, m5]
    refine (Post.ran (key2 _ ?_ ?_ ?_)).mono ?_
    · exact ⟨by simp [Fr.get_set, s0], by simp [Fr.get_set, s3], by simp [Fr.get_set, s5], by simp [Fr.get_set, s6]⟩
    · simp [Fr.get_set]
    · simp [Fr.get_set]
    rintro _ f5 T5 ⟨rfl, hT5, hO5, ⟨t0, t3, t5, t6⟩⟩
    rw [if_pos rfl]
    have hT5' : T5[B + 1]? = some (.live 0 (bc (keepL l d p))) := by unfold keepL; rw [← hnl]; exact hT5
    have hO5' := hO4.trans hO5
    generalize keepL l d p = kk at *
    simp [exM, orc, orcD, evF, evC_skip, evC_region, evC_cond, evC_exit, evC_ret, evOps, evOper, evAny, evOp, evCall, putR, putA, Fr.ev, Fr.of, Fr.get, Fr.set, stable, junkA, junkL, resultsA, resA, same, Post_seq, Post_block, Post_some, Fr.get_set, t5]
    exact ⟨hT5', hO5'⟩
  have hO5' : Old B S T5 := hT3.trans (hO5.old (by omega))
  refine ⟨T5, d, hev, hT5, hO5', n4, live_lt hT5⟩
end Am.Pol
end

/- Which times stay: the plain law. -/
section
namespace Am.Pol
set_option maxRecDepth 100000

theorem mof_ge : ∀ (k q a : Nat), q ≤ (mof k q a).1
  | 0, q, a => by rw [mof]; exact Nat.le_refl _
  | k + 1, q, a => by
    rw [mof_at]
    split
    · exact Nat.le_refl _
    · have := mof_ge k (q + 1) (a - mlen q); omega
theorem mof_mono : ∀ (k q a b : Nat), a ≤ b → (mof k q a).1 ≤ (mof k q b).1
  | 0, q, a, b, _ => by rw [mof, mof]; exact Nat.le_refl _
  | k + 1, q, a, b, h => by
    rw [mof_at, mof_at]
    by_cases hb : b < mlen q
    · rw [if_pos hb, if_pos (by omega)]; exact Nat.le_refl _
    · rw [if_neg hb]
      by_cases ha : a < mlen q
      · rw [if_pos ha]; have := mof_ge k (q + 1) (b - mlen q); show q ≤ _; omega
      · rw [if_neg ha]; exact mof_mono k (q + 1) _ _ (by omega)

theorem slotN_mono {a b : Nat} (h : a ≤ b) {k : Nat} (hk : k < 4) : slotN a (k : Int) ≤ slotN b (k : Int) := by
  have e1 : a / 86400 ≤ b / 86400 := Nat.div_le_div_right h
  obtain rfl | rfl | rfl | rfl : k = 0 ∨ k = 1 ∨ k = 2 ∨ k = 3 := by omega
  · exact Nat.div_le_div_right h
  · exact e1
  · show weekN a ≤ weekN b
    unfold weekN; exact Nat.div_le_div_right (by omega)
  · show monthN a ≤ monthN b
    unfold monthN; exact mof_mono _ _ _ _ e1

theorem bf.irr {L : Nat → Nat} {x : Nat} (h : bf L x x) : False := by unfold bf at h; omega
theorem bf.asym {L : Nat → Nat} {x y : Nat} (h : bf L x y) (h' : bf L y x) : False := (h.trans h').irr
theorem bf.tot {L : Nat → Nat} {x y : Nat} (h : x ≠ y) : bf L x y ∨ bf L y x := by unfold bf; omega
instance (L : Nat → Nat) (x y : Nat) : Decidable (bf L x y) := by unfold bf; exact inferInstance

theorem SB.nodup {L : Nat → Nat} {s : List Nat} (h : SB L s) : s.Nodup := List.Pairwise.imp (R := bf L) (S := fun a b => a ≠ b) (fun h e => by subst e; exact h.irr) h

theorem idx_ne {a i : Nat} {s : List Nat} (h : a ≠ i) : (a :: s).idxOf i = s.idxOf i + 1 := by
  have : (a == i) = false := by simpa using h
  simp [List.idxOf_cons, this]

/-- In a sorted list the place of an element tells how many stand ahead of it. -/
theorem SB.idx {L : Nat → Nat} : ∀ {s : List Nat} {i : Nat}, SB L s → i ∈ s → s.idxOf i = (s.filter fun j => decide (bf L j i)).length
  | [], _, _, hi => by simp at hi
  | a :: s, i, h, hi => by
    have h' := List.pairwise_cons.1 h
    by_cases e : a = i
    · subst e
      have : (a :: s).filter (fun j => decide (bf L j a)) = [] := by
        rw [List.filter_eq_nil_iff]
        intro x hx
        rcases List.mem_cons.1 hx with rfl | hx
        · simp; exact fun h => h.irr
        · simp; exact fun h2 => (h'.1 x hx).asym h2
      rw [this]; simp
    · have hi' : i ∈ s := by
        rcases List.mem_cons.1 hi with rfl | h
        · exact absurd rfl e
        · exact h
      have hb := h'.1 i hi'
      rw [idx_ne e, List.filter_cons_of_pos (by simpa using hb), SB.idx h'.2 hi']
      rfl

/-- The heads: the first of each slot. -/
def heads (sl : Nat → Nat) : Option Nat → List Nat → List Nat
  | _, [] => []
  | prev, i :: r => if prev = some (sl i) then heads sl (some (sl i)) r else i :: heads sl (some (sl i)) r
def setAll (xs : List Nat) (ks : List Bool) : List Bool := xs.foldl (fun ks i => ks.set i true) ks

theorem markL_heads (sl : Nat → Nat) : ∀ (r : List Nat) (prev : Option Nat) (many : Int) (ks : List Bool), markL sl prev many r ks = setAll ((heads sl prev r).take many.toNat) ks
  | [], _, _, _ => by simp [markL, heads, setAll]
  | i :: r, prev, many, ks => by
    rw [markL, heads]
    split
    · exact markL_heads sl r _ _ _
    · split
      · rename_i h; rw [show many.toNat = 0 by omega]; simp [setAll]
      · rename_i h
        rw [markL_heads sl r, show many.toNat = (many - 1).toNat + 1 by omega, List.take_succ_cons]
        simp [setAll]

theorem setAll_get : ∀ (xs : List Nat) (ks : List Bool) (i : Nat), i < ks.length → (setAll xs ks)[i]? = if i ∈ xs then some true else ks[i]?
  | [], ks, i, h => by simp [setAll]
  | a :: xs, ks, i, h => by
    have := setAll_get xs (ks.set a true) i (by simpa using h)
    rw [show setAll (a :: xs) ks = setAll xs (ks.set a true) from rfl, this]
    by_cases hx : i ∈ xs
    · simp [hx]
    · rw [if_neg hx, List.getElem?_set]
      by_cases e : a = i
      · subst e; rw [if_pos rfl, if_pos h]; simp
      · rw [if_neg e, if_neg]
        simp only [List.mem_cons]
        rintro (h | h)
        · exact e h.symm
        · exact hx h

theorem heads_sub (sl : Nat → Nat) : ∀ (r : List Nat) (prev : Option Nat), (heads sl prev r).Sublist r
  | [], _ => by simp [heads]
  | i :: r, prev => by
    rw [heads]
    split
    · exact (heads_sub sl r _).cons i
    · exact (heads_sub sl r _).cons₂ i

theorem heads_mem (sl : Nat → Nat) {L : Nat → Nat} : ∀ (r : List Nat) (prev : Option Nat), SB L r → r.Pairwise (fun x y => sl y ≤ sl x) → (∀ p, prev = some p → ∀ x ∈ r, sl x ≤ p) →
    ∀ i, i ∈ heads sl prev r ↔ (i ∈ r ∧ prev ≠ some (sl i) ∧ ∀ j ∈ r, bf L j i → sl j ≠ sl i)
  | [], _, _, _, _, i => by simp [heads]
  | a :: r, prev, hs, hm, hp, i => by
    have hs' := List.pairwise_cons.1 hs
    have hm' := List.pairwise_cons.1 hm
    have ih := heads_mem sl (L := L) r (some (sl a)) hs'.2 hm'.2 (by intro p hp x hx; cases hp; exact hm'.1 x hx) i
    rw [heads]
    by_cases e : prev = some (sl a)
    · rw [if_pos e, ih]
      constructor
      · rintro ⟨h1, h2, h3⟩
        refine ⟨by simp [h1], by rw [e]; exact h2, fun j hj hb => ?_⟩
        rcases List.mem_cons.1 hj with rfl | hj
        · intro h; exact h2 (by rw [h])
        · exact h3 j hj hb
      · rintro ⟨h1, h2, h3⟩
        rcases List.mem_cons.1 h1 with rfl | h1
        · exact absurd e h2
        · exact ⟨h1, by rw [← e]; exact h2, fun j hj => h3 j (by simp [hj])⟩
    · rw [if_neg e, List.mem_cons, ih]
      constructor
      · rintro (rfl | ⟨h1, h2, h3⟩)
        · refine ⟨by simp, e, fun j hj hb => ?_⟩
          rcases List.mem_cons.1 hj with rfl | hj
          · exact hb.irr.elim
          · exact ((hs'.1 j hj).asym hb).elim
        · refine ⟨by simp [h1], ?_, fun j hj hb => ?_⟩
          · intro h
            have q1 := hp _ h a (by simp)
            have q2 := hm'.1 i h1
            have : sl a = sl i := by omega
            exact e (by rw [h, this])
          · rcases List.mem_cons.1 hj with rfl | hj
            · intro h; exact h2 (by rw [h])
            · exact h3 j hj hb
      · rintro ⟨h1, h2, h3⟩
        rcases List.mem_cons.1 h1 with rfl | h1
        · exact .inl rfl
        · refine .inr ⟨h1, ?_, fun j hj => h3 j (by simp [hj])⟩
          intro h
          exact h3 a (by simp) (hs'.1 i h1) (Option.some.inj h)

theorem lastL_get (last : Int) : ∀ (r : List Nat) (j : Nat) (ks : List Bool) (i : Nat), r.Nodup → i < ks.length → (lastL last j r ks)[i]? = if i ∈ r then some (decide (((j + r.idxOf i : Nat) : Int) < last)) else ks[i]?
  | [], j, ks, i, _, _ => by simp [lastL]
  | a :: r, j, ks, i, hn, hi => by
    have hn' := List.nodup_cons.1 hn
    rw [lastL, lastL_get last r (j + 1) _ i hn'.2 (by simpa using hi)]
    by_cases e : a = i
    · subst e
      rw [if_neg hn'.1, if_pos (by simp), List.getElem?_set_self hi]; simp
    · by_cases hr : i ∈ r
      · rw [if_pos hr, if_pos (by simp [hr]), idx_ne e]
        congr 3; omega
      · rw [if_neg hr, if_neg (by simp [hr, Ne.symm e]), List.getElem?_set, if_neg e]
end Am.Pol
end

/- Which times stay: the plain law, by definition. -/
section
namespace Am.Pol
set_option maxRecDepth 100000

def rankN (l : List Nat) (i : Nat) : Nat := ((List.range l.length).filter fun j => decide (bf (L0 l) j i)).length
/-- No greater time is of the same slot. -/
def headB (l : List Nat) (k i : Nat) : Bool := (List.range l.length).all fun j => !(decide (bf (L0 l) j i) && slK l k j == slK l k i)
def firstB (l : List Nat) (k j : Nat) : Bool := (List.range j).all fun i => !(slK l k i == slK l k j)
def behN (l : List Nat) (k i : Nat) : Nat := ((List.range l.length).filter fun j => firstB l k j && decide (slK l k i < slK l k j)).length
def stayB (l : List Nat) (p : Pc) (i : Nat) : Bool := decide ((rankN l i : Int) < p.last) || (List.range 4).any fun k => headB l k i && decide ((behN l k i : Int) < p.many k)

theorem headB_iff {l : List Nat} {k i : Nat} : headB l k i = true ↔ ∀ j, j < l.length → bf (L0 l) j i → slK l k j ≠ slK l k i := by
  simp [headB]
  grind
theorem firstB_iff {l : List Nat} {k j : Nat} : firstB l k j = true ↔ ∀ i, i < j → slK l k i ≠ slK l k j := by
  simp [firstB]

theorem slK_mono {l : List Nat} {i j k : Nat} (hk : k < 4) (h : L0 l i ≤ L0 l j) : slK l k i ≤ slK l k j := slotN_mono h hk

theorem Order.mem {l d : List Nat} (h : Order l d) (i : Nat) : i ∈ d ↔ i < l.length := by rw [h.1.mem_iff]; simp
theorem Order.rank {l d : List Nat} (h : Order l d) {i : Nat} (hi : i < l.length) : d.idxOf i = rankN l i := by
  rw [h.2.idx ((h.mem i).2 hi), rankN]
  exact (h.1.filter _).length_eq

theorem Order.anti {l d : List Nat} (h : Order l d) {k : Nat} (hk : k < 4) : d.Pairwise fun x y => slK l k y ≤ slK l k x :=
  List.Pairwise.imp (R := bf (L0 l)) (fun hb => slK_mono hk hb.le) h.2

theorem Order.head {l d : List Nat} (h : Order l d) {k : Nat} (hk : k < 4) (i : Nat) : i ∈ heads (slK l k) none d ↔ i < l.length ∧ headB l k i = true := by
  rw [heads_mem (slK l k) d none h.2 (h.anti hk) (by simp), h.mem, headB_iff]
  constructor
  · rintro ⟨a, _, c⟩; exact ⟨a, fun j hj => c j ((h.mem j).2 hj)⟩
  · rintro ⟨a, c⟩; exact ⟨a, by simp, fun j hj => c j ((h.mem j).1 hj)⟩

/-- Each slot has a head. -/
theorem Order.hasHead {l d : List Nat} (h : Order l d) {k : Nat} (hk : k < 4) {j : Nat} (hj : j < l.length) : ∃ i, i ∈ heads (slK l k) none d ∧ slK l k i = slK l k j := by
  have hsome : (d.find? fun x => slK l k x == slK l k j).isSome := by
    rw [List.find?_isSome]; exact ⟨j, (h.mem j).2 hj, by simp⟩
  obtain ⟨i, hi⟩ := Option.isSome_iff_exists.1 hsome
  rw [List.find?_eq_some_iff_append] at hi
  obtain ⟨h1, as, bs, h2, h3⟩ := hi
  have h1 : slK l k i = slK l k j := by simpa using h1
  refine ⟨i, ?_, h1⟩
  have hid : i ∈ d := by rw [h2]; simp
  rw [heads_mem (slK l k) d none h.2 (h.anti hk) (by simp)]
  refine ⟨hid, by simp, fun x hx hb e => ?_⟩
  have hs := h.2
  rw [h2] at hx hs
  rcases List.mem_append.1 hx with hx | hx
  · have := h3 x hx; simp [e, h1] at this
  · rcases List.mem_cons.1 hx with rfl | hx
    · exact hb.irr
    · exact ((List.pairwise_cons.1 hs.snd).1 x hx).asym hb

theorem hasFirst {l : List Nat} {k j : Nat} (hj : j < l.length) : ∃ i, i < l.length ∧ firstB l k i = true ∧ slK l k i = slK l k j := by
  have hsome : ((List.range l.length).find? fun x => slK l k x == slK l k j).isSome := by
    rw [List.find?_isSome]; exact ⟨j, by simpa using hj, by simp⟩
  obtain ⟨i, hi⟩ := Option.isSome_iff_exists.1 hsome
  rw [List.find?_eq_some_iff_append] at hi
  obtain ⟨h1, as, bs, h2, h3⟩ := hi
  have h1 : slK l k i = slK l k j := by simpa using h1
  have him : i ∈ List.range l.length := by rw [h2]; simp
  refine ⟨i, by simpa using him, firstB_iff.2 fun x hx e => ?_, h1⟩
  have hil : i < l.length := by simpa using him
  have hxm : x ∈ List.range l.length := by simp; omega
  have hlt := @List.pairwise_lt_range l.length
  rw [h2] at hxm hlt
  rcases List.mem_append.1 hxm with hx' | hx'
  · have := h3 x hx'; simp [e, h1] at this
  · rcases List.mem_cons.1 hx' with rfl | hx'
    · omega
    · have := (List.pairwise_cons.1 (List.pairwise_append.1 hlt).2.1).1 x hx'; omega

theorem Order.beh {l d : List Nat} (h : Order l d) {k : Nat} (hk : k < 4) {i : Nat} (hi : i ∈ heads (slK l k) none d) : (heads (slK l k) none d).idxOf i = behN l k i := by
  obtain ⟨hil, hih⟩ := (h.head hk i).1 hi
  rw [headB_iff] at hih
  have hsb : SB (L0 l) (heads (slK l k) none d) := List.Pairwise.sublist (heads_sub _ _ _) h.2
  rw [hsb.idx hi, behN]
  have n1 : (((heads (slK l k) none d).filter fun j => decide (bf (L0 l) j i)).map (slK l k)).Nodup := by
    unfold List.Nodup
    rw [List.pairwise_map]
    refine List.Pairwise.sublist (List.filter_sublist ..) ?_
    refine List.Pairwise.imp_of_mem ?_ hsb
    intro a b ha hb hab
    exact (headB_iff.1 ((h.head hk b).1 hb).2) a ((h.head hk a).1 ha).1 hab
  have n2 : (((List.range l.length).filter fun j => firstB l k j && decide (slK l k i < slK l k j)).map (slK l k)).Nodup := by
    unfold List.Nodup
    rw [List.pairwise_map]
    refine List.Pairwise.imp_of_mem ?_ (List.Pairwise.sublist (List.filter_sublist ..) (@List.pairwise_lt_range l.length))
    intro a b ha hb hab
    have hb' := (List.mem_filter.1 hb).2
    simp only [Bool.and_eq_true] at hb'
    exact firstB_iff.1 hb'.1 a hab
  have hp := (List.perm_ext_iff_of_nodup n1 n2).2 fun s => by
    simp only [List.mem_map, List.mem_filter, decide_eq_true_eq, Bool.and_eq_true, List.mem_range]
    constructor
    · rintro ⟨x, ⟨hx, hb⟩, rfl⟩
      have hxl := ((h.head hk x).1 hx).1
      obtain ⟨j, j1, j2, j3⟩ := hasFirst (k := k) hxl
      refine ⟨j, ⟨j1, j2, ?_⟩, j3⟩
      have q1 := slK_mono hk hb.le
      have q2 := hih x hxl hb
      omega
    · rintro ⟨j, ⟨j1, j2, j3⟩, rfl⟩
      obtain ⟨x, x1, x2⟩ := h.hasHead hk j1
      refine ⟨x, ⟨x1, ?_⟩, x2⟩
      refine .inl ?_
      have : ¬ L0 l x ≤ L0 l i := fun hle => by
        have := slK_mono hk hle; omega
      omega
  have := hp.length_eq
  simpa using this

theorem mem_take_idx : ∀ {xs : List Nat} {m i : Nat}, i ∈ xs.take m ↔ i ∈ xs ∧ xs.idxOf i < m
  | [], m, i => by simp
  | a :: xs, 0, i => by simp
  | a :: xs, m + 1, i => by
    rw [List.take_succ_cons, List.mem_cons, List.mem_cons]
    by_cases e : a = i
    · subst e; simp
    · rw [idx_ne e, mem_take_idx]
      constructor
      · rintro (h | ⟨h1, h2⟩)
        · exact absurd h.symm e
        · exact ⟨.inr h1, by omega⟩
      · rintro ⟨h | h1, h2⟩
        · exact absurd h.symm e
        · exact .inr ⟨h1, by omega⟩

theorem markN_get {l d : List Nat} (h : Order l d) (p : Pc) {ks : List Bool} (hks : ks.length = l.length) {i : Nat} (hi : i < l.length) : ∀ m, m ≤ 4 → (markN l d p ks m)[i]? = if (List.range m).any (fun k => headB l k i && decide ((behN l k i : Int) < p.many k)) = true then some true else ks[i]?
  | 0, _ => by simp [markN]
  | m + 1, hm => by
    rw [markN, markL_heads, setAll_get _ _ _ (by rw [markN_len, hks]; exact hi), markN_get h p hks hi m (by omega), List.range_succ, List.any_append]
    have hm' : i ∈ (heads (slK l m) none d).take (p.many m).toNat ↔ (i < l.length ∧ headB l m i = true) ∧ (heads (slK l m) none d).idxOf i < (p.many m).toNat := by rw [mem_take_idx, h.head (by omega)]
    by_cases hh : headB l m i = true
    · rw [h.beh (by omega) ((h.head (by omega) i).2 ⟨hi, hh⟩)] at hm'
      by_cases hb : (behN l m i : Int) < p.many m
      · rw [if_pos (hm'.2 ⟨⟨hi, hh⟩, by omega⟩), if_pos (by simp [hh, hb])]
      · rw [if_neg (fun q => hb (by have := (hm'.1 q).2; omega))]
        simp [hb]
    · rw [if_neg (fun q => hh (hm'.1 q).1.2)]
      simp [hh]

theorem keepL_get {l d : List Nat} (h : Order l d) (p : Pc) {i : Nat} (hi : i < l.length) : (keepL l d p)[i]? = some (stayB l p i) := by
  have hnd : d.Nodup := h.2.nodup
  rw [keepL, markN_get h p (by rw [lastL_len]; simp) hi 4 (Nat.le_refl _), lastL_get _ _ _ _ _ hnd (by simpa using hi), if_pos ((h.mem i).2 hi), h.rank hi, stayB]
  by_cases hc : (List.range 4).any (fun k => headB l k i && decide ((behN l k i : Int) < p.many k)) = true
  · rw [if_pos hc, hc]; simp
  · rw [if_neg hc]
    simp only [Bool.not_eq_true] at hc
    rw [hc]; simp

def stays (l : List Nat) (p : Pc) : List Bool := (List.range l.length).map (stayB l p)
theorem keepL_eq {l d : List Nat} (h : Order l d) (p : Pc) : keepL l d p = stays l p := by
  refine List.ext_getElem? fun i => ?_
  by_cases hi : i < l.length
  · rw [keepL_get h p hi, stays]; simp [hi]
  · rw [List.getElem?_eq_none (by rw [keepL_len]; omega), List.getElem?_eq_none (by simp [stays]; omega)]
end Am.Pol
end

/- The document's greater, and behind. -/
section
namespace Am.Pol
open Am Go Am.Ir
set_option maxRecDepth 100000
attribute [local congr] Post_cg
attribute [local simp] ox oz kx kz og ogz kg kgz mo ai

def xGreater : Model := exM (orc []) r30_greater 10

theorem greater_ok {B : Nat} {x : AVal} {l : List Nat} {S : St} (h : Times B S x l) {i j : Nat} (hi : i < l.length) (hj : j < l.length) :
    xGreater [x, .int .i64 (i : Int), .int .i64 (j : Int)] S = some (.bool (decide (bf (L0 l) i j)), S) := by
  obtain ⟨a, a1, a2⟩ := h.get S (Old.refl B S) i hi
  obtain ⟨b, b1, b2⟩ := h.get S (Old.refl B S) j hj
  unfold xGreater exM
  by_cases c1 : L0 l j < L0 l i
  · have d1 : binA .gtr (.int .u64 (L0 l i : Int)) (.int .u64 (L0 l j : Int)) = some (.bool true) := gtr_t (by omega)
    have e : decide (bf (L0 l) i j) = true := by simp [bf, c1]
    refine evF_post (F := r30_greater) rfl rfl ?_
    rw [e]
    simp [r30_greater, exM, orc, orcD, evF, evC_skip, evC_region, evC_cond, evC_exit, evC_ret, evOps, evOper, evAny, evOp, evCall, putR, putA, Fr.ev, Fr.of, Fr.get, Fr.set, stable, junkA, junkL, resultsA, resA, same, Post_seq, Post_block, Post_some, a1, a2, b1, b2, d1]
  · have d1 : binA .gtr (.int .u64 (L0 l i : Int)) (.int .u64 (L0 l j : Int)) = some (.bool false) := gtr_f (by omega)
    by_cases c2 : L0 l i = L0 l j
    · have d2 : binA .eql (.int .u64 (L0 l i : Int)) (.int .u64 (L0 l j : Int)) = some (.bool true) := eql_t (by omega)
      have d3 : binA .lss (.int .i64 (i : Int)) (.int .i64 (j : Int)) = some (.bool (decide (bf (L0 l) i j))) := by
        by_cases c3 : i < j
        · rw [lss_t (by omega)]; simp [bf, c2, c3]
        · rw [lss_f (by omega)]; simp [bf, c2, c3]
      refine evF_post (F := r30_greater) rfl rfl ?_
      generalize decide (bf (L0 l) i j) = t at *
      simp [r30_greater, exM, orc, orcD, evF, evC_skip, evC_region, evC_cond, evC_exit, evC_ret, evOps, evOper, evAny, evOp, evCall, putR, putA, Fr.ev, Fr.of, Fr.get, Fr.set, stable, junkA, junkL, resultsA, resA, same, Post_seq, Post_block, Post_some, a1, a2, b1, b2, d1, d2, d3]
    · have d2 : binA .eql (.int .u64 (L0 l i : Int)) (.int .u64 (L0 l j : Int)) = some (.bool false) := eql_f (by omega)
      have e : decide (bf (L0 l) i j) = false := by
        rw [decide_eq_false_iff_not]
        rintro (h | ⟨h, _⟩)
        · exact c1 h
        · exact c2 h
      refine evF_post (F := r30_greater) rfl rfl ?_
      rw [e]
      simp [r30_greater, exM, orc, orcD, evF, evC_skip, evC_region, evC_cond, evC_exit, evC_ret, evOps, evOper, evAny, evOp, evCall, putR, putA, Fr.ev, Fr.of, Fr.get, Fr.set, stable, junkA, junkL, resultsA, resA, same, Post_seq, Post_block, Post_some, a1, a2, b1, b2, d1, d2]

def oBehind : Orc := orc [mSlot2, xGreater]

structure BehF (f : Fr) (x : AVal) (i k s j : Nat) (n : Nat) : Prop where
  s0 : f.get 0 = x
  s1 : f.get 1 = .int .i64 (i : Int)
  s2 : f.get 2 = .int .i64 (k : Int)
  s8 : f.get 8 = .int .i64 (n : Int)
  s9 : f.get 9 = .int .u64 (s : Int)
  s10 : f.get 10 = .int .i64 (j : Int)

theorem first_round {B : Nat} {x : AVal} {l : List Nat} {S : St} (h : Times B S x l) (hl : U64 l) (hn : l.length < 900) {i k s j n m : Nat} (hj : j < l.length) (hm : m < j) {f : Fr} (hf : BehF f x i k s j n) {t : Bool} (f11 : f.get 11 = .bool t) (f12 : f.get 12 = .int .i64 (m : Int)) :
    Post (evC oBehind 1000 r30_behind_l0 f S) fun e f' T => e = .normal ∧ T = S ∧ BehF f' x i k s j n ∧ f'.get 11 = .bool (t && !(slK l k m == slK l k j)) ∧ f'.get 12 = .int .i64 ((m + 1 : Nat) : Int) := by
  obtain ⟨a, a1, a2⟩ := h.get S (Old.refl B S) m (by omega)
  obtain ⟨b, b1, b2⟩ := h.get S (Old.refl B S) j hj
  have q1 := slot2_ok (L0 l m) (hl.get _) (k : Int) S
  have q2 := slot2_ok (L0 l j) (hl.get _) (k : Int) S
  obtain ⟨s0, s1, s2, s8, s9, s10⟩ := hf
  have c1 : binA .lss (.int .i64 (m : Int)) (.int .i64 (j : Int)) = some (.bool true) := lss_t (by omega)
  have c2 : binA .add (.int .i64 (m : Int)) (.int .i64 1) = some (.int .i64 ((m + 1 : Nat) : Int)) := add_is (by omega) (by omega) (by omega)
  have c3 : binA .neq (.int .u64 (slotN (L0 l m) k : Int)) (.int .u64 (slotN (L0 l j) k : Int)) = some (.bool (!(slK l k m == slK l k j))) := by
    unfold slK
    by_cases e : slotN (L0 l m) k = slotN (L0 l j) k
    · rw [neq_f (by omega)]; simp [e]
    · rw [neq_t (by omega)]; simp [e]
  suffices hmid : Post (evC oBehind 1000 r30_behind_l0 f S) (fun e f' T => e = .normal ∧ T = S ∧ (f'.get 0 = x ∧ f'.get 1 = .int .i64 (i : Int) ∧ f'.get 2 = .int .i64 (k : Int) ∧ f'.get 8 = .int .i64 (n : Int) ∧ f'.get 9 = .int .u64 (s : Int) ∧ f'.get 10 = .int .i64 (j : Int)) ∧ f'.get 11 = .bool (t && !(slK l k m == slK l k j)) ∧ f'.get 12 = .int .i64 ((m + 1 : Nat) : Int)) by
    refine hmid.mono ?_
    rintro e f' T ⟨k1, k2, ⟨k3, k4, k5, k6, k7, k8⟩, k9⟩
    exact ⟨k1, k2, ⟨k3, k4, k5, k6, k7, k8⟩, k9⟩
  generalize ((m + 1 : Nat) : Int) = z1 at *
  generalize (slK l k m == slK l k j) = u at *
  unfold oBehind
  generalize mSlot2 = ms at *
  generalize xGreater = mg at *
  cases t
  · simp [r30_behind_l0, exM, orc, orcD, evF, evC_skip, evC_region, evC_cond, evC_exit, evC_ret, evOps, evOper, evAny, evOp, evCall, putR, putA, Fr.ev, Fr.of, Fr.get, Fr.set, stable, junkA, junkL, resultsA, resA, same, Post_seq, Post_block, Post_some, Fr.get_set, s0, s1, s2, s8, s9, s10, f11, f12, c1, c2, trL, sameRead, sameVal, beqV]
  · simp [r30_behind_l0, exM, orc, orcD, evF, evC_skip, evC_region, evC_cond, evC_exit, evC_ret, evOps, evOper, evAny, evOp, evCall, putR, putA, Fr.ev, Fr.of, Fr.get, Fr.set, stable, junkA, junkL, resultsA, resA, same, Post_seq, Post_block, Post_some, Fr.get_set, s0, s1, s2, s8, s9, s10, f11, f12, c1, c2, c3, a1, a2, b1, b2, q1, q2, trL, sameRead, sameVal, beqV]

theorem first_loop {B : Nat} {x : AVal} {l : List Nat} {S : St} (h : Times B S x l) (hl : U64 l) (hn : l.length < 900) {i k s j n : Nat} (hj : j < l.length) {f : Fr} (hf : BehF f x i k s j n) (f11 : f.get 11 = .bool true) (f12 : f.get 12 = .int .i64 0) :
    ∃ f' T, evC oBehind 1000 r30_behind_s1 f S = some (.normal, f', T) ∧ T = S ∧ BehF f' x i k s j n ∧ f'.get 11 = .bool (firstB l k j) := by
  refine loop_post (O := oBehind) (k := 1000) (id := 2) (b := r30_behind_l0)
    (I := fun m f T => T = S ∧ BehF f x i k s j n ∧ f.get 11 = .bool ((List.range m).all fun i => !(slK l k i == slK l k j)) ∧ f.get 12 = .int .i64 (m : Int))
    (Q := fun f T => T = S ∧ BehF f x i k s j n ∧ f.get 11 = .bool (firstB l k j)) j (by omega) ?_ ?_ ⟨rfl, hf, f11, f12⟩
  · rintro m hm f T ⟨hT, hf, f11, f12⟩
    rw [hT]
    refine (first_round h hl hn hj hm hf f11 f12).mono ?_
    rintro e f' U ⟨k1, k2, k3, k4, k5⟩
    refine ⟨k1, k2, k3, ?_, k5⟩
    rw [k4, List.range_succ, List.all_append]; simp
  · rintro f T ⟨rfl, hf, f11, f12⟩
    obtain ⟨s0, s1, s2, s8, s9, s10⟩ := hf
    have c1 : binA .lss (.int .i64 (j : Int)) (.int .i64 (j : Int)) = some (.bool false) := lss_f (by omega)
    suffices hmid : Post (evC oBehind 1000 r30_behind_l0 f T) (fun e f' U => e = .exit 2 ∧ U = T ∧ (f'.get 0 = x ∧ f'.get 1 = .int .i64 (i : Int) ∧ f'.get 2 = .int .i64 (k : Int) ∧ f'.get 8 = .int .i64 (n : Int) ∧ f'.get 9 = .int .u64 (s : Int) ∧ f'.get 10 = .int .i64 (j : Int)) ∧ f'.get 11 = .bool (firstB l k j)) by
      refine hmid.mono ?_
      rintro e f' U ⟨k1, k2, ⟨k3, k4, k5, k6, k7, k8⟩, k9⟩
      exact ⟨k1, k2, ⟨k3, k4, k5, k6, k7, k8⟩, k9⟩
    have f11' : f.get 11 = .bool (firstB l k j) := f11
    generalize firstB l k j = u at *
    simp [r30_behind_l0, exM, orc, orcD, evF, evC_skip, evC_region, evC_cond, evC_exit, evC_ret, evOps, evOper, evAny, evOp, evCall, putR, putA, Fr.ev, Fr.of, Fr.get, Fr.set, stable, junkA, junkL, resultsA, resA, same, Post_seq, Post_block, Post_some, Fr.get_set, s0, s1, s2, s8, s9, s10, f11', f12, c1]
end Am.Pol
end

