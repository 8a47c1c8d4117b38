/- NetFates: the law over the machine. -/
import Derived.Test.YtcecdoaddhgohaaAmNet6
import Derived.Test.YtcecdoaddhgohaaAmLoop
set_option linter.all false
namespace Am.Net
open Am Go Am.Ir
set_option maxRecDepth 100000

def IsB (x : AVal) (u : List UInt8) : Prop := (x = .nils ∧ u = []) ∨ x = .fz false u.length (bcells u)

theorem IsB.arg {x : AVal} {u : List UInt8} (h : IsB x u) (S : St) : BytesA S x u := by
  rcases h with h | rfl
  · exact .inl h
  · exact .inr ⟨rfl, by simp [cellsOf, bcells_len], rfl⟩

theorem IsB.bytes {x : AVal} {u : List UInt8} (h : IsB x u) (S : St) : bytesA x S = some u := by
  rcases h with ⟨rfl, rfl⟩ | rfl
  · rfl
  · simp [bytesA, cellsOf, bcells_len, asBytes_bcells]

theorem IsB.fz {x : AVal} {u : List UInt8} (h : IsB x u) (h0 : u ≠ []) : x = .fz false u.length (bcells u) := by
  rcases h with ⟨_, rfl⟩ | h
  · exact absurd rfl h0
  · exact h

abbrev fO : Orc := orc [xNew, mAlive, xSend, xTake, xWaits]

theorem new0 : xNew [] [] = some (.ptr 0 0 0, [.live 0 [.nils, .nils]]) := new_ok []

/-- The loop of NetFates: places where both are unlike. -/
theorem fates_loop {k : Nat} {x y : List UInt8} {i0 : Nat} {rm v : Nat} {S : St} (hk : x.length < k) (hy : y = flip x i0) (hi : i0 < x.length) (hl : x.length ≤ 600) (hS : S[rm]? = some (.live v (bcells y)))
    {f : Fr} (h0 : f.get 0 = .fz false x.length (bcells x)) (h14 : f.get 14 = .sl rm v 0 x.length 1) (h15 : f.get 15 = .bool true) (h16 : f.get 16 = .int .i64 0) (h17 : f.get 17 = .int .i64 0) :
    ∃ f' S', evC fO k NetFates_s1 f S = some (.normal, f', S') ∧ (f'.get 0 = .fz false x.length (bcells x) ∧ f'.get 14 = .sl rm v 0 x.length 1 ∧ f'.get 15 = .bool true ∧ f'.get 16 = .int .i64 1 ∧ S' = S) := by
  have hyl : y.length = x.length := by rw [hy, flip_len]
  refine loop_post (I := fun j f S' => f.get 0 = .fz false x.length (bcells x) ∧ f.get 14 = .sl rm v 0 x.length 1 ∧ f.get 15 = .bool true ∧ f.get 17 = .int .i64 (j : Int) ∧
    f.get 16 = .int .i64 ((if i0 < j then 1 else 0 : Nat) : Int) ∧ S' = S) x.length hk ?_ ?_ ⟨h0, h14, h15, by simpa using h17, by simpa using h16, rfl⟩
  · rintro j hj f S' ⟨a0, a14, a15, a17, a16, rfl⟩
    obtain ⟨e1, e2⟩ := ix_sl hS hyl hj
    have e3 := ix_fz (u := x) (fl := false) rfl hj S'
    have hj' : (j : Int) < x.length := by omega
    have hw : IntKind.i64.wrap ((j : Int) + 1) = (j : Int) + 1 := by have := wrap_nat (n := j + 1) (by omega); simpa using this
    by_cases hji : j = i0
    · subst hji
      have hne : ((x.getD j 0 ^^^ 1).toNat : Int) ≠ ((x.getD j 0).toNat : Int) := by
        intro h
        have h2 : (x.getD j 0 ^^^ 1) = x.getD j 0 := UInt8.toNat_inj.1 (by omega)
        have h3 : ∀ b : UInt8, b ^^^ 1 ≠ b := by
          intro b hb
          have : (1 : UInt8) = 0 := by
            have := congrArg (fun z => b ^^^ z) hb
            simp [← UInt8.xor_assoc] at this
          exact absurd this (by decide)
        exact h3 _ h2
      have hg : y.getD j 0 = x.getD j 0 ^^^ 1 := by subst hy; simp [flip, hi]
      rw [hg] at e2
      generalize ((x.getD j 0 ^^^ 1).toNat : Int) = za at e2 hne
      generalize ((x.getD j 0).toNat : Int) = zb at e3 hne
      have hw1 : IntKind.i64.wrap 1 = 1 := by decide
      simp at a16
      simp [Post, NetFates_l0, evC, evOps, evOper, evAny, evOp, putR, putA, Fr.ev, Fr.get_set, stable, same, a0, a14, a15, a17, a16, lenA, binA, intBin, hj', e1, e2, e3, load_fq, hne, hw, hw1]
    · have hg : y.getD j 0 = x.getD j 0 := by
        subst hy
        simp [flip, List.getElem?_set, Ne.symm hji]
      rw [hg] at e2
      generalize ((x.getD j 0).toNat : Int) = zb at e3 e2
      have : (i0 < j + 1) ↔ (i0 < j) := by omega
      simp [Post, NetFates_l0, evC, evOps, evOper, evAny, evOp, putR, putA, Fr.ev, Fr.get_set, stable, same, a0, a14, a15, a17, a16, lenA, binA, intBin, hj', e1, e2, e3, load_fq, hw, this]
  · rintro f S' ⟨a0, a14, a15, a17, a16, rfl⟩
    simp [hi] at a16
    simp [Post, NetFates_l0, evC, evOps, evOper, evAny, evOp, putR, putA, Fr.ev, Fr.get_set, stable, same, a0, a14, a15, a17, a16, lenA, binA, intBin]

theorem fates_small {xa xb : AVal} {a b : List UInt8} (ha : IsB xa a) (hb : IsB xb b) (n : Int) (h : a = [] ∨ b = [] ∨ 600 < a.length ∨ 600 < b.length) :
    ∃ S', evF fO 1000 NetFates [xa, xb, .int .i64 n] [] = some (.bool true, S') := by
  have la := (ha.arg []).len
  have lb := (hb.arg []).len
  refine ⟨[.live 0 [.nils, .nils]], ?_⟩
  by_cases h1 : a = []
  · subst h1
    simp [NetFates, fO, orc, evF, evC, evOps, evOper, evAny, evOp, evCall, putR, putA, Fr.ev, Fr.of, Fr.get, Fr.set, stable, resultsA, resA, same, eq2, binA, intBin, new0, mAlive_eq, la, lb]
  · by_cases h2 : b = []
    · subst h2
      simp [NetFates, fO, orc, evF, evC, evOps, evOper, evAny, evOp, evCall, putR, putA, Fr.ev, Fr.of, Fr.get, Fr.set, stable, resultsA, resA, same, eq2, binA, intBin, new0, mAlive_eq, la, lb, h1]
    · by_cases h3 : (600 : Int) < a.length
      · simp [NetFates, fO, orc, evF, evC, evOps, evOper, evAny, evOp, evCall, putR, putA, Fr.ev, Fr.of, Fr.get, Fr.set, stable, resultsA, resA, same, eq2, binA, intBin, new0, mAlive_eq, la, lb, h1, h2, h3]
      · have h4 : (600 : Int) < b.length := by
          rcases h with h | h | h | h
          · exact absurd h h1
          · exact absurd h h2
          · omega
          · omega
        simp [NetFates, fO, orc, evF, evC, evOps, evOper, evAny, evOp, evCall, putR, putA, Fr.ev, Fr.of, Fr.get, Fr.set, stable, resultsA, resA, same, eq2, binA, intBin, new0, mAlive_eq, la, lb, h1, h2, h3, h4]

theorem fates_main {xa xb : AVal} {a b : List UInt8} (ha : IsB xa a) (hb : IsB xb b) (n : Int) (ha0 : a ≠ []) (hb0 : b ≠ []) (ha6 : a.length ≤ 600) (hb6 : b.length ≤ 600) :
    ∃ S', evF fO 1000 NetFates [xa, xb, .int .i64 n] [] = some (.bool true, S') := by
  have la := (ha.arg []).len
  have lb := (hb.arg []).len
  have hfa := ha.fz ha0
  have h3 : ¬ (600 : Int) < a.length := by omega
  have h4 : ¬ (600 : Int) < b.length := by omega
  have N1 := new_net []
  simp only [List.nil_append, List.length_nil] at N1
  obtain ⟨S2, c2, f2, K2, s2, N2, _⟩ := send_ok N1 false (ha.arg _) ha0 ha6 (by simp)
  obtain ⟨S3, c3, f3, K3, s3, N3, _⟩ := send_ok N2 false (hb.arg _) hb0 hb6 (by simp [up])
  obtain ⟨S4, c4, f4, m1, r1, K4, s4, N4, _, _, _, p1, n1, M1⟩ := take_twice N3 false (x := a) (L' := [b]) (by simp [up]) (by simp) ha0 ha6
  obtain ⟨c5, f5, m2, r2, s5, N5, i5, p2, n2, M2⟩ := take_last N4 false (x := a) (L' := [b]) (by simp [up]) (by simp)
  obtain ⟨c6, f6, m3, r3, s6, N6, i6, p3, n3, M3⟩ := take_first N5 false (x := b) (L' := []) (by simp [up]) (by simp) 1 (.inr rfl)
  simp at s6
  have q1 : r1 ≠ 0 := fun e => N3.notp false (e ▸ p1)
  have q2 : r2 ≠ 0 := fun e => N4.notp false (e ▸ p2)
  generalize hS5 : setL S4 0 _ false c5 = S5 at s5 N5 N6 s6
  have k5 : Keeps S4 S5 [0] := by rw [← hS5]; exact keeps_setL _ _ _ _ _
  generalize hS6 : setL S5 0 _ false c6 = S6 at s6 N6
  have k6 : Keeps S5 S6 [0] := by rw [← hS6]; exact keeps_setL _ _ _ _ _
  have M1' := (M1.keep k5 (by simpa using q1)).keep k6 (by simpa using q1)
  have M2' := (M2.keep k5 (by simpa using q2)).keep k6 (by simpa using q2)
  have b1 := M1'.bytes
  have b2 := M2'.bytes
  have b3 := ha.bytes S6
  have w6 := waits_ok N6 false
  obtain ⟨S7, c7, f7, K7, s7, N7, _⟩ := send_ok N6 false (ha.arg _) ha0 ha6 (by simp [up])
  obtain ⟨w, hw, hwl⟩ := and_low n 1023 (by omega)
  have hw4 : IntKind.i64.wrap (4 + (w : Int)) = 4 + (w : Int) := by have := wrap_nat (n := 4 + w) (by omega); simpa using this
  obtain ⟨S8, c8, f8, mz, rz, s8, N8, _, _, _, _, M8⟩ := take_spoil N7 false (x := a) (L' := []) (by simp [up]) (by simp) ha0 (n := 4 + (w : Int)) (by omega) (by omega)
  obtain ⟨vz, rfl, hz⟩ := M8
  rw [flip_len] at s8
  have hal : 0 < a.length := by cases a <;> simp at ha0 ⊢
  have hi : ((4 + (w : Int) - 4) % (a.length : Int)).toNat < a.length := by
    have h1 := Int.emod_nonneg (4 + (w : Int) - 4) (b := (a.length : Int)) (by omega)
    have h2 := Int.emod_lt_of_pos (4 + (w : Int) - 4) (b := (a.length : Int)) (by omega)
    omega
  have key : ∀ f : Fr, f.get 0 = .fz false a.length (bcells a) → f.get 14 = .sl rz vz 0 a.length 1 → f.get 15 = .bool true → f.get 16 = .int .i64 0 →
      Post (evC fO 1000 NetFates_t2 f S8) fun e f S1 => (e = .normal ∨ e = .ret) ∧ resultsA f S1 [Sum.inl 6] = some (.bool true) ∧ S1 = S8 := by
    intro f g0 g14 g15 g16
    obtain ⟨f', S', l1, l2, l3, l4, l5, rfl⟩ := fates_loop (k := 1000) (by omega) rfl hi ha6 hz (f := f.set 17 (.int .i64 0)) (by simpa [Fr.get_set] using g0) (by simpa [Fr.get_set] using g14) (by simpa [Fr.get_set] using g15) (by simpa [Fr.get_set] using g16) (by simp [Fr.get_set])
    simp [Post, fO, orc, NetFates_t2, evC, evOps, evOper, evAny, evOp, evCall, putR, putA, Fr.ev, Fr.get_set, stable, same, resultsA, resA, l2, l3, l4, l5, lenA, binA, intBin, mAlive_eq, fO, orc] at l1 ⊢
    rw [l1]
    simp [Fr.get_set, l2, l3, l4, l5, mAlive_eq]
  refine ⟨S8, evF_post rfl ?_⟩
  have hw' : binA .and (.int .i64 n) (.int .i64 1023) = some (.int .i64 (w : Int)) := hw
  simp [binA, intBin] at hw'
  have e1 : ¬ a = [] := ha0
  have e2 : ¬ b = [] := hb0
  simp [up] at w6
  simp [NetFates, fO, orc, evC, evOps, evOper, evAny, evOp, evCall, putR, putA, Fr.ev, Fr.of, Fr.get, Fr.set, stable, same, eq2, binA, intBin, new0, la, lb, e1, e2, h3, h4, s2, s3, s4, s5, s6, b1, b2, b3, w6, s7, hw', hw4, s8, strBin]
  refine key _ ?_ ?_ ?_ ?_ <;> simp [Fr.get, hfa]
end Am.Net
