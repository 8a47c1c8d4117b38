/- NetPlays: rounds, and all of them. -/
import Derived.Test.YtcecdoaddhgohaaAmNet13
set_option linter.all false
namespace Am.Net
open Am Go Am.Ir
set_option maxRecDepth 100000

def RQ (xs : AVal) (j : Nat) (e : Ex) (f' : Fr) (S' : St) : Prop := e = .normal ∧ Base xs j f' ∧ ∃ c' L' fn' cr', Mem S' c' L' fn' cr'

theorem play_t6 {k : Nat} (hk : 1000 < k) {xs : AVal} {j : Nat} {kind fate : Int} (hf : fate ≤ 9223372036854775807) {s : Bool} {xb : AVal} {u : List UInt8} (hb : IsB xb u) (hu : u.length ≤ 700) {c L fn cr} {ra r9 r10 : Nat} {f : Fr} {S : St}
    (B : Base xs j f) (M : Mem S c L fn cr) (I : PreI kind fate s xb fn ra r9 r10 f S) : Post (evC pO k NetPlays_t6 f S) (RQ xs j) := by
  unfold NetPlays_t6
  refine Post.seq (Post.mono (Q := PQ xs j) ?_ fun e f' S' ⟨he, B', c', L', fn', cr', M', D⟩ => ⟨fun _ => ?_, fun h => absurd he h⟩)
  · have key : ∀ F : Fr, (∀ t, t < 40 → F.get t = f.get t) → F.get 41 = .int .i64 kind → Post (evC pO k NetPlays_b3 F S) (PQ xs j) := by
      intro F hF h41
      obtain ⟨g0, g3, g4, g5⟩ := B
      obtain ⟨g6, ha, na, g7, g8, g9, h9, g10, h10, g11, g12⟩ := I
      exact play_switch hk hf hb hu ⟨(hF 0 (by omega)).trans g0, (hF 3 (by omega)).trans g3, (hF 4 (by omega)).trans g4, (hF 5 (by omega)).trans g5⟩ M
        ⟨(hF 6 (by omega)).trans g6, ha, na, (hF 7 (by omega)).trans g7, (hF 8 (by omega)).trans g8, (hF 9 (by omega)).trans g9, h9, (hF 10 (by omega)).trans g10, h10, (hF 11 (by omega)).trans g11, (hF 12 (by omega)).trans g12⟩ h41
    have g6 := I.g6
    have q0 : loadA none (.ptr ra 0 0) S = some (.int .i64 kind) := by simp [loadA, I.ha, partA]
    generalize PQ xs j = Q at key ⊢
    simp [evC, evOps, evOper, evAny, evOp, putR, putA, Fr.ev, Fr.get_set, stable, same, g6, faddrA, q0]
    refine key _ (fun t ht => ?_) ?_
    · simp [Fr.get_set, show t ≠ 40 by omega, show t ≠ 41 by omega]
    · simp [Fr.get_set]
  · subst he
    obtain ⟨g0, g3, g4, g5⟩ := B'
    obtain ⟨⟨e, g7, g8⟩, ⟨ok, g11, g12⟩, x, y, z, g9, g10, hx, hy, hz, hxx⟩ := D
    have M0 := M'
    obtain ⟨N, h1, hm, hR, hlen⟩ := M'
    have w0 := waits_ok N false
    have w1 := waits_ok N true
    have v0 := refWaits_ok (hR false) (hR true) false S'
    have v1 := refWaits_ok (hR false) (hR true) true S'
    simp only [sel, if_true, if_false, Bool.false_eq_true] at v0 v1
    have qm := load_m hm
    refine Post.seq (Post.mono (Q := fun e F S1 => e = .normal ∧ S1 = S' ∧ ∀ t, t < 40 → F.get t = f'.get t) ?_ fun e F S1 ⟨he, hS, hF⟩ => ⟨fun _ => ?_, fun h => absurd he h⟩)
    · have fin : ∀ F : Fr, (∀ t, t < 40 → F.get t = f'.get t) → Post (some (.normal, F, S')) (fun e F S1 => e = .normal ∧ S1 = S' ∧ ∀ t, t < 40 → F.get t = f'.get t) := fun F hF => ⟨rfl, rfl, hF⟩
      generalize (fun (e : Ex) (F : Fr) (S1 : St) => e = .normal ∧ S1 = S' ∧ ∀ t, t < 40 → F.get t = f'.get t) = Q at fin ⊢
      simp [pO, orc, evC, evOps, evOper, evAny, evOp, evCall, putR, putA, Fr.ev, Fr.get_set, stable, same, g3, g4, g7, g8, g9, g10, g11, g12, hx, hy, binA, intBin, strBin, eq2, w0, w1, v0, v1, qm, trL, sameRead, sameVal, beqV_refl]
      refine fin _ fun t ht => ?_
      simp only [Fr.get_set]
      repeat rw [if_neg (by omega)]
    · subst hS
      have key : ∀ F1 : Fr, (∀ t, t < 14 → F1.get t = f'.get t) → F1.get 15 = .int .i64 0 → Post (evC pO k NetPlays_s5 F1 S1) (RQ xs j) := by
        intro F1 hF1 h15
        have hB : ∀ {F2 : Fr}, (∀ t, t < 14 → F2.get t = F1.get t) → Base xs j F2 := fun h =>
          ⟨((h 0 (by omega)).trans (hF1 0 (by omega))).trans g0, ((h 3 (by omega)).trans (hF1 3 (by omega))).trans g3, ((h 4 (by omega)).trans (hF1 4 (by omega))).trans g4, ((h 5 (by omega)).trans (hF1 5 (by omega))).trans g5⟩
        rcases hxx with rfl | ⟨rx, ⟨v, rfl, hS⟩, hn, hn1⟩
        · obtain ⟨F2, S2, l1, l2, rfl⟩ := fill4_nil (k := k) (by omega) (S := S1) (f := F1) ((hF1 9 (by omega)).trans g9) h15
          exact Post.of l1 ⟨rfl, hB l2, c', L', fn', cr', M0⟩
        · obtain ⟨F2, S2, l1, l2, l3⟩ := fill4 (k := k) (by omega) (bcells_len z) (by omega) hS (f := F1) ((hF1 9 (by omega)).trans g9) h15
          exact Post.of l1 ⟨rfl, hB l2, c', L', fn', cr', ⟨N.keep l3 (fun q hq => by simp; rintro rfl; exact hn hq), h1, l3.get hm (by simpa using fun e => hn1 e.symm), hR, hlen⟩⟩
      generalize RQ xs j = Q at key ⊢
      simp [evC, evOps, evOper, evAny, evOp, putR, putA, Fr.ev, stable]
      refine key _ (fun t ht => ?_) ?_
      · rw [Fr.get_set, if_neg (by omega)]; exact hF t (by omega)
      · simp [Fr.get_set]

/-- A script. -/
def IsS (x : AVal) (as : List (Int × Int × Bool × List UInt8)) : Prop :=
  (x = .nils ∧ as = []) ∨ ∃ cells, x = .fz false as.length cells ∧ cells.length = as.length * 4 ∧
    ∀ (j : Nat) a, as[j]? = some a → a.2.1 ≤ 9223372036854775807 ∧ ∃ xb, (cells.drop (j * 4)).take 4 = [.int .i64 a.1, .int .i64 a.2.1, .bool a.2.2.1, xb] ∧ IsB xb a.2.2.2

theorem IsS.len {x : AVal} {as : List (Int × Int × Bool × List UInt8)} (h : IsS x as) : lenA .sl x = some (.int .i64 as.length) := by
  rcases h with ⟨rfl, rfl⟩ | ⟨cells, rfl, _⟩ <;> rfl

theorem IsS.ix {x : AVal} {as : List (Int × Int × Bool × List UInt8)} (h : IsS x as) {j : Nat} (hj : j < as.length) : ∃ kind fate s u xb, iaddrSA 4 x (.int .i64 (j : Int)) = some (.fq [.int .i64 kind, .int .i64 fate, .bool s, xb]) ∧ IsB xb u ∧ fate ≤ 9223372036854775807 := by
  rcases h with ⟨rfl, rfl⟩ | ⟨cells, rfl, hl, hc⟩
  · simp at hj
  · obtain ⟨hf, xb, h1, h2⟩ := hc j as[j] (List.getElem?_eq_getElem hj)
    have hj' : (j : Int) < as.length := by omega
    refine ⟨as[j].1, as[j].2.1, as[j].2.2.1, as[j].2.2.2, xb, ?_, h2, hf⟩
    simp only [iaddrSA, Int.toNat_natCast, h1]
    rw [if_pos ⟨hl, by omega, hj'⟩]

theorem play_round {k : Nat} (hk : 1000 < k) {xs : AVal} {as : List (Int × Int × Bool × List UInt8)} (hs : IsS xs as) {j : Nat} (hj : j < as.length) (hj2 : j < 150) {c L fn cr} {f : Fr} {S : St} (B : Base xs j f) (M : Mem S c L fn cr) :
    Post (evC pO k NetPlays_l9 f S) fun e f' S' => e = .normal ∧ Base xs (j + 1) f' ∧ ∃ c' L' fn' cr', Mem S' c' L' fn' cr' := by
  obtain ⟨kind, fate, s, u, xb, i1, hb, hf⟩ := hs.ix hj
  have hlen := hs.len
  have hj' : (j : Int) < as.length := by omega
  have hj2' : (j : Int) < 150 := by omega
  have hw : IntKind.i64.wrap ((j : Int) + 1) = (j : Int) + 1 := by have := wrap_nat (n := j + 1) (by omega); simpa using this
  -- the round's block
  have blk : ∀ F : Fr, Base xs j F → Post (evC pO k NetPlays_b7 F S) (RQ xs j) := by
    intro F ⟨g0, g3, g4, g5⟩
    refine Post.block (Post.mono (Q := fun e F1 S1 => (e = .normal ∨ e = .exit 1) ∧ Base xs j F1 ∧ ∃ c' L' fn' cr', Mem S1 c' L' fn' cr') ?_ fun e f' S' ⟨a, b⟩ => ⟨by rcases a with rfl | rfl <;> rfl, b⟩)
    have hlb := (hb.arg []).len
    have hone : cells? xb = some [xb] := by rcases hb with ⟨rfl, _⟩ | rfl <;> rfl
    have hbd : ∀ T : List ABlock, Keeps S (S ++ T) [] := fun T => Keeps.append S T
    have hSa : ∀ q, q < S.length + 3 → S.length ≤ q → q ∉ fps 0 fn ∧ q ≠ 1 := fun q h1 h2 => ⟨fun hm => by have := M.N.lt _ hm; omega, by have := live_lt M.hm; omega⟩
    have hst : storeA 4 (.ptr S.length 0 0) (.agg [.int .i64 kind, .int .i64 fate, .bool s, xb]) (S ++ [.live 0 [.int .i64 0, .int .i64 0, .bool false, .nils]]) = some (S ++ [.live 0 [.int .i64 kind, .int .i64 fate, .bool s, xb]]) := by
      simp [storeA, cells_agg, splice, List.set_append]
    have hld : loadA (some 4) (.fq [.int .i64 kind, .int .i64 fate, .bool s, xb]) (S) = some (.agg [.int .i64 kind, .int .i64 fate, .bool s, xb]) := by simp [loadA, partA]
    have hl3 : loadA none (.ptr S.length 0 3) (S ++ [.live 0 [.int .i64 kind, .int .i64 fate, .bool s, xb]]) = some xb := by simp [loadA, partA]
    by_cases hu : (700 : Int) < u.length
    · have fin : ∀ F1 : Fr, Base xs j F1 → Post (some (.exit 1, F1, S ++ [.live 0 [.int .i64 kind, .int .i64 fate, .bool s, xb]])) (fun e F1 S1 => (e = .normal ∨ e = .exit 1) ∧ Base xs j F1 ∧ ∃ c' L' fn' cr', Mem S1 c' L' fn' cr') :=
        fun F1 hB => ⟨.inr rfl, hB, c, L, fn, cr, ⟨M.N.keep (hbd _) (by simp), M.h1, (hbd _).get M.hm (by simp), M.hR, M.hlen⟩⟩
      generalize (fun (e : Ex) (F1 : Fr) (S1 : St) => (e = .normal ∨ e = .exit 1) ∧ Base xs j F1 ∧ ∃ c' L' fn' cr', Mem S1 c' L' fn' cr') = Q at fin ⊢
      simp [pO, orc, evC, evOps, evOper, evAny, evOp, putR, putA, Fr.ev, Fr.get_set, stable, same, g0, g5, i1, hld, fillA, cells_agg, hst, faddrA, hl3, hlb, binA, intBin, hu]
      refine fin _ ⟨?_, ?_, ?_, ?_⟩ <;> simp [Fr.get_set, g0, g3, g4, g5]
    · have fin : ∀ F1 : Fr, Base xs j F1 → F1.get 6 = .ptr S.length 0 0 → F1.get 7 = .int .i64 0 → F1.get 8 = .int .i64 0 → F1.get 9 = .sl (S.length + 1) 0 0 0 1 → F1.get 10 = .sl (S.length + 2) 0 0 0 1 → F1.get 11 = .bool false → F1.get 12 = .bool false →
          Post (evC pO k NetPlays_t6 F1 (S ++ [.live 0 [.int .i64 kind, .int .i64 fate, .bool s, xb], .live 0 [], .live 0 []])) (fun e F1 S1 => (e = .normal ∨ e = .exit 1) ∧ Base xs j F1 ∧ ∃ c' L' fn' cr', Mem S1 c' L' fn' cr') := by
        intro F1 hB b6 b7 b8 b9 b10 b11 b12
        have M1 : Mem (S ++ [.live 0 [.int .i64 kind, .int .i64 fate, .bool s, xb], .live 0 [], .live 0 []]) c L fn cr := ⟨M.N.keep (hbd _) (by simp), M.h1, (hbd _).get M.hm (by simp), M.hR, M.hlen⟩
        exact (play_t6 (kind := kind) (s := s) (ra := S.length) (r9 := S.length + 1) (r10 := S.length + 2) hk hf hb (by omega) hB M1 ⟨b6, by simp, hSa _ (by omega) (by omega), b7, b8, b9, ⟨by simp, hSa _ (by omega) (by omega)⟩, b10, ⟨by simp, hSa _ (by omega) (by omega)⟩, b11, b12⟩).mono fun e f S ⟨a, b⟩ => ⟨.inl a, b⟩
      generalize (fun (e : Ex) (F1 : Fr) (S1 : St) => (e = .normal ∨ e = .exit 1) ∧ Base xs j F1 ∧ ∃ c' L' fn' cr', Mem S1 c' L' fn' cr') = Q at fin ⊢
      simp only [pO, orc] at fin
      simp [pO, orc, evC, evOps, evOper, evAny, evOp, putR, putA, Fr.ev, Fr.get_set, stable, same, g0, g5, i1, hld, fillA, cells_agg, hst, faddrA, hl3, hlb, binA, intBin, hu]
      refine fin _ ⟨?_, ?_, ?_, ?_⟩ ?_ ?_ ?_ ?_ ?_ ?_ ?_ <;> simp [Fr.get_set, g0, g3, g4, g5]
  obtain ⟨g0, g3, g4, g5⟩ := B
  have key : ∀ F : Fr, Base xs j F → Post (evC pO k NetPlays_t8 F S) fun e f' S' => e = .normal ∧ Base xs (j + 1) f' ∧ ∃ c' L' fn' cr', Mem S' c' L' fn' cr' := by
    intro F hB
    unfold NetPlays_t8
    refine Post.seq ((blk F hB).mono fun e f' S' ⟨he, ⟨b0, b3, b4, b5⟩, hM⟩ => ⟨fun _ => ?_, fun h => absurd he h⟩)
    have fin : ∀ F1 : Fr, Base xs (j + 1) F1 → Post (some (.normal, F1, S')) (fun e f' S' => e = .normal ∧ Base xs (j + 1) f' ∧ ∃ c' L' fn' cr', Mem S' c' L' fn' cr') := fun F1 h => ⟨rfl, h, hM⟩
    generalize (fun (e : Ex) (f' : Fr) (S' : St) => e = .normal ∧ Base xs (j + 1) f' ∧ ∃ c' L' fn' cr', Mem S' c' L' fn' cr') = Q at fin ⊢
    simp [evC, evOps, evOper, evAny, evOp, putR, putA, Fr.ev, Fr.get_set, stable, same, b5, binA, intBin, hw]
    refine fin _ ⟨?_, ?_, ?_, ?_⟩ <;> simp [Fr.get_set, b0, b3, b4]
  generalize (fun (e : Ex) (f' : Fr) (S' : St) => e = .normal ∧ Base xs (j + 1) f' ∧ ∃ c' L' fn' cr', Mem S' c' L' fn' cr') = Q at key ⊢
  simp only [pO, orc] at key
  simp [NetPlays_l9, pO, orc, evC, evOps, evOper, evAny, evOp, putR, putA, Fr.ev, Fr.get_set, stable, same, g0, g5, hlen, binA, intBin, hj', hj2']
  refine key _ ⟨?_, ?_, ?_, ?_⟩ <;> simp [Fr.get_set, g0, g3, g4, g5]

theorem play_end {k : Nat} {xs : AVal} {as : List (Int × Int × Bool × List UInt8)} (hs : IsS xs as) {f : Fr} {S : St} (B : Base xs (min as.length 150) f) :
    Post (evC pO k NetPlays_l9 f S) fun e f' S' => e = .exit 0 ∧ True := by
  obtain ⟨g0, g3, g4, g5⟩ := B
  have hlen := hs.len
  by_cases h : as.length < 150
  · rw [Nat.min_eq_left (by omega)] at g5
    simp [Post, NetPlays_l9, pO, orc, evC, evOps, evOper, evAny, evOp, putR, putA, Fr.ev, Fr.get_set, stable, same, g0, g5, hlen, binA, intBin]
  · rw [Nat.min_eq_right (by omega)] at g5
    have h' : (150 : Int) < as.length ∨ ¬ (150 : Int) < as.length := by omega
    rcases h' with h' | h' <;>
    simp [Post, NetPlays_l9, pO, orc, evC, evOps, evOper, evAny, evOp, putR, putA, Fr.ev, Fr.get_set, stable, same, g0, g5, hlen, binA, intBin, h']

theorem netPlays {xs : AVal} {as : List (Int × Int × Bool × List UInt8)} (hs : IsS xs as) : ∃ S', evF pO 2000 NetPlays [xs] [] = some (.bool true, S') := by
  have N1 := new_net []
  simp only [List.nil_append, List.length_nil] at N1
  have fin : (Post (evC pO 2000 NetPlays.body (Fr.of [xs]) []) fun e f S1 => (e = .normal ∨ e = .ret) ∧ resultsA f S1 [Sum.inl 2] = some (.bool true)) → ∃ S', evF pO 2000 NetPlays [xs] [] = some (.bool true, S') := by
    intro h
    obtain ⟨e, f, S1, h1, h2, h3⟩ := h.ex
    exact ⟨S1, evF_post rfl (by rw [h1]; exact ⟨h2, h3, rfl⟩)⟩
  apply fin
  have hk1 : NetI ([.live 0 [.nils, .nils], .live 0 [.nils, .nils]] : St) 0 (fun _ => .nils) (fun _ => []) (fun _ => []) := N1.keep (Keeps.append _ [.live 0 [.nils, .nils]]) (by simp)
  have key : ∀ F : Fr, F.get 0 = xs → F.get 3 = .ptr 0 0 0 → F.get 4 = .ptr 1 0 0 → Post (evC pO 2000 NetPlays_t11 F [.live 0 [.nils, .nils], .live 0 [.nils, .nils]]) fun e f S1 => (e = .normal ∨ e = .ret) ∧ resultsA f S1 [Sum.inl 2] = some (.bool true) := by
    intro F g0 g3 g4
    obtain ⟨f', S', l1, _⟩ := loop_post (k := 2000) (id := 0) (b := NetPlays_l9) (O := pO) (I := fun j f S => Base xs j f ∧ ∃ c L fn cr, Mem S c L fn cr) (Q := fun _ _ => True) (min as.length 150) (by omega)
      (fun j hj f S ⟨B, c, L, fn, cr, M⟩ => play_round (by omega) hs (by omega) (by omega) B M) (fun f S ⟨B, _⟩ => play_end hs B)
      (f := F.set 5 (.int .i64 0)) (S := [.live 0 [.nils, .nils], .live 0 [.nils, .nils]])
      ⟨⟨by simp [Fr.get_set, g0], by simp [Fr.get_set, g3], by simp [Fr.get_set, g4], by simp [Fr.get_set]⟩, _, _, _, fun _ => .nils, ⟨hk1, by simp [fps], by simp, fun _ => .inl ⟨rfl, rfl⟩, by simp⟩⟩
    have l1' : evC pO 2000 NetPlays_s10 (F.set 5 (.int .i64 0)) [.live 0 [.nils, .nils], .live 0 [.nils, .nils]] = some (.normal, f', S') := l1
    simp only [pO, orc] at l1'
    simp [Post, NetPlays_t11, pO, orc, evC, evOps, evOper, evAny, evOp, evCall, putR, putA, Fr.ev, Fr.get_set, stable, resultsA, resA, l1', mAlive_eq]
  generalize (fun (e : Ex) (f : Fr) (S1 : St) => (e = .normal ∨ e = .ret) ∧ resultsA f S1 [Sum.inl 2] = some (.bool true)) = Q at key ⊢
  simp only [pO, orc] at key
  simp [NetPlays, pO, orc, evC, evOps, evOper, evAny, evOp, evCall, putR, putA, Fr.ev, Fr.of, Fr.get, Fr.set, stable, same, eq2, new0, fillA, storeA, cells_agg, splice]
  refine key _ ?_ ?_ ?_ <;> simp [Fr.get]
end Am.Net
