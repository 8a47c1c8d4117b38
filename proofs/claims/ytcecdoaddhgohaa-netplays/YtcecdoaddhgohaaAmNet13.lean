/- NetPlays: a round. -/
import Derived.Test.YtcecdoaddhgohaaAmNet12
set_option linter.all false
namespace Am.Net
open Am Go Am.Ir
set_option maxRecDepth 100000

structure Mem (S : St) (c : Bool → AVal) (L : Bool → List (List UInt8)) (fn : Bool → List Nat) (cr : Bool → AVal) : Prop where
  N : NetI S 0 c L fn
  h1 : 1 ∉ fps 0 fn
  hm : S[1]? = some (.live 0 [cr false, cr true])
  hR : ∀ b, RefC (cr b) (L b)
  hlen : ∀ b, (L b).length ≤ 100

structure Base (xs : AVal) (j : Nat) (f : Fr) : Prop where
  g0 : f.get 0 = xs
  g3 : f.get 3 = .ptr 0 0 0
  g4 : f.get 4 = .ptr 1 0 0
  g5 : f.get 5 = .int .i64 (j : Int)

/-- Ahead of an act. -/
structure PreI (kind fate : Int) (s : Bool) (xb : AVal) (fn : Bool → List Nat) (ra r9 r10 : Nat) (f : Fr) (S : St) : Prop where
  g6 : f.get 6 = .ptr ra 0 0
  ha : S[ra]? = some (.live 0 [.int .i64 kind, .int .i64 fate, .bool s, xb])
  na : ra ∉ fps 0 fn ∧ ra ≠ 1
  g7 : f.get 7 = .int .i64 0
  g8 : f.get 8 = .int .i64 0
  g9 : f.get 9 = .sl r9 0 0 0 1
  h9 : S[r9]? = some (.live 0 []) ∧ r9 ∉ fps 0 fn ∧ r9 ≠ 1
  g10 : f.get 10 = .sl r10 0 0 0 1
  h10 : S[r10]? = some (.live 0 []) ∧ r10 ∉ fps 0 fn ∧ r10 ≠ 1
  g11 : f.get 11 = .bool false
  g12 : f.get 12 = .bool false

/-- Behind an act. -/
structure MidI (fn : Bool → List Nat) (f : Fr) (S : St) : Prop where
  e : ∃ e : Int, f.get 7 = .int .i64 e ∧ f.get 8 = .int .i64 e
  ok : ∃ b : Bool, f.get 11 = .bool b ∧ f.get 12 = .bool b
  xy : ∃ x y z, f.get 9 = x ∧ f.get 10 = y ∧ bytesA x S = some z ∧ bytesA y S = some z ∧ z.length ≤ 1000 ∧ (x = .nils ∨ ∃ rx, MsgI S x z rx ∧ rx ∉ fps 0 fn ∧ rx ≠ 1)

theorem load_m {S : St} {a b : AVal} (h : S[1]? = some (.live 0 [a, b])) : loadA (some 2) (.ptr 1 0 0) S = some (.agg [a, b]) := by simp [loadA, h, partA]

theorem store_m {S : St} {a b : AVal} (h : S[1]? = some (.live 0 [a, b])) (a' b' : AVal) : storeA 2 (.ptr 1 0 0) (.agg [a', b']) S = some (S.set 1 (.live 0 [a', b'])) := by simp [storeA, h, cells_agg, splice]

theorem own_ok {S : St} {x : AVal} {u : List UInt8} (h : IsB x u) (hl : u.length ≤ 100000) : appendA 1 1 (.sl S.length 0 0 0 1) x (S ++ [.live 0 []]) = some (.sl S.length 1 0 u.length 1, S ++ [.live 1 (bcells u)]) := by
  have hc : cellsOf 1 x (S ++ [.live 0 []]) = some (u.length, bcells u) := by
    rcases h with ⟨rfl, rfl⟩ | rfl
    · rfl
    · simp [cellsOf, bcells_len]
  have hl' : u.length ≤ 140737488355328 := by omega
  simp [appendA, hc, hl']

theorem empty_bytes {S : St} {r : Nat} (h : S[r]? = some (.live 0 [])) : bytesA (.sl r 0 0 0 1) S = some [] := by simp [bytesA, cellsOf, h, asBytes]

theorem play_send {k : Nat} (hk : 1000 < k) {xs : AVal} {j : Nat} {kind fate : Int} {s : Bool} {xb : AVal} {u : List UInt8} (hb : IsB xb u) (hu : u.length ≤ 700) {c L fn cr} {ra r9 r10 : Nat} {f : Fr} {S : St}
    (B : Base xs j f) (M : Mem S c L fn cr) (I : PreI kind fate s xb fn ra r9 r10 f S) :
    Post (evC pO k NetPlays_c2 f S) fun e f' S' => e = .normal ∧ Base xs j f' ∧ ∃ c' L' fn' cr', Mem S' c' L' fn' cr' ∧ MidI fn' f' S' := by
  obtain ⟨g0, g3, g4, g5⟩ := B
  obtain ⟨N, h1, hm, hR, hlen⟩ := M
  obtain ⟨g6, ha, ⟨na, na1⟩, g7, g8, g9, ⟨h9, n9, n91⟩, g10, ⟨h10, n10, n101⟩, g11, g12⟩ := I
  -- the copy
  have hown := own_ok (S := S) hb (by omega)
  have kO := Keeps.append S [.live 1 (bcells u)]
  have N1 := N.keep kO (by simp)
  have ha1 := kO.get ha (by simp)
  have hm1 := kO.get hm (by simp)
  have h91 := kO.get h9 (by simp)
  have h101 := kO.get h10 (by simp)
  have hownA : BytesA (S ++ [.live 1 (bcells u)]) (.sl S.length 1 0 u.length 1) u := .inr ⟨rfl, by simp [cellsOf, bcells_len]; exact bcells_take u, rfl⟩
  obtain ⟨S2, c2, L2, f2, cr2, e, K, s1, r1, N2, k2, k2', k2'', hR2, hlen2⟩ := send_both N1 hR hlen s hownA hb
  have hoN : S.length ∉ fps 0 fn := fun hm => by have := N.lt _ hm; omega
  have ho2 : S2[S.length]? = some (.live 1 (bcells u)) := k2.get (by simp) (fun hm => hoN (k2' _ hm))
  have ha2 := k2.get ha1 (fun hm => na (k2' _ hm))
  have hm2 := k2.get hm1 (fun hm => h1 (k2' _ hm))
  have h92 := k2.get h91 (fun hm => n9 (k2' _ hm))
  have h102 := k2.get h101 (fun hm => n10 (k2' _ hm))
  have nf : ∀ {q : Nat}, q ∉ fps 0 fn → q < (S ++ [ABlock.live 1 (bcells u)]).length → q ∉ fps 0 f2 := by
    intro q hq hlt hm
    rcases k2'' q hm with h | h
    · exact hq h
    · simp only [List.length_append, List.length_cons, List.length_nil] at h hlt; omega
  have hst := store_m hm2 (cr2 false) (cr2 true)
  have k3 := Keeps.set S2 1 (.live 0 [cr2 false, cr2 true])
  have h1' : 1 ∉ fps 0 f2 := nf h1 (live_lt hm1)
  have N3 := N2.keep k3 (fun q hq => by simp; rintro rfl; exact h1' hq)
  have hS1 : 1 ≠ S.length := by have := live_lt hm; omega
  have ho3 := k3.get ho2 (by simpa using fun e => hS1 e.symm)
  have hm3 : (S2.set 1 (.live 0 [cr2 false, cr2 true]))[1]? = some (.live 0 [cr2 false, cr2 true]) := by simp [List.getElem?_set, live_lt hm2]
  have h93 := k3.get h92 (by simpa using n91)
  have h103 := k3.get h102 (by simpa using n101)
  generalize hS3 : List.set S2 1 (ABlock.live 0 [cr2 false, cr2 true]) = S3 at hst k3 N3 ho3 hm3 h93 h103
  have hoN2 : S.length ∉ fps 0 f2 := nf hoN (by simp)
  have key : ∀ F : Fr, Base xs j F → F.get 7 = .int .i64 e → F.get 8 = .int .i64 e → F.get 9 = .sl r9 0 0 0 1 → F.get 10 = .sl r10 0 0 0 1 → F.get 11 = .bool false → F.get 12 = .bool false → F.get 13 = .sl S.length 1 0 u.length 1 → F.get 14 = .int .i64 0 →
      Post (evC pO k NetPlays_s1 F S3) fun e f' S' => e = .normal ∧ Base xs j f' ∧ ∃ c' L' fn' cr', Mem S' c' L' fn' cr' ∧ MidI fn' f' S' := by
    intro F ⟨b0, b3, b4, b5⟩ b7 b8 b9 b10 b11 b12 b13 b14
    obtain ⟨f', S', l1, l2, l3⟩ := fill0 (k := k) (by omega) (bcells_len u) (by omega) ho3 b13 b14
    have n9' := nf n9 (live_lt h91)
    have n10' := nf n10 (live_lt h101)
    have e9 : r9 ≠ S.length := by have := live_lt h9; omega
    have e10 : r10 ≠ S.length := by have := live_lt h10; omega
    refine Post.of l1 ⟨rfl, ⟨(l2 0 (by omega)).trans b0, (l2 3 (by omega)).trans b3, (l2 4 (by omega)).trans b4, (l2 5 (by omega)).trans b5⟩, c2, L2, f2, cr2,
      ⟨N3.keep l3 (fun q hq => by simp; rintro rfl; exact hoN2 hq), h1', l3.get hm3 (by simpa using hS1), hR2, hlen2⟩, ⟨⟨e, (l2 7 (by omega)).trans b7, (l2 8 (by omega)).trans b8⟩, ⟨false, (l2 11 (by omega)).trans b11, (l2 12 (by omega)).trans b12⟩,
        ⟨_, _, [], (l2 9 (by omega)).trans b9, (l2 10 (by omega)).trans b10, empty_bytes (l3.get h93 (by simpa using e9)), empty_bytes (l3.get h103 (by simpa using e10)), by simp, .inr ⟨r9, ⟨0, rfl, by simpa [bcells] using l3.get h93 (by simpa using e9)⟩, n9', n91⟩⟩⟩⟩
  have la2 : ∀ {T : St} (h : T[ra]? = some (.live 0 [.int .i64 kind, .int .i64 fate, .bool s, xb])), loadA none (.ptr ra 0 2) T = some (.bool s) := fun h => by simp [loadA, h, partA]
  have la3 : ∀ {T : St} (h : T[ra]? = some (.live 0 [.int .i64 kind, .int .i64 fate, .bool s, xb])), loadA none (.ptr ra 0 3) T = some xb := fun h => by simp [loadA, h, partA]
  have kE := (Keeps.append S [.live 0 []]).get ha (by simp)
  have q3 := la3 kE
  have q2 := la2 ha1
  have q2' := la2 ha2
  have q3' := la3 ha2
  have qm := load_m hm2
  generalize (fun (e : Ex) (f' : Fr) (S' : St) => e = Ex.normal ∧ Base xs j f' ∧ ∃ c' L' fn' cr', Mem S' c' L' fn' cr' ∧ MidI fn' f' S') = Q at key ⊢
  simp only [pO, orc] at key
  simp [NetPlays_c2, pO, orc, evC, evOps, evOper, evAny, evOp, evCall, putR, putA, Fr.ev, Fr.get_set, stable, same, g3, g4, g6, faddrA, fillA, hown, q3, q2, q2', q3', s1, r1, qm, hst]
  refine key _ ⟨?_, ?_, ?_, ?_⟩ ?_ ?_ ?_ ?_ ?_ ?_ ?_ ?_ <;> simp [Fr.get_set, g0, g3, g4, g5, g9, g10, g11, g12]

def PQ (xs : AVal) (j : Nat) (e : Ex) (f' : Fr) (S' : St) : Prop := e = .normal ∧ Base xs j f' ∧ ∃ c' L' fn' cr', Mem S' c' L' fn' cr' ∧ MidI fn' f' S'

theorem play_switch {k : Nat} (hk : 1000 < k) {xs : AVal} {j : Nat} {kind fate : Int} (hf : fate ≤ 9223372036854775807) {s : Bool} {xb : AVal} {u : List UInt8} (hb : IsB xb u) (hu : u.length ≤ 700) {c L fn cr} {ra r9 r10 : Nat} {f : Fr} {S : St}
    (B : Base xs j f) (M : Mem S c L fn cr) (I : PreI kind fate s xb fn ra r9 r10 f S) (h41 : f.get 41 = .int .i64 kind) : Post (evC pO k NetPlays_b3 f S) (PQ xs j) := by
  refine Post.block (Post.mono (Q := PQ xs j) ?_ fun e f' S' ⟨a, b⟩ => ⟨by subst a; rfl, b⟩)
  have hpre : ∀ (F : Fr), (∀ t, t < 42 → F.get t = f.get t) → Base xs j F ∧ PreI kind fate s xb fn ra r9 r10 F S := by
    intro F hF
    obtain ⟨g0, g3, g4, g5⟩ := B
    obtain ⟨g6, ha, na, g7, g8, g9, h9, g10, h10, g11, g12⟩ := I
    exact ⟨⟨(hF 0 (by omega)).trans g0, (hF 3 (by omega)).trans g3, (hF 4 (by omega)).trans g4, (hF 5 (by omega)).trans g5⟩,
      ⟨(hF 6 (by omega)).trans g6, ha, na, (hF 7 (by omega)).trans g7, (hF 8 (by omega)).trans g8, (hF 9 (by omega)).trans g9, h9, (hF 10 (by omega)).trans g10, h10, (hF 11 (by omega)).trans g11, (hF 12 (by omega)).trans g12⟩⟩
  by_cases k1 : kind = 1
  · have key : ∀ F : Fr, (∀ t, t < 42 → F.get t = f.get t) → Post (evC pO k NetPlays_c2 F S) (PQ xs j) := fun F hF => play_send hk hb hu (hpre F hF).1 M (hpre F hF).2
    simp [evC, evOps, evOper, evAny, evOp, putR, putA, Fr.ev, Fr.get_set, stable, same, h41, binA, intBin, k1]
    refine key _ fun t ht => ?_
    simp [Fr.get_set, show t ≠ 42 by omega, show t ≠ 43 by omega]
  · obtain ⟨g0, g3, g4, g5⟩ := B
    have M0 := M
    obtain ⟨N, h1, hm, hR, hlen⟩ := M
    have I0 := I
    obtain ⟨g6, ha, ⟨na, na1⟩, g7, g8, g9, ⟨h9, n9, n91⟩, g10, ⟨h10, n10, n101⟩, g11, g12⟩ := I
    have la1 : ∀ {T : St} (h : T[ra]? = some (.live 0 [.int .i64 kind, .int .i64 fate, .bool s, xb])), loadA none (.ptr ra 0 1) T = some (.int .i64 fate) := fun h => by simp [loadA, h, partA]
    have la2 : ∀ {T : St} (h : T[ra]? = some (.live 0 [.int .i64 kind, .int .i64 fate, .bool s, xb])), loadA none (.ptr ra 0 2) T = some (.bool s) := fun h => by simp [loadA, h, partA]
    by_cases k2 : kind = 2
    · obtain ⟨S2, c2, L2, f2, cr2, x, y, ok, z, K, s1, r1, N2, kk, kk', kk'', hR2, hlen2, hby, hz6, hx⟩ := take_both N hR hlen s hf
      have ha2 := kk.get ha (fun hm => na (kk' _ hm))
      have hm2 := kk.get hm (fun hm => h1 (kk' _ hm))
      have h1' : 1 ∉ fps 0 f2 := fun h => by
        rcases kk'' 1 h with h | h
        · exact h1 h
        · have := live_lt hm; omega
      have qm := load_m hm2
      have hst := store_m hm2 (cr2 false) (cr2 true)
      have k3 := Keeps.set S2 1 (.live 0 [cr2 false, cr2 true])
      have N3 := N2.keep k3 (fun q hq => by simp; rintro rfl; exact h1' hq)
      have hm3 : (S2.set 1 (.live 0 [cr2 false, cr2 true]))[1]? = some (.live 0 [cr2 false, cr2 true]) := by simp [List.getElem?_set, live_lt hm2]
      generalize hS3 : List.set S2 1 (ABlock.live 0 [cr2 false, cr2 true]) = S3 at hst k3 N3 hm3
      have q1 := la1 ha
      have q2 := la2 ha
      have q1' := la1 ha2
      have q2' := la2 ha2
      have fin : ∀ F : Fr, Base xs j F → F.get 7 = .int .i64 0 → F.get 8 = .int .i64 0 → F.get 9 = x → F.get 10 = y → F.get 11 = .bool ok → F.get 12 = .bool ok → Post (some (.normal, F, S3)) (PQ xs j) := by
        intro F hB b7 b8 b9 b10 b11 b12
        refine ⟨rfl, hB, c2, L2, f2, cr2, ⟨N3, h1', hm3, hR2, hlen2⟩, ⟨⟨0, b7, b8⟩, ⟨ok, b11, b12⟩, x, y, z, b9, b10, ?_, hby S3, ?_, ?_⟩⟩
        · rcases hx with ⟨rfl, rfl⟩ | ⟨rx, hx1, hx2, hx3⟩
          · rfl
          · exact (hx1.keep k3 (by simp; rintro rfl; exact h1 hx3)).bytes
        · rcases hx with ⟨_, rfl⟩ | ⟨rx, hx1, hx2, hx3⟩
          · simp
          · omega
        · rcases hx with ⟨rfl, _⟩ | ⟨rx, hx1, hx2, hx3⟩
          · exact .inl rfl
          · exact .inr ⟨rx, hx1.keep k3 (by simp; rintro rfl; exact h1 hx3), hx2, by rintro rfl; exact h1 hx3⟩
      generalize PQ xs j = Q at fin ⊢
      simp [pO, orc, evC, evOps, evOper, evAny, evOp, evCall, putR, putA, Fr.ev, Fr.get_set, stable, same, h41, binA, intBin, k2, g3, g4, g6, faddrA, q1, q2, q1', q2', s1, r1, qm, hst]
      refine fin _ ⟨?_, ?_, ?_, ?_⟩ ?_ ?_ ?_ ?_ ?_ ?_ <;> simp [Fr.get_set, g0, g3, g4, g5, g7, g8]
    · by_cases k3 : kind = 3
      · obtain ⟨S2, s1, N2, kk⟩ := clear_ok N
        have h10 : 1 ∉ [0] := by simp
        have hm2 := kk.get hm h10
        have hst := store_m hm2 .nils .nils
        have k3' := Keeps.set S2 1 (.live 0 [.nils, .nils])
        have N3 := N2.keep k3' (fun q hq => by simp [fps] at hq; simp; omega)
        have hm3 : (S2.set 1 (.live 0 [.nils, .nils]))[1]? = some (.live 0 [.nils, .nils]) := by simp [List.getElem?_set, live_lt hm2]
        have n0 : ∀ {q : Nat}, q ∉ fps 0 fn → q ≠ 0 := fun h e => h (by rw [e]; simp [fps])
        have h93 := k3'.get (kk.get h9 (by simpa using n0 n9)) (by simpa using n91)
        have h103 := k3'.get (kk.get ‹S[r10]? = some (.live 0 [])› (by simpa using n0 n10)) (by simpa using n101)
        generalize hS3 : List.set S2 1 (ABlock.live 0 [.nils, .nils]) = S3 at hst k3' N3 hm3 h93 h103
        have fin : ∀ F : Fr, Base xs j F → F.get 7 = .int .i64 0 → F.get 8 = .int .i64 0 → F.get 9 = .sl r9 0 0 0 1 → F.get 10 = .sl r10 0 0 0 1 → F.get 11 = .bool false → F.get 12 = .bool false → Post (some (.normal, F, S3)) (PQ xs j) := by
          intro F hB b7 b8 b9 b10 b11 b12
          exact ⟨rfl, hB, _, _, _, fun _ => .nils, ⟨N3, by simp [fps], hm3, fun _ => .inl ⟨rfl, rfl⟩, by simp⟩, ⟨⟨0, b7, b8⟩, ⟨false, b11, b12⟩, _, _, [], b9, b10, empty_bytes h93, empty_bytes h103, by simp, .inr ⟨r9, ⟨0, rfl, by simpa [bcells] using h93⟩, by simpa [fps] using n0 n9, n91⟩⟩⟩
        generalize PQ xs j = Q at fin ⊢
        simp [pO, orc, evC, evOps, evOper, evAny, evOp, evCall, putR, putA, Fr.ev, Fr.get_set, stable, same, h41, binA, intBin, k3, g3, g4, s1, fillA, hst]
        refine fin _ ⟨?_, ?_, ?_, ?_⟩ ?_ ?_ ?_ ?_ ?_ ?_ <;> simp [Fr.get_set, g0, g3, g4, g5, g7, g8, g9, g10, g11, g12]
      · have fin : ∀ F : Fr, Base xs j F → F.get 7 = .int .i64 0 → F.get 8 = .int .i64 0 → F.get 9 = .sl r9 0 0 0 1 → F.get 10 = .sl r10 0 0 0 1 → F.get 11 = .bool false → F.get 12 = .bool false → Post (some (.normal, F, S)) (PQ xs j) := by
          intro F hB b7 b8 b9 b10 b11 b12
          exact ⟨rfl, hB, c, L, fn, cr, M0, ⟨⟨0, b7, b8⟩, ⟨false, b11, b12⟩, _, _, [], b9, b10, empty_bytes h9, empty_bytes h10, by simp, .inr ⟨r9, ⟨0, rfl, by simpa [bcells] using h9⟩, n9, n91⟩⟩⟩
        generalize PQ xs j = Q at fin ⊢
        simp [pO, orc, evC, evOps, evOper, evAny, evOp, evCall, putR, putA, Fr.ev, Fr.get_set, stable, same, h41, binA, intBin, k1, k2, k3]
        refine fin _ ⟨?_, ?_, ?_, ?_⟩ ?_ ?_ ?_ ?_ ?_ ?_ <;> simp [Fr.get_set, g0, g3, g4, g5, g7, g8, g9, g10, g11, g12]
end Am.Net
