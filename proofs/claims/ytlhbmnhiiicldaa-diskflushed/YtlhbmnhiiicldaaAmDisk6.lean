/- The disk over its heap: crashes. -/
import Derived.Test.YtlhbmnhiiicldaaAmDisk5
set_option linter.all false
namespace Am.Disk
open Am Go Am.Ir
set_option maxRecDepth 100000

variable {S : St} {p ro : Nat} {cw : AVal} {fw : List Nat} {on : List UInt8} {ws : List (Nat × List UInt8)} {lets : Int} {off : Bool}

/-- How many bytes of a write take hold. -/
def cutN (K : List Int) (i : Nat) : Nat := match K[i]? with
  | some x => (min (max x 0) 256).toNat
  | none => 0

theorem cutN_le (K : List Int) (i : Nat) : cutN K i ≤ 256 := by
  unfold cutN; split <;> omega

/-- An argument of numbers. -/
structure Ints (x : AVal) (K : List Int) : Prop where
  len : lenA .sl x = some (.int .i64 (K.length : Int))
  ix : ∀ (i : Nat) y, K[i]? = some y → iaddrSA 1 x (.int .i64 (i : Int)) = some (.fq [.int .i64 y])

def crashS (K : List Int) (on : List UInt8) (ws : List (Nat × List UInt8)) : List UInt8 := ws.zipIdx.foldl (fun on p => lay on p.1.1 (p.1.2.take (cutN K p.2))) on

theorem crashS_succ (K : List Int) (on : List UInt8) (ws : List (Nat × List UInt8)) {j : Nat} {w} (h : ws[j]? = some w) : crashS K on (ws.take (j + 1)) = lay (crashS K on (ws.take j)) w.1 (w.2.take (cutN K j)) := by
  have hl := (List.getElem?_eq_some_iff.1 h).1
  have hlen : (ws.take j).length = j := by simp; omega
  simp only [crashS, take_succ h, List.zipIdx_append, List.foldl_append, hlen, Nat.zero_add]
  rfl

theorem crashS_len {n : Nat} (K : List Int) (hn : on.length = n * 256) (hw : WsOk n ws) : ∀ j, (crashS K on (ws.take j)).length = on.length := by
  intro j
  induction j with
  | zero => simp [crashS]
  | succ j ih =>
    cases h : ws[j]? with
    | none =>
      have hl := List.getElem?_eq_none_iff.1 h
      rw [List.take_of_length_le (by omega)]
      rw [List.take_of_length_le hl] at ih; exact ih
    | some w =>
      rw [crashS_succ K on ws h]
      obtain ⟨h1, h2⟩ := hw w (List.mem_of_getElem? h)
      rw [lay_len _ _ _ (by rw [ih, hn]; simp; omega), ih]

/-- The frame's slots that the loop reads. -/
structure CrF (f : Fr) (p : Nat) (x cw : AVal) (len j : Nat) : Prop where
  s0 : f.get 0 = .ptr p 0 0
  s1 : f.get 1 = x
  s12 : f.get 12 = cw
  s13 : f.get 13 = .int .i64 (len : Int)
  s14 : f.get 14 = .int .i64 (j : Int)

theorem crash_round {O : Orc} {k : Nat} (hO : O.loc[0]? = some xSector) {f : Fr} {n : Nat} {x : AVal} {K : List Int} (hx : Ints x K) (h : DiskI S p ro cw fw on ws lets off) (hn : on.length = n * 256) (hnb : n ≤ 512) {j : Nat} {w : Nat × List UInt8} (hj : ws[j]? = some w) (hw : w.1 < n ∧ w.2.length = 256)
    (hb : ws.length ≤ 1000) (hf : CrF f p x cw ws.length j) :
    Post (evC O k disk_Crash_l0 f S) fun e f' S' => e = .normal ∧ CrF f' p x cw ws.length (j + 1) ∧ DiskI S' p ro cw fw (lay on w.1 (w.2.take (cutN K j))) ws lets off ∧ Keeps S S' [ro] := by
  obtain ⟨rw', vw, hq1, hq2, hq3⟩ := wait_ix h hj
  have hlt := (List.getElem?_eq_some_iff.1 hj).1
  have hjl : (j : Int) < (ws.length : Int) := by omega
  have hwj : IntKind.i64.wrap ((j : Int) + 1) = (j : Int) + 1 := wrap64 (by omega) (by omega)
  obtain ⟨at', b⟩ := w
  simp only at hw hq3
  have hc := cutN_le K j
  have hk1 : Keeps S (S ++ [ABlock.live 0 [.int .i64 (at' : Int), .fz false b.length (bcells b)]]) [] := Keeps.append S _
  have h1 := h.keep hk1 (by simp)
  have hsec := sector_ok h1 hn hnb hw.1
  have hcl : (b.take (cutN K j)).length = cutN K j := by simp; omega
  have hcp := copy_on h1 (i := at') (b := b.take (cutN K j)) (by omega) (by omega) false
  have h2 := h1.seto (lay_len on at' (b.take (cutN K j)) (by simp; omega))
  have hrol := live_lt h.ho
  rw [hcl] at hcp
  have fin : ∀ f' : Fr, f'.get 0 = .ptr p 0 0 → f'.get 1 = x → f'.get 12 = cw → f'.get 13 = .int .i64 (ws.length : Int) → f'.get 14 = .int .i64 ((j : Int) + 1) →
      CrF f' p x cw ws.length (j + 1) ∧ DiskI ((S ++ [ABlock.live 0 [.int .i64 (at' : Int), .fz false b.length (bcells b)]]).set ro (.live 0 (bcells (lay on at' (b.take (cutN K j)))))) p ro cw fw (lay on at' (b.take (cutN K j))) ws lets off ∧
      Keeps S ((S ++ [ABlock.live 0 [.int .i64 (at' : Int), .fz false b.length (bcells b)]]).set ro (.live 0 (bcells (lay on at' (b.take (cutN K j)))))) [ro] := by
    intro f' g0 g1 g2 g3 g4
    refine ⟨⟨g0, g1, g2, g3, by rw [g4]; simp⟩, h2, by simp, fun r hr hn' => ?_⟩
    simp at hn'
    rw [List.getElem?_set, if_neg (fun e => hn' e.symm), get_old hr]
  by_cases hjk : j < K.length
  · obtain ⟨y, hy⟩ : ∃ y, K[j]? = some y := ⟨_, List.getElem?_eq_getElem hjk⟩
    have hix := hx.ix j y hy
    have hjk' : (j : Int) < (K.length : Int) := by omega
    have hcy : cutN K j = (min (max y 0) 256).toNat := by simp [cutN, hy]
    have hsl : slcSA 1 (.fz false b.length (bcells b)) none (some (.int .i64 (min (max y 0) 256))) = some (.fz false (cutN K j) (bcells (b.take (cutN K j)))) := by
      have e1 : (0 : Int) ≤ min (max y 0) 256 ∧ min (max y 0) 256 ≤ (b.length : Int) := by omega
      simp [slcSA, bounds, e1, bcells_len, ← hcy, bcells_take]
    simp [disk_Crash_l0, exM, orc, orcD, evF, evC, evOps, evOper, evAny, evOp, evCall, putR, putA, Fr.ev, Fr.of, Fr.get, Fr.set, stable, junkA, junkL, resultsA, resA, same, Fr.get_set, hf.s0, hf.s1, hf.s12, hf.s13, hf.s14, binA, intBin, hjl, hq1, hq2, hq3, storeA, cells?, splice, faddrA, loadA, partA_none, hO, hsec, hx.len, hjk', hix, hsl, hcp, trL, sameRead, sameVal, beqV, beqL_refl, hwj, Post_some]
    exact fin _ (by simp [Fr.get_set, hf.s0]) (by simp [Fr.get_set, hf.s1]) (by simp [Fr.get_set, hf.s12]) (by simp [Fr.get_set, hf.s13]) (by simp [Fr.get_set])
  · have hjk' : ¬ (j : Int) < (K.length : Int) := by omega
    have hcy : cutN K j = 0 := by simp [cutN, List.getElem?_eq_none (Nat.le_of_not_lt hjk)]
    have hsl : slcSA 1 (.fz false b.length (bcells b)) none (some (.int .i64 0)) = some (.fz false (cutN K j) (bcells (b.take (cutN K j)))) := by
      simp [slcSA, bounds, bcells_len, hcy, bcells]
    simp [disk_Crash_l0, exM, orc, orcD, evF, evC, evOps, evOper, evAny, evOp, evCall, putR, putA, Fr.ev, Fr.of, Fr.get, Fr.set, stable, junkA, junkL, resultsA, resA, same, Fr.get_set, hf.s0, hf.s1, hf.s12, hf.s13, hf.s14, binA, intBin, hjl, hq1, hq2, hq3, storeA, cells?, splice, faddrA, loadA, partA_none, hO, hsec, hx.len, hjk', hsl, hcp, trL, sameRead, sameVal, beqV, beqL_refl, hwj, Post_some]
    exact fin _ (by simp [Fr.get_set, hf.s0]) (by simp [Fr.get_set, hf.s1]) (by simp [Fr.get_set, hf.s12]) (by simp [Fr.get_set, hf.s13]) (by simp [Fr.get_set])

theorem crash_loop {O : Orc} (hO : O.loc[0]? = some xSector) {n : Nat} {x : AVal} {K : List Int} (hx : Ints x K) (hn : on.length = n * 256) (hnb : n ≤ 512) (hw : WsOk n ws) (hb : ws.length ≤ 900) {f : Fr} (h : DiskI S p ro cw fw on ws lets off) (hf : CrF f p x cw ws.length 0) :
    Post (evC O 1000 disk_Crash_s1 f S) fun e f' S' => e = .normal ∧ f'.get 0 = .ptr p 0 0 ∧ DiskI S' p ro cw fw (crashS K on ws) ws lets off ∧ Keeps S S' [ro] := by
  have hlen := crashS_len (on := on) (ws := ws) K hn hw
  obtain ⟨f', S', h1, h2⟩ := loop_post (O := O) (k := 1000) (id := 0) (b := disk_Crash_l0) (I := fun j f T => CrF f p x cw ws.length j ∧ DiskI T p ro cw fw (crashS K on (ws.take j)) ws lets off ∧ Keeps S T [ro])
    (Q := fun f' S' => f'.get 0 = .ptr p 0 0 ∧ DiskI S' p ro cw fw (crashS K on ws) ws lets off ∧ Keeps S S' [ro]) ws.length (by omega)
    (by
      rintro j hj f T ⟨g1, g2, g3⟩
      obtain ⟨w, hwj⟩ : ∃ w, ws[j]? = some w := ⟨_, List.getElem?_eq_getElem hj⟩
      refine (crash_round hO hx g2 ((hlen j).trans hn) hnb hwj (hw w (List.mem_of_getElem? hwj)) (by omega) g1).mono ?_
      rintro e f' S' ⟨rfl, k1, k2, k3⟩
      refine ⟨rfl, k1, ?_, g3.trans k3 (fun r hr => .inl hr)⟩
      rw [crashS_succ K on ws hwj]; exact k2)
    (by
      rintro f T ⟨g1, g2, g3⟩
      rw [List.take_of_length_le (Nat.le_refl _)] at g2
      have : ¬ ((ws.length : Int) < (ws.length : Int)) := by omega
      simp [disk_Crash_l0, exM, orc, orcD, evF, evC, evOps, evOper, evAny, evOp, evCall, putR, putA, Fr.ev, Fr.of, Fr.get, Fr.set, stable, junkA, junkL, resultsA, resA, same, Fr.get_set, g1.s0, g1.s12, g1.s13, g1.s14, binA, intBin, Post_some]
      exact ⟨g2, g3⟩)
    (f := f) (S := S) ⟨hf, by simpa [crashS] using h, Keeps.refl S _⟩
  rw [show disk_Crash_s1 = .block 0 (.loop disk_Crash_l0) from rfl, h1]
  exact Post.of rfl ⟨rfl, h2⟩

theorem crash_ok (h : DiskI S p ro cw fw on ws lets off) {n : Nat} {x : AVal} {K : List Int} (hx : Ints x K) (hn : on.length = n * 256) (hnb : n ≤ 512) (hw : WsOk n ws) (hb : ws.length ≤ 900) :
    ∃ S', xCrash [.ptr p 0 0, x] S = some (.tup [], S') ∧ DiskI S' p ro .nils [] (crashS K on ws) [] (-1) false ∧ Keeps S S' [p, ro] := by
  suffices hsuf : Post (evC (orc [xSector]) 1000 disk_Crash.body (Fr.of [.ptr p 0 0, x]) S) (fun e f S' => (e = .normal ∨ e = .ret) ∧ resultsA f S' disk_Crash.results = some (.tup []) ∧
      DiskI S' p ro .nils [] (crashS K on ws) [] (-1) false ∧ Keeps S S' [p, ro]) by
    obtain ⟨e, f, S', g1, g2, g3, g4, g5⟩ := hsuf.ex
    exact ⟨S', evF_post rfl rfl (.of g1 ⟨g2, g3, rfl⟩), g4, g5⟩
  simp only [disk_Crash, disk_Crash_t2, Post_seq]
  simp [exM, orc, orcD, evF, evC, evOps, evOper, evAny, evOp, evCall, putR, putA, Fr.ev, Fr.of, Fr.get, Fr.set, stable, junkA, junkL, resultsA, resA, same, eq2, faddrA, loadA, h.hp, partA_none, h.hw.len, Post_some]
  refine (crash_loop (O := orc [xSector]) rfl hx hn hnb hw hb h ⟨rfl, rfl, rfl, rfl, rfl⟩).mono ?_
  rintro e f' S' ⟨rfl, g0, g1, g2⟩
  have hnd := h.nd
  simp only [List.nodup_cons, List.mem_cons, not_or] at hnd
  have hlt := live_lt g1.hp
  have hset : ∀ b : ABlock, (S'.set p b)[p]? = some b := fun b => by simp [hlt]
  clear hlt
  simp [exM, orc, orcD, evF, evC, evOps, evOper, evAny, evOp, evCall, putR, putA, Fr.ev, Fr.of, Fr.get, Fr.set, stable, junkA, junkL, resultsA, resA, same, Fr.get_set, g0, faddrA, storeA, cells?, g1.hp, Post_some, splice, hset]
  have hlt := live_lt g1.hp
  refine ⟨⟨by simp [hlt], ?_, .inl ⟨rfl, rfl, rfl⟩, ?_⟩, ?_⟩
  · rw [List.getElem?_set, if_neg hnd.1.1]; exact g1.ho
  · simp; exact hnd.1.1
  · have hk2 := Keeps.set S' p (.live 0 [.sl ro 0 0 (crashS K on ws).length 1, .nils, .int .i64 (-1), .bool false])
    exact Keeps.trans (fp' := [p]) ⟨g2.1, fun r hr hn' => g2.2 r hr (by simp at hn' ⊢; exact hn'.2)⟩ hk2 (by simp)
end Am.Disk
