import Derived.Test.YtjinhkamckibaaaAmBis7
import Derived.Test.YtjinhkamckibaaaAmIsName
set_option linter.all false
/- Names, as the document has them. -/
section
namespace Am.Bis
open Am Go Am.Ir Am.Sha
set_option maxRecDepth 100000

noncomputable def xIsName2 : Model := exM (orc []) r12_IsName 10000

theorem name_round {k : Nat} {f : Fr} {S : St} {l : List UInt8} {j : Nat} {c : UInt8} (hll : l.length ≤ 1000000) (hc : l[j]? = some c) (h0 : f.get 0 = .str l) (h3 : f.get 3 = .int .i64 (j : Int)) :
    Post (evC (orc []) k r12_IsName_l0 f S) fun e f' T => T = S ∧ if signU c = true then e = .normal ∧ f'.get 0 = .str l ∧ f'.get 3 = .int .i64 ((j + 1 : Nat) : Int) else e = .ret ∧ f'.get 2 = .bool false := by
  have hj := (List.getElem?_eq_some_iff.1 hc).1
  have hlen : lenA .str (.str l) = some (.int .i64 (l.length : Int)) := rfl
  have hlss : binA .lss (.int .i64 (j : Int)) (.int .i64 (l.length : Int)) = some (.bool true) := lss_t (by omega)
  have had : binA .add (.int .i64 (j : Int)) (.int .i64 1) = some (.int .i64 ((j + 1 : Nat) : Int)) := add_is (by omega) (by omega) (by omega)
  have had' : binA .add (.int .i64 (j : Int)) (.int .i64 1) = some (.int .i64 ((j : Int) + 1)) := had
  have hs : signU c = ((decide ((97 : Int) ≤ c.toNat) && decide ((c.toNat : Int) ≤ 122)) || (decide ((48 : Int) ≤ c.toNat) && decide ((c.toNat : Int) ≤ 57)) || decide ((c.toNat : Int) = 45)) := rfl
  rw [show (((j + 1 : Nat) : Int)) = (j : Int) + 1 from by omega]
  generalize (l.length : Int) = ll at *
  have go : ∀ (v1 v2 v3 v4 v5 : Bool), binA .lss (.int .u8 (c.toNat : Int)) (.int .u8 97) = some (.bool v1) → binA .gtr (.int .u8 (c.toNat : Int)) (.int .u8 122) = some (.bool v2) →
      binA .lss (.int .u8 (c.toNat : Int)) (.int .u8 48) = some (.bool v3) → binA .gtr (.int .u8 (c.toNat : Int)) (.int .u8 57) = some (.bool v4) → binA .neq (.int .u8 (c.toNat : Int)) (.int .u8 45) = some (.bool v5) →
      signU c = !((v1 || v2) && (v3 || v4) && v5) →
      Post (evC (orc []) k r12_IsName_l0 f S) fun e f' T => T = S ∧ if signU c = true then e = .normal ∧ f'.get 0 = .str l ∧ f'.get 3 = .int .i64 ((j : Int) + 1) else e = .ret ∧ f'.get 2 = .bool false := by
    intro v1 v2 v3 v4 v5 b1 b2 b3 b4 b5 e
    rw [e]
    clear e hs
    have hlen' : lenA .str (.str l) = some (.int .i64 ll) := hlen
    cases v1 <;> cases v2 <;> cases v3 <;> cases v4 <;> cases v5 <;>
      simp [r12_IsName_l0, exM, orc, orcD, evF, evC, evOps, evOper, evAny, evOp, evCall, putR, putA, Fr.ev, Fr.of, Fr.get, Fr.set, stable, junkA, junkL, resultsA, resA, same, Fr.get_set, h0, h3, hlen', hlss, hc, b1, b2, b3, b4, b5, had', Post_some]
  refine go (decide ((c.toNat : Int) < 97)) (decide ((c.toNat : Int) > 122)) (decide ((c.toNat : Int) < 48)) (decide ((c.toNat : Int) > 57)) ((c.toNat : Int) != 45) ?_ ?_ ?_ ?_ ?_ ?_
  · simp [binA, intBin]
  · simp [binA, intBin]
  · simp [binA, intBin]
  · simp [binA, intBin]
  · simp [binA, intBin]
  · rw [hs, Bool.eq_iff_iff]
    simp

theorem isName2_ok {l : List UInt8} (hll : l.length ≤ 1000) (S : St) : xIsName2 [.str l] S = some (.bool (nameB l), S) := by
  have hlen : lenA .str (.str l) = some (.int .i64 (l.length : Int)) := rfl
  obtain ⟨e, f', T, k1, _, rfl, k2⟩ := iter_post (step := evC (orc []) 10000 r12_IsName_l0) (fuel := 10000)
    (I := fun j f T => T = S ∧ f.get 0 = .str l ∧ f.get 3 = .int .i64 (j : Int) ∧ (l.take j).all signU = true)
    (Q := fun e f T => T = S ∧ ((e = .ret ∧ f.get 2 = .bool false ∧ l.all signU = false) ∨ (e = .exit 0 ∧ f.get 0 = .str l ∧ l.all signU = true))) l.length
    (by
      rintro j hj f T ⟨rfl, g0, g3, ga⟩
      obtain ⟨c, hc⟩ : ∃ c, l[j]? = some c := ⟨_, List.getElem?_eq_getElem hj⟩
      refine (name_round (by omega) hc g0 g3).mono ?_
      rintro e f' T' ⟨rfl, h⟩
      by_cases hs : signU c = true
      · rw [if_pos hs] at h
        refine .inl ⟨h.1, rfl, h.2.1, h.2.2, ?_⟩
        rw [List.take_add_one, hc, List.all_append, ga]; simp [hs]
      · rw [if_neg hs] at h
        refine .inr ⟨by rw [h.1]; simp, rfl, .inl ⟨h.1, h.2, ?_⟩⟩
        rw [List.all_eq_false]
        exact ⟨c, List.mem_of_getElem? hc, hs⟩)
    (by
      rintro f T ⟨rfl, g0, g3, ga⟩
      rw [List.take_length] at ga
      have hlss : binA .lss (.int .i64 (l.length : Int)) (.int .i64 (l.length : Int)) = some (.bool false) := lss_f (by omega)
      suffices hmid : Post (evC (orc []) 10000 r12_IsName_l0 f T) (fun e f' T' => e = .exit 0 ∧ T' = T ∧ f'.get 0 = .str l) by
        refine hmid.mono ?_
        rintro e f' T' ⟨rfl, k2, k3⟩
        exact ⟨by simp, k2, .inr ⟨rfl, k3, ga⟩⟩
      generalize (l.length : Int) = ll at *
      simp [r12_IsName_l0, exM, orc, orcD, evF, evC, evOps, evOper, evAny, evOp, evCall, putR, putA, Fr.ev, Fr.of, Fr.get, Fr.set, stable, junkA, junkL, resultsA, resA, same, Fr.get_set, g0, g3, hlen, hlss, Post_some])
    (by omega) (f := ((Fr.of [.str l]).set 2 (.bool false)).set 3 (.int .i64 0)) (S := S) ⟨rfl, rfl, rfl, by simp⟩
  have k1' : iter (evC (orc []) 10000 r12_IsName_l0) 10000 [(0, .str l), (2, .bool false), (3, .int .i64 0)] T = some (e, f', T) := k1
  unfold xIsName2 exM
  refine evF_post rfl rfl ?_
  simp only [r12_IsName, r12_IsName_t2, Post_seq]
  simp [exM, orc, orcD, evF, evC, evOps, evOper, evAny, evOp, evCall, putR, putA, Fr.ev, Fr.of, Fr.get, Fr.set, stable, junkA, junkL, resultsA, resA, same, Fr.get_set, Post_some]
  rw [show r12_IsName_s1 = .block 0 (.loop r12_IsName_l0) from rfl]
  refine Post.block (Post.of (by simpa only [evC, orc] using k1') ?_)
  rcases k2 with ⟨rfl, g2, ga⟩ | ⟨rfl, g0, ga⟩
  · simp [g2, nameB, ga]
  · by_cases h1 : 1 ≤ l.length
    · have b1 : binA .geq (.int .i64 (l.length : Int)) (.int .i64 1) = some (.bool true) := geq_t (by omega)
      have b2 : binA .leq (.int .i64 (l.length : Int)) (.int .i64 12) = some (.bool (decide (l.length ≤ 12))) := by simp [binA, intBin]; omega
      have e : nameB l = decide (l.length ≤ 12) := by
        have hne : l.length ≠ 0 := by omega
        simp only [nameB, ga, Bool.true_and, decide_eq_true hne]
      rw [e]
      generalize (l.length : Int) = ll at *
      generalize decide (l.length ≤ 12) = d at *
      simp [exM, orc, orcD, evF, evC, evOps, evOper, evAny, evOp, evCall, putR, putA, Fr.ev, Fr.of, Fr.get, Fr.set, stable, junkA, junkL, resultsA, resA, same, Fr.get_set, g0, hlen, b1, b2, Post_some]
    · have b1 : binA .geq (.int .i64 (l.length : Int)) (.int .i64 1) = some (.bool false) := geq_f (by omega)
      have e : nameB l = false := by
        have h0 : l.length = 0 := by omega
        simp [nameB, h0]
      rw [e]
      generalize (l.length : Int) = ll at *
      simp [exM, orc, orcD, evF, evC, evOps, evOper, evAny, evOp, evCall, putR, putA, Fr.ev, Fr.of, Fr.get, Fr.set, stable, junkA, junkL, resultsA, resA, same, Fr.get_set, g0, hlen, b1, Post_some]
end Am.Bis
end

/- Bytes taken off, as the document has it. -/
section
namespace Am.Bis
open Am Go Am.Ir Am.Sha
set_option maxRecDepth 100000

noncomputable def xTakeBytes2 : Model := exM (orc []) r01_TakeBytes 10

theorem takeBytes2_ok {S : St} {x : AVal} {u : List UInt8} (hx : Rd S x u) (hul : u.length ≤ 1000000000) (n : Nat) (hn : n ≤ u.length) :
    ∃ y z, xTakeBytes2 [x, .int .i64 (n : Int)] S = some (.tup [y, z, .int .i64 0], S) ∧ ∀ U, Rd U x u → Rd U y (u.take n) ∧ Rd U z (u.drop n) := by
  have hlen := hx.len
  obtain ⟨x1, a1, a2⟩ := Bis.Rd.upto hx hn
  obtain ⟨x2, c1, c2⟩ := hx.from hn
  have e1 : binA .lss (.int .i64 (n : Int)) (.int .i64 0) = some (.bool false) := lss_f (by omega)
  have e2 : binA .gtr (.int .i64 (n : Int)) (.int .i64 (u.length : Int)) = some (.bool false) := gtr_f (by omega)
  refine ⟨x1, x2, ?_, fun U hU => ⟨?_, ?_⟩⟩
  rotate_left
  · obtain ⟨x3, h3, h4⟩ := Bis.Rd.upto hU hn
    rw [a1] at h3; cases h3; exact h4
  · obtain ⟨x3, h3, h4⟩ := hU.from hn
    rw [c1] at h3; cases h3; exact h4
  generalize (n : Int) = zn at *
  generalize (u.length : Int) = ul at *
  simp [xTakeBytes2, exM, r01_TakeBytes, exM, orc, orcD, evF, evC, evOps, evOper, evAny, evOp, evCall, putR, putA, Fr.ev, Fr.of, Fr.get, Fr.set, stable, junkA, junkL, resultsA, resA, same, hlen, e1, e2, a1, c1, Fr.get_set]

theorem takeBytes2_short {S : St} {x : AVal} {u : List UInt8} (hx : Rd S x u) (n : Nat) (hn : u.length < n) :
    xTakeBytes2 [x, .int .i64 (n : Int)] S = some (.tup [.nils, .nils, .int .i64 2], S) := by
  have hlen := hx.len
  have e1 : binA .lss (.int .i64 (n : Int)) (.int .i64 0) = some (.bool false) := lss_f (by omega)
  have e2 : binA .gtr (.int .i64 (n : Int)) (.int .i64 (u.length : Int)) = some (.bool true) := gtr_t (by omega)
  generalize (n : Int) = zn at *
  generalize (u.length : Int) = ul at *
  simp [xTakeBytes2, exM, r01_TakeBytes, exM, orc, orcD, evF, evC, evOps, evOper, evAny, evOp, evCall, putR, putA, Fr.ev, Fr.of, Fr.get, Fr.set, stable, junkA, junkL, resultsA, resA, same, hlen, e1, e2, Fr.get_set]
end Am.Bis
end

/- bytes.Equal. -/
section
namespace Am.Bis
open Am Go Am.Ir Am.Sha
set_option maxRecDepth 100000

theorem Rd.bytes {S : St} {x : AVal} {u : List UInt8} (h : Rd S x u) : bytesA x S = some u := by
  have hc := h.cells
  have hb : asBytes (bcells u) = some u := by
    have := MsgI.bytes (S := [.live 0 (bcells u)]) (m := .sl 0 0 0 u.length 1) (x := u) (r := 0) ⟨0, rfl, rfl⟩
    simpa [bytesA, cellsOf, bcells_len, List.take_of_length_le] using this
  rcases h.sl with ⟨r, v, o, l, rfl⟩ | ⟨b, l, c, rfl⟩ | rfl <;> simp only [bytesA, hc, hb]

noncomputable def xEqual : Model := exM (orc []) bytes_Equal 10

theorem equal_ok {S : St} {x y : AVal} {u w : List UInt8} (hx : Rd S x u) (hy : Rd S y w) : xEqual [x, y] S = some (.bool (u == w), S) := by
  have a1 := Bis.Rd.bytes hx
  have a2 := Bis.Rd.bytes hy
  have b1 : binA .eql (.str u) (.str w) = some (.bool (u == w)) := by simp [binA, strBin]
  generalize (u == w) = d at *
  simp [xEqual, exM, bytes_Equal, exM, orc, orcD, evF, evC, evOps, evOper, evAny, evOp, evCall, putR, putA, Fr.ev, Fr.of, Fr.get, Fr.set, stable, junkA, junkL, resultsA, resA, same, a1, a2, b1, Fr.get_set]
end Am.Bis
end

/- sha.Sum. -/
section
namespace Am.Bis
open Am Go Am.Ir Am.Sha
set_option maxRecDepth 100000

noncomputable def mSumP : Model := tellM 2 (exM (orc [mAll]) sha_Sum 10)

theorem parts1 {S : St} {x : AVal} {u : List UInt8} (hx : Rd S x u) {q : Nat} {T : St} (hk : Keeps S T []) (hq : T[q]? = some (.live 0 [x])) : Parts T (.sl q 0 0 1 1) [u] := by
  refine ⟨rfl, fun i w hi => ?_⟩
  cases i with
  | zero =>
    simp only [List.getElem?_cons_zero, Option.some.injEq] at hi
    subst hi
    refine ⟨.ptr q 0 0, x, by simp [iaddrSA], fun S' hS' => ⟨?_, (hx.keep hk).keep hS'⟩⟩
    have := hS'.get hq (by simp)
    simp [loadA, this, partA]
  | succ i => simp at hi

theorem sumP_ok {S : St} {x : AVal} {u : List UInt8} (hx : Rd S x u) (hul : u.length < 100000) : mSumP [x] S = some (.agg (bcells (sha u)), S) := by
  obtain ⟨Z, hZ⟩ : ∃ Z : List AVal, List.replicate 32 (AVal.int .u8 0) = Z := ⟨_, rfl⟩
  have hZl : Z.length = 32 := by rw [← hZ]; simp
  obtain ⟨S2, hS2⟩ : ∃ S2 : St, S ++ [.live 0 Z, .live 0 [x]] = S2 := ⟨_, rfl⟩
  have hk : Keeps S S2 [] := by rw [← hS2]; exact Keeps.append ..
  have hq : S2[S.length + 1]? = some (.live 0 [x]) := by rw [← hS2]; simp
  have hz : S2[S.length]? = some (.live 0 Z) := by rw [← hS2]; simp
  have hall := all_ok (parts1 hx hk hq) (by simp) (by simpa using hul) (by simp; omega)
  rw [List.flatten_cons, List.flatten_nil, List.append_nil] at hall
  have hsl : (sha u).length = 32 := sha_len u
  have hst := store32 (u := sha u) hZl hsl hz
  have hld := load32 (S := S2) (q := S.length) (u := sha u) hsl (live_lt hz)
  refine tellM_keeps (T := S2.set S.length (.live 0 (bcells (sha u)))) (v := .agg (bcells (sha u))) ?_ ((hk.after (Keeps.set ..) (Nat.le_refl _))) (deep_agg_bytes ..)
  generalize bcells (sha u) = B at *
  have hcx : cells? x = some [x] := by rcases hx.sl with ⟨r, v, o, l, rfl⟩ | ⟨b, l, c, rfl⟩ | rfl <;> rfl
  unfold exM
  refine evF_post rfl rfl ?_
  have hZ' : [AVal.int .u8 0, .int .u8 0, .int .u8 0, .int .u8 0, .int .u8 0, .int .u8 0, .int .u8 0, .int .u8 0, .int .u8 0, .int .u8 0, .int .u8 0, .int .u8 0, .int .u8 0, .int .u8 0, .int .u8 0, .int .u8 0, .int .u8 0, .int .u8 0, .int .u8 0, .int .u8 0, .int .u8 0, .int .u8 0, .int .u8 0, .int .u8 0, .int .u8 0, .int .u8 0, .int .u8 0, .int .u8 0, .int .u8 0, .int .u8 0, .int .u8 0, .int .u8 0] = Z := hZ
  simp [sha_Sum, exM, orc, orcD, evF, evC, evOps, evOper, evAny, evOp, evCall, putR, putA, Fr.ev, Fr.of, Fr.get, Fr.set, stable, junkA, junkL, resultsA, resA, same, hZ', hS2, hall, hst, hld, fillA, hcx, splice, resultsA, Fr.get_set, Post_some]
end Am.Bis
end

/- Numbers read, as the document has them. -/
section
namespace Am.Bis
open Am Go Am.Ir Am.Sha
set_option maxRecDepth 100000

noncomputable def oTake2 : Orc := orc [xPut2]
noncomputable def xTake2 : Model := exM oTake2 r01_Take 100

structure TkG (f : Fr) (x : AVal) (j acc : Nat) : Prop where
  s0 : f.get 0 = x
  s5 : f.get 5 = .int .u64 (acc : Int)
  s6 : f.get 6 = .int .i64 (j : Int)

/-- What is answered. -/
def TkR2 (S : St) (x : AVal) (u : List UInt8) (f : Fr) (T : St) : Prop := ∃ y, f.get 2 = .int .u64 ((takeN u).1 : Int) ∧ f.get 3 = y ∧ f.get 4 = .int .i64 ((takeN u).2.2 : Int) ∧ Keeps S T [] ∧ ∀ U, Rd U x u → Rd U y (takeN u).2.1

theorem rem128b (c : UInt8) : binA .rem (.int .u8 (c.toNat : Int)) (.int .u8 128) = some (.int .u8 ((c.toNat % 128 : Nat) : Int)) := by
  have h1 : (c.toNat : Int).tmod 128 = ((c.toNat % 128 : Nat) : Int) := by rw [Int.tmod_eq_emod_of_nonneg (by omega)]; rfl
  simp [binA, intBin, h1]

theorem nilRd (S : St) : Rd S .nils [] := ⟨.inr (.inr rfl), rfl⟩

theorem take2_round {S : St} {x : AVal} {u : List UInt8} {f : Fr} {j acc : Nat} {N : Nat} (hN : N = min u.length 10) (hul : u.length ≤ 1000000000) (hx : Rd S x u) (hj : j < N)
    (hb : ∀ c ∈ u.take j, 128 ≤ c.toNat) (hv : acc = valB (u.take j)) (hT : takeF (10 - j) acc (u.drop j) = takeN u) (hf : TkG f x j acc) :
    Post (evC oTake2 100 r01_Take_l0 f S) fun e f' T => (e = .normal ∧ T = S ∧ ∃ acc', TkG f' x (j + 1) acc' ∧ (∀ c ∈ u.take (j + 1), 128 ≤ c.toNat) ∧ (j + 1 ≤ 9 → acc' = valB (u.take (j + 1))) ∧ takeF (10 - (j + 1)) acc' (u.drop (j + 1)) = takeN u) ∨ (e ≠ .normal ∧ e = .ret ∧ TkR2 S x u f' T) := by
  have hju : j < u.length := by omega
  have hj9 : j ≤ 9 := by omega
  obtain ⟨s0, s5, s6⟩ := hf
  have hlen := hx.len
  have hlss : binA .lss (.int .i64 (j : Int)) (.int .i64 (u.length : Int)) = some (.bool true) := lss_t (by omega)
  have hlss2 : binA .lss (.int .i64 (j : Int)) (.int .i64 10) = some (.bool true) := lss_t (by omega)
  obtain ⟨p, hp, hld⟩ := hx.ix (i := j) hju
  have hlp := hld hx
  obtain ⟨c, hc⟩ : ∃ c, u[j]? = some c := ⟨_, List.getElem?_eq_getElem hju⟩
  have hcg : u.getD j 0 = c := by simp [List.getD, hc]
  rw [hcg] at hlp
  have htl : (u.take j).length = j := by rw [List.length_take]; omega
  have hacc : acc < 128 ^ j := by have := valB_lt (u.take j); rw [htl] at this; rw [hv]; exact this
  have hdr : u.drop j = c :: u.drop (j + 1) := by
    rw [List.drop_eq_getElem_cons hju]; congr 1; exact (List.getElem?_eq_some_iff.1 hc).2
  have htk : u.take (j + 1) = u.take j ++ [c] := by rw [List.take_add_one, hc]; rfl
  rw [hdr, takeF_cons hj9] at hT
  have hcl := UInt8.toNat_lt c
  have hrm := rem128b c
  have hcv : IntKind.u64.wrap ((c.toNat % 128 : Nat) : Int) = ((c.toNat % 128 : Nat) : Int) := conv_u64 (by omega) (by omega)
  have hmul : binA .mul (.int .i64 7) (.int .i64 (j : Int)) = some (.int .i64 ((7 * j : Nat) : Int)) := mul_is (by omega) (by omega) (by omega)
  have hcm : IntKind.u64.wrap ((7 * j : Nat) : Int) = ((7 * j : Nat) : Int) := conv_u64 (by omega) (by omega)
  have hshl := shl7 .u64 (c.toNat % 128) j hj9
  have hor := add_part (d := c.toNat % 128) hj9 hacc
  have hpl := part_lt (d := c.toNat % 128) hj9 hacc
  have hal := acc_lt (d := c.toNat % 128) hacc (by omega)
  have had : binA .add (.int .i64 (j : Int)) (.int .i64 1) = some (.int .i64 ((j + 1 : Nat) : Int)) := add_is (by omega) (by omega) (by omega)
  obtain ⟨A, hA⟩ : ∃ A, acc + c.toNat % 128 * 128 ^ j % 2 ^ 64 = A := ⟨_, rfl⟩
  rw [hA] at hor hT hal hpl
  by_cases h128 : 128 ≤ c.toNat
  · rw [if_pos h128] at hT
    have hl1 : binA .lss (.int .u8 (c.toNat : Int)) (.int .u8 128) = some (.bool false) := lss_f (by omega)
    have hAv : j + 1 ≤ 9 → A = valB (u.take (j + 1)) := by
      intro hj8
      rw [htk, valB_app, ← hv, htl, ← hA, mul_small (by omega) (by omega), show c.toNat % 128 = c.toNat - 128 by omega]
    suffices hmid : Post (evC oTake2 100 r01_Take_l0 f S) (fun e f' T => e = .normal ∧ T = S ∧ f'.get 0 = x ∧ f'.get 5 = .int .u64 (A : Int) ∧ f'.get 6 = .int .i64 ((j + 1 : Nat) : Int)) by
      refine hmid.mono ?_
      rintro e f' T ⟨h1, h2, h3, h4, h5⟩
      refine .inl ⟨h1, h2, A, ⟨h3, h4, h5⟩, ?_, hAv, hT⟩
      rw [htk]
      intro d hd
      rcases List.mem_append.1 hd with h | h
      · exact hb d h
      · have : d = c := by simpa using h
        rw [this]; exact h128
    generalize ((7 * j : Nat) : Int) = z7 at *
    generalize ((j + 1 : Nat) : Int) = zj1 at *
    generalize ((c.toNat % 128 * 128 ^ j % 2 ^ 64 : Nat) : Int) = zs at *
    generalize ((c.toNat % 128 : Nat) : Int) = zm at *
    generalize (c.toNat : Int) = zc at *
    generalize (j : Int) = zj at *
    generalize (u.length : Int) = zl at *
    generalize (A : Int) = zA at *
    generalize (acc : Int) = za at *
    simp [r01_Take_l0, exM, orc, orcD, evF, evC, evOps, evOper, evAny, evOp, evCall, putR, putA, Fr.ev, Fr.of, Fr.get, Fr.set, stable, junkA, junkL, resultsA, resA, same, oTake2, Fr.get_set, s0, s5, s6, hlen, hlss, hlss2, hp, hlp, hrm, hcv, hmul, hcm, hshl, hor, hl1, had, Post_some]
  · rw [if_neg h128] at hT
    have hl1 : binA .lss (.int .u8 (c.toNat : Int)) (.int .u8 128) = some (.bool true) := lss_t (by omega)
    obtain ⟨y, T, r, k1, k2, k3, k4⟩ := put2_ok (n := A) (nilRd S) (by simp) (by omega)
    rw [List.nil_append] at k4
    have kb := k4.bytes
    obtain ⟨x2, hx2, hr2⟩ := Bis.Rd.upto hx (n := j + 1) (by omega)
    have bS := Bis.Rd.bytes hr2
    have bT := Bis.Rd.bytes (hr2.keep k2)
    have hiff := put_iff (u.take j) c hb (by omega) (by omega)
    have hA' : acc + c.toNat * 128 ^ j % 2 ^ 64 = A := by rw [← hA, Nat.mod_eq_of_lt (show c.toNat < 128 by omega)]
    rw [htl, ← hv, ← htk, hA'] at hiff
    have hneq : binA .neq (.str (putF 10 A)) (.str (u.take (j + 1))) = some (.bool !(short j c)) := by
      have e : (putF 10 A == u.take (j + 1)) = short j c := by rw [Bool.eq_iff_iff, beq_iff_eq]; exact hiff
      simp only [binA, strBin, e]
    by_cases hs : short j c = true
    · rw [if_pos hs] at hT
      rw [hs] at hneq
      obtain ⟨x3, hx3, hr3⟩ := hx.from (n := j + 1) (by omega)
      suffices hmid : Post (evC oTake2 100 r01_Take_l0 f S) (fun e f' T' => e = .ret ∧ T' = T ∧ f'.get 2 = .int .u64 (A : Int) ∧ f'.get 3 = x3 ∧ f'.get 4 = .int .i64 0) by
        refine hmid.mono ?_
        rintro e f' T' ⟨rfl, rfl, h3, h4, h5⟩
        refine .inr ⟨by simp, rfl, x3, ?_, h4, ?_, k2, ?_⟩
        · rw [← hT]; exact h3
        · rw [← hT]; exact h5
        · intro U hU
          obtain ⟨x4, h4, h5⟩ := hU.from (n := j + 1) (by omega)
          rw [hx3] at h4; cases h4
          rw [← hT]; exact h5
      generalize ((7 * j : Nat) : Int) = z7 at *
      generalize ((j + 1 : Nat) : Int) = zj1 at *
      generalize ((c.toNat % 128 * 128 ^ j % 2 ^ 64 : Nat) : Int) = zs at *
      generalize ((c.toNat % 128 : Nat) : Int) = zm at *
      generalize (c.toNat : Int) = zc at *
      generalize (j : Int) = zj at *
      generalize (u.length : Int) = zl at *
      generalize (A : Int) = zA at *
      generalize (acc : Int) = za at *
      generalize putF 10 A = pA at *
      generalize u.take (j + 1) = pu at *
      simp [r01_Take_l0, exM, orc, orcD, evF, evC, evOps, evOper, evAny, evOp, evCall, putR, putA, Fr.ev, Fr.of, Fr.get, Fr.set, stable, junkA, junkL, resultsA, resA, same, oTake2, Fr.get_set, s0, s5, s6, hlen, hlss, hlss2, hp, hlp, hrm, hcv, hmul, hcm, hshl, hor, hl1, had, k1, kb, hx2, bS, bT, hneq, hx3, trL, sameRead, sameVal, beqV_refl, Post_some]
    · rw [if_neg hs] at hT
      have hs' : short j c = false := by simpa using hs
      rw [hs'] at hneq
      suffices hmid : Post (evC oTake2 100 r01_Take_l0 f S) (fun e f' T' => e = .ret ∧ T' = T ∧ f'.get 2 = .int .u64 0 ∧ f'.get 3 = .nils ∧ f'.get 4 = .int .i64 3) by
        refine hmid.mono ?_
        rintro e f' T' ⟨rfl, rfl, h3, h4, h5⟩
        refine .inr ⟨by simp, rfl, .nils, ?_, h4, ?_, k2, ?_⟩
        · rw [← hT]; exact h3
        · rw [← hT]; exact h5
        · intro U _; rw [← hT]; exact nilRd _
      generalize ((7 * j : Nat) : Int) = z7 at *
      generalize ((j + 1 : Nat) : Int) = zj1 at *
      generalize ((c.toNat % 128 * 128 ^ j % 2 ^ 64 : Nat) : Int) = zs at *
      generalize ((c.toNat % 128 : Nat) : Int) = zm at *
      generalize (c.toNat : Int) = zc at *
      generalize (j : Int) = zj at *
      generalize (u.length : Int) = zl at *
      generalize (A : Int) = zA at *
      generalize (acc : Int) = za at *
      generalize putF 10 A = pA at *
      generalize u.take (j + 1) = pu at *
      simp [r01_Take_l0, exM, orc, orcD, evF, evC, evOps, evOper, evAny, evOp, evCall, putR, putA, Fr.ev, Fr.of, Fr.get, Fr.set, stable, junkA, junkL, resultsA, resA, same, oTake2, Fr.get_set, s0, s5, s6, hlen, hlss, hlss2, hp, hlp, hrm, hcv, hmul, hcm, hshl, hor, hl1, had, k1, kb, hx2, bS, bT, hneq, trL, sameRead, sameVal, beqV_refl, Post_some]

theorem take2_ok {S : St} {x : AVal} {u : List UInt8} (hx : Rd S x u) (hul : u.length ≤ 1000000000) :
    ∃ y T, xTake2 [x] S = some (.tup [.int .u64 ((takeN u).1 : Int), y, .int .i64 ((takeN u).2.2 : Int)], T) ∧ Keeps S T [] ∧ ∀ U, Rd U x u → Rd U y (takeN u).2.1 := by
  have hlen := hx.len
  obtain ⟨N, hN⟩ : ∃ N, N = min u.length 10 := ⟨_, rfl⟩
  obtain ⟨e, f', T, h1, _, h2⟩ := iter_post (step := evC oTake2 100 r01_Take_l0) (fuel := 100)
    (I := fun j f T => T = S ∧ ∃ acc, TkG f x j acc ∧ (∀ c ∈ u.take j, 128 ≤ c.toNat) ∧ (j ≤ 9 → acc = valB (u.take j)) ∧ takeF (10 - j) acc (u.drop j) = takeN u)
    (Q := fun e f' T => (e = .ret ∧ TkR2 S x u f' T) ∨ (e = .exit 0 ∧ T = S ∧ f'.get 0 = x ∧ takeN u = (0, [], if 10 ≤ u.length then 3 else 2))) N
    (by
      rintro j hj f T ⟨rfl, acc, g1, g2, g3, g4⟩
      refine (take2_round hN hul hx hj g2 (g3 (by omega)) g4 g1).mono ?_
      rintro e f' T' (⟨h1, h2, acc', h3⟩ | ⟨h1, h2, h3⟩)
      · exact .inl ⟨h1, h2, acc', h3⟩
      · exact .inr ⟨h1, .inl ⟨h2, h3⟩⟩)
    (by
      rintro f T ⟨rfl, acc, ⟨s0, s5, s6⟩, g2, g3, g4⟩
      have hend := takeF_end hN g4
      suffices hmid : Post (evC oTake2 100 r01_Take_l0 f T) (fun e f' T' => e = .exit 0 ∧ T' = T ∧ f'.get 0 = x) by
        refine hmid.mono ?_
        rintro e f' T' ⟨rfl, k2, k3⟩
        exact ⟨by simp, .inr ⟨rfl, k2, k3, hend⟩⟩
      by_cases hul10 : u.length ≤ 10
      · have hlss : binA .lss (.int .i64 (N : Int)) (.int .i64 (u.length : Int)) = some (.bool false) := lss_f (by omega)
        generalize (u.length : Int) = zl at *
        generalize (N : Int) = zN at *
        simp [r01_Take_l0, exM, orc, orcD, evF, evC, evOps, evOper, evAny, evOp, evCall, putR, putA, Fr.ev, Fr.of, Fr.get, Fr.set, stable, junkA, junkL, resultsA, resA, same, Fr.get_set, s0, s6, hlen, hlss, Post_some]
      · have hlss : binA .lss (.int .i64 (N : Int)) (.int .i64 (u.length : Int)) = some (.bool true) := lss_t (by omega)
        have hlss2 : binA .lss (.int .i64 (N : Int)) (.int .i64 10) = some (.bool false) := lss_f (by omega)
        generalize (u.length : Int) = zl at *
        generalize (N : Int) = zN at *
        simp [r01_Take_l0, exM, orc, orcD, evF, evC, evOps, evOper, evAny, evOp, evCall, putR, putA, Fr.ev, Fr.of, Fr.get, Fr.set, stable, junkA, junkL, resultsA, resA, same, Fr.get_set, s0, s6, hlen, hlss, hlss2, Post_some])
    (by omega) (f := (((((Fr.of [x]).set 2 (.int .u64 0)).set 3 .nils).set 4 (.int .i64 0)).set 5 (.int .u64 0)).set 6 (.int .i64 0)) (S := S) ⟨rfl, 0, ⟨rfl, rfl, rfl⟩, by simp, fun _ => by simp [valB], rfl⟩
  have h1' : iter (evC oTake2 100 r01_Take_l0) 100 [(0, x), (2, .int .u64 0), (3, .nils), (4, .int .i64 0), (5, .int .u64 0), (6, .int .i64 0)] S = some (e, f', T) := h1
  suffices hs : Post (evC oTake2 100 r01_Take.body (Fr.of [x]) S) (fun e f T => (e = .normal ∨ e = .ret) ∧ TkR2 S x u f T) by
    obtain ⟨e, f, T, g1, g2, y, g3, g4, g5, g6, g7⟩ := hs.ex
    refine ⟨y, T, evF_post rfl rfl (Post.of g1 ⟨g2, ?_, rfl⟩), g6, g7⟩
    simp [exM, orc, orcD, evF, evC, evOps, evOper, evAny, evOp, evCall, putR, putA, Fr.ev, Fr.of, Fr.get, Fr.set, stable, junkA, junkL, resultsA, resA, same, r01_Take, resultsA, g3, g4, g5]
  simp only [r01_Take, r01_Take_t2, Post_seq]
  simp [exM, orc, orcD, evF, evC, evOps, evOper, evAny, evOp, evCall, putR, putA, Fr.ev, Fr.of, Fr.get, Fr.set, stable, junkA, junkL, resultsA, resA, same, Fr.get_set, Post_some]
  rw [show r01_Take_s1 = .block 0 (.loop r01_Take_l0) from rfl]
  refine Post.block (Post.of (by simpa only [evC] using h1') ?_)
  rcases h2 with ⟨rfl, k3⟩ | ⟨rfl, rfl, k3, k4⟩
  · simp [k3]
  · generalize hzl : (u.length : Int) = ul at *
    by_cases h10 : 10 ≤ u.length
    · have hge : binA .geq (.int .i64 ul) (.int .i64 10) = some (.bool true) := geq_t (by omega)
      rw [if_pos h10] at k4
      simp [exM, orc, orcD, evF, evC, evOps, evOper, evAny, evOp, evCall, putR, putA, Fr.ev, Fr.of, Fr.get, Fr.set, stable, junkA, junkL, resultsA, resA, same, Fr.get_set, k3, hlen, hge, Post_some, TkR2, k4, Keeps.refl, nilRd]
    · have hge : binA .geq (.int .i64 ul) (.int .i64 10) = some (.bool false) := geq_f (by omega)
      rw [if_neg h10] at k4
      simp [exM, orc, orcD, evF, evC, evOps, evOper, evAny, evOp, evCall, putR, putA, Fr.ev, Fr.of, Fr.get, Fr.set, stable, junkA, junkL, resultsA, resA, same, Fr.get_set, k3, hlen, hge, Post_some, TkR2, k4, Keeps.refl, nilRd]
end Am.Bis
end

/- Strings read, as the document has them. -/
section
namespace Am.Bis
open Am Go Am.Ir Am.Sha
set_option maxRecDepth 100000

theorem Rd.uptoU {S : St} {x : AVal} {u : List UInt8} (h : Rd S x u) {n : Nat} (hn : n ≤ u.length) : ∃ x', slcSA 1 x none (some (.int .u64 (n : Int))) = some x' ∧ Rd S x' (u.take n) := by
  obtain ⟨x', h1, h2⟩ := Bis.Rd.upto h hn
  refine ⟨x', ?_, h2⟩
  rw [← h1]
  rcases h.sl with ⟨r, v, o, l, rfl⟩ | ⟨b, l, c, rfl⟩ | rfl <;> rfl

theorem Rd.fromU {S : St} {x : AVal} {u : List UInt8} (h : Rd S x u) {n : Nat} (hn : n ≤ u.length) : ∃ x', slcSA 1 x (some (.int .u64 (n : Int))) none = some x' ∧ Rd S x' (u.drop n) := by
  obtain ⟨x', h1, h2⟩ := Sha.Rd.from h hn
  refine ⟨x', ?_, h2⟩
  rw [← h1]
  rcases h.sl with ⟨r, v, o, l, rfl⟩ | ⟨b, l, c, rfl⟩ | rfl <;> rfl

noncomputable def xTakeString2 : Model := exM (orc [xTake2]) r01_TakeString 10

theorem takeString2_ok {S : St} {x : AVal} {u : List UInt8} (hx : Rd S x u) (hul : u.length ≤ 1000000000) (most : Nat) (hm : most ≤ 1000000) :
    ∃ y z T, xTakeString2 [x, .int .i64 (most : Int)] S = some (.tup [y, z, .int .i64 ((takeStr most u).2.2 : Int)], T) ∧ Keeps S T [] ∧ ∀ U, Rd U x u → Rd U y (takeStr most u).1 ∧ Rd U z (takeStr most u).2.1 := by
  obtain ⟨r, T, a1, a2, a3⟩ := take2_ok hx hul
  have hle := takeF_le 10 0 u
  have hle' : (takeN u).2.1.length ≤ u.length := hle.1
  have e1 : binA .lss (.int .i64 (most : Int)) (.int .i64 0) = some (.bool false) := lss_f (by omega)
  have hcv : IntKind.u64.wrap (most : Int) = (most : Int) := conv_u64 (by omega) (by omega)
  obtain ⟨n, hn⟩ : ∃ n, (takeN u).1 = n := ⟨_, rfl⟩
  obtain ⟨w, hw⟩ : ∃ w, (takeN u).2.1 = w := ⟨_, rfl⟩
  obtain ⟨e, he⟩ : ∃ e, (takeN u).2.2 = e := ⟨_, rfl⟩
  rw [hn, he] at a1
  rw [hw] at a3 hle'
  have a3' := a3 T (hx.keep a2)
  have hlen := a3'.len
  have hcw : IntKind.u64.wrap (w.length : Int) = (w.length : Int) := conv_u64 (by omega) (by omega)
  unfold takeStr
  rw [hn, hw, he]
  by_cases h0 : e = 0
  · rw [if_neg (by simp [h0])]
    have b0 : binA .neq (.int .i64 (e : Int)) (.int .i64 0) = some (.bool false) := neq_f (by omega)
    by_cases hmn : most < n
    · rw [if_pos hmn]
      have b1 : binA .gtr (.int .u64 (n : Int)) (.int .u64 (most : Int)) = some (.bool true) := gtr_t (by omega)
      refine ⟨.nils, .nils, T, ?_, a2, fun _ _ => ⟨nilRd _, nilRd _⟩⟩
      show _ = some (AVal.tup [_, _, .int .i64 4], T)
      generalize (most : Int) = zm at *
      generalize (n : Int) = zn at *
      generalize (e : Int) = ze at *
      simp [xTakeString2, exM, r01_TakeString, exM, orc, orcD, evF, evC, evOps, evOper, evAny, evOp, evCall, putR, putA, Fr.ev, Fr.of, Fr.get, Fr.set, stable, junkA, junkL, resultsA, resA, same, a1, b0, b1, e1, hcv, Fr.get_set]
    · rw [if_neg hmn]
      have b1 : binA .gtr (.int .u64 (n : Int)) (.int .u64 (most : Int)) = some (.bool false) := gtr_f (by omega)
      by_cases hs : w.length < n
      · rw [if_pos hs]
        have b2 : binA .gtr (.int .u64 (n : Int)) (.int .u64 (w.length : Int)) = some (.bool true) := gtr_t (by omega)
        refine ⟨.nils, .nils, T, ?_, a2, fun _ _ => ⟨nilRd _, nilRd _⟩⟩
        show _ = some (AVal.tup [_, _, .int .i64 2], T)
        generalize (most : Int) = zm at *
        generalize (n : Int) = zn at *
        generalize (e : Int) = ze at *
        generalize (w.length : Int) = zw at *
        simp [xTakeString2, exM, r01_TakeString, exM, orc, orcD, evF, evC, evOps, evOper, evAny, evOp, evCall, putR, putA, Fr.ev, Fr.of, Fr.get, Fr.set, stable, junkA, junkL, resultsA, resA, same, a1, b0, b1, b2, hlen, hcw, e1, hcv, Fr.get_set]
      · rw [if_neg hs]
        have b2 : binA .gtr (.int .u64 (n : Int)) (.int .u64 (w.length : Int)) = some (.bool false) := gtr_f (by omega)
        obtain ⟨x1, c1, c2⟩ := Rd.uptoU a3' (n := n) (by omega)
        obtain ⟨x2, d1, d2⟩ := Rd.fromU a3' (n := n) (by omega)
        refine ⟨x1, x2, T, ?_, a2, fun U hU => ⟨?_, ?_⟩⟩
        rotate_left
        · obtain ⟨x3, h3, h4⟩ := Rd.uptoU (a3 U hU) (n := n) (by omega)
          rw [c1] at h3; cases h3; exact h4
        · obtain ⟨x3, h3, h4⟩ := Rd.fromU (a3 U hU) (n := n) (by omega)
          rw [d1] at h3; cases h3; exact h4
        show _ = some (AVal.tup [_, _, .int .i64 0], T)
        generalize (most : Int) = zm at *
        generalize (n : Int) = zn at *
        generalize (e : Int) = ze at *
        generalize (w.length : Int) = zw at *
        simp [xTakeString2, exM, r01_TakeString, exM, orc, orcD, evF, evC, evOps, evOper, evAny, evOp, evCall, putR, putA, Fr.ev, Fr.of, Fr.get, Fr.set, stable, junkA, junkL, resultsA, resA, same, a1, b0, b1, b2, hlen, hcw, e1, hcv, c1, d1, Fr.get_set]
  · rw [if_pos h0]
    have b0 : binA .neq (.int .i64 (e : Int)) (.int .i64 0) = some (.bool true) := neq_t (by omega)
    refine ⟨.nils, .nils, T, ?_, a2, fun _ _ => ⟨nilRd _, nilRd _⟩⟩
    show _ = some (AVal.tup [_, _, .int .i64 (e : Int)], T)
    generalize (most : Int) = zm at *
    generalize (n : Int) = zn at *
    generalize (e : Int) = ze at *
    simp [xTakeString2, exM, r01_TakeString, exM, orc, orcD, evF, evC, evOps, evOper, evAny, evOp, evCall, putR, putA, Fr.ev, Fr.of, Fr.get, Fr.set, stable, junkA, junkL, resultsA, resA, same, a1, b0, Fr.get_set]
end Am.Bis
end

