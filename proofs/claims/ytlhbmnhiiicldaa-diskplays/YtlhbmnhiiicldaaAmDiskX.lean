import Derived.Test.YtlhbmnhiiicldaaAmDiskP
import Derived.Test.YtlhbmnhiiicldaaAmDiskH
set_option linter.all false
/- 'do': kind by kind. -/
section
namespace Am.Disk
open Am Go Am.Ir
set_option maxRecDepth 100000

variable {secs : List (List UInt8)} {ws : List (Nat × List UInt8)} {off : Bool} {S S1 : St} {p ro : Nat} {fw : List Nat} {cs : List AVal} {m n : Nat}

/-- An empty disk of the document. -/
def z5 : List AVal := [.nils, .nils, .bool false, .int .i64 0, .bool false]

theorem part5 {cs : List AVal} (h : cs.length = 5) : partA (some 5) 0 cs = some (.agg cs) := by
  simp [partA, h]
  rw [List.take_of_length_le (by omega)]

theorem BothI.five (h : BothI S p ro fw cs m n secs ws off) : cs.length = 5 := by
  obtain ⟨cw, lets, x, has, fuse, h1, rfl, _⟩ := h.ex
  rfl

theorem store5 {T : St} {n0 : Nat} {cs cs' : List AVal} (hq : T[n0]? = some (.live 0 cs)) (h : cs.length = 5) (h' : cs'.length = 5) : storeA 5 (.ptr n0 0 0) (.agg cs') T = some (T.set n0 (.live 0 cs')) := by
  have h1 : splice cs 0 cs' = cs' := by
    simp [splice, h, h']
  simp [storeA, cells?, hq, h1, h, h']

/-- Ahead of the act: the disk, and the blocks of 'do'. -/
structure HeadI (S S1 : St) (p ro : Nat) (fw : List Nat) (cs : List AVal) (m n : Nat) (secs : List (List UInt8)) (ws : List (Nat × List UInt8)) (off : Bool) (a : ActV) : Prop where
  both : BothI S p ro fw cs m n secs ws off
  ln : S1.length = S.length + 5
  old : ∀ r, r < S.length → S1[r]? = S[r]?
  b4 : S1[S.length]? = some (.live 0 cs)
  b5 : S1[S.length + 1]? = some (.live 0 a.cells)
  b6 : S1[S.length + 2]? = some (.live 0 z5)
  b7 : S1[S.length + 3]? = some (.live 0 [])
  b8 : S1[S.length + 4]? = some (.live 0 [])

theorem HeadI.keep {a : ActV} (h : HeadI S S1 p ro fw cs m n secs ws off a) : Keeps S S1 [] := ⟨by have := h.ln; omega, fun r hr _ => h.old r hr⟩
theorem HeadI.both1 {a : ActV} (h : HeadI S S1 p ro fw cs m n secs ws off a) : BothI S1 p ro fw cs m n secs ws off := h.both.keep h.keep (by simp)
theorem HeadI.fresh {a : ActV} (h : HeadI S S1 p ro fw cs m n secs ws off a) {r : Nat} (hr : S.length ≤ r) : r ∉ p :: ro :: fw := fun hm => by have := h.both.lt r hm; omega

/-- Behind the act. -/
structure MidI (S : St) (p ro : Nat) (fw : List Nat) (m n : Nat) (f : Fr) (T : St) : Prop where
  ex : ∃ cs' fw' secs ws off e X Y u q, BothI T p ro fw' cs' (m + 1) n secs ws off ∧ (∀ r ∈ fw', r ∈ fw ∨ S.length ≤ r) ∧ S.length ≤ q ∧ q ∉ p :: ro :: fw' ∧ q ≠ S.length ∧ q ≠ S.length + 2 ∧
    T[S.length]? = some (.live 0 cs') ∧ T[S.length + 2]? = some (.live 0 z5) ∧ (S.length ∉ p :: ro :: fw') ∧ (S.length + 2 ∉ p :: ro :: fw') ∧ DoF f p S.length e e X Y ∧ Own T X u q ∧ bytesA Y T = some u ∧ u.length ≤ 600
  keep : Keeps S T (p :: ro :: fw)

/-- Behind an act that hands nothing over. -/
theorem mid_of {a : ActV} {T : St} {cs' : List AVal} {f : Fr} {e : Int} (h : HeadI S S1 p ro fw cs m n secs ws off a) (hs : Same S1 T p ro fw cs' m n) (hf : DoF f p S.length e e (.sl (S.length + 3) 0 0 0 1) (.sl (S.length + 4) 0 0 0 1)) :
    MidI S p ro fw m n f (T.set S.length (.live 0 cs')) := by
  obtain ⟨fw', secs', ws', off', g1, g2⟩ := hs.ex
  have hk := hs.keep
  have hln := h.ln
  have hT : ∀ r, S.length ≤ r → r < S1.length → T[r]? = S1[r]? := fun r h1 h2 => hk.2 r h2 (h.fresh h1)
  have hTl := hk.1
  have hfr : ∀ r, S.length ≤ r → r < S1.length → r ∉ p :: ro :: fw' := by
    intro r h1 h2 hm
    have h3 := h.fresh h1
    simp only [List.mem_cons, not_or] at h3 hm
    rcases hm with hm | hm | hm
    · exact h3.1 hm
    · exact h3.2.1 hm
    · rcases g2 r hm with h4 | h4
      · exact h3.2.2 h4
      · omega
  have hk2 := Keeps.set T S.length (.live 0 cs')
  have gt : ∀ r, r ≠ S.length → (T.set S.length (.live 0 cs'))[r]? = T[r]? := fun r hr => set_get' hr _
  refine ⟨⟨cs', fw', secs', ws', off', e, _, _, [], S.length + 3, g1.keep hk2 ?_, ?_, by omega, hfr _ (by omega) (by omega), by omega, by omega, set_get (by omega) _, ?_, hfr _ (by omega) (by omega), hfr _ (by omega) (by omega), hf, .inr ⟨0, rfl, ?_⟩, ?_, by simp⟩, ?_⟩
  · intro r hr hm
    simp at hm
    subst hm
    exact hfr _ (Nat.le_refl _) (by omega) hr
  · intro r hr
    rcases g2 r hr with h4 | h4
    · exact .inl h4
    · exact .inr (by omega)
  · rw [gt _ (by omega), hT _ (by omega) (by omega)]; exact h.b6
  · rw [gt _ (by omega), hT _ (by omega) (by omega)]; exact h.b7
  · have : (T.set S.length (.live 0 cs'))[S.length + 4]? = some (.live 0 []) := by rw [gt _ (by omega), hT _ (by omega) (by omega)]; exact h.b8
    simp [bytesA, cellsOf, this, asBytes]
  · exact ⟨by simp; omega, fun r hr hn => by rw [gt _ (by omega), hk.2 r (by omega) hn, h.old r hr]⟩

/-- The slots ahead of the act. -/
structure PreF (f : Fr) (p n0 : Nat) (k : Int) : Prop where
  d : DoF f p n0 0 0 (.sl (n0 + 3) 0 0 0 1) (.sl (n0 + 4) 0 0 0 1)
  s19 : f.get 19 = .int .i64 k

variable {a : ActV} {f : Fr}

theorem do_flush (h : HeadI S S1 p ro fw cs m n secs ws off a) (hm : m ≤ 800) (hf : PreF f p S.length 2) : Post (evC oDo 1000 disk_do_b3 f S1) fun e f' T => e = .normal ∧ MidI S p ro fw m n f' T := by
  obtain ⟨e, T, cs', k1, k2, k3⟩ := act_flush h.both1 hm
  have hT4 : T[S.length]? = some (.live 0 cs) := by rw [k3.keep.2 _ (by have := h.ln; omega) (h.fresh (Nat.le_refl _))]; exact h.b4
  have h5 := h.both.five
  have h5' : cs'.length = 5 := by obtain ⟨_, _, _, _, g, _⟩ := k3.ex; exact g.five
  have hst := store5 hT4 h5 h5'
  have hp5 := part5 h5
  suffices hmid : Post (evC oDo 1000 disk_do_b3 f S1) (fun e' f' T' => e' = .normal ∧ T' = T.set S.length (.live 0 cs') ∧ f'.get 0 = .ptr p 0 0 ∧ f'.get 4 = .ptr S.length 0 0 ∧ f'.get 5 = .ptr (S.length + 1) 0 0 ∧ f'.get 6 = .ptr (S.length + 2) 0 0 ∧ f'.get 8 = .int .i64 e ∧ f'.get 9 = .int .i64 e ∧ f'.get 10 = .sl (S.length + 3) 0 0 0 1 ∧ f'.get 11 = .sl (S.length + 4) 0 0 0 1) by
    refine hmid.mono ?_
    rintro e' f' T' ⟨rfl, rfl, a0, a4, a5, a6, a8, a9, a10, a11⟩
    exact ⟨rfl, mid_of h k3 ⟨a0, a4, a5, a6, a8, a9, a10, a11⟩⟩
  simp [disk_do_b3, exM, orc, orcD, evF, evC, evOps, evOper, evAny, evOp, evCall, putR, putA, Fr.ev, Fr.of, Fr.get, Fr.set, stable, junkA, junkL, resultsA, resA, same, oDo, Fr.get_set, hf.d.s0, hf.d.s4, hf.d.s5, hf.d.s6, hf.d.s8, hf.d.s9, hf.d.s10, hf.d.s11, hf.s19, binA, intBin, k1, k2, loadA, hT4, hp5, hst, Post_some]

theorem do_crash (h : HeadI S S1 p ro fw cs m n secs ws off a) (hm : m ≤ 800) (hf : PreF f p S.length 3) : Post (evC oDo 1000 disk_do_b3 f S1) fun e f' T => e = .normal ∧ MidI S p ro fw m n f' T := by
  obtain ⟨T, cs', k1, k2, k3⟩ := act_crash h.both1 hm a.hk
  have hT4 : T[S.length]? = some (.live 0 cs) := by rw [k3.keep.2 _ (by have := h.ln; omega) (h.fresh (Nat.le_refl _))]; exact h.b4
  have hT5 : T[S.length + 1]? = some (.live 0 a.cells) := by rw [k3.keep.2 _ (by have := h.ln; omega) (h.fresh (by omega))]; exact h.b5
  have h5 := h.both.five
  have h5' : cs'.length = 5 := by obtain ⟨_, _, _, _, g, _⟩ := k3.ex; exact g.five
  have hst := store5 hT4 h5 h5'
  have hp5 := part5 h5
  have hb5 := h.b5
  have hc4 : a.cells[4]? = some a.k := rfl
  suffices hmid : Post (evC oDo 1000 disk_do_b3 f S1) (fun e' f' T' => e' = .normal ∧ T' = T.set S.length (.live 0 cs') ∧ f'.get 0 = .ptr p 0 0 ∧ f'.get 4 = .ptr S.length 0 0 ∧ f'.get 5 = .ptr (S.length + 1) 0 0 ∧ f'.get 6 = .ptr (S.length + 2) 0 0 ∧ f'.get 8 = .int .i64 0 ∧ f'.get 9 = .int .i64 0 ∧ f'.get 10 = .sl (S.length + 3) 0 0 0 1 ∧ f'.get 11 = .sl (S.length + 4) 0 0 0 1) by
    refine hmid.mono ?_
    rintro e' f' T' ⟨rfl, rfl, a0, a4, a5, a6, a8, a9, a10, a11⟩
    exact ⟨rfl, mid_of h k3 ⟨a0, a4, a5, a6, a8, a9, a10, a11⟩⟩
  simp [disk_do_b3, exM, orc, orcD, evF, evC, evOps, evOper, evAny, evOp, evCall, putR, putA, Fr.ev, Fr.of, Fr.get, Fr.set, stable, junkA, junkL, resultsA, resA, same, oDo, Fr.get_set, hf.d.s0, hf.d.s4, hf.d.s5, hf.d.s6, hf.d.s8, hf.d.s9, hf.d.s10, hf.d.s11, hf.s19, binA, intBin, faddrA, partA_none, hb5, hT5, hc4, k1, k2, loadA, hT4, hp5, hst, Post_some]

theorem do_rot (h : HeadI S S1 p ro fw cs m n secs ws off a) (hm : m ≤ 800) (hf : PreF f p S.length 4) : Post (evC oDo 1000 disk_do_b3 f S1) fun e f' T => e = .normal ∧ MidI S p ro fw m n f' T := by
  obtain ⟨e, T, cs', k1, k2, k3⟩ := act_rot h.both1 hm a.at' a.hb
  have hT4 : T[S.length]? = some (.live 0 cs) := by rw [k3.keep.2 _ (by have := h.ln; omega) (h.fresh (Nat.le_refl _))]; exact h.b4
  have hT5 : T[S.length + 1]? = some (.live 0 a.cells) := by rw [k3.keep.2 _ (by have := h.ln; omega) (h.fresh (by omega))]; exact h.b5
  have h5 := h.both.five
  have h5' : cs'.length = 5 := by obtain ⟨_, _, _, _, g, _⟩ := k3.ex; exact g.five
  have hst := store5 hT4 h5 h5'
  have hp5 := part5 h5
  have hb5 := h.b5
  have hc1 : a.cells[1]? = some (.int .i64 a.at') := rfl
  have hc2 : a.cells[2]? = some a.b := rfl
  suffices hmid : Post (evC oDo 1000 disk_do_b3 f S1) (fun e' f' T' => e' = .normal ∧ T' = T.set S.length (.live 0 cs') ∧ f'.get 0 = .ptr p 0 0 ∧ f'.get 4 = .ptr S.length 0 0 ∧ f'.get 5 = .ptr (S.length + 1) 0 0 ∧ f'.get 6 = .ptr (S.length + 2) 0 0 ∧ f'.get 8 = .int .i64 e ∧ f'.get 9 = .int .i64 e ∧ f'.get 10 = .sl (S.length + 3) 0 0 0 1 ∧ f'.get 11 = .sl (S.length + 4) 0 0 0 1) by
    refine hmid.mono ?_
    rintro e' f' T' ⟨rfl, rfl, a0, a4, a5, a6, a8, a9, a10, a11⟩
    exact ⟨rfl, mid_of h k3 ⟨a0, a4, a5, a6, a8, a9, a10, a11⟩⟩
  simp [disk_do_b3, exM, orc, orcD, evF, evC, evOps, evOper, evAny, evOp, evCall, putR, putA, Fr.ev, Fr.of, Fr.get, Fr.set, stable, junkA, junkL, resultsA, resA, same, oDo, Fr.get_set, hf.d.s0, hf.d.s4, hf.d.s5, hf.d.s6, hf.d.s8, hf.d.s9, hf.d.s10, hf.d.s11, hf.s19, binA, intBin, faddrA, partA_none, hb5, hT5, hc1, hc2, k1, k2, loadA, hT4, hp5, hst, Post_some]

theorem do_fuse (h : HeadI S S1 p ro fw cs m n secs ws off a) (hm : m ≤ 800) (ha : a.at' ≤ 9223372036854775807) (hf : PreF f p S.length 5) : Post (evC oDo 1000 disk_do_b3 f S1) fun e f' T => e = .normal ∧ MidI S p ro fw m n f' T := by
  obtain ⟨T, cs', k1, k2, k3⟩ := act_fuse h.both1 a.at' ha
  have hT4 : T[S.length]? = some (.live 0 cs) := by rw [k3.keep.2 _ (by have := h.ln; omega) (h.fresh (Nat.le_refl _))]; exact h.b4
  have hT5 : T[S.length + 1]? = some (.live 0 a.cells) := by rw [k3.keep.2 _ (by have := h.ln; omega) (h.fresh (by omega))]; exact h.b5
  have h5 := h.both.five
  have h5' : cs'.length = 5 := by obtain ⟨_, _, _, _, g, _⟩ := k3.ex; exact g.five
  have hst := store5 hT4 h5 h5'
  have hp5 := part5 h5
  have hb5 := h.b5
  have hc1 : a.cells[1]? = some (.int .i64 a.at') := rfl
  suffices hmid : Post (evC oDo 1000 disk_do_b3 f S1) (fun e' f' T' => e' = .normal ∧ T' = T.set S.length (.live 0 cs') ∧ f'.get 0 = .ptr p 0 0 ∧ f'.get 4 = .ptr S.length 0 0 ∧ f'.get 5 = .ptr (S.length + 1) 0 0 ∧ f'.get 6 = .ptr (S.length + 2) 0 0 ∧ f'.get 8 = .int .i64 0 ∧ f'.get 9 = .int .i64 0 ∧ f'.get 10 = .sl (S.length + 3) 0 0 0 1 ∧ f'.get 11 = .sl (S.length + 4) 0 0 0 1) by
    refine hmid.mono ?_
    rintro e' f' T' ⟨rfl, rfl, a0, a4, a5, a6, a8, a9, a10, a11⟩
    exact ⟨rfl, mid_of h k3 ⟨a0, a4, a5, a6, a8, a9, a10, a11⟩⟩
  simp [disk_do_b3, exM, orc, orcD, evF, evC, evOps, evOper, evAny, evOp, evCall, putR, putA, Fr.ev, Fr.of, Fr.get, Fr.set, stable, junkA, junkL, resultsA, resA, same, oDo, Fr.get_set, hf.d.s0, hf.d.s4, hf.d.s5, hf.d.s6, hf.d.s8, hf.d.s9, hf.d.s10, hf.d.s11, hf.s19, binA, intBin, faddrA, partA_none, hb5, hT5, hc1, k1, k2, loadA, hT4, hp5, hst, Post_some]
end Am.Disk
end

/- 'do': what is read, what is written. -/
section
namespace Am.Disk
open Am Go Am.Ir
set_option maxRecDepth 100000

variable {secs : List (List UInt8)} {ws : List (Nat × List UInt8)} {off : Bool} {S S1 : St} {p ro : Nat} {fw : List Nat} {cs : List AVal} {m n : Nat} {a : ActV} {f : Fr}

theorem BothI.more (h : BothI S p ro fw cs m n secs ws off) : BothI S p ro fw cs (m + 1) n secs ws off := ⟨h.ex, h.wh, h.ln, h.lo, h.hi, h.wo, Nat.le_succ_of_le h.wl⟩

theorem ByteV.bytesA {b : AVal} {u : List UInt8} (h : ByteV b u) (S : St) : Am.bytesA b S = some u := by
  rcases h with ⟨rfl, rfl⟩ | rfl
  · rfl
  · simp only [Am.bytesA, fz_cells, asBytes_bcells]

theorem do_read (h : HeadI S S1 p ro fw cs m n secs ws off a) (hm : m ≤ 800) {k : Int} (hk1 : k ≠ 1) (hk2 : k ≠ 2) (hk3 : k ≠ 3) (hk4 : k ≠ 4) (hk5 : k ≠ 5) (hf : PreF f p S.length k) :
    Post (evC oDo 1000 disk_do_b3 f S1) fun e f' T => e = .normal ∧ MidI S p ro fw m n f' T := by
  obtain ⟨e, T, X, Y, u, k1, k2, k3, k4, k5, k6⟩ := act_read h.both1 hm a.at'
  have hln := h.ln
  have hT : ∀ r, r < S1.length → T[r]? = S1[r]? := fun r hr => k6.2 r hr (by simp)
  have hT4 : T[S.length]? = some (.live 0 cs) := by rw [hT _ (by omega)]; exact h.b4
  have hT5 : T[S.length + 1]? = some (.live 0 a.cells) := by rw [hT _ (by omega)]; exact h.b5
  have hT6 : T[S.length + 2]? = some (.live 0 z5) := by rw [hT _ (by omega)]; exact h.b6
  have h5 := h.both.five
  have hp5 := part5 h5
  have hb5 := h.b5
  have hc1 : a.cells[1]? = some (.int .i64 a.at') := rfl
  suffices hmid : Post (evC oDo 1000 disk_do_b3 f S1) (fun e' f' T' => e' = .normal ∧ T' = T ∧ f'.get 0 = .ptr p 0 0 ∧ f'.get 4 = .ptr S.length 0 0 ∧ f'.get 5 = .ptr (S.length + 1) 0 0 ∧ f'.get 6 = .ptr (S.length + 2) 0 0 ∧ f'.get 8 = .int .i64 e ∧ f'.get 9 = .int .i64 e ∧ f'.get 10 = X ∧ f'.get 11 = Y) by
    refine hmid.mono ?_
    rintro e' f' T' ⟨rfl, rfl, a0, a4, a5, a6, a8, a9, a10, a11⟩
    have hfr : ∀ r, S.length ≤ r → r ∉ p :: ro :: fw := fun r hr => h.fresh hr
    have hkT : Keeps S T' (p :: ro :: fw) := ⟨by have := k6.1; omega, fun r hr _ => by rw [hT r (by omega), h.old r hr]⟩
    rcases k3 with ⟨rfl, rfl⟩ | ⟨q, v, rfl, hq1, hq2⟩
    · exact ⟨rfl, ⟨⟨cs, fw, secs, ws, off, e, .nils, Y, [], S.length + 3, (h.both1.keep k6 (by simp)).more, fun r hr => .inl hr, by omega, hfr _ (by omega), by omega, by omega, hT4, hT6, hfr _ (by omega), hfr _ (by omega), ⟨a0, a4, a5, a6, a8, a9, a10, a11⟩, .inl ⟨rfl, rfl⟩, k4.bytesA T', by simp⟩, hkT⟩⟩
    · exact ⟨rfl, ⟨⟨cs, fw, secs, ws, off, e, _, Y, u, q, (h.both1.keep k6 (by simp)).more, fun r hr => .inl hr, by omega, hfr _ (by omega), by omega, by omega, hT4, hT6, hfr _ (by omega), hfr _ (by omega), ⟨a0, a4, a5, a6, a8, a9, a10, a11⟩, .inr ⟨v, rfl, hq2⟩, k4.bytesA T', by omega⟩, hkT⟩⟩
  simp [disk_do_b3, exM, orc, orcD, evF, evC, evOps, evOper, evAny, evOp, evCall, putR, putA, Fr.ev, Fr.of, Fr.get, Fr.set, stable, junkA, junkL, resultsA, resA, same, oDo, Fr.get_set, hf.d.s0, hf.d.s4, hf.d.s5, hf.d.s6, hf.d.s8, hf.d.s9, hf.d.s10, hf.d.s11, hf.s19, binA, intBin, hk1, hk2, hk3, hk4, hk5, faddrA, partA_none, hb5, hT5, hc1, k1, k2, loadA, hT4, hp5, Post_some]

theorem cells_sl {S : St} {q v : Nat} {u : List UInt8} (hq : S[q]? = some (.live v (bcells u))) : cellsOf 1 (.sl q v 0 u.length 1) S = some (u.length, bcells u) := by
  simp [cellsOf, hq, bcells_len]
  rw [List.take_of_length_le (by simp [bcells_len])]

theorem pad_len (a : ActV) (hu : a.u.length ≤ 300) : (padS a.raw a.u).length ≤ 600 := by
  unfold padS; split
  · omega
  · simp; omega

theorem do_write (h : HeadI S S1 p ro fw cs m n secs ws off a) (hm : m ≤ 800) (hu : a.u.length ≤ 300) (hf : PreF f p S.length 1) :
    Post (evC oDo 1000 disk_do_b3 f S1) fun e f' T => e = .normal ∧ MidI S p ro fw m n f' T := by
  have hln := h.ln
  -- the sector
  obtain ⟨T1, v, k1, k2⟩ := lsector_raw a hu S1
  have hpl := pad_len a hu
  obtain ⟨u, hpu⟩ : ∃ u, padS a.raw a.u = u := ⟨_, rfl⟩
  rw [hpu] at k1 k2 hpl
  have hT1l := get_lt k2.b1
  have hkT1 : Keeps S1 T1 [] := ⟨by omega, fun r hr _ => k2.keep r hr⟩
  have hB1 := h.both1.keep hkT1 (by simp)
  have hfr : ∀ r, S.length ≤ r → r ∉ p :: ro :: fw := fun r hr => h.fresh hr
  have hqp : S1.length + 1 ≠ p := fun e => hfr (S1.length + 1) (by omega) (by simp [e])
  -- the write
  obtain ⟨e, T2, cs', w1, w2, w3⟩ := act_writeT (own := .sl (S1.length + 1) v 0 u.length 1) (u := u) hB1 hm a.at' rfl (fun S' hS' => cells_sl (by rw [hS' _ hqp]; exact k2.b1)) rfl
  have hT2 : ∀ r, S.length ≤ r → r < T1.length → T2[r]? = T1[r]? := fun r h1 h2 => w3.keep.2 r h2 (hfr r h1)
  have hT2l := w3.keep.1
  -- the document's sector
  obtain ⟨T3, v', k3, k4⟩ := lsector_raw a hu T2
  rw [hpu] at k3 k4
  have hT3l := get_lt k4.b1
  have hT3 : ∀ r, r < T2.length → T3[r]? = T2[r]? := fun r hr => k4.keep r hr
  have hput := w2 T3 (.sl (T2.length + 1) v' 0 u.length 1) rfl (fun E => by
    have : cellsOf 1 (.sl (T2.length + 1) v' 0 u.length 1) (T3 ++ E) = some (u.length, bcells u) := cells_sl (by rw [get_old hT3l]; exact k4.b1)
    simp only [bytesA, this, asBytes_bcells])
  have g1 : ∀ r, S.length ≤ r → r < S1.length → T1[r]? = S1[r]? := fun r _ h2 => k2.keep r h2
  have t14 : T1[S.length]? = some (.live 0 cs) := by rw [g1 _ (by omega) (by omega)]; exact h.b4
  have t15 : T1[S.length + 1]? = some (.live 0 a.cells) := by rw [g1 _ (by omega) (by omega)]; exact h.b5
  have t24 : T2[S.length]? = some (.live 0 cs) := by rw [hT2 _ (by omega) (by omega)]; exact t14
  have t25 : T2[S.length + 1]? = some (.live 0 a.cells) := by rw [hT2 _ (by omega) (by omega)]; exact t15
  have t34 : T3[S.length]? = some (.live 0 cs) := by rw [hT3 _ (by omega)]; exact t24
  have t35 : T3[S.length + 1]? = some (.live 0 a.cells) := by rw [hT3 _ (by omega)]; exact t25
  have h5 := h.both.five
  have h5' : cs'.length = 5 := by obtain ⟨_, _, _, _, g, _⟩ := w3.ex; exact g.five
  have hst := store5 t34 h5 h5'
  have hp5 := part5 h5
  have hpa : partA (some 5) 0 a.cells = some (.agg a.cells) := part5 rfl
  have hb5 := h.b5
  have hc1 : a.cells[1]? = some (.int .i64 a.at') := rfl
  obtain ⟨T4, hT4e⟩ : ∃ T4 : St, T3.set S.length (.live 0 cs') = T4 := ⟨_, rfl⟩
  rw [hT4e] at hst
  have hT4 : ∀ r, r ≠ S.length → T4[r]? = T3[r]? := fun r hr => by rw [← hT4e, set_get' hr]
  have hT4l : T4.length = T3.length := by rw [← hT4e]; simp
  have hown : T4[S1.length + 1]? = some (.live v (bcells u)) := by rw [hT4 _ (by omega), hT3 _ (by omega), hT2 _ (by omega) (by omega)]; exact k2.b1
  simp only [disk_do_b3]
  refine Post.block ?_
  simp only [disk_do_c2, Post_seq]
  simp [exM, orc, orcD, evF, evC, evOps, evOper, evAny, evOp, evCall, putR, putA, Fr.ev, Fr.of, Fr.get, Fr.set, stable, junkA, junkL, resultsA, resA, same, oDo, Fr.get_set, hf.d.s0, hf.d.s4, hf.d.s5, hf.d.s6, hf.d.s8, hf.d.s9, hf.d.s10, hf.d.s11, hf.s19, binA, intBin, faddrA, partA_none, hb5, t15, t25, hc1, k1, w1, k3, hput, loadA, t24, hp5, hpa, hst, t34, t35, trL, sameRead, sameVal, beqV, beqL_refl, Post_some]
  refine (own_loop (p := p) (n0 := S.length) (e1 := e) (e2 := e) (X := .sl (S.length + 3) 0 0 0 1) (Y := .sl (S.length + 4) 0 0 0 1) (q := S1.length + 1) (v := v) (u := u) ?_ (by simp [Fr.get_set]) (by simp [Fr.get_set]) hown hpl).mono ?_
  · exact ⟨by simp [Fr.get_set, hf.d.s0], by simp [Fr.get_set, hf.d.s4], by simp [Fr.get_set, hf.d.s5], by simp [Fr.get_set, hf.d.s6], by simp [Fr.get_set], by simp [Fr.get_set], by simp [Fr.get_set, hf.d.s10], by simp [Fr.get_set, hf.d.s11]⟩
  rintro e' f' T5 ⟨rfl, d, hk5⟩
  refine ⟨fun _ => rfl, ?_⟩
  obtain ⟨fw', secs', ws', off', b1, b2⟩ := w3.ex
  have hfr' : ∀ r, S.length ≤ r → r < T1.length → r ∉ p :: ro :: fw' := by
    intro r h1 h2 hm
    have h3 := hfr r h1
    simp only [List.mem_cons, not_or] at h3 hm
    rcases hm with hm | hm | hm
    · exact h3.1 hm
    · exact h3.2.1 hm
    · rcases b2 r hm with h4 | h4
      · exact h3.2.2 h4
      · omega
  have hT5 : ∀ r, r ≠ S1.length + 1 → r < T4.length → T5[r]? = T4[r]? := fun r h1 h2 => hk5.2 r h2 (by simp [h1])
  have hK : Keeps T2 T5 [S.length, S1.length + 1] := ⟨by have := hk5.1; have := k4.keep; omega, fun r hr hn => by
    simp at hn
    rw [hT5 r hn.2 (by omega), hT4 r hn.1, hT3 r hr]⟩
  have old : ∀ r, S.length ≤ r → r < S1.length → r ≠ S.length → T5[r]? = S1[r]? := fun r h1 h2 h3 => by
    rw [hT5 r (by omega) (by omega), hT4 r h3, hT3 r (by omega), hT2 r h1 (by omega), g1 r h1 h2]
  refine ⟨⟨cs', fw', secs', ws', off', e, _, _, [], S.length + 3, b1.keep hK ?_, ?_, by omega, hfr' _ (by omega) (by omega), by omega, by omega, ?_, ?_, hfr' _ (by omega) (by omega), hfr' _ (by omega) (by omega), d, .inr ⟨0, rfl, ?_⟩, ?_, by simp⟩, ?_⟩
  · intro r hr hm
    simp at hm
    rcases hm with rfl | rfl
    · exact hfr' _ (Nat.le_refl _) (by omega) hr
    · exact hfr' _ (by omega) (by omega) hr
  · intro r hr
    rcases b2 r hr with h4 | h4
    · exact .inl h4
    · exact .inr (by omega)
  · rw [hT5 _ (by omega) (by omega), ← hT4e, set_get (by omega)]
  · rw [old _ (by omega) (by omega) (by omega)]; exact h.b6
  · rw [old _ (by omega) (by omega) (by omega)]; exact h.b7
  · have : T5[S.length + 4]? = some (.live 0 []) := by rw [old _ (by omega) (by omega) (by omega)]; exact h.b8
    simp [bytesA, cellsOf, this, asBytes]
  · refine ⟨by have := hk5.1; omega, fun r hr hn => ?_⟩
    have h1 : r < S1.length := by omega
    rw [hT5 r (by omega) (by omega), hT4 r (by omega), hT3 r (by omega), w3.keep.2 r (by omega) hn, k2.keep r h1, h.old r hr]
end Am.Disk
end

/- 'do', whole. -/
section
namespace Am.Disk
open Am Go Am.Ir
set_option maxRecDepth 100000

variable {secs : List (List UInt8)} {ws : List (Nat × List UInt8)} {off : Bool} {S S1 : St} {p ro : Nat} {fw : List Nat} {cs : List AVal} {m n : Nat} {a : ActV} {f : Fr}

theorem do_kind (h : HeadI S S1 p ro fw cs m n secs ws off a) (hm : m ≤ 800) (hu : a.u.length ≤ 300) (ha : a.at' ≤ 9223372036854775807) {k : Int} (hf : PreF f p S.length k) :
    Post (evC oDo 1000 disk_do_b3 f S1) fun e f' T => e = .normal ∧ MidI S p ro fw m n f' T := by
  by_cases h1 : k = 1
  · subst h1; exact do_write h hm hu hf
  by_cases h2 : k = 2
  · subst h2; exact do_flush h hm hf
  by_cases h3 : k = 3
  · subst h3; exact do_crash h hm hf
  by_cases h4 : k = 4
  · subst h4; exact do_rot h hm hf
  by_cases h5 : k = 5
  · subst h5; exact do_fuse h hm ha hf
  exact do_read h hm h1 h2 h3 h4 h5 hf

theorem Own.bytes {T : St} {X : AVal} {u : List UInt8} {q : Nat} (h : Own T X u q) : bytesA X T = some u := by
  rcases h with ⟨rfl, rfl⟩ | ⟨v, rfl, hq⟩
  · rfl
  · simp only [bytesA, cells_sl hq, asBytes_bcells]

/-- What 'do' comes to. -/
def DoPost (S : St) (p ro : Nat) (fw : List Nat) (m n : Nat) (e : Ex) (f : Fr) (T : St) : Prop :=
  e = .ret ∧ ∃ cs' fw' secs ws off, resultsA f T disk_do.results = some (.tup [.agg cs', .bool true]) ∧ BothI T p ro fw' cs' (m + 1) n secs ws off ∧ (∀ r ∈ fw', r ∈ fw ∨ S.length ≤ r) ∧ Keeps S T (p :: ro :: fw)

theorem do_end {T : St} (h : MidI S p ro fw m n f T) (h14 : f.get 14 = .bool true) : Post (evC oDo 1000 disk_do_t6 f T) (DoPost S p ro fw m n) := by
  obtain ⟨cs', fw', secs, ws, off, e, X, Y, u, q, b1, b2, b3, b4, b5, b6, b7, b8, b9, b10, b11, b12, b13, b14⟩ := h.ex
  simp only [disk_do_t6, Post_seq]
  simp [exM, orc, orcD, evF, evC, evOps, evOper, evAny, evOp, evCall, putR, putA, Fr.ev, Fr.of, Fr.get, Fr.set, stable, junkA, junkL, resultsA, resA, same, Post_some]
  have hd : DoF (f.set 15 (.int .i64 0)) p S.length e e X Y := ⟨by simp [Fr.get_set, b11.s0], by simp [Fr.get_set, b11.s4], by simp [Fr.get_set, b11.s5], by simp [Fr.get_set, b11.s6], by simp [Fr.get_set, b11.s8], by simp [Fr.get_set, b11.s9], by simp [Fr.get_set, b11.s10], by simp [Fr.get_set, b11.s11]⟩
  refine (read_loop hd (by simp [Fr.get_set, h14]) (by simp [Fr.get_set]) b12 b14).mono ?_
  rintro e' f' T1 ⟨rfl, d, g14, hk⟩
  have t0 : T1[S.length]? = some (.live 0 cs') := by rw [hk.2 _ (get_lt b7) (by simp; omega)]; exact b7
  have t2 : T1[S.length + 2]? = some (.live 0 z5) := by rw [hk.2 _ (get_lt b8) (by simp; omega)]; exact b8
  have h5 := b1.five
  have hp5 := part5 h5
  have hst := store5 (cs' := cs') t2 rfl h5
  obtain ⟨T2, hT2⟩ : ∃ T2 : St, T1.set (S.length + 2) (.live 0 cs') = T2 := ⟨_, rfl⟩
  rw [hT2] at hst
  have t22 : T2[S.length + 2]? = some (.live 0 cs') := by rw [← hT2, set_get (get_lt t2)]
  have hk2 : Keeps T1 T2 [S.length + 2] := by rw [← hT2]; exact Keeps.set ..
  have hfin : BothI T2 p ro fw' cs' (m + 1) n secs ws off := (b1.keep hk (fun r hr hm => by simp at hm; subst hm; exact b4 hr)).keep hk2 (fun r hr hm => by simp at hm; subst hm; exact b10 hr)
  have hkf : Keeps S T2 (p :: ro :: fw) := ⟨by have := h.keep.1; have := hk.1; have := hk2.1; omega, fun r hr hn => by
    have h1 := h.keep.1
    have h2 := hk.1
    rw [hk2.2 r (by omega) (by simp; omega), hk.2 r (by omega) (by simp; omega), h.keep.2 r hr hn]⟩
  simp [exM, orc, orcD, evF, evC, evOps, evOper, evAny, evOp, evCall, putR, putA, Fr.ev, Fr.of, Fr.get, Fr.set, stable, junkA, junkL, resultsA, resA, same, Fr.get_set, d.s4, d.s6, g14, loadA, t0, hp5, hst, Post_some]
  refine ⟨rfl, cs', fw', secs, ws, off, ?_, hfin, b2, hkf⟩
  simp [disk_do, resultsA, resA, Fr.get_set, d.s6, loadA, t22, hp5]

theorem do_t7 (h : HeadI S S1 p ro fw cs m n secs ws off a) (hm : m ≤ 800) (hu : a.u.length ≤ 300) (ha : a.at' ≤ 9223372036854775807) (hf : DoF f p S.length 0 0 (.sl (S.length + 3) 0 0 0 1) (.sl (S.length + 4) 0 0 0 1)) :
    Post (evC oDo 1000 disk_do_t7 f S1) (DoPost S p ro fw m n) := by
  have hb5 := h.b5
  have hc0 : a.cells[0]? = some (.int .i64 a.kind) := rfl
  simp only [disk_do_t7, Post_seq]
  simp [exM, orc, orcD, evF, evC, evOps, evOper, evAny, evOp, evCall, putR, putA, Fr.ev, Fr.of, Fr.get, Fr.set, stable, junkA, junkL, resultsA, resA, same, Fr.get_set, hf.s5, faddrA, loadA, partA_none, hb5, hc0, Post_some]
  refine (do_kind h hm hu ha (k := a.kind) ⟨⟨by simp [Fr.get_set, hf.s0], by simp [Fr.get_set, hf.s4], by simp [Fr.get_set, hf.s5], by simp [Fr.get_set, hf.s6], by simp [Fr.get_set, hf.s8], by simp [Fr.get_set, hf.s9], by simp [Fr.get_set, hf.s10], by simp [Fr.get_set, hf.s11]⟩, by simp [Fr.get_set]⟩).mono ?_
  rintro e f' T ⟨rfl, hM⟩
  obtain ⟨cs', fw', secs, ws, off, e, X, Y, u, q, b1, b2, b3, b4, b5, b6, b7, b8, b9, b10, b11, b12, b13, b14⟩ := hM.ex
  have hX := b12.bytes
  have hwt := (act_len b1).2
  obtain ⟨x, hx, hxl⟩ : ∃ x, cs'[1]? = some x ∧ lenA .sl x = some (.int .i64 (ws.length : Int)) := by
    obtain ⟨cw, lets, x, has, fuse, _, rfl, hW, _⟩ := b1.ex
    exact ⟨x, rfl, hW.len⟩
  simp [exM, orc, orcD, evF, evC, evOps, evOper, evAny, evOp, evCall, putR, putA, Fr.ev, Fr.of, Fr.get, Fr.set, stable, junkA, junkL, resultsA, resA, same, oDo, Fr.get_set, b11.s0, b11.s4, b11.s8, b11.s9, b11.s10, b11.s11, hX, b13, hwt, faddrA, loadA, partA_none, b7, hx, hxl, binA, intBin, strBin, trL, sameRead, sameVal, beqV_refl, Post_some]
  refine do_end ⟨⟨cs', fw', secs, ws, off, e, X, Y, u, q, b1, b2, b3, b4, b5, b6, b7, b8, b9, b10, ?_, b12, b13, b14⟩, hM.keep⟩ (by simp [Fr.get_set])
  exact ⟨by simp [Fr.get_set, b11.s0], by simp [Fr.get_set, b11.s4], by simp [Fr.get_set, b11.s5], by simp [Fr.get_set, b11.s6], by simp [Fr.get_set, b11.s8], by simp [Fr.get_set, b11.s9], by simp [Fr.get_set, b11.s10], by simp [Fr.get_set, b11.s11]⟩

noncomputable def yDo : Model := exM oDo disk_do 1000

theorem do_ok (h : BothI S p ro fw cs m n secs ws off) (hm : m ≤ 800) (a : ActV) (hu : a.u.length ≤ 300) (ha : a.at' ≤ 9223372036854775807) :
    ∃ T cs' fw' secs' ws' off', yDo [.ptr p 0 0, .agg cs, .agg a.cells] S = some (.tup [.agg cs', .bool true], T) ∧ BothI T p ro fw' cs' (m + 1) n secs' ws' off' ∧ (∀ r ∈ fw', r ∈ fw ∨ S.length ≤ r) ∧ Keeps S T (p :: ro :: fw) := by
  obtain ⟨S1, hS1⟩ : ∃ S1 : St, S ++ [.live 0 cs, .live 0 a.cells, .live 0 [.nils, .nils, .bool false, .int .i64 0, .bool false], .live 0 [], .live 0 []] = S1 := ⟨_, rfl⟩
  have hH : HeadI S S1 p ro fw cs m n secs ws off a := by
    subst hS1
    exact ⟨h, by simp, fun r hr => get_old hr, by simp, by simp, by simp [z5], by simp, by simp⟩
  suffices hs : Post (evC oDo 1000 disk_do.body (Fr.of [.ptr p 0 0, .agg cs, .agg a.cells]) S) (DoPost S p ro fw m n) by
    obtain ⟨e, f, T, g1, rfl, cs', fw', secs', ws', off', g2, g3, g4, g5⟩ := hs.ex
    refine ⟨T, cs', fw', secs', ws', off', ?_, g3, g4, g5⟩
    unfold yDo exM
    refine evF_post rfl rfl ?_
    exact Post.of g1 ⟨.inr rfl, g2, rfl⟩
  simp only [disk_do, Post_seq]
  simp [exM, orc, orcD, evF, evC, evOps, evOper, evAny, evOp, evCall, putR, putA, Fr.ev, Fr.of, Fr.get, Fr.set, stable, junkA, junkL, resultsA, resA, same, cells_agg, fillA, hS1, Post_some]
  exact do_t7 hH hm hu ha ⟨rfl, rfl, rfl, rfl, rfl, rfl, rfl, rfl⟩
end Am.Disk
end

/- Any script of acts is answered as the document says. -/
section
namespace Am.Disk
open Am Go Am.Ir
set_option maxRecDepth 100000

variable {secs : List (List UInt8)} {ws : List (Nat × List UInt8)} {off : Bool} {S S1 : St} {p ro : Nat} {fw : List Nat} {cs : List AVal} {m n : Nat} {a : ActV} {f : Fr}

noncomputable def oPlays : Orc := orc [xNew, mNewR, mAlive, mSmall, yDo, yDump, mDumpR, xLen]

/-- The slots of the loop over the script. -/
structure PlF (f : Fr) (x : AVal) (j : Nat) : Prop where
  s1 : f.get 1 = x
  s5 : f.get 5 = .ptr 1 0 0
  s7 : f.get 7 = .ptr 2 0 0
  s9 : f.get 9 = .int .i64 (j : Int)

/-- The disk, the document's, and where that one lies. -/
def PlI (T : St) (m n : Nat) : Prop := ∃ fw cs secs ws off, BothI T 1 0 fw cs m n secs ws off ∧ T[2]? = some (.live 0 cs) ∧ 2 ∉ fw

theorem new_bad {n : Int} (h : n < 16 ∨ 512 < n) (S : St) : xNew [.int .i64 n] S = some (.tup [.nilp, .int .i64 1], S) := by
  by_cases h1 : n < 16
  · simp [xNew, disk_New, exM, orc, orcD, evF, evC, evOps, evOper, evAny, evOp, evCall, putR, putA, Fr.ev, Fr.of, Fr.get, Fr.set, stable, junkA, junkL, resultsA, resA, same, binA, intBin, h1]
  · have h2 : 512 < n := by omega
    simp [xNew, disk_New, exM, orc, orcD, evF, evC, evOps, evOper, evAny, evOp, evCall, putR, putA, Fr.ev, Fr.of, Fr.get, Fr.set, stable, junkA, junkL, resultsA, resA, same, binA, intBin, h1, h2]

theorem BothI.slen (h : BothI S p ro fw cs m n secs ws off) : ∃ x, cs[0]? = some x ∧ lenA .sl x = some (.int .i64 (n : Int)) := by
  obtain ⟨cw, lets, x, has, fuse, h1, rfl, _⟩ := h.ex
  exact ⟨_, rfl, by rw [svA_len, h.ln]⟩

theorem plays_round {f : Fr} {T : St} {x : AVal} {L : List ActV} (hx : ActsV x L) {j : Nat} (hj : j < L.length) (hj2 : j < 40) (hr : ∀ a ∈ L, a.at' ≤ 9223372036854775807) (h : PlI T j n) (hf : PlF f x j) :
    Post (evC oPlays 1000 DiskPlays_l0 f T) fun e f' T' => e = .normal ∧ PlI T' (j + 1) n ∧ PlF f' x (j + 1) := by
  obtain ⟨fw, cs, secs, ws, off, hB, h2, hn2⟩ := h
  obtain ⟨a, ha⟩ : ∃ a, L[j]? = some a := ⟨_, List.getElem?_eq_getElem hj⟩
  have hix := hx.ix j a ha
  have har := hr a (List.mem_of_getElem? ha)
  have hlss : binA .lss (.int .i64 (j : Int)) (.int .i64 (L.length : Int)) = some (.bool true) := by simp [binA, intBin]; omega
  have hlss2 : binA .lss (.int .i64 (j : Int)) (.int .i64 40) = some (.bool true) := by simp [binA, intBin]; omega
  have hadd : binA .add (.int .i64 (j : Int)) (.int .i64 1) = some (.int .i64 ((j : Int) + 1)) := by
    have hw1 : IntKind.i64.wrap ((j : Int) + 1) = (j : Int) + 1 := wrap64 (by omega) (by omega)
    simp [binA, intBin, hw1]
  have hpa : partA (some 5) 0 a.cells = some (.agg a.cells) := part5 rfl
  have hsm := fun S => small_ok a S
  have hxl := hx.len
  cases hs : smallS a with
  | false =>
    rw [hs] at hsm
    suffices hmid : Post (evC oPlays 1000 DiskPlays_l0 f T) (fun e f' T' => e = .normal ∧ T' = T ∧ f'.get 1 = x ∧ f'.get 5 = .ptr 1 0 0 ∧ f'.get 7 = .ptr 2 0 0 ∧ f'.get 9 = .int .i64 ((j : Int) + 1)) by
      refine hmid.mono ?_
      rintro e f' T' ⟨rfl, rfl, a1, a5, a7, a9⟩
      exact ⟨rfl, ⟨fw, cs, secs, ws, off, hB.more, h2, hn2⟩, ⟨a1, a5, a7, by rw [a9]; simp⟩⟩
    simp [DiskPlays_l0, exM, orc, orcD, evF, evC, evOps, evOper, evAny, evOp, evCall, putR, putA, Fr.ev, Fr.of, Fr.get, Fr.set, stable, junkA, junkL, resultsA, resA, same, oPlays, Fr.get_set, hf.s1, hf.s5, hf.s7, hf.s9, hxl, hlss, hlss2, hix, loadA, hpa, hsm, unA, hadd, Post_some]
  | true =>
    rw [hs] at hsm
    have hu : a.u.length ≤ 300 := by
      simp [smallS] at hs; exact hs.1
    obtain ⟨T1, cs', fw', secs', ws', off', d1, d2, d3, d4⟩ := do_ok hB (by omega) a hu har
    have hlt2 := get_lt h2
    have hnd : 2 ∉ 1 :: 0 :: fw := by simp; exact hn2
    have h21 : T1[2]? = some (.live 0 cs) := by rw [d4.2 2 hlt2 hnd]; exact h2
    have hT1l := d4.1
    have h5 := hB.five
    have h5' := d2.five
    have hp5 := part5 h5
    have hp5' := part5 h5'
    have hn2' : 2 ∉ 1 :: 0 :: fw' := by
      intro hm
      simp at hm
      rcases d3 2 hm with h4 | h4
      · exact hn2 h4
      · omega
    -- the variable 'next'
    obtain ⟨T2, hT2⟩ : ∃ T2 : St, T1 ++ [.live 0 cs'] = T2 := ⟨_, rfl⟩
    have hk2 : Keeps T1 T2 [] := by rw [← hT2]; exact Keeps.append ..
    have h22 : T2[2]? = some (.live 0 cs) := by rw [← hT2, get_old (by omega)]; exact h21
    have hnx : T2[T1.length]? = some (.live 0 cs') := by rw [← hT2]; exact app_get _ _
    have hal : ∀ z : List AVal, z.length = 5 → storeA 5 (.ptr T1.length 0 0) (.agg cs') (T1 ++ [.live 0 z]) = some T2 := fun z hz => by
      rw [store5 (app_get _ _) hz h5', ← hT2]; simp
    have hal' := hal [.nils, .nils, .bool false, .int .i64 0, .bool false] rfl
    have hst := store5 h22 h5 h5'
    have h21z : (T1 ++ [ABlock.live 0 [.nils, .nils, .bool false, .int .i64 0, .bool false]])[2]? = some (.live 0 cs) := by rw [get_old (by omega)]; exact h21
    obtain ⟨T3, hT3⟩ : ∃ T3 : St, T2.set 2 (.live 0 cs') = T3 := ⟨_, rfl⟩
    rw [hT3] at hst
    have hk3 : Keeps T2 T3 [2] := by rw [← hT3]; exact Keeps.set ..
    have h32 : T3[2]? = some (.live 0 cs') := by rw [← hT3, set_get (get_lt h22)]
    have hB3 : BothI T3 1 0 fw' cs' (j + 1) n secs' ws' off' := (d2.keep hk2 (by simp)).keep hk3 (fun r hr hm => by
      have : r = 2 := by simpa using hm
      subst this; exact hn2' hr)
    obtain ⟨q1, q2⟩ := act_dump hB3
    have q3 := (act_len hB3).1
    obtain ⟨y, y1, y2⟩ := hB3.slen
    have hby : ∀ S, bytesA (.fz false secs'.flatten.length (bcells secs'.flatten)) S = some secs'.flatten := fun S => by simp only [bytesA, fz_cells, asBytes_bcells]
    obtain ⟨d, hd⟩ : ∃ d, AVal.fz false secs'.flatten.length (bcells secs'.flatten) = d := ⟨_, rfl⟩
    rw [hd] at q1 q2 hby
    have hneqs : binA .neq (.str secs'.flatten) (.str secs'.flatten) = some (.bool false) := by simp [binA, strBin]
    have hneqi : binA .neq (.int .i64 (n : Int)) (.int .i64 (n : Int)) = some (.bool false) := by simp [binA, intBin]
    suffices hmid : Post (evC oPlays 1000 DiskPlays_l0 f T) (fun e f' T' => e = .normal ∧ T' = T3 ∧ f'.get 1 = x ∧ f'.get 5 = .ptr 1 0 0 ∧ f'.get 7 = .ptr 2 0 0 ∧ f'.get 9 = .int .i64 ((j : Int) + 1)) by
      refine hmid.mono ?_
      rintro e f' T' ⟨rfl, rfl, a1, a5, a7, a9⟩
      exact ⟨rfl, ⟨fw', cs', secs', ws', off', hB3, h32, fun hm => hn2' (by simp [hm])⟩, ⟨a1, a5, a7, by rw [a9]; simp⟩⟩
    simp [DiskPlays_l0, exM, orc, orcD, evF, evC, evOps, evOper, evAny, evOp, evCall, putR, putA, Fr.ev, Fr.of, Fr.get, Fr.set, stable, junkA, junkL, resultsA, resA, same, oPlays, Fr.get_set, hf.s1, hf.s5, hf.s7, hf.s9, hxl, hlss, hlss2, hix, loadA, hpa, hsm, unA, hadd, h2, h21, h21z, h22, hp5, hp5', d1, hal', hnx, hst, h32, q1, q2, q3, hby, faddrA, partA_none, y1, y2, hneqs, hneqi, trL, sameRead, sameVal, beqV_refl, Post_some]
end Am.Disk
end

/- Any script of acts is answered as the document says: whole. -/
section
namespace Am.Disk
open Am Go Am.Ir
set_option maxRecDepth 100000

variable {n : Nat}

theorem plays_loop {f : Fr} {T : St} {x : AVal} {L : List ActV} (hx : ActsV x L) (hr : ∀ a ∈ L, a.at' ≤ 9223372036854775807) (h : PlI T 0 n) (hf : PlF f x 0) :
    Post (evC oPlays 1000 DiskPlays_s1 f T) fun e _ _ => e = .normal := by
  obtain ⟨f', S', h1, h2⟩ := loop_post (O := oPlays) (k := 1000) (id := 0) (b := DiskPlays_l0) (I := fun j f T => PlI T j n ∧ PlF f x j) (Q := fun _ _ => True) (min L.length 40) (by omega)
    (by
      rintro j hj f T ⟨g1, g2⟩
      refine (plays_round hx (by omega) (by omega) hr g1 g2).mono ?_
      rintro e f' T' ⟨rfl, k1, k2⟩
      exact ⟨rfl, k1, k2⟩)
    (by
      rintro f T ⟨g1, g2⟩
      have hxl := hx.len
      by_cases hl : L.length ≤ 40
      · have hm : min L.length 40 = L.length := by omega
        rw [hm] at g2
        have hlss : binA .lss (.int .i64 (L.length : Int)) (.int .i64 (L.length : Int)) = some (.bool false) := by simp [binA, intBin]
        simp [DiskPlays_l0, exM, orc, orcD, evF, evC, evOps, evOper, evAny, evOp, evCall, putR, putA, Fr.ev, Fr.of, Fr.get, Fr.set, stable, junkA, junkL, resultsA, resA, same, Fr.get_set, g2.s1, g2.s9, hxl, hlss, Post_some]
      · have hm : min L.length 40 = 40 := by omega
        rw [hm] at g2
        have g9 : f.get 9 = .int .i64 40 := g2.s9
        have hlss : binA .lss (.int .i64 40) (.int .i64 (L.length : Int)) = some (.bool true) := by simp [binA, intBin]; omega
        have hlss2 : binA .lss (.int .i64 40) (.int .i64 40) = some (.bool false) := by simp [binA, intBin]
        simp [DiskPlays_l0, exM, orc, orcD, evF, evC, evOps, evOper, evAny, evOp, evCall, putR, putA, Fr.ev, Fr.of, Fr.get, Fr.set, stable, junkA, junkL, resultsA, resA, same, Fr.get_set, g2.s1, g9, hxl, hlss, hlss2, Post_some])
    (f := f) (S := T) ⟨h, hf⟩
  rw [show DiskPlays_s1 = .block 0 (.loop DiskPlays_l0) from rfl, h1]
  exact Post.of rfl rfl

theorem diskPlays (i : Int) (x : AVal) (L : List ActV) (hx : ActsV x L) (hr : ∀ a ∈ L, a.at' ≤ 9223372036854775807) : ∃ T, evF oPlays 1000 DiskPlays [.int .i64 i, x] [] = some (.bool true, T) := by
  have key : Post (evC oPlays 1000 DiskPlays.body (Fr.of [.int .i64 i, x]) []) fun e f S' => (e = .normal ∨ e = .ret) ∧ resultsA f S' DiskPlays.results = some (.bool true) ∧ True := by
    by_cases hb : i < 16 ∨ 512 < i
    · have k1 := new_bad hb []
      obtain ⟨cs, k2, k3⟩ := newRef_bad hb []
      have hst := store5 (T := [.live 0 [.nils, .nils, .bool false, .int .i64 0, .bool false]]) (n0 := 0) (cs' := cs) rfl rfl k3
      simp only [DiskPlays, Post_seq]
      simp [exM, orc, orcD, evF, evC, evOps, evOper, evAny, evOp, evCall, putR, putA, Fr.ev, Fr.of, Fr.get, Fr.set, stable, junkA, junkL, resultsA, resA, same, oPlays, k1, k2, hst, binA, intBin, eq2, mAlive_eq, Post_some]
    · obtain ⟨n, rfl⟩ : ∃ n : Nat, i = n := ⟨i.toNat, by omega⟩
      obtain ⟨S1, k1, kl, k2, k3, k4⟩ := new_ok' n (by omega) (by omega) []
      have k5 := newRef_ok (n := n) (by omega) (by omega) S1
      simp only [List.length_nil, Nat.zero_add] at k1 kl k3 k4
      have hz : secs0 n = List.replicate n zero256 := rfl
      have hfl : (secs0 n).flatten = zeros (n * 256) := by
        rw [hz]; simp only [zeros, zero256]
        clear k5 k4 k3 k2 k1 hz hb
        induction n with
        | zero => rfl
        | succ n ih => rw [List.replicate_succ, List.flatten_cons, ih, List.replicate_append_replicate]; congr 1; omega
      have hwh : Whole (secs0 n) := fun s hs => by
        rw [hz] at hs; rw [(List.mem_replicate.1 hs).2]; exact zero256_len
      obtain ⟨cs, hcs⟩ : ∃ cs, rc (secs0 n) .nils false 0 false = cs := ⟨_, rfl⟩
      have hB : BothI S1 1 0 [] cs 0 n (secs0 n) [] false := ⟨⟨.nils, -1, .nils, false, 0, ⟨by rw [hfl]; exact k3, by rw [hfl]; exact k4, .inl ⟨rfl, rfl, rfl⟩, by simp⟩, hcs.symm, .inl ⟨rfl, rfl⟩, .inl ⟨rfl, rfl⟩⟩, hwh, by simp [secs0], by omega, by omega, fun w hw => by simp at hw, by simp⟩
      rw [hcs] at k5
      have h5 := hB.five
      obtain ⟨S2, hS2⟩ : ∃ S2 : St, S1 ++ [.live 0 cs] = S2 := ⟨_, rfl⟩
      have hst : storeA 5 (.ptr 2 0 0) (.agg cs) (S1 ++ [.live 0 [.nils, .nils, .bool false, .int .i64 0, .bool false]]) = some S2 := by
        have hg : (S1 ++ [ABlock.live 0 [.nils, .nils, .bool false, .int .i64 0, .bool false]])[2]? = some (.live 0 [.nils, .nils, .bool false, .int .i64 0, .bool false]) := by rw [← kl]; exact app_get _ _
        rw [store5 hg rfl h5, ← hS2, ← kl]; simp
      have hI : PlI S2 0 n := ⟨[], cs, _, _, _, hB.keep (K := []) (by rw [← hS2]; exact Keeps.append ..) (by simp), by rw [← hS2, ← kl]; exact app_get _ _, by simp⟩
      have hb1 : binA .neq (.int .i64 0) (.int .i64 0) = some (.bool false) := rfl
      simp only [DiskPlays, DiskPlays_t2, Post_seq]
      simp [exM, orc, orcD, evF, evC, evOps, evOper, evAny, evOp, evCall, putR, putA, Fr.ev, Fr.of, Fr.get, Fr.set, stable, junkA, junkL, resultsA, resA, same, oPlays, k1, k5, kl, hst, hb1, eq2, Post_some]
      refine (plays_loop hx hr hI ⟨rfl, rfl, rfl, rfl⟩).mono ?_
      rintro e f T rfl
      simp [exM, orc, orcD, evF, evC, evOps, evOper, evAny, evOp, evCall, putR, putA, Fr.ev, Fr.of, Fr.get, Fr.set, stable, junkA, junkL, resultsA, resA, same, oPlays, Fr.get_set, mAlive_eq, Post_some]
  exact (evF_postX (O := oPlays) (k := 1000) (F := DiskPlays) (v := .bool true) (R := fun _ => True) rfl rfl key).imp fun _ h => h.1

theorem act_of2 (x : actT.Val) (h : actT.Wf x) : ∃ a : ActV, actT.enc x = a.cells ∧ a.at' ≤ 9223372036854775807 := by
  obtain ⟨kind, at', b, raw, k, u⟩ := x
  obtain ⟨h1, h2, h3, h4, h5, h6⟩ := h
  obtain ⟨ub, hb⟩ := byte_arg b h3
  obtain ⟨K, hk⟩ := int_arg k
  refine ⟨⟨kind, at', _, raw, _, ub, K, hb, hk⟩, ?_, h2.2⟩
  show [AVal.int .i64 kind] ++ ([AVal.int .i64 at'] ++ ((DT.sl (.int .u8)).enc b ++ ([AVal.bool raw] ++ ((DT.sl (.int .i64)).enc k ++ [])))) = _
  rw [enc_one_sl, enc_one_sl]
  rfl

theorem acts_of2 (l : List actT.Val) (h : ∀ x ∈ l, actT.Wf x) : ∃ L : List ActV, (∀ a ∈ L, a.at' ≤ 9223372036854775807) ∧ L.length = l.length ∧ l.flatMap actT.enc = L.flatMap ActV.cells := by
  induction l with
  | nil => exact ⟨[], by simp, rfl, rfl⟩
  | cons x l ih =>
    obtain ⟨L, h0, h1, h2⟩ := ih (fun y hy => h y (by simp [hy]))
    obtain ⟨a, ha, hb⟩ := act_of2 x (h x (by simp))
    exact ⟨a :: L, by intro b hb'; rcases List.mem_cons.1 hb' with rfl | h; exact hb; exact h0 b h, by simp [h1], by simp only [List.flatMap_cons, ha, h2]⟩

theorem acts_arg2 (x : Option (List actT.Val)) (h : (DT.sl actT).Wf x) : ∃ L, ActsV ((DT.sl actT).one x) L ∧ ∀ a ∈ L, a.at' ≤ 9223372036854775807 := by
  cases x with
  | none => exact ⟨[], ⟨rfl, fun i a h => by simp at h⟩, by simp⟩
  | some l =>
    obtain ⟨L, h0, h1, h2⟩ := acts_of2 l h.2
    refine ⟨L, ⟨by simp only [DT.one, lenA, h1], fun i a ha => ?_⟩, h0⟩
    have hlt := (List.getElem?_eq_some_iff.1 ha).1
    simp only [DT.one, h2, ← h1, iaddrSA]
    rw [if_pos ⟨acts_len L, by omega, by omega⟩]
    rw [show ((i : Int)).toNat = i from by omega, cells_ix L i a ha]
end Am.Disk
end

/- DiskPlays: any script of reads, writes, flushes, crashes, rot and fuses on a disk of any size is answered as the document says, and behind each all that is on the disk is as it says; for every input, no condition. -/
section
namespace Am.Disk
open Am Go Am.Ir Go.Proofs Go.Proofs.Ytlhbmnhiiicldaa Go.RowKit
set_option maxRecDepth 100000

theorem smBlankR : Sound Try.prog 28 mBlankR := Sound.pure 1 (sx (fs := []) (l := []) trivial Try.func28 r04_blank_ok 10)
theorem smSpendR : Sound Try.prog 35 mSpendR := Sound.pure 5 (sx (fs := []) (l := []) trivial Try.func35 r04_spend_ok 10)
theorem smLayR : Sound Try.prog 36 mLayR := Sound.pure 1 (sx (fs := []) (l := []) trivial Try.func36 r04_lay_ok 10)
theorem smNewR : Sound Try.prog 18 mNewR := Sound.pure 5 (sx (fs := [28]) (l := [mBlankR]) ⟨smBlankR, trivial⟩ Try.func18 r04_New_ok 1000)
theorem smReadRef : Sound Try.prog 34 mReadRef := Sound.pure 5 (sx (fs := []) (l := []) trivial Try.func34 r04_Read_ok 1000)
theorem smPutT : Sound Try.prog 29 mPutT := Sound.tell 5 (sx (fs := [35]) (l := [mSpendR]) ⟨smSpendR, trivial⟩ Try.func29 r04_Put_ok 10)
theorem smFlushR : Sound Try.prog 30 mFlushR := Sound.pure 5 (sx (fs := [35]) (l := [mSpendR]) ⟨smSpendR, trivial⟩ Try.func30 r04_Flush_ok 1000)
theorem smCrashR : Sound Try.prog 31 mCrashR := Sound.pure 5 (sx (fs := [36]) (l := [mLayR]) ⟨smLayR, trivial⟩ Try.func31 r04_Crash_ok 1000)
theorem smRotR : Sound Try.prog 32 mRotR := Sound.pure 5 (sx (fs := []) (l := []) trivial Try.func32 r04_Rot_ok 1000)
theorem smFuseR : Sound Try.prog 33 mFuseR := Sound.pure 5 (sx (fs := []) (l := []) trivial Try.func33 r04_Fuse_ok 10)
theorem smDumpR : Sound Try.prog 20 mDumpR := Sound.pure 5 (sx (fs := []) (l := []) trivial Try.func20 r04_Dump_ok 1000)
theorem sxLsector : Sound Try.prog 12 xLsector := sx (fs := []) (l := []) trivial Try.func12 disk_lsector_ok 1000
theorem syReadR : Sound Try.prog 14 yReadR := Sound.exD (fs := [23, 26, 25]) (l := [xHas, xSector, xClone]) (ds := []) (is := [(nNewest, iNewest)]) ⟨sHas, sSector, sClone, trivial⟩ trivial ⟨siNewest, trivial⟩ mix Try.func14 disk_Read_ok 10
theorem syDo : Sound Try.prog 19 yDo := sx (fs := [12, 9, 29, 10, 30, 13, 31, 22, 32, 15, 33, 14, 34, 16]) (l := [xLsector, yWrite, mPutT, xFlush, mFlushR, xCrash, mCrashR, xRot, mRotR, xFuse, mFuseR, yReadR, mReadRef, xWaits])
  ⟨sxLsector, syWrite, smPutT, sFlush, smFlushR, sCrash, smCrashR, sRot, smRotR, sFuse, smFuseR, syReadR, smReadRef, sWaits, trivial⟩ Try.func19 disk_do_ok 1000

theorem diskPlays_calls (n : Int) (x : AVal) (L : List ActV) (hx : ActsV x L) (hr : ∀ a ∈ L, a.at' ≤ 9223372036854775807) : ACalls Try.prog 5 [.int .i64 n, x] [] fun v _ => v = .bool true := by
  obtain ⟨T, hT⟩ := diskPlays n x L hx hr
  exact ((sx (fs := [7, 18, 8, 11, 19, 17, 20, 21]) (l := [xNew, mNewR, mAlive, mSmall, yDo, yDump, mDumpR, xLen])
    ⟨sNew, smNewR, sAlive, smSmall, syDo, syDump, smDumpR, sLen, trivial⟩ Try.func5 DiskPlays_ok 1000) _ _ _ _ hT).2.mono fun _ _ h => h.1

theorem diskPlays_lifted (os : Os) (started : os.Started) (H : Type) (enc : TypeId × Value → H) :
    ReturnsInHanded {} Try.checked os 5 .any (Rows.diskPlaysSpec.pre6 enc Try.prog Try.f5 Rows.diskPlaysRow.domain false) (Rows.diskPlaysSpec.post enc Try.prog Try.f5 false true false false) :=
  lifted (C := Try.checked) own started (by kernel_rfl) Try.func5
    (ChangeSpec.witness6 (enc := enc) (C := Try.checked) false ⟨#[], #[.int .i64 0, .slice none 0 0], []⟩ 8 (by kernel_rfl) (by kernel_rfl) (by kernel_rfl) (by kernel_rfl))
    rfl laidOut [.int .i64, .sl actT] (by kernel_rfl) rfl (by kernel_rfl)
    (fun ds h => by rcases ds with _ | ⟨a, _ | ⟨b, _ | ⟨c, ds⟩⟩⟩ <;> first | rfl | (exfalso; revert h; rw [Try.params5]; simp))
    (fun x hx => by
      obtain ⟨L, hL, hr⟩ := acts_arg2 x.2.1 hx.2.1
      exact diskPlays_calls _ _ L hL hr)

theorem diskPlays_holds : Rows.DiskPlaysSaid :=
  OpenClaim.holds_of_wide 5 Try.f5 rfl rfl rfl rfl rfl rfl rfl ⟨rfl, rfl, rfl, rfl, rfl⟩ rfl rfl rfl rfl rfl (by kernel_rfl) Try.func5 (by kernel_rfl)
    (of_decide_eq_true (by kernel_rfl)) (by unfold Func.isWrapper; first | (rw [if_pos (by decide +kernel)]; kernel_rfl) | (rw [if_neg (by decide +kernel)]; exact ⟨rfl, rfl⟩))
    (fun os started H enc _ => diskPlays_lifted os started H enc)
end Am.Disk

namespace Go.Proofs.Ytlhbmnhiiicldaa
theorem diskPlays_holds : Rows.DiskPlaysSaid := Am.Disk.diskPlays_holds
end Go.Proofs.Ytlhbmnhiiicldaa
end

