/- Bytes in cells; what stays of a heap. -/
import Derived.Test.YtcecdoaddhgohaaAmTop
import Derived.Test.YtcecdoaddhgohaaAmNet1
set_option linter.all false
namespace Am
open Go

def bcells (u : List UInt8) : List AVal := u.map fun b => .int .u8 (b.toNat : Int)

theorem bcells_len (u : List UInt8) : (bcells u).length = u.length := by simp [bcells]

theorem asBytes_bcells : ∀ u : List UInt8, asBytes (bcells u) = some u
  | [] => rfl
  | b :: u => by
    have := asBytes_bcells u
    simp only [bcells] at this ⊢
    simp [asBytes, asByte, this]

theorem bcells_append (u v : List UInt8) : bcells (u ++ v) = bcells u ++ bcells v := by simp [bcells]

theorem bcells_inj {u v : List UInt8} (h : bcells u = bcells v) : u = v := by
  have h1 := asBytes_bcells u
  rw [h, asBytes_bcells] at h1
  simpa using h1.symm

/-- An argument of bytes. -/
theorem bytes_arg : ∀ (l : List Int), (∀ n ∈ l, IntKind.u8.min ≤ n ∧ n ≤ IntKind.u8.max) → ∃ u : List UInt8, u.length = l.length ∧ l.flatMap (DT.int .u8).enc = bcells u
  | [], _ => ⟨[], rfl, rfl⟩
  | n :: l, h => by
    obtain ⟨u, h1, h2⟩ := bytes_arg l (fun m hm => h m (List.mem_cons_of_mem _ hm))
    obtain ⟨a, b⟩ := h n (List.mem_cons_self ..)
    have a' : 0 ≤ n := a
    have b' : n ≤ 255 := b
    refine ⟨UInt8.ofNat n.toNat :: u, by simp [h1], ?_⟩
    rw [List.flatMap_cons, h2]
    have : ((UInt8.ofNat n.toNat).toNat : Int) = n := by
      rw [UInt8.toNat_ofNat']; omega
    simp only [DT.enc, bcells, List.map_cons, List.cons_append, List.nil_append, this]

/-- A value that holds bytes. -/
def isSl : AVal → Bool
  | .sl .. | .fz .. => true
  | _ => false

theorem eq2_sl {x : AVal} (h : isSl x = true) : eq2 .sl x .nils = some false := by
  cases x <;> simp [isSl, eq2] at h ⊢

/-- What lies outside some blocks stays. -/
def Keeps (S S' : St) (fp : List Nat) : Prop := S.length ≤ S'.length ∧ ∀ r, r < S.length → r ∉ fp → S'[r]? = S[r]?

theorem Keeps.refl (S : St) (fp : List Nat) : Keeps S S fp := ⟨Nat.le_refl _, fun _ _ _ => rfl⟩

theorem Keeps.trans {S S' S'' : St} {fp fp' : List Nat} (h : Keeps S S' fp) (h' : Keeps S' S'' fp') (hf : ∀ r ∈ fp', r ∈ fp ∨ S.length ≤ r) : Keeps S S'' fp :=
  ⟨Nat.le_trans h.1 h'.1, fun r hr hn => (h'.2 r (Nat.lt_of_lt_of_le hr h.1) (fun hm => by rcases hf r hm with h1 | h1; exact hn h1; omega)).trans (h.2 r hr hn)⟩

theorem live_lt {S : St} {r v : Nat} {cs : List AVal} (h : S[r]? = some (.live v cs)) : r < S.length := (List.getElem?_eq_some_iff.1 h).1

theorem Keeps.get {S S' : St} {fp : List Nat} (h : Keeps S S' fp) {r v : Nat} {cs : List AVal} (hS : S[r]? = some (.live v cs)) (hn : r ∉ fp) : S'[r]? = some (.live v cs) := by
  rw [h.2 r (live_lt hS) hn]; exact hS

theorem get_old {S T : St} {r : Nat} (h : r < S.length) : (S ++ T)[r]? = S[r]? := List.getElem?_append_left h

theorem Keeps.append (S T : St) : Keeps S (S ++ T) [] := ⟨by simp, fun r hr _ => get_old hr⟩

theorem Keeps.set (S : St) (r : Nat) (b : ABlock) : Keeps S (S.set r b) [r] := ⟨by simp, fun q _ hn => by
  rw [List.getElem?_set]; rw [if_neg (by simpa [eq_comm] using hn)]⟩

/-- A slice of bytes in a block of its own. -/
def MsgI (S : St) (m : AVal) (x : List UInt8) (r : Nat) : Prop := ∃ v, m = .sl r v 0 x.length 1 ∧ S[r]? = some (.live v (bcells x))

theorem MsgI.keep {S S' : St} {fp : List Nat} {m : AVal} {x : List UInt8} {r : Nat} (h : MsgI S m x r) (hk : Keeps S S' fp) (hn : r ∉ fp) : MsgI S' m x r := by
  obtain ⟨v, h1, h2⟩ := h
  exact ⟨v, h1, hk.get h2 hn⟩

theorem MsgI.lt {S : St} {m : AVal} {x : List UInt8} {r : Nat} (h : MsgI S m x r) : r < S.length := by
  obtain ⟨v, _, h2⟩ := h; exact live_lt h2

theorem MsgI.cells {S : St} {m : AVal} {x : List UInt8} {r : Nat} (h : MsgI S m x r) : cellsOf 1 m S = some (x.length, bcells x) := by
  obtain ⟨v, rfl, h2⟩ := h
  simp [cellsOf, h2, bcells_len]
  rw [List.take_of_length_le (by simp [bcells_len])]

theorem MsgI.bytes {S : St} {m : AVal} {x : List UInt8} {r : Nat} (h : MsgI S m x r) : bytesA m S = some x := by
  have := h.cells
  obtain ⟨v, rfl, h2⟩ := h
  simp only [bytesA, this, asBytes_bcells]

theorem MsgI.isSl {S : St} {m : AVal} {x : List UInt8} {r : Nat} (h : MsgI S m x r) : isSl m = true := by
  obtain ⟨v, rfl, h2⟩ := h; rfl

theorem MsgI.lenA {S : St} {m : AVal} {x : List UInt8} {r : Nat} (h : MsgI S m x r) : lenA .sl m = some (.int .i64 x.length) := by
  obtain ⟨v, rfl, h2⟩ := h; rfl

namespace Net
open Am.Ir
set_option maxRecDepth 100000

theorem clone_nil (S : St) : xClone [.nils] S = some (.nils, S) := by
  simp [xClone, exM, orc, bytes_Clone, evF, evC, evOps, evOper, evAny, evOp, putR, putA, Fr.ev, Fr.of, Fr.get, Fr.set, stable, resultsA, resA, same, eq2]

theorem clone_ok {S : St} {x : AVal} {u : List UInt8} (hx : isSl x = true) (hu : cellsOf 1 x S = some (u.length, bcells u)) (hl : u.length ≤ 140737488355328) :
    xClone [x] S = some (.sl S.length 1 0 u.length 1, S ++ [.live 1 (bcells u)]) := by
  have hu' : cellsOf 1 x (S ++ [.live 0 []]) = some (u.length, bcells u) := by
    cases x <;> simp [isSl] at hx
    · rename_i r v off len sz
      simp only [cellsOf] at hu ⊢
      split at hu
      · rename_i v' cs hS
        rw [get_old (live_lt hS), hS]; exact hu
      · simp at hu
    · exact hu
  simp [xClone, exM, orc, bytes_Clone, evF, evC, evOps, evOper, evAny, evOp, putR, putA, Fr.ev, Fr.of, Fr.get, Fr.set, stable, resultsA, resA, same, eq2_sl hx, fillA, appendA, hu', hl]

end Net
end Am
