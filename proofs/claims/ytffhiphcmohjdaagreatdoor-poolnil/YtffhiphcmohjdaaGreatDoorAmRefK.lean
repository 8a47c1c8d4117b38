/- Helpers: calls over an empty heap, and what is told of them. -/
import Derived.Test.YtffhiphcmohjdaaGreatDoorAmKeep
set_option linter.all false
namespace Am
open Go

theorem pureM_run {k : Nat} {m : Model} {args : List AVal} {S T : St} {v u : AVal} (hc : closedL 0 args = true) (h : m args [] = some (v, T)) (hd : deep T 0 k v = some u) : pureM k m args S = some (u, S) := by
  unfold pureM
  rw [if_pos hc, h]
  simp [hd]

theorem cells_agg (cs : List AVal) : cells? (.agg cs) = some cs := rfl
theorem cells_str (s : List UInt8) : cells? (.str s) = some [.str s] := rfl
theorem deep_tup (T : St) (n k : Nat) (cs : List AVal) : deep T n (k + 1) (.tup cs) = (cs.mapM (deep T n k)).map .tup := rfl
theorem deep_agg (T : St) (n k : Nat) (cs : List AVal) : deep T n (k + 1) (.agg cs) = (cs.mapM (deep T n k)).map .agg := rfl
theorem deep_int (T : St) (n k : Nat) (j : IntKind) (x : Int) : deep T n (k + 1) (.int j x) = some (.int j x) := rfl
theorem deep_bool (T : St) (n k : Nat) (b : Bool) : deep T n (k + 1) (.bool b) = some (.bool b) := rfl
theorem deep_str (T : St) (n k : Nat) (b : List UInt8) : deep T n (k + 1) (.str b) = some (.str b) := rfl
theorem deep_nils (T : St) (n k : Nat) : deep T n (k + 1) .nils = some .nils := rfl
theorem deep_fz (T : St) (n k : Nat) (full : Bool) (len : Nat) (cells : List AVal) : deep T n (k + 1) (.fz full len cells) = (cells.mapM (deep T n k)).map (.fz full len) := rfl
theorem deep_fz' {T : St} {n k : Nat} {full : Bool} {len : Nat} {cells : List AVal} (h : cells.mapM (deep T n k) = some cells) : deep T n (k + 1) (.fz full len cells) = some (.fz full len cells) := by
  rw [deep_fz, h]; rfl

/-- Values that stay themselves when told. -/
def flat : AVal → Bool
  | .bool _ | .int .. | .str _ | .nils => true
  | _ => false

theorem flat_deep {v : AVal} (h : flat v = true) (T : St) (n k : Nat) : deep T n (k + 1) v = some v := by cases v <;> simp [flat] at h <;> rfl
theorem flat_closed {v : AVal} (h : flat v = true) (n : Nat) : closedV n v = true := by cases v <;> simp [flat] at h <;> rfl
theorem flats_deep (T : St) (n k : Nat) : ∀ {l : List AVal}, (∀ v ∈ l, flat v = true) → l.mapM (deep T n (k + 1)) = some l
  | [], _ => rfl
  | v :: l, h => by
    rw [List.mapM_cons, flat_deep (h v (by simp)), flats_deep T n k (fun x hx => h x (by simp [hx]))]; rfl
theorem flats_closed {l : List AVal} (h : ∀ v ∈ l, flat v = true) (n : Nat) : closedL n l = true := by
  rw [closedL_iff]; exact fun c hc => flat_closed (h c hc) n

theorem flat_bcells (u : List UInt8) : ∀ v ∈ bcells u, flat v = true := by
  intro v hv
  obtain ⟨b, _, rfl⟩ := List.mem_map.1 hv
  rfl

/-- Strings in cells. -/
def scells (L : List (List UInt8)) : List AVal := L.map .str
theorem scells_len (L : List (List UInt8)) : (scells L).length = L.length := by simp [scells]
theorem flat_scells (L : List (List UInt8)) : ∀ v ∈ scells L, flat v = true := by
  intro v hv
  obtain ⟨b, _, rfl⟩ := List.mem_map.1 hv
  rfl
theorem scells_get {L : List (List UInt8)} {i : Nat} {s : List UInt8} (h : L[i]? = some s) : (scells L)[i]? = some (.str s) := by simp [scells, h]
theorem scells_set (L : List (List UInt8)) (i : Nat) (s : List UInt8) : (scells L).set i (.str s) = scells (L.set i s) := by simp [scells, List.map_set]

/-- Strings told in place. -/
def svA (L : List (List UInt8)) : AVal := .fz false L.length (scells L)
theorem svA_deep (T : St) (n k : Nat) (L : List (List UInt8)) : deep T n (k + 2) (svA L) = some (svA L) := deep_fz' (flats_deep T n k (flat_scells L))
theorem svA_closed (n : Nat) (L : List (List UInt8)) : closedV n (svA L) = true := by
  simp only [svA, closedV]; exact flats_closed (flat_scells L) n
theorem svA_cells (S : St) (L : List (List UInt8)) : cellsOf 1 (svA L) S = some (L.length, scells L) := by simp [svA, cellsOf, scells_len]
theorem svA_one (L : List (List UInt8)) : cells? (svA L) = some [svA L] := rfl
theorem svA_len (L : List (List UInt8)) : lenA .sl (svA L) = some (.int .i64 (L.length : Int)) := rfl
theorem svA_ix {L : List (List UInt8)} {i : Nat} {s : List UInt8} (h : L[i]? = some s) : iaddrSA 1 (svA L) (.int .i64 (i : Int)) = some (.fq [.str s]) := by
  have hl := (List.getElem?_eq_some_iff.1 h).1
  have h1 : ((scells L).drop i).take 1 = [.str s] := by
    have hl' : i < (scells L).length := by simpa [scells] using hl
    have := scells_get h
    rw [List.getElem?_eq_getElem hl'] at this
    rw [List.drop_eq_getElem_cons hl', Option.some.inj this]
    rfl
  have h2 : (i : Int) < (L.length : Int) := by omega
  simp [svA, iaddrSA, h2, h1, scells_len]
end Am
