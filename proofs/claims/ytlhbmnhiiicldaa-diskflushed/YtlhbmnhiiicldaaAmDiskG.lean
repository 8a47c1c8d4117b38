/- What was flushed stays. -/
import Derived.Test.YtlhbmnhiiicldaaAmDiskL
import Derived.Test.YtlhbmnhiiicldaaAmDiskF
set_option linter.all false
namespace Am.Disk
open Am Go Am.Ir
set_option maxRecDepth 100000

variable {S : St} {p ro : Nat} {cw : AVal} {fw : List Nat} {on : List UInt8} {ws : List (Nat × List UInt8)} {lets : Int} {off : Bool}

/-- A sector of what is on the disk. -/
def sec (on : List UInt8) (i : Nat) : List UInt8 := (on.drop (i * 256)).take 256

theorem sec_lay_ne {on b : List UInt8} {i j : Nat} (hij : i ≠ j) (hb : b.length ≤ 256) (hi : i * 256 + b.length ≤ on.length) : sec (lay on i b) j = sec on j := by
  apply List.ext_getElem?
  intro k
  simp only [sec, lay, List.getElem?_take, List.getElem?_drop]
  split
  · rename_i hk
    rw [List.append_assoc, List.getElem?_append]
    have hl : (on.take (i * 256)).length = i * 256 := by simp; omega
    rw [hl]
    split
    · rename_i h; rw [List.getElem?_take, if_pos h]
    · rename_i h
      rw [List.getElem?_append]
      split
      · rename_i h2; omega
      · rename_i h2
        rw [List.getElem?_drop]; congr 1; omega
  · rfl

theorem sec_lay_same {on b : List UInt8} {i : Nat} (hb : b.length = 256) (hi : (i + 1) * 256 ≤ on.length) : sec (lay on i b) i = b := by
  have hl : (on.take (i * 256)).length = i * 256 := by simp; omega
  simp only [sec, lay, List.append_assoc]
  rw [List.drop_append_of_le_length (by omega), List.drop_of_length_le (by omega), List.nil_append, List.take_append_of_le_length (by omega), List.take_of_length_le (by omega)]

theorem sec_flush {n : Nat} {at' : Nat} (hn : on.length = n * 256) (hw : WsOk n ws) (hne : ∀ w ∈ ws, w.1 ≠ at') : sec (flushS on ws) at' = sec on at' := by
  induction ws generalizing on with
  | nil => rfl
  | cons w ws ih =>
    obtain ⟨h1, h2⟩ := hw w (by simp)
    have hl := lay_len on w.1 w.2 (by omega)
    show sec (flushS (lay on w.1 w.2) ws) at' = _
    rw [ih (by omega) (fun x hx => hw x (by simp [hx])) (fun x hx => hne x (by simp [hx])), sec_lay_ne (hne w (by simp)) (by omega) (by omega)]

theorem sec_crash {n : Nat} {at' : Nat} (K : List Int) (hn : on.length = n * 256) (hw : WsOk n ws) (hne : ∀ w ∈ ws, w.1 ≠ at') : ∀ j, sec (crashS K on (ws.take j)) at' = sec on at' := by
  intro j
  induction j with
  | zero => simp [crashS]
  | succ j ih =>
    cases h : ws[j]? with
    | none =>
      have hl := List.getElem?_eq_none_iff.1 h
      rw [List.take_of_length_le (by omega)]
      rw [List.take_of_length_le hl] at ih; exact ih
    | some w =>
      rw [crashS_succ K on ws h, ← ih]
      obtain ⟨h1, h2⟩ := hw w (List.mem_of_getElem? h)
      have hc := crashS_len K hn hw j
      exact sec_lay_ne (hne w (List.mem_of_getElem? h)) (by simp; omega) (by rw [hc, hn]; simp; omega)

/-- Where the disk stands: what was flushed is there. -/
structure FlI (S : St) (p ro at' : Nat) (b : List UInt8) (m : Nat) : Prop where
  ex : ∃ cw fw on ws, DiskI S p ro cw fw on ws (-1) false ∧ on.length = 16 * 256 ∧ WsOk 16 ws ∧ (∀ w ∈ ws, w.1 ≠ at') ∧ sec on at' = b ∧ ws.length ≤ m

theorem DiskI.ext (h : DiskI S p ro cw fw on ws lets off) (E : St) : DiskI (S ++ E) p ro cw fw on ws lets off := h.keep (Keeps.append S E) (by simp)

/-- What lies behind the disk's blocks stays. -/
theorem behind {S' T : St} {K : List Nat} (h : ∀ r ∈ K, r < S.length) (hk : Keeps T S' K) : ∀ r, S.length ≤ r → r < T.length → S'[r]? = T[r]? :=
  fun r h1 h2 => hk.2 r h2 (fun hm => by have := h r hm; omega)

theorem fl_write {at' m : Nat} {b : List UInt8} (h : FlI S p ro at' b m) (hm : m ≤ 800) (i : Int) (hi : i ≠ (at' : Int)) (fl : Bool) (u : List UInt8) (hul : u.length ≤ 1000) (E : St) :
    ∃ S' e, yWrite [.ptr p 0 0, .int .i64 i, .fz fl u.length (bcells u)] (S ++ E) = some (.int .i64 e, S') ∧ FlI S' p ro at' b (m + 1) ∧ ∀ r, S.length ≤ r → r < (S ++ E).length → S'[r]? = (S ++ E)[r]? := by
  obtain ⟨cw, fw, on, ws, h1, h2, h3, h4, h5, h6⟩ := h.ex
  have hlt := h1.lt
  replace h1 := h1.ext E
  by_cases hg : (0 ≤ i ∧ i < (16 : Nat)) ∧ u.length = 256
  · obtain ⟨⟨g1, g2⟩, g3⟩ := hg
    obtain ⟨i', rfl⟩ : ∃ i' : Nat, i = i' := ⟨i.toNat, by omega⟩
    obtain ⟨S', cw', fw', k1, k2, k3, k4⟩ := write_ok h1 h2 (by omega) i' (by omega) (x := .fz fl u.length (bcells u)) (u := u) rfl (fun S' _ => fz_cells fl u S') (by rw [g3]; rfl) g3 (by omega) (by omega) (by omega)
    refine ⟨S', 0, k1, ⟨cw', fw', on, ws ++ [(i', u)], k2, h2, ?_, ?_, h5, by simp; omega⟩, behind (fun r hr => hlt r (by simp only [List.mem_cons] at hr ⊢; rcases hr with h | h; exact .inl h; exact .inr (.inr h))) k3⟩
    · intro w hw
      rcases List.mem_append.1 hw with hw | hw
      · exact h3 w hw
      · simp at hw; subst hw; exact ⟨by omega, g3⟩
    · intro w hw
      rcases List.mem_append.1 hw with hw | hw
      · exact h4 w hw
      · simp at hw; subst hw; simp; omega
  · refine ⟨S ++ E, 1, write_arg h1 h2 (by omega) i _ u.length rfl ?_, ⟨cw, fw, on, ws, h1, h2, h3, h4, h5, by omega⟩, fun _ _ _ => rfl⟩
    by_cases g : 0 ≤ i ∧ i < (16 : Nat)
    · exact .inr (fun e => hg ⟨g, e⟩)
    · exact .inl g

theorem fl_flush {at' m : Nat} {b : List UInt8} (h : FlI S p ro at' b m) (hm : m ≤ 800) (E : St) : ∃ S', xFlush [.ptr p 0 0] (S ++ E) = some (.int .i64 0, S') ∧ FlI S' p ro at' b m ∧ ∀ r, S.length ≤ r → r < (S ++ E).length → S'[r]? = (S ++ E)[r]? := by
  obtain ⟨cw, fw, on, ws, h1, h2, h3, h4, h5, h6⟩ := h.ex
  have hlt := h1.lt
  replace h1 := h1.ext E
  obtain ⟨S', k1, k2, k3⟩ := flush_ok h1 h2 (by omega) h3 (by omega) (by omega) (by omega)
  exact ⟨S', k1, ⟨_, _, _, _, k2, by rw [flushS_len h2 h3]; exact h2, fun w hw => by simp at hw, fun w hw => by simp at hw, by rw [sec_flush h2 h3 h4]; exact h5, by simp⟩, behind (fun r hr => hlt r (by simp only [List.mem_cons, List.not_mem_nil, or_false] at hr ⊢; rcases hr with h | h; exact .inl h; exact .inr (.inl h))) k3⟩

theorem fl_crash {at' m : Nat} {b : List UInt8} (h : FlI S p ro at' b m) (hm : m ≤ 800) {x : AVal} {K : List Int} (hx : Ints x K) (E : St) : ∃ S', xCrash [.ptr p 0 0, x] (S ++ E) = some (.tup [], S') ∧ FlI S' p ro at' b m ∧ ∀ r, S.length ≤ r → r < (S ++ E).length → S'[r]? = (S ++ E)[r]? := by
  obtain ⟨cw, fw, on, ws, h1, h2, h3, h4, h5, h6⟩ := h.ex
  have hlt := h1.lt
  replace h1 := h1.ext E
  obtain ⟨S', k1, k2, k3⟩ := crash_ok h1 hx h2 (by omega) h3 (by omega)
  have hl := crashS_len K h2 h3 ws.length
  have hs := sec_crash K h2 h3 h4 ws.length
  rw [List.take_of_length_le (Nat.le_refl _)] at hl hs
  exact ⟨S', k1, ⟨_, _, _, _, k2, by rw [hl]; exact h2, fun w hw => by simp at hw, fun w hw => by simp at hw, by rw [hs]; exact h5, by simp⟩, behind (fun r hr => hlt r (by simp only [List.mem_cons, List.not_mem_nil, or_false] at hr ⊢; rcases hr with h | h; exact .inl h; exact .inr (.inl h))) k3⟩

theorem fl_read {at' m : Nat} {b : List UInt8} (h : FlI S p ro at' b m) (hm : m ≤ 800) (hat : at' < 16) : mRead [.ptr p 0 0, .int .i64 at'] S = some (.tup [.fz false 256 (bcells b), .int .i64 0], S) := by
  obtain ⟨cw, fw, on, ws, h1, h2, h3, h4, h5, h6⟩ := h.ex
  obtain ⟨r1, _⟩ := read_ok h1 h2 (by omega) h3 (by omega) hat
  have : readS on ws at' = b := by
    unfold readS
    have hn : newestS ws at' = none := by
      simp only [newestS, Option.map_eq_none_iff, List.find?_eq_none]
      intro w hw
      have := h4 w (by simpa using hw)
      simp [this]
    rw [hn]; exact h5
  rw [this] at r1; exact r1

/-- The start: written, and flushed. -/
theorem fl_start (h : DiskI S p ro .nils [] on [] (-1) false) (hn : on.length = 16 * 256) {at' : Nat} (hat : at' < 16) (fl : Bool) {b : List UInt8} (hb : b.length = 256) :
    ∃ S1 S2, yWrite [.ptr p 0 0, .int .i64 at', .fz fl 256 (bcells b)] S = some (.int .i64 0, S1) ∧ xFlush [.ptr p 0 0] S1 = some (.int .i64 0, S2) ∧ FlI S2 p ro at' b 0 := by
  obtain ⟨S1, cw', fw', k1, k2, k3, k4⟩ := write_ok h hn (by omega) at' hat (x := .fz fl 256 (bcells b)) (u := b) rfl (fun S' _ => by have := fz_cells fl b S'; rw [hb] at this ⊢; exact this) rfl hb (by omega) (by omega) (by simp)
  have hw : WsOk 16 ([] ++ [(at', b)]) := by intro w hw; simp at hw; subst hw; exact ⟨hat, hb⟩
  obtain ⟨S2, f1, f2, f3⟩ := flush_ok k2 hn (by omega) hw (by simp) (by decide) (by decide)
  refine ⟨S1, S2, k1, f1, ⟨_, _, _, _, f2, ?_, fun w hw => by simp at hw, fun w hw => by simp at hw, ?_, by simp⟩⟩
  · rw [flushS_len hn hw]; exact hn
  · exact sec_lay_same hb (by omega)
end Am.Disk
