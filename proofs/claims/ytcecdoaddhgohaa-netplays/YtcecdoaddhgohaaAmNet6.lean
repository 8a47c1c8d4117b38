/- The net over its heap: Take, spoilt; all of Take. -/
import Derived.Test.YtcecdoaddhgohaaAmNet5
set_option linter.all false
namespace Am.Net
open Am Go Am.Ir
set_option maxRecDepth 100000

theorem splice_set (l : List AVal) (i : Nat) (v : AVal) (h : i < l.length) : splice l i [v] = l.set i v := by
  simp only [splice, List.length_cons, List.length_nil]
  apply List.ext_getElem?
  intro j
  rw [List.getElem?_set]
  by_cases e : i = j
  · subst e
    simp [h, List.getElem?_append, List.length_take, Nat.min_eq_left (Nat.le_of_lt h)]
  · rw [if_neg e]
    simp only [List.append_assoc, List.getElem?_append, List.length_take, Nat.min_eq_left (Nat.le_of_lt h), List.getElem?_take, List.length_cons, List.length_nil, List.getElem?_drop]
    by_cases e1 : j < i
    · simp [e1]
    · have e2 : ¬ (j - i < 1) := by omega
      simp only [e1, if_false, e2]
      congr 1; omega

def flip (x : List UInt8) (i : Nat) : List UInt8 := x.set i ((x.getD i 0) ^^^ 1)

theorem flip_len (x : List UInt8) (i : Nat) : (flip x i).length = x.length := by simp [flip]

theorem xor_one_all : ∀ b : Fin 256, IntKind.wrap .u8 ((BitVec.ofInt 8 (b.val : Int) ^^^ BitVec.ofInt 8 1).toNat : Int) = ((UInt8.ofNat b.val ^^^ 1).toNat : Int) := by decide +kernel

theorem xor_one (b : UInt8) : binA .xor (.int .u8 (b.toNat : Int)) (.int .u8 1) = some (.int .u8 ((b ^^^ 1).toNat : Int)) := by
  have h := xor_one_all ⟨b.toNat, b.toNat_lt⟩
  simp only [UInt8.ofNat_toNat] at h
  simp only [binA, intBin]
  rw [if_neg (by simp), if_pos trivial]
  rw [show IntKind.u8.bits = 8 from rfl]
  rw [h]

theorem wrap_i64 {n : Int} (h1 : -9223372036854775808 ≤ n) (h2 : n ≤ 9223372036854775807) : IntKind.i64.wrap n = n := by
  simp [IntKind.wrap, IntKind.bits, IntKind.signed]
  omega

theorem take_spoil {S : St} {p c L f} (h : NetI S p c L f) (b : Bool) {x L'} (hL : L b = x :: L') (hlen : L'.length < 1000) (h0 : x ≠ []) {n : Int} (hn : 4 ≤ n) (hn' : n ≤ 9223372036854775807) :
    ∃ S' c' f' m rm, xTake [.ptr p 0 0, .bool b, .int .i64 n] S = some (.tup [m, .bool true], S') ∧
      NetI S' p (up c b c') (up L b L') (up f b f') ∧ Keeps S S' [p, rm] ∧ (∀ q ∈ f', q ∈ f b) ∧ rm ∈ f b ∧ rm ∉ f' ∧ MsgI S' m (flip x ((n - 4) % x.length).toNat) rm := by
  have hl := h.line b
  have hnd := h.nodup b
  rw [hL] at hl
  obtain ⟨r, v, off, m, rm, fm, e1, e2, e3, e4, e5, e6, e7⟩ := line_first hl
  rw [e2] at hnd
  simp only [List.nodup_cons, List.mem_cons, not_or] at hnd
  have hf' : ∀ q ∈ r :: fm, q ∈ f b := by rw [e2]; intro q hq; simp at hq ⊢; rcases hq with rfl | hq <;> simp [*]
  have hnd' : (r :: fm).Nodup := by simp only [List.nodup_cons]; exact ⟨hnd.1.2, hnd.2.2⟩
  have hst := store_line h b (c' := .sl r v (off + 1) L'.length 1) rfl
  have hload := load_ok h b
  rw [e1] at hload
  have hw := wrap_len hlen
  have h2 : ¬ ((L'.length : Int) + 1 = 0) := by omega
  have h3 : (1 : Int) ≤ (L'.length : Int) + 1 := by omega
  have hxl : 0 < x.length := by cases x <;> simp at h0 ⊢
  have hrmp : rm ≠ p := fun e => h.notp b (by rw [e2, ← e]; simp)
  have hn4 := upd_line h b e7 hf' hnd'
  have hk := keeps_setL S p c b (.sl r v (off + 1) L'.length 1)
  have hm := e3.keep hk (by simpa using hrmp)
  generalize hS4 : setL S p c b (.sl r v (off + 1) L'.length 1) = S4 at hst hn4 hk hm
  obtain ⟨vm, rfl, hmS⟩ := hm
  have hd0 : 0 ≤ (n - 4) % (x.length : Int) := Int.emod_nonneg _ (by omega)
  have hd1 : (n - 4) % (x.length : Int) < x.length := Int.emod_lt_of_pos _ (by omega)
  have hrem : (n - 4).tmod (x.length : Int) = (n - 4) % (x.length : Int) := Int.tmod_eq_emod_of_nonneg (by omega)
  have hx0 : ¬ x = [] := h0
  have hx0' : ¬ ((x.length : Int) = 0) := by omega
  obtain ⟨i, hi⟩ : ∃ i : Nat, ((n - 4) % (x.length : Int)) = i := ⟨((n - 4) % (x.length : Int)).toNat, by omega⟩
  have hil : i < x.length := by omega
  rw [hi] at hrem
  have hwn : IntKind.i64.wrap (n - 4) = n - 4 := wrap_i64 (by omega) (by omega)
  have hget : (bcells x)[i]? = some (.int .u8 ((x.getD i 0).toNat : Int)) := by simp [bcells, hil]
  have hsetx : (bcells x).set i (.int .u8 (((x.getD i 0) ^^^ 1).toNat : Int)) = bcells (flip x i) := by
    simp [bcells, flip, List.map_set]
  have hld : loadA none (.ptr rm vm i) S4 = some (.int .u8 ((x.getD i 0).toNat : Int)) := by simp [loadA, hmS, partA, hget]
  have hsto : storeA 1 (.ptr rm vm i) (.int .u8 (((x.getD i 0) ^^^ 1).toNat : Int)) S4 = some (S4.set rm (.live vm (bcells (flip x i)))) := by
    simp [storeA, cells?, hmS, bcells_len]
    rw [splice_set _ _ _ (by rw [bcells_len]; exact hil)]
    rw [← hsetx]
    simp; omega
  have hkm := Keeps.set S4 rm (.live vm (bcells (flip x i)))
  have hxo := xor_one (x.getD i 0)
  have hil' : (i : Int) < x.length := by omega
  rw [hi]
  generalize x.getD i 0 = y at hld hxo hsto
  generalize ((y ^^^ 1).toNat : Int) = z at hxo hsto
  generalize (y.toNat : Int) = y' at hld hxo
  simp [binA, intBin] at hxo
  refine ⟨S4.set rm (.live vm (bcells (flip x i))), _, _, .sl rm vm 0 x.length 1, rm, ?_, hn4.keep hkm ?_, ⟨?_, ?_⟩, hf', by rw [e2]; simp, by simp only [List.mem_cons, not_or]; exact ⟨fun e => hnd.1.1 e.symm, hnd.2.1⟩, ?_⟩
  · have hq1 : ¬ n = 3 := by omega
    have hq2 : ¬ n = 2 := by omega
    have hq3 : ¬ n = 0 := by omega
    have hq4 : ¬ n = 1 := by omega
    have hq5 : ¬ n < 0 := by omega
    simp [xTake, exM, orc, net_Take, evF, evC, evOps, evOper, evAny, evOp, evCall, putR, putA, Fr.ev, Fr.of, Fr.get, Fr.set, stable, resultsA, resA, same, eq2, binA, intBin, waits_ok h, hL, h2, h3, line_ok, hload, iaddrSA, e6, slcSA, bounds, hst, lenA, hw, hq1, hq2, hq3, hq4, hq5, hwn, hrem, hx0, hil', hld, hsto, hxo]
  · intro z hz
    simp only [fps, List.mem_cons, List.mem_append, List.not_mem_nil, or_false] at hz ⊢
    rintro rfl
    have hz' : z = p ∨ z ∈ up f b (r :: fm) b ∨ z ∈ up f b (r :: fm) (!b) := by
      rcases hz with rfl | hz | hz
      · exact .inl rfl
      · cases b
        · exact .inr (.inl hz)
        · exact .inr (.inr hz)
      · cases b
        · exact .inr (.inr hz)
        · exact .inr (.inl hz)
    rw [up_self, up_other] at hz'
    rcases hz' with h1 | h1 | h1
    · exact hrmp h1
    · simp only [List.mem_cons] at h1
      rcases h1 with h1 | h1
      · exact hnd.1.1 h1.symm
      · exact hnd.2.1 h1
    · exact h.other h1 (by rw [e2]; simp)
  · rw [List.length_set]; exact hk.1
  · intro z hz hnz
    simp only [List.mem_cons, List.not_mem_nil, or_false, not_or] at hnz
    rw [List.getElem?_set, if_neg (fun e => hnz.2 e.symm)]
    exact hk.2 z hz (by simpa using hnz.1)
  · refine ⟨vm, by rw [Int.toNat_natCast, flip_len], ?_⟩
    rw [Int.toNat_natCast]
    simp [List.getElem?_set, live_lt hmS]
end Am.Net
