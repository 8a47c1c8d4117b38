/- errors.As at a link: its model is the truth. -/
import Derived.Test.YtgkkggfhnlhbiaaDoorAmFas
import Derived.Test.YtgkkggfhnlhbiaaDoorAmPure
set_option linter.all false
namespace Am.Fault
open Am Go Go.Proofs Go.RowKit
set_option maxRecDepth 100000

/-- errors.As, where what is asked for is a link in a variable of its own. -/
def mAs : Model := fun args S => match args with
  | [.nili, _] => some (.bool false, S)
  | [.iface 46 (.agg [v]), .iface 59 (.ptr r u 0)] => match S[r]?, cells? v with
    | some (.live u' [_]), some [_] => if u' = u then some (.bool true, S.set r (.live u [v])) else none
    | _, _ => none
  | _ => none

theorem as_callable : Callable Tryd.prog 29 := ⟨_, Tryd.func29, by kernel_rfl, by kernel_rfl⟩

theorem e0_val : e0 Tryd.prog = some (.iface 61 (.agg #[.pointer (some ⟨1, 52, none⟩)])) := by kernel_rfl

theorem frozen_no {w : World} {blk : Nat} {arr : Array Value} {e : TypeId} {fr : Nat × Nat} (h : w.heap[blk]? = some (.cells arr e fr)) (hf : fr.1 = fr.2 ∨ arr.size ≤ fr.1) {o : Nat} (ho : o < arr.size) : w.frozen? ⟨blk, o, none⟩ = false := by
  obtain ⟨f1, f2⟩ := fr
  simp only [World.frozen?, h]
  simp only at hf
  simp
  omega

theorem sAs : Sound Tryd.prog 29 mAs := by
  intro W hW args S v S' hm
  refine ⟨as_callable, ?_⟩
  unfold mAs at hm
  split at hm
  · -- nil
    simp only [Option.some.injEq, Prod.mk.injEq] at hm
    obtain ⟨rfl, rfl⟩ := hm
    intro κ w args' hr ha
    obtain ⟨y, ys, rfl, h1, h2⟩ := ha.uncons
    obtain ⟨z, zs, rfl, h3, h4⟩ := h2.uncons
    have := h4.unnil; subst this
    cases h1
    refine (Fas.as_nil z w).mono ?_
    rintro e w' ⟨rfl, rfl⟩
    exact ⟨_, _, _, κ, rfl, ⟨rfl, rfl⟩, .bool false, hr, Kap.le_refl κ⟩
  · rename_i x r u
    split at hm
    · rename_i u' old c hS hc
      split at hm
      · rename_i hu
        subst hu
        simp only [Option.some.injEq, Prod.mk.injEq] at hm
        obtain ⟨rfl, rfl⟩ := hm
        intro κ w args' hr ha
        obtain ⟨y, ys, rfl, h1, h2⟩ := ha.uncons
        obtain ⟨z, zs, rfl, h3, h4⟩ := h2.uncons
        have := h4.unnil; subst this
        cases h1 with
        | iface _ _ xx hxx =>
        cases h3 with
        | iface _ _ zz hzz =>
        have hxx0 := hxx
        cases hxx with
        | agg _ es hl hsc hre =>
        obtain ⟨e, he⟩ : ∃ e, es = [e] := List.length_eq_one_iff.1 (by simpa using hl.symm)
        subst he
        have hvx : VRel κ x e := hre 0 x e rfl rfl
        have hsce : scalar e := hsc e (by simp)
        have he1 : e.oneCell' = true := by cases e <;> first | rfl | exact hsce.elim
        have hzz0 := hzz
        cases hzz with
        | ptr _ _ _ i t hri hver hh =>
        have hvv : u' = i.ver := ((hr.own r u' _ i hS hri).1).symm
        obtain ⟨a1, a2, a3, arr, ty, fr, a4, a5, a6, a7, a8⟩ := hr.own r u' _ i hS hri
        have ht := hh hvv
        simp only [Nat.add_zero] at ht
        simp only [List.length_singleton] at a3
        have hlt : i.base < arr.size := by omega
        have hcell : w.cell? t = some arr[i.base] := by
          rw [ht]; simp [World.cell?, a4, Array.getElem?_eq_getElem hlt]
        have hfr : w.frozen? t = false := by rw [ht]; exact frozen_no a4 a6 hlt
        have hg : w.cell? ⟨0, 0, none⟩ = some (.iface 61 (.agg #[.pointer (some ⟨1, 52, none⟩)])) := (hW.later hr.below) _ e0_val
        refine (Fas.as_hit e he1 t _ w hg hcell hfr).mono ?_
        rintro ev w' ⟨rfl, rfl⟩
        -- the worlds
        have r1 := hr.allocFz #[.pointer (some t)] 59
        have l1 := Kap.le_addFz hr #[.pointer (some t)]
        generalize κ.addFz w.heap.size #[.pointer (some t)] = κ1 at r1 l1
        generalize hw1 : w.alloc (.cells #[.pointer (some t)] 59) = w1 at r1 ⊢
        have r2 := r1.allocFz #[.pointer (some ⟨1, 59, none⟩), .pointer (some ⟨w.heap.size, 0, none⟩), .int .u64 150] 74
        have l2 := Kap.le_addFz r1 #[.pointer (some ⟨1, 59, none⟩), .pointer (some ⟨w.heap.size, 0, none⟩), .int .u64 150]
        generalize κ1.addFz w1.heap.size #[.pointer (some ⟨1, 59, none⟩), .pointer (some ⟨w.heap.size, 0, none⟩), .int .u64 150] = κ2 at r2 l2
        generalize hw2 : w1.alloc (.cells #[.pointer (some ⟨1, 59, none⟩), .pointer (some ⟨w.heap.size, 0, none⟩), .int .u64 150] 74) = w2 at r2 ⊢
        have r3 := r2.allocFz #[.pointer (some ⟨1, 59, none⟩), .pointer (some ⟨w.heap.size, 0, none⟩), .int .u64 150] 74
        have l3 := Kap.le_addFz r2 #[.pointer (some ⟨1, 59, none⟩), .pointer (some ⟨w.heap.size, 0, none⟩), .int .u64 150]
        generalize κ2.addFz w2.heap.size #[.pointer (some ⟨1, 59, none⟩), .pointer (some ⟨w.heap.size, 0, none⟩), .int .u64 150] = κ3 at r3 l3
        generalize hw3 : w2.alloc (.cells #[.pointer (some ⟨1, 59, none⟩), .pointer (some ⟨w.heap.size, 0, none⟩), .int .u64 150] 74) = w3 at r3 ⊢
        have r4 := r3.allocFz #[e] 46
        have l4 := Kap.le_addFz r3 #[e]
        generalize κ3.addFz w3.heap.size #[e] = κ4 at r4 l4
        generalize hw4 : w3.alloc (.cells #[e] 46) = w4 at r4 ⊢
        have l04 := Kap.le_trans (Kap.le_trans (Kap.le_trans l1 l2) l3) l4
        have hsz : sizeP Tryd.prog 46 = some 1 := by kernel_rfl
        have hst : storeA 1 (.ptr r u' 0) (.agg [x]) S = some (S.set r (.live u' [x])) := by
          simp [storeA, cells?, hS, splice]
        obtain ⟨w5, k1, k2⟩ := storeAt_ok (P := Tryd.prog) r4 hsz (hzz0.mono l04) (hxx0.mono l04) hst
        have hw5 : w5 = w4.setCell t e := by
          obtain ⟨i4, hi4, e4⟩ := l04.1 r i hri
          obtain ⟨b1, b2, b3, arr4, ty4, fr4, b4, b5, b6, b7, b8⟩ := r4.own r u' _ i4 hS hi4
          have hi : i4 = i := by
            rcases e4 with h | h
            · exact h
            · omega
          subst hi
          simp only [List.length_singleton] at b3
          have hlt4 : i4.base < arr4.size := by omega
          have hc4 : w4.cell? t = some arr4[i4.base] := by rw [ht]; simp [World.cell?, b4, Array.getElem?_eq_getElem hlt4]
          have hf4 : w4.frozen? t = false := by rw [ht]; exact frozen_no b4 b6 hlt4
          have hrun : (Instr.storeAt 46 (.pointer (some t)) (.agg #[e])).run Tryd.prog w4 = .ok () (w4.setCell t e) := by
            simp [Instr.storeAt, Instr.sureAddr, storeVar, Fas.Tassize25, Value.cells, storeCells, Addr.add]
            rw [run_store Tryd.prog w4 t _ _ he1]
            simp [hc4, hf4]
          have : (Instr.storeAt 46 (.pointer (some t)) (.agg [e].toArray)).run Tryd.prog w4 = .ok () (w4.setCell t e) := hrun
          rw [this] at k1
          cases k1; rfl
        rw [hw5] at k2
        exact ⟨_, _, _, κ4, rfl, ⟨rfl, rfl⟩, .bool true, k2, l04⟩
      · simp at hm
    · simp at hm
  · simp at hm
end Am.Fault
