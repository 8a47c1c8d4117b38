import Derived.Test.YtgbifohffmdgeaaGreatDoorAmPu4
import Derived.Test.YtgbifohffmdgeaaGreatDoorAmPk1
import Derived.Lib.AppendIntMem
import Derived.Test.YtgbifohffmdgeaaGreatDoorAmPolSZ
set_option linter.all false
/- Texts: a list of texts in the program's memory. -/
section
namespace Am.Pol
open Am Go Go.RowKit
variable {P : Program} {W : World} {κ : Kap} {S : St} {w : World}

theorem sl_own (h : Rel W κ S w) {r v n : Nat} {cs : List AVal} (hS : S[r]? = some (.live v cs)) (hn : 0 < n) {y : Value} (hy : VRel κ (.sl r v 0 n 1) y) :
    ∃ i c, y = .slice (some ⟨i.blk, i.base, none⟩) n c ∧ n ≤ c ∧ κ.blocks[r]? = some i ∧ i.blk < w.heap.size := by
  cases hy with
  | sl _ _ _ _ _ i a c hr hv hc hh =>
    obtain ⟨a1, a2, a3, arr, e, fr, a4, _⟩ := h.own r v cs i hS hr
    obtain ⟨_, g | g⟩ := hh a1.symm
    · omega
    · rw [Nat.add_zero] at g
      exact ⟨i, c, by rw [g], hc, hr, (Array.getElem?_eq_some_iff.1 a4).1⟩

def toBytes (l : List UInt8) : ByteArray := ⟨l.toArray⟩
theorem texts_at (h : Rel W κ S w) {r v : Nat} {xs : List (List UInt8)} (hS : S[r]? = some (.live v (strC xs))) (hn : 0 < xs.length) {y : Value} (hy : VRel κ (.sl r v 0 xs.length 1) y) :
    ∃ bk o c, y = .slice (some ⟨bk, o, none⟩) (xs.map toBytes).length c ∧ (xs.map toBytes).length ≤ c ∧ bk < w.heap.size ∧ ∀ (j : Nat) x, (xs.map toBytes)[j]? = some x → w.cell? ⟨bk, o + j, none⟩ = some (.string x) := by
  obtain ⟨i, c, rfl, hc, hi, hb⟩ := sl_own h hS hn hy
  obtain ⟨ys, h1, _, h3⟩ := h.cells hS hi
  refine ⟨i.blk, i.base, c, by simp, by simpa using hc, hb, fun j x hx => ?_⟩
  rw [List.getElem?_map] at hx
  cases hl : xs[j]? with
  | none => rw [hl] at hx; cases hx
  | some l =>
    rw [hl] at hx
    have hx : toBytes l = x := Option.some.inj hx
    have hj : j < ys.length := by
      rw [← h1.1]
      have := (List.getElem?_eq_some_iff.1 hl).1
      simpa [strC] using this
    have hy : ys[j]? = some ys[j] := List.getElem?_eq_getElem hj
    have hs : (strC xs)[j]? = some (.str l) := by simp [strC, hl]
    have hv := h1.2 j _ _ hs hy
    obtain ⟨b, e, hb⟩ := str_inv hv
    have : w.cell? ((⟨i.blk, i.base, none⟩ : Addr).add j) = some ys[j] := h3 j _ hy
    rw [e] at this
    have e2 : b = toBytes l := by
      unfold toBytes; rw [← hb]
    rw [← hx, ← e2]
    have e3 : (⟨i.blk, i.base, none⟩ : Addr).add j = ⟨i.blk, i.base + j, none⟩ := by
      unfold Addr.add
      split
      · rename_i h0; rw [h0]; rfl
      · rfl
    rw [e3] at this
    exact this
theorem toBytes_back (xs : List (List UInt8)) : (xs.map toBytes).map (·.data.toList) = xs := by
  induction xs with
  | nil => rfl
  | cons x xs ih => rw [List.map_cons, List.map_cons, ih]; rfl
end Am.Pol
end

/- Policy: Text, and the laws that ask for it. Printed by a program of ours. -/
section
namespace Am.PolZ
open Am Am.Pol Go Am.Ir Go.Proofs Go.RowKit
set_option maxRecDepth 100000

theorem powN : (Tryz.prog.globalNamed "internal/strconv.uint64pow10").isSome = true := by kernel_rfl
theorem powNe : Tryz.prog.globalNamed "internal/strconv.uint64pow10" ≠ none := fun h => by have h2 := powN; rw [h] at h2; cases h2

theorem sItoa : Sound Tryz.prog 34 mItoa := fun W hW => SoundW.of ⟨_, Tryz.func34, by kernel_rfl, by kernel_rfl⟩ (fun args S v S' hm => by
  unfold mItoa at hm
  split at hm
  · rename_i n
    split at hm
    · rename_i hh
      cases hm
      refine ⟨rfl, fun κ w args' hW hr ha => ?_⟩
      obtain ⟨y, ys, rfl, h1, h2⟩ := ha.uncons
      have := h2.unnil; subst this
      obtain rfl := int_inv h1
      have ht := hW.tab ("internal/strconv.uint64pow10", .u64, Lib.pow10Tab) (by simp [wTabs]) powNe
      refine (Tryz.strconv_Itoa n hh.1 hh.2 w ht).mono ?_
      rintro e w' ⟨rfl, k, os, rfl⟩
      exact ⟨_, rfl, str_of _, Lib.below_grow _ w (Nat.le_refl _) k os⟩
    · cases hm
  · cases hm) hW

theorem sJoin : Sound Tryz.prog 35 mJoin := fun W hW => SoundW.of ⟨_, Tryz.func35, by kernel_rfl, by kernel_rfl⟩ (fun args S v S' hm => by
  unfold mJoin at hm
  split at hm
  · rename_i r vv n sep
    split at hm
    · rename_i v' cs hS
      split at hm
      · rename_i xs hx
        split at hm
        · rename_i hh
          obtain ⟨rfl, rfl, ⟨h0, h1⟩, hj⟩ := hh
          cases hm
          obtain rfl := strs_inv hx
          refine ⟨rfl, fun κ w args' hW hr ha => ?_⟩
          obtain ⟨y, ys, rfl, g1, g2⟩ := ha.uncons
          obtain ⟨z, zs, rfl, g3, g4⟩ := g2.uncons
          have := g4.unnil; subst this
          obtain ⟨b, rfl, hb⟩ := str_inv g3
          obtain ⟨bk, o, c, rfl, q1, q2, q3⟩ := texts_at hr hS h0 g1
          have q4 := toBytes_back xs
          refine (Tryz.strings_Join bk o c (xs.map toBytes) b w q3 q2 (by simp; omega) q1 (by rw [q4, hb]; omega)).mono ?_
          rintro e w' ⟨rfl, hw⟩
          rw [q4, hb]
          exact ⟨_, rfl, str_of _, hw⟩
        · cases hm
      · cases hm
    · cases hm
  · cases hm) hW

theorem sParseP : Sound Tryz.prog 14 (mParse 56 29) := Sound.pure 3 sParse
theorem sText : Sound Tryz.prog 16 (mText) := Sound.pure 1 (sx (fs := [25, 34, 35]) (l := [xParts, mItoa, mJoin]) ⟨sParts, sItoa, sJoin, trivial⟩ Tryz.func16 policy_Text_ok 1000)
theorem sCut2 : Sound Tryz.prog 31 (xCut2) := sx (fs := []) (l := []) trivial Tryz.func31 r30_cut_ok 1000
theorem sNames : Sound Tryz.prog 32 (xNames) := sx (fs := []) (l := []) trivial Tryz.func32 r30_names_ok 10
theorem sCount2 : Sound Tryz.prog 33 (mCount2) := sx (fs := []) (l := []) trivial Tryz.func33 r30_count_ok 1000
theorem sDec : Sound Tryz.prog 36 (xDec) := sx (fs := []) (l := []) trivial Tryz.func36 r30_decimal_ok 1000
theorem sParse2 : Sound Tryz.prog 15 (mParse2) := Sound.pure 3 (sx (fs := [31, 32, 33]) (l := [xCut2, xNames, mCount2]) ⟨sCut2, sNames, sCount2, trivial⟩ Tryz.func15 r30_Parse_ok 1000)
theorem sText2 : Sound Tryz.prog 17 (mText2) := Sound.pure 1 (sx (fs := [32, 36]) (l := [xNames, xDec]) ⟨sNames, sDec, trivial⟩ Tryz.func17 r30_Text_ok 1000)
theorem sLawText : Sound Tryz.prog 4 (xLawText (mAlive 38 97 56 29) 56 29) := sx (fs := [5, 14, 15, 16, 8, 17]) (l := [mAlive 38 97 56 29, mParse 56 29, mParse2, mText, mPlain, mText2]) ⟨sAlive, sParseP, sParse2, sText, sPlain, sText2, trivial⟩ Tryz.func4 l30_PolicyText_ok 1000
end Am.PolZ
end

