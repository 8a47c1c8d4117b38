/- Each operation of the machine stands for the model's: what only computes. -/
import Derived.Test.YtgbifohffmdgeaaDoorAmOpsA
set_option linter.all false
namespace Am
open Go Go.RowKit

variable {P : Program} {W : World} {κ : Kap} {S : St} {w : World}

theorem intBin_ok {op : BinOp} {k : IntKind} {a b : Int} {v : AVal} (h : intBin op k a b = some v) (t : TypeId) (w : World) :
    ∃ v', (binOp op t (.int k a) (.int k b)).run P w = .ok v' w ∧ VRel κ v v' := by
  unfold intBin at h
  split at h
  all_goals first
    | (cases h; refine ⟨_, ?_, .int _ _⟩; simp only [binOp, ne_eq, not_true_eq_false, if_false]; rfl)
    | (cases h; refine ⟨_, ?_, .bool _⟩; simp only [binOp, ne_eq, not_true_eq_false, if_false]; rfl)
    | (by_cases hb : b = 0
       · rw [if_pos hb] at h; cases h
       · rw [if_neg hb] at h; cases h; first
          | exact ⟨.int k (k.wrap (a.tdiv b)), by simp [binOp, Op.intDiv, hb], .int _ _⟩
          | exact ⟨.int k (a.tmod b), by simp [binOp, Op.intDiv, hb], .int _ _⟩)
    | cases h

theorem shiftA_ok {op : BinOp} {k k' : IntKind} {a b : Int} {v : AVal} (h : shiftA op k a b = some v) (t : TypeId) (w : World) :
    ∃ v', (binOp op t (.int k a) (.int k' b)).run P w = .ok v' w ∧ VRel κ v v' := by
  unfold shiftA at h
  split at h
  · cases h
  · rename_i hb
    split at h
    · cases h; exact ⟨_, by simp only [binOp, Op.shift, hb, if_false, Sem.run_pure], .int _ _⟩
    · cases h; exact ⟨_, by simp only [binOp, Op.shift, hb, if_false, Sem.run_pure], .int _ _⟩
    · cases h

theorem toList_eq (b : ByteArray) : b.toList = b.data.toList := by
  have : ∀ (n i : Nat) (r : List UInt8), b.size - i = n → ByteArray.toList.loop b i r = r.reverse ++ b.data.toList.drop i := by
    intro n
    induction n with
    | zero =>
      intro i r h
      unfold ByteArray.toList.loop
      rw [if_neg (by omega)]
      have : b.data.toList.length ≤ i := by simp; have : b.data.size = b.size := rfl; omega
      rw [List.drop_eq_nil_of_le this]; simp
    | succ n ih =>
      intro i r h
      unfold ByteArray.toList.loop
      have hlt : i < b.size := by omega
      rw [if_pos hlt, ih (i + 1) _ (by omega)]
      have hlt' : i < b.data.toList.length := by simpa using hlt
      rw [List.drop_eq_getElem_cons hlt']
      have hg : b.get! i = b.data.toList[i] := by
        have : b.get! i = b.data[i]! := rfl
        rw [this]
        have h2 : i < b.data.size := hlt
        rw [getElem!_pos b.data i h2]; simp
      rw [hg]
      simp
  simpa [ByteArray.toList] using this (b.size - 0) 0 [] rfl

theorem size_eq (b : ByteArray) : b.size = b.data.toList.length := by
  show b.data.size = _
  simp

theorem strBin_ok {op : BinOp} {a b : ByteArray} {v : AVal} (h : strBin op a.data.toList b.data.toList = some v) (t : TypeId) (w : World) :
    ∃ v', (binOp op t (.string a) (.string b)).run P w = .ok v' w ∧ VRel κ v v' := by
  unfold strBin at h
  split at h
  case h_1 =>
    split at h
    · rename_i hle; cases h
      refine ⟨_, ?_, .str _ (a ++ b) (by simp)⟩
      have : ¬ (((a.size + b.size : Nat) : Int) > IntKind.i64.max) := by
        rw [size_eq, size_eq]
        simp only [IntKind.max, IntKind.signed, IntKind.bits]
        simp at hle ⊢
        omega
      simp only [binOp, Op.stringOp, this, if_false, Sem.run_pure]
    · cases h
  all_goals first
    | (cases h; exact ⟨_, by simp only [binOp, Op.stringOp, toList_eq, Sem.run_pure], .bool _⟩)
    | cases h

theorem binA_ok {op : BinOp} {x y v : AVal} {x' y' : Value} (hx : VRel κ x x') (hy : VRel κ y y') (h : binA op x y = some v) (t : TypeId) (w : World) :
    ∃ v', (binOp op t x' y').run P w = .ok v' w ∧ VRel κ v v' := by
  unfold binA at h
  split at h
  · cases hx; cases hy
    split at h
    · exact shiftA_ok h t w
    · split at h
      · rename_i hk; subst hk; exact intBin_ok h t w
      · cases h
  · cases hx with
    | str _ b1 h1 =>
      cases hy with
      | str _ b2 h2 =>
        subst h1; subst h2
        exact strBin_ok h t w
  · cases h

theorem unA_ok {op : UnOp} {x v : AVal} {x' : Value} (hx : VRel κ x x') (h : unA op x = some v) (w : World) :
    ∃ v', (Op.unary op x').run P w = .ok v' w ∧ VRel κ v v' := by
  unfold unA at h
  split at h
  · cases hx
    obtain ⟨v', h1, h2⟩ := intBin_ok (P := P) (κ := κ) h 0 w
    exact ⟨v', by simpa [Op.unary, binOp] using h1, h2⟩
  · cases hx
    obtain ⟨v', h1, h2⟩ := intBin_ok (P := P) (κ := κ) h 0 w
    exact ⟨v', by simpa [Op.unary, binOp] using h1, h2⟩
  · cases hx; cases h
    exact ⟨_, by simp only [Op.unary, Sem.run_pure], .bool _⟩
  · cases h

def EqT.fits (t : EqT) (d : TypeDesc) : Prop :=
  match t, d with
  | .bool, .bool => True
  | .ptr, .pointer _ => True
  | .sl, .slice _ => True
  | .fn, .func .. => True
  | .ifc, .interface _ => True
  | _, _ => False

theorem eq2_ok {x y : AVal} {x' y' : Value} (hx : VRel κ x x') (hy : VRel κ y y') {b : Bool} {q : EqT} (h : eq2 q x y = some b) {t : TypeId} {d : TypeDesc}
    (ht : P.underlying t = some d) (hq : q.fits d) (w : World) : (Op.equal t x' y').run P w = .ok b w := by
  have key : ∀ n, (Op.equalIn (n + 1) t x' y').run P w = .ok b w := by
    intro n
    unfold eq2 at h
    split at h
    case h_18 => cases h
    all_goals
      cases h
      cases hx
      cases hy
      cases d <;> simp only [EqT.fits] at hq
      simp [Op.equalIn, underlying, ht]
  exact key 9999

theorem eqGuard_const {op : BinOp} {t : TypeId} {x y : Operand} {a b : Value} (h : a = .nilIface → b = .nilIface → isConst x = true ∨ isConst y = true)
    (hagg : ∀ cs, a ≠ .agg cs) (w : World) : (eqGuard op t x y a b).run P w = .ok () w := by
  unfold eqGuard
  split
  case h_3 => rfl
  all_goals
    simp only [Bool.not_true, Bool.false_eq_true, if_false]
    cases a <;> cases b <;> first
      | rfl
      | (exact absurd rfl (hagg _))
      | (rcases h rfl rfl with h | h <;> (unfold isConst at h; split at h <;> simp_all))

end Am
