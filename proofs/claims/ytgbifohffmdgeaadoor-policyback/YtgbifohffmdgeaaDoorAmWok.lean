import Derived.Test.YtgbifohffmdgeaaDoorAmPu10
import Derived.Lib.LaidU8
import Derived.LaidMore
import Derived.Test.YtgbifohffmdgeaaDoorRows
import Derived.Test.YtgbifohffmdgeaaDoorTie
import Derived.Test.YtgbifohffmdgeaaDoorCards
import Derived.Test.YtgbifohffmdgeaaDoorAmPq8
import Derived.Test.YtgbifohffmdgeaaDoorAmTop
import Derived.Test.YtgbifohffmdgeaaDoorAmPk1
import Derived.KernelRfl
set_option linter.all false
/- From a row's laid variables to what the machine asks of a world. -/
section
namespace Am
open Go Go.RowKit Go.Lib Go.Proofs

/-- A table that stands on the list. -/
structure TabOk (P : Program) (l : List (String × DataW Unit)) (x : String × IntKind × List Int) : Prop where
  has : (x.1, tabData x.2.1 x.2.2) ∈ l
  typ : ∃ g t m e, P.globalNamed x.1 = some g ∧ (P.globals[g]?).map (·.type) = some t ∧ P.underlying t = some (.array m e) ∧ P.underlying e = some (.int x.2.1) ∧ P.cellsOf e = 1 ∧ P.cellsOf t = m

theorem TabOk.is {P : Program} {l : List (String × DataW Unit)} {x : String × IntKind × List Int} {W : World} (h : TabOk P l x) (hl : laidMet P l W) : TabIs P W x.1 x.2.1 x.2.2 := by
  obtain ⟨g, t, cs, fuel, p, hg, ht, hv, hd⟩ := laidMet.reads hl h.has
  obtain ⟨g', t', m, e, hg', ht', hu, he, hce, hct⟩ := h.typ
  obtain rfl := Option.some.inj (hg.symm.trans hg')
  obtain rfl := Option.some.inj (ht.symm.trans ht')
  unfold TabIs
  rw [hv, ← cells_of_tab hu he hce hct hd]

/-- An error that stands on the list. -/
structure ErrOk (P : Program) (l : List (String × DataW Unit)) (n : String) : Prop where
  has : ∃ nm d, (n, .iface nm d) ∈ l
  typ : ∃ g t ms, P.globalNamed n = some g ∧ (P.globals[g]?).map (·.type) = some t ∧ P.underlying t = some (.interface ms)

theorem ErrOk.is {P : Program} {l : List (String × DataW Unit)} {n : String} {W : World} (h : ErrOk P l n) (hl : laidMet P l W) : ∃ t p, W.var? P n = some #[.iface t p] := by
  obtain ⟨nm, d, hm⟩ := h.has
  obtain ⟨g, t, cs, fuel, p, hg, ht, hv, hd⟩ := laidMet.reads hl hm
  obtain ⟨g', t', ms, hg', ht', hu⟩ := h.typ
  obtain rfl := Option.some.inj (hg.symm.trans hg')
  obtain rfl := Option.some.inj (ht.symm.trans ht')
  obtain ⟨l0⟩ := cs
  cases fuel with
  | zero => simp [DataW.trod] at hd
  | succ fuel =>
    simp only [DataW.trod, hu] at hd
    split at hd
    all_goals first
      | (rename_i heq; cases heq; done)
      | (cases hd; done)
      | exact ⟨_, _, hv⟩

theorem wok_of {P : Program} {l : List (String × DataW Unit)} {W : World} (hl : laidMet P l W) (he : e0 P = none) (hT : ∀ x ∈ wTabs, P.globalNamed x.1 ≠ none → TabOk P l x) (hE : ∀ n ∈ wErrs, P.globalNamed n ≠ none → ErrOk P l n) : WOk P W :=
  ⟨fun y hy => (by rw [he] at hy; cases hy), fun x hx hn => (hT x hx hn).is hl, fun n hn hg => (hE n hn hg).is hl⟩
end Am
end

/- Policy: what the laid variables give, and a world that meets them. Printed by a program of ours. -/
section
namespace Am.PolD
open Am Go Go.Proofs Go.Proofs.YtgbifohffmdgeaaDoor Go.RowKit
set_option maxRecDepth 100000

theorem own : ownKnob Tryd.prog.godebug = none := by kernel_rfl
theorem laidOut : laidOutB Tryd.prog = true := by kernel_rfl
theorem noE0 : e0 Tryd.prog = none := by kernel_rfl
theorem noHandle : (Rows.policyMoreRow.laid.filter fun x => x.2.handleName?.isSome) = [] := by kernel_rfl
theorem met_of {W : World} (h : laidMetH Tryd.prog Rows.policyMoreRow.laid W) : laidMet Tryd.prog Rows.policyMoreRow.laid W := by
  unfold laidMetH at h
  rw [noHandle] at h
  exact h
theorem tab0 : ∃ m e, Tryd.prog.underlying 142 = some (.array m e) ∧ Tryd.prog.underlying e = some (.int .u8) ∧ Tryd.prog.cellsOf e = 1 ∧ Tryd.prog.cellsOf 142 = m := ⟨32, 5, Tryd.underlying142, Tryd.underlying5, by kernel_rfl, by kernel_rfl⟩
theorem tab1 : ∃ m e, Tryd.prog.underlying 143 = some (.array m e) ∧ Tryd.prog.underlying e = some (.int .u8) ∧ Tryd.prog.cellsOf e = 1 ∧ Tryd.prog.cellsOf 143 = m := ⟨64, 5, Tryd.underlying143, Tryd.underlying5, by kernel_rfl, by kernel_rfl⟩
theorem tab2 : ∃ m e, Tryd.prog.underlying 133 = some (.array m e) ∧ Tryd.prog.underlying e = some (.int .u64) ∧ Tryd.prog.cellsOf e = 1 ∧ Tryd.prog.cellsOf 133 = m := ⟨20, 29, Tryd.underlying133, Tryd.underlying29, by kernel_rfl, by kernel_rfl⟩
theorem tabs : ∀ x ∈ wTabs, Tryd.prog.globalNamed x.1 ≠ none → TabOk Tryd.prog Rows.policyMoreRow.laid x := by
  intro x hx _
  simp only [wTabs, List.mem_cons, List.not_mem_nil, or_false] at hx
  rcases hx with rfl | rfl | rfl
  · obtain ⟨m, e, h1, h2, h3, h4⟩ := tab2
    exact ⟨List.mem_of_getElem? (i := 2) (by kernel_rfl), 5, 133, m, e, by kernel_rfl, by kernel_rfl, h1, h2, h3, h4⟩
  · obtain ⟨m, e, h1, h2, h3, h4⟩ := tab1
    exact ⟨List.mem_of_getElem? (i := 1) (by kernel_rfl), 7, 143, m, e, by kernel_rfl, by kernel_rfl, h1, h2, h3, h4⟩
  · obtain ⟨m, e, h1, h2, h3, h4⟩ := tab0
    exact ⟨List.mem_of_getElem? (i := 0) (by kernel_rfl), 6, 142, m, e, by kernel_rfl, by kernel_rfl, h1, h2, h3, h4⟩
theorem errs : ∀ n ∈ wErrs, Tryd.prog.globalNamed n ≠ none → ErrOk Tryd.prog Rows.policyMoreRow.laid n := by
  intro n hn _
  simp only [wErrs, List.mem_cons, List.not_mem_nil, or_false] at hn
  rcases hn with rfl | rfl
  · exact ⟨⟨_, _, List.mem_of_getElem? (i := 5) rfl⟩, 3, 66, _, by kernel_rfl, by kernel_rfl, Tryd.underlying66⟩
  · exact ⟨⟨_, _, List.mem_of_getElem? (i := 4) rfl⟩, 4, 66, _, by kernel_rfl, by kernel_rfl, Tryd.underlying66⟩
theorem wok {W : World} (h : laidMetH Tryd.prog Rows.policyMoreRow.laid W) : WOk Tryd.prog W := wok_of (met_of h) noE0 tabs errs

noncomputable def laidWorld (os : Os) : World :=
  let w0 := World.doorLaid Tryd.prog 72 os
  { w0 with heap := w0.heap.modify 1 fun
      | .cells _ t frozen => .cells ((Go.Lib.firstTab.map fun z => Value.int .u8 z).toArray) t frozen
      | o => o }
theorem laidWorld_met (os : Os) (args : Array Value) : laidMetH Tryd.prog Rows.policyMoreRow.laid ((laidWorld os).forCall (fun _ _ => 0) ⟨#[], args, []⟩).memory := by
  unfold laidMetH
  rw [noHandle]
  exact laidMet_of_run' 8 (by kernel_rfl) (by kernel_rfl)
end Am.PolD
end

/- Policy: the arguments of the laws. -/
section
namespace Am.Pol
open Am Go
set_option maxRecDepth 100000

@[reducible] def timesT : DT := .sl (.int .u64)
@[reducible] def polT : DT := .st (.fld (.int .i64) (.fld (.int .i64) (.fld (.int .i64) (.fld (.int .i64) (.fld (.int .i64) .done)))))

theorem flat_u (l : List Int) (h : ∀ x ∈ l, (DT.int .u64).Wf x) : l.flatMap (DT.int .u64).enc = uc (l.map Int.toNat) ∧ U64 (l.map Int.toNat) := by
  induction l with
  | nil => exact ⟨rfl, by intro x hx; simp at hx⟩
  | cons a l ih =>
    obtain ⟨h1, h2⟩ := ih (fun x hx => h x (by simp [hx]))
    have ha : IntKind.min .u64 ≤ a ∧ a ≤ IntKind.max .u64 := h a (by simp)
    have h3 : (0 : Int) ≤ a := ha.1
    have h4 : a ≤ 18446744073709551615 := ha.2
    constructor
    · rw [List.flatMap_cons, h1]
      have : (DT.int .u64).enc a = [.int .u64 a] := rfl
      rw [this]
      simp only [List.map_cons, uc]
      have : ((a.toNat : Nat) : Int) = a := Int.toNat_of_nonneg h3
      rw [this]; rfl
    · intro x hx
      rcases List.mem_cons.1 (by simpa using hx : x ∈ a.toNat :: l.map Int.toNat) with rfl | hx
      · omega
      · exact h2 x hx

theorem times_arg (x : Option (List Int)) (h : timesT.Wf x) : ∃ l, ArgU (timesT.one x) l ∧ U64 l ∧ l.length ≤ 9223372036854775807 := by
  cases x with
  | none => exact ⟨[], .inl ⟨rfl, rfl⟩, by intro x hx; simp at hx, by simp⟩
  | some l =>
    have h1 : l.length ≤ 9223372036854775807 := h.1
    obtain ⟨h2, h3⟩ := flat_u l h.2
    refine ⟨l.map Int.toNat, .inr ?_, h3, by simpa using h1⟩
    have e : timesT.one (some l) = .fz false l.length (l.flatMap (DT.int .u64).enc) := rfl
    rw [e, h2]; simp

def polOf (x : polT.Val) : Pc := ⟨x.1, x.2.1, x.2.2.1, x.2.2.2.1, x.2.2.2.2.1⟩
theorem pol_arg (x : polT.Val) (h : polT.Wf x) : polT.one x = .agg (polOf x).cells ∧ (polOf x).Ok ∧
    (-9223372036854775808 ≤ (polOf x).last ∧ -9223372036854775808 ≤ (polOf x).hours ∧ -9223372036854775808 ≤ (polOf x).days ∧ -9223372036854775808 ≤ (polOf x).weeks ∧ -9223372036854775808 ≤ (polOf x).months) := by
  obtain ⟨a, b, c, d, e, _⟩ := x
  obtain ⟨h1, h2, h3, h4, h5, _⟩ := h
  exact ⟨rfl, ⟨h1.2, h2.2, h3.2, h4.2, h5.2⟩, h1.1, h2.1, h3.1, h4.1, h5.1⟩

@[reducible] def arr5T : DT := .arr 5 (.int .u8)
theorem arr5_arg (x : List Int) (h : arr5T.Wf x) : ∃ m0 m1 m2 m3 m4, arr5T.one x = .agg [.int .u8 m0, .int .u8 m1, .int .u8 m2, .int .u8 m3, .int .u8 m4] ∧
    ((0 ≤ m0 ∧ m0 ≤ 255) ∧ (0 ≤ m1 ∧ m1 ≤ 255) ∧ (0 ≤ m2 ∧ m2 ≤ 255) ∧ (0 ≤ m3 ∧ m3 ≤ 255) ∧ (0 ≤ m4 ∧ m4 ≤ 255)) := by
  obtain ⟨hl, hx⟩ := h
  rcases x with _ | ⟨a, _ | ⟨b, _ | ⟨c, _ | ⟨d, _ | ⟨e, _ | ⟨f, x⟩⟩⟩⟩⟩⟩
  all_goals first
    | (exfalso; simp at hl; done)
    | exact ⟨a, b, c, d, e, rfl, hx a (by simp), hx b (by simp), hx c (by simp), hx d (by simp), hx e (by simp)⟩
end Am.Pol
end

/- The law's own question is answered. -/
section
namespace Am.Pol
open Am Go Am.Ir
set_option maxRecDepth 100000

def isT : Option (AVal × St) → Bool
  | some (.bool true, _) => true
  | _ => false
theorem isT_run {m : Model} (h : isT (m [] []) = true) (S : St) : pureM 1 m [] S = some (.bool true, S) := by
  unfold isT at h
  split at h
  · rename_i T hm; exact pureM_run rfl hm rfl
  · cases h
theorem aliveD (S : St) : mAlive 22 100 36 17 [] S = some (.bool true, S) := isT_run (by kernel_rfl) S
theorem aliveZ (S : St) : mAlive 38 97 56 29 [] S = some (.bool true, S) := isT_run (by kernel_rfl) S
end Am.Pol
end

/- PolicyBack: a policy of numbers 0 to 9999 is parsed as it was written; a text that is parsed, written again, is the text; for every input; the listed variables as the text lays them. -/
section
namespace Am.PolD
open Am Am.Pol Go Am.Ir Go.Proofs Go.Proofs.YtgbifohffmdgeaaDoor Go.RowKit
set_option maxRecDepth 100000

theorem policyBack_lifted (os : Os) (started : os.Started) (H : Type) (enc : TypeId × Value → H) :
    ReturnsInHanded {} Tryd.checked os 4 .any (fun w args => (Rows.policyBackSpec.pre enc Tryd.prog Tryd.f4 Rows.policyBackRow.domain false w args ∧ laidMetH Tryd.prog Rows.policyBackRow.laid w) ∧ sizedMet enc Tryd.prog Tryd.f4 (OpenSpec.ofChange Rows.policyBackSpec) false w args)
      (Rows.policyBackSpec.post enc Tryd.prog Tryd.f4 false true false false) :=
  liftedL (C := Tryd.checked) (X := fun w => laidMetH Tryd.prog Rows.policyBackRow.laid w) own started (by kernel_rfl) Tryd.func4 (fun _ _ hh h => h.of_heap hh)
    (ChangeSpec.witness_at (enc := enc) (C := Tryd.checked) (os := os) (X := fun w _ => laidMetH Tryd.prog Rows.policyBackRow.laid w) false (laidWorld os) #[.agg #[.int .i64 0, .int .i64 0, .int .i64 0, .int .i64 0, .int .i64 0], .string ⟨#[]⟩] 8 rfl (by kernel_rfl) (by kernel_rfl) (by kernel_rfl) (by kernel_rfl) (by kernel_rfl) (laidWorld_met os _))
    rfl laidOut [polT, .str] (by kernel_rfl) rfl (by kernel_rfl)
    (fun ds h => by rcases ds with _ | ⟨a, _ | ⟨b, _ | ⟨c, ds⟩⟩⟩ <;> first | rfl | (exfalso; revert h; rw [Tryd.params4]; simp))
    (fun _ h => wok h)
    (fun x hx W hW => by
      obtain ⟨h4, h5, h6⟩ := pol_arg x.1 hx.1
      obtain ⟨T, hT⟩ := lawBack_ok (al := mAlive 22 100 36 17) aliveD 36 17 (p := polOf x.1) x.2.1
      have := (sLawBack W hW _ _ _ _ hT).2
      have e : encs [polT, .str] x = [.agg (polOf x.1).cells, .str x.2.1] := by
        show [polT.one x.1, (DT.str).one x.2.1] = _
        rw [h4]; rfl
      rw [e]
      exact this.mono fun _ _ h => h.1)

theorem policyBack_holds : Rows.PolicyBackSaid :=
  OpenClaim.holds_of_wide 4 Tryd.f4 rfl rfl rfl rfl rfl rfl rfl ⟨rfl, rfl, rfl, rfl, rfl⟩ rfl rfl rfl rfl rfl (by kernel_rfl) Tryd.func4 (by kernel_rfl)
    (of_decide_eq_true (by kernel_rfl)) (by unfold Func.isWrapper; first | (rw [if_pos (by decide +kernel)]; kernel_rfl) | (rw [if_neg (by decide +kernel)]; exact ⟨rfl, rfl⟩))
    (fun os started H enc _ => policyBack_lifted os started H enc)

theorem policyBack_card : Rows.PolicyBackCardSaid :=
  Claim7.holds_tied_plain_at .later [] [.data, .data, .data, .data, .sentinel, .sentinel, .pinned] true (true, "25a004ef08be5d5b4818540afeffb3eef397d29da5136718fa2c37dc5d2a340a") true
    policyBack_holds (fun _ h => by cases h) (by kernel_rfl) (fun _ h => by cases h) policyBack_row_tie rfl ⟨rfl, rfl⟩ (by kernel_rfl) rfl
    (fun f fn hf hfn => by
      obtain rfl : f = 4 := Option.some.inj ((show Tryd.prog.funcNamed "cautery/cauterylaw30.PolicyBack" = some 4 by kernel_rfl).symm.trans hf) |>.symm
      obtain rfl : fn = Tryd.f4 := (Option.some.inj (Tryd.func4.symm.trans hfn)).symm
      exact ⟨by kernel_rfl, fun j t ht => by
        have hall : (Tryd.f4.params.toList.all fun t => !Tryd.prog.wantsStandIn t) = true := by kernel_rfl
        have := List.all_eq_true.1 hall t (List.mem_of_getElem? (by simpa using ht))
        have h2 : Tryd.prog.wantsStandIn t = false := by simpa using this
        exact h2⟩)
    (by kernel_rfl)
end Am.PolD

namespace Go.Proofs.YtgbifohffmdgeaaDoor
theorem policyBack_card : Rows.PolicyBackCardSaid := Am.PolD.policyBack_card
end Go.Proofs.YtgbifohffmdgeaaDoor
end

