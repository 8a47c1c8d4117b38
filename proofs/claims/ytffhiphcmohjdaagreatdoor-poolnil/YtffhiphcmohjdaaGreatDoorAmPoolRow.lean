import Derived.Test.YtffhiphcmohjdaaGreatDoorAmTopL
import Derived.LaidMore
import Derived.Test.YtffhiphcmohjdaaGreatDoorRows
import Derived.Test.YtffhiphcmohjdaaGreatDoorTie
import Derived.Test.YtffhiphcmohjdaaGreatDoorCards
import Derived.Test.YtffhiphcmohjdaaGreatDoorChecked
import Derived.JoinedOf
import Derived.KernelRfl
import Derived.SevenTiedAt
set_option linter.all false
/- The pool's rows: what the laid variables give, and a world that meets them. -/
section
set_option linter.all false
namespace Go.Proofs.AlP
open Am Go Go.Proofs Go.Proofs.YtffhiphcmohjdaaGreatDoor Go.RowKit
set_option maxRecDepth 100000

theorem own : ownKnob Tryz.prog.godebug = none := by kernel_rfl
theorem laidOut : laidOutB Tryz.prog = true := by kernel_rfl
theorem rt : (Tryz.prog.cutTypes.find? (·.1 == "internal/reflectlite.rtype")).map (·.2) = some 410 := by kernel_rfl
theorem size : Tryz.prog.types.size = 526 := by kernel_rfl
theorem oneRow : ((List.range 526).filter fun t => Tryz.prog.rowNamed t [101, 114, 114, 111, 114]) = [284] := by kernel_rfl
theorem e0_val : e0 Tryz.prog = some (.iface 410 (.agg #[.pointer (some ⟨5, 284, none⟩)])) := by kernel_rfl
theorem et : Tryz.prog.globalNamed "errors.errorType" = some 0 := by kernel_rfl
noncomputable def plainL : List (String × DataW Unit) := [("math/bits.deBruijn64tab", Rows.laid_math_bits_deBruijn64tab), ("unicode/utf8.acceptRanges", Rows.laid_unicode_utf8_acceptRanges), ("bytes.ErrTooLarge", Rows.laid_bytes_ErrTooLarge), ("unicode/utf8.first", Rows.laid_unicode_utf8_first)]
theorem fNone : (Rows.poolNilRow.laid.filter fun x => x.2.handleName?.isNone) = plainL := by kernel_rfl
theorem fSome : (Rows.poolNilRow.laid.filter fun x => x.2.handleName?.isSome) = [("errors.errorType", Rows.laid_errors_errorType)] := by kernel_rfl
theorem tab1 : ∃ m e, Tryz.prog.underlying 462 = some (.array m e) ∧ Tryz.prog.underlying e = some (.int .u8) ∧ Tryz.prog.cellsOf e = 1 ∧ Tryz.prog.cellsOf 462 = m := ⟨64, _, Tryz.underlying462, by kernel_rfl, by kernel_rfl, by kernel_rfl⟩
theorem wok {W : World} (h : laidMetH Tryz.prog Rows.poolNilRow.laid W) : WOk Tryz.prog W := by
  unfold laidMetH at h
  rw [fSome] at h
  have h' : laidMet Tryz.prog (Rows.poolNilRow.laid.filter fun x => x.2.handleName?.isNone) W ∧ handlesMet Tryz.prog [("errors.errorType", Rows.laid_errors_errorType)] W := h
  rw [fNone] at h'
  refine ⟨fun y hy => ?_, fun x hx hn => ?_, fun n hn hg => ?_⟩
  · obtain ⟨name, u, ty, e1, e2, e3, e4, e5⟩ := h'.2 _ (List.mem_singleton.2 rfl)
    have en : name = [101, 114, 114, 111, 114] := (Option.some.inj e1).symm
    subst en
    obtain rfl := Option.some.inj (rt.symm.trans e2)
    have hm : ty ∈ (List.range 526).filter fun t => Tryz.prog.rowNamed t [101, 114, 114, 111, 114] := List.mem_filter.2 ⟨List.mem_range.2 (by rw [← size]; exact e3), e4⟩
    rw [oneRow] at hm
    obtain rfl := List.mem_singleton.1 hm
    have hh : typeHandle Tryz.prog 284 = .pointer (some ⟨5, 284, none⟩) := by kernel_rfl
    rw [hh] at e5
    rw [e0_val] at hy
    obtain rfl := Option.some.inj hy
    simpa using World.var?_cell et e5 0
  · simp only [wTabs, List.mem_cons, List.not_mem_nil, or_false] at hx
    rcases hx with rfl | rfl | rfl
    · exact absurd (by kernel_rfl) hn
    · obtain ⟨m, e, h1, h2, h3, h4⟩ := tab1
      exact (show TabOk Tryz.prog plainL _ from ⟨List.mem_of_getElem? (i := 0) (by kernel_rfl), 2, 462, m, e, by kernel_rfl, by kernel_rfl, h1, h2, h3, h4⟩).is h'.1
    · exact absurd (by kernel_rfl) hn
  · simp only [wErrs, List.mem_cons, List.not_mem_nil, or_false] at hn
    rcases hn with rfl | rfl
    · exact absurd (by kernel_rfl) hg
    · exact absurd (by kernel_rfl) hg

noncomputable def laidWorld (os : Os) : World :=
  let w0 := World.doorLaid Tryz.prog 65 os
  { w0 with heap := (w0.heap.modify 3 fun
      | .cells _ t frozen => .cells ((Go.Lib.firstTab.map fun z => Value.int .u8 z).toArray) t frozen
      | o => o).modify 0 fun
      | .cells _ t frozen => .cells #[.iface 410 (.agg #[.pointer (some ⟨5, 284, none⟩)])] t frozen
      | o => o }
theorem laidWorld_met (os : Os) (args : Array Value) : laidMetH Tryz.prog Rows.poolNilRow.laid ((laidWorld os).forCall (fun _ _ => 0) ⟨#[], args, []⟩).memory :=
  laidMetH_of_parts (by rw [fNone]; exact laidMet_of_run' 8 (by kernel_rfl) (by kernel_rfl)) (by rw [fSome]; kernel_rfl)

end Go.Proofs.AlP
end

/- PoolNil: lifted to the row. -/
section
set_option linter.all false
namespace Go.Proofs.AlP
open Am Am.Fz Am.Ir Go Go.Proofs Go.Proofs.YtffhiphcmohjdaaGreatDoor Go.RowKit
set_option maxRecDepth 100000

theorem poolNil_lifted (os : Os) (started : os.Started) (H : Type) (enc : TypeId × Value → H) :
    ReturnsInHanded {} Tryz.checked os 3 .any (fun w args => (Rows.poolNilSpec.pre enc Tryz.prog Tryz.f3 Rows.poolNilRow.domain false w args ∧ laidMetH Tryz.prog Rows.poolNilRow.laid w) ∧ sizedMet enc Tryz.prog Tryz.f3 (OpenSpec.ofChange Rows.poolNilSpec) false w args)
      (Rows.poolNilSpec.post enc Tryz.prog Tryz.f3 false true false false) :=
  liftedL (C := Tryz.checked) (X := fun w => laidMetH Tryz.prog Rows.poolNilRow.laid w) own started (by kernel_rfl) Tryz.func3 (fun _ _ hh h => h.of_heap hh)
    (ChangeSpec.witness_at (enc := enc) (C := Tryz.checked) (os := os) (X := fun w _ => laidMetH Tryz.prog Rows.poolNilRow.laid w) false (laidWorld os) #[.agg #[.int .i64 0, .string ByteArray.empty, .string ByteArray.empty, .string ByteArray.empty, .int .i64 0, .slice none 0 0, .slice none 0 0]] 8 rfl (by kernel_rfl) (by kernel_rfl) (by kernel_rfl) (by kernel_rfl) (by kernel_rfl) (laidWorld_met os _))
    rfl laidOut [actT] (by kernel_rfl) rfl (by kernel_rfl)
    (fun ds h => by rcases ds with _ | ⟨a, _ | ⟨b, ds⟩⟩ <;> first | rfl | (exfalso; revert h; rw [Tryz.params3]; simp))
    (fun _ h => wok h)
    (fun x hx W hW => poolNil_calls x.1 hW)

end Go.Proofs.AlP
end

/- PoolNil's row: what is asked of the program's text, in parts. -/
section
set_option linter.all false
namespace Go.Proofs.AlP
open Go Go.Proofs Go.Proofs.YtffhiphcmohjdaaGreatDoor
set_option maxRecDepth 100000
theorem j10 : (Rows.poolNilRow.inPlace == Tryz.pinned.checked.prog.inPlace 3) = true := by kernel_rfl
theorem j11 : (Rows.poolNilRow.unfollowed == Tryz.pinned.checked.prog.unfollowed 3) = true := by kernel_rfl
theorem j12 : (Rows.poolNilRow.recurses == Tryz.pinned.checked.prog.recurses 3) = true := by kernel_rfl
theorem j13 : (Rows.poolNilRow.named == Tryz.pinned.checked.prog.varsNamed 3) = true := by kernel_rfl
theorem joined : joinedFacts Tryz.pinned.checked.prog 3 Tryz.f3 Rows.poolNilSpec Rows.poolNilRow = true := by
  unfold joinedFacts
  rw [j10, j11, j12, j13]
  kernel_rfl
end Go.Proofs.AlP
end

/- PoolNil's card: what is asked of the program's text, in parts. -/
section
set_option linter.all false
namespace Go.Proofs.AlP
open Go Go.Proofs Go.Proofs.YtffhiphcmohjdaaGreatDoor
set_option maxRecDepth 100000
theorem c_wf : Rows.poolNilRow.wfByText (OpenSpec.ofChange Rows.poolNilSpec) = true := by kernel_rfl
theorem c_main : Tryz.pinned.checked.prog.mainIs = some (true, "78559990a23a0922b794bc3f60a8c1786fe76c7b9a95e634002e15bd1f76da91".toList) := by kernel_rfl
theorem c_looks : true = Tryz.pinned.checked.prog.looks [] := by kernel_rfl
theorem c_goes : false = Rows.poolNilRow.goesBy Tryz.pinned.checked.prog := by kernel_rfl
theorem c_stand : (Tryz.f3.params.toList.all fun t => !Tryz.prog.wantsStandIn t) = true := by kernel_rfl
theorem c_named : Tryz.prog.funcNamed "cautery/cauterylaw14.PoolNil" = some 3 := by kernel_rfl
end Go.Proofs.AlP
end

/- PoolNil: no pool tells nothing; for every input; the listed variables as the text lays them. -/
section
set_option linter.all false
namespace Go.Proofs.AlP
open Am Am.Fz Am.Ir Go Go.Proofs Go.Proofs.YtffhiphcmohjdaaGreatDoor Go.RowKit
set_option maxRecDepth 100000

theorem poolNil_holds : Rows.PoolNilSaid :=
  OpenClaim.holds_of_wide 3 Tryz.f3 rfl rfl rfl rfl rfl rfl rfl ⟨rfl, rfl, rfl, rfl, rfl⟩ rfl rfl rfl rfl rfl (by kernel_rfl) Tryz.func3 joined
    (of_decide_eq_true (by kernel_rfl)) (by unfold Func.isWrapper; first | (rw [if_pos (by decide +kernel)]; kernel_rfl) | (rw [if_neg (by decide +kernel)]; exact ⟨rfl, rfl⟩))
    (fun os started H enc _ => poolNil_lifted os started H enc)

theorem poolNil_card' : Rows.PoolNilCardSaid :=
  Claim7.holds_tied_plain_at .later [] [.data, .data, .handle, .sentinel, .pinned] true (true, "78559990a23a0922b794bc3f60a8c1786fe76c7b9a95e634002e15bd1f76da91") true
    poolNil_holds (fun _ h => by cases h) c_wf (fun _ h => by cases h) poolNil_row_tie rfl ⟨rfl, rfl⟩ c_main rfl
    (fun f fn hf hfn => by
      obtain rfl : f = 3 := Option.some.inj (c_named.symm.trans hf) |>.symm
      obtain rfl : fn = Tryz.f3 := (Option.some.inj (Tryz.func3.symm.trans hfn)).symm
      exact ⟨c_looks, fun j t ht => by
        have := List.all_eq_true.1 c_stand t (List.mem_of_getElem? (by simpa using ht))
        have h2 : Tryz.prog.wantsStandIn t = false := by simpa using this
        exact h2⟩)
    c_goes
end Go.Proofs.AlP

namespace Go.Proofs.YtffhiphcmohjdaaGreatDoor
theorem poolNil_card : Rows.PoolNilCardSaid := Go.Proofs.AlP.poolNil_card'
end Go.Proofs.YtffhiphcmohjdaaGreatDoor
end

