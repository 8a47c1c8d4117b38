/-
  NARROWER THAN 'FOR EVERY INPUT', by the rows' own cells (each row's printed sentence says how): FaultWrapped: laid · FaultTold: laid · FaultHas: laid.
  DERIVED. THE GIVEN ROWS OF THIS SEAT. 3 by the template 'for every input the law returns true; each argument reads behind the call as it read before'; 0 by the template 'total and deterministic' (their statements: YtgkkggfhnlhbiaaDoorTotals.lean).
  GIVEN WITH THE SEED: the statements are not yours to turn. If you find one false, say at which input.
  Laid BY PROGRAM, IN A SANDBOX (cutbox-rows.mjs): the forced cells as the released guide's own fill.sh prints them over the translation 5ac7693435feef7f… (all of the seat's roots in one cut). By AI agents, Wed Nov 11 2026. No macro, syntax, notation, axiom, sorry.
-/
import Derived.Test.YtgkkggfhnlhbiaaDoorChecked
import GoSem.Claim
import GoSem.ClaimJoined
import GoSem.ClaimMapViews
import Derived.JoinedTies
import Derived.KernelRfl
namespace Go.Proofs.YtgkkggfhnlhbiaaDoor
/- THE CELL 'sum', in the pinned program and in every row, IS THE sha256 OF THE DUMP (.gsa) THAT YtgkkggfhnlhbiaaDoorProg.lean LOADS. Nothing in Lean hashes anything: it is a label: what it is worth is what the hold of that sum in a sandbox is worth. -/
noncomputable def Tryd.pinned : Pinned := { name := "ytgkkggfhnlhbiaadoor", sum := "5ac7693435feef7f41656463561966a393e5d94daa6b134dd0dbde99bed6b9de", checked := Tryd.checked }
namespace Rows
def none {H : Type} : Left H := { results := [], args := [] }

/- WHAT THE LISTED PACKAGE-LEVEL VARIABLES READ AS WHEN THE CALL BEGINS. Each datum BY PROGRAM (the guide's laid-datum.mjs) off the statement by which the dump's own 'gosem.cut.vars' lays the variable. In a bare row this is a premise. The card (YtgkkggfhnlhbiaaDoorCards.lean) ties it to the program's text. -/
def laid_errors_errorType {H : Type} : DataW H := .iface "internal/reflectlite.rtype" (.agg [.ptr (.lit (.string [101, 114, 114, 111, 114]))])

/-- 'cauterylaw03.FaultWrapped': WHATEVER THE INPUT: true; the input reads as it did. -/
def faultWrappedSpec : ChangeSpec := { name := "faultWrapped", fn := fun _ => fun
  | [d1, d2, d3] => { results := [.lit (.bool true)], args := [d1, d2, d3] }
  | _ => none }
def faultWrappedRow : OpenClaim := { program := "ytgkkggfhnlhbiaadoor", sum := "5ac7693435feef7f41656463561966a393e5d94daa6b134dd0dbde99bed6b9de", func := "cautery/cauterylaw03.FaultWrapped", spec := "faultWrapped", inPlace := ["internal/reflectlite.ValueOf", "(internal/reflectlite.Value).Type", "(internal/reflectlite.Value).IsNil", "internal/reflectlite.TypeOf", "(internal/reflectlite.Value).Elem", "(internal/reflectlite.Value).Set"], unfollowed := true, recurses := true, named := ["errors.errorType"], apart := false, laid := [("errors.errorType", laid_errors_errorType)] }
def FaultWrappedSaid : Prop := faultWrappedRow.holds Tryd.pinned (OpenSpec.ofChange faultWrappedSpec)

/-- ITS FALSE NEIGHBOUR: 'it returns false'. Refute it at one input. -/
def faultWrappedWrong : ChangeSpec := { name := "faultWrapped", fn := fun _ => fun
  | [d1, d2, d3] => { results := [.lit (.bool false)], args := [d1, d2, d3] }
  | _ => none }
def FaultWrappedWrongFalsely : Prop := faultWrappedRow.holds Tryd.pinned (OpenSpec.ofChange faultWrappedWrong)

/-- 'cauterylaw03.FaultTold': WHATEVER THE INPUT: true; the input reads as it did. -/
def faultToldSpec : ChangeSpec := { name := "faultTold", fn := fun _ => fun
  | [d1, d2, d3] => { results := [.lit (.bool true)], args := [d1, d2, d3] }
  | _ => none }
def faultToldRow : OpenClaim := { program := "ytgkkggfhnlhbiaadoor", sum := "5ac7693435feef7f41656463561966a393e5d94daa6b134dd0dbde99bed6b9de", func := "cautery/cauterylaw03.FaultTold", spec := "faultTold", inPlace := ["internal/reflectlite.ValueOf", "(internal/reflectlite.Value).Type", "(internal/reflectlite.Value).IsNil", "internal/reflectlite.TypeOf", "(internal/reflectlite.Value).Elem", "(internal/reflectlite.Value).Set"], unfollowed := true, recurses := true, named := ["errors.errorType"], apart := false, laid := [("errors.errorType", laid_errors_errorType)] }
def FaultToldSaid : Prop := faultToldRow.holds Tryd.pinned (OpenSpec.ofChange faultToldSpec)

/-- ITS FALSE NEIGHBOUR: 'it returns false'. Refute it at one input. -/
def faultToldWrong : ChangeSpec := { name := "faultTold", fn := fun _ => fun
  | [d1, d2, d3] => { results := [.lit (.bool false)], args := [d1, d2, d3] }
  | _ => none }
def FaultToldWrongFalsely : Prop := faultToldRow.holds Tryd.pinned (OpenSpec.ofChange faultToldWrong)

/-- 'cauterylaw03.FaultHas': WHATEVER THE INPUT: true; the input reads as it did. -/
def faultHasSpec : ChangeSpec := { name := "faultHas", fn := fun _ => fun
  | [d1, d2, d3] => { results := [.lit (.bool true)], args := [d1, d2, d3] }
  | _ => none }
def faultHasRow : OpenClaim := { program := "ytgkkggfhnlhbiaadoor", sum := "5ac7693435feef7f41656463561966a393e5d94daa6b134dd0dbde99bed6b9de", func := "cautery/cauterylaw03.FaultHas", spec := "faultHas", inPlace := ["internal/reflectlite.ValueOf", "(internal/reflectlite.Value).Type", "(internal/reflectlite.Value).IsNil", "internal/reflectlite.TypeOf", "(internal/reflectlite.Value).Elem", "(internal/reflectlite.Value).Set"], unfollowed := true, recurses := true, named := ["errors.errorType"], apart := false, laid := [("errors.errorType", laid_errors_errorType)] }
def FaultHasSaid : Prop := faultHasRow.holds Tryd.pinned (OpenSpec.ofChange faultHasSpec)

/-- ITS FALSE NEIGHBOUR: 'it returns false'. Refute it at one input. -/
def faultHasWrong : ChangeSpec := { name := "faultHas", fn := fun _ => fun
  | [d1, d2, d3] => { results := [.lit (.bool false)], args := [d1, d2, d3] }
  | _ => none }
def FaultHasWrongFalsely : Prop := faultHasRow.holds Tryd.pinned (OpenSpec.ofChange faultHasWrong)

/- THE SECOND FORM. 'bulk': how many values and letters a reading holds, each counted each time it is reached (what is shared counts as often as it is met; a slice's spare places count too). A statement '..UptoSaid' is the law's where the arguments, and the package variables that the reading takes, are together of bulk at most 1048576: NARROWER than '..Said'. Prove '..Said' where nothing that the law and all that it calls make is longer than what came in: it says more and counts as full. Else prove '..UptoSaid'. A law counts once. -/
mutual
def uptoBulk {H : Type} : DataW H → Nat
  | .lit (.string bytes) => bytes.length + 1
  | .lit _ => 1
  | .nil => 1
  | .ptr d => uptoBulk d + 1
  | .slice elems spare => uptoBulkAll elems + uptoBulkAll spare + 1
  | .agg parts => uptoBulkAll parts + 1
  | .iface _ d => uptoBulk d + 1
  | .map entries => uptoBulkEntries entries + 1
  | .held _ => 1
def uptoBulkAll {H : Type} : List (DataW H) → Nat
  | [] => 0
  | d :: r => uptoBulk d + uptoBulkAll r
def uptoBulkEntries {H : Type} : List (Lit × DataW H) → Nat
  | [] => 0
  | x :: r => uptoBulkEntry x + uptoBulkEntries r
def uptoBulkEntry {H : Type} : Lit × DataW H → Nat
  | (.string bytes, d) => bytes.length + uptoBulk d + 1
  | (_, d) => uptoBulk d + 1
 end
def uptoSmall : (H : Type) → List (DataW H) → Bool := fun _ ds => decide (uptoBulkAll ds ≤ 1048576)
def OpenSpec.upto (s : _root_.Go.ChangeSpec) : _root_.Go.OpenSpec := { _root_.Go.OpenSpec.ofChange s with cond := some uptoSmall }

/-- 'cauterylaw03.FaultWrapped', WHERE WHAT IT READS IS OF BULK AT MOST 1048576: true; the input reads as it did. -/
def faultWrappedUptoRow : OpenClaim := { program := "ytgkkggfhnlhbiaadoor", sum := "5ac7693435feef7f41656463561966a393e5d94daa6b134dd0dbde99bed6b9de", func := "cautery/cauterylaw03.FaultWrapped", spec := "faultWrapped", inPlace := ["internal/reflectlite.ValueOf", "(internal/reflectlite.Value).Type", "(internal/reflectlite.Value).IsNil", "internal/reflectlite.TypeOf", "(internal/reflectlite.Value).Elem", "(internal/reflectlite.Value).Set"], unfollowed := true, recurses := true, named := ["errors.errorType"], apart := false, laid := [("errors.errorType", laid_errors_errorType)], narrowed := true }
def FaultWrappedUptoSaid : Prop := faultWrappedUptoRow.holds Tryd.pinned (OpenSpec.upto faultWrappedSpec)

/-- 'cauterylaw03.FaultTold', WHERE WHAT IT READS IS OF BULK AT MOST 1048576: true; the input reads as it did. -/
def faultToldUptoRow : OpenClaim := { program := "ytgkkggfhnlhbiaadoor", sum := "5ac7693435feef7f41656463561966a393e5d94daa6b134dd0dbde99bed6b9de", func := "cautery/cauterylaw03.FaultTold", spec := "faultTold", inPlace := ["internal/reflectlite.ValueOf", "(internal/reflectlite.Value).Type", "(internal/reflectlite.Value).IsNil", "internal/reflectlite.TypeOf", "(internal/reflectlite.Value).Elem", "(internal/reflectlite.Value).Set"], unfollowed := true, recurses := true, named := ["errors.errorType"], apart := false, laid := [("errors.errorType", laid_errors_errorType)], narrowed := true }
def FaultToldUptoSaid : Prop := faultToldUptoRow.holds Tryd.pinned (OpenSpec.upto faultToldSpec)

/-- 'cauterylaw03.FaultHas', WHERE WHAT IT READS IS OF BULK AT MOST 1048576: true; the input reads as it did. -/
def faultHasUptoRow : OpenClaim := { program := "ytgkkggfhnlhbiaadoor", sum := "5ac7693435feef7f41656463561966a393e5d94daa6b134dd0dbde99bed6b9de", func := "cautery/cauterylaw03.FaultHas", spec := "faultHas", inPlace := ["internal/reflectlite.ValueOf", "(internal/reflectlite.Value).Type", "(internal/reflectlite.Value).IsNil", "internal/reflectlite.TypeOf", "(internal/reflectlite.Value).Elem", "(internal/reflectlite.Value).Set"], unfollowed := true, recurses := true, named := ["errors.errorType"], apart := false, laid := [("errors.errorType", laid_errors_errorType)], narrowed := true }
def FaultHasUptoSaid : Prop := faultHasUptoRow.holds Tryd.pinned (OpenSpec.upto faultHasSpec)

end Rows
end Go.Proofs.YtgkkggfhnlhbiaaDoor
