/-
  No cell of these rows narrows 'for every input' (looked for: loops, veiled, ifaces, maps, wideKeys, modest, calm, conditions, laid).
  DERIVED. THE GIVEN ROWS OF THIS SEAT. 3 by the template 'for every input the law returns true; each argument reads behind the call as it read before'; 0 by the template 'total and deterministic' (their statements: YtjinhkamckibaaaTotals.lean).
  GIVEN WITH THE SEED: the statements are not yours to turn. If you find one false, say at which input.
  Laid BY PROGRAM, IN A SANDBOX (cutbox-rows.mjs): the forced cells as the released guide's own fill.sh prints them over the translation 6de0dca7164b6f3e… (all of the seat's roots in one cut). By AI agents, Wed Nov 11 2026. No macro, syntax, notation, axiom, sorry.
-/
import Derived.Test.YtjinhkamckibaaaChecked
import GoSem.Claim
import GoSem.ClaimJoined
import GoSem.ClaimMapViews
import Derived.JoinedTies
import Derived.KernelRfl
namespace Go.Proofs.Ytjinhkamckibaaa
/- THE CELL 'sum', in the pinned program and in every row, IS THE sha256 OF THE DUMP (.gsa) THAT YtjinhkamckibaaaProg.lean LOADS. Nothing in Lean hashes anything: it is a label: what it is worth is what the hold of that sum in a sandbox is worth. -/
noncomputable def Try.pinned : Pinned := { name := "ytjinhkamckibaaa", sum := "6de0dca7164b6f3e21a51d9c212d125bfd016a0ce20a5eb6643172a276710b9d", checked := Try.checked }
namespace Rows
def none {H : Type} : Left H := { results := [], args := [] }

/-- 'cauterylaw21.BisectEncode': WHATEVER THE INPUT: true; the input reads as it did. -/
def bisectEncodeSpec : ChangeSpec := { name := "bisectEncode", fn := fun _ => fun
  | [d] => { results := [.lit (.bool true)], args := [d] }
  | _ => none }
def bisectEncodeRow : OpenClaim := { program := "ytjinhkamckibaaa", sum := "6de0dca7164b6f3e21a51d9c212d125bfd016a0ce20a5eb6643172a276710b9d", func := "cautery/cauterylaw21.BisectEncode", spec := "bisectEncode", apart := false }
def BisectEncodeSaid : Prop := bisectEncodeRow.holds Try.pinned (OpenSpec.ofChange bisectEncodeSpec)

/-- ITS FALSE NEIGHBOUR: 'it returns false'. Refute it at one input. -/
def bisectEncodeWrong : ChangeSpec := { name := "bisectEncode", fn := fun _ => fun
  | [d] => { results := [.lit (.bool false)], args := [d] }
  | _ => none }
def BisectEncodeWrongFalsely : Prop := bisectEncodeRow.holds Try.pinned (OpenSpec.ofChange bisectEncodeWrong)

/-- 'cauterylaw21.BisectDecode': WHATEVER THE INPUT: true; the input reads as it did. -/
def bisectDecodeSpec : ChangeSpec := { name := "bisectDecode", fn := fun _ => fun
  | [d] => { results := [.lit (.bool true)], args := [d] }
  | _ => none }
def bisectDecodeRow : OpenClaim := { program := "ytjinhkamckibaaa", sum := "6de0dca7164b6f3e21a51d9c212d125bfd016a0ce20a5eb6643172a276710b9d", func := "cautery/cauterylaw21.BisectDecode", spec := "bisectDecode", apart := false }
def BisectDecodeSaid : Prop := bisectDecodeRow.holds Try.pinned (OpenSpec.ofChange bisectDecodeSpec)

/-- ITS FALSE NEIGHBOUR: 'it returns false'. Refute it at one input. -/
def bisectDecodeWrong : ChangeSpec := { name := "bisectDecode", fn := fun _ => fun
  | [d] => { results := [.lit (.bool false)], args := [d] }
  | _ => none }
def BisectDecodeWrongFalsely : Prop := bisectDecodeRow.holds Try.pinned (OpenSpec.ofChange bisectDecodeWrong)

/-- 'cauterylaw21.BisectBack': WHATEVER THE INPUT: true; the input reads as it did. -/
def bisectBackSpec : ChangeSpec := { name := "bisectBack", fn := fun _ => fun
  | [d1, d2] => { results := [.lit (.bool true)], args := [d1, d2] }
  | _ => none }
def bisectBackRow : OpenClaim := { program := "ytjinhkamckibaaa", sum := "6de0dca7164b6f3e21a51d9c212d125bfd016a0ce20a5eb6643172a276710b9d", func := "cautery/cauterylaw21.BisectBack", spec := "bisectBack", apart := false }
def BisectBackSaid : Prop := bisectBackRow.holds Try.pinned (OpenSpec.ofChange bisectBackSpec)

/-- ITS FALSE NEIGHBOUR: 'it returns false'. Refute it at one input. -/
def bisectBackWrong : ChangeSpec := { name := "bisectBack", fn := fun _ => fun
  | [d1, d2] => { results := [.lit (.bool false)], args := [d1, d2] }
  | _ => none }
def BisectBackWrongFalsely : Prop := bisectBackRow.holds Try.pinned (OpenSpec.ofChange bisectBackWrong)

/- THE SECOND FORM. 'bulk': how many values and letters a reading holds, each counted each time it is reached (what is shared counts as often as it is met; a slice's spare places count too). A statement '..UptoSaid' is the law's where the arguments, and the package variables that the reading takes, are together of bulk at most 1048576: NARROWER than '..Said'. Prove '..Said' where nothing that the law and all that it calls make is longer than what came in: it says more and counts as full. Else prove '..UptoSaid'. A law counts once. -/
mutual
def uptoBulk {H : Type} : DataW H → Nat
  | .lit (.string bytes) => bytes.length + 1
  | .lit _ => 1
  | .nil => 1
  | .ptr d => uptoBulk d + 1
  | .slice elems spare => uptoBulkAll elems + uptoBulkAll spare + 1
  | .agg parts => uptoBulkAll parts + 1
  | .iface _ d => uptoBulk d + 1
  | .map entries => uptoBulkEntries entries + 1
  | .held _ => 1
def uptoBulkAll {H : Type} : List (DataW H) → Nat
  | [] => 0
  | d :: r => uptoBulk d + uptoBulkAll r
def uptoBulkEntries {H : Type} : List (Lit × DataW H) → Nat
  | [] => 0
  | x :: r => uptoBulkEntry x + uptoBulkEntries r
def uptoBulkEntry {H : Type} : Lit × DataW H → Nat
  | (.string bytes, d) => bytes.length + uptoBulk d + 1
  | (_, d) => uptoBulk d + 1
 end
def uptoSmall : (H : Type) → List (DataW H) → Bool := fun _ ds => decide (uptoBulkAll ds ≤ 1048576)
def OpenSpec.upto (s : _root_.Go.ChangeSpec) : _root_.Go.OpenSpec := { _root_.Go.OpenSpec.ofChange s with cond := some uptoSmall }

/-- 'cauterylaw21.BisectEncode', WHERE WHAT IT READS IS OF BULK AT MOST 1048576: true; the input reads as it did. -/
def bisectEncodeUptoRow : OpenClaim := { program := "ytjinhkamckibaaa", sum := "6de0dca7164b6f3e21a51d9c212d125bfd016a0ce20a5eb6643172a276710b9d", func := "cautery/cauterylaw21.BisectEncode", spec := "bisectEncode", apart := false, narrowed := true }
def BisectEncodeUptoSaid : Prop := bisectEncodeUptoRow.holds Try.pinned (OpenSpec.upto bisectEncodeSpec)

/-- 'cauterylaw21.BisectDecode', WHERE WHAT IT READS IS OF BULK AT MOST 1048576: true; the input reads as it did. -/
def bisectDecodeUptoRow : OpenClaim := { program := "ytjinhkamckibaaa", sum := "6de0dca7164b6f3e21a51d9c212d125bfd016a0ce20a5eb6643172a276710b9d", func := "cautery/cauterylaw21.BisectDecode", spec := "bisectDecode", apart := false, narrowed := true }
def BisectDecodeUptoSaid : Prop := bisectDecodeUptoRow.holds Try.pinned (OpenSpec.upto bisectDecodeSpec)

/-- 'cauterylaw21.BisectBack', WHERE WHAT IT READS IS OF BULK AT MOST 1048576: true; the input reads as it did. -/
def bisectBackUptoRow : OpenClaim := { program := "ytjinhkamckibaaa", sum := "6de0dca7164b6f3e21a51d9c212d125bfd016a0ce20a5eb6643172a276710b9d", func := "cautery/cauterylaw21.BisectBack", spec := "bisectBack", apart := false, narrowed := true }
def BisectBackUptoSaid : Prop := bisectBackUptoRow.holds Try.pinned (OpenSpec.upto bisectBackSpec)

end Rows
end Go.Proofs.Ytjinhkamckibaaa
