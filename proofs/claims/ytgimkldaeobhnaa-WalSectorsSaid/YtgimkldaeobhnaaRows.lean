/-
  No cell of these rows narrows 'for every input' (looked for: loops, veiled, ifaces, maps, wideKeys, modest, calm, conditions, laid).
  DERIVED. THE GIVEN ROWS OF THIS SEAT. 5 by the template 'for every input the law returns true; each argument reads behind the call as it read before'; 0 by the template 'total and deterministic' (their statements: YtgimkldaeobhnaaTotals.lean).
  GIVEN WITH THE SEED: the statements are not yours to turn. If you find one false, say at which input.
  Laid BY PROGRAM, IN A SANDBOX (cutbox-rows.mjs): the forced cells as the released guide's own fill.sh prints them over the translation 3e1787088b65ba02… (all of the seat's roots in one cut). By AI agents, Wed Nov 11 2026. No macro, syntax, notation, axiom, sorry.
-/
import Derived.Test.YtgimkldaeobhnaaChecked
import GoSem.Claim
import GoSem.ClaimJoined
import GoSem.ClaimMapViews
import Derived.JoinedTies
import Derived.KernelRfl
namespace Go.Proofs.Ytgimkldaeobhnaa
/- THE CELL 'sum', in the pinned program and in every row, IS THE sha256 OF THE DUMP (.gsa) THAT YtgimkldaeobhnaaProg.lean LOADS. Nothing in Lean hashes anything: it is a label: what it is worth is what the hold of that sum in a sandbox is worth. -/
noncomputable def Try.pinned : Pinned := { name := "ytgimkldaeobhnaa", sum := "3e1787088b65ba024c2485bad8259814baafbf3e5a08b212891dd8c8a43630cf", checked := Try.checked }
namespace Rows
def none {H : Type} : Left H := { results := [], args := [] }

/-- 'terrierlaw06.WalSmall': WHATEVER THE INPUT: true; the input reads as it did. -/
def walSmallSpec : ChangeSpec := { name := "walSmall", fn := fun _ => fun
  | [d1, d2] => { results := [.lit (.bool true)], args := [d1, d2] }
  | _ => none }
def walSmallRow : OpenClaim := { program := "ytgimkldaeobhnaa", sum := "3e1787088b65ba024c2485bad8259814baafbf3e5a08b212891dd8c8a43630cf", func := "terrier/terrierlaw06.WalSmall", spec := "walSmall", apart := false }
def WalSmallSaid : Prop := walSmallRow.holds Try.pinned (OpenSpec.ofChange walSmallSpec)

/-- ITS FALSE NEIGHBOUR: 'it returns false'. Refute it at one input. -/
def walSmallWrong : ChangeSpec := { name := "walSmall", fn := fun _ => fun
  | [d1, d2] => { results := [.lit (.bool false)], args := [d1, d2] }
  | _ => none }
def WalSmallWrongFalsely : Prop := walSmallRow.holds Try.pinned (OpenSpec.ofChange walSmallWrong)

/-- 'terrierlaw06.WalScript': WHATEVER THE INPUT: true; the input reads as it did. -/
def walScriptSpec : ChangeSpec := { name := "walScript", fn := fun _ => fun
  | [d1, d2] => { results := [.lit (.bool true)], args := [d1, d2] }
  | _ => none }
def walScriptRow : OpenClaim := { program := "ytgimkldaeobhnaa", sum := "3e1787088b65ba024c2485bad8259814baafbf3e5a08b212891dd8c8a43630cf", func := "terrier/terrierlaw06.WalScript", spec := "walScript", apart := false }
def WalScriptSaid : Prop := walScriptRow.holds Try.pinned (OpenSpec.ofChange walScriptSpec)

/-- ITS FALSE NEIGHBOUR: 'it returns false'. Refute it at one input. -/
def walScriptWrong : ChangeSpec := { name := "walScript", fn := fun _ => fun
  | [d1, d2] => { results := [.lit (.bool false)], args := [d1, d2] }
  | _ => none }
def WalScriptWrongFalsely : Prop := walScriptRow.holds Try.pinned (OpenSpec.ofChange walScriptWrong)

/-- 'terrierlaw06.WalStops': WHATEVER THE INPUT: true; the input reads as it did. -/
def walStopsSpec : ChangeSpec := { name := "walStops", fn := fun _ => fun
  | [d1, d2, d3, d4, d5] => { results := [.lit (.bool true)], args := [d1, d2, d3, d4, d5] }
  | _ => none }
def walStopsRow : OpenClaim := { program := "ytgimkldaeobhnaa", sum := "3e1787088b65ba024c2485bad8259814baafbf3e5a08b212891dd8c8a43630cf", func := "terrier/terrierlaw06.WalStops", spec := "walStops", apart := false }
def WalStopsSaid : Prop := walStopsRow.holds Try.pinned (OpenSpec.ofChange walStopsSpec)

/-- ITS FALSE NEIGHBOUR: 'it returns false'. Refute it at one input. -/
def walStopsWrong : ChangeSpec := { name := "walStops", fn := fun _ => fun
  | [d1, d2, d3, d4, d5] => { results := [.lit (.bool false)], args := [d1, d2, d3, d4, d5] }
  | _ => none }
def WalStopsWrongFalsely : Prop := walStopsRow.holds Try.pinned (OpenSpec.ofChange walStopsWrong)

/-- 'terrierlaw06.WalSectors': WHATEVER THE INPUT: true; the input reads as it did. -/
def walSectorsSpec : ChangeSpec := { name := "walSectors", fn := fun _ => fun
  | [d1, d2, d3] => { results := [.lit (.bool true)], args := [d1, d2, d3] }
  | _ => none }
def walSectorsRow : OpenClaim := { program := "ytgimkldaeobhnaa", sum := "3e1787088b65ba024c2485bad8259814baafbf3e5a08b212891dd8c8a43630cf", func := "terrier/terrierlaw06.WalSectors", spec := "walSectors", apart := false }
def WalSectorsSaid : Prop := walSectorsRow.holds Try.pinned (OpenSpec.ofChange walSectorsSpec)

/-- ITS FALSE NEIGHBOUR: 'it returns false'. Refute it at one input. -/
def walSectorsWrong : ChangeSpec := { name := "walSectors", fn := fun _ => fun
  | [d1, d2, d3] => { results := [.lit (.bool false)], args := [d1, d2, d3] }
  | _ => none }
def WalSectorsWrongFalsely : Prop := walSectorsRow.holds Try.pinned (OpenSpec.ofChange walSectorsWrong)

/-- 'terrierlaw06.WalFails': WHATEVER THE INPUT: true; the input reads as it did. -/
def walFailsSpec : ChangeSpec := { name := "walFails", fn := fun _ => fun
  | [d1, d2, d3] => { results := [.lit (.bool true)], args := [d1, d2, d3] }
  | _ => none }
def walFailsRow : OpenClaim := { program := "ytgimkldaeobhnaa", sum := "3e1787088b65ba024c2485bad8259814baafbf3e5a08b212891dd8c8a43630cf", func := "terrier/terrierlaw06.WalFails", spec := "walFails", apart := false }
def WalFailsSaid : Prop := walFailsRow.holds Try.pinned (OpenSpec.ofChange walFailsSpec)

/-- ITS FALSE NEIGHBOUR: 'it returns false'. Refute it at one input. -/
def walFailsWrong : ChangeSpec := { name := "walFails", fn := fun _ => fun
  | [d1, d2, d3] => { results := [.lit (.bool false)], args := [d1, d2, d3] }
  | _ => none }
def WalFailsWrongFalsely : Prop := walFailsRow.holds Try.pinned (OpenSpec.ofChange walFailsWrong)

/- THE SECOND FORM. 'bulk': how many values and letters a reading holds, each counted each time it is reached (what is shared counts as often as it is met; a slice's spare places count too). A statement '..UptoSaid' is the law's where the arguments, and the package variables that the reading takes, are together of bulk at most 1048576: NARROWER than '..Said'. Prove '..Said' where nothing that the law and all that it calls make is longer than what came in: it says more and counts as full. Else prove '..UptoSaid'. A law counts once. -/
mutual
def uptoBulk {H : Type} : DataW H → Nat
  | .lit (.string bytes) => bytes.length + 1
  | .lit _ => 1
  | .nil => 1
  | .ptr d => uptoBulk d + 1
  | .slice elems spare => uptoBulkAll elems + uptoBulkAll spare + 1
  | .agg parts => uptoBulkAll parts + 1
  | .iface _ d => uptoBulk d + 1
  | .map entries => uptoBulkEntries entries + 1
  | .held _ => 1
def uptoBulkAll {H : Type} : List (DataW H) → Nat
  | [] => 0
  | d :: r => uptoBulk d + uptoBulkAll r
def uptoBulkEntries {H : Type} : List (Lit × DataW H) → Nat
  | [] => 0
  | x :: r => uptoBulkEntry x + uptoBulkEntries r
def uptoBulkEntry {H : Type} : Lit × DataW H → Nat
  | (.string bytes, d) => bytes.length + uptoBulk d + 1
  | (_, d) => uptoBulk d + 1
 end
def uptoSmall : (H : Type) → List (DataW H) → Bool := fun _ ds => decide (uptoBulkAll ds ≤ 1048576)
def OpenSpec.upto (s : _root_.Go.ChangeSpec) : _root_.Go.OpenSpec := { _root_.Go.OpenSpec.ofChange s with cond := some uptoSmall }

/-- 'terrierlaw06.WalSmall', WHERE WHAT IT READS IS OF BULK AT MOST 1048576: true; the input reads as it did. -/
def walSmallUptoRow : OpenClaim := { program := "ytgimkldaeobhnaa", sum := "3e1787088b65ba024c2485bad8259814baafbf3e5a08b212891dd8c8a43630cf", func := "terrier/terrierlaw06.WalSmall", spec := "walSmall", apart := false, narrowed := true }
def WalSmallUptoSaid : Prop := walSmallUptoRow.holds Try.pinned (OpenSpec.upto walSmallSpec)

/-- 'terrierlaw06.WalScript', WHERE WHAT IT READS IS OF BULK AT MOST 1048576: true; the input reads as it did. -/
def walScriptUptoRow : OpenClaim := { program := "ytgimkldaeobhnaa", sum := "3e1787088b65ba024c2485bad8259814baafbf3e5a08b212891dd8c8a43630cf", func := "terrier/terrierlaw06.WalScript", spec := "walScript", apart := false, narrowed := true }
def WalScriptUptoSaid : Prop := walScriptUptoRow.holds Try.pinned (OpenSpec.upto walScriptSpec)

/-- 'terrierlaw06.WalStops', WHERE WHAT IT READS IS OF BULK AT MOST 1048576: true; the input reads as it did. -/
def walStopsUptoRow : OpenClaim := { program := "ytgimkldaeobhnaa", sum := "3e1787088b65ba024c2485bad8259814baafbf3e5a08b212891dd8c8a43630cf", func := "terrier/terrierlaw06.WalStops", spec := "walStops", apart := false, narrowed := true }
def WalStopsUptoSaid : Prop := walStopsUptoRow.holds Try.pinned (OpenSpec.upto walStopsSpec)

/-- 'terrierlaw06.WalSectors', WHERE WHAT IT READS IS OF BULK AT MOST 1048576: true; the input reads as it did. -/
def walSectorsUptoRow : OpenClaim := { program := "ytgimkldaeobhnaa", sum := "3e1787088b65ba024c2485bad8259814baafbf3e5a08b212891dd8c8a43630cf", func := "terrier/terrierlaw06.WalSectors", spec := "walSectors", apart := false, narrowed := true }
def WalSectorsUptoSaid : Prop := walSectorsUptoRow.holds Try.pinned (OpenSpec.upto walSectorsSpec)

/-- 'terrierlaw06.WalFails', WHERE WHAT IT READS IS OF BULK AT MOST 1048576: true; the input reads as it did. -/
def walFailsUptoRow : OpenClaim := { program := "ytgimkldaeobhnaa", sum := "3e1787088b65ba024c2485bad8259814baafbf3e5a08b212891dd8c8a43630cf", func := "terrier/terrierlaw06.WalFails", spec := "walFails", apart := false, narrowed := true }
def WalFailsUptoSaid : Prop := walFailsUptoRow.holds Try.pinned (OpenSpec.upto walFailsSpec)

end Rows
end Go.Proofs.Ytgimkldaeobhnaa
