/-
  No cell of these rows narrows 'for every input' (looked for: loops, veiled, ifaces, maps, wideKeys, modest, calm, conditions, laid).
  DERIVED. THE GIVEN ROWS OF THIS SEAT. 6 by the template 'for every input the law returns true; each argument reads behind the call as it read before'; 0 by the template 'total and deterministic' (their statements: YtacafjapnppacaaTotals.lean).
  GIVEN WITH THE SEED: the statements are not yours to turn. If you find one false, say at which input.
  Laid BY PROGRAM, IN A SANDBOX (cutbox-rows.mjs): the forced cells as the released guide's own fill.sh prints them over the translation 14a41a4820ecda91… (all of the seat's roots in one cut). By AI agents, Wed Nov 11 2026. No macro, syntax, notation, axiom, sorry.
-/
import Derived.Test.YtacafjapnppacaaChecked
import GoSem.Claim
import GoSem.ClaimJoined
import GoSem.ClaimMapViews
import Derived.JoinedTies
import Derived.KernelRfl
namespace Go.Proofs.Ytacafjapnppacaa
/- THE CELL 'sum', in the pinned program and in every row, IS THE sha256 OF THE DUMP (.gsa) THAT YtacafjapnppacaaProg.lean LOADS. Nothing in Lean hashes anything: it is a label: what it is worth is what the hold of that sum in a sandbox is worth. -/
noncomputable def Try.pinned : Pinned := { name := "ytacafjapnppacaa", sum := "14a41a4820ecda9135d15ab9ebae4aef87ff719aec8d3e5ff95ddc2a14789a34", checked := Try.checked }
namespace Rows
def none {H : Type} : Left H := { results := [], args := [] }

/-- 'terrierlaw04.SumCheck': WHATEVER THE INPUT: true; the input reads as it did. -/
def sumCheckSpec : ChangeSpec := { name := "sumCheck", fn := fun _ => fun
  | [d] => { results := [.lit (.bool true)], args := [d] }
  | _ => none }
def sumCheckRow : OpenClaim := { program := "ytacafjapnppacaa", sum := "14a41a4820ecda9135d15ab9ebae4aef87ff719aec8d3e5ff95ddc2a14789a34", func := "terrier/terrierlaw04.SumCheck", spec := "sumCheck", apart := false }
def SumCheckSaid : Prop := sumCheckRow.holds Try.pinned (OpenSpec.ofChange sumCheckSpec)

/-- ITS FALSE NEIGHBOUR: 'it returns false'. Refute it at one input. -/
def sumCheckWrong : ChangeSpec := { name := "sumCheck", fn := fun _ => fun
  | [d] => { results := [.lit (.bool false)], args := [d] }
  | _ => none }
def SumCheckWrongFalsely : Prop := sumCheckRow.holds Try.pinned (OpenSpec.ofChange sumCheckWrong)

/-- 'terrierlaw04.SumOne': WHATEVER THE INPUT: true; the input reads as it did. -/
def sumOneSpec : ChangeSpec := { name := "sumOne", fn := fun _ => fun
  | [d1, d2, d3] => { results := [.lit (.bool true)], args := [d1, d2, d3] }
  | _ => none }
def sumOneRow : OpenClaim := { program := "ytacafjapnppacaa", sum := "14a41a4820ecda9135d15ab9ebae4aef87ff719aec8d3e5ff95ddc2a14789a34", func := "terrier/terrierlaw04.SumOne", spec := "sumOne", apart := false }
def SumOneSaid : Prop := sumOneRow.holds Try.pinned (OpenSpec.ofChange sumOneSpec)

/-- ITS FALSE NEIGHBOUR: 'it returns false'. Refute it at one input. -/
def sumOneWrong : ChangeSpec := { name := "sumOne", fn := fun _ => fun
  | [d1, d2, d3] => { results := [.lit (.bool false)], args := [d1, d2, d3] }
  | _ => none }
def SumOneWrongFalsely : Prop := sumOneRow.holds Try.pinned (OpenSpec.ofChange sumOneWrong)

/-- 'terrierlaw04.SumThree': WHATEVER THE INPUT: true; the input reads as it did. -/
def sumThreeSpec : ChangeSpec := { name := "sumThree", fn := fun _ => fun
  | [d1, d2, d3] => { results := [.lit (.bool true)], args := [d1, d2, d3] }
  | _ => none }
def sumThreeRow : OpenClaim := { program := "ytacafjapnppacaa", sum := "14a41a4820ecda9135d15ab9ebae4aef87ff719aec8d3e5ff95ddc2a14789a34", func := "terrier/terrierlaw04.SumThree", spec := "sumThree", apart := false }
def SumThreeSaid : Prop := sumThreeRow.holds Try.pinned (OpenSpec.ofChange sumThreeSpec)

/-- ITS FALSE NEIGHBOUR: 'it returns false'. Refute it at one input. -/
def sumThreeWrong : ChangeSpec := { name := "sumThree", fn := fun _ => fun
  | [d1, d2, d3] => { results := [.lit (.bool false)], args := [d1, d2, d3] }
  | _ => none }
def SumThreeWrongFalsely : Prop := sumThreeRow.holds Try.pinned (OpenSpec.ofChange sumThreeWrong)

/-- 'terrierlaw04.SumWords': WHATEVER THE INPUT: true; the input reads as it did. -/
def sumWordsSpec : ChangeSpec := { name := "sumWords", fn := fun _ => fun
  | [d] => { results := [.lit (.bool true)], args := [d] }
  | _ => none }
def sumWordsRow : OpenClaim := { program := "ytacafjapnppacaa", sum := "14a41a4820ecda9135d15ab9ebae4aef87ff719aec8d3e5ff95ddc2a14789a34", func := "terrier/terrierlaw04.SumWords", spec := "sumWords", apart := false }
def SumWordsSaid : Prop := sumWordsRow.holds Try.pinned (OpenSpec.ofChange sumWordsSpec)

/-- ITS FALSE NEIGHBOUR: 'it returns false'. Refute it at one input. -/
def sumWordsWrong : ChangeSpec := { name := "sumWords", fn := fun _ => fun
  | [d] => { results := [.lit (.bool false)], args := [d] }
  | _ => none }
def SumWordsWrongFalsely : Prop := sumWordsRow.holds Try.pinned (OpenSpec.ofChange sumWordsWrong)

/-- 'terrierlaw04.SumSeal': WHATEVER THE INPUT: true; the input reads as it did. -/
def sumSealSpec : ChangeSpec := { name := "sumSeal", fn := fun _ => fun
  | [d1, d2] => { results := [.lit (.bool true)], args := [d1, d2] }
  | _ => none }
def sumSealRow : OpenClaim := { program := "ytacafjapnppacaa", sum := "14a41a4820ecda9135d15ab9ebae4aef87ff719aec8d3e5ff95ddc2a14789a34", func := "terrier/terrierlaw04.SumSeal", spec := "sumSeal", apart := false }
def SumSealSaid : Prop := sumSealRow.holds Try.pinned (OpenSpec.ofChange sumSealSpec)

/-- ITS FALSE NEIGHBOUR: 'it returns false'. Refute it at one input. -/
def sumSealWrong : ChangeSpec := { name := "sumSeal", fn := fun _ => fun
  | [d1, d2] => { results := [.lit (.bool false)], args := [d1, d2] }
  | _ => none }
def SumSealWrongFalsely : Prop := sumSealRow.holds Try.pinned (OpenSpec.ofChange sumSealWrong)

/-- 'terrierlaw04.SumTurned': WHATEVER THE INPUT: true; the input reads as it did. -/
def sumTurnedSpec : ChangeSpec := { name := "sumTurned", fn := fun _ => fun
  | [d1, d2, d3] => { results := [.lit (.bool true)], args := [d1, d2, d3] }
  | _ => none }
def sumTurnedRow : OpenClaim := { program := "ytacafjapnppacaa", sum := "14a41a4820ecda9135d15ab9ebae4aef87ff719aec8d3e5ff95ddc2a14789a34", func := "terrier/terrierlaw04.SumTurned", spec := "sumTurned", apart := false }
def SumTurnedSaid : Prop := sumTurnedRow.holds Try.pinned (OpenSpec.ofChange sumTurnedSpec)

/-- ITS FALSE NEIGHBOUR: 'it returns false'. Refute it at one input. -/
def sumTurnedWrong : ChangeSpec := { name := "sumTurned", fn := fun _ => fun
  | [d1, d2, d3] => { results := [.lit (.bool false)], args := [d1, d2, d3] }
  | _ => none }
def SumTurnedWrongFalsely : Prop := sumTurnedRow.holds Try.pinned (OpenSpec.ofChange sumTurnedWrong)

/- THE SECOND FORM. 'bulk': how many values and letters a reading holds, each counted each time it is reached (what is shared counts as often as it is met; a slice's spare places count too). A statement '..UptoSaid' is the law's where the arguments, and the package variables that the reading takes, are together of bulk at most 1048576: NARROWER than '..Said'. Prove '..Said' where nothing that the law and all that it calls make is longer than what came in: it says more and counts as full. Else prove '..UptoSaid'. A law counts once. -/
mutual
def uptoBulk {H : Type} : DataW H → Nat
  | .lit (.string bytes) => bytes.length + 1
  | .lit _ => 1
  | .nil => 1
  | .ptr d => uptoBulk d + 1
  | .slice elems spare => uptoBulkAll elems + uptoBulkAll spare + 1
  | .agg parts => uptoBulkAll parts + 1
  | .iface _ d => uptoBulk d + 1
  | .map entries => uptoBulkEntries entries + 1
  | .held _ => 1
def uptoBulkAll {H : Type} : List (DataW H) → Nat
  | [] => 0
  | d :: r => uptoBulk d + uptoBulkAll r
def uptoBulkEntries {H : Type} : List (Lit × DataW H) → Nat
  | [] => 0
  | x :: r => uptoBulkEntry x + uptoBulkEntries r
def uptoBulkEntry {H : Type} : Lit × DataW H → Nat
  | (.string bytes, d) => bytes.length + uptoBulk d + 1
  | (_, d) => uptoBulk d + 1
 end
def uptoSmall : (H : Type) → List (DataW H) → Bool := fun _ ds => decide (uptoBulkAll ds ≤ 1048576)
def OpenSpec.upto (s : _root_.Go.ChangeSpec) : _root_.Go.OpenSpec := { _root_.Go.OpenSpec.ofChange s with cond := some uptoSmall }

/-- 'terrierlaw04.SumCheck', WHERE WHAT IT READS IS OF BULK AT MOST 1048576: true; the input reads as it did. -/
def sumCheckUptoRow : OpenClaim := { program := "ytacafjapnppacaa", sum := "14a41a4820ecda9135d15ab9ebae4aef87ff719aec8d3e5ff95ddc2a14789a34", func := "terrier/terrierlaw04.SumCheck", spec := "sumCheck", apart := false, narrowed := true }
def SumCheckUptoSaid : Prop := sumCheckUptoRow.holds Try.pinned (OpenSpec.upto sumCheckSpec)

/-- 'terrierlaw04.SumOne', WHERE WHAT IT READS IS OF BULK AT MOST 1048576: true; the input reads as it did. -/
def sumOneUptoRow : OpenClaim := { program := "ytacafjapnppacaa", sum := "14a41a4820ecda9135d15ab9ebae4aef87ff719aec8d3e5ff95ddc2a14789a34", func := "terrier/terrierlaw04.SumOne", spec := "sumOne", apart := false, narrowed := true }
def SumOneUptoSaid : Prop := sumOneUptoRow.holds Try.pinned (OpenSpec.upto sumOneSpec)

/-- 'terrierlaw04.SumThree', WHERE WHAT IT READS IS OF BULK AT MOST 1048576: true; the input reads as it did. -/
def sumThreeUptoRow : OpenClaim := { program := "ytacafjapnppacaa", sum := "14a41a4820ecda9135d15ab9ebae4aef87ff719aec8d3e5ff95ddc2a14789a34", func := "terrier/terrierlaw04.SumThree", spec := "sumThree", apart := false, narrowed := true }
def SumThreeUptoSaid : Prop := sumThreeUptoRow.holds Try.pinned (OpenSpec.upto sumThreeSpec)

/-- 'terrierlaw04.SumWords', WHERE WHAT IT READS IS OF BULK AT MOST 1048576: true; the input reads as it did. -/
def sumWordsUptoRow : OpenClaim := { program := "ytacafjapnppacaa", sum := "14a41a4820ecda9135d15ab9ebae4aef87ff719aec8d3e5ff95ddc2a14789a34", func := "terrier/terrierlaw04.SumWords", spec := "sumWords", apart := false, narrowed := true }
def SumWordsUptoSaid : Prop := sumWordsUptoRow.holds Try.pinned (OpenSpec.upto sumWordsSpec)

/-- 'terrierlaw04.SumSeal', WHERE WHAT IT READS IS OF BULK AT MOST 1048576: true; the input reads as it did. -/
def sumSealUptoRow : OpenClaim := { program := "ytacafjapnppacaa", sum := "14a41a4820ecda9135d15ab9ebae4aef87ff719aec8d3e5ff95ddc2a14789a34", func := "terrier/terrierlaw04.SumSeal", spec := "sumSeal", apart := false, narrowed := true }
def SumSealUptoSaid : Prop := sumSealUptoRow.holds Try.pinned (OpenSpec.upto sumSealSpec)

/-- 'terrierlaw04.SumTurned', WHERE WHAT IT READS IS OF BULK AT MOST 1048576: true; the input reads as it did. -/
def sumTurnedUptoRow : OpenClaim := { program := "ytacafjapnppacaa", sum := "14a41a4820ecda9135d15ab9ebae4aef87ff719aec8d3e5ff95ddc2a14789a34", func := "terrier/terrierlaw04.SumTurned", spec := "sumTurned", apart := false, narrowed := true }
def SumTurnedUptoSaid : Prop := sumTurnedUptoRow.holds Try.pinned (OpenSpec.upto sumTurnedSpec)

end Rows
end Go.Proofs.Ytacafjapnppacaa
