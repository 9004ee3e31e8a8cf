/-
  No cell of these rows narrows 'for every input' (looked for: loops, veiled, ifaces, maps, wideKeys, modest, calm, conditions, laid).
  DERIVED. THE GIVEN ROWS OF THIS SEAT. 7 by the template 'for every input the law returns true; each argument reads behind the call as it read before'; 0 by the template 'total and deterministic' (their statements: YtmfpgddnapmgfaaTotals.lean).
  GIVEN WITH THE SEED: the statements are not yours to turn. If you find one false, say at which input.
  Laid BY PROGRAM, IN A SANDBOX (cutbox-rows.mjs): the forced cells as the released guide's own fill.sh prints them over the translation 32588ad5044bbd15… (all of the seat's roots in one cut). By AI agents, Wed Nov 11 2026. No macro, syntax, notation, axiom, sorry.
-/
import Derived.Test.YtmfpgddnapmgfaaChecked
import GoSem.Claim
import GoSem.ClaimJoined
import GoSem.ClaimMapViews
import Derived.JoinedTies
import Derived.KernelRfl
namespace Go.Proofs.Ytmfpgddnapmgfaa
/- THE CELL 'sum', in the pinned program and in every row, IS THE sha256 OF THE DUMP (.gsa) THAT YtmfpgddnapmgfaaProg.lean LOADS. Nothing in Lean hashes anything: it is a label: what it is worth is what the hold of that sum in a sandbox is worth. -/
noncomputable def Try.pinned : Pinned := { name := "ytmfpgddnapmgfaa", sum := "32588ad5044bbd15c8be49b7a26112691deca7e62896dc805e9b2e010681e4ef", checked := Try.checked }
namespace Rows
def none {H : Type} : Left H := { results := [], args := [] }

/-- 'terrierlaw05.DiskAgain': WHATEVER THE INPUT: true; the input reads as it did. -/
def diskAgainSpec : ChangeSpec := { name := "diskAgain", fn := fun _ => fun
  | [d1, d2, d3] => { results := [.lit (.bool true)], args := [d1, d2, d3] }
  | _ => none }
def diskAgainRow : OpenClaim := { program := "ytmfpgddnapmgfaa", sum := "32588ad5044bbd15c8be49b7a26112691deca7e62896dc805e9b2e010681e4ef", func := "terrier/terrierlaw05.DiskAgain", spec := "diskAgain", apart := false }
def DiskAgainSaid : Prop := diskAgainRow.holds Try.pinned (OpenSpec.ofChange diskAgainSpec)

/-- ITS FALSE NEIGHBOUR: 'it returns false'. Refute it at one input. -/
def diskAgainWrong : ChangeSpec := { name := "diskAgain", fn := fun _ => fun
  | [d1, d2, d3] => { results := [.lit (.bool false)], args := [d1, d2, d3] }
  | _ => none }
def DiskAgainWrongFalsely : Prop := diskAgainRow.holds Try.pinned (OpenSpec.ofChange diskAgainWrong)

/-- 'terrierlaw05.DiskSize': WHATEVER THE INPUT: true; the input reads as it did. -/
def diskSizeSpec : ChangeSpec := { name := "diskSize", fn := fun _ => fun
  | [d1, d2] => { results := [.lit (.bool true)], args := [d1, d2] }
  | _ => none }
def diskSizeRow : OpenClaim := { program := "ytmfpgddnapmgfaa", sum := "32588ad5044bbd15c8be49b7a26112691deca7e62896dc805e9b2e010681e4ef", func := "terrier/terrierlaw05.DiskSize", spec := "diskSize", apart := false }
def DiskSizeSaid : Prop := diskSizeRow.holds Try.pinned (OpenSpec.ofChange diskSizeSpec)

/-- ITS FALSE NEIGHBOUR: 'it returns false'. Refute it at one input. -/
def diskSizeWrong : ChangeSpec := { name := "diskSize", fn := fun _ => fun
  | [d1, d2] => { results := [.lit (.bool false)], args := [d1, d2] }
  | _ => none }
def DiskSizeWrongFalsely : Prop := diskSizeRow.holds Try.pinned (OpenSpec.ofChange diskSizeWrong)

/-- 'terrierlaw05.DiskTorn': WHATEVER THE INPUT: true; the input reads as it did. -/
def diskTornSpec : ChangeSpec := { name := "diskTorn", fn := fun _ => fun
  | [d1, d2, d3, d4] => { results := [.lit (.bool true)], args := [d1, d2, d3, d4] }
  | _ => none }
def diskTornRow : OpenClaim := { program := "ytmfpgddnapmgfaa", sum := "32588ad5044bbd15c8be49b7a26112691deca7e62896dc805e9b2e010681e4ef", func := "terrier/terrierlaw05.DiskTorn", spec := "diskTorn", apart := false }
def DiskTornSaid : Prop := diskTornRow.holds Try.pinned (OpenSpec.ofChange diskTornSpec)

/-- ITS FALSE NEIGHBOUR: 'it returns false'. Refute it at one input. -/
def diskTornWrong : ChangeSpec := { name := "diskTorn", fn := fun _ => fun
  | [d1, d2, d3, d4] => { results := [.lit (.bool false)], args := [d1, d2, d3, d4] }
  | _ => none }
def DiskTornWrongFalsely : Prop := diskTornRow.holds Try.pinned (OpenSpec.ofChange diskTornWrong)

/-- 'terrierlaw05.DiskKept': WHATEVER THE INPUT: true; the input reads as it did. -/
def diskKeptSpec : ChangeSpec := { name := "diskKept", fn := fun _ => fun
  | [d1, d2, d3, d4, d5] => { results := [.lit (.bool true)], args := [d1, d2, d3, d4, d5] }
  | _ => none }
def diskKeptRow : OpenClaim := { program := "ytmfpgddnapmgfaa", sum := "32588ad5044bbd15c8be49b7a26112691deca7e62896dc805e9b2e010681e4ef", func := "terrier/terrierlaw05.DiskKept", spec := "diskKept", apart := false }
def DiskKeptSaid : Prop := diskKeptRow.holds Try.pinned (OpenSpec.ofChange diskKeptSpec)

/-- ITS FALSE NEIGHBOUR: 'it returns false'. Refute it at one input. -/
def diskKeptWrong : ChangeSpec := { name := "diskKept", fn := fun _ => fun
  | [d1, d2, d3, d4, d5] => { results := [.lit (.bool false)], args := [d1, d2, d3, d4, d5] }
  | _ => none }
def DiskKeptWrongFalsely : Prop := diskKeptRow.holds Try.pinned (OpenSpec.ofChange diskKeptWrong)

/-- 'terrierlaw05.DiskStops': WHATEVER THE INPUT: true; the input reads as it did. -/
def diskStopsSpec : ChangeSpec := { name := "diskStops", fn := fun _ => fun
  | [d1, d2] => { results := [.lit (.bool true)], args := [d1, d2] }
  | _ => none }
def diskStopsRow : OpenClaim := { program := "ytmfpgddnapmgfaa", sum := "32588ad5044bbd15c8be49b7a26112691deca7e62896dc805e9b2e010681e4ef", func := "terrier/terrierlaw05.DiskStops", spec := "diskStops", apart := false }
def DiskStopsSaid : Prop := diskStopsRow.holds Try.pinned (OpenSpec.ofChange diskStopsSpec)

/-- ITS FALSE NEIGHBOUR: 'it returns false'. Refute it at one input. -/
def diskStopsWrong : ChangeSpec := { name := "diskStops", fn := fun _ => fun
  | [d1, d2] => { results := [.lit (.bool false)], args := [d1, d2] }
  | _ => none }
def DiskStopsWrongFalsely : Prop := diskStopsRow.holds Try.pinned (OpenSpec.ofChange diskStopsWrong)

/-- 'terrierlaw05.DiskFails': WHATEVER THE INPUT: true; the input reads as it did. -/
def diskFailsSpec : ChangeSpec := { name := "diskFails", fn := fun _ => fun
  | [d1, d2] => { results := [.lit (.bool true)], args := [d1, d2] }
  | _ => none }
def diskFailsRow : OpenClaim := { program := "ytmfpgddnapmgfaa", sum := "32588ad5044bbd15c8be49b7a26112691deca7e62896dc805e9b2e010681e4ef", func := "terrier/terrierlaw05.DiskFails", spec := "diskFails", apart := false }
def DiskFailsSaid : Prop := diskFailsRow.holds Try.pinned (OpenSpec.ofChange diskFailsSpec)

/-- ITS FALSE NEIGHBOUR: 'it returns false'. Refute it at one input. -/
def diskFailsWrong : ChangeSpec := { name := "diskFails", fn := fun _ => fun
  | [d1, d2] => { results := [.lit (.bool false)], args := [d1, d2] }
  | _ => none }
def DiskFailsWrongFalsely : Prop := diskFailsRow.holds Try.pinned (OpenSpec.ofChange diskFailsWrong)

/-- 'terrierlaw05.DiskScript': WHATEVER THE INPUT: true; the input reads as it did. -/
def diskScriptSpec : ChangeSpec := { name := "diskScript", fn := fun _ => fun
  | [d1, d2] => { results := [.lit (.bool true)], args := [d1, d2] }
  | _ => none }
def diskScriptRow : OpenClaim := { program := "ytmfpgddnapmgfaa", sum := "32588ad5044bbd15c8be49b7a26112691deca7e62896dc805e9b2e010681e4ef", func := "terrier/terrierlaw05.DiskScript", spec := "diskScript", unfollowed := true, recurses := true, apart := false }
def DiskScriptSaid : Prop := diskScriptRow.holds Try.pinned (OpenSpec.ofChange diskScriptSpec)

/-- ITS FALSE NEIGHBOUR: 'it returns false'. Refute it at one input. -/
def diskScriptWrong : ChangeSpec := { name := "diskScript", fn := fun _ => fun
  | [d1, d2] => { results := [.lit (.bool false)], args := [d1, d2] }
  | _ => none }
def DiskScriptWrongFalsely : Prop := diskScriptRow.holds Try.pinned (OpenSpec.ofChange diskScriptWrong)

/- THE SECOND FORM. 'bulk': how many values and letters a reading holds, each counted each time it is reached (what is shared counts as often as it is met; a slice's spare places count too). A statement '..UptoSaid' is the law's where the arguments, and the package variables that the reading takes, are together of bulk at most 1048576: NARROWER than '..Said'. Prove '..Said' where nothing that the law and all that it calls make is longer than what came in: it says more and counts as full. Else prove '..UptoSaid'. A law counts once. -/
mutual
def uptoBulk {H : Type} : DataW H → Nat
  | .lit (.string bytes) => bytes.length + 1
  | .lit _ => 1
  | .nil => 1
  | .ptr d => uptoBulk d + 1
  | .slice elems spare => uptoBulkAll elems + uptoBulkAll spare + 1
  | .agg parts => uptoBulkAll parts + 1
  | .iface _ d => uptoBulk d + 1
  | .map entries => uptoBulkEntries entries + 1
  | .held _ => 1
def uptoBulkAll {H : Type} : List (DataW H) → Nat
  | [] => 0
  | d :: r => uptoBulk d + uptoBulkAll r
def uptoBulkEntries {H : Type} : List (Lit × DataW H) → Nat
  | [] => 0
  | x :: r => uptoBulkEntry x + uptoBulkEntries r
def uptoBulkEntry {H : Type} : Lit × DataW H → Nat
  | (.string bytes, d) => bytes.length + uptoBulk d + 1
  | (_, d) => uptoBulk d + 1
 end
def uptoSmall : (H : Type) → List (DataW H) → Bool := fun _ ds => decide (uptoBulkAll ds ≤ 1048576)
def OpenSpec.upto (s : _root_.Go.ChangeSpec) : _root_.Go.OpenSpec := { _root_.Go.OpenSpec.ofChange s with cond := some uptoSmall }

/-- 'terrierlaw05.DiskAgain', WHERE WHAT IT READS IS OF BULK AT MOST 1048576: true; the input reads as it did. -/
def diskAgainUptoRow : OpenClaim := { program := "ytmfpgddnapmgfaa", sum := "32588ad5044bbd15c8be49b7a26112691deca7e62896dc805e9b2e010681e4ef", func := "terrier/terrierlaw05.DiskAgain", spec := "diskAgain", apart := false, narrowed := true }
def DiskAgainUptoSaid : Prop := diskAgainUptoRow.holds Try.pinned (OpenSpec.upto diskAgainSpec)

/-- 'terrierlaw05.DiskSize', WHERE WHAT IT READS IS OF BULK AT MOST 1048576: true; the input reads as it did. -/
def diskSizeUptoRow : OpenClaim := { program := "ytmfpgddnapmgfaa", sum := "32588ad5044bbd15c8be49b7a26112691deca7e62896dc805e9b2e010681e4ef", func := "terrier/terrierlaw05.DiskSize", spec := "diskSize", apart := false, narrowed := true }
def DiskSizeUptoSaid : Prop := diskSizeUptoRow.holds Try.pinned (OpenSpec.upto diskSizeSpec)

/-- 'terrierlaw05.DiskTorn', WHERE WHAT IT READS IS OF BULK AT MOST 1048576: true; the input reads as it did. -/
def diskTornUptoRow : OpenClaim := { program := "ytmfpgddnapmgfaa", sum := "32588ad5044bbd15c8be49b7a26112691deca7e62896dc805e9b2e010681e4ef", func := "terrier/terrierlaw05.DiskTorn", spec := "diskTorn", apart := false, narrowed := true }
def DiskTornUptoSaid : Prop := diskTornUptoRow.holds Try.pinned (OpenSpec.upto diskTornSpec)

/-- 'terrierlaw05.DiskKept', WHERE WHAT IT READS IS OF BULK AT MOST 1048576: true; the input reads as it did. -/
def diskKeptUptoRow : OpenClaim := { program := "ytmfpgddnapmgfaa", sum := "32588ad5044bbd15c8be49b7a26112691deca7e62896dc805e9b2e010681e4ef", func := "terrier/terrierlaw05.DiskKept", spec := "diskKept", apart := false, narrowed := true }
def DiskKeptUptoSaid : Prop := diskKeptUptoRow.holds Try.pinned (OpenSpec.upto diskKeptSpec)

/-- 'terrierlaw05.DiskStops', WHERE WHAT IT READS IS OF BULK AT MOST 1048576: true; the input reads as it did. -/
def diskStopsUptoRow : OpenClaim := { program := "ytmfpgddnapmgfaa", sum := "32588ad5044bbd15c8be49b7a26112691deca7e62896dc805e9b2e010681e4ef", func := "terrier/terrierlaw05.DiskStops", spec := "diskStops", apart := false, narrowed := true }
def DiskStopsUptoSaid : Prop := diskStopsUptoRow.holds Try.pinned (OpenSpec.upto diskStopsSpec)

/-- 'terrierlaw05.DiskFails', WHERE WHAT IT READS IS OF BULK AT MOST 1048576: true; the input reads as it did. -/
def diskFailsUptoRow : OpenClaim := { program := "ytmfpgddnapmgfaa", sum := "32588ad5044bbd15c8be49b7a26112691deca7e62896dc805e9b2e010681e4ef", func := "terrier/terrierlaw05.DiskFails", spec := "diskFails", apart := false, narrowed := true }
def DiskFailsUptoSaid : Prop := diskFailsUptoRow.holds Try.pinned (OpenSpec.upto diskFailsSpec)

/-- 'terrierlaw05.DiskScript', WHERE WHAT IT READS IS OF BULK AT MOST 1048576: true; the input reads as it did. -/
def diskScriptUptoRow : OpenClaim := { program := "ytmfpgddnapmgfaa", sum := "32588ad5044bbd15c8be49b7a26112691deca7e62896dc805e9b2e010681e4ef", func := "terrier/terrierlaw05.DiskScript", spec := "diskScript", unfollowed := true, recurses := true, apart := false, narrowed := true }
def DiskScriptUptoSaid : Prop := diskScriptUptoRow.holds Try.pinned (OpenSpec.upto diskScriptSpec)

end Rows
end Go.Proofs.Ytmfpgddnapmgfaa
