/-
  No cell of these rows narrows 'for every input' (looked for: loops, veiled, ifaces, maps, wideKeys, modest, calm, conditions, laid).
  DERIVED. THE GIVEN ROWS OF THIS SEAT. 6 by the template 'for every input the law returns true; each argument reads behind the call as it read before'; 0 by the template 'total and deterministic' (their statements: YtcgeccpookgoeaaTotals.lean).
  GIVEN WITH THE SEED: the statements are not yours to turn. If you find one false, say at which input.
  Laid BY PROGRAM, IN A SANDBOX (cutbox-rows.mjs): the forced cells as the released guide's own fill.sh prints them over the translation 81b6afc322475368… (all of the seat's roots in one cut). By AI agents, Wed Nov 11 2026. No macro, syntax, notation, axiom, sorry.
-/
import Derived.Test.YtcgeccpookgoeaaChecked
import GoSem.Claim
import GoSem.ClaimJoined
import GoSem.ClaimMapViews
import Derived.JoinedTies
import Derived.KernelRfl
namespace Go.Proofs.Ytcgeccpookgoeaa
/- THE CELL 'sum', in the pinned program and in every row, IS THE sha256 OF THE DUMP (.gsa) THAT YtcgeccpookgoeaaProg.lean LOADS. Nothing in Lean hashes anything: it is a label: what it is worth is what the hold of that sum in a sandbox is worth. -/
noncomputable def Try.pinned : Pinned := { name := "ytcgeccpookgoeaa", sum := "81b6afc322475368b06d3aad4f54d88b3772fedbada2054582911543aedeb648", checked := Try.checked }
namespace Rows
def none {H : Type} : Left H := { results := [], args := [] }

/-- 'terrierlaw12.SeenScript': WHATEVER THE INPUT: true; the input reads as it did. -/
def seenScriptSpec : ChangeSpec := { name := "seenScript", fn := fun _ => fun
  | [d1, d2] => { results := [.lit (.bool true)], args := [d1, d2] }
  | _ => none }
def seenScriptRow : OpenClaim := { program := "ytcgeccpookgoeaa", sum := "81b6afc322475368b06d3aad4f54d88b3772fedbada2054582911543aedeb648", func := "terrier/terrierlaw12.SeenScript", spec := "seenScript", unfollowed := true, recurses := true, apart := false }
def SeenScriptSaid : Prop := seenScriptRow.holds Try.pinned (OpenSpec.ofChange seenScriptSpec)

/-- ITS FALSE NEIGHBOUR: 'it returns false'. Refute it at one input. -/
def seenScriptWrong : ChangeSpec := { name := "seenScript", fn := fun _ => fun
  | [d1, d2] => { results := [.lit (.bool false)], args := [d1, d2] }
  | _ => none }
def SeenScriptWrongFalsely : Prop := seenScriptRow.holds Try.pinned (OpenSpec.ofChange seenScriptWrong)

/-- 'terrierlaw12.SeenKeep': WHATEVER THE INPUT: true; the input reads as it did. -/
def seenKeepSpec : ChangeSpec := { name := "seenKeep", fn := fun _ => fun
  | [d1, d2] => { results := [.lit (.bool true)], args := [d1, d2] }
  | _ => none }
def seenKeepRow : OpenClaim := { program := "ytcgeccpookgoeaa", sum := "81b6afc322475368b06d3aad4f54d88b3772fedbada2054582911543aedeb648", func := "terrier/terrierlaw12.SeenKeep", spec := "seenKeep", unfollowed := true, recurses := true, apart := false }
def SeenKeepSaid : Prop := seenKeepRow.holds Try.pinned (OpenSpec.ofChange seenKeepSpec)

/-- ITS FALSE NEIGHBOUR: 'it returns false'. Refute it at one input. -/
def seenKeepWrong : ChangeSpec := { name := "seenKeep", fn := fun _ => fun
  | [d1, d2] => { results := [.lit (.bool false)], args := [d1, d2] }
  | _ => none }
def SeenKeepWrongFalsely : Prop := seenKeepRow.holds Try.pinned (OpenSpec.ofChange seenKeepWrong)

/-- 'terrierlaw12.SeenRight': WHATEVER THE INPUT: true; the input reads as it did. -/
def seenRightSpec : ChangeSpec := { name := "seenRight", fn := fun _ => fun
  | [d1, d2, d3, d4] => { results := [.lit (.bool true)], args := [d1, d2, d3, d4] }
  | _ => none }
def seenRightRow : OpenClaim := { program := "ytcgeccpookgoeaa", sum := "81b6afc322475368b06d3aad4f54d88b3772fedbada2054582911543aedeb648", func := "terrier/terrierlaw12.SeenRight", spec := "seenRight", unfollowed := true, recurses := true, apart := false }
def SeenRightSaid : Prop := seenRightRow.holds Try.pinned (OpenSpec.ofChange seenRightSpec)

/-- ITS FALSE NEIGHBOUR: 'it returns false'. Refute it at one input. -/
def seenRightWrong : ChangeSpec := { name := "seenRight", fn := fun _ => fun
  | [d1, d2, d3, d4] => { results := [.lit (.bool false)], args := [d1, d2, d3, d4] }
  | _ => none }
def SeenRightWrongFalsely : Prop := seenRightRow.holds Try.pinned (OpenSpec.ofChange seenRightWrong)

/-- 'terrierlaw12.SeenApart': WHATEVER THE INPUT: true; the input reads as it did. -/
def seenApartSpec : ChangeSpec := { name := "seenApart", fn := fun _ => fun
  | [d1, d2] => { results := [.lit (.bool true)], args := [d1, d2] }
  | _ => none }
def seenApartRow : OpenClaim := { program := "ytcgeccpookgoeaa", sum := "81b6afc322475368b06d3aad4f54d88b3772fedbada2054582911543aedeb648", func := "terrier/terrierlaw12.SeenApart", spec := "seenApart", unfollowed := true, recurses := true, apart := false }
def SeenApartSaid : Prop := seenApartRow.holds Try.pinned (OpenSpec.ofChange seenApartSpec)

/-- ITS FALSE NEIGHBOUR: 'it returns false'. Refute it at one input. -/
def seenApartWrong : ChangeSpec := { name := "seenApart", fn := fun _ => fun
  | [d1, d2] => { results := [.lit (.bool false)], args := [d1, d2] }
  | _ => none }
def SeenApartWrongFalsely : Prop := seenApartRow.holds Try.pinned (OpenSpec.ofChange seenApartWrong)

/-- 'terrierlaw12.SeenNew': WHATEVER THE INPUT: true; the input reads as it did. -/
def seenNewSpec : ChangeSpec := { name := "seenNew", fn := fun _ => fun
  | [d1, d2] => { results := [.lit (.bool true)], args := [d1, d2] }
  | _ => none }
def seenNewRow : OpenClaim := { program := "ytcgeccpookgoeaa", sum := "81b6afc322475368b06d3aad4f54d88b3772fedbada2054582911543aedeb648", func := "terrier/terrierlaw12.SeenNew", spec := "seenNew", unfollowed := true, recurses := true, apart := false }
def SeenNewSaid : Prop := seenNewRow.holds Try.pinned (OpenSpec.ofChange seenNewSpec)

/-- ITS FALSE NEIGHBOUR: 'it returns false'. Refute it at one input. -/
def seenNewWrong : ChangeSpec := { name := "seenNew", fn := fun _ => fun
  | [d1, d2] => { results := [.lit (.bool false)], args := [d1, d2] }
  | _ => none }
def SeenNewWrongFalsely : Prop := seenNewRow.holds Try.pinned (OpenSpec.ofChange seenNewWrong)

/-- 'terrierlaw12.SeenForget': WHATEVER THE INPUT: true; the input reads as it did. -/
def seenForgetSpec : ChangeSpec := { name := "seenForget", fn := fun _ => fun
  | [d1, d2] => { results := [.lit (.bool true)], args := [d1, d2] }
  | _ => none }
def seenForgetRow : OpenClaim := { program := "ytcgeccpookgoeaa", sum := "81b6afc322475368b06d3aad4f54d88b3772fedbada2054582911543aedeb648", func := "terrier/terrierlaw12.SeenForget", spec := "seenForget", unfollowed := true, recurses := true, apart := false }
def SeenForgetSaid : Prop := seenForgetRow.holds Try.pinned (OpenSpec.ofChange seenForgetSpec)

/-- ITS FALSE NEIGHBOUR: 'it returns false'. Refute it at one input. -/
def seenForgetWrong : ChangeSpec := { name := "seenForget", fn := fun _ => fun
  | [d1, d2] => { results := [.lit (.bool false)], args := [d1, d2] }
  | _ => none }
def SeenForgetWrongFalsely : Prop := seenForgetRow.holds Try.pinned (OpenSpec.ofChange seenForgetWrong)

/- THE SECOND FORM. 'bulk': how many values and letters a reading holds, each counted each time it is reached (what is shared counts as often as it is met; a slice's spare places count too). A statement '..UptoSaid' is the law's where the arguments, and the package variables that the reading takes, are together of bulk at most 1048576: NARROWER than '..Said'. Prove '..Said' where nothing that the law and all that it calls make is longer than what came in: it says more and counts as full. Else prove '..UptoSaid'. A law counts once. -/
mutual
def uptoBulk {H : Type} : DataW H → Nat
  | .lit (.string bytes) => bytes.length + 1
  | .lit _ => 1
  | .nil => 1
  | .ptr d => uptoBulk d + 1
  | .slice elems spare => uptoBulkAll elems + uptoBulkAll spare + 1
  | .agg parts => uptoBulkAll parts + 1
  | .iface _ d => uptoBulk d + 1
  | .map entries => uptoBulkEntries entries + 1
  | .held _ => 1
def uptoBulkAll {H : Type} : List (DataW H) → Nat
  | [] => 0
  | d :: r => uptoBulk d + uptoBulkAll r
def uptoBulkEntries {H : Type} : List (Lit × DataW H) → Nat
  | [] => 0
  | x :: r => uptoBulkEntry x + uptoBulkEntries r
def uptoBulkEntry {H : Type} : Lit × DataW H → Nat
  | (.string bytes, d) => bytes.length + uptoBulk d + 1
  | (_, d) => uptoBulk d + 1
 end
def uptoSmall : (H : Type) → List (DataW H) → Bool := fun _ ds => decide (uptoBulkAll ds ≤ 1048576)
def OpenSpec.upto (s : _root_.Go.ChangeSpec) : _root_.Go.OpenSpec := { _root_.Go.OpenSpec.ofChange s with cond := some uptoSmall }

/-- 'terrierlaw12.SeenScript', WHERE WHAT IT READS IS OF BULK AT MOST 1048576: true; the input reads as it did. -/
def seenScriptUptoRow : OpenClaim := { program := "ytcgeccpookgoeaa", sum := "81b6afc322475368b06d3aad4f54d88b3772fedbada2054582911543aedeb648", func := "terrier/terrierlaw12.SeenScript", spec := "seenScript", unfollowed := true, recurses := true, apart := false, narrowed := true }
def SeenScriptUptoSaid : Prop := seenScriptUptoRow.holds Try.pinned (OpenSpec.upto seenScriptSpec)

/-- 'terrierlaw12.SeenKeep', WHERE WHAT IT READS IS OF BULK AT MOST 1048576: true; the input reads as it did. -/
def seenKeepUptoRow : OpenClaim := { program := "ytcgeccpookgoeaa", sum := "81b6afc322475368b06d3aad4f54d88b3772fedbada2054582911543aedeb648", func := "terrier/terrierlaw12.SeenKeep", spec := "seenKeep", unfollowed := true, recurses := true, apart := false, narrowed := true }
def SeenKeepUptoSaid : Prop := seenKeepUptoRow.holds Try.pinned (OpenSpec.upto seenKeepSpec)

/-- 'terrierlaw12.SeenRight', WHERE WHAT IT READS IS OF BULK AT MOST 1048576: true; the input reads as it did. -/
def seenRightUptoRow : OpenClaim := { program := "ytcgeccpookgoeaa", sum := "81b6afc322475368b06d3aad4f54d88b3772fedbada2054582911543aedeb648", func := "terrier/terrierlaw12.SeenRight", spec := "seenRight", unfollowed := true, recurses := true, apart := false, narrowed := true }
def SeenRightUptoSaid : Prop := seenRightUptoRow.holds Try.pinned (OpenSpec.upto seenRightSpec)

/-- 'terrierlaw12.SeenApart', WHERE WHAT IT READS IS OF BULK AT MOST 1048576: true; the input reads as it did. -/
def seenApartUptoRow : OpenClaim := { program := "ytcgeccpookgoeaa", sum := "81b6afc322475368b06d3aad4f54d88b3772fedbada2054582911543aedeb648", func := "terrier/terrierlaw12.SeenApart", spec := "seenApart", unfollowed := true, recurses := true, apart := false, narrowed := true }
def SeenApartUptoSaid : Prop := seenApartUptoRow.holds Try.pinned (OpenSpec.upto seenApartSpec)

/-- 'terrierlaw12.SeenNew', WHERE WHAT IT READS IS OF BULK AT MOST 1048576: true; the input reads as it did. -/
def seenNewUptoRow : OpenClaim := { program := "ytcgeccpookgoeaa", sum := "81b6afc322475368b06d3aad4f54d88b3772fedbada2054582911543aedeb648", func := "terrier/terrierlaw12.SeenNew", spec := "seenNew", unfollowed := true, recurses := true, apart := false, narrowed := true }
def SeenNewUptoSaid : Prop := seenNewUptoRow.holds Try.pinned (OpenSpec.upto seenNewSpec)

/-- 'terrierlaw12.SeenForget', WHERE WHAT IT READS IS OF BULK AT MOST 1048576: true; the input reads as it did. -/
def seenForgetUptoRow : OpenClaim := { program := "ytcgeccpookgoeaa", sum := "81b6afc322475368b06d3aad4f54d88b3772fedbada2054582911543aedeb648", func := "terrier/terrierlaw12.SeenForget", spec := "seenForget", unfollowed := true, recurses := true, apart := false, narrowed := true }
def SeenForgetUptoSaid : Prop := seenForgetUptoRow.holds Try.pinned (OpenSpec.upto seenForgetSpec)

end Rows
end Go.Proofs.Ytcgeccpookgoeaa
