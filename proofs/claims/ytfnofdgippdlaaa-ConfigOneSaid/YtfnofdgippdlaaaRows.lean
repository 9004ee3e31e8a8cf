/-
  No cell of these rows narrows 'for every input' (looked for: loops, veiled, ifaces, maps, wideKeys, modest, calm, conditions, laid).
  DERIVED. THE GIVEN ROWS OF THIS SEAT. 10 by the template 'for every input the law returns true; each argument reads behind the call as it read before'; 0 by the template 'total and deterministic' (their statements: YtfnofdgippdlaaaTotals.lean).
  GIVEN WITH THE SEED: the statements are not yours to turn. If you find one false, say at which input.
  Laid BY PROGRAM, IN A SANDBOX (cutbox-rows.mjs): the forced cells as the released guide's own fill.sh prints them over the translation f619a7dde2b5612f… (all of the seat's roots in one cut). By AI agents, Wed Nov 11 2026. No macro, syntax, notation, axiom, sorry.
-/
import Derived.Test.YtfnofdgippdlaaaChecked
import GoSem.Claim
import GoSem.ClaimJoined
import GoSem.ClaimMapViews
import Derived.JoinedTies
import Derived.KernelRfl
namespace Go.Proofs.Ytfnofdgippdlaaa
/- THE CELL 'sum', in the pinned program and in every row, IS THE sha256 OF THE DUMP (.gsa) THAT YtfnofdgippdlaaaProg.lean LOADS. Nothing in Lean hashes anything: it is a label: what it is worth is what the hold of that sum in a sandbox is worth. -/
noncomputable def Try.pinned : Pinned := { name := "ytfnofdgippdlaaa", sum := "f619a7dde2b5612fe5018dcbfe6fc73bb261ac0822ffbf1c2ad9fb4bf1987c90", checked := Try.checked }
namespace Rows
def none {H : Type} : Left H := { results := [], args := [] }

/-- 'terrierlaw03.ClockSince': WHATEVER THE INPUT: true; the input reads as it did. -/
def clockSinceSpec : ChangeSpec := { name := "clockSince", fn := fun _ => fun
  | [d1, d2, d3] => { results := [.lit (.bool true)], args := [d1, d2, d3] }
  | _ => none }
def clockSinceRow : OpenClaim := { program := "ytfnofdgippdlaaa", sum := "f619a7dde2b5612fe5018dcbfe6fc73bb261ac0822ffbf1c2ad9fb4bf1987c90", func := "terrier/terrierlaw03.ClockSince", spec := "clockSince", apart := false }
def ClockSinceSaid : Prop := clockSinceRow.holds Try.pinned (OpenSpec.ofChange clockSinceSpec)

/-- ITS FALSE NEIGHBOUR: 'it returns false'. Refute it at one input. -/
def clockSinceWrong : ChangeSpec := { name := "clockSince", fn := fun _ => fun
  | [d1, d2, d3] => { results := [.lit (.bool false)], args := [d1, d2, d3] }
  | _ => none }
def ClockSinceWrongFalsely : Prop := clockSinceRow.holds Try.pinned (OpenSpec.ofChange clockSinceWrong)

/-- 'terrierlaw03.ClockGoes': WHATEVER THE INPUT: true; the input reads as it did. -/
def clockGoesSpec : ChangeSpec := { name := "clockGoes", fn := fun _ => fun
  | [d1, d2, d3] => { results := [.lit (.bool true)], args := [d1, d2, d3] }
  | _ => none }
def clockGoesRow : OpenClaim := { program := "ytfnofdgippdlaaa", sum := "f619a7dde2b5612fe5018dcbfe6fc73bb261ac0822ffbf1c2ad9fb4bf1987c90", func := "terrier/terrierlaw03.ClockGoes", spec := "clockGoes", apart := false }
def ClockGoesSaid : Prop := clockGoesRow.holds Try.pinned (OpenSpec.ofChange clockGoesSpec)

/-- ITS FALSE NEIGHBOUR: 'it returns false'. Refute it at one input. -/
def clockGoesWrong : ChangeSpec := { name := "clockGoes", fn := fun _ => fun
  | [d1, d2, d3] => { results := [.lit (.bool false)], args := [d1, d2, d3] }
  | _ => none }
def ClockGoesWrongFalsely : Prop := clockGoesRow.holds Try.pinned (OpenSpec.ofChange clockGoesWrong)

/-- 'terrierlaw03.ClockStands': WHATEVER THE INPUT: true; the input reads as it did. -/
def clockStandsSpec : ChangeSpec := { name := "clockStands", fn := fun _ => fun
  | [d1, d2, d3] => { results := [.lit (.bool true)], args := [d1, d2, d3] }
  | _ => none }
def clockStandsRow : OpenClaim := { program := "ytfnofdgippdlaaa", sum := "f619a7dde2b5612fe5018dcbfe6fc73bb261ac0822ffbf1c2ad9fb4bf1987c90", func := "terrier/terrierlaw03.ClockStands", spec := "clockStands", apart := false }
def ClockStandsSaid : Prop := clockStandsRow.holds Try.pinned (OpenSpec.ofChange clockStandsSpec)

/-- ITS FALSE NEIGHBOUR: 'it returns false'. Refute it at one input. -/
def clockStandsWrong : ChangeSpec := { name := "clockStands", fn := fun _ => fun
  | [d1, d2, d3] => { results := [.lit (.bool false)], args := [d1, d2, d3] }
  | _ => none }
def ClockStandsWrongFalsely : Prop := clockStandsRow.holds Try.pinned (OpenSpec.ofChange clockStandsWrong)

/-- 'terrierlaw03.ClockOld': WHATEVER THE INPUT: true; the input reads as it did. -/
def clockOldSpec : ChangeSpec := { name := "clockOld", fn := fun _ => fun
  | [d1, d2, d3, d4] => { results := [.lit (.bool true)], args := [d1, d2, d3, d4] }
  | _ => none }
def clockOldRow : OpenClaim := { program := "ytfnofdgippdlaaa", sum := "f619a7dde2b5612fe5018dcbfe6fc73bb261ac0822ffbf1c2ad9fb4bf1987c90", func := "terrier/terrierlaw03.ClockOld", spec := "clockOld", apart := false }
def ClockOldSaid : Prop := clockOldRow.holds Try.pinned (OpenSpec.ofChange clockOldSpec)

/-- ITS FALSE NEIGHBOUR: 'it returns false'. Refute it at one input. -/
def clockOldWrong : ChangeSpec := { name := "clockOld", fn := fun _ => fun
  | [d1, d2, d3, d4] => { results := [.lit (.bool false)], args := [d1, d2, d3, d4] }
  | _ => none }
def ClockOldWrongFalsely : Prop := clockOldRow.holds Try.pinned (OpenSpec.ofChange clockOldWrong)

/-- 'terrierlaw03.ClockOrder': WHATEVER THE INPUT: true; the input reads as it did. -/
def clockOrderSpec : ChangeSpec := { name := "clockOrder", fn := fun _ => fun
  | [d1, d2, d3] => { results := [.lit (.bool true)], args := [d1, d2, d3] }
  | _ => none }
def clockOrderRow : OpenClaim := { program := "ytfnofdgippdlaaa", sum := "f619a7dde2b5612fe5018dcbfe6fc73bb261ac0822ffbf1c2ad9fb4bf1987c90", func := "terrier/terrierlaw03.ClockOrder", spec := "clockOrder", apart := false }
def ClockOrderSaid : Prop := clockOrderRow.holds Try.pinned (OpenSpec.ofChange clockOrderSpec)

/-- ITS FALSE NEIGHBOUR: 'it returns false'. Refute it at one input. -/
def clockOrderWrong : ChangeSpec := { name := "clockOrder", fn := fun _ => fun
  | [d1, d2, d3] => { results := [.lit (.bool false)], args := [d1, d2, d3] }
  | _ => none }
def ClockOrderWrongFalsely : Prop := clockOrderRow.holds Try.pinned (OpenSpec.ofChange clockOrderWrong)

/-- 'terrierlaw03.ClockAdd': WHATEVER THE INPUT: true; the input reads as it did. -/
def clockAddSpec : ChangeSpec := { name := "clockAdd", fn := fun _ => fun
  | [d1, d2] => { results := [.lit (.bool true)], args := [d1, d2] }
  | _ => none }
def clockAddRow : OpenClaim := { program := "ytfnofdgippdlaaa", sum := "f619a7dde2b5612fe5018dcbfe6fc73bb261ac0822ffbf1c2ad9fb4bf1987c90", func := "terrier/terrierlaw03.ClockAdd", spec := "clockAdd", apart := false }
def ClockAddSaid : Prop := clockAddRow.holds Try.pinned (OpenSpec.ofChange clockAddSpec)

/-- ITS FALSE NEIGHBOUR: 'it returns false'. Refute it at one input. -/
def clockAddWrong : ChangeSpec := { name := "clockAdd", fn := fun _ => fun
  | [d1, d2] => { results := [.lit (.bool false)], args := [d1, d2] }
  | _ => none }
def ClockAddWrongFalsely : Prop := clockAddRow.holds Try.pinned (OpenSpec.ofChange clockAddWrong)

/-- 'terrierlaw10.ConfigRight': WHATEVER THE INPUT: true; the input reads as it did. -/
def configRightSpec : ChangeSpec := { name := "configRight", fn := fun _ => fun
  | [d1, d2] => { results := [.lit (.bool true)], args := [d1, d2] }
  | _ => none }
def configRightRow : OpenClaim := { program := "ytfnofdgippdlaaa", sum := "f619a7dde2b5612fe5018dcbfe6fc73bb261ac0822ffbf1c2ad9fb4bf1987c90", func := "terrier/terrierlaw10.ConfigRight", spec := "configRight", unfollowed := true, recurses := true, apart := false }
def ConfigRightSaid : Prop := configRightRow.holds Try.pinned (OpenSpec.ofChange configRightSpec)

/-- ITS FALSE NEIGHBOUR: 'it returns false'. Refute it at one input. -/
def configRightWrong : ChangeSpec := { name := "configRight", fn := fun _ => fun
  | [d1, d2] => { results := [.lit (.bool false)], args := [d1, d2] }
  | _ => none }
def ConfigRightWrongFalsely : Prop := configRightRow.holds Try.pinned (OpenSpec.ofChange configRightWrong)

/-- 'terrierlaw10.ConfigFit': WHATEVER THE INPUT: true; the input reads as it did. -/
def configFitSpec : ChangeSpec := { name := "configFit", fn := fun _ => fun
  | [d1, d2] => { results := [.lit (.bool true)], args := [d1, d2] }
  | _ => none }
def configFitRow : OpenClaim := { program := "ytfnofdgippdlaaa", sum := "f619a7dde2b5612fe5018dcbfe6fc73bb261ac0822ffbf1c2ad9fb4bf1987c90", func := "terrier/terrierlaw10.ConfigFit", spec := "configFit", unfollowed := true, recurses := true, apart := false }
def ConfigFitSaid : Prop := configFitRow.holds Try.pinned (OpenSpec.ofChange configFitSpec)

/-- ITS FALSE NEIGHBOUR: 'it returns false'. Refute it at one input. -/
def configFitWrong : ChangeSpec := { name := "configFit", fn := fun _ => fun
  | [d1, d2] => { results := [.lit (.bool false)], args := [d1, d2] }
  | _ => none }
def ConfigFitWrongFalsely : Prop := configFitRow.holds Try.pinned (OpenSpec.ofChange configFitWrong)

/-- 'terrierlaw10.ConfigOne': WHATEVER THE INPUT: true; the input reads as it did. -/
def configOneSpec : ChangeSpec := { name := "configOne", fn := fun _ => fun
  | [d1, d2, d3] => { results := [.lit (.bool true)], args := [d1, d2, d3] }
  | _ => none }
def configOneRow : OpenClaim := { program := "ytfnofdgippdlaaa", sum := "f619a7dde2b5612fe5018dcbfe6fc73bb261ac0822ffbf1c2ad9fb4bf1987c90", func := "terrier/terrierlaw10.ConfigOne", spec := "configOne", unfollowed := true, recurses := true, apart := false }
def ConfigOneSaid : Prop := configOneRow.holds Try.pinned (OpenSpec.ofChange configOneSpec)

/-- ITS FALSE NEIGHBOUR: 'it returns false'. Refute it at one input. -/
def configOneWrong : ChangeSpec := { name := "configOne", fn := fun _ => fun
  | [d1, d2, d3] => { results := [.lit (.bool false)], args := [d1, d2, d3] }
  | _ => none }
def ConfigOneWrongFalsely : Prop := configOneRow.holds Try.pinned (OpenSpec.ofChange configOneWrong)

/-- 'terrierlaw10.ConfigWider': WHATEVER THE INPUT: true; the input reads as it did. -/
def configWiderSpec : ChangeSpec := { name := "configWider", fn := fun _ => fun
  | [d1, d2] => { results := [.lit (.bool true)], args := [d1, d2] }
  | _ => none }
def configWiderRow : OpenClaim := { program := "ytfnofdgippdlaaa", sum := "f619a7dde2b5612fe5018dcbfe6fc73bb261ac0822ffbf1c2ad9fb4bf1987c90", func := "terrier/terrierlaw10.ConfigWider", spec := "configWider", unfollowed := true, recurses := true, apart := false }
def ConfigWiderSaid : Prop := configWiderRow.holds Try.pinned (OpenSpec.ofChange configWiderSpec)

/-- ITS FALSE NEIGHBOUR: 'it returns false'. Refute it at one input. -/
def configWiderWrong : ChangeSpec := { name := "configWider", fn := fun _ => fun
  | [d1, d2] => { results := [.lit (.bool false)], args := [d1, d2] }
  | _ => none }
def ConfigWiderWrongFalsely : Prop := configWiderRow.holds Try.pinned (OpenSpec.ofChange configWiderWrong)

/- THE SECOND FORM. 'bulk': how many values and letters a reading holds, each counted each time it is reached (what is shared counts as often as it is met; a slice's spare places count too). A statement '..UptoSaid' is the law's where the arguments, and the package variables that the reading takes, are together of bulk at most 1048576: NARROWER than '..Said'. Prove '..Said' where nothing that the law and all that it calls make is longer than what came in: it says more and counts as full. Else prove '..UptoSaid'. A law counts once. -/
mutual
def uptoBulk {H : Type} : DataW H → Nat
  | .lit (.string bytes) => bytes.length + 1
  | .lit _ => 1
  | .nil => 1
  | .ptr d => uptoBulk d + 1
  | .slice elems spare => uptoBulkAll elems + uptoBulkAll spare + 1
  | .agg parts => uptoBulkAll parts + 1
  | .iface _ d => uptoBulk d + 1
  | .map entries => uptoBulkEntries entries + 1
  | .held _ => 1
def uptoBulkAll {H : Type} : List (DataW H) → Nat
  | [] => 0
  | d :: r => uptoBulk d + uptoBulkAll r
def uptoBulkEntries {H : Type} : List (Lit × DataW H) → Nat
  | [] => 0
  | x :: r => uptoBulkEntry x + uptoBulkEntries r
def uptoBulkEntry {H : Type} : Lit × DataW H → Nat
  | (.string bytes, d) => bytes.length + uptoBulk d + 1
  | (_, d) => uptoBulk d + 1
 end
def uptoSmall : (H : Type) → List (DataW H) → Bool := fun _ ds => decide (uptoBulkAll ds ≤ 1048576)
def OpenSpec.upto (s : _root_.Go.ChangeSpec) : _root_.Go.OpenSpec := { _root_.Go.OpenSpec.ofChange s with cond := some uptoSmall }

/-- 'terrierlaw03.ClockSince', WHERE WHAT IT READS IS OF BULK AT MOST 1048576: true; the input reads as it did. -/
def clockSinceUptoRow : OpenClaim := { program := "ytfnofdgippdlaaa", sum := "f619a7dde2b5612fe5018dcbfe6fc73bb261ac0822ffbf1c2ad9fb4bf1987c90", func := "terrier/terrierlaw03.ClockSince", spec := "clockSince", apart := false, narrowed := true }
def ClockSinceUptoSaid : Prop := clockSinceUptoRow.holds Try.pinned (OpenSpec.upto clockSinceSpec)

/-- 'terrierlaw03.ClockGoes', WHERE WHAT IT READS IS OF BULK AT MOST 1048576: true; the input reads as it did. -/
def clockGoesUptoRow : OpenClaim := { program := "ytfnofdgippdlaaa", sum := "f619a7dde2b5612fe5018dcbfe6fc73bb261ac0822ffbf1c2ad9fb4bf1987c90", func := "terrier/terrierlaw03.ClockGoes", spec := "clockGoes", apart := false, narrowed := true }
def ClockGoesUptoSaid : Prop := clockGoesUptoRow.holds Try.pinned (OpenSpec.upto clockGoesSpec)

/-- 'terrierlaw03.ClockStands', WHERE WHAT IT READS IS OF BULK AT MOST 1048576: true; the input reads as it did. -/
def clockStandsUptoRow : OpenClaim := { program := "ytfnofdgippdlaaa", sum := "f619a7dde2b5612fe5018dcbfe6fc73bb261ac0822ffbf1c2ad9fb4bf1987c90", func := "terrier/terrierlaw03.ClockStands", spec := "clockStands", apart := false, narrowed := true }
def ClockStandsUptoSaid : Prop := clockStandsUptoRow.holds Try.pinned (OpenSpec.upto clockStandsSpec)

/-- 'terrierlaw03.ClockOld', WHERE WHAT IT READS IS OF BULK AT MOST 1048576: true; the input reads as it did. -/
def clockOldUptoRow : OpenClaim := { program := "ytfnofdgippdlaaa", sum := "f619a7dde2b5612fe5018dcbfe6fc73bb261ac0822ffbf1c2ad9fb4bf1987c90", func := "terrier/terrierlaw03.ClockOld", spec := "clockOld", apart := false, narrowed := true }
def ClockOldUptoSaid : Prop := clockOldUptoRow.holds Try.pinned (OpenSpec.upto clockOldSpec)

/-- 'terrierlaw03.ClockOrder', WHERE WHAT IT READS IS OF BULK AT MOST 1048576: true; the input reads as it did. -/
def clockOrderUptoRow : OpenClaim := { program := "ytfnofdgippdlaaa", sum := "f619a7dde2b5612fe5018dcbfe6fc73bb261ac0822ffbf1c2ad9fb4bf1987c90", func := "terrier/terrierlaw03.ClockOrder", spec := "clockOrder", apart := false, narrowed := true }
def ClockOrderUptoSaid : Prop := clockOrderUptoRow.holds Try.pinned (OpenSpec.upto clockOrderSpec)

/-- 'terrierlaw03.ClockAdd', WHERE WHAT IT READS IS OF BULK AT MOST 1048576: true; the input reads as it did. -/
def clockAddUptoRow : OpenClaim := { program := "ytfnofdgippdlaaa", sum := "f619a7dde2b5612fe5018dcbfe6fc73bb261ac0822ffbf1c2ad9fb4bf1987c90", func := "terrier/terrierlaw03.ClockAdd", spec := "clockAdd", apart := false, narrowed := true }
def ClockAddUptoSaid : Prop := clockAddUptoRow.holds Try.pinned (OpenSpec.upto clockAddSpec)

/-- 'terrierlaw10.ConfigRight', WHERE WHAT IT READS IS OF BULK AT MOST 1048576: true; the input reads as it did. -/
def configRightUptoRow : OpenClaim := { program := "ytfnofdgippdlaaa", sum := "f619a7dde2b5612fe5018dcbfe6fc73bb261ac0822ffbf1c2ad9fb4bf1987c90", func := "terrier/terrierlaw10.ConfigRight", spec := "configRight", unfollowed := true, recurses := true, apart := false, narrowed := true }
def ConfigRightUptoSaid : Prop := configRightUptoRow.holds Try.pinned (OpenSpec.upto configRightSpec)

/-- 'terrierlaw10.ConfigFit', WHERE WHAT IT READS IS OF BULK AT MOST 1048576: true; the input reads as it did. -/
def configFitUptoRow : OpenClaim := { program := "ytfnofdgippdlaaa", sum := "f619a7dde2b5612fe5018dcbfe6fc73bb261ac0822ffbf1c2ad9fb4bf1987c90", func := "terrier/terrierlaw10.ConfigFit", spec := "configFit", unfollowed := true, recurses := true, apart := false, narrowed := true }
def ConfigFitUptoSaid : Prop := configFitUptoRow.holds Try.pinned (OpenSpec.upto configFitSpec)

/-- 'terrierlaw10.ConfigOne', WHERE WHAT IT READS IS OF BULK AT MOST 1048576: true; the input reads as it did. -/
def configOneUptoRow : OpenClaim := { program := "ytfnofdgippdlaaa", sum := "f619a7dde2b5612fe5018dcbfe6fc73bb261ac0822ffbf1c2ad9fb4bf1987c90", func := "terrier/terrierlaw10.ConfigOne", spec := "configOne", unfollowed := true, recurses := true, apart := false, narrowed := true }
def ConfigOneUptoSaid : Prop := configOneUptoRow.holds Try.pinned (OpenSpec.upto configOneSpec)

/-- 'terrierlaw10.ConfigWider', WHERE WHAT IT READS IS OF BULK AT MOST 1048576: true; the input reads as it did. -/
def configWiderUptoRow : OpenClaim := { program := "ytfnofdgippdlaaa", sum := "f619a7dde2b5612fe5018dcbfe6fc73bb261ac0822ffbf1c2ad9fb4bf1987c90", func := "terrier/terrierlaw10.ConfigWider", spec := "configWider", unfollowed := true, recurses := true, apart := false, narrowed := true }
def ConfigWiderUptoSaid : Prop := configWiderUptoRow.holds Try.pinned (OpenSpec.upto configWiderSpec)

end Rows
end Go.Proofs.Ytfnofdgippdlaaa
