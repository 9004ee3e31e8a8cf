/-
  No cell of these rows narrows 'for every input' (looked for: loops, veiled, ifaces, maps, wideKeys, modest, calm, conditions, laid).
  DERIVED. THE GIVEN ROWS OF THIS SEAT. 5 by the template 'for every input the law returns true; each argument reads behind the call as it read before'; 0 by the template 'total and deterministic' (their statements: YtndacggailoogaaTotals.lean).
  GIVEN WITH THE SEED: the statements are not yours to turn. If you find one false, say at which input.
  Laid BY PROGRAM, IN A SANDBOX (cutbox-rows.mjs): the forced cells as the released guide's own fill.sh prints them over the translation bfe64c35c405e50d… (all of the seat's roots in one cut). By AI agents, Wed Nov 11 2026. No macro, syntax, notation, axiom, sorry.
-/
import Derived.Test.YtndacggailoogaaChecked
import GoSem.Claim
import GoSem.ClaimJoined
import GoSem.ClaimMapViews
import Derived.JoinedTies
import Derived.KernelRfl
namespace Go.Proofs.Ytndacggailoogaa
/- THE CELL 'sum', in the pinned program and in every row, IS THE sha256 OF THE DUMP (.gsa) THAT YtndacggailoogaaProg.lean LOADS. Nothing in Lean hashes anything: it is a label: what it is worth is what the hold of that sum in a sandbox is worth. -/
noncomputable def Try.pinned : Pinned := { name := "ytndacggailoogaa", sum := "bfe64c35c405e50d312e42cf07a17c6072548d42e17453c28216aafa6bf47657", checked := Try.checked }
namespace Rows
def none {H : Type} : Left H := { results := [], args := [] }

/-- 'terrierlaw09.TrieTwo': WHATEVER THE INPUT: true; the input reads as it did. -/
def trieTwoSpec : ChangeSpec := { name := "trieTwo", fn := fun _ => fun
  | [d1, d2, d3, d4] => { results := [.lit (.bool true)], args := [d1, d2, d3, d4] }
  | _ => none }
def trieTwoRow : OpenClaim := { program := "ytndacggailoogaa", sum := "bfe64c35c405e50d312e42cf07a17c6072548d42e17453c28216aafa6bf47657", func := "terrier/terrierlaw09.TrieTwo", spec := "trieTwo", apart := false }
def TrieTwoSaid : Prop := trieTwoRow.holds Try.pinned (OpenSpec.ofChange trieTwoSpec)

/-- ITS FALSE NEIGHBOUR: 'it returns false'. Refute it at one input. -/
def trieTwoWrong : ChangeSpec := { name := "trieTwo", fn := fun _ => fun
  | [d1, d2, d3, d4] => { results := [.lit (.bool false)], args := [d1, d2, d3, d4] }
  | _ => none }
def TrieTwoWrongFalsely : Prop := trieTwoRow.holds Try.pinned (OpenSpec.ofChange trieTwoWrong)

/-- 'terrierlaw09.TrieOrder': WHATEVER THE INPUT: true; the input reads as it did. -/
def trieOrderSpec : ChangeSpec := { name := "trieOrder", fn := fun _ => fun
  | [d] => { results := [.lit (.bool true)], args := [d] }
  | _ => none }
def trieOrderRow : OpenClaim := { program := "ytndacggailoogaa", sum := "bfe64c35c405e50d312e42cf07a17c6072548d42e17453c28216aafa6bf47657", func := "terrier/terrierlaw09.TrieOrder", spec := "trieOrder", unfollowed := true, recurses := true, apart := false }
def TrieOrderSaid : Prop := trieOrderRow.holds Try.pinned (OpenSpec.ofChange trieOrderSpec)

/-- ITS FALSE NEIGHBOUR: 'it returns false'. Refute it at one input. -/
def trieOrderWrong : ChangeSpec := { name := "trieOrder", fn := fun _ => fun
  | [d] => { results := [.lit (.bool false)], args := [d] }
  | _ => none }
def TrieOrderWrongFalsely : Prop := trieOrderRow.holds Try.pinned (OpenSpec.ofChange trieOrderWrong)

/-- 'terrierlaw09.TrieHalves': WHATEVER THE INPUT: true; the input reads as it did. -/
def trieHalvesSpec : ChangeSpec := { name := "trieHalves", fn := fun _ => fun
  | [d1, d2, d3] => { results := [.lit (.bool true)], args := [d1, d2, d3] }
  | _ => none }
def trieHalvesRow : OpenClaim := { program := "ytndacggailoogaa", sum := "bfe64c35c405e50d312e42cf07a17c6072548d42e17453c28216aafa6bf47657", func := "terrier/terrierlaw09.TrieHalves", spec := "trieHalves", apart := false }
def TrieHalvesSaid : Prop := trieHalvesRow.holds Try.pinned (OpenSpec.ofChange trieHalvesSpec)

/-- ITS FALSE NEIGHBOUR: 'it returns false'. Refute it at one input. -/
def trieHalvesWrong : ChangeSpec := { name := "trieHalves", fn := fun _ => fun
  | [d1, d2, d3] => { results := [.lit (.bool false)], args := [d1, d2, d3] }
  | _ => none }
def TrieHalvesWrongFalsely : Prop := trieHalvesRow.holds Try.pinned (OpenSpec.ofChange trieHalvesWrong)

/-- 'terrierlaw09.TrieTake': WHATEVER THE INPUT: true; the input reads as it did. -/
def trieTakeSpec : ChangeSpec := { name := "trieTake", fn := fun _ => fun
  | [d] => { results := [.lit (.bool true)], args := [d] }
  | _ => none }
def trieTakeRow : OpenClaim := { program := "ytndacggailoogaa", sum := "bfe64c35c405e50d312e42cf07a17c6072548d42e17453c28216aafa6bf47657", func := "terrier/terrierlaw09.TrieTake", spec := "trieTake", unfollowed := true, recurses := true, apart := false }
def TrieTakeSaid : Prop := trieTakeRow.holds Try.pinned (OpenSpec.ofChange trieTakeSpec)

/-- ITS FALSE NEIGHBOUR: 'it returns false'. Refute it at one input. -/
def trieTakeWrong : ChangeSpec := { name := "trieTake", fn := fun _ => fun
  | [d] => { results := [.lit (.bool false)], args := [d] }
  | _ => none }
def TrieTakeWrongFalsely : Prop := trieTakeRow.holds Try.pinned (OpenSpec.ofChange trieTakeWrong)

/-- 'terrierlaw09.TrieScript': WHATEVER THE INPUT: true; the input reads as it did. -/
def trieScriptSpec : ChangeSpec := { name := "trieScript", fn := fun _ => fun
  | [d] => { results := [.lit (.bool true)], args := [d] }
  | _ => none }
def trieScriptRow : OpenClaim := { program := "ytndacggailoogaa", sum := "bfe64c35c405e50d312e42cf07a17c6072548d42e17453c28216aafa6bf47657", func := "terrier/terrierlaw09.TrieScript", spec := "trieScript", unfollowed := true, recurses := true, apart := false }
def TrieScriptSaid : Prop := trieScriptRow.holds Try.pinned (OpenSpec.ofChange trieScriptSpec)

/-- ITS FALSE NEIGHBOUR: 'it returns false'. Refute it at one input. -/
def trieScriptWrong : ChangeSpec := { name := "trieScript", fn := fun _ => fun
  | [d] => { results := [.lit (.bool false)], args := [d] }
  | _ => none }
def TrieScriptWrongFalsely : Prop := trieScriptRow.holds Try.pinned (OpenSpec.ofChange trieScriptWrong)

/- THE SECOND FORM. 'bulk': how many values and letters a reading holds, each counted each time it is reached (what is shared counts as often as it is met; a slice's spare places count too). A statement '..UptoSaid' is the law's where the arguments, and the package variables that the reading takes, are together of bulk at most 1048576: NARROWER than '..Said'. Prove '..Said' where nothing that the law and all that it calls make is longer than what came in: it says more and counts as full. Else prove '..UptoSaid'. A law counts once. -/
mutual
def uptoBulk {H : Type} : DataW H → Nat
  | .lit (.string bytes) => bytes.length + 1
  | .lit _ => 1
  | .nil => 1
  | .ptr d => uptoBulk d + 1
  | .slice elems spare => uptoBulkAll elems + uptoBulkAll spare + 1
  | .agg parts => uptoBulkAll parts + 1
  | .iface _ d => uptoBulk d + 1
  | .map entries => uptoBulkEntries entries + 1
  | .held _ => 1
def uptoBulkAll {H : Type} : List (DataW H) → Nat
  | [] => 0
  | d :: r => uptoBulk d + uptoBulkAll r
def uptoBulkEntries {H : Type} : List (Lit × DataW H) → Nat
  | [] => 0
  | x :: r => uptoBulkEntry x + uptoBulkEntries r
def uptoBulkEntry {H : Type} : Lit × DataW H → Nat
  | (.string bytes, d) => bytes.length + uptoBulk d + 1
  | (_, d) => uptoBulk d + 1
 end
def uptoSmall : (H : Type) → List (DataW H) → Bool := fun _ ds => decide (uptoBulkAll ds ≤ 1048576)
def OpenSpec.upto (s : _root_.Go.ChangeSpec) : _root_.Go.OpenSpec := { _root_.Go.OpenSpec.ofChange s with cond := some uptoSmall }

/-- 'terrierlaw09.TrieTwo', WHERE WHAT IT READS IS OF BULK AT MOST 1048576: true; the input reads as it did. -/
def trieTwoUptoRow : OpenClaim := { program := "ytndacggailoogaa", sum := "bfe64c35c405e50d312e42cf07a17c6072548d42e17453c28216aafa6bf47657", func := "terrier/terrierlaw09.TrieTwo", spec := "trieTwo", apart := false, narrowed := true }
def TrieTwoUptoSaid : Prop := trieTwoUptoRow.holds Try.pinned (OpenSpec.upto trieTwoSpec)

/-- 'terrierlaw09.TrieOrder', WHERE WHAT IT READS IS OF BULK AT MOST 1048576: true; the input reads as it did. -/
def trieOrderUptoRow : OpenClaim := { program := "ytndacggailoogaa", sum := "bfe64c35c405e50d312e42cf07a17c6072548d42e17453c28216aafa6bf47657", func := "terrier/terrierlaw09.TrieOrder", spec := "trieOrder", unfollowed := true, recurses := true, apart := false, narrowed := true }
def TrieOrderUptoSaid : Prop := trieOrderUptoRow.holds Try.pinned (OpenSpec.upto trieOrderSpec)

/-- 'terrierlaw09.TrieHalves', WHERE WHAT IT READS IS OF BULK AT MOST 1048576: true; the input reads as it did. -/
def trieHalvesUptoRow : OpenClaim := { program := "ytndacggailoogaa", sum := "bfe64c35c405e50d312e42cf07a17c6072548d42e17453c28216aafa6bf47657", func := "terrier/terrierlaw09.TrieHalves", spec := "trieHalves", apart := false, narrowed := true }
def TrieHalvesUptoSaid : Prop := trieHalvesUptoRow.holds Try.pinned (OpenSpec.upto trieHalvesSpec)

/-- 'terrierlaw09.TrieTake', WHERE WHAT IT READS IS OF BULK AT MOST 1048576: true; the input reads as it did. -/
def trieTakeUptoRow : OpenClaim := { program := "ytndacggailoogaa", sum := "bfe64c35c405e50d312e42cf07a17c6072548d42e17453c28216aafa6bf47657", func := "terrier/terrierlaw09.TrieTake", spec := "trieTake", unfollowed := true, recurses := true, apart := false, narrowed := true }
def TrieTakeUptoSaid : Prop := trieTakeUptoRow.holds Try.pinned (OpenSpec.upto trieTakeSpec)

/-- 'terrierlaw09.TrieScript', WHERE WHAT IT READS IS OF BULK AT MOST 1048576: true; the input reads as it did. -/
def trieScriptUptoRow : OpenClaim := { program := "ytndacggailoogaa", sum := "bfe64c35c405e50d312e42cf07a17c6072548d42e17453c28216aafa6bf47657", func := "terrier/terrierlaw09.TrieScript", spec := "trieScript", unfollowed := true, recurses := true, apart := false, narrowed := true }
def TrieScriptUptoSaid : Prop := trieScriptUptoRow.holds Try.pinned (OpenSpec.upto trieScriptSpec)

end Rows
end Go.Proofs.Ytndacggailoogaa
