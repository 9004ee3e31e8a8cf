/- Packets of the wire: what is said of the laws of any bytes. -/
import Derived.Test.YtghaljkohheioaaWireWalkF
namespace Go.Proofs.Ytghaljkohheioaa.Wire
open Go Go.Proofs.Ytghaljkohheioaa.Sx Go.Proofs.Ytghaljkohheioaa.Sum

def annAny : Ann A := { G := Nat, inv := fun k => k ≤ 3, keep := [37, 38], keepO := [37], slots := fun k => [(39, .int .i64 k)], μ := fun k => 3 - k }
def anyOk (xs : List Int) (f t z y : Int) : Prop := lenOk xs ∧ Sum.bytes xs ∧ (inR 4294967296 f ∧ inR 4294967296 t) ∧ (0 ≤ z ∧ z < 256) ∧ (0 ≤ y ∧ y < 256)
end Go.Proofs.Ytghaljkohheioaa.Wire
