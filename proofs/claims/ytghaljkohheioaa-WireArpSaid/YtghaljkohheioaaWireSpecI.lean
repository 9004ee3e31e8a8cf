/- Packets of the wire: what is said of the law WireArp. -/
import Derived.Test.YtghaljkohheioaaWireMathB
namespace Go.Proofs.Ytghaljkohheioaa.Wire
open Go Go.Proofs.Ytghaljkohheioaa.Sx Go.Proofs.Ytghaljkohheioaa.Sum

def annWArp : Ann A := { G := Nat, inv := fun k => k ≤ 4, keep := [45, 46], keepO := [45], slots := fun k => [(47, .int .i64 k)], μ := fun k => 4 - k }
def macB (m0 m1 m2 m3 m4 m5 : Int) : Prop := Sum.bytes [m0, m1, m2, m3, m4, m5]
def arpOk (xs : List Int) (f t m0 m1 m2 m3 m4 m5 z y : Int) : Prop := lenOk xs ∧ Sum.bytes xs ∧ (inR 4294967296 f ∧ inR 4294967296 t) ∧ macB m0 m1 m2 m3 m4 m5 ∧ (0 ≤ z ∧ z < 256) ∧ (0 ≤ y ∧ y < 256)
theorem macB_ok {m0 m1 m2 m3 m4 m5 : Int} (h0 : 0 ≤ m0 ∧ m0 < 256) (h1 : 0 ≤ m1 ∧ m1 < 256) (h2 : 0 ≤ m2 ∧ m2 < 256) (h3 : 0 ≤ m3 ∧ m3 < 256) (h4 : 0 ≤ m4 ∧ m4 < 256) (h5 : 0 ≤ m5 ∧ m5 < 256) : macB m0 m1 m2 m3 m4 m5 := by
  intro c hc
  simp only [List.mem_cons, List.not_mem_nil, or_false] at hc
  rcases hc with rfl | rfl | rfl | rfl | rfl | rfl <;> assumption
end Go.Proofs.Ytghaljkohheioaa.Wire
