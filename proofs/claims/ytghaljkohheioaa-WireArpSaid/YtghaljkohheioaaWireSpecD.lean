/- Packets of the wire: the tables of contracts for the laws of echoes. -/
import Derived.Test.YtghaljkohheioaaWireWalkD
namespace Go.Proofs.Ytghaljkohheioaa.Wire
open Go Go.Proofs.Ytghaljkohheioaa.Sx Go.Proofs.Ytghaljkohheioaa.Sum

def tab3 : List (Nat × Con A) := (11, .pure spReadE) :: (12, .pure spEchoS) :: (20, .pure spNone) :: (21, .pure spGroup) :: tab2
theorem laws3 : Laws Try.prog u tab3 := { toLaw := law, clean := clean, tab := fun p hp => by
                                            rcases List.mem_cons.1 hp with rfl | hp
                                            · exact okReadE
                                            rcases List.mem_cons.1 hp with rfl | hp
                                            · exact okEchoS
                                            rcases List.mem_cons.1 hp with rfl | hp
                                            · exact okNone
                                            rcases List.mem_cons.1 hp with rfl | hp
                                            · exact okGroup
                                            exact laws2.tab p hp }
def spAwake : Sx.Spec A
  | [] => some (none, .bool true)
  | _ => none
def tab4 : List (Nat × Con A) := (9, .pure spAwake) :: tab3
end Go.Proofs.Ytghaljkohheioaa.Wire
