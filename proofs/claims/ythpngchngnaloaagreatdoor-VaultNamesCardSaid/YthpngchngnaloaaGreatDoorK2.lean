/- A closed fact of the card. Conditions: none. -/
import Derived.Test.YthpngchngnaloaaGreatDoorGlue
namespace Go.Proofs.YthpngchngnaloaaGreatDoor
open Go.ChangeShapes Go.WideShapes Go.ChangeAt Go.RowKit Go.Proofs.YthpngchngnaloaaGreatDoor.Vm
set_option maxRecDepth 100000
theorem fact_main : Tryz.prog.mainIs = some (true, "4a0975f38cf46045cc5543fcf99bb82fdc4f47197db3d08d503efa604bc90c1e".toList) := by kernel_rfl
end Go.Proofs.YthpngchngnaloaaGreatDoor
