/- A closed fact of the card. Conditions: none. -/
import Derived.Test.YthpngchngnaloaaGreatDoorGlue
namespace Go.Proofs.YthpngchngnaloaaGreatDoor
open Go.ChangeShapes Go.WideShapes Go.ChangeAt Go.RowKit Go.Proofs.YthpngchngnaloaaGreatDoor.Vm
set_option maxRecDepth 100000
theorem fact_looks : false = Tryz.prog.looks [] := by kernel_rfl
end Go.Proofs.YthpngchngnaloaaGreatDoor
