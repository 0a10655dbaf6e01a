/- A closed fact of the row of DeskNames. Conditions: none. -/
import Derived.Test.YthpngchngnaloaaGreatDoorGlue
namespace Go.Proofs.YthpngchngnaloaaGreatDoor
open Go.ChangeShapes Go.WideShapes Go.ChangeAt Go.RowKit Go.Proofs.YthpngchngnaloaaGreatDoor.Vm
set_option maxRecDepth 100000
theorem deskNames_joined10 : ((Rows.deskNamesRow.unfollowed == Tryz.prog.unfollowed 7)) = true := by kernel_rfl
end Go.Proofs.YthpngchngnaloaaGreatDoor
