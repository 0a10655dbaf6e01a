/- A closed fact of the row of VaultNames. Conditions: those of the row. -/
import Derived.Test.YthpngchngnaloaaGreatDoorGlue
namespace Go.Proofs.YthpngchngnaloaaGreatDoor
open Go.ChangeShapes Go.WideShapes Go.ChangeAt Go.RowKit Go.Proofs.YthpngchngnaloaaGreatDoor.Vm
set_option maxRecDepth 100000
theorem vaultNames_goes : false = Rows.vaultNamesRow.goesBy Tryz.prog := by kernel_rfl
end Go.Proofs.YthpngchngnaloaaGreatDoor
