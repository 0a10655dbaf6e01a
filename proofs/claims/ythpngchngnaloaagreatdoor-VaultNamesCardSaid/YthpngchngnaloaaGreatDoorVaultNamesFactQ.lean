/- Closed facts of the row of VaultNames. Conditions: none. -/
import Derived.Test.YthpngchngnaloaaGreatDoorGlue
namespace Go.Proofs.YthpngchngnaloaaGreatDoor
open Go.ChangeShapes Go.WideShapes Go.ChangeAt Go.RowKit Go.Proofs.YthpngchngnaloaaGreatDoor.Vm
set_option maxRecDepth 100000
theorem vaultNames_joined9 : ((Rows.vaultNamesRow.inPlace == Tryz.prog.inPlace 13)) = true := by kernel_rfl
theorem vaultNames_joined10 : ((Rows.vaultNamesRow.unfollowed == Tryz.prog.unfollowed 13)) = true := by kernel_rfl
theorem vaultNames_joined11 : ((Rows.vaultNamesRow.recurses == Tryz.prog.recurses 13)) = true := by kernel_rfl
theorem vaultNames_joined12 : ((Rows.vaultNamesRow.named == Tryz.prog.varsNamed 13)) = true := by kernel_rfl
end Go.Proofs.YthpngchngnaloaaGreatDoor
