/- A closed fact of the row of VaultNames. Conditions: none. -/
import Derived.Test.YthpngchngnaloaaGreatDoorVaultNamesFactP
import Derived.Test.YthpngchngnaloaaGreatDoorVaultNamesFactQ
namespace Go.Proofs.YthpngchngnaloaaGreatDoor
open Go.ChangeShapes Go.WideShapes Go.ChangeAt Go.RowKit Go.Proofs.YthpngchngnaloaaGreatDoor.Vm
set_option maxRecDepth 100000
theorem vaultNames_joined : joinedFacts Tryz.prog 13 Tryz.f13 Rows.vaultNamesSpec Rows.vaultNamesRow = true := by
  simp only [joinedFacts, Bool.and_eq_true, and_assoc]
  exact ⟨vaultNames_joined0, vaultNames_joined1, vaultNames_joined2, vaultNames_joined3, vaultNames_joined4, vaultNames_joined5, vaultNames_joined6, vaultNames_joined7, vaultNames_joined8, vaultNames_joined9, vaultNames_joined10, vaultNames_joined11, vaultNames_joined12, vaultNames_joined13, vaultNames_joined14, vaultNames_joined15, vaultNames_joined16, vaultNames_joined17, vaultNames_joined18, vaultNames_joined19, vaultNames_joined20, vaultNames_joined21, vaultNames_joined22, vaultNames_joined23, vaultNames_joined24, vaultNames_joined25, vaultNames_joined26, vaultNames_joined27, vaultNames_joined28, vaultNames_joined29, vaultNames_joined30, vaultNames_joined31⟩
end Go.Proofs.YthpngchngnaloaaGreatDoor
