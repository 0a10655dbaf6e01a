/- A closed fact of the row of DeskNames. Conditions: none. -/
import Derived.Test.YthpngchngnaloaaGreatDoorDeskNamesFactP
import Derived.Test.YthpngchngnaloaaGreatDoorDeskNamesFact9
import Derived.Test.YthpngchngnaloaaGreatDoorDeskNamesFact10
import Derived.Test.YthpngchngnaloaaGreatDoorDeskNamesFact11
import Derived.Test.YthpngchngnaloaaGreatDoorDeskNamesFact12
namespace Go.Proofs.YthpngchngnaloaaGreatDoor
open Go.ChangeShapes Go.WideShapes Go.ChangeAt Go.RowKit Go.Proofs.YthpngchngnaloaaGreatDoor.Vm
set_option maxRecDepth 100000
theorem deskNames_joined : joinedFacts Tryz.prog 7 Tryz.f7 Rows.deskNamesSpec Rows.deskNamesRow = true := by
  simp only [joinedFacts, Bool.and_eq_true, and_assoc]
  exact ⟨deskNames_joined0, deskNames_joined1, deskNames_joined2, deskNames_joined3, deskNames_joined4, deskNames_joined5, deskNames_joined6, deskNames_joined7, deskNames_joined8, deskNames_joined9, deskNames_joined10, deskNames_joined11, deskNames_joined12, deskNames_joined13, deskNames_joined14, deskNames_joined15, deskNames_joined16, deskNames_joined17, deskNames_joined18, deskNames_joined19, deskNames_joined20, deskNames_joined21, deskNames_joined22, deskNames_joined23, deskNames_joined24, deskNames_joined25, deskNames_joined26, deskNames_joined27, deskNames_joined28, deskNames_joined29, deskNames_joined30, deskNames_joined31⟩
end Go.Proofs.YthpngchngnaloaaGreatDoor
