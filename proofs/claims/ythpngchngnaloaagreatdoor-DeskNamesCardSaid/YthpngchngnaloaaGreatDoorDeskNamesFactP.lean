/- A closed fact of the row of DeskNames. Conditions: none. -/
import Derived.Test.YthpngchngnaloaaGreatDoorGlue
namespace Go.Proofs.YthpngchngnaloaaGreatDoor
open Go.ChangeShapes Go.WideShapes Go.ChangeAt Go.RowKit Go.Proofs.YthpngchngnaloaaGreatDoor.Vm
set_option maxRecDepth 100000
theorem deskNames_joined0 : (Rows.deskNamesRow.wf (OpenSpec.ofChange Rows.deskNamesSpec)) = true := by kernel_rfl
theorem deskNames_joined1 : (laidOutB Tryz.prog) = true := by kernel_rfl
theorem deskNames_joined2 : (mapsRowed Tryz.prog) = true := by kernel_rfl
theorem deskNames_joined3 : (Tryz.f7.params.all (Tryz.prog.readableRec ·)) = true := by kernel_rfl
theorem deskNames_joined4 : (namedTie Tryz.prog Rows.deskNamesRow.named Rows.deskNamesSpec.vars) = true := by kernel_rfl
theorem deskNames_joined5 : ((Rows.deskNamesRow.stops == [])) = true := by kernel_rfl
theorem deskNames_joined6 : ((Tryz.prog.stops == [])) = true := by kernel_rfl
theorem deskNames_joined7 : ((Rows.deskNamesRow.knobs == [])) = true := by kernel_rfl
theorem deskNames_joined8 : ((Tryz.prog.stopKnobs == [])) = true := by kernel_rfl
theorem deskNames_joined13 : ((Rows.deskNamesRow.maps == (Tryz.f7.params.toList ++ Rows.deskNamesSpec.plain.varTypes Tryz.prog).any (Tryz.prog.mapsRec ·))) = true := by kernel_rfl
theorem deskNames_joined14 : ((Rows.deskNamesRow.ifaces == (Tryz.f7.params.toList ++ Rows.deskNamesSpec.plain.varTypes Tryz.prog).any (Tryz.prog.ifacesRec ·))) = true := by kernel_rfl
theorem deskNames_joined15 : ((Rows.deskNamesRow.mapsOut == Tryz.prog.mapsAmong Tryz.f7.resultTypes.toList)) = true := by kernel_rfl
theorem deskNames_joined16 : ((Rows.deskNamesRow.loops == (Tryz.f7.params.toList ++ Rows.deskNamesSpec.plain.varTypes Tryz.prog).any (Tryz.prog.loopsFrom ·))) = true := by kernel_rfl
theorem deskNames_joined17 : ((Rows.deskNamesRow.wideKeys == (Tryz.f7.params.toList ++ Rows.deskNamesSpec.plain.varTypes Tryz.prog ++ Tryz.f7.resultTypes.toList).any (Tryz.prog.wideKeysFrom ·))) = true := by kernel_rfl
theorem deskNames_joined18 : (Rows.deskNamesSpec.vars.all (Tryz.prog.varReadable ·)) = true := by kernel_rfl
theorem deskNames_joined19 : (Tryz.f7.resultTypes.all (fun t => Tryz.prog.readableRec t && decide (t < Tryz.prog.types.size))) = true := by kernel_rfl
theorem deskNames_joined20 : ((Rows.deskNamesRow.ifacesOut == Tryz.f7.resultTypes.toList.any (Tryz.prog.ifacesRec ·))) = true := by kernel_rfl
theorem deskNames_joined21 : ((Rows.deskNamesRow.loopsOut == Tryz.f7.resultTypes.toList.any (Tryz.prog.loopsFrom ·))) = true := by kernel_rfl
theorem deskNames_joined22 : ((Rows.deskNamesRow.plainKeys == Tryz.prog.plainKeys)) = true := by kernel_rfl
theorem deskNames_joined23 : (Rows.deskNamesRow.shortTexts.isNone) = true := by kernel_rfl
theorem deskNames_joined24 : (Tryz.prog.stopsHeard) = true := by kernel_rfl
theorem deskNames_joined25 : (Tryz.prog.mayEnter) = true := by kernel_rfl
theorem deskNames_joined26 : ((Rows.deskNamesRow.lifted == Tryz.prog.liftsFinal)) = true := by kernel_rfl
theorem deskNames_joined27 : ((Tryz.prog.make == some Rows.deskNamesRow.make)) = true := by kernel_rfl
theorem deskNames_joined28 : ((Rows.deskNamesRow.kinds == (if Rows.deskNamesRow.domain.isEmpty then [] else Tryz.f7.params.toList.map fun t => match Tryz.prog.underlying t with | some (.int k) => some k | _ => Option.none))) = true := by kernel_rfl
theorem deskNames_joined29 : ((Rows.deskNamesRow.pinned == Rows.deskNamesRow.pinnedBy)) = true := by kernel_rfl
theorem deskNames_joined30 : ((Rows.deskNamesRow.veiled == (Tryz.f7.params.toList ++ Rows.deskNamesSpec.plain.varTypes Tryz.prog ++ Tryz.f7.resultTypes.toList).any (Tryz.prog.veiledRec ·))) = true := by kernel_rfl
theorem deskNames_joined31 : (Rows.deskNamesRow.veiledFits Tryz.prog Tryz.f7.params.toList (Tryz.f7.params.toList ++ Rows.deskNamesSpec.plain.varTypes Tryz.prog ++ Tryz.f7.resultTypes.toList)) = true := by kernel_rfl
end Go.Proofs.YthpngchngnaloaaGreatDoor
