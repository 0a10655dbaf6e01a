/- A closed fact of the row of VaultNames. Conditions: none. -/
import Derived.Test.YthpngchngnaloaaGreatDoorGlue
namespace Go.Proofs.YthpngchngnaloaaGreatDoor
open Go.ChangeShapes Go.WideShapes Go.ChangeAt Go.RowKit Go.Proofs.YthpngchngnaloaaGreatDoor.Vm
set_option maxRecDepth 100000
theorem vaultNames_joined0 : (Rows.vaultNamesRow.wf (OpenSpec.ofChange Rows.vaultNamesSpec)) = true := by kernel_rfl
theorem vaultNames_joined1 : (laidOutB Tryz.prog) = true := by kernel_rfl
theorem vaultNames_joined2 : (mapsRowed Tryz.prog) = true := by kernel_rfl
theorem vaultNames_joined3 : (Tryz.f13.params.all (Tryz.prog.readableRec ·)) = true := by kernel_rfl
theorem vaultNames_joined4 : (namedTie Tryz.prog Rows.vaultNamesRow.named Rows.vaultNamesSpec.vars) = true := by kernel_rfl
theorem vaultNames_joined5 : ((Rows.vaultNamesRow.stops == [])) = true := by kernel_rfl
theorem vaultNames_joined6 : ((Tryz.prog.stops == [])) = true := by kernel_rfl
theorem vaultNames_joined7 : ((Rows.vaultNamesRow.knobs == [])) = true := by kernel_rfl
theorem vaultNames_joined8 : ((Tryz.prog.stopKnobs == [])) = true := by kernel_rfl
theorem vaultNames_joined13 : ((Rows.vaultNamesRow.maps == (Tryz.f13.params.toList ++ Rows.vaultNamesSpec.plain.varTypes Tryz.prog).any (Tryz.prog.mapsRec ·))) = true := by kernel_rfl
theorem vaultNames_joined14 : ((Rows.vaultNamesRow.ifaces == (Tryz.f13.params.toList ++ Rows.vaultNamesSpec.plain.varTypes Tryz.prog).any (Tryz.prog.ifacesRec ·))) = true := by kernel_rfl
theorem vaultNames_joined15 : ((Rows.vaultNamesRow.mapsOut == Tryz.prog.mapsAmong Tryz.f13.resultTypes.toList)) = true := by kernel_rfl
theorem vaultNames_joined16 : ((Rows.vaultNamesRow.loops == (Tryz.f13.params.toList ++ Rows.vaultNamesSpec.plain.varTypes Tryz.prog).any (Tryz.prog.loopsFrom ·))) = true := by kernel_rfl
theorem vaultNames_joined17 : ((Rows.vaultNamesRow.wideKeys == (Tryz.f13.params.toList ++ Rows.vaultNamesSpec.plain.varTypes Tryz.prog ++ Tryz.f13.resultTypes.toList).any (Tryz.prog.wideKeysFrom ·))) = true := by kernel_rfl
theorem vaultNames_joined18 : (Rows.vaultNamesSpec.vars.all (Tryz.prog.varReadable ·)) = true := by kernel_rfl
theorem vaultNames_joined19 : (Tryz.f13.resultTypes.all (fun t => Tryz.prog.readableRec t && decide (t < Tryz.prog.types.size))) = true := by kernel_rfl
theorem vaultNames_joined20 : ((Rows.vaultNamesRow.ifacesOut == Tryz.f13.resultTypes.toList.any (Tryz.prog.ifacesRec ·))) = true := by kernel_rfl
theorem vaultNames_joined21 : ((Rows.vaultNamesRow.loopsOut == Tryz.f13.resultTypes.toList.any (Tryz.prog.loopsFrom ·))) = true := by kernel_rfl
theorem vaultNames_joined22 : ((Rows.vaultNamesRow.plainKeys == Tryz.prog.plainKeys)) = true := by kernel_rfl
theorem vaultNames_joined23 : (Rows.vaultNamesRow.shortTexts.isNone) = true := by kernel_rfl
theorem vaultNames_joined24 : (Tryz.prog.stopsHeard) = true := by kernel_rfl
theorem vaultNames_joined25 : (Tryz.prog.mayEnter) = true := by kernel_rfl
theorem vaultNames_joined26 : ((Rows.vaultNamesRow.lifted == Tryz.prog.liftsFinal)) = true := by kernel_rfl
theorem vaultNames_joined27 : ((Tryz.prog.make == some Rows.vaultNamesRow.make)) = true := by kernel_rfl
theorem vaultNames_joined28 : ((Rows.vaultNamesRow.kinds == (if Rows.vaultNamesRow.domain.isEmpty then [] else Tryz.f13.params.toList.map fun t => match Tryz.prog.underlying t with | some (.int k) => some k | _ => Option.none))) = true := by kernel_rfl
theorem vaultNames_joined29 : ((Rows.vaultNamesRow.pinned == Rows.vaultNamesRow.pinnedBy)) = true := by kernel_rfl
theorem vaultNames_joined30 : ((Rows.vaultNamesRow.veiled == (Tryz.f13.params.toList ++ Rows.vaultNamesSpec.plain.varTypes Tryz.prog ++ Tryz.f13.resultTypes.toList).any (Tryz.prog.veiledRec ·))) = true := by kernel_rfl
theorem vaultNames_joined31 : (Rows.vaultNamesRow.veiledFits Tryz.prog Tryz.f13.params.toList (Tryz.f13.params.toList ++ Rows.vaultNamesSpec.plain.varTypes Tryz.prog ++ Tryz.f13.resultTypes.toList)) = true := by kernel_rfl
end Go.Proofs.YthpngchngnaloaaGreatDoor
