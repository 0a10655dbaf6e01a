/- SnapNames returns true: the row's statement, and its card. Conditions: those of the row. -/
import Derived.Test.YthpngchngnaloaaGreatDoorSnapNames
import Derived.Test.YthpngchngnaloaaGreatDoorSnapNamesFactA
import Derived.Test.YthpngchngnaloaaGreatDoorSnapNamesFactB
import Derived.Test.YthpngchngnaloaaGreatDoorK2
import Derived.Test.YthpngchngnaloaaGreatDoorK3
namespace Go.Proofs.YthpngchngnaloaaGreatDoor
open Go.ChangeShapes Go.WideShapes Go.ChangeAt Go.RowKit Go.Proofs.YthpngchngnaloaaGreatDoor.Vm
set_option maxRecDepth 100000
theorem snapNames_instance : Tryz.f3.isInstance Tryz.prog Rows.snapNamesRow.origin Rows.snapNamesRow.targs := of_decide_eq_true (by kernel_rfl)
theorem snapNames_wrapper : Tryz.f3.isWrapper Tryz.prog Rows.snapNamesRow.wrapper Rows.snapNamesRow.mainSum := by
  unfold Func.isWrapper
  first | (rw [if_pos (by decide +kernel)]; kernel_rfl) | (rw [if_neg (by decide +kernel)]; exact ⟨rfl, rfl⟩)
theorem snapNames_named : Tryz.prog.funcNamed "packhorse/packhorselaw16.SnapNames" = some 3 := by kernel_rfl
theorem snapNames_all (os : Os) (started : os.Started) (H : Type) (enc : TypeId × Value → H) :
    ReturnsInHanded Rows.snapNamesRow.assume Tryz.pinned.checked os 3 .any (Rows.snapNamesRow.pre enc Tryz.pinned.checked.prog Tryz.f3 (OpenSpec.ofChange Rows.snapNamesSpec)) (Rows.snapNamesSpec.post enc Tryz.pinned.checked.prog Tryz.f3 Rows.snapNamesRow.apart Rows.snapNamesRow.fresh Rows.snapNamesRow.handsOn Rows.snapNamesRow.again) := snapNames_lifted os started H enc
theorem snapNames_holds : Rows.SnapNamesSaid :=
  OpenClaim.holds_of_wide 3 Tryz.f3 rfl rfl rfl rfl rfl rfl rfl ⟨rfl, rfl, rfl, rfl, rfl⟩ rfl rfl rfl rfl rfl snapNames_named Tryz.func3 snapNames_joined snapNames_instance snapNames_wrapper
    (fun os started H enc _ => snapNames_all os started H enc)
theorem snapNames_params (f : FuncId) (fn : Func) (hf : Tryz.pinned.checked.prog.funcNamed Rows.snapNamesRow.func = some f) (hfn : Tryz.pinned.checked.prog.funcs[f]? = some fn) :
    false = Tryz.pinned.checked.prog.looks [] ∧ ∀ (j : Nat) t, fn.params[j]? = some t → Tryz.pinned.checked.prog.wantsStandIn t = false := by
  obtain rfl : f = 3 := Option.some.inj (snapNames_named.symm.trans hf) |>.symm
  obtain rfl : fn = Tryz.f3 := (Option.some.inj (Tryz.func3.symm.trans hfn)).symm
  exact ⟨fact_looks, fun j t ht => by
    rw [Tryz.params3] at ht
    simp at ht⟩
theorem snapNames_card : Rows.SnapNamesCardSaid :=
  Claim7.holds_tied_plain_at .later [] [.data, .pinned] true (true, "4a0975f38cf46045cc5543fcf99bb82fdc4f47197db3d08d503efa604bc90c1e") false
    snapNames_holds (fun _ h => by cases h) (by kernel_rfl) (fun _ h => by cases h) snapNames_row_tie rfl ⟨rfl, rfl⟩ fact_main rfl snapNames_params snapNames_goes
#print axioms snapNames_card
end Go.Proofs.YthpngchngnaloaaGreatDoor
