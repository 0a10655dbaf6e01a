/- DeskNames returns true: the row's statement, and its card. Conditions: those of the row. -/
import Derived.Test.YthpngchngnaloaaGreatDoorDeskNames
import Derived.Test.YthpngchngnaloaaGreatDoorDeskNamesFactA
import Derived.Test.YthpngchngnaloaaGreatDoorDeskNamesFactB
import Derived.Test.YthpngchngnaloaaGreatDoorK2
import Derived.Test.YthpngchngnaloaaGreatDoorK3
namespace Go.Proofs.YthpngchngnaloaaGreatDoor
open Go.ChangeShapes Go.WideShapes Go.ChangeAt Go.RowKit Go.Proofs.YthpngchngnaloaaGreatDoor.Vm
set_option maxRecDepth 100000
theorem deskNames_instance : Tryz.f7.isInstance Tryz.prog Rows.deskNamesRow.origin Rows.deskNamesRow.targs := of_decide_eq_true (by kernel_rfl)
theorem deskNames_wrapper : Tryz.f7.isWrapper Tryz.prog Rows.deskNamesRow.wrapper Rows.deskNamesRow.mainSum := by
  unfold Func.isWrapper
  first | (rw [if_pos (by decide +kernel)]; kernel_rfl) | (rw [if_neg (by decide +kernel)]; exact ⟨rfl, rfl⟩)
theorem deskNames_named : Tryz.prog.funcNamed "packhorse/packhorselaw17.DeskNames" = some 7 := by kernel_rfl
theorem deskNames_all (os : Os) (started : os.Started) (H : Type) (enc : TypeId × Value → H) :
    ReturnsInHanded Rows.deskNamesRow.assume Tryz.pinned.checked os 7 .any (Rows.deskNamesRow.pre enc Tryz.pinned.checked.prog Tryz.f7 (OpenSpec.ofChange Rows.deskNamesSpec)) (Rows.deskNamesSpec.post enc Tryz.pinned.checked.prog Tryz.f7 Rows.deskNamesRow.apart Rows.deskNamesRow.fresh Rows.deskNamesRow.handsOn Rows.deskNamesRow.again) := deskNames_lifted os started H enc
theorem deskNames_holds : Rows.DeskNamesSaid :=
  OpenClaim.holds_of_wide 7 Tryz.f7 rfl rfl rfl rfl rfl rfl rfl ⟨rfl, rfl, rfl, rfl, rfl⟩ rfl rfl rfl rfl rfl deskNames_named Tryz.func7 deskNames_joined deskNames_instance deskNames_wrapper
    (fun os started H enc _ => deskNames_all os started H enc)
theorem deskNames_params (f : FuncId) (fn : Func) (hf : Tryz.pinned.checked.prog.funcNamed Rows.deskNamesRow.func = some f) (hfn : Tryz.pinned.checked.prog.funcs[f]? = some fn) :
    false = Tryz.pinned.checked.prog.looks [] ∧ ∀ (j : Nat) t, fn.params[j]? = some t → Tryz.pinned.checked.prog.wantsStandIn t = false := by
  obtain rfl : f = 7 := Option.some.inj (deskNames_named.symm.trans hf) |>.symm
  obtain rfl : fn = Tryz.f7 := (Option.some.inj (Tryz.func7.symm.trans hfn)).symm
  exact ⟨fact_looks, fun j t ht => by
    rw [Tryz.params7] at ht
    simp at ht⟩
theorem deskNames_card : Rows.DeskNamesCardSaid :=
  Claim7.holds_tied_plain_at .later [] [.data, .pinned] true (true, "4a0975f38cf46045cc5543fcf99bb82fdc4f47197db3d08d503efa604bc90c1e") false
    deskNames_holds (fun _ h => by cases h) (by kernel_rfl) (fun _ h => by cases h) deskNames_row_tie rfl ⟨rfl, rfl⟩ fact_main rfl deskNames_params deskNames_goes
#print axioms deskNames_card
end Go.Proofs.YthpngchngnaloaaGreatDoor
