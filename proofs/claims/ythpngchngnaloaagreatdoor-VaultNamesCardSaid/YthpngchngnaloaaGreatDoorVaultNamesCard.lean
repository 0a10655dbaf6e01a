/- VaultNames returns true: the row's statement, and its card. Conditions: those of the row. -/
import Derived.Test.YthpngchngnaloaaGreatDoorVaultNames
import Derived.Test.YthpngchngnaloaaGreatDoorVaultNamesFactA
import Derived.Test.YthpngchngnaloaaGreatDoorVaultNamesFactB
import Derived.Test.YthpngchngnaloaaGreatDoorK2
import Derived.Test.YthpngchngnaloaaGreatDoorK3
namespace Go.Proofs.YthpngchngnaloaaGreatDoor
open Go.ChangeShapes Go.WideShapes Go.ChangeAt Go.RowKit Go.Proofs.YthpngchngnaloaaGreatDoor.Vm
set_option maxRecDepth 100000
theorem vaultNames_instance : Tryz.f13.isInstance Tryz.prog Rows.vaultNamesRow.origin Rows.vaultNamesRow.targs := of_decide_eq_true (by kernel_rfl)
theorem vaultNames_wrapper : Tryz.f13.isWrapper Tryz.prog Rows.vaultNamesRow.wrapper Rows.vaultNamesRow.mainSum := by
  unfold Func.isWrapper
  first | (rw [if_pos (by decide +kernel)]; kernel_rfl) | (rw [if_neg (by decide +kernel)]; exact ⟨rfl, rfl⟩)
theorem vaultNames_named : Tryz.prog.funcNamed "packhorse/packhorselaw18.VaultNames" = some 13 := by kernel_rfl
theorem vaultNames_all (os : Os) (started : os.Started) (H : Type) (enc : TypeId × Value → H) :
    ReturnsInHanded Rows.vaultNamesRow.assume Tryz.pinned.checked os 13 .any (Rows.vaultNamesRow.pre enc Tryz.pinned.checked.prog Tryz.f13 (OpenSpec.ofChange Rows.vaultNamesSpec)) (Rows.vaultNamesSpec.post enc Tryz.pinned.checked.prog Tryz.f13 Rows.vaultNamesRow.apart Rows.vaultNamesRow.fresh Rows.vaultNamesRow.handsOn Rows.vaultNamesRow.again) := vaultNames_lifted os started H enc
theorem vaultNames_holds : Rows.VaultNamesSaid :=
  OpenClaim.holds_of_wide 13 Tryz.f13 rfl rfl rfl rfl rfl rfl rfl ⟨rfl, rfl, rfl, rfl, rfl⟩ rfl rfl rfl rfl rfl vaultNames_named Tryz.func13 vaultNames_joined vaultNames_instance vaultNames_wrapper
    (fun os started H enc _ => vaultNames_all os started H enc)
theorem vaultNames_params (f : FuncId) (fn : Func) (hf : Tryz.pinned.checked.prog.funcNamed Rows.vaultNamesRow.func = some f) (hfn : Tryz.pinned.checked.prog.funcs[f]? = some fn) :
    false = Tryz.pinned.checked.prog.looks [] ∧ ∀ (j : Nat) t, fn.params[j]? = some t → Tryz.pinned.checked.prog.wantsStandIn t = false := by
  obtain rfl : f = 13 := Option.some.inj (vaultNames_named.symm.trans hf) |>.symm
  obtain rfl : fn = Tryz.f13 := (Option.some.inj (Tryz.func13.symm.trans hfn)).symm
  exact ⟨fact_looks, fun j t ht => by
    rw [Tryz.params13] at ht
    simp at ht⟩
theorem vaultNames_card : Rows.VaultNamesCardSaid :=
  Claim7.holds_tied_plain_at .later [] [.data, .pinned] true (true, "4a0975f38cf46045cc5543fcf99bb82fdc4f47197db3d08d503efa604bc90c1e") false
    vaultNames_holds (fun _ h => by cases h) (by kernel_rfl) (fun _ h => by cases h) vaultNames_row_tie rfl ⟨rfl, rfl⟩ fact_main rfl vaultNames_params vaultNames_goes
#print axioms vaultNames_card
end Go.Proofs.YthpngchngnaloaaGreatDoor
