/- The example of chapter 18 holds: the call is closed, and the abstract machine carries it out. Conditions: none. -/
import Derived.Test.YthpngchngnaloaaGreatDoorGlueX
namespace Go.Proofs.YthpngchngnaloaaGreatDoor
open Go.ChangeShapes Go.WideShapes Go.ChangeAt Go.RowKit Go.Proofs.YthpngchngnaloaaGreatDoor.Vm
set_option maxRecDepth 100000
theorem vaultAlive_run : okTrue (callY vmC [] extY 1000 40 false 34 [] vmM0) = true := by kernel_rfl
theorem vaultAlive_acall {gl : List Nat} {σ : AH} {K : AV → AH → Prop} (hK : K (.bool true) σ) : ACall vmC.P gl 34 [] σ K :=
  ACall.closed (σ0 := vmM0.den) rfl (fun _ => rfl) rfl (closed_runY vaultAlive_run) hK
end Go.Proofs.YthpngchngnaloaaGreatDoor
