/- VaultNames: what stands for itself in it. Conditions: none. -/
import Derived.Test.YthpngchngnaloaaGreatDoorVaultAlive
namespace Go.Proofs.YthpngchngnaloaaGreatDoor
open Go.ChangeShapes Go.WideShapes Go.ChangeAt Go.RowKit Go.Proofs.YthpngchngnaloaaGreatDoor.Vm
set_option maxRecDepth 100000
def aliveX : List AV → M → Outs (AV × M)
  | [], m => some [(.bool true, m)]
  | _, _ => Option.none
noncomputable def extV : FuncId → Option (List AV → M → Outs (AV × M)) := fun g => ifB (Nat.beq g 34) (some aliveX) (extY g)
theorem extV_ok : ∀ g e, extV g = some e → ∀ args m l, e args m = some l → ∀ K : AV → AH → Prop, (∀ v m', (v, m') ∈ l → K v m'.den) → ACall vmC.P [] g args m.den K := fun g e h args m l hl K hK => by
  unfold extV at h
  simp only [ifB_eq, cb] at h
  split at h
  · rename_i hg
    subst hg
    cases h
    unfold aliveX at hl
    split at hl
    · cases hl
      exact vaultAlive_acall (hK _ _ (List.mem_singleton.2 rfl))
    · cases hl
  · exact extY_ok g e h args m l hl K hK
theorem closed_runV {K d : Nat} {g : FuncId} (h : okTrue (callY vmC [] extV K d false g [] vmM0) = true) : ACall vmC.P [] g [] vmM0.den fun v _ => v = .bool true :=
  closedY_ok vm_res vm_ng' extV_ok K d g [] vmM0 h
end Go.Proofs.YthpngchngnaloaaGreatDoor
