/- What all closed statements of this seat share: the abstract machine over this program. Conditions: none of its own. -/
import Derived.Test.YthpngchngnaloaaGreatDoorVmL
import Derived.Test.YthpngchngnaloaaGreatDoorVmM
import Derived.Test.YthpngchngnaloaaGreatDoorCards
import Derived.Test.YthpngchngnaloaaGreatDoorTie
import Derived.WalkKit
import Derived.ProofKit
import Derived.OpenShut
import Derived.LaidMore
import Derived.Lay
import Derived.SevenTiedAt
import Derived.Stop.Joined
namespace Go.Proofs.YthpngchngnaloaaGreatDoor
open Go.ChangeShapes Go.WideShapes Go.ChangeAt Go.RowKit Go.Proofs.YthpngchngnaloaaGreatDoor.Vm

set_option maxRecDepth 100000
theorem vm_mixed : Tryz.prog.follows .mixedOrders = true := by kernel_rfl
theorem vm_ng : noGor Tryz.prog = true := by kernel_rfl
noncomputable def vmC : Cx := cxOf Tryz.prog vm_mixed
def vmM0 : M := ⟨.leaf, 0⟩
def vmExt : FuncId → Option (List AV → M → Outs (AV × M)) := fun _ => Option.none
theorem vm_P : vmC.P = Tryz.prog := rfl
theorem vm_res (t : TypeId) : vmC.res t = Option.none := rfl
theorem vm_ng' : noGor vmC.P = true := vm_P ▸ vm_ng
theorem vm_ext : ∀ g e, vmExt g = some e → ∀ args m l, e args m = some l → ∀ K : AV → AH → Prop, (∀ v m', (v, m') ∈ l → K v m'.den) → ACall vmC.P [] g args m.den K := fun g e h => by
  unfold vmExt at h
  cases h
theorem closed_run {k : Nat} {g : FuncId} (h : okTrue (callX vmC vmExt (runX vmC [] vmExt k) false g [] vmM0) = true) : ACall vmC.P [] g [] vmM0.den fun v _ => v = .bool true :=
  closed_ok vm_res vm_ng' vm_ext k g [] vmM0 h
theorem closed_calls {g : FuncId} (hb : hasBody Tryz.prog g = true) (h : ACall Tryz.prog [] g [] vmM0.den fun v _ => v = .bool true) (w : World) :
    Calls Tryz.prog g #[] w fun e w' => e = .returned (.bool true) ∧ RowKit.Below w.heap.size w w' := by
  have hr : Rel ⟨w, w.heap.size, []⟩ (fun _ => Option.none) vmM0.den w :=
    ⟨fun _ _ => ⟨rfl, rfl⟩, (fun _ _ _ h => by cases h), (fun _ _ h => by cases h), (fun _ _ _ _ _ _ _ h => by cases h), (fun _ _ _ h => by cases h), RowKit.Below.refl _ _, Nat.le_refl _, (fun _ h => by cases h)⟩
  have hc := h _ _ w [] hr (fun _ h => by cases h) .nil
  unfold CallR at hc
  rw [callFunc_body hb] at hc
  simp only at hc
  refine Calls.mono hc fun e w' he => ?_
  cases e with
  | panicked c => exact False.elim he
  | outgrown => exact False.elim he
  | returned v =>
    obtain ⟨v1, σ', ι', h1, _, _, h2, rfl⟩ := he
    simp only [VRel] at h2
    subst h2
    exact ⟨rfl, h1.below⟩
theorem own : ownKnob Tryz.prog.godebug = Option.none := by kernel_rfl
end Go.Proofs.YthpngchngnaloaaGreatDoor
