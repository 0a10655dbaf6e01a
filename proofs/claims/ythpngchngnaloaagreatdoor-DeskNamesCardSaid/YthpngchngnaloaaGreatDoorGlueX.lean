/- What closed statements of this seat share that compare strings: Go's own comparison stands for itself. Conditions: none of its own. -/
import Derived.Test.YthpngchngnaloaaGreatDoorGlue
import Derived.Test.YthpngchngnaloaaGreatDoorVmX7
namespace Go.Proofs.YthpngchngnaloaaGreatDoor
open Go.ChangeShapes Go.WideShapes Go.ChangeAt Go.RowKit Go.Proofs.YthpngchngnaloaaGreatDoor.Vm
set_option maxRecDepth 100000
def extS : FuncId → Option (List AV → M → Outs (AV × M)) := fun g => cond (Nat.beq g 284) (some cmpX) Option.none
theorem cmp_named : (Tryz.f284.name == "runtime.NumGoroutine") = false := by kernel_rfl
theorem cmp_bodyless : Tryz.f284.body.isNone = true := by kernel_rfl
theorem cmp_next : Extern.findNext Tryz.f284 = Option.none := rfl
theorem cmp_find : Extern.find Tryz.f284 = some Extern.BytealgCompare.compare := rfl
theorem extS_ok : ∀ g e, extS g = some e → ∀ args m l, e args m = some l → ∀ K : AV → AH → Prop, (∀ v m', (v, m') ∈ l → K v m'.den) → ACall vmC.P [] g args m.den K := fun g e h args m l hl K hK => by
  unfold extS at h
  cases hg : Nat.beq g 284 with
  | false => rw [hg] at h; cases h
  | true =>
    rw [hg] at h
    cases h
    obtain rfl := Nat.eq_of_beq_eq_true hg
    exact cmpX_ok (vm_P ▸ Tryz.func284) cmp_named cmp_bodyless cmp_next cmp_find hl hK
theorem closed_runS {k : Nat} {g : FuncId} (h : okTrue (callX vmC extS (runX vmC [] extS k) false g [] vmM0) = true) : ACall vmC.P [] g [] vmM0.den fun v _ => v = .bool true :=
  closed_ok vm_res vm_ng' extS_ok k g [] vmM0 h
end Go.Proofs.YthpngchngnaloaaGreatDoor
