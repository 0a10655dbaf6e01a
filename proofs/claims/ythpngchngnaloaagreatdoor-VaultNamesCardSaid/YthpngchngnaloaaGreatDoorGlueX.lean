/- What closed statements of this seat share: Go's own comparison of strings, and two functions of the program, stand for themselves. Conditions: none of its own. -/
import Derived.Test.YthpngchngnaloaaGreatDoorGlue
import Derived.Test.YthpngchngnaloaaGreatDoorNumber
namespace Go.Proofs.YthpngchngnaloaaGreatDoor
open Go.ChangeShapes Go.WideShapes Go.ChangeAt Go.RowKit Go.Proofs.YthpngchngnaloaaGreatDoor.Vm
set_option maxRecDepth 100000
theorem cmp_named : (Tryz.f284.name == "runtime.NumGoroutine") = false := by kernel_rfl
theorem cmp_bodyless : Tryz.f284.body.isNone = true := by kernel_rfl
theorem cmp_next : Extern.findNext Tryz.f284 = Option.none := rfl
theorem cmp_find : Extern.find Tryz.f284 = some Extern.BytealgCompare.compare := rfl
noncomputable def extY : FuncId → Option (List AV → M → Outs (AV × M)) := fun g => ifB (Nat.beq g 284) (some cmpX) (ifB (Nat.beq g 218) (some halvesX) (ifB (Nat.beq g 221) (some numberX) Option.none))
theorem extY_ok : ∀ g e, extY g = some e → ∀ args m l, e args m = some l → ∀ K : AV → AH → Prop, (∀ v m', (v, m') ∈ l → K v m'.den) → ACall vmC.P [] g args m.den K := fun g e h args m l hl K hK => by
  unfold extY at h
  simp only [ifB_eq, cb] at h
  split at h
  · rename_i hg
    subst hg
    cases h
    exact cmpX_ok (vm_P ▸ Tryz.func284) cmp_named cmp_bodyless cmp_next cmp_find hl hK
  · split at h
    · rename_i hg
      subst hg
      cases h
      exact halvesX_ok (fun n k σ K hk hK => vm_P ▸ halves_acall n k hk hK) hl hK
    · split at h
      · rename_i hg
        subst hg
        cases h
        exact numberX_ok (fun a n c l σ K hl hn hK => vm_P ▸ number_acall hl hn hK) hl hK
      · cases h
theorem closed_runY {K d : Nat} {g : FuncId} (h : okTrue (callY vmC [] extY K d false g [] vmM0) = true) : ACall vmC.P [] g [] vmM0.den fun v _ => v = .bool true :=
  closedY_ok vm_res vm_ng' extY_ok K d g [] vmM0 h
end Go.Proofs.YthpngchngnaloaaGreatDoor
