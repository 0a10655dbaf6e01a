/- Go's own comparison of strings, as the abstract machine carries it out. -/
import Derived.Test.YthpngchngnaloaaGreatDoorVmCx
import Derived.Lib.Bytealg
import Derived.Laws.Externs
namespace Go.Proofs.YthpngchngnaloaaGreatDoor.Vm

def cmpX : List AV → M → Outs (AV × M)
  | [.str a, .str b], m => some [(.int .i64 (Lib.compareBytes a b), m)]
  | _, _ => none
theorem cmp_acall {P : Program} {gl : List Nat} {g : FuncId} {fn : Func} (hf : P.funcs[g]? = some fn) (hname : (fn.name == "runtime.NumGoroutine") = false) (hb : fn.body.isNone = true) (hn : Extern.findNext fn = none)
    (he : Extern.find fn = some Extern.BytealgCompare.compare) {a b : List UInt8} {σ : AH} {K : AV → AH → Prop} (hK : K (.int .i64 (Lib.compareBytes a b)) σ) : ACall P gl g [.str a, .str b] σ K := by
  intro G ι w args' hr hgl hargs
  simp only [VRelL, VRel] at hargs
  obtain ⟨v, vs, rfl, rfl, u, us, rfl, rfl, rfl⟩ := hargs
  unfold CallR
  rw [run_callFunc_extern hf hname hb hn he]
  have := Lib.run_compareString (P := P) ⟨a.toArray⟩ ⟨b.toArray⟩ w
  rw [this]
  simp only [Result.andThen]
  refine ⟨_, σ, ι, hr, Ext.refl _ _, Nat.le_refl _, ?_, hK⟩
  simp only [VRel]
theorem cmpX_ok {P : Program} {gl : List Nat} {g : FuncId} {fn : Func} (hf : P.funcs[g]? = some fn) (hname : (fn.name == "runtime.NumGoroutine") = false) (hb : fn.body.isNone = true) (hn : Extern.findNext fn = none)
    (he : Extern.find fn = some Extern.BytealgCompare.compare) {args : List AV} {m : M} {l : List (AV × M)} (h : cmpX args m = some l) {K : AV → AH → Prop} (hK : ∀ v m', (v, m') ∈ l → K v m'.den) : ACall P gl g args m.den K := by
  unfold cmpX at h
  split at h
  · cases h
    exact cmp_acall hf hname hb hn he (hK _ _ (List.mem_singleton.2 rfl))
  · cases h
end Go.Proofs.YthpngchngnaloaaGreatDoor.Vm
