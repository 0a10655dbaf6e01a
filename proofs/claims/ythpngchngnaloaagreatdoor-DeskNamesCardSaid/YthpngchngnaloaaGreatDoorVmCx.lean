/- A program's types, as the abstract machine looks at them; a closed call. -/
import Derived.Test.YthpngchngnaloaaGreatDoorVmX6
namespace Go.Proofs.YthpngchngnaloaaGreatDoor.Vm

def shZ : AV → Sh
  | .int k _ => .int k
  | .bool _ => .bool
  | .str _ => .str
  | .ptr _ => .ptr
  | .slice .. => .slice
  | .map _ => .map
  | _ => .raw
def plainFieldB (P : Program) (f : Field) (i : Nat) (s : Sh) : Bool :=
  Nat.beq f.offset i && !(f.name == "_") &&
    match s, P.underlying f.type with
    | .bool, some .bool => true
    | .str, some .string => true
    | .int k, some (.int k') => decide (k = k')
    | _, _ => false
def plainFieldsB (P : Program) : List Field → Nat → List Sh → Bool
  | [], _, [] => true
  | f :: fs, i, s :: ss => plainFieldB P f i s && plainFieldsB P fs (i + 1) ss
  | _, _, _ => false
def plainB (P : Program) (t : TypeId) (sh : List Sh) : Bool :=
  match P.underlying t with
  | some (.struct fs) => plainFieldsB P fs.toList 0 sh && !P.stoodInHeld t && !P.eqGuardType P.depth t
  | _ => false
theorem plainField_ok {P : Program} {f : Field} {i : Nat} {s : Sh} (h : plainFieldB P f i s = true) : PlainField P f i s := by
  simp only [plainFieldB, Bool.and_eq_true, Nat.beq_eq, Bool.not_eq_true'] at h
  refine ⟨h.1.1, h.1.2, ?_⟩
  have h2 := h.2
  split at h2
  · assumption
  · assumption
  · rename_i e; simp only [decide_eq_true_eq] at h2; subst h2; exact e
  · cases h2
theorem plainFields_ok {P : Program} : ∀ {fs : List Field} {i : Nat} {ss : List Sh}, plainFieldsB P fs i ss = true → PlainFields P fs i ss
  | [], _, [], _ => trivial
  | [], _, _ :: _, h => by cases h
  | _ :: _, _, [], h => by cases h
  | f :: fs, i, s :: ss, h => by
    simp only [plainFieldsB, Bool.and_eq_true] at h
    exact ⟨plainField_ok h.1, plainFields_ok h.2⟩
theorem plain_ok {P : Program} {t : TypeId} {sh : List Sh} (h : plainB P t sh = true) : PlainStruct P t sh := by
  unfold plainB at h
  split at h
  case h_2 => cases h
  rename_i fs hu
  simp only [Bool.and_eq_true, Bool.not_eq_true'] at h
  refine ⟨h.1.2, h.2, ?_⟩
  rw [hu]
  exact plainFields_ok h.1.1
def tiOf (P : Program) (t : TypeId) : Option TI :=
  match P.underlying t, P.info? t with
  | some d, some i =>
    match i.zero with
    | some z =>
      cond (Nat.beq z.cells.size i.size && z.cells.toList.all (·.oneCell') && same (ofV z) (cond (tdOf d).isAgg (.agg (ofVs z.cells.toList)) ((ofVs z.cells.toList).headD .any)))
        (some ⟨tdOf d, i.size, i.bytes, ofVs z.cells.toList, (ofVs z.cells.toList).map shZ, plainB P t ((ofVs z.cells.toList).map shZ)⟩) none
    | none => none
  | _, _ => none
theorem tiOf_ok {P : Program} {t : TypeId} {x : TI} (h : tiOf P t = some x) : TIok P t x := by
  unfold tiOf at h
  split at h
  case h_2 => cases h
  rename_i d i hu hi
  split at h
  case h_2 => cases h
  rename_i z hz
  rw [Bool.cond_eq_ite] at h
  split at h
  case isFalse => cases h
  rename_i hc
  simp only [Bool.and_eq_true, Nat.beq_eq] at hc
  cases h
  refine ⟨⟨d, hu, rfl⟩, ⟨i, hi, rfl, rfl, z, hz, rfl, hc.1.1, fun v hv => List.all_eq_true.1 hc.1.2 v (by simpa using hv), ?_⟩, fun h => plain_ok h⟩
  rw [same_eq _ _ hc.2]
  unfold zeroAV
  simp only [Bool.cond_eq_ite]
/-- The context of a program: nothing is known of results. -/
def cxOf (P : Program) (hm : P.follows .mixedOrders = true) : Cx := ⟨P, tiOf P, fun _ _ h => tiOf_ok h, hm, fun _ => none⟩

/-- No function of the program is the one that the model answers by itself. -/
def noGor (P : Program) : Bool := P.funcs.toList.all fun fn => !(fn.name == "runtime.NumGoroutine")
theorem noGor_ok {P : Program} (h : noGor P = true) (g : Nat) (fn : Func) (hf : P.funcs[g]? = some fn) : (fn.name == "runtime.NumGoroutine") = false := by
  have := List.all_eq_true.1 h fn (by
    obtain ⟨hlt, rfl⟩ := Array.getElem?_eq_some_iff.1 hf
    simp)
  simpa using this

def okTrue : Outs (AV × M) → Bool
  | some l => l.all fun p => match p.1 with
    | .bool true => true
    | _ => false
  | none => false
theorem closed_ok {C : Cx} (hres : ∀ t, C.res t = none) {gl : List Nat} {ext : FuncId → Option (List AV → M → Outs (AV × M))} (hng : noGor C.P = true)
    (hext : ∀ g e, ext g = some e → ∀ args m l, e args m = some l → ∀ K : AV → AH → Prop, (∀ v m', (v, m') ∈ l → K v m'.den) → ACall C.P gl g args m.den K) (k : Nat) (g : FuncId) (args : List AV) (m : M)
    (h : okTrue (callX C ext (runX C gl ext k) false g args m) = true) : ACall C.P gl g args m.den fun v _ => v = .bool true := by
  cases hr : callX C ext (runX C gl ext k) false g args m with
  | none => rw [hr] at h; cases h
  | some l =>
    rw [hr] at h
    refine callX_ok (noGor_ok hng) hext (runX_ok hres (noGor_ok hng) hext k) false g args m l hr _ fun v m' hm => ?_
    have := List.all_eq_true.1 h _ hm
    simp only at this
    cases v with
    | bool b => cases b with
      | true => rfl
      | false => cases this
    | _ => cases this
end Go.Proofs.YthpngchngnaloaaGreatDoor.Vm
