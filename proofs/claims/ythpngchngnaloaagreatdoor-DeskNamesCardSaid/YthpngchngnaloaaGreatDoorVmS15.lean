/- Operations in the order of the text. -/
import Derived.Test.YthpngchngnaloaaGreatDoorVmS14
namespace Go.Proofs.YthpngchngnaloaaGreatDoor.Vm
open RowKit (Below)

theorem Globs.le {ι ι' : IM} {gl : List Nat} (h : Globs ι gl) (hle : ι.le ι') : Globs ι' gl := fun g hg => by
  obtain ⟨p, hp, h1, h2⟩ := h g hg
  exact ⟨p, hle _ _ hp, h1, h2⟩
theorem FrRel.mono {ι ι' : IM} {n : Nat} {fr : Fr} {tmps : Array Value} (h : FrRel ι n fr tmps) (hle : ι.le ι') : FrRel ι' n fr tmps :=
  ⟨h.1, fun t ht => by obtain ⟨v, hv, hr⟩ := h.2 t ht; exact ⟨v, hv, VRel.mono hle _ _ hr⟩⟩
theorem FrRel.put {ι : IM} {n : Nat} {fr : Fr} {a : Act} (h : FrRel ι n fr a.tmps) (dst : Option Nat) {v : AV} {v' : Value} (hv : VRel ι v v') : FrRel ι n (setFr fr dst v) (a.put dst v').tmps := by
  cases dst with
  | none => exact h
  | some d =>
    refine ⟨by simp only [Act.put, Array.size_setIfInBounds]; exact h.1, fun t ht => ?_⟩
    simp only [setFr, Act.put]
    by_cases htd : t = d
    · subst htd
      have hlt : t < a.tmps.size := by rw [h.1]; exact ht
      refine ⟨v', by rw [Array.getElem?_setIfInBounds_self_of_lt hlt], ?_⟩
      rw [if_pos rfl]; exact hv
    · rw [if_neg htd, Array.getElem?_setIfInBounds_ne (Ne.symm htd)]
      exact h.2 t ht
theorem Act.put_defs (a : Act) (dst : Option Nat) (v : Value) : (a.put dst v).defers = a.defers := by cases dst <;> rfl

theorem ev_sound {ι : IM} {gl : List Nat} {n : Nat} {fr : Fr} {a : Act} (hf : FrRel ι n fr a.tmps) (hg : Globs ι gl) (x : Operand) : VRel ι (ev gl n fr x) (a.eval x) := by
  cases x with
  | tmp t =>
    simp only [ev]
    split
    · rename_i ht
      obtain ⟨v, hv, hr⟩ := hf.2 t ht
      simp only [Act.eval, Array.getD_eq_getD_getElem?, hv, Option.getD_some]
      exact hr
    · simp only [VRel]
  | const v => exact ofV_rel ι v
  | global g =>
    simp only [ev]
    split
    · rename_i h
      obtain ⟨p, hp, h1, h2⟩ := hg g (by simpa using h)
      simp only [VRel]
      exact ⟨p, hp, by simp [Act.eval, h1, h2]⟩
    · simp only [VRel]
  | func f =>
    simp only [ev, VRel]
    exact ⟨[], [], rfl, .nil, .nil⟩
theorem ops_sound {ι : IM} {gl : List Nat} {n : Nat} {fr : Fr} {a : Act} (hf : FrRel ι n fr a.tmps) (hg : Globs ι gl) (l : List Operand) : Ops ι gl n fr a.eval l := fun x _ => ev_sound hf hg x

/-- Where an activation stands, told by a frame and a memory. -/
structure St (G : Base) (ι0 : IM) (N0 : Nat) (gl : List Nat) (n : Nat) (df : List Deferred) (fr : Fr) (σ : AH) (ι : IM) (a : Act) (w : World) : Prop where
  frame : FrRel ι n fr a.tmps
  defers : a.defers = df
  rel : Rel G ι σ w
  ext : Ext N0 ι0 ι
  next : N0 ≤ σ.next
  globs : Globs ι gl

/-! ### Guards -/
/-- Whether an operation is carried out. -/
def GuardIs (n : Nat) (ops : Array Oper) (fr : Fr) (g : Option (Nat × Bool)) (run : Bool) : Prop :=
  ∀ (o : Oper) (tmps : Array Value), o.guard = g → (∀ j want oj t, g = some (j, want) → ops[j]? = some oj → oj.dst = some t → t < n → ∃ ι v, tmps[t]? = some v ∧ VRel ι (fr t) v) →
    Region.wanted o (yielded ops tmps) = run
theorem setFr_self (fr : Fr) (t : Nat) : setFr fr (some t) (fr t) = fr := by
  funext i
  simp only [setFr]
  split
  · rename_i h; rw [h]
  · rfl
theorem guard_is {n : Nat} {ops : Array Oper} {fr : Fr} {g : Option (Nat × Bool)} {K : Bool → Fr → Prop} (h : guardK n ops fr g K) : ∃ run, K run fr ∧ GuardIs n ops fr g run := by
  unfold guardK at h
  split at h
  · exact ⟨true, h, fun o tmps ho _ => by unfold Region.wanted; rw [ho]⟩
  · rename_i j want
    split at h
    case h_2 => cases h
    rename_i oj hoj
    split at h
    case h_2 => cases h
    rename_i t hdst
    split at h
    case isFalse => cases h
    rename_i htn
    have hy : ∀ (tmps : Array Value) (v : Value), tmps[t]? = some v → yielded ops tmps j = match v with | .bool b => some b | _ => none := by
      intro tmps v hv
      unfold yielded
      simp only [hoj, Option.bind_some, hdst, hv]
      cases v <;> rfl
    split at h
    · rename_i b hb
      cases b
      · refine ⟨!want, ?_, fun o tmps ho hv => ?_⟩
        · have := setFr_self fr t
          rw [hb] at this
          simp only [cond_false, this] at h
          exact h
        · obtain ⟨ι, v, hv, hr⟩ := hv j want oj t rfl hoj hdst htn
          rw [hb] at hr
          simp only [VRel] at hr
          subst hr
          unfold Region.wanted
          rw [ho]
          simp only [hy tmps _ hv]
          cases want <;> rfl
      · refine ⟨want, ?_, fun o tmps ho hv => ?_⟩
        · have := setFr_self fr t
          rw [hb] at this
          simp only [cond_true, this] at h
          exact h
        · obtain ⟨ι, v, hv, hr⟩ := hv j want oj t rfl hoj hdst htn
          rw [hb] at hr
          simp only [VRel] at hr
          subst hr
          unfold Region.wanted
          rw [ho]
          simp only [hy tmps _ hv]
          cases want <;> rfl
    · rename_i hb
      refine ⟨false, h, fun o tmps ho hv => ?_⟩
      obtain ⟨ι, v, hv, hr⟩ := hv j want oj t rfl hoj hdst htn
      rw [hb] at hr
      simp only [VRel, VRelL] at hr
      obtain ⟨l, rfl, rfl⟩ := hr
      unfold Region.wanted
      rw [ho]
      simp only [hy tmps _ hv]
      rfl
    · cases h

/-! ### The order of the text -/
section
variable {C : Cx} {G : Base} {ι0 : IM} {N0 : Nat} {gl : List Nat} {n : Nat} {df : List Deferred} {rd : Option Nat} {Q : Exit → Act → World → Prop}

theorem St.put {fr : Fr} {σ : AH} {ι : IM} {a : Act} {w : World} (h : St G ι0 N0 gl n df fr σ ι a w) (dst : Option Nat) {v : AV} {v' : Value} {σ' : AH} {ι' : IM} {w' : World}
    (h1 : Rel G ι' σ' w') (h2 : Ext σ.next ι ι') (h3 : σ.next ≤ σ'.next) (hv : VRel ι' v v') : St G ι0 N0 gl n df (setFr fr dst v) σ' ι' (a.put dst v') w' :=
  have hle := h.rel.le h2
  ⟨(h.frame.mono hle).put dst hv, by rw [Act.put_defs]; exact h.defers, h1, h.ext.trans h2 h.next, Nat.le_trans h.next h3, h.globs.le hle⟩
theorem vrel_undef (ι : IM) : VRel ι (.tuple []) undef := by
  simp only [VRel]
  exact ⟨[], rfl, .nil⟩
theorem opsVc_sound {wide : Bool} {ops : Array Oper} {K : Fr → AH → Prop} (hK : ∀ fr σ ι a w, St G ι0 N0 gl n df fr σ ι a w → K fr σ → Q .normal a w) :
    ∀ (l : List Nat) (fr : Fr) (σ : AH) (ι : IM) (a : Act) (w : World), St G ι0 N0 gl n df fr σ ι a w → opsVc C gl wide n ops K l fr σ → wpOpsIn (fw rd) 0 C.P ops Q l a w
  | [], fr, σ, ι, a, w, hs, h => hK fr σ ι a w hs h
  | i :: is, fr, σ, ι, a, w, hs, h => by
    simp only [opsVc] at h
    split at h
    case h_1 => cases h
    rename_i o ho
    obtain ⟨run, h, hg⟩ := guard_is h
    have hw := hg o a.tmps rfl fun j want oj t _ _ _ ht => by
      obtain ⟨v, hv, hr⟩ := hs.frame.2 t ht
      exact ⟨ι, v, hv, hr⟩
    simp only [wpOpsIn, ho]
    rw [hw]
    cases run with
    | true =>
      simp only [cond_true] at h
      simp only [if_true]
      refine (OpRun.wp (opVc_sound hs.rel hs.globs (ops_sound hs.frame hs.globs _) h) ?_)
      rintro v' w' ⟨v, σ', ι', h1, h2, h3, h4, h5⟩
      exact opsVc_sound hK is _ _ _ _ _ (hs.put o.dst h1 h2 h3 h4) h5
    | false =>
      simp only [cond_false] at h
      simp only [Bool.false_eq_true, if_false]
      exact ⟨fun _ _ => trivial, opsVc_sound hK is _ _ _ _ _ (hs.put o.dst hs.rel (Ext.refl _ _) (Nat.le_refl _) (vrel_undef ι)) h⟩
end
end Go.Proofs.YthpngchngnaloaaGreatDoor.Vm
