/- An operation of the model does what the abstract machine asks. -/
import Derived.Test.YthpngchngnaloaaGreatDoorVmS10
import Derived.Test.YthpngchngnaloaaGreatDoorVmCode
namespace Go.Proofs.YthpngchngnaloaaGreatDoor.Vm
open RowKit (Below)

/-- What an operation comes to. -/
def OpRun (P : Program) (o : Oper) (ρ : Operand → Value) (w : World) (R : Value → World → Prop) : Prop :=
  match (execOp ρ o).run P w with
  | .ok (.value v) w' => R v w'
  | .ok .skip w' => R undef w'
  | .ok (.enter f args) w' => Calls P f args w' fun
      | .returned v, w'' => R v w''
      | _, _ => False
  | .ok (.round l f tmps assign body) w' => RoundIn Fence.wide 0 P l f tmps assign body w' fun
      | .returned v, w'' => R v w''
      | _, _ => False
  | _ => False
theorem OpRun.wp {P : Program} {o : Oper} {a : Act} {w : World} {R : Value → World → Prop} {next : Act → World → Prop} {Q : Exit → Act → World → Prop} {rd : Option Nat} (h : OpRun P o a.eval w R) (hn : ∀ v w', R v w' → next (a.put o.dst v) w') :
    o.wpIn (fw rd) 0 P a w next Q := by
  have hsem : Oper.semAt (fw rd).round a.eval o = execOp a.eval o := by
    by_cases hd : ∀ c, o.op ≠ .defer c
    · exact Oper.semAt_eq _ _ _ hd
    · exfalso
      simp only [ne_eq, Classical.not_forall, Classical.not_not] at hd
      obtain ⟨c, hc⟩ := hd
      unfold OpRun at h
      have e : execOp a.eval o = (do pure (.defer (← resolve a.eval c o.type)) : Sem Next) := by unfold execOp; rw [hc]
      rw [e, Sem.run_bind] at h
      cases hr : (resolve a.eval c o.type).run P w with
      | ok d w' => rw [hr] at h; exact h
      | halt x w' => rw [hr] at h; exact h
  refine ⟨fun f _ => trivial, ?_⟩
  rw [hsem]
  unfold OpRun at h
  split at h
  · rename_i v w' e; rw [e]; exact hn _ _ h
  · rename_i w' e; rw [e]; exact hn _ _ h
  · rename_i f args w' e
    rw [e]
    refine ⟨(fun hx => by simp [fw, Fence.wide] at hx), ?_⟩
    refine CallsIn.mono (F := fw rd) (n := 0 - 1) (callsIn_wide (n := 0 - 1).2 h) fun e w'' he => ?_
    cases e with
    | returned v => exact hn _ _ he
    | panicked c => cases he
    | outgrown => cases he
  · rename_i l f tmps as body w' e
    rw [e]
    refine ⟨(fun hx => by simp [fw, Fence.wide] at hx), ?_⟩
    refine RoundIn.mono (F := fw rd) (n := 0 - 1) h fun e w'' he => ?_
    cases e with
    | returned v => exact hn _ _ he
    | panicked c => cases he
    | outgrown => cases he
  · cases h
theorem OpRun.mono {P : Program} {o : Oper} {ρ : Operand → Value} {w : World} {R R' : Value → World → Prop} (h : OpRun P o ρ w R) (hn : ∀ v w', R v w' → R' v w') : OpRun P o ρ w R' := by
  unfold OpRun at h ⊢
  split at h
  · exact hn _ _ h
  · exact hn _ _ h
  · refine Calls.mono h fun e w'' he => ?_
    cases e with
    | returned v => exact hn _ _ he
    | panicked c => cases he
    | outgrown => cases he
  · refine RoundIn.mono h fun e w'' he => ?_
    cases e with
    | returned v => exact hn _ _ he
    | panicked c => cases he
    | outgrown => cases he
  · cases h

section
variable {C : Cx} {G : Base} {ι : IM} {σ : AH} {w : World} {gl : List Nat} {n : Nat} {fr : Fr} {ρ : Operand → Value}

/-- What operands hold. -/
def Ops (ι : IM) (gl : List Nat) (n : Nat) (fr : Fr) (ρ : Operand → Value) (l : List Operand) : Prop := ∀ x, x ∈ l → VRel ι (ev gl n fr x) (ρ x)

/-- What is handed on behind an operation. -/
def After (G : Base) (ι : IM) (σ : AH) (K : AV → AH → Prop) (v' : Value) (w' : World) : Prop :=
  ∃ v σ' ι', Rel G ι' σ' w' ∧ Ext σ.next ι ι' ∧ σ.next ≤ σ'.next ∧ VRel ι' v v' ∧ K v σ'

theorem OpRun.of_gives {o : Oper} {s : Sem Value} {K : AV → AH → Prop} (he : execOp ρ o = (do pure (.value (← s)) : Sem Next)) (h : Gives G ι σ C.P w s K) : OpRun C.P o ρ w (After G ι σ K) := by
  obtain ⟨v, v', σ', ι', w', hrun, h1, h2, h3, h4, h5⟩ := h
  unfold OpRun
  rw [he]
  simp only [Sem.run_bind, hrun, Result.andThen_ok, Sem.run_pure]
  exact ⟨v, σ', ι', h1, h2, h3, h4, h5⟩
theorem OpRun.of_pure {o : Oper} {s : Sem Value} {K : AV → AH → Prop} (hr : Rel G ι σ w) (he : execOp ρ o = (do pure (.value (← s)) : Sem Next)) (h : ∃ v v', s.run C.P w = .ok v' w ∧ VRel ι v v' ∧ K v σ) : OpRun C.P o ρ w (After G ι σ K) := by
  obtain ⟨v, v', h1, h2, h3⟩ := h
  exact .of_gives he (.same hr h1 h2 h3)
theorem OpRun.of_value {o : Oper} {K : AV → AH → Prop} {v : AV} {v' : Value} (hr : Rel G ι σ w) (he : execOp ρ o = (pure (.value v') : Sem Next)) (hv : VRel ι v v') (hK : K v σ) : OpRun C.P o ρ w (After G ι σ K) := by
  unfold OpRun
  rw [he]
  exact ⟨v, σ, ι, hr, Ext.refl _ _, Nat.le_refl _, hv, hK⟩
theorem OpRun.of_unit {o : Oper} {s : Sem Unit} {K : AV → AH → Prop} (he : execOp ρ o = (do s; pure .skip : Sem Next)) (h : ∃ σ' w', s.run C.P w = .ok () w' ∧ Rel G ι σ' w' ∧ σ'.next = σ.next ∧ K (.tuple []) σ') : OpRun C.P o ρ w (After G ι σ K) := by
  obtain ⟨σ', w', hrun, h1, h2, h3⟩ := h
  unfold OpRun
  rw [he]
  simp only [Sem.run_bind, hrun, Result.andThen_ok, Sem.run_pure]
  refine ⟨.tuple [], σ', ι, h1, Ext.refl _ _, by omega, ?_, h3⟩
  simp only [VRel]
  exact ⟨[], rfl, .nil⟩

theorem ops_list : ∀ {l : List Operand}, Ops ι gl n fr ρ l → VRelL ι (l.map (ev gl n fr)) (l.map ρ)
  | [], _ => .nil
  | x :: l, h => .cons (h x (by simp)) (ops_list fun y hy => h y (by simp [hy]))
theorem ops_parts : ∀ {l : List (Nat × Operand)}, Ops ι gl n fr ρ (l.map (·.2)) → PRel ι (l.map fun p => (p.1, ev gl n fr p.2)) (l.map fun p => (p.1, ρ p.2))
  | [], _ => .nil
  | (i, x) :: l, h => .cons i (h x (by simp)) (ops_parts fun y hy => h y (by simp [hy]))
theorem ops_opt {x : Option Operand} (h : ∀ y, x = some y → VRel ι (ev gl n fr y) (ρ y)) : ORel ι (optE gl n fr x) (x.map ρ) := by
  cases x with
  | none => trivial
  | some y => exact h y rfl

theorem callVc_sound (hr : Rel G ι σ w) (hgl : Globs ι gl) {o : Oper} {c : Call} {K : AV → AH → Prop} (ho : o.op = .call c) (hops : Ops ι gl n fr ρ o.op.operands.toList) (h : callVc C gl n c o.type fr σ K) :
    OpRun C.P o ρ w (After G ι σ K) := by
  have hargs : Ops ι gl n fr ρ c.args.toList := fun x hx => hops x (by rw [ho]; simp only [Op.operands, Call.operands]; simp [hx])
  have hal := ops_list hargs
  unfold callVc at h
  split at h
  · rename_i f hf
    have hfv : VRel ι (ev gl n fr f) (ρ f) := hops f (by rw [ho]; simp [Op.operands, Call.operands, hf])
    split at h
    case h_3 => cases h
    case h_2 =>
      rename_i b he
      rw [he] at hfv
      simp only [VRel] at hfv
      obtain ⟨p, hp, hρ⟩ := hfv
      have hc := h G ι w _ p hr hgl hal hp
      have hex : (execOp ρ o).run C.P w = (Instr.yield p.blk (c.args.toList.map ρ).toArray).run C.P w := by
        unfold execOp
        rw [ho]
        simp only [resolve, hf, hρ, Deferred.ofValue, Sem.run_bind, Sem.run_pure, Result.andThen_ok, invoke]
        congr 2
        apply Array.ext'
        simp
      unfold OpRun
      rw [hex]
      unfold YieldR at hc
      split at hc
      · rename_i l' f tmps as body w' e
        rw [e]
        exact hc
      · cases hc
    rename_i g first cap he
    rw [he] at hfv
    simp only [VRel] at hfv
    obtain ⟨fs', cs', hρ, h1, h2⟩ := hfv
    have hc := h G ι w _ hr hgl ((h1.append hal).append h2)
    have hex : (execOp ρ o).run C.P w = (callFunc g (fs' ++ c.args.toList.map ρ ++ cs').toArray).run C.P w := by
      unfold execOp
      rw [ho]
      simp only [resolve, hf, hρ, Deferred.ofValue, Sem.run_bind, Sem.run_pure, Result.andThen_ok, invoke]
      congr 1
      apply congrArg
      apply Array.ext'
      simp
    unfold OpRun
    rw [hex]
    unfold CallR at hc
    split at hc
    · rename_i v w' e
      rw [e]
      obtain ⟨v, σ', ι', h3, h4, h5, h6, h7⟩ := hc
      exact ⟨v, σ', ι', h3, h4, h5, h6, resK_imp h7⟩
    · rename_i f as w' e
      rw [e]
      refine Calls.mono hc fun e w'' he => ?_
      cases e with
      | returned v =>
        obtain ⟨v, σ', ι', h3, h4, h5, h6, h7⟩ := he
        exact ⟨v, σ', ι', h3, h4, h5, h6, resK_imp h7⟩
      | panicked c => cases he
      | outgrown => cases he
    · cases hc
  · cases h
  · rename_i b hb
    have hx : ∀ (s : Array Value → Sem Value), (∀ consts args, builtin b c.argTypes o.type consts args = (do pure (.value (← s args)) : Sem Next)) → Gives G ι σ C.P w (s (c.args.toList.map ρ).toArray) K → OpRun C.P o ρ w (After G ι σ K) := by
      intro s hs hgive
      obtain ⟨v, v', σ', ι', w', hrun, h1, h2, h3, h4, h5⟩ := hgive
      unfold OpRun
      unfold execOp
      rw [ho]
      simp only [resolve, hb, Sem.run_bind, Sem.run_pure, Result.andThen_ok, invoke, hs]
      have e1 : c.args.map ρ = (c.args.toList.map ρ).toArray := by apply Array.ext'; simp
      rw [e1, hrun]
      exact ⟨v, σ', ι', h1, h2, h3, h4, h5⟩
    have ets : c.argTypes.toList.toArray = c.argTypes := by simp
    split at h
    · refine hx (Builtin.append_ c.argTypes o.type) (fun _ _ => rfl) ?_
      have := appendVc_sound (rt := o.type) hr h hal
      rwa [ets] at this
    · refine hx (Builtin.copy_ c.argTypes o.type) (fun _ _ => rfl) ?_
      have := copyVc_sound (rt := o.type) hr h hal
      rwa [ets] at this
    · refine hx (Builtin.clear_ c.argTypes o.type) (fun _ _ => rfl) ?_
      have := clearVc_sound (rt := o.type) hr h hal
      rwa [ets] at this
    · refine hx (Builtin.delete_ c.argTypes o.type) (fun _ _ => rfl) ?_
      have := deleteVc_sound (rt := o.type) hr h hal
      rwa [ets] at this
    · split at h
      case h_2 => cases h
      rename_i t ts x xs ht hxs
      rw [hxs] at hal
      refine hx (Builtin.len_ c.argTypes o.type) (fun _ _ => rfl) ?_
      have := lenVc_sound (rt := o.type) (ts := ts) hr h hal
      rw [← ht, ets, ← hxs] at this
      obtain ⟨v, v', σ', ι', w', hrun, h1, h2, h3, h4, rfl, h5⟩ := this
      exact ⟨v, v', _, ι', w', hrun, h1, h2, h3, h4, h5⟩
    · split at h
      case h_2 => cases h
      rename_i t ts x xs ht hxs
      split at h
      case h_2 => cases h
      rename_i ti a m cp hti hev
      split at h
      case h_2 => cases h
      rename_i e hd
      rw [hxs, List.map_cons, hev] at hal
      refine hx (Builtin.cap_ c.argTypes o.type) (fun _ _ => rfl) ?_
      have := capVc_sound (rt := o.type) (ts := ts) hr hti hd h hal
      rwa [← ht, ets, ← hxs] at this
    · split at h
      case h_2 => cases h
      rename_i k a r hl
      rw [hl] at hal
      refine hx (Builtin.max_ c.argTypes o.type) (fun _ _ => rfl) ?_
      obtain ⟨v, v', h1, h2, h3⟩ := max_sound (C := C) (ts := c.argTypes) (rt := o.type) h hal
      exact .same hr (h1 w) h2 h3
    · split at h
      case h_2 => cases h
      rename_i k a r hl
      rw [hl] at hal
      refine hx (Builtin.min_ c.argTypes o.type) (fun _ _ => rfl) ?_
      obtain ⟨v, v', h1, h2, h3⟩ := min_sound (C := C) (ts := c.argTypes) (rt := o.type) h hal
      exact .same hr (h1 w) h2 h3
    · cases h
end
end Go.Proofs.YthpngchngnaloaaGreatDoor.Vm
