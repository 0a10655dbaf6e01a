/- An operation of the model does what the abstract machine asks: all operations. -/
import Derived.Test.YthpngchngnaloaaGreatDoorVmE
namespace Go.Proofs.YthpngchngnaloaaGreatDoor.Vm
open RowKit (Below)
section
variable {C : Cx} {G : Base} {ι : IM} {σ : AH} {w : World} {gl : List Nat} {n : Nat} {fr : Fr} {ρ : Operand → Value}

theorem assertVc_sound {x : AV} {x' : Value} {s t : TypeId} {ok : Bool} {K : AV → Prop} (h : assertVc C x t ok K) (hx : VRel ι x x') :
    ∃ v v', (∀ w, (Instr.typeAssert x' s t ok).run C.P w = .ok v' w) ∧ VRel ι v v' ∧ K v := by
  unfold assertVc at h
  split at h
  · rename_i ti t' v hti
    obtain ⟨d, hd, htd, hdP⟩ := C.und hti
    obtain ⟨z, hz, hzr⟩ := C.zeroAV ι hti
    simp only [VRel] at hx
    obtain ⟨y, rfl, hy⟩ := hx
    split at h
    · cases h
    rename_i hni
    have hd' : ∀ ms, d ≠ .interface ms := by rintro ms rfl; exact hni htd.symm
    split at h
    · rename_i he
      subst he
      refine ⟨_, if ok then .tuple #[y, .bool true] else y, fun w => ?_, ?_, h⟩
      · unfold Instr.typeAssert
        simp only [Sem.run_bind, hd, Result.andThen_ok]
        cases d <;> simp_all
      · cases ok
        · exact hy
        · simp only [if_true, VRel]
          exact ⟨[_, _], rfl, .cons hy (.cons (by simp only [VRel]) .nil)⟩
    · rename_i he
      split at h
      case isFalse => cases h
      rename_i hok
      subst hok
      refine ⟨_, .tuple #[z, .bool false], fun w => ?_, ?_, h⟩
      · unfold Instr.typeAssert
        simp only [Sem.run_bind, hd, Result.andThen_ok]
        cases d <;> simp_all
      · simp only [VRel]
        exact ⟨[_, _], rfl, .cons hzr (.cons (by simp only [VRel]) .nil)⟩
  · rename_i ti hti
    obtain ⟨d, hd, htd, hdP⟩ := C.und hti
    obtain ⟨z, hz, hzr⟩ := C.zeroAV ι hti
    simp only [VRel] at hx
    subst hx
    split at h
    · cases h
    rename_i hni
    have hd' : ∀ ms, d ≠ .interface ms := by rintro ms rfl; exact hni htd.symm
    split at h
    case isFalse => cases h
    rename_i hok
    subst hok
    refine ⟨_, .tuple #[z, .bool false], fun w => ?_, ?_, h⟩
    · unfold Instr.typeAssert
      simp only [Sem.run_bind, hd, Result.andThen_ok]
      cases d <;> simp_all
    · simp only [VRel]
      exact ⟨[_, _], rfl, .cons hzr (.cons (by simp only [VRel]) .nil)⟩
  · cases h

theorem ops_parts' {ps : Array (Nat × Operand)} (h : Ops ι gl n fr ρ (ps.toList.map (·.2))) : PRel ι (ps.toList.map fun p => (p.1, ev gl n fr p.2)) (ps.map fun (i, x) => (i, ρ x)).toList := by
  have := ops_parts (l := ps.toList) h
  rwa [Array.toList_map]

set_option maxHeartbeats 1000000 in
theorem opVc_sound (hr : Rel G ι σ w) (hgl : Globs ι gl) {o : Oper} {wide : Bool} {K : AV → AH → Prop} (hops : Ops ι gl n fr ρ o.op.operands.toList) (h : opVc C gl wide n o fr σ K) :
    OpRun C.P o ρ w (After G ι σ K) := by
  unfold opVc at h
  split at h
  · rename_i x e
    exact .of_value hr (by unfold execOp; rw [e]) (hops x (by simp [e, Op.operands])) h
  · rename_i x e
    exact .of_value hr (by unfold execOp; rw [e]) (hops x (by simp [e, Op.operands])) h
  · rename_i c a b e
    have hc := hops c (by simp [e, Op.operands])
    have ha := hops a (by simp [e, Op.operands])
    have hb := hops b (by simp [e, Op.operands])
    split at h
    case h_2 => cases h
    rename_i t he
    rw [he] at hc
    simp only [VRel] at hc
    refine .of_value (v := if t then ev gl n fr a else ev gl n fr b) (v' := if t then ρ a else ρ b) hr (by unfold execOp; rw [e]; simp only [hc]; rfl) ?_ ?_
    · cases t
      · exact hb
      · exact ha
    · cases t
      · exact h
      · exact h
  · rename_i t e
    split at h
    case h_2 => cases h
    rename_i ti hti
    exact .of_gives (s := Instr.alloc t true (.tuple #[])) (by unfold execOp; rw [e]) (allocVc_sound hr hti h)
  · rename_i t x e
    exact .of_gives (s := Instr.box t (ρ x)) (by unfold execOp; rw [e]) (boxVc_sound hr h (hops x (by simp [e, Op.operands])))
  · rename_i t ps e
    have hp := ops_parts' (ι := ι) (gl := gl) (n := n) (fr := fr) (ρ := ρ) (ps := ps) fun y hy => hops y (by rw [e]; simpa [Op.operands] using hy)
    refine .of_pure (s := Instr.build t (ps.map fun (i, x) => (i, ρ x))) hr (by unfold execOp; rw [e]) ?_
    obtain ⟨v, v', h1, h2⟩ := buildVc_sound (C := C) (ι := ι) (parts' := ps.map fun (i, x) => (i, ρ x)) h hp
    exact ⟨v, v', h1 _, h2⟩
  · rename_i t len ps e
    have hp := ops_parts' (ι := ι) (gl := gl) (n := n) (fr := fr) (ρ := ρ) (ps := ps) fun y hy => hops y (by rw [e]; simpa [Op.operands] using hy)
    refine .of_gives (s := Instr.buildSlice t len (ps.map fun (i, x) => (i, ρ x))) (by unfold execOp; rw [e]) ?_
    exact buildSliceVc_sound (C := C) hr (parts' := ps.map fun (i, x) => (i, ρ x)) h hp
  · rename_i t a e
    exact .of_pure (s := Instr.loadAt t (ρ a)) hr (by unfold execOp; rw [e]) (loadVc_sound h hr (hops a (by simp [e, Op.operands])))
  · rename_i t a x e
    exact .of_unit (s := Instr.storeAt t (ρ a) (ρ x)) (by unfold execOp; rw [e]) (storeVc_sound h hr (hops a (by simp [e, Op.operands])) (hops x (by simp [e, Op.operands])))
  · rename_i x e
    have hx := hops x (by simp [e, Op.operands])
    split at h
    · rename_i a he
      rw [he] at hx
      cases a with
      | none => cases h
      | some a =>
        obtain ⟨b, o⟩ := a
        have hx' := hx
        obtain ⟨p, hp, hv⟩ := vrel_ptr hx
        refine .of_value hr (v' := ρ x) (by unfold execOp; rw [e]; simp only [hv]) hx' h
    · rename_i f fs cs he
      rw [he] at hx
      have hx' := hx
      simp only [VRel] at hx
      obtain ⟨fs', cs', hv, h1, h2⟩ := hx
      refine .of_value hr (v' := ρ x) (by unfold execOp; rw [e]; simp only [hv]) hx' h
    · cases h
  · rename_i op t x y q e
    refine .of_pure (s := do eqGuard op t x y (ρ x) (ρ y); binOp op t (ρ x) (ρ y)) hr (by unfold execOp; rw [e]) ?_
    obtain ⟨v, v', h1, h2⟩ := binVc_sound (X := x) (Y := y) h (hops x (by simp [e, Op.operands])) (hops y (by simp [e, Op.operands]))
    exact ⟨v, v', h1 _, h2⟩
  · rename_i op t x e
    refine .of_pure (s := Op.unary op (ρ x)) hr (by unfold execOp; rw [e]) ?_
    obtain ⟨v, v', h1, h2⟩ := unVc_sound (C := C) h (hops x (by simp [e, Op.operands]))
    exact ⟨v, v', h1 _, h2⟩
  · rename_i s d x e
    exact .of_gives (s := convert s d (ρ x)) (by unfold execOp; rw [e]) (convVc_sound hr h (hops x (by simp [e, Op.operands])))
  · rename_i t x e
    have hx := hops x (by simp [e, Op.operands])
    split at h
    case h_2 => cases h
    rename_i ti hti
    obtain ⟨d, hd, htd, hdP⟩ := C.und hti
    refine .of_pure (s := Instr.makeInterface t (ρ x)) hr (by unfold execOp; rw [e]) ⟨.iface t (ev gl n fr x), .iface t (ρ x), ?_, by simp only [VRel]; exact ⟨_, rfl, hx⟩, ?_⟩
    · unfold Instr.makeInterface
      simp only [Sem.run_bind, hd, Result.andThen_ok]
      split at h
      · cases h
      · cases h
      · rename_i hni _
        cases d <;> simp_all [tdOf]
    · split at h
      · cases h
      · cases h
      · exact h
  · rename_i fn first cap e
    split at h
    case h_2 => cases h
    rename_i f
    have h1 : Ops ι gl n fr ρ first.toList := fun y hy => hops y (by rw [e]; simp [Op.operands]; exact .inl (by simpa using hy))
    have h2 : Ops ι gl n fr ρ cap.toList := fun y hy => hops y (by rw [e]; simp [Op.operands]; exact .inr (by simpa using hy))
    refine .of_pure (s := Instr.makeFunc (.func f) (first.map ρ) (cap.map ρ)) hr (by unfold execOp; rw [e]) ⟨_, .func (.func f) (first.map ρ) (cap.map ρ), rfl, ?_, h⟩
    simp only [VRel]
    exact ⟨first.toList.map ρ, cap.toList.map ρ, by rw [show first.map ρ = (first.toList.map ρ).toArray from Array.ext' (by simp), show cap.map ρ = (cap.toList.map ρ).toArray from Array.ext' (by simp)], ops_list h1, ops_list h2⟩
  · rename_i t r e
    split at h
    · exact .of_gives (s := Instr.makeMap t (Option.map ρ none)) (by unfold execOp; rw [e]) (makeMap_sound hr h)
    · rename_i x
      split at h
      case h_2 => cases h
      rename_i k i ti hev hti
      split at h
      case h_2 => cases h
      rename_i kt et hd'
      obtain ⟨d, hd, htd, hdP⟩ := C.und hti
      obtain rfl := td_map (htd.trans hd')
      have hx := hops x (by simp [e, Op.operands])
      rw [hev] at hx
      simp only [VRel] at hx
      refine .of_gives (s := Instr.makeMap t (Option.map ρ (some x))) (by unfold execOp; rw [e]) ?_
      obtain ⟨v, v', σ', ι', w', hrun, hrest⟩ := makeMap_sound (C := C) (t := t) hr h
      refine ⟨v, v', σ', ι', w', ?_, hrest⟩
      rw [← hrun]
      unfold Instr.makeMap
      simp only [Option.map, Sem.run_bind, hd, Result.andThen_ok, hx]
      rfl
  · rename_i t l c e
    exact .of_gives (s := Instr.makeSlice t (ρ l) (ρ c)) (by unfold execOp; rw [e]) (makeSliceVc_sound hr h (hops l (by simp [e, Op.operands])) (hops c (by simp [e, Op.operands])))
  · rename_i t x lo hi mx e
    refine .of_pure (s := Instr.sliceAt t (ρ x) (lo.map ρ) (hi.map ρ) (mx.map ρ)) hr (by unfold execOp; rw [e]) ?_
    obtain ⟨v, v', h1, h2⟩ := sliceVc_sound (C := C) hr h (hops x (by simp [e, Op.operands]))
      (ops_opt fun y hy => hops y (by simp [e, Op.operands, hy])) (ops_opt fun y hy => hops y (by simp [e, Op.operands, hy])) (ops_opt fun y hy => hops y (by simp [e, Op.operands, hy]))
    exact ⟨v, v', h1 _, h2⟩
  · rename_i t x f e
    refine .of_pure (s := Instr.fieldAt t (ρ x) f) hr (by unfold execOp; rw [e]) ?_
    obtain ⟨v, v', h1, h2⟩ := fieldAddrVc_sound (C := C) h (hops x (by simp [e, Op.operands]))
    exact ⟨v, v', h1 _, h2⟩
  · rename_i t x f e
    refine .of_pure (s := Instr.field t (ρ x) f) hr (by unfold execOp; rw [e]) ?_
    obtain ⟨v, v', h1, h2⟩ := fieldVc_sound (C := C) h (hops x (by simp [e, Op.operands]))
    exact ⟨v, v', h1 _, h2⟩
  · rename_i t x i e
    refine .of_pure (s := Instr.indexAt t (ρ x) (ρ i)) hr (by unfold execOp; rw [e]) ?_
    obtain ⟨v, v', h1, h2⟩ := indexAddrVc_sound (C := C) h (hops x (by simp [e, Op.operands])) (hops i (by simp [e, Op.operands]))
    exact ⟨v, v', h1 _, h2⟩
  · rename_i t x i e
    refine .of_pure (s := Instr.index t (ρ x) (ρ i)) hr (by unfold execOp; rw [e]) ?_
    obtain ⟨v, v', h1, h2⟩ := indexVc_sound (C := C) h (hops x (by simp [e, Op.operands])) (hops i (by simp [e, Op.operands]))
    exact ⟨v, v', h1 _, h2⟩
  · rename_i t x i ok e
    exact .of_pure (s := Instr.lookup t (ρ x) (ρ i) ok) hr (by unfold execOp; rw [e]) (lookupVc_sound hr h (hops x (by simp [e, Op.operands])) (hops i (by simp [e, Op.operands])))
  · rename_i t m k x e
    exact .of_unit (s := Instr.mapUpdate t (ρ m) (ρ k) (ρ x)) (by unfold execOp; rw [e]) (mapPutVc_sound hr h (hops m (by simp [e, Op.operands])) (hops k (by simp [e, Op.operands])) (hops x (by simp [e, Op.operands])))
  · rename_i t m k x e
    exact .of_unit (s := Instr.mapUpdate t (ρ m) (ρ k) (ρ x)) (by unfold execOp; rw [e]) (mapPutVc_sound hr h (hops m (by simp [e, Op.operands])) (hops k (by simp [e, Op.operands])) (hops x (by simp [e, Op.operands])))
  · rename_i t m k e
    exact .of_gives (s := Instr.mapEntry t (ρ m) (ρ k)) (by unfold execOp; rw [e]) (mapEntryVc_sound hr h (hops m (by simp [e, Op.operands])) (hops k (by simp [e, Op.operands])))
  · rename_i t m s x e
    exact .of_unit (s := Instr.entryStore t (ρ m) (ρ s) (ρ x)) (by unfold execOp; rw [e]) (entryStoreVc_sound hr h (hops m (by simp [e, Op.operands])) (hops s (by simp [e, Op.operands])) (hops x (by simp [e, Op.operands])))
  · rename_i t x e
    exact .of_gives (s := Instr.range t (ρ x)) (by unfold execOp; rw [e]) (rangeVc_sound hr h (hops x (by simp [e, Op.operands])))
  · rename_i it b e
    exact .of_gives (s := Instr.next (ρ it) b o.type) (by unfold execOp; rw [e]) (nextVc_sound hr h (hops it (by simp [e, Op.operands])))
  · rename_i x xt t ok e
    refine .of_pure (s := Instr.typeAssert (ρ x) xt t ok) hr (by unfold execOp; rw [e]) ?_
    obtain ⟨v, v', h1, h2⟩ := assertVc_sound (C := C) h (hops x (by simp [e, Op.operands]))
    exact ⟨v, v', h1 _, h2⟩
  · rename_i t i e
    have hx := hops t (by simp [e, Op.operands])
    split at h
    case h_2 => cases h
    rename_i vs he
    rw [he] at hx
    simp only [VRel] at hx
    obtain ⟨l, hl, hvl⟩ := hx
    split at h
    case h_2 => cases h
    rename_i v hv
    obtain ⟨v', hv', hvv⟩ := hvl.get hv
    refine .of_pure (s := Instr.extract (ρ t) i) hr (by unfold execOp; rw [e]) ⟨v, v', ?_, hvv, h⟩
    unfold Instr.extract
    simp [hl, hv']
  · rename_i c e
    exact callVc_sound hr hgl e hops h
  · cases h
end
end Go.Proofs.YthpngchngnaloaaGreatDoor.Vm
