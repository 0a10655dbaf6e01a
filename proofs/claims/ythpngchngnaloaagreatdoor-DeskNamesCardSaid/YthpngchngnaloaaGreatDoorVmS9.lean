/- The operations of the model do what the abstract machine asks: all of reckoning, maps, strings gone through. -/
import Derived.Test.YthpngchngnaloaaGreatDoorVmS8
namespace Go.Proofs.YthpngchngnaloaaGreatDoor.Vm
open RowKit (Below)

section
variable {C : Cx} {G : Base} {ι : IM} {σ : AH} {w : World}

theorem eqGuard_not {op : BinOp} {t : TypeId} {x' y' : Value} {X Y : Operand} (hop : op ≠ .eql ∧ op ≠ .neq) (w : World) : (eqGuard op t X Y x' y').run C.P w = .ok () w := by
  unfold eqGuard
  cases op <;> first | rfl | (exact absurd rfl hop.1) | (exact absurd rfl hop.2)
theorem eqGuard_plain {op : BinOp} {t : TypeId} {x' y' : Value} {X Y : Operand} (h : x' ≠ .nilIface) (h' : ∀ c, x' ≠ .agg c) (w : World) : (eqGuard op t X Y x' y').run C.P w = .ok () w := by
  unfold eqGuard
  rw [Sem.run_ite]
  refine (ite_self_of (fun _ => rfl) ?_)
  cases x' <;> first | rfl | (exact absurd rfl h) | (exact absurd rfl (h' _))

def noNum : Value → Bool
  | .int .. | .float .. | .complex .. | .string _ => false
  | _ => true
theorem binOp_eql {t : TypeId} {x y : Value} (h : noNum x = true) : binOp .eql t x y = (do pure (.bool (← Op.equal t x y)) : Sem Value) := by
  cases x <;> first | rfl | (cases h; done) | (cases y <;> rfl)
theorem binOp_neq {t : TypeId} {x y : Value} (h : noNum x = true) : binOp .neq t x y = (do pure (.bool (!(← Op.equal t x y))) : Sem Value) := by
  cases x <;> first | rfl | (cases h; done) | (cases y <;> rfl)
theorem eqVc_num {t : TypeId} {x y : AV} {x' : Value} {K : Bool → Prop} (h : eqVc C t x y K) (hx : VRel ι x x') : noNum x' = true := by
  unfold eqVc at h
  split at h
  case h_2 => cases h
  split at h
  case h_11 => cases h
  all_goals
    first
      | (simp only [VRel] at hx; subst hx; rfl)
      | (obtain ⟨_, _, rfl, _⟩ := vrel_slice hx; rfl)
      | (simp only [VRel] at hx; obtain ⟨_, rfl, _⟩ := hx; rfl)
      | (simp only [VRel] at hx; obtain ⟨_, _, rfl⟩ := hx; rfl)
theorem binVc_sound {op : BinOp} {t : TypeId} {x y : AV} {x' y' : Value} {X Y : Operand} {K : AV → Prop} (h : binVc C op t x y K) (hx : VRel ι x x') (hy : VRel ι y y') :
    ∃ v v', (∀ w, (do eqGuard op t X Y x' y'; binOp op t x' y' : Sem Value).run C.P w = .ok v' w) ∧ VRel ι v v' ∧ K v := by
  unfold binVc at h
  split at h
  · rename_i k a k' b
    simp only [VRel] at hx hy
    subst hx hy
    split at h
    · cases h
    rename_i hb
    refine ⟨_, _, fun w => ?_, by simp only [VRel]; rfl, h⟩
    simp only [Sem.run_bind, eqGuard_plain (C := C) (x' := .int k a) (by simp) (by simp) w, Result.andThen_ok, binOp, Op.shift, hb, if_false, Sem.run_pure]
  · rename_i k a k' b
    simp only [VRel] at hx hy
    subst hx hy
    split at h
    · cases h
    rename_i hb
    refine ⟨_, _, fun w => ?_, by simp only [VRel]; rfl, h⟩
    simp only [Sem.run_bind, eqGuard_plain (C := C) (x' := .int k a) (by simp) (by simp) w, Result.andThen_ok, binOp, Op.shift, hb, if_false, Sem.run_pure]
  · rename_i k a k' b hshl hshr
    simp only [VRel] at hx hy
    subst hx hy
    split at h
    case isFalse => cases h
    rename_i hk
    subst hk
    obtain ⟨v, v', h1, h2, h3⟩ := intVc_sound (C := C) (t := t) h ⟨fun e => hshl e, fun e => hshr e⟩
    refine ⟨v, v', fun w => ?_, h2 ι, h3⟩
    simp only [Sem.run_bind, eqGuard_plain (C := C) (x' := .int k a) (by simp) (by simp) w, Result.andThen_ok, h1]
  · rename_i a b
    simp only [VRel] at hx hy
    subst hx hy
    obtain ⟨v, v', h1, h2, h3⟩ := strVc_sound (C := C) (t := t) h
    refine ⟨v, v', fun w => ?_, h2 ι, h3⟩
    simp only [Sem.run_bind, eqGuard_plain (C := C) (x' := .string ⟨a.toArray⟩) (by simp) (by simp) w, Result.andThen_ok, h1]
  · obtain ⟨r, h1, h2⟩ := eqVc_sound h hx hy
    refine ⟨_, .bool r, fun w => ?_, by simp only [VRel], h2⟩
    simp only [Sem.run_bind, eqGuard_sound (C := C) h hx hy w, Result.andThen_ok]
    rw [binOp_eql (eqVc_num h hx), Sem.run_bind]
    have h3 : (Op.equal t x' y').run C.P w = .ok r w := h1 9998 w
    rw [h3]; rfl
  · obtain ⟨r, h1, h2⟩ := eqVc_sound h hx hy
    refine ⟨_, .bool (!r), fun w => ?_, by simp only [VRel], h2⟩
    simp only [Sem.run_bind, eqGuard_sound (C := C) h hx hy w, Result.andThen_ok]
    rw [binOp_neq (eqVc_num h hx), Sem.run_bind]
    have h3 : (Op.equal t x' y').run C.P w = .ok r w := h1 9998 w
    rw [h3]; rfl
  · cases h

theorem unVc_sound {op : UnOp} {x : AV} {x' : Value} {K : AV → Prop} (h : unVc op x K) (hx : VRel ι x x') : ∃ v v', (∀ w, (Op.unary op x').run C.P w = .ok v' w) ∧ VRel ι v v' ∧ K v := by
  unfold unVc at h
  split at h
  · simp only [VRel] at hx; subst hx
    exact ⟨_, .int _ _, fun w => by simp only [Op.unary, Op.intArith]; rfl, by simp only [VRel], h⟩
  · simp only [VRel] at hx; subst hx
    exact ⟨_, .int _ _, fun w => by simp only [Op.unary, Op.intBits]; rfl, by simp only [VRel, bitsOf]; rfl, h⟩
  · simp only [VRel] at hx; subst hx
    exact ⟨_, .bool _, fun w => by simp only [Op.unary]; rfl, by simp only [VRel], h⟩
  · cases h

theorem foldMax_sound {f : Int → Int → Int} {g : Value → Value → Sem Value} (hg : ∀ k a k' b (w : World), (g (.int k a) (.int k' b)).run C.P w = .ok (.int k (f a b)) w) : ∀ (xs : List AV) (xs' : List Value) (k : IntKind) (a : Int) (K : AV → Prop) ,
    maxVc f k a xs K → VRelL ι xs xs' → ∃ v v', (∀ w, (xs'.foldlM g (.int k a)).run C.P w = .ok v' w) ∧ VRel ι v v' ∧ K v
  | [], _, k, a, K, h, hx => by
    simp only [VRelL] at hx; subst hx
    exact ⟨_, .int k a, fun w => rfl, by simp only [VRel], h⟩
  | .int k' b :: r, _, k, a, K, h, hx => by
    obtain ⟨x', r', rfl, h1, h2⟩ := vrelL_one hx
    simp only [VRel] at h1; subst h1
    obtain ⟨v, v', h3, h4, h5⟩ := foldMax_sound hg r r' k (f a b) K h h2
    refine ⟨v, v', fun w => ?_, h4, h5⟩
    simp only [List.foldlM_cons, Sem.run_bind, hg, Result.andThen_ok, h3]
  | .any :: _, _, k, a, K, h, hx => h.elim
  | .bool _ :: _, _, k, a, K, h, hx => h.elim
  | .str _ :: _, _, k, a, K, h, hx => h.elim
  | .ptr _ :: _, _, k, a, K, h, hx => h.elim
  | .slice .. :: _, _, k, a, K, h, hx => h.elim
  | .map _ :: _, _, k, a, K, h, hx => h.elim
  | .func .. :: _, _, k, a, K, h, hx => h.elim
  | .nilFunc :: _, _, k, a, K, h, hx => h.elim
  | .iface .. :: _, _, k, a, K, h, hx => h.elim
  | .nilIface :: _, _, k, a, K, h, hx => h.elim
  | .agg _ :: _, _, k, a, K, h, hx => h.elim
  | .tuple _ :: _, _, k, a, K, h, hx => h.elim

theorem max_sound {k : IntKind} {a : Int} {xs : List AV} {xs' : List Value} {K : AV → Prop} {ts : Array TypeId} {rt : TypeId} (h : maxVc max2 k a xs K) (hx : VRelL ι (.int k a :: xs) xs') :
    ∃ v v', (∀ w, (Builtin.max_ ts rt xs'.toArray).run C.P w = .ok v' w) ∧ VRel ι v v' ∧ K v := by
  obtain ⟨x', r', rfl, h1, h2⟩ := vrelL_one hx
  simp only [VRel] at h1; subst h1
  obtain ⟨v, v', h3, h4⟩ := foldMax_sound (C := C) (g := Builtin.max2) (fun k a k' b w => by simp only [Builtin.max2, Sem.run_pure, max2]) xs r' k a K h h2
  exact ⟨v, v', fun w => by simp only [Builtin.max_]; exact h3 w, h4⟩
theorem min_sound {k : IntKind} {a : Int} {xs : List AV} {xs' : List Value} {K : AV → Prop} {ts : Array TypeId} {rt : TypeId} (h : maxVc min2 k a xs K) (hx : VRelL ι (.int k a :: xs) xs') :
    ∃ v v', (∀ w, (Builtin.min_ ts rt xs'.toArray).run C.P w = .ok v' w) ∧ VRel ι v v' ∧ K v := by
  obtain ⟨x', r', rfl, h1, h2⟩ := vrelL_one hx
  simp only [VRel] at h1; subst h1
  obtain ⟨v, v', h3, h4⟩ := foldMax_sound (C := C) (g := Builtin.min2) (fun k a k' b w => by simp only [Builtin.min2, Sem.run_pure, min2]) xs r' k a K h h2
  exact ⟨v, v', fun w => by simp only [Builtin.min_]; exact h3 w, h4⟩
end
end Go.Proofs.YthpngchngnaloaaGreatDoor.Vm
