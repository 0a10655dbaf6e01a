/- What proofs by hand over the abstract machine share: loops, frames, parts of a code. -/
import Derived.Test.YthpngchngnaloaaGreatDoorVmK
namespace Go.Proofs.YthpngchngnaloaaGreatDoor.Vm

/-- A part of a code: 0 the first, 1 the second (or what a block or a loop holds: 0). -/
def Code.part : Code → Nat → Code
  | .seq a _, 0 => a
  | .seq _ b, _ => b
  | .cond _ a _, 0 => a
  | .cond _ _ b, _ => b
  | .block _ c, _ => c
  | .loop c, _ => c
  | .rangeFunc _ _ a _, 0 => a
  | .rangeFunc _ _ _ b, _ => b
  | c, _ => c
def Code.way : Code → List Nat → Code
  | c, [] => c
  | c, i :: p => Code.way (Code.part c i) p
def cdOf (fn : Func) (p : List Nat) : Code :=
  match fn.body with
  | some c => Code.way c p
  | none => .skip
variable {C : Cx} {gl : List Nat} {wide : Bool}
theorem loop_intro {n : Nat} {c : Code} {Q : AExit → Fr → AH → Prop} {fr : Fr} {σ : AH} (I : Nat → Fr → AH → Prop) (k : Nat) (h0 : I k fr σ)
    (hs : ∀ k fr σ, I k fr σ → codeVc C gl wide n c (AExit.then (fun fr' σ' => ∃ k', k' < k ∧ I k' fr' σ') Q) fr σ) : codeVc C gl wide n (.loop c) Q fr σ := ⟨I, k, h0, hs⟩
theorem rangeFunc_intro {n : Nat} {code a b : Code} {g : Operand} {ps : Array Nat} {Q : AExit → Fr → AH → Prop} {fr : Fr} {σ : AH} {gid : FuncId} {first cap : List AV} (hc : code = .rangeFunc g ps a b) (hev : ev gl n fr g = .func gid first cap) (hb : hasBody C.P gid = true)
    (h : ACall C.P gl gid (first ++ [.yield σ.next] ++ cap) (σ.alloc (.loop .ready none ((List.range n).map fr) ps a b)) fun _ σ' => afterLoop Q fr σ.next σ') : codeVc C gl wide n code Q fr σ := by
  subst hc
  simp only [codeVc]
  unfold rangeFuncVc
  simp only [hev]
  exact ⟨hb, h⟩
/-- What stands behind a round's body. -/
def roundQ (b : Nat) (K : AV → AH → Prop) : AExit → Fr → AH → Prop := fun e _ σ2 =>
  match σ2.get b with
  | some (.loop _ _ frs' ps' a' b') => (match e with
    | .normal => K (.bool true) (σ2.set b (.loop .ready none frs' ps' a' b'))
    | .ret => K (.bool false) (σ2.set b (.loop .done (some .ret) frs' ps' a' b'))
    | .exit id => K (.bool false) (σ2.set b (.loop .done (some (.exit id)) frs' ps' a' b')))
  | _ => False
/-- What stands behind a round's assignment. -/
def asgQ (C : Cx) (gl : List Nat) (wide : Bool) (n : Nat) (b : Nat) (bo : Code) (K : AV → AH → Prop) : AExit → Fr → AH → Prop := fun e fr1 σ1 =>
  match e with
  | .normal => (match σ1.get b with
    | some (.loop .ready pe frs' ps' a' b') => codeVc C gl wide n bo (roundQ b K) fr1 (σ1.set b (.loop .busy pe frs' ps' a' b'))
    | _ => False)
  | _ => False
theorem round_intro {b : Nat} {args : List AV} {σ : AH} {K : AV → AH → Prop} {pe : Option Code} {frs : List AV} {ps : Array Nat} {a bo : Code} (hk : σ.get b = some (.loop .ready pe frs ps a bo)) (hl : args.length = ps.size) (hf : flatCode a = true) (hf2 : flatCode bo = true)
    (h : codeVc C gl wide frs.length a (asgQ C gl wide frs.length b bo K) (setAll (initL frs) (ps.toList.zip args)) σ) : AYield C.P gl b args σ K := by
  refine AYield.of_round (wide := wide) ?_
  unfold roundVc
  simp only [hk]
  rw [if_pos ⟨hl, hf, hf2⟩]
  exact h
theorem asgQ_intro {n b : Nat} {bo : Code} {K : AV → AH → Prop} {fr : Fr} {σ : AH} {pe : Option Code} {frs : List AV} {ps : Array Nat} {a' b' : Code} (hk : σ.get b = some (.loop .ready pe frs ps a' b')) (h : codeVc C gl wide n bo (roundQ b K) fr (σ.set b (.loop .busy pe frs ps a' b'))) : asgQ C gl wide n b bo K .normal fr σ := by
  simp only [asgQ, hk]; exact h
theorem roundQ_intro {b : Nat} {K : AV → AH → Prop} {fr : Fr} {σ : AH} {st : LoopState} {pe : Option Code} {frs : List AV} {ps : Array Nat} {a' b' : Code} (hk : σ.get b = some (.loop st pe frs ps a' b')) (h : K (.bool true) (σ.set b (.loop .ready none frs ps a' b'))) : roundQ b K .normal fr σ := by
  simp only [roundQ, hk]; exact h
/-- What a frame has. -/
def Has (fr : Fr) : List (Nat × AV) → Prop
  | [] => True
  | (t, v) :: l => fr t = v ∧ Has fr l
theorem frame_eq {fr : Fr} : ∀ {l : List (Nat × AV)}, Has fr l → fr = setAll fr l
  | [], _ => rfl
  | (t, v) :: l, h => by
    have h1 : setFr fr (some t) v = fr := by
      funext i
      simp only [setFr]
      by_cases hi : i = t
      · subst hi; rw [if_pos rfl]; exact h.1.symm
      · rw [if_neg hi]
    simp only [setAll, h1]
    exact frame_eq h.2
theorem codeVc_on {n : Nat} {c : Code} {Q : AExit → Fr → AH → Prop} {fr : Fr} {σ : AH} (l : List (Nat × AV)) (h : Has fr l) (hp : codeVc C gl wide n c Q (setAll fr l) σ) : codeVc C gl wide n c Q fr σ := by
  rw [frame_eq h]; exact hp
/-- What lay there lies there; new blocks may be there. -/
structure AH.le (σ σ' : AH) : Prop where
  next : σ.next ≤ σ'.next
  get : ∀ b, b < σ.next → σ'.get b = σ.get b
theorem AH.le_refl (σ : AH) : σ.le σ := ⟨Nat.le_refl _, fun _ _ => rfl⟩
theorem AH.le_trans {σ σ' σ'' : AH} (h : σ.le σ') (h' : σ'.le σ'') : σ.le σ'' := ⟨Nat.le_trans h.next h'.next, fun b hb => (h'.get b (Nat.lt_of_lt_of_le hb h.next)).trans (h.get b hb)⟩
theorem AH.le_alloc (σ : AH) (k : Blk) : σ.le (σ.alloc k) := ⟨Nat.le_succ _, fun b hb => by simp only [AH.alloc_get]; rw [if_neg (by omega)]⟩
/-- Values without an address. -/
def AV.lone : AV → Bool
  | .int .. | .bool _ | .str _ | .ptr none | .slice none 0 (.k 0) | .map none | .nilFunc | .nilIface => true
  | _ => false
def lones : List AV → Bool
  | [] => true
  | v :: vs => v.lone && lones vs
/-- A value, or several, without an address. -/
def AV.plain : AV → Bool
  | .tuple vs => lones vs
  | .agg vs => lones vs
  | v => v.lone
theorem lone_rel {ι ι' : IM} {v : AV} {v' : Value} (h : v.lone = true) (hr : VRel ι v v') : VRel ι' v v' := by
  cases v with
  | ptr a => cases a with
    | none => simpa only [VRel] using hr
    | some _ => cases h
  | slice a n c => cases a with
    | none => simpa only [VRel] using hr
    | some _ => cases h
  | map r => cases r with
    | none => simpa only [VRel] using hr
    | some _ => cases h
  | int _ _ => simpa only [VRel] using hr
  | bool _ => simpa only [VRel] using hr
  | str _ => simpa only [VRel] using hr
  | nilFunc => simpa only [VRel] using hr
  | nilIface => simpa only [VRel] using hr
  | _ => cases h
theorem lones_rel {ι ι' : IM} : ∀ {vs : List AV} {l : List Value}, lones vs = true → VRelL ι vs l → VRelL ι' vs l
  | [], l, _, hr => by simpa only [VRelL] using hr
  | v :: vs, l, h, hr => by
    simp only [lones, Bool.and_eq_true] at h
    simp only [VRelL] at hr ⊢
    obtain ⟨x, xs, rfl, h1, h2⟩ := hr
    exact ⟨x, xs, rfl, lone_rel h.1 h1, lones_rel h.2 h2⟩
theorem plain_rel {ι ι' : IM} {v : AV} {v' : Value} (h : v.plain = true) (hr : VRel ι v v') : VRel ι' v v' := by
  cases v with
  | tuple vs =>
    simp only [VRel] at hr ⊢
    obtain ⟨l, rfl, h1⟩ := hr
    exact ⟨l, rfl, lones_rel h h1⟩
  | agg vs =>
    simp only [VRel] at hr ⊢
    obtain ⟨l, rfl, h1⟩ := hr
    exact ⟨l, rfl, lones_rel h h1⟩
  | _ => exact lone_rel h hr
mutual
theorem VRel.back {ι ι' : IM} (hag : ∀ b p q, ι b = some p → ι' b = some q → p = q) : ∀ (a : AV) (v v' : Value), VRel ι a v → VRel ι' a v' → VRel ι a v'
  | .any, _, _, _, _ => by simp only [VRel]
  | .int k n, v, v', h, h' => by simpa only [VRel] using h'
  | .bool b, v, v', h, h' => by simpa only [VRel] using h'
  | .str s, v, v', h, h' => by simpa only [VRel] using h'
  | .ptr none, v, v', h, h' => by simpa only [VRel] using h'
  | .ptr (some (b, o)), v, v', h, h' => by
    simp only [VRel] at h h' ⊢
    obtain ⟨p, hp, _⟩ := h
    obtain ⟨q, hq, h'⟩ := h'
    obtain rfl := hag b p q hp hq
    exact ⟨p, hp, h'⟩
  | .slice none n c, v, v', h, h' => by simpa only [VRel] using h'
  | .slice (some (b, o)) n c, v, v', h, h' => by
    simp only [VRel] at h h' ⊢
    obtain ⟨p, _, _, hp, _⟩ := h
    obtain ⟨q, a, ĉ, hq, h'⟩ := h'
    obtain rfl := hag b p q hp hq
    exact ⟨p, a, ĉ, hp, h'⟩
  | .map none, v, v', h, h' => by simpa only [VRel] using h'
  | .map (some r), v, v', h, h' => by
    simp only [VRel] at h h' ⊢
    obtain ⟨p, hp, _⟩ := h
    obtain ⟨q, hq, h'⟩ := h'
    obtain rfl := hag r p q hp hq
    exact ⟨p, hp, h'⟩
  | .func f fs cs, v, v', h, h' => by
    simp only [VRel] at h h' ⊢
    obtain ⟨l, m, _, h1, h2⟩ := h
    obtain ⟨l', m', hv', h1', h2'⟩ := h'
    exact ⟨l', m', hv', VRelL.back hag fs l l' h1 h1', VRelL.back hag cs m m' h2 h2'⟩
  | .nilFunc, v, v', h, h' => by simpa only [VRel] using h'
  | .iface t x, v, v', h, h' => by
    simp only [VRel] at h h' ⊢
    obtain ⟨y, _, h1⟩ := h
    obtain ⟨y', hv', h1'⟩ := h'
    exact ⟨y', hv', VRel.back hag x y y' h1 h1'⟩
  | .nilIface, v, v', h, h' => by simpa only [VRel] using h'
  | .agg cs, v, v', h, h' => by
    simp only [VRel] at h h' ⊢
    obtain ⟨l, _, h1⟩ := h
    obtain ⟨l', hv', h1'⟩ := h'
    exact ⟨l', hv', VRelL.back hag cs l l' h1 h1'⟩
  | .tuple cs, v, v', h, h' => by
    simp only [VRel] at h h' ⊢
    obtain ⟨l, _, h1⟩ := h
    obtain ⟨l', hv', h1'⟩ := h'
    exact ⟨l', hv', VRelL.back hag cs l l' h1 h1'⟩
  | .yield b, v, v', h, h' => by
    simp only [VRel] at h h' ⊢
    obtain ⟨p, hp, _⟩ := h
    obtain ⟨q, hq, h'⟩ := h'
    obtain rfl := hag b p q hp hq
    exact ⟨p, hp, h'⟩
theorem VRelL.back {ι ι' : IM} (hag : ∀ b p q, ι b = some p → ι' b = some q → p = q) : ∀ (a : List AV) (v v' : List Value), VRelL ι a v → VRelL ι' a v' → VRelL ι a v'
  | [], v, v', h, h' => by simpa only [VRelL] using h'
  | a :: as, v, v', h, h' => by
    simp only [VRelL] at h h' ⊢
    obtain ⟨x, xs, rfl, h1, h2⟩ := h
    obtain ⟨y, ys, rfl, h1', h2'⟩ := h'
    exact ⟨y, ys, rfl, VRel.back hag a x y h1 h1', VRelL.back hag as xs ys h2 h2'⟩
end
theorem MRel.back {ι ι' : IM} (hag : ∀ b p q, ι b = some p → ι' b = some q → p = q) : ∀ {es : List (AV × AV × Nat)} {l l' : List MapEntry}, MRel ι es l → MRel ι' es l' → MRel ι es l'
  | [], _, _, _, h' => h'
  | e :: es, l, l', h, h' => by
    obtain ⟨x, xs, rfl, h1, h2, h3, h4⟩ := h
    obtain ⟨y, ys, rfl, h1', h2', h3', h4'⟩ := h'
    exact ⟨y, ys, rfl, VRel.back hag _ _ _ h1 h1', VRel.back hag _ _ _ h2 h2', h3', MRel.back hag h4 h4'⟩
theorem BRel.back {ι ι' : IM} (hag : ∀ b p q, ι b = some p → ι' b = some q → p = q) {k : Blk} {p : Place} {w w' : World} (h : BRel ι k p w) (h' : BRel ι' k p w') : BRel ι k p w' := by
  cases k with
  | cells cs own =>
    obtain ⟨_, _, _, _, h2, _⟩ := h
    obtain ⟨ĉs, elem, fr, h1', h2', h3'⟩ := h'
    exact ⟨ĉs, elem, fr, h1', VRelL.back hag _ _ _ h2 h2', h3'⟩
  | map es clock =>
    obtain ⟨_, _, h2⟩ := h
    obtain ⟨ês, h1', h2'⟩ := h'
    exact ⟨ês, h1', MRel.back hag h2 h2'⟩
  | siter s pos => exact h'
  | miter m since seen last =>
    obtain ⟨_, _, _, _, h4⟩ := h
    obtain ⟨m', h1', h2', h3', h4'⟩ := h'
    refine ⟨m', h1', h2', h3', fun r hr => ?_⟩
    obtain ⟨q, hq, _⟩ := h4 r hr
    obtain ⟨q', hq', h5⟩ := h4' r hr
    obtain rfl := hag r q q' hq hq'
    exact ⟨q, hq, h5⟩
  | loop st pe fr ps as bo =>
    obtain ⟨_, _, _, _, h4, _⟩ := h
    obtain ⟨r, h1', h2', h3', h4', h5'⟩ := h'
    exact ⟨r, h1', h2', h3', VRelL.back hag _ _ _ h4 h4', h5'⟩
/-- New blocks are forgotten. -/
theorem Rel.forget {G : Base} {ι ι' : IM} {σ σ' : AH} {w w' : World} (h0 : Rel G ι σ w) (h : Rel G ι' σ' w') (he : Ext σ.next ι ι') (hg : ∀ b, b < σ.next → σ'.get b = σ.get b) : Rel G ι σ w' where
  fresh := h0.fresh
  live := fun b p k hp hk => by
    have hb := h0.get_lt hk
    have hp' : ι' b = some p := (he b hb).trans hp
    refine (h0.live b p k hp hk).back (fun c q q' hq hq' => ?_) (h.live b p k hp' ((hg b hb).trans hk))
    rw [he c (h0.ι_lt hq), hq] at hq'
    cases hq'; rfl
  bound := fun b p hp => h.bound b p ((he b (h0.ι_lt hp)).trans hp)
  apart := fun b p b' p' k k' hne hp hp' hk hk' hrw => h.apart b p b' p' k k' hne ((he b (h0.ι_lt hp)).trans hp) ((he b' (h0.ι_lt hp')).trans hp') ((hg b (h0.get_lt hk)).trans hk) ((hg b' (h0.get_lt hk')).trans hk') hrw
  new := fun b p k hp hk hrw => h.new b p k ((he b (h0.ι_lt hp)).trans hp) ((hg b (h0.get_lt hk)).trans hk) hrw
  below := h.below
  size := h.size
  kept := fun D hD => ⟨(h.kept D hD).1, fun b p hp => (h.kept D hD).2 b p ((he b (h0.ι_lt hp)).trans hp)⟩
theorem CallR.mono {P : Program} {g : FuncId} {args : Array Value} {w : World} {R R' : Value → World → Prop} (h : CallR P g args w R) (hi : ∀ v w', R v w' → R' v w') : CallR P g args w R' := by
  unfold CallR at h ⊢
  cases hr : (callFunc g args).run P w with
  | ok x w1 =>
    rw [hr] at h
    cases x with
    | value v => exact hi _ _ h
    | enter f as =>
      simp only at h ⊢
      refine Calls.mono h fun e w2 he => ?_
      cases e with
      | returned v => exact hi _ _ he
      | panicked c => exact he
      | outgrown => exact he
    | _ => exact h
  | _ => rw [hr] at h; exact h
/-- A call that leaves nothing but a value: what it has laid is forgotten. -/
theorem ACall.pure {P : Program} {gl : List Nat} {g : FuncId} {args : List AV} {σ : AH} {v : AV} {K : AV → AH → Prop} (hp : v.plain = true) (h : ACall P gl g args σ fun v' σ' => v' = v ∧ σ.le σ') (hK : K v σ) : ACall P gl g args σ K := by
  intro G ι w args' hr hgl hargs
  refine CallR.mono (h G ι w args' hr hgl hargs) fun u w' hu => ?_
  obtain ⟨v1, σ1, ι1, h1, h2, h3, h4, rfl, h5⟩ := hu
  exact ⟨v1, σ, ι, hr.forget h1 h2 h5.get, Ext.refl _ _, Nat.le_refl _, plain_rel hp h4, hK⟩
/-- What stands behind a function's code: its results are read. -/
def retQ (C : Cx) (fn : Func) (K : AV → AH → Prop) : AExit → Fr → AH → Prop := fun e fr σ =>
  match e with
  | .exit _ => False
  | _ => resVc C fn.ntmps fn.results.toList fr σ fun vs => K (resVal vs) σ
/-- The shapes of a call's results. -/
def resOf (P : Program) (t : TypeId) : Option (List (Bool × List Sh)) :=
  match P.underlying t with
  | some (.tuple ts) => ts.toList.mapM fun u => (tiOf P u).map fun x => (x.d.isAgg, x.sh)
  | some _ => (tiOf P t).map fun x => [(x.d.isAgg, x.sh)]
  | none => none
/-- The context of a program, for proofs by hand. -/
def cxR (P : Program) (hm : P.follows .mixedOrders = true) : Cx := ⟨P, tiOf P, fun _ _ h => tiOf_ok h, hm, resOf P⟩
/-- A closed call that is carried out in an empty memory is carried out in any. -/
theorem ACall.closed {P : Program} {gl : List Nat} {g : FuncId} {σ0 : AH} (hn : σ0.next = 0) (hg : ∀ b, σ0.get b = none) {v : AV} (hp : v.plain = true) (h : ACall P [] g [] σ0 fun v' _ => v' = v) {σ : AH} {K : AV → AH → Prop} (hK : K v σ) : ACall P gl g [] σ K := by
  intro G ι w args' hr hgl hargs
  have hr0 : Rel ⟨w, w.heap.size, []⟩ (fun _ => none) σ0 w :=
    ⟨fun b _ => ⟨rfl, hg b⟩, (fun _ _ _ h => by cases h), (fun _ _ h => by cases h), (fun _ _ _ _ _ _ _ h => by cases h), (fun _ _ _ h => by cases h), RowKit.Below.refl _ _, Nat.le_refl _, (fun _ h => by cases h)⟩
  have hargs0 : VRelL (fun _ => none) [] args' := by simpa only [VRelL] using hargs
  refine CallR.mono (h _ _ w args' hr0 (fun _ h => by cases h) hargs0) fun u w' hu => ?_
  obtain ⟨v1, σ1, ι1, h1, _, _, h4, rfl⟩ := hu
  have hb := h1.below
  exact ⟨v1, σ, ι, hr.world hb.size (fun k hk => hb.block k hk) hb.os hb.tape hb.output, Ext.refl _ _, Nat.le_refl _, plain_rel hp h4, hK⟩
end Go.Proofs.YthpngchngnaloaaGreatDoor.Vm
