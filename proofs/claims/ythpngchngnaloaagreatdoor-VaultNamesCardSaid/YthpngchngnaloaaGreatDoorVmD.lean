/- The operations of the model do what the abstract machine asks: all of reckoning, maps, strings gone through. -/
import Derived.Test.YthpngchngnaloaaGreatDoorVmC
namespace Go.Proofs.YthpngchngnaloaaGreatDoor.Vm
open RowKit (Below)

section
variable {C : Cx} {G : Base} {ι : IM} {σ : AH} {w : World}

theorem eqGuard_not {op : BinOp} {t : TypeId} {x' y' : Value} {X Y : Operand} (hop : op ≠ .eql ∧ op ≠ .neq) (w : World) : (eqGuard op t X Y x' y').run C.P w = .ok () w := by
  unfold eqGuard
  cases op <;> first | rfl | (exact absurd rfl hop.1) | (exact absurd rfl hop.2)
theorem eqGuard_plain {op : BinOp} {t : TypeId} {x' y' : Value} {X Y : Operand} (h : x' ≠ .nilIface) (h' : ∀ c, x' ≠ .agg c) (w : World) : (eqGuard op t X Y x' y').run C.P w = .ok () w := by
  unfold eqGuard
  rw [Sem.run_ite]
  refine (ite_self_of (fun _ => rfl) ?_)
  cases x' <;> first | rfl | (exact absurd rfl h) | (exact absurd rfl (h' _))

def noNum : Value → Bool
  | .int .. | .float .. | .complex .. | .string _ => false
  | _ => true
theorem binOp_eql {t : TypeId} {x y : Value} (h : noNum x = true) : binOp .eql t x y = (do pure (.bool (← Op.equal t x y)) : Sem Value) := by
  cases x <;> first | rfl | (cases h; done) | (cases y <;> rfl)
theorem binOp_neq {t : TypeId} {x y : Value} (h : noNum x = true) : binOp .neq t x y = (do pure (.bool (!(← Op.equal t x y))) : Sem Value) := by
  cases x <;> first | rfl | (cases h; done) | (cases y <;> rfl)
theorem eqVc_num {t : TypeId} {x y : AV} {x' : Value} {K : Bool → Prop} (h : eqVc C t x y K) (hx : VRel ι x x') : noNum x' = true := by
  unfold eqVc at h
  split at h
  case h_2 => cases h
  split at h
  case h_11 => cases h
  all_goals
    first
      | (simp only [VRel] at hx; subst hx; rfl)
      | (obtain ⟨_, _, rfl, _⟩ := vrel_slice hx; rfl)
      | (simp only [VRel] at hx; obtain ⟨_, rfl, _⟩ := hx; rfl)
      | (simp only [VRel] at hx; obtain ⟨_, _, rfl⟩ := hx; rfl)
theorem binVc_sound {op : BinOp} {t : TypeId} {x y : AV} {x' y' : Value} {X Y : Operand} {K : AV → Prop} (h : binVc C op t x y K) (hx : VRel ι x x') (hy : VRel ι y y') :
    ∃ v v', (∀ w, (do eqGuard op t X Y x' y'; binOp op t x' y' : Sem Value).run C.P w = .ok v' w) ∧ VRel ι v v' ∧ K v := by
  unfold binVc at h
  split at h
  · rename_i k a k' b
    simp only [VRel] at hx hy
    subst hx hy
    split at h
    · cases h
    rename_i hb
    refine ⟨_, _, fun w => ?_, by simp only [VRel]; rfl, h⟩
    simp only [Sem.run_bind, eqGuard_plain (C := C) (x' := .int k a) (by simp) (by simp) w, Result.andThen_ok, binOp, Op.shift, hb, if_false, Sem.run_pure]
  · rename_i k a k' b
    simp only [VRel] at hx hy
    subst hx hy
    split at h
    · cases h
    rename_i hb
    refine ⟨_, _, fun w => ?_, by simp only [VRel]; rfl, h⟩
    simp only [Sem.run_bind, eqGuard_plain (C := C) (x' := .int k a) (by simp) (by simp) w, Result.andThen_ok, binOp, Op.shift, hb, if_false, Sem.run_pure]
  · rename_i k a k' b hshl hshr
    simp only [VRel] at hx hy
    subst hx hy
    split at h
    case isFalse => cases h
    rename_i hk
    subst hk
    obtain ⟨v, v', h1, h2, h3⟩ := intVc_sound (C := C) (t := t) h ⟨fun e => hshl e, fun e => hshr e⟩
    refine ⟨v, v', fun w => ?_, h2 ι, h3⟩
    simp only [Sem.run_bind, eqGuard_plain (C := C) (x' := .int k a) (by simp) (by simp) w, Result.andThen_ok, h1]
  · rename_i a b
    simp only [VRel] at hx hy
    subst hx hy
    obtain ⟨v, v', h1, h2, h3⟩ := strVc_sound (C := C) (t := t) h
    refine ⟨v, v', fun w => ?_, h2 ι, h3⟩
    simp only [Sem.run_bind, eqGuard_plain (C := C) (x' := .string ⟨a.toArray⟩) (by simp) (by simp) w, Result.andThen_ok, h1]
  · obtain ⟨r, h1, h2⟩ := eqVc_sound h hx hy
    refine ⟨_, .bool r, fun w => ?_, by simp only [VRel], h2⟩
    simp only [Sem.run_bind, eqGuard_sound (C := C) h hx hy w, Result.andThen_ok]
    rw [binOp_eql (eqVc_num h hx), Sem.run_bind]
    have h3 : (Op.equal t x' y').run C.P w = .ok r w := h1 9998 w
    rw [h3]; rfl
  · obtain ⟨r, h1, h2⟩ := eqVc_sound h hx hy
    refine ⟨_, .bool (!r), fun w => ?_, by simp only [VRel], h2⟩
    simp only [Sem.run_bind, eqGuard_sound (C := C) h hx hy w, Result.andThen_ok]
    rw [binOp_neq (eqVc_num h hx), Sem.run_bind]
    have h3 : (Op.equal t x' y').run C.P w = .ok r w := h1 9998 w
    rw [h3]; rfl
  · cases h

theorem unVc_sound {op : UnOp} {x : AV} {x' : Value} {K : AV → Prop} (h : unVc op x K) (hx : VRel ι x x') : ∃ v v', (∀ w, (Op.unary op x').run C.P w = .ok v' w) ∧ VRel ι v v' ∧ K v := by
  unfold unVc at h
  split at h
  · simp only [VRel] at hx; subst hx
    exact ⟨_, .int _ _, fun w => by simp only [Op.unary, Op.intArith]; rfl, by simp only [VRel], h⟩
  · simp only [VRel] at hx; subst hx
    exact ⟨_, .int _ _, fun w => by simp only [Op.unary, Op.intBits]; rfl, by simp only [VRel, bitsOf]; rfl, h⟩
  · simp only [VRel] at hx; subst hx
    exact ⟨_, .bool _, fun w => by simp only [Op.unary]; rfl, by simp only [VRel], h⟩
  · cases h

theorem foldMax_sound {f : Int → Int → Int} {g : Value → Value → Sem Value} (hg : ∀ k a k' b (w : World), (g (.int k a) (.int k' b)).run C.P w = .ok (.int k (f a b)) w) : ∀ (xs : List AV) (xs' : List Value) (k : IntKind) (a : Int) (K : AV → Prop) ,
    maxVc f k a xs K → VRelL ι xs xs' → ∃ v v', (∀ w, (xs'.foldlM g (.int k a)).run C.P w = .ok v' w) ∧ VRel ι v v' ∧ K v
  | [], _, k, a, K, h, hx => by
    simp only [VRelL] at hx; subst hx
    exact ⟨_, .int k a, fun w => rfl, by simp only [VRel], h⟩
  | .int k' b :: r, _, k, a, K, h, hx => by
    obtain ⟨x', r', rfl, h1, h2⟩ := vrelL_one hx
    simp only [VRel] at h1; subst h1
    obtain ⟨v, v', h3, h4, h5⟩ := foldMax_sound hg r r' k (f a b) K h h2
    refine ⟨v, v', fun w => ?_, h4, h5⟩
    simp only [List.foldlM_cons, Sem.run_bind, hg, Result.andThen_ok, h3]
  | .any :: _, _, k, a, K, h, hx => h.elim
  | .bool _ :: _, _, k, a, K, h, hx => h.elim
  | .str _ :: _, _, k, a, K, h, hx => h.elim
  | .ptr _ :: _, _, k, a, K, h, hx => h.elim
  | .slice .. :: _, _, k, a, K, h, hx => h.elim
  | .map _ :: _, _, k, a, K, h, hx => h.elim
  | .func .. :: _, _, k, a, K, h, hx => h.elim
  | .nilFunc :: _, _, k, a, K, h, hx => h.elim
  | .iface .. :: _, _, k, a, K, h, hx => h.elim
  | .nilIface :: _, _, k, a, K, h, hx => h.elim
  | .agg _ :: _, _, k, a, K, h, hx => h.elim
  | .tuple _ :: _, _, k, a, K, h, hx => h.elim

theorem max_sound {k : IntKind} {a : Int} {xs : List AV} {xs' : List Value} {K : AV → Prop} {ts : Array TypeId} {rt : TypeId} (h : maxVc max2 k a xs K) (hx : VRelL ι (.int k a :: xs) xs') :
    ∃ v v', (∀ w, (Builtin.max_ ts rt xs'.toArray).run C.P w = .ok v' w) ∧ VRel ι v v' ∧ K v := by
  obtain ⟨x', r', rfl, h1, h2⟩ := vrelL_one hx
  simp only [VRel] at h1; subst h1
  obtain ⟨v, v', h3, h4⟩ := foldMax_sound (C := C) (g := Builtin.max2) (fun k a k' b w => by simp only [Builtin.max2, Sem.run_pure, max2]) xs r' k a K h h2
  exact ⟨v, v', fun w => by simp only [Builtin.max_]; exact h3 w, h4⟩
theorem min_sound {k : IntKind} {a : Int} {xs : List AV} {xs' : List Value} {K : AV → Prop} {ts : Array TypeId} {rt : TypeId} (h : maxVc min2 k a xs K) (hx : VRelL ι (.int k a :: xs) xs') :
    ∃ v v', (∀ w, (Builtin.min_ ts rt xs'.toArray).run C.P w = .ok v' w) ∧ VRel ι v v' ∧ K v := by
  obtain ⟨x', r', rfl, h1, h2⟩ := vrelL_one hx
  simp only [VRel] at h1; subst h1
  obtain ⟨v, v', h3, h4⟩ := foldMax_sound (C := C) (g := Builtin.min2) (fun k a k' b w => by simp only [Builtin.min2, Sem.run_pure, min2]) xs r' k a K h h2
  exact ⟨v, v', fun w => by simp only [Builtin.min_]; exact h3 w, h4⟩
end
end Go.Proofs.YthpngchngnaloaaGreatDoor.Vm

/-! The operations of the model do what the abstract machine asks: maps, strings gone through, assertions. -/
namespace Go.Proofs.YthpngchngnaloaaGreatDoor.Vm
open RowKit (Below)

section
variable {C : Cx} {G : Base} {ι : IM} {σ : AH} {w : World}

theorem run_getObj {P : Program} {w : World} {r : Nat} {o : Obj} (h : w.heap[r]? = some o) (hc : ∀ c e f, o ≠ .cells c e f) : (getObj r).run P w = .ok o w := by
  cases o <;> first | (exact absurd rfl (hc _ _ _)) | (simp [getObj, Sem.run, h])
theorem run_setObj {P : Program} {w : World} {r : Nat} {o o' : Obj} (h : w.heap[r]? = some o) (hc : ∀ c e f, o ≠ .cells c e f) : (setObj r o').run P w = .ok () (putBlk w r o') := by
  cases o <;> first | (exact absurd rfl (hc _ _ _)) | (simp [setObj, Sem.run, h, putBlk])

/-- A key that may be looked for: its type, and how it is held against others. -/
inductive KeyTy (C : Cx) (kt : TypeId) : AV → KC → Prop
  | int (kd k : IntKind) (n : Int) (h : C.P.underlying kt = some (.int kd)) : KeyTy C kt (.int k n) (.one (.int kd))
  | str (s : List UInt8) (h : C.P.underlying kt = some .string) : KeyTy C kt (.str s) (.one .str)
  | many (ti : TI) (cs : List AV) (x : Bool) (h : C.ti kt = some ti) (hp : ti.plain = true) (hc : eqS ti.sh cs cs true = some x) : KeyTy C kt (.agg cs) (.many ti.sh)
theorem keyOk_some {kt : TypeId} {k : AV} {K : KC → Prop} (h : keyOk C kt k K) : ∃ c, KeyTy C kt k c ∧ K c := by
  unfold keyOk at h
  split at h
  case h_2 => cases h
  rename_i ti hti
  obtain ⟨d, _, htd, hdP⟩ := C.und hti
  split at h
  · rename_i kd k' n hd
    obtain rfl := td_int (htd.trans hd)
    exact ⟨_, .int kd k' n hdP, h⟩
  · rename_i s hd
    obtain rfl := td_str (htd.trans hd)
    exact ⟨_, .str s hdP, h⟩
  · rename_i fs cs hd
    split at h
    case isFalse => cases h
    rename_i hp
    split at h
    case h_2 => cases h
    rename_i x hx
    exact ⟨_, .many ti cs x hti hp hx, h⟩
  · cases h

/-- What is found, in both. -/
def FRel (ι : IM) : Option (Nat × AV) → Option (Nat × Value) → Prop
  | none, none => True
  | some (j, v), some (j', v') => j = j' ∧ VRel ι v v'
  | _, _ => False

theorem findNow_one {P : Program} {d : TypeDesc} {s : Sh} {k : AV} {k' : Value} (hk : VRel ι k k') (hs : (∃ kd, s = .int kd ∧ ∃ kd', d = .int kd') ∨ (s = .str ∧ d = .string)) :
    ∀ (es : List (AV × AV × Nat)) (es' : List MapEntry) (i : Nat) (res : Option (Nat × AV)), MRel ι es es' → mapFind (.one s) k es i = some res →
    ∃ res', Instr.findNow d k' es' i = some res' ∧ FRel ι res res'
  | [], es', i, res, hm, h => by
    simp only [MRel] at hm; subst hm
    simp only [mapFind, Option.some.injEq] at h; subst h
    exact ⟨none, rfl, trivial⟩
  | e :: es, es', i, res, hm, h => by
    obtain ⟨e', l', rfl, h1, h2, h3, h4⟩ := hm
    simp only [mapFind, eqK] at h
    have key : ∀ x, eq1 s k e.1 = some x → Instr.sameNow d k' e'.key = some x := by
      intro x hx
      unfold eq1 at hx
      split at hx
      · rename_i k0 ka a kb b hke
        simp only [VRel] at hk h1
        subst hk
        rw [hke] at h1
        simp only [VRel] at h1
        split at hx
        · rename_i hkk
          subst hkk
          rcases hs with ⟨kd, _, kd', rfl⟩ | ⟨h, _⟩
          · rw [h1]; simp only [Instr.sameNow, if_true]; exact hx
          · cases h
        · cases hx
      · rcases hs with ⟨kd, h, _⟩ | ⟨h, _⟩ <;> cases h
      · rename_i a b hke
        simp only [VRel] at hk
        subst hk
        rw [hke] at h1
        simp only [VRel] at h1
        rcases hs with ⟨kd, h, _⟩ | ⟨_, rfl⟩
        · cases h
        · rw [h1]
          simp only [Instr.sameNow]
          rw [beq_toListBytes, ByteArray.toList_mk, ByteArray.toList_mk]
          exact hx
      · cases hx
    cases hx : eq1 s k e.1 with
    | none => rw [hx] at h; cases h
    | some x =>
      rw [hx] at h
      cases x with
      | true =>
        simp only [Option.some.injEq] at h; subst h
        exact ⟨some (i, e'.val), by simp [Instr.findNow, key _ hx], rfl, h2⟩
      | false =>
        simp only at h
        obtain ⟨res', h5, h6⟩ := findNow_one (P := P) hk hs es l' (i + 1) res h4 h
        exact ⟨res', by simp [Instr.findNow, key _ hx, h5], h6⟩

theorem findAsk_many {kt : TypeId} {ti : TI} (hti : C.ti kt = some ti) (hp : ti.plain = true) {cs : List AV} {k' : Value} (hk : VRel ι (.agg cs) k') :
    ∀ (es : List (AV × AV × Nat)) (es' : List MapEntry) (i : Nat) (res : Option (Nat × AV)), MRel ι es es' → mapFind (.many ti.sh) (.agg cs) es i = some res →
    ∃ res', (∀ w, (Instr.findAsking kt k' es' i).run C.P w = .ok res' w) ∧ FRel ι res res'
  | [], es', i, res, hm, h => by
    simp only [MRel] at hm; subst hm
    simp only [mapFind, Option.some.injEq] at h; subst h
    exact ⟨none, fun w => rfl, trivial⟩
  | e :: es, es', i, res, hm, h => by
    obtain ⟨e', l', rfl, h1, h2, h3, h4⟩ := hm
    simp only [mapFind] at h
    cases hx : eqK (.many ti.sh) (.agg cs) e.1 with
    | none => rw [hx] at h; cases h
    | some x =>
      rw [hx] at h
      have heq : ∀ w, (Op.equal kt k' e'.key).run C.P w = .ok x w := by
        intro w
        obtain ⟨bs, hkb, hx⟩ : ∃ bs, e.1 = .agg bs ∧ eqS ti.sh cs bs true = some x := by
          cases hke : e.1 <;> rw [hke] at hx <;> simp only [eqK] at hx <;> first | exact ⟨_, rfl, hx⟩ | cases hx
        obtain ⟨l, rfl, hl⟩ := vrel_agg hk
        rw [hkb] at h1
        obtain ⟨m, hm, hml⟩ := vrel_agg h1
        rw [hm]
        exact equal_struct hti hp hl hml hx 9998 w
      cases x with
      | true =>
        simp only [Option.some.injEq] at h; subst h
        exact ⟨some (i, e'.val), fun w => by simp only [Instr.findAsking, Sem.run_bind, heq, Result.andThen_ok, if_true, Sem.run_pure], rfl, h2⟩
      | false =>
        simp only at h
        obtain ⟨res', h5, h6⟩ := findAsk_many hti hp hk es l' (i + 1) res h4 h
        exact ⟨res', fun w => by simp only [Instr.findAsking, Sem.run_bind, heq, Result.andThen_ok, Bool.false_eq_true, if_false, h5], h6⟩

theorem findKey_sound {kt : TypeId} {k : AV} {c : KC} {k' : Value} (hkt : KeyTy C kt k c) (hk : VRel ι k k') {es : List (AV × AV × Nat)} {es' : List MapEntry} {res : Option (Nat × AV)} (hm : MRel ι es es') (h : mapFind c k es 0 = some res) :
    ∃ res', (∀ w, (Instr.findKey kt k' es').run C.P w = .ok res' w) ∧ FRel ι res res' := by
  cases hkt with
  | int kd kk n hP =>
    obtain ⟨res', h1, h2⟩ := findNow_one (P := C.P) (d := .int kd) hk (.inl ⟨kd, rfl, kd, rfl⟩) es es' 0 res hm h
    exact ⟨res', fun w => by simp only [Instr.findKey, Sem.run_bind, run_und hP, Result.andThen_ok, h1, Sem.run_pure], h2⟩
  | str s hP =>
    obtain ⟨res', h1, h2⟩ := findNow_one (P := C.P) (d := .string) hk (.inr ⟨rfl, rfl⟩) es es' 0 res hm h
    exact ⟨res', fun w => by simp only [Instr.findKey, Sem.run_bind, run_und hP, Result.andThen_ok, h1, Sem.run_pure], h2⟩
  | many ti cs x hti hp hc =>
    obtain ⟨res', h1, h2⟩ := findAsk_many hti hp hk es es' 0 res hm h
    obtain ⟨F, hF, _⟩ := plain_struct hti hp
    cases es' with
    | nil =>
      cases es with
      | nil =>
        simp only [mapFind, Option.some.injEq] at h; subst h
        exact ⟨none, fun w => by simp only [Instr.findKey, Sem.run_bind, run_und hF, Result.andThen_ok, Instr.findNow, Sem.run_pure], trivial⟩
      | cons e es => obtain ⟨_, _, he, _⟩ := hm; cases he
    | cons e l =>
      refine ⟨res', fun w => ?_, h2⟩
      have hn : Instr.findNow (.struct F) k' (e :: l) 0 = none := by simp [Instr.findNow, Instr.sameNow]
      simp only [Instr.findKey, Sem.run_bind, run_und hF, Result.andThen_ok, hn, h1]

theorem checkFields {P : Program} {b : Bool} {n : Nat} : ∀ (fs : List Field) (ss : List Sh) (as bs : List AV) (xs : Array Value) (i : Nat) (x : Bool) (w : World),
    PlainFields P fs i ss → VRelL ι as (xs.toList.drop i) → eqS ss as bs true = some x →
    (forIn fs PUnit.unit (fun f _ => do
      if f.name ≠ "_" then Instr.checkKey b (n + 1) f.type (← part f.type xs f.offset)
      pure (ForInStep.yield PUnit.unit)) : Sem PUnit).run P w = .ok PUnit.unit w
  | [], _, _, _, _, _, _, _, _, _, _ => by simp
  | f :: fs, [], _, _, _, _, _, _, hf, _, _ => by simp [PlainFields] at hf
  | f :: fs, s :: ss, as, bs, xs, i, x, w, hf, ha, h => by
    simp only [PlainFields] at hf
    obtain ⟨⟨hoff, hname, hty⟩, hf⟩ := hf
    have hty' : shFits P f.type s := by cases s <;> exact hty
    cases as with
    | nil => simp [eqS] at h
    | cons a as =>
    cases bs with
    | nil => simp [eqS] at h
    | cons c bs =>
    simp only [eqS] at h
    cases he : eq1 s a c with
    | none => rw [he] at h; cases h
    | some y =>
      rw [he] at h
      simp only at h
      rw [eqS_acc] at h
      obtain ⟨q0, h1, h2⟩ := Option.map_eq_some_iff.1 h
      simp only [VRelL] at ha
      obtain ⟨a', xr, hxs, har, hxr⟩ := ha
      have hx0 : xs[i]? = some a' := by
        have := congrArg (fun l => l[0]?) hxs
        simpa [List.getElem?_drop] using this
      have hxd : xs.toList.drop (i + 1) = xr := by rw [← List.drop_drop, hxs]; rfl
      have hn : f.name ≠ "_" := by simpa using hname
      have hck : (Instr.checkKey b (n + 1) f.type a').run P w = .ok () w := by
        cases s <;> simp only [shFits] at hty' <;> first | (cases hty'; done) | skip
        all_goals
          unfold eq1 at he
          split at he
          all_goals first
            | (simp only [VRel] at har; subst har; rw [Instr.checkKey, Sem.run_bind, run_und hty', Result.andThen_ok]; rfl)
            | (cases he; done)
            | (rename_i hh _ _; cases hh; done)
            | skip
      simp only [List.forIn_cons, Sem.run_bind, hn, ne_eq, not_false_eq_true, if_true, hoff, part_leaf hty' xs i a' hx0, Result.andThen_ok, hck, Sem.run_pure]
      exact checkFields fs ss as bs xs (i + 1) q0 w hf (hxd ▸ hxr) h1

theorem checkKey_sound {kt : TypeId} {k : AV} {c : KC} {k' : Value} (hkt : KeyTy C kt k c) (hk : VRel ι k k') (b : Bool) (n : Nat) (w : World) : (Instr.checkKey b (n + 1 + 1) kt k').run C.P w = .ok () w := by
  cases hkt with
  | int kd kk n hP =>
    simp only [VRel] at hk; subst hk
    rw [Instr.checkKey, Sem.run_bind, run_und hP, Result.andThen_ok]; rfl
  | str s hP =>
    simp only [VRel] at hk; subst hk
    rw [Instr.checkKey, Sem.run_bind, run_und hP, Result.andThen_ok]; rfl
  | many ti cs x hti hp hc =>
    obtain ⟨F, hF, _, _, hPF⟩ := plain_struct hti hp
    obtain ⟨l, rfl, hl⟩ := vrel_agg hk
    rw [Instr.checkKey, Sem.run_bind, run_und hF, Result.andThen_ok]
    have := checkFields (ι := ι) (b := b) (n := n) F.toList ti.sh cs cs l 0 x w hPF (by simpa using hl) hc
    rw [Array.forIn_toList] at this
    rw [Sem.run_bind]
    exact (congrArg (fun r => Result.andThen r _) this).trans rfl

theorem mapTys_some {t : TypeId} {K : TypeId → TI → Prop} (h : mapTys C t K) : ∃ kt e te, (∀ w, (underlying t).run C.P w = .ok (.map kt e) w) ∧ C.ti e = some te ∧ K kt te := by
  unfold mapTys at h
  split at h
  case h_2 => cases h
  rename_i ti hti
  obtain ⟨d, hd, htd, hdP⟩ := C.und hti
  split at h
  case h_2 => cases h
  rename_i kt e hte
  obtain rfl := td_map (htd.trans hte)
  split at h
  · rename_i te hte'; exact ⟨kt, e, te, hd, hte', h⟩
  · cases h

theorem pair_rel {a b : AV} {a' b' : Value} (h : VRel ι a a') (h' : VRel ι b b') : VRel ι (.tuple [a, b]) (.tuple #[a', b']) := by
  simp only [VRel]
  exact ⟨[a', b'], rfl, .cons h (.cons h' .nil)⟩

theorem lookupVc_sound (hr : Rel G ι σ w) {t : TypeId} {x k : AV} {x' k' : Value} {ok : Bool} {K : AV → Prop} (h : lookupVc C t x k ok σ K) (hx : VRel ι x x') (hk : VRel ι k k') :
    ∃ v v', (Instr.lookup t x' k' ok).run C.P w = .ok v' w ∧ VRel ι v v' ∧ K v := by
  unfold lookupVc at h
  obtain ⟨kt, e, te, hd, hte, h⟩ := mapTys_some h
  obtain ⟨c, hkt, h⟩ := keyOk_some h
  obtain ⟨z, hz, hzr⟩ := C.zeroAV ι hte
  have hck : ∀ b w, (Instr.checkKey b 10000 kt k').run C.P w = .ok () w := fun b w => checkKey_sound hkt hk b 9998 w
  split at h
  · simp only [VRel] at hx; subst hx
    obtain ⟨r', hr1, hr2⟩ := findKey_sound hkt hk (es := []) (es' := []) (res := none) (by simp [MRel]) rfl
    have hr3 : r' = none := by cases r' with
      | none => rfl
      | some q => cases q; cases hr2
    subst hr3
    refine ⟨_, if ok then .tuple #[z, .bool false] else z, ?_, ?_, h⟩
    · simp only [Instr.lookup, Sem.run_bind, hd, Result.andThen_ok, Sem.run_pure, hck]
      have : (Instr.findKey kt k' (#[] : Array MapEntry).toList).run C.P w = .ok none w := hr1 w
      simp only [this, Result.andThen_ok, Sem.run_bind, hz, Sem.run_pure]
    · cases ok
      · exact hzr
      · exact pair_rel hzr (by simp only [VRel])
  · rename_i r
    obtain ⟨es, clock, hk1, res, hfind, h⟩ := h
    simp only [VRel] at hx
    obtain ⟨p, hp, rfl⟩ := hx
    obtain ⟨ês, g1, g2⟩ := hr.live _ p _ hp hk1
    obtain ⟨r', hr1, hr2⟩ := findKey_sound hkt hk g2 hfind
    have hg := run_getObj (P := C.P) g1 (by simp)
    cases res with
    | none =>
      have hr3 : r' = none := by cases r' with
        | none => rfl
        | some q => cases q; cases hr2
      subst hr3
      refine ⟨_, if ok then .tuple #[z, .bool false] else z, ?_, ?_, h⟩
      · simp only [Instr.lookup, Sem.run_bind, hd, Result.andThen_ok, Sem.run_pure, hg, hck, hr1, hz]
      · cases ok
        · exact hzr
        · exact pair_rel hzr (by simp only [VRel])
    | some jv =>
      obtain ⟨j, v⟩ := jv
      cases r' with
      | none => cases hr2
      | some jv' =>
        obtain ⟨j', v'⟩ := jv'
        obtain ⟨rfl, hv⟩ := hr2
        refine ⟨_, if ok then .tuple #[v', .bool true] else v', ?_, ?_, h⟩
        · simp only [Instr.lookup, Sem.run_bind, hd, Result.andThen_ok, Sem.run_pure, hg, hck, hr1]
        · cases ok
          · exact hv
          · exact pair_rel hv (by simp only [VRel])
  · cases h

/-! ### Writing into a map -/
theorem MRel.append {ι : IM} : ∀ {es : List (AV × AV × Nat)} {l : List MapEntry} {fs : List (AV × AV × Nat)} {m : List MapEntry}, MRel ι es l → MRel ι fs m → MRel ι (es ++ fs) (l ++ m)
  | [], l, fs, m, h, h' => by simp only [MRel] at h; subst h; simpa using h'
  | e :: es, l, fs, m, h, h' => by
    obtain ⟨e', l', rfl, h1, h2, h3, h4⟩ := h
    exact ⟨e', l' ++ m, rfl, h1, h2, h3, h4.append h'⟩
theorem MRel.modify {ι : IM} {f : AV × AV × Nat → AV × AV × Nat} {g : MapEntry → MapEntry} (hfg : ∀ e e', VRel ι e.1 e'.key → VRel ι e.2.1 e'.val → e.2.2 = e'.born → VRel ι (f e).1 (g e').key ∧ VRel ι (f e).2.1 (g e').val ∧ (f e).2.2 = (g e').born) :
    ∀ {es : List (AV × AV × Nat)} {l : List MapEntry} (i : Nat), MRel ι es l → MRel ι (es.modify i f) (l.modify i g)
  | [], l, i, h => by simp only [MRel] at h; subst h; cases i <;> simp [MRel]
  | e :: es, l, 0, h => by
    obtain ⟨e', l', rfl, h1, h2, h3, h4⟩ := h
    simp only [List.modify_zero_cons]
    obtain ⟨h5, h6, h7⟩ := hfg e e' h1 h2 h3
    exact ⟨g e', l', rfl, h5, h6, h7, h4⟩
  | e :: es, l, i + 1, h => by
    obtain ⟨e', l', rfl, h1, h2, h3, h4⟩ := h
    simp only [List.modify_succ_cons]
    exact ⟨e', _, rfl, h1, h2, h3, h4.modify hfg i⟩
theorem MRel.get {ι : IM} : ∀ {es : List (AV × AV × Nat)} {l : List MapEntry} (i : Nat) {e : AV × AV × Nat}, MRel ι es l → es[i]? = some e → ∃ e', l[i]? = some e' ∧ VRel ι e.1 e'.key ∧ VRel ι e.2.1 e'.val ∧ e.2.2 = e'.born
  | [], l, i, e, h, he => by simp at he
  | e :: es, l, 0, x, h, hx => by
    obtain ⟨e', l', rfl, h1, h2, h3, h4⟩ := h
    simp at hx; subst hx
    exact ⟨e', rfl, h1, h2, h3⟩
  | e :: es, l, i + 1, x, h, hx => by
    obtain ⟨e', l', rfl, h1, h2, h3, h4⟩ := h
    simp at hx
    obtain ⟨y, hy, h5⟩ := h4.get i hx
    exact ⟨y, by simpa using hy, h5⟩
theorem MRel.eraseIdx {ι : IM} : ∀ {es : List (AV × AV × Nat)} {l : List MapEntry} (i : Nat), MRel ι es l → MRel ι (es.eraseIdx i) (l.eraseIdx i)
  | [], l, i, h => by simp only [MRel] at h; subst h; simp [MRel]
  | e :: es, l, 0, h => by
    obtain ⟨e', l', rfl, h1, h2, h3, h4⟩ := h
    simpa using h4
  | e :: es, l, i + 1, h => by
    obtain ⟨e', l', rfl, h1, h2, h3, h4⟩ := h
    simp only [List.eraseIdx_cons_succ]
    exact ⟨e', _, rfl, h1, h2, h3, h4.eraseIdx i⟩

theorem mapFind_at {c : KC} {k : AV} : ∀ {es : List (AV × AV × Nat)} {i j : Nat} {v : AV}, mapFind c k es i = some (some (j, v)) → i ≤ j ∧ ∃ e, es[j - i]? = some e ∧ eqK c k e.1 = some true ∧ e.2.1 = v
  | [], i, j, v, h => by simp [mapFind] at h
  | e :: es, i, j, v, h => by
    simp only [mapFind] at h
    cases hx : eqK c k e.1 with
    | none => rw [hx] at h; cases h
    | some x =>
      rw [hx] at h
      cases x with
      | true =>
        simp only [Option.some.injEq, Prod.mk.injEq] at h
        obtain ⟨rfl, rfl⟩ := h
        exact ⟨Nat.le_refl _, e, by simp, hx, rfl⟩
      | false =>
        simp only at h
        obtain ⟨h1, y, h2, h3⟩ := mapFind_at h
        exact ⟨by omega, y, by rw [show j - i = j - (i + 1) + 1 by omega]; simpa using h2, h3⟩

theorem sameBits_plain {c : KC} {kt : TypeId} {k : AV} {k' e' : Value} {e : AV} (hkt : KeyTy C kt k c) (hk : VRel ι k k') (he : VRel ι e e') (h : eqK c k e = some true) (n : Nat) : Instr.sameBits (n + 1) e' k' = true := by
  have one : ∀ (s : Sh) (a b : AV) (a' b' : Value) (n : Nat), VRel ι a a' → VRel ι b b' → eq1 s a b = some true → Instr.sameBits n b' a' = true := by
    intro s a b a' b' n ha hb h
    unfold eq1 at h
    split at h
    · simp only [VRel] at ha hb; subst ha hb
      split at h
      · rename_i hk; subst hk
        simp only [Option.some.injEq, beq_iff_eq] at h; subst h
        simp [Instr.sameBits]
      · cases h
    · simp only [VRel] at ha hb; subst ha hb
      simp only [Option.some.injEq, beq_iff_eq] at h; subst h
      simp [Instr.sameBits]
    · simp only [VRel] at ha hb; subst ha hb
      simp only [Option.some.injEq, beq_iff_eq] at h; subst h
      simp only [Instr.sameBits, beq_toListBytes, beq_self_eq_true]
    · cases h
  cases hkt with
  | int kd kk m hP => exact one _ _ _ _ _ _ hk he h
  | str s hP => exact one _ _ _ _ _ _ hk he h
  | many ti cs x hti hp hc =>
    obtain ⟨bs, rfl, h⟩ : ∃ bs, e = .agg bs ∧ eqS ti.sh cs bs true = some true := by
      cases e <;> simp only [eqK] at h <;> first | exact ⟨_, rfl, h⟩ | cases h
    simp only [VRel] at hk he
    obtain ⟨l, rfl, hl⟩ := hk
    obtain ⟨m, rfl, hm⟩ := he
    have all : ∀ (ss : List Sh) (as bs : List AV) (l m : List Value), VRelL ι as l → VRelL ι bs m → eqS ss as bs true = some true → m.length = l.length ∧ (m.zip l).all (fun (x, y) => Instr.sameBits n x y) = true := by
      intro ss
      induction ss with
      | nil =>
        intro as bs l m hl hm h
        cases as <;> cases bs <;> simp [eqS] at h
        simp only [VRelL] at hl hm; subst hl hm
        exact ⟨rfl, rfl⟩
      | cons s ss ih =>
        intro as bs l m hl hm h
        cases as with
        | nil => simp [eqS] at h
        | cons a as =>
        cases bs with
        | nil => simp [eqS] at h
        | cons b bs =>
        obtain ⟨a', l', rfl, ha, hl⟩ := vrelL_one hl
        obtain ⟨b', m', rfl, hb, hm⟩ := vrelL_one hm
        simp only [eqS] at h
        cases he : eq1 s a b with
        | none => rw [he] at h; cases h
        | some y =>
          rw [he] at h
          simp only at h
          rw [eqS_acc] at h
          obtain ⟨q0, h1, h2⟩ := Option.map_eq_some_iff.1 h
          simp only [Bool.true_and, Bool.and_eq_true] at h2
          obtain ⟨rfl, rfl⟩ := h2
          obtain ⟨h3, h4⟩ := ih as bs l' m' hl hm h1
          refine ⟨by simp [h3], ?_⟩
          simp only [List.zip_cons_cons, List.all_cons, Bool.and_eq_true]
          exact ⟨one s a b a' b' n ha hb he, h4⟩
    obtain ⟨h3, h4⟩ := all _ _ _ _ _ hl hm h
    simp only [Instr.sameBits, List.size_toArray, h3, beq_self_eq_true, Bool.true_and]
    exact h4

theorem keyStays {kt : TypeId} {c : KC} {k : AV} {k' : Value} (hkt : KeyTy C kt k c) (hk : VRel ι k k') {e' : Value} {e : AV} (he : VRel ι e e') (h : eqK c k e = some true) (w : World) : (Instr.keyThatStays e' k').run C.P w = .ok k' w := by
  unfold Instr.keyThatStays
  rw [if_pos (sameBits_plain hkt hk he h 9999)]
  rfl

theorem map_swap (hr : Rel G ι σ w) {r : Nat} {p : Place} {es : List (AV × AV × Nat)} {clock : Nat} (hp : ι r = some p) (hk : σ.get r = some (.map es clock)) {fs : List (AV × AV × Nat)} {c2 : Nat} {fs' : Array MapEntry} (hm : MRel ι fs fs'.toList) :
    Rel G ι (σ.set r (.map fs c2)) (putBlk w p.blk (.map fs' c2)) :=
  hr.swap hp hk rfl _ ⟨fs', putBlk_self _ _ _ (hr.bound r p hp), hm⟩

theorem mapPutVc_sound (hr : Rel G ι σ w) {t : TypeId} {x k v : AV} {x' k' v' : Value} {K : AH → Prop} (h : mapPutVc C t x k v σ K) (hx : VRel ι x x') (hk : VRel ι k k') (hv : VRel ι v v') :
    ∃ σ' w', (Instr.mapUpdate t x' k' v').run C.P w = .ok () w' ∧ Rel G ι σ' w' ∧ σ'.next = σ.next ∧ K σ' := by
  unfold mapPutVc at h
  obtain ⟨kt, e, te, hd, hte, h⟩ := mapTys_some h
  obtain ⟨c, hkt, h⟩ := keyOk_some h
  have hck : ∀ b w, (Instr.checkKey b 10000 kt k').run C.P w = .ok () w := fun b w => checkKey_sound hkt hk b 9998 w
  split at h
  case h_2 => cases h
  rename_i r
  obtain ⟨es, clock, hk1, res, hfind, h⟩ := h
  simp only [VRel] at hx
  obtain ⟨p, hp, rfl⟩ := hx
  obtain ⟨ês, g1, g2⟩ := hr.live _ p _ hp hk1
  obtain ⟨r', hr1, hr2⟩ := findKey_sound hkt hk g2 hfind
  have hg := run_getObj (P := C.P) g1 (by simp)
  cases res with
  | none =>
    have hr3 : r' = none := by cases r' with
      | none => rfl
      | some q => cases q; cases hr2
    subst hr3
    refine ⟨_, _, ?_, map_swap hr hp hk1 (fs := es ++ [(k, v, clock)]) (c2 := clock + 1) (fs' := ês.push { key := k', val := v', born := clock }) ?_, rfl, h⟩
    · simp only [Instr.mapUpdate, Sem.run_bind, hd, Result.andThen_ok, hg, hck, hr1]
      exact run_setObj g1 (by simp)
    · rw [Array.toList_push]
      exact g2.append ⟨_, [], rfl, hk, hv, rfl, by simp [MRel]⟩
  | some jv =>
    obtain ⟨j, u⟩ := jv
    cases r' with
    | none => cases hr2
    | some jv' =>
      obtain ⟨j', u'⟩ := jv'
      obtain ⟨rfl, hu⟩ := hr2
      obtain ⟨_, e0, he0, heq, _⟩ := mapFind_at hfind
      rw [Nat.sub_zero] at he0
      obtain ⟨e1, he1, hek, hev, heb⟩ := g2.get j he0
      rw [Array.getElem?_toList] at he1
      refine ⟨_, _, ?_, map_swap hr hp hk1 (fs := es.modify j fun e => (k, v, e.2.2)) (c2 := clock) (fs' := ês.modify j fun e => { e with key := k', val := v' }) ?_, rfl, h⟩
      · simp only [Instr.mapUpdate, Sem.run_bind, hd, Result.andThen_ok, hg, hck, hr1, he1, Option.map_some, Option.getD_some, keyStays hkt hk hek heq]
        exact run_setObj g1 (by simp)
      · rw [Array.toList_modify]
        exact MRel.modify (f := fun e => (k, v, e.2.2)) (g := fun e => { e with key := k', val := v' }) (fun e e' h1 h2 h3 => ⟨hk, hv, h3⟩) j g2

theorem mapEntryVc_sound (hr : Rel G ι σ w) {t : TypeId} {x k : AV} {x' k' : Value} {K : AV → AH → Prop} (h : mapEntryVc C t x k σ K) (hx : VRel ι x x') (hk : VRel ι k k') :
    Gives G ι σ C.P w (Instr.mapEntry t x' k') K := by
  unfold mapEntryVc at h
  obtain ⟨kt, e, te, hd, hte, h⟩ := mapTys_some h
  obtain ⟨c, hkt, h⟩ := keyOk_some h
  obtain ⟨z, hz, hzr⟩ := C.zeroAV ι hte
  have hck : ∀ b w, (Instr.checkKey b 10000 kt k').run C.P w = .ok () w := fun b w => checkKey_sound hkt hk b 9998 w
  split at h
  case h_2 => cases h
  rename_i r
  obtain ⟨es, clock, hk1, res, hfind, h⟩ := h
  simp only [VRel] at hx
  obtain ⟨p, hp, rfl⟩ := hx
  obtain ⟨ês, g1, g2⟩ := hr.live _ p _ hp hk1
  obtain ⟨r', hr1, hr2⟩ := findKey_sound hkt hk g2 hfind
  have hg := run_getObj (P := C.P) g1 (by simp)
  cases res with
  | none =>
    have hr3 : r' = none := by cases r' with
      | none => rfl
      | some q => cases q; cases hr2
    subst hr3
    refine .here (map_swap hr hp hk1 (fs := es ++ [(k, zeroAV te, clock)]) (c2 := clock + 1) (fs' := ês.push { key := k', val := z, born := clock }) ?_) (Nat.le_refl _) (v' := .tuple #[z, .int .i64 clock]) ?_ (pair_rel hzr (by simp only [VRel])) h
    · rw [Array.toList_push]
      exact g2.append ⟨_, [], rfl, hk, hzr, rfl, by simp [MRel]⟩
    · simp only [Instr.mapEntry, Sem.run_bind, hd, Result.andThen_ok, hg, hck, hr1, hz]
      rw [run_setObj g1 (by simp)]
      rfl
  | some jv =>
    obtain ⟨j, u⟩ := jv
    cases r' with
    | none => cases hr2
    | some jv' =>
      obtain ⟨j', u'⟩ := jv'
      obtain ⟨rfl, hu⟩ := hr2
      obtain ⟨_, e0, he0, heq, _⟩ := mapFind_at hfind
      rw [Nat.sub_zero] at he0
      obtain ⟨e1, he1, hek, hev, heb⟩ := g2.get j he0
      rw [Array.getElem?_toList] at he1
      refine .here (map_swap hr hp hk1 (fs := es.modify j fun e => (k, e.2)) (c2 := clock) (fs' := ês.modify j fun e => { e with key := k' }) ?_) (Nat.le_refl _) (v' := .tuple #[u', .int .i64 e0.2.2]) ?_ (pair_rel hu ?_) h
      · rw [Array.toList_modify]
        exact MRel.modify (f := fun e => (k, e.2)) (g := fun e => { e with key := k' }) (fun e e' h1 h2 h3 => ⟨hk, h2, h3⟩) j g2
      · simp only [Instr.mapEntry, Sem.run_bind, hd, Result.andThen_ok, hg, hck, hr1, he1, Option.map_some, Option.getD_some, keyStays hkt hk hek heq]
        rw [run_setObj g1 (by simp)]
        simp only [Result.andThen_ok, Sem.run_pure, goInt, heb]
      · rw [he0]; simp only [VRel, Option.map_some, Option.getD_some]

theorem findIdx_rel : ∀ {es : List (AV × AV × Nat)} {l : List MapEntry} (s : Int) (i : Nat), MRel ι es l → es.findIdx? (fun e => (e.2.2 : Int) == s) = some i → l.findIdx? (fun e => (e.born : Int) == s) = some i
  | [], l, s, i, h, hi => by simp at hi
  | e :: es, l, s, i, h, hi => by
    obtain ⟨e', l', rfl, h1, h2, h3, h4⟩ := h
    rw [List.findIdx?_cons] at hi ⊢
    rw [← h3]
    split at hi
    · rename_i hc; rw [if_pos hc]; exact hi
    · rename_i hc
      rw [if_neg hc]
      obtain ⟨j, hj, rfl⟩ := Option.map_eq_some_iff.1 hi
      rw [findIdx_rel s j h4 hj]; rfl

theorem entryStoreVc_sound (hr : Rel G ι σ w) {t : TypeId} {x s v : AV} {x' s' v' : Value} {K : AH → Prop} (h : entryStoreVc x s v σ K) (hx : VRel ι x x') (hs : VRel ι s s') (hv : VRel ι v v') :
    ∃ σ' w', (Instr.entryStore t x' s' v').run C.P w = .ok () w' ∧ Rel G ι σ' w' ∧ σ'.next = σ.next ∧ K σ' := by
  unfold entryStoreVc at h
  split at h
  case h_2 => cases h
  rename_i r ks s
  obtain ⟨es, clock, hk1, i, hi, h⟩ := h
  simp only [VRel] at hx hs
  subst hs
  obtain ⟨p, hp, rfl⟩ := hx
  obtain ⟨ês, g1, g2⟩ := hr.live _ p _ hp hk1
  have hg := run_getObj (P := C.P) g1 (by simp)
  have hi' := findIdx_rel s i g2 hi
  have hi2 : ês.findIdx? (fun e => (e.born : Int) == s) = some i := by rw [← hi']; cases ês; simp
  refine ⟨_, _, ?_, map_swap hr hp hk1 (fs := es.modify i fun e => (e.1, v, e.2.2)) (c2 := clock) (fs' := ês.modify i fun e => { e with val := v' }) ?_, rfl, h⟩
  · simp only [Instr.entryStore, Sem.run_bind, hg, Result.andThen_ok, asInt, asIntOf, Sem.run_pure, hi2]
    exact run_setObj g1 (by simp)
  · rw [Array.toList_modify]
    exact MRel.modify (f := fun e => (e.1, v, e.2.2)) (g := fun e => { e with val := v' }) (fun e e' h1 h2 h3 => ⟨h1, hv, h3⟩) i g2

theorem deleteVc_sound (hr : Rel G ι σ w) {ts : List TypeId} {xs : List AV} {xs' : List Value} {rt : TypeId} {K : AV → AH → Prop} (h : deleteVc C ts xs σ K) (hx : VRelL ι xs xs') :
    Gives G ι σ C.P w (Builtin.delete_ ts.toArray rt xs'.toArray) K := by
  unfold deleteVc at h
  split at h
  case h_2 => cases h
  rename_i t trest r k xrest
  obtain ⟨m', k', r', rfl, hm, hk, _⟩ := vrelL_two hx
  obtain ⟨kt, e, te, hd, hte, h⟩ := mapTys_some h
  obtain ⟨c, hkt, h⟩ := keyOk_some h
  have hck : ∀ b w, (Instr.checkKey b 10000 kt k').run C.P w = .ok () w := fun b w => checkKey_sound hkt hk b 9998 w
  obtain ⟨es, clock, hk1, res, hfind, h⟩ := h
  simp only [VRel] at hm
  obtain ⟨p, hp, rfl⟩ := hm
  obtain ⟨ês, g1, g2⟩ := hr.live _ p _ hp hk1
  obtain ⟨r'', hr1, hr2⟩ := findKey_sound hkt hk g2 hfind
  have hg := run_getObj (P := C.P) g1 (by simp)
  cases res with
  | none =>
    have hr3 : r'' = none := by cases r'' with
      | none => rfl
      | some q => cases q; cases hr2
    subst hr3
    have e1 : putBlk w p.blk (.map ês clock) = w := by
      unfold putBlk
      obtain ⟨hlt, hxx⟩ := Array.getElem?_eq_some_iff.1 g1
      rw [show w.heap.setIfInBounds p.blk (.map ês clock) = w.heap from by
        apply Array.ext_getElem?; intro k; rw [Array.getElem?_setIfInBounds]
        by_cases hk : p.blk = k
        · subst hk; simp [hlt, hxx]
        · simp [hk]]
    refine .same hr (v' := .tuple #[]) ?_ (by simp only [VRel]; exact ⟨[], rfl, .nil⟩) h
    simp only [Builtin.delete_, List.getElem?_toArray, List.getElem?_cons_zero, List.getElem?_cons_succ, Sem.run_bind, hd, Result.andThen_ok, hg, hck, hr1]
    rw [run_setObj g1 (by simp), e1]
    rfl
  | some jv =>
    obtain ⟨j, u⟩ := jv
    cases r'' with
    | none => cases hr2
    | some jv' =>
      obtain ⟨j', u'⟩ := jv'
      obtain ⟨rfl, hu⟩ := hr2
      refine .here (map_swap hr hp hk1 (fs := es.eraseIdx j) (c2 := clock) (fs' := ês.eraseIdxIfInBounds j) ?_) (Nat.le_refl _) (v' := .tuple #[]) ?_ (by simp only [VRel]; exact ⟨[], rfl, .nil⟩) h
      · rw [Array.toList_eraseIdxIfInBounds]
        exact g2.eraseIdx j
      · simp only [Builtin.delete_, List.getElem?_toArray, List.getElem?_cons_zero, List.getElem?_cons_succ, Sem.run_bind, hd, Result.andThen_ok, hg, hck, hr1]
        rw [run_setObj g1 (by simp)]
        rfl

theorem makeMap_sound (hr : Rel G ι σ w) {t : TypeId} {K : AV → AH → Prop} (h : K (.map (some σ.next)) (σ.alloc (.map [] 0))) : Gives G ι σ C.P w (Instr.makeMap t none) K := by
  refine ⟨_, .map (some w.heap.size), _, _, _, rfl, hr.fresh_block (.map [] 0) (.map #[] 0) ⟨w.heap.size, 0, 0, 0⟩ rfl ⟨#[], alloc_new _ _, by simp [MRel]⟩, Ext.put _ _ _ (Nat.le_refl _), by simp, ?_, h⟩
  simp only [VRel]
  exact ⟨_, IM.put_self _ _ _, rfl⟩

/-! ### Strings gone through -/
theorem rangeVc_sound (hr : Rel G ι σ w) {t : TypeId} {x : AV} {x' : Value} {K : AV → AH → Prop} (h : rangeVc C t x σ K) (hx : VRel ι x x') : Gives G ι σ C.P w (Instr.range t x') K := by
  unfold rangeVc at h
  split at h
  case h_3 => cases h
  · rename_i ti s hti
    obtain ⟨d, hd, htd, hdP⟩ := C.und hti
    split at h
    case isFalse => cases h
    rename_i hte
    obtain rfl := td_str (htd.trans hte)
    simp only [VRel] at hx
    subst hx
    refine ⟨_, .pointer (some ⟨w.heap.size, 0, none⟩), _, _, _, ?_, hr.fresh_block (.siter s 0) (.stringIter ⟨s.toArray⟩ 0) ⟨w.heap.size, 0, 0, 0⟩ rfl ⟨alloc_new _ _, rfl⟩, Ext.put _ _ _ (Nat.le_refl _), by simp, ?_, h⟩
    · simp only [Instr.range, Sem.run_bind, hd, Result.andThen_ok, Sem.run_pure, run_newObj]
      rfl
    · simp only [VRel]
      exact ⟨_, IM.put_self _ _ _, by simp⟩
  · rename_i ti m hti
    obtain ⟨d, hd, htd, hdP⟩ := C.und hti
    split at h
    case h_2 => cases h
    rename_i k e hte
    obtain rfl := td_map (htd.trans hte)
    cases m with
    | none =>
      simp only [VRel] at hx
      subst hx
      refine ⟨_, .pointer (some ⟨w.heap.size, 0, none⟩), _, _, _, ?_, hr.fresh_block (.miter none 0 [] 0) (.mapIter none 0 #[] 0) ⟨w.heap.size, 0, 0, 0⟩ rfl ⟨none, alloc_new _ _, rfl, fun _ => rfl, fun r hr => by cases hr⟩, Ext.put _ _ _ (Nat.le_refl _), by simp, ?_, h⟩
      · simp only [Instr.range, Sem.run_bind, hd, Result.andThen_ok, Sem.run_pure, run_newObj]
        rfl
      · simp only [VRel]
        exact ⟨_, IM.put_self _ _ _, by simp⟩
    | some r =>
      simp only [VRel] at hx
      obtain ⟨p, hp, rfl⟩ := hx
      obtain ⟨es, clock, hk, h⟩ := h
      obtain ⟨ês, g1, hm⟩ := hr.live r p _ hp hk
      have hg := run_getObj (P := C.P) g1 (by simp)
      have hne : r ≠ σ.next := by have := hr.get_lt hk; omega
      refine ⟨_, .pointer (some ⟨w.heap.size, 0, none⟩), _, _, _, ?_, hr.fresh_block (.miter (some r) clock [] clock) (.mapIter (some p.blk) clock #[] clock) ⟨w.heap.size, 0, 0, 0⟩ rfl ⟨some p.blk, alloc_new _ _, rfl, (fun h => by cases h), fun r' hr' => by cases hr'; exact ⟨p, by rw [IM.put_ne _ _ hne]; exact hp, rfl⟩⟩, Ext.put _ _ _ (Nat.le_refl _), by simp, ?_, h⟩
      · simp only [Instr.range, Sem.run_bind, hd, Result.andThen_ok, hg, Sem.run_pure, run_newObj]
        rfl
      · simp only [VRel]
        exact ⟨_, IM.put_self _ _ _, by simp⟩

/-! ### What a map has left -/
theorem left_rel {seen : List Nat} : ∀ {es : List (AV × AV × Nat)} {l : List MapEntry}, MRel ι es l → MRel ι (leftA es seen) (l.filter fun e => !seen.toArray.contains e.born)
  | [], l, h => by simp only [MRel] at h; subst h; simp [leftA, MRel]
  | e :: es, l, h => by
    simp only [MRel] at h
    obtain ⟨e', l', rfl, h1, h2, h3, h4⟩ := h
    have ih := left_rel (seen := seen) h4
    simp only [leftA, List.filter_cons] at ih ⊢
    have : (!seen.contains e.2.2) = !seen.toArray.contains e'.born := by rw [h3]; simp
    rw [← this]
    split
    · simp only [MRel]
      exact ⟨e', _, rfl, h1, h2, h3, ih⟩
    · exact ih
theorem mrel_get : ∀ {es : List (AV × AV × Nat)} {l : List MapEntry}, MRel ι es l → ∀ {i : Nat} {e' : MapEntry}, l[i]? = some e' → ∃ e, e ∈ es ∧ VRel ι e.1 e'.key ∧ VRel ι e.2.1 e'.val ∧ e.2.2 = e'.born
  | [], l, h, i, e', he => by simp only [MRel] at h; subst h; simp at he
  | e :: es, l, h, i, e', he => by
    simp only [MRel] at h
    obtain ⟨e0, l', rfl, h1, h2, h3, h4⟩ := h
    cases i with
    | zero => simp at he; subst he; exact ⟨e, by simp, h1, h2, h3⟩
    | succ i =>
      simp at he
      obtain ⟨x, hx, g⟩ := mrel_get h4 he
      exact ⟨x, by simp [hx], g⟩
theorem mrel_mem : ∀ {es : List (AV × AV × Nat)} {l : List MapEntry}, MRel ι es l → ∀ {e' : MapEntry}, e' ∈ l → ∃ e, e ∈ es ∧ e.2.2 = e'.born := by
  intro es l h e' he
  obtain ⟨i, hi⟩ := List.mem_iff_getElem?.1 he
  obtain ⟨e, h1, _, _, h2⟩ := mrel_get h hi
  exact ⟨e, h1, h2⟩

theorem nextVc_sound (hr : Rel G ι σ w) {x : AV} {x' : Value} {b : Bool} {t : TypeId} {K : AV → AH → Prop} (h : nextVc x b σ K) (hx : VRel ι x x'): Gives G ι σ C.P w (Instr.next x' b t) K := by
  unfold nextVc at h
  split at h
  case h_3 => cases h
  case h_2 =>
    rename_i r
    obtain ⟨m, since, seen, last, hk, h⟩ := h
    obtain ⟨p, hp, rfl⟩ := vrel_ptr hx
    obtain ⟨m', g1, hbase, hm0, hm1⟩ := hr.live r p _ hp hk
    rw [hbase]
    have hg := run_getObj (P := C.P) g1 (by simp)
    have over : (Instr.next (.pointer (some ⟨p.blk, 0 + 0, none⟩)) false t).run C.P w = .ok (.tuple #[.bool false]) w → K (.tuple [.bool false]) (σ.kill r) → Gives G ι σ C.P w (Instr.next (.pointer (some ⟨p.blk, 0 + 0, none⟩)) false t) K := fun hrun hK =>
      .here (hr.kill r) (Nat.le_refl _) hrun (by simp only [VRel]; exact ⟨[_], rfl, .cons (by simp only [VRel]) .nil⟩) hK
    cases m with
    | none =>
      obtain rfl := hm0 rfl
      refine over ?_ h
      simp only [Instr.next, Sem.run_bind, hg, Result.andThen_ok]
      rfl
    | some q =>
      obtain ⟨pq, hpq, rfl⟩ := hm1 q rfl
      obtain ⟨es, hkq, hlast, hall, h⟩ := h
      subst hlast
      obtain ⟨ês, g2, hmr⟩ := hr.live q pq _ hpq hkq
      have hg2 := run_getObj (P := C.P) g2 (by simp)
      have hborn : ∀ e ∈ ês.toList, e.born < last := fun e he => by
        obtain ⟨x, hx1, hx2⟩ := mrel_mem hmr he
        have := List.all_eq_true.1 hall x hx1
        simp only [decide_eq_true_eq] at this
        omega
      have hun : (!seen.toArray.isEmpty && !ês.isEmpty && ês.all (fun e => decide (e.born ≥ last))) = false := by
        cases hes : ês.isEmpty with
        | true => simp
        | false =>
          have hne : ês.toList ≠ [] := by
            intro e
            have : ês = #[] := by apply Array.ext'; simpa using e
            rw [this] at hes
            simp at hes
          obtain ⟨x, xs, hxs⟩ := List.exists_cons_of_ne_nil hne
          have hx0 := hborn x (by rw [hxs]; simp)
          have : ês.all (fun e => decide (e.born ≥ last)) = false := by
            rw [← Array.all_toList, hxs]
            simp only [List.all_cons, Bool.and_eq_false_imp]
            intro h1
            simp only [decide_eq_true_eq] at h1
            omega
          rw [this]
          simp
      have hleft := left_rel (seen := seen) hmr
      have hlf : (ês.filter fun e => !seen.toArray.contains e.born).toList = ês.toList.filter fun e => !seen.toArray.contains e.born := by simp
      have hold : (ês.filter fun e => !seen.toArray.contains e.born).filter (fun e => decide (e.born < last)) = ês.filter fun e => !seen.toArray.contains e.born := by
        rw [Array.filter_eq_self]
        intro e he
        have : e ∈ ês.toList := by simpa using (Array.mem_filter.1 he).1
        simpa using hborn e this
      have hnew : (ês.filter fun e => !seen.toArray.contains e.born).filter (fun e => decide (e.born ≥ last)) = #[] := by
        rw [Array.filter_eq_empty_iff]
        intro e he
        have : e ∈ ês.toList := by simpa using (Array.mem_filter.1 he).1
        have := hborn e this
        simp only [ge_iff_le, decide_eq_true_eq]
        omega
      rw [← hlf] at hleft
      generalize hL : (ês.filter fun e => !seen.toArray.contains e.born) = L at hleft hold hnew
      split at h
      · rename_i hl0
        rw [hl0] at hleft
        simp only [MRel] at hleft
        have hLe : L = #[] := by apply Array.ext'; simpa using hleft
        refine over ?_ h
        simp only [Instr.next, Sem.run_bind, hg, Result.andThen_ok, hg2, hun, Bool.false_eq_true, if_false, Sem.run_pure, Nat.add_zero, hL, hold, hnew]
        subst hLe
        simp [run_choose, Question.forced]
      · rename_i l hl0
        have hLn : L.isEmpty = false := by
          cases hLe : L.isEmpty with
          | false => rfl
          | true =>
            have : L = #[] := by simpa using hLe
            rw [this] at hleft
            have := hleft.length
            cases hx : leftA es seen with
            | nil => exact absurd hx hl0
            | cons a b => rw [hx] at this; simp at this
        have hpos : 0 < L.size := by
          rcases Nat.eq_zero_or_pos L.size with h0 | h0
          · have : L = #[] := Array.eq_empty_of_size_eq_zero h0
            rw [this] at hLn; simp at hLn
          · exact h0
        -- one of those that are left is taken
        have pick : ∀ (i : Nat) (w1 : World), i < L.size → (Sem.run C.P (do
            match (L.map some)[i]? with
            | some (some e) =>
              setObj p.blk (.mapIter (some pq.blk) last (seen.toArray.push e.born) last)
              pure (.tuple #[.bool true, e.key, e.val])
            | some none => pure (.tuple #[.bool false])
            | none => stuck "Next: no such candidate" : Sem Value) w1) = Sem.run C.P (do
              setObj p.blk (.mapIter (some pq.blk) last (seen.toArray.push (L[i]!).born) last)
              pure (.tuple #[.bool true, (L[i]!).key, (L[i]!).val]) : Sem Value) w1 := by
          intro i w1 hi
          rw [Array.getElem?_map, Array.getElem?_eq_getElem hi, getElem!_pos L i hi]
          rfl
        have fin : ∀ (i : Nat) (w1 : World), i < L.size → w1.heap = w.heap → Rel G ι σ w1 → (Instr.next (.pointer (some ⟨p.blk, 0 + 0, none⟩)) false t).run C.P w = Sem.run C.P (do
            match (L.map some)[i]? with
            | some (some e) =>
              setObj p.blk (.mapIter (some pq.blk) last (seen.toArray.push e.born) last)
              pure (.tuple #[.bool true, e.key, e.val])
            | some none => pure (.tuple #[.bool false])
            | none => stuck "Next: no such candidate" : Sem Value) w1 → Gives G ι σ C.P w (Instr.next (.pointer (some ⟨p.blk, 0 + 0, none⟩)) false t) K := by
          intro i w1 hi hw1 hr1 hrun
          rw [pick i w1 hi] at hrun
          obtain ⟨e, he, e1, e2, e3⟩ := mrel_get hleft (i := i) (e' := L[i]!) (by rw [getElem!_pos L i hi]; simp [hi])
          have hK := h e (by rw [← e3] at *; exact he)
          have g1' : w1.heap[p.blk]? = some (.mapIter (some pq.blk) last seen.toArray last) := by rw [hw1]; exact g1
          have hne : q ≠ r := fun e => by rw [e, hk] at hkq; cases hkq
          refine .here (hr1.swap hp hk rfl (k' := .miter (some q) last (seen ++ [e.2.2]) last) (.mapIter (some pq.blk) last (seen.toArray.push (L[i]!).born) last)
            ⟨some pq.blk, by rw [show (seen ++ [e.2.2]).toArray = seen.toArray.push (L[i]!).born from by rw [e3]; simp]; exact putBlk_self w1 p.blk _ (hr1.bound r p hp), hbase, (fun h => by cases h), fun r' hr' => by cases hr'; exact ⟨pq, hpq, rfl⟩⟩) (Nat.le_refl _)
            (v' := .tuple #[.bool true, (L[i]!).key, (L[i]!).val]) ?_ ?_ hK
          · rw [hrun]
            simp only [Sem.run_bind]
            rw [run_setObj g1' (by simp)]
            rfl
          · simp only [VRel]
            exact ⟨[_, _, _], rfl, .cons (by simp only [VRel]) (.cons e1 (.cons e2 .nil))⟩
        have hrunN : (Instr.next (.pointer (some ⟨p.blk, 0 + 0, none⟩)) false t).run C.P w = ((choose (.mapNext L.size)).run C.P w).andThen fun i w1 => Sem.run C.P (do
            match (L.map some)[i]? with
            | some (some e) =>
              setObj p.blk (.mapIter (some pq.blk) last (seen.toArray.push e.born) last)
              pure (.tuple #[.bool true, e.key, e.val])
            | some none => pure (.tuple #[.bool false])
            | none => stuck "Next: no such candidate" : Sem Value) w1 := by
          simp only [Instr.next, Sem.run_bind, hg, Result.andThen_ok, hg2, hun, Bool.false_eq_true, if_false, Sem.run_pure, Nat.add_zero, hL, hold, hnew, hLn, Array.append_empty, Array.empty_append, Array.size_map]
          rfl
        rw [run_choose] at hrunN
        by_cases hd : (Question.mapNext L.size).forced = true
        · rw [if_pos hd] at hrunN
          simp only [Result.andThen_ok] at hrunN
          exact fin 0 w hpos rfl hr hrunN
        · rw [if_neg hd] at hrunN
          simp only [Result.andThen_ok] at hrunN
          exact fin ((Question.mapNext L.size).cut (w.tape w.drawn (Question.mapNext L.size))) { w with drawn := w.drawn + 1 } (Nat.mod_lt _ hpos) rfl (hr.drawn _) hrunN
  rename_i r
  obtain ⟨s, pos, hk, h⟩ := h
  obtain ⟨p, hp, rfl⟩ := vrel_ptr hx
  obtain ⟨g1, hbase⟩ := hr.live r p _ hp hk
  rw [hbase]
  have hg := run_getObj (P := C.P) g1 (by simp)
  have hsz : (⟨s.toArray⟩ : ByteArray).size = s.length := by simp [ByteArray.size]
  split at h
  · rename_i hlt
    refine .here (hr.swap hp hk rfl (k' := .siter s (pos + (Utf8.decode ⟨s.toArray⟩ pos).2)) _ ⟨putBlk_self w p.blk (.stringIter ⟨s.toArray⟩ (pos + (Utf8.decode ⟨s.toArray⟩ pos).2)) (hr.bound r p hp), hbase⟩) (Nat.le_refl _) (v' := .tuple #[.bool true, goInt pos, .int .i32 (Utf8.decode ⟨s.toArray⟩ pos).1]) ?_ ?_ h
    · simp only [Instr.next, Sem.run_bind, hg, Result.andThen_ok, hsz]
      rw [if_pos hlt]
      simp only [Sem.run_bind]
      rw [run_setObj g1 (by simp)]
      rfl
    · simp only [VRel]
      exact ⟨[_, _, _], rfl, .cons (by simp only [VRel]) (.cons (by simp only [VRel, goInt]) (.cons (by simp only [VRel]) .nil))⟩
  · rename_i hlt
    refine .same hr (v' := .tuple #[.bool false]) ?_ ?_ h
    · simp only [Instr.next, Sem.run_bind, hg, Result.andThen_ok, hsz]
      rw [if_neg hlt]
      rfl
    · simp only [VRel]
      exact ⟨[_], rfl, .cons (by simp only [VRel]) .nil⟩
end
end Go.Proofs.YthpngchngnaloaaGreatDoor.Vm
