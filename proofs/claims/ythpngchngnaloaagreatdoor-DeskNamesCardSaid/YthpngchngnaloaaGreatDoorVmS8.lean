/- The operations of the model do what the abstract machine asks: reckoning, comparing. -/
import Derived.Test.YthpngchngnaloaaGreatDoorVmS7
import Derived.Laws.StructEq
namespace Go.Proofs.YthpngchngnaloaaGreatDoor.Vm
open RowKit (Below)

section
variable {C : Cx} {G : Base} {ι : IM} {σ : AH} {w : World}

theorem intVc_sound {op : BinOp} {k : IntKind} {a b : Int} {K : AV → Prop} {t : TypeId} (h : intVc op k a b K) (hop : op ≠ .shl ∧ op ≠ .shr) :
    ∃ v v', (∀ w, (binOp op t (.int k a) (.int k b)).run C.P w = .ok v' w) ∧ (∀ ι, VRel ι v v') ∧ K v := by
  unfold intVc at h
  split at h
  all_goals try (cases h; done)
  all_goals first
    | (refine ⟨_, _, fun w => ?_, fun ι => by simp only [VRel]; rfl, h⟩; simp [binOp, Op.intArith]; done)
    | (refine ⟨_, _, fun w => ?_, fun ι => by simp only [VRel]; rfl, h⟩; simp only [binOp, ne_eq, not_true_eq_false, if_false, Op.intBits, bitsOf]; rfl)
    | (refine ⟨_, _, fun w => ?_, fun ι => by simp only [VRel]; rfl, h⟩; simp only [binOp, ne_eq, not_true_eq_false, if_false, Op.intCmp]; rfl)
    | (split at h
       · cases h
       · rename_i hb
         refine ⟨_, _, fun w => ?_, fun ι => by simp only [VRel]; rfl, h⟩
         simp only [binOp, ne_eq, not_true_eq_false, if_false, Op.intDiv, hb]; rfl)

theorem strVc_sound {op : BinOp} {a b : List UInt8} {K : AV → Prop} {t : TypeId} (h : strVc op a b K) :
    ∃ v v', (∀ w, (binOp op t (.string ⟨a.toArray⟩) (.string ⟨b.toArray⟩)).run C.P w = .ok v' w) ∧ (∀ ι, VRel ι v v') ∧ K v := by
  have ha : (⟨a.toArray⟩ : ByteArray).toList = a := ByteArray.toList_mk a
  have hb : (⟨b.toArray⟩ : ByteArray).toList = b := ByteArray.toList_mk b
  unfold strVc at h
  split at h
  all_goals try (cases h; done)
  · obtain ⟨hl, h⟩ := h
    refine ⟨_, .string ⟨(a ++ b).toArray⟩, fun w => ?_, fun ι => by simp only [VRel], h⟩
    have e1 : (⟨a.toArray⟩ : ByteArray).size = a.length := by simp [ByteArray.size]
    have e2 : (⟨b.toArray⟩ : ByteArray).size = b.length := by simp [ByteArray.size]
    have e3 : IntKind.i64.max = 9223372036854775807 := by rfl
    simp only [binOp, Op.stringOp, e1, e2, e3]
    rw [if_neg (by omega)]
    simp only [Sem.run_pure]
    congr 2
  all_goals
    refine ⟨_, _, fun w => ?_, fun ι => by simp only [VRel]; rfl, h⟩
    simp only [binOp, Op.stringOp, ha, hb]
    rfl

/-! ### Equality of plain structs -/
theorem eqS_acc : ∀ (ss : List Sh) (as bs : List AV) (r : Bool), eqS ss as bs r = (eqS ss as bs true).map (r && ·)
  | [], [], [], r => by simp [eqS]
  | [], [], _ :: _, r => by simp [eqS]
  | [], _ :: _, _, r => by simp [eqS]
  | _ :: _, [], _, r => by simp [eqS]
  | _ :: _, a :: as, [], r => by simp [eqS]
  | s :: ss, a :: as, b :: bs, r => by
    simp only [eqS]
    cases eq1 s a b with
    | none => rfl
    | some x =>
      simp only
      rw [eqS_acc ss as bs (r && x), eqS_acc ss as bs (true && x)]
      cases eqS ss as bs true <;> simp [Bool.and_assoc]

def shFits (P : Program) (t : TypeId) : Sh → Prop
  | .bool => P.underlying t = some .bool
  | .str => P.underlying t = some .string
  | .int k => P.underlying t = some (.int k)
  | _ => False

theorem eq1_sound {P : Program} {t : TypeId} {s : Sh} {a b : AV} {a' b' : Value} {x : Bool} (ht : shFits P t s)
    (ha : VRel ι a a') (hb : VRel ι b b') (h : eq1 s a b = some x) (d : Nat) (w : World) :
    (Op.equalIn (d + 1) t a' b').run P w = .ok x w ∧ a'.oneCell' = true ∧ b'.oneCell' = true := by
  unfold eq1 at h
  split at h
  · rename_i k0 k n k' m
    simp only [VRel] at ha hb
    subst ha hb
    split at h
    · rename_i hk
      subst hk
      cases h
      exact ⟨by simp [Op.equalIn, run_und ht], rfl, rfl⟩
    · cases h
  · simp only [VRel] at ha hb
    subst ha hb
    cases h
    exact ⟨by simp [Op.equalIn, run_und ht], rfl, rfl⟩
  · simp only [VRel] at ha hb
    subst ha hb
    cases h
    refine ⟨?_, rfl, rfl⟩
    simp only [Op.equalIn, Sem.run_bind, run_und ht, Result.andThen_ok, Sem.run_pure]
    rw [beq_toListBytes, ByteArray.toList_mk, ByteArray.toList_mk]
  · cases h

theorem part_leaf {P : Program} {t : TypeId} {s : Sh} (ht : shFits P t s) (cs : Array Value) (off : Nat) (v : Value) (hv : cs[off]? = some v) (w : World) : (part t cs off).run P w = .ok v w := by
  have : (isAgg t).run P w = .ok false w := by
    unfold isAgg
    cases s <;> simp only [shFits] at ht <;> first | (cases ht; done) | (simp [run_und ht])
  simp [part, this, hv]

theorem eqFields_sound {P : Program} {d : Nat} : ∀ (fs : List Field) (ss : List Sh) (as bs : List AV) (xs ys : Array Value) (i : Nat) (q : Bool) (w : World),
    PlainFields P fs i ss → VRelL ι as (xs.toList.drop i) → VRelL ι bs (ys.toList.drop i) → eqS ss as bs true = some q → (Op.eqFields (d + 1) xs ys fs).run P w = .ok q w
  | [], [], as, bs, xs, ys, i, q, w, hf, ha, hb, h => by
    cases as <;> cases bs <;> simp [eqS] at h
    subst h
    simp [Op.eqFields]
  | [], _ :: _, _, _, _, _, _, _, _, hf, _, _, _ => by simp [PlainFields] at hf
  | _ :: _, [], _, _, _, _, _, _, _, hf, _, _, _ => by simp [PlainFields] at hf
  | f :: fs, s :: ss, as, bs, xs, ys, i, q, w, hf, ha, hb, h => by
    simp only [PlainFields] at hf
    obtain ⟨⟨hoff, hname, hty⟩, hf⟩ := hf
    have hty' : shFits P f.type s := by cases s <;> exact hty
    cases as with
    | nil => simp [eqS] at h
    | cons a as =>
    cases bs with
    | nil => simp [eqS] at h
    | cons b bs =>
    simp only [eqS] at h
    cases he : eq1 s a b with
    | none => rw [he] at h; cases h
    | some x =>
      rw [he] at h
      simp only at h
      rw [eqS_acc] at h
      obtain ⟨q0, h1, h2⟩ := Option.map_eq_some_iff.1 h
      simp only [VRelL] at ha hb
      obtain ⟨a', xr, hxs, har, hxr⟩ := ha
      obtain ⟨b', yr, hys, hbr, hyr⟩ := hb
      have hx0 : xs[i]? = some a' := by
        have := congrArg (fun l => l[0]?) hxs
        simpa [List.getElem?_drop] using this
      have hy0 : ys[i]? = some b' := by
        have := congrArg (fun l => l[0]?) hys
        simpa [List.getElem?_drop] using this
      have hxd : xs.toList.drop (i + 1) = xr := by rw [← List.drop_drop, hxs]; rfl
      have hyd : ys.toList.drop (i + 1) = yr := by rw [← List.drop_drop, hys]; rfl
      obtain ⟨he1, _, _⟩ := eq1_sound hty' har hbr he d w
      have hn : f.name ≠ "_" := by simpa using hname
      simp only [Op.eqFields, hn, ne_eq, not_false_eq_true, if_true, Sem.run_bind, hoff, part_leaf hty' xs i a' hx0, part_leaf hty' ys i b' hy0, Result.andThen_ok, he1]
      have ih := eqFields_sound (d := d) fs ss as bs xs ys (i + 1) q0 w hf (hxd ▸ hxr) (hyd ▸ hyr) h1
      cases x
      · simp only [Bool.not_false, if_true, Sem.run_pure]
        rw [← h2]; simp
      · simp only [Bool.not_true, Bool.false_eq_true, if_false, ih]
        rw [← h2]; simp

theorem plain_struct {t : TypeId} {ti : TI} (hti : C.ti t = some ti) (hp : ti.plain = true) : ∃ F : Array Field, C.P.underlying t = some (.struct F) ∧ C.P.stoodInHeld t = false ∧ C.P.eqGuardType C.P.depth t = false ∧ PlainFields C.P F.toList 0 ti.sh := by
  obtain ⟨h1, h2, h3⟩ := (C.ok t ti hti).plain hp
  split at h3
  · rename_i fs hfs; exact ⟨fs, hfs, h1, h2, h3⟩
  · cases h3

theorem equal_struct {t : TypeId} {ti : TI} (hti : C.ti t = some ti) (hp : ti.plain = true) {as bs : List AV} {xs ys : Array Value} {q : Bool} (ha : VRelL ι as xs.toList) (hb : VRelL ι bs ys.toList) (h : eqS ti.sh as bs true = some q) (d : Nat) (w : World) :
    (Op.equalIn (d + 1 + 1) t (.agg xs) (.agg ys)).run C.P w = .ok q w := by
  obtain ⟨F, h1, h2, h3, h4⟩ := plain_struct hti hp
  have hF : C.P.fieldsOf t = F := by simp [Program.fieldsOf, h1]
  rw [run_equalIn_struct w (d + 1) t xs ys (by rw [hF]; exact h1) h2, hF]
  exact eqFields_sound F.toList ti.sh as bs xs ys 0 q w h4 (by simpa using ha) (by simpa using hb) h

theorem eqVc_sound {t : TypeId} {x y : AV} {x' y' : Value} {K : Bool → Prop} (h : eqVc C t x y K) (hx : VRel ι x x') (hy : VRel ι y y') :
    ∃ r, (∀ d w, (Op.equalIn (d + 1 + 1) t x' y').run C.P w = .ok r w) ∧ K r := by
  unfold eqVc at h
  split at h
  case h_2 => cases h
  rename_i ti hti
  obtain ⟨d, hd, htd, hdP⟩ := C.und hti
  split at h
  · rename_i a b hte
    obtain rfl := td_bool (htd.trans hte)
    simp only [VRel] at hx hy
    subst hx hy
    exact ⟨_, fun d w => by rw [Op.equalIn, Sem.run_bind, hd, Result.andThen_ok]; rfl, h⟩
  · rename_i e b hte
    obtain rfl := td_ptr (htd.trans hte)
    simp only [VRel] at hx
    subst hx
    rcases b with _ | ⟨b, o⟩
    · simp only [VRel] at hy; subst hy
      exact ⟨_, fun d w => by rw [Op.equalIn, Sem.run_bind, hd, Result.andThen_ok]; rfl, h⟩
    · obtain ⟨p, hp, rfl⟩ := vrel_ptr hy
      exact ⟨_, fun d w => by rw [Op.equalIn, Sem.run_bind, hd, Result.andThen_ok]; rfl, h⟩
  · rename_i e b hte
    obtain rfl := td_ptr (htd.trans hte)
    obtain ⟨p, hp, rfl⟩ := vrel_ptr (b := b.1) (o := b.2) hx
    simp only [VRel] at hy
    subst hy
    exact ⟨_, fun d w => by rw [Op.equalIn, Sem.run_bind, hd, Result.andThen_ok]; rfl, h⟩
  · rename_i e n c b n' c' hte
    obtain rfl := td_slice (htd.trans hte)
    simp only [VRel] at hx
    obtain ⟨_, _, rfl⟩ := hx
    obtain ⟨a', ĉ, rfl, _, hnil, hs⟩ := vrel_slice hy
    rcases b with _ | ⟨b, o⟩
    · obtain ⟨rfl, _⟩ := hnil rfl
      exact ⟨_, fun d w => by rw [Op.equalIn, Sem.run_bind, hd, Result.andThen_ok]; rfl, h⟩
    · obtain ⟨p, z, _, rfl, _⟩ := hs b o rfl
      exact ⟨_, fun d w => by rw [Op.equalIn, Sem.run_bind, hd, Result.andThen_ok]; rfl, h⟩
  · rename_i e b n c n' c' hte
    obtain rfl := td_slice (htd.trans hte)
    simp only [VRel] at hy
    obtain ⟨_, _, rfl⟩ := hy
    obtain ⟨a', ĉ, rfl, _, hnil, hs⟩ := vrel_slice hx
    obtain ⟨p, z, _, rfl, _⟩ := hs b.1 b.2 rfl
    exact ⟨_, fun d w => by rw [Op.equalIn, Sem.run_bind, hd, Result.andThen_ok]; rfl, h⟩
  · rename_i k e b hte
    obtain rfl := td_map (htd.trans hte)
    simp only [VRel] at hx
    subst hx
    rcases b with _ | b
    · simp only [VRel] at hy; subst hy
      exact ⟨_, fun d w => by rw [Op.equalIn, Sem.run_bind, hd, Result.andThen_ok]; rfl, h⟩
    · simp only [VRel] at hy; obtain ⟨p, hp, rfl⟩ := hy
      exact ⟨_, fun d w => by rw [Op.equalIn, Sem.run_bind, hd, Result.andThen_ok]; rfl, h⟩
  · rename_i k e b hte
    obtain rfl := td_map (htd.trans hte)
    simp only [VRel] at hx hy
    obtain ⟨p, hp, rfl⟩ := hx
    subst hy
    exact ⟨_, fun d w => by rw [Op.equalIn, Sem.run_bind, hd, Result.andThen_ok]; rfl, h⟩
  · rename_i t' v hte
    obtain ⟨ms, rfl⟩ := td_iface (htd.trans hte)
    simp only [VRel] at hx hy
    subst hx
    obtain ⟨z, rfl, _⟩ := hy
    exact ⟨_, fun d w => by rw [Op.equalIn, Sem.run_bind, hd, Result.andThen_ok]; rfl, h⟩
  · rename_i t' v hte
    obtain ⟨ms, rfl⟩ := td_iface (htd.trans hte)
    simp only [VRel] at hx hy
    obtain ⟨z, rfl, _⟩ := hx
    subst hy
    exact ⟨_, fun d w => by rw [Op.equalIn, Sem.run_bind, hd, Result.andThen_ok]; rfl, h⟩
  · rename_i fs as bs hte
    split at h
    case isFalse => cases h
    rename_i hp
    split at h
    case h_2 => cases h
    rename_i r hr
    obtain ⟨l, rfl, hl⟩ := vrel_agg hx
    obtain ⟨m, rfl, hm⟩ := vrel_agg hy
    exact ⟨r, fun d w => equal_struct hti hp hl hm hr d w, h⟩
  · cases h

theorem ite_self_of {α : Type} {c : Prop} [Decidable c] {x y z : α} (hx : c → x = z) (hy : y = z) : (if c then x else y) = z := by
  split
  · rename_i h; exact hx h
  · exact hy
theorem eqGuard_sound {op : BinOp} {t : TypeId} {x y : AV} {x' y' : Value} {X Y : Operand} {K : Bool → Prop} (h : eqVc C t x y K) (hx : VRel ι x x') (hy : VRel ι y y') (w : World) :
    (eqGuard op t X Y x' y').run C.P w = .ok () w := by
  unfold eqGuard
  rw [Sem.run_ite]
  refine (ite_self_of (fun _ => rfl) ?_)
  unfold eqVc at h
  split at h
  case h_2 => cases h
  rename_i ti hti
  split at h
  case h_10 =>
    rename_i fs as bs hte
    split at h
    case isFalse => cases h
    rename_i hp
    obtain ⟨F, h1, h2, h3, h4⟩ := plain_struct hti hp
    obtain ⟨l, rfl, hl⟩ := vrel_agg hx
    obtain ⟨m, rfl, hm⟩ := vrel_agg hy
    simp [h3]
  case h_11 => cases h
  all_goals
    first
      | (simp only [VRel] at hx hy; subst hx hy; rfl)
      | (obtain ⟨_, _, rfl, _⟩ := vrel_slice hx; rfl)
      | (simp only [VRel] at hx; subst hx; rfl)
      | (simp only [VRel] at hx; obtain ⟨_, _, rfl⟩ := hx; rfl)
      | (simp only [VRel] at hx; obtain ⟨_, rfl, _⟩ := hx; rfl)
      | (simp only [VRel] at hx hy; subst hx; obtain ⟨_, rfl, _⟩ := hy; rfl)
      | (rename_i e b hte; obtain ⟨p, hp, rfl⟩ := vrel_ptr (b := b.1) (o := b.2) hx; rfl)
end
end Go.Proofs.YthpngchngnaloaaGreatDoor.Vm
