/- The operations of the model do what the abstract machine asks: the builtins. -/
import Derived.Test.YthpngchngnaloaaGreatDoorVmS5
namespace Go.Proofs.YthpngchngnaloaaGreatDoor.Vm
open RowKit (Below)

section
variable {C : Cx} {G : Base} {ι : IM} {σ : AH} {w : World}

theorem vrelL_two {x y : AV} {r : List AV} {l : List Value} (h : VRelL ι (x :: y :: r) l) : ∃ x' y' r', l = x' :: y' :: r' ∧ VRel ι x x' ∧ VRel ι y y' ∧ VRelL ι r r' := by
  simp only [VRelL] at h
  obtain ⟨x', l1, rfl, h1, y', l2, rfl, h2, h3⟩ := h
  exact ⟨x', y', l2, rfl, h1, h2, h3⟩
theorem vrelL_one {x : AV} {r : List AV} {l : List Value} (h : VRelL ι (x :: r) l) : ∃ x' r', l = x' :: r' ∧ VRel ι x x' ∧ VRelL ι r r' := by
  simp only [VRelL] at h
  exact h

theorem loadCells_drawn {P : Program} {x : Addr} {n d d' : Nat} {r : Array Value} (h : (loadCells x n).run P { w with drawn := d } = .ok r { w with drawn := d }) : (loadCells x n).run P { w with drawn := d' } = .ok r { w with drawn := d' } := by
  have key : ∀ (n i : Nat) (acc : Array Value) (r : Array Value), (loadCellsFrom x i n acc).run P { w with drawn := d } = .ok r { w with drawn := d } → (loadCellsFrom x i n acc).run P { w with drawn := d' } = .ok r { w with drawn := d' } := by
    intro n
    induction n with
    | zero => intro i acc r h; simp only [loadCellsFrom, Sem.run_pure, Result.ok.injEq] at h ⊢; exact ⟨h.1, trivial⟩
    | succ n ih =>
      intro i acc r h
      simp only [loadCellsFrom, Sem.run_bind, run_load] at h ⊢
      have e1 : World.cell? { w with drawn := d } (x.add i) = World.cell? { w with drawn := d' } (x.add i) := rfl
      rw [e1] at h
      cases hc : World.cell? { w with drawn := d' } (x.add i) with
      | some v => rw [hc] at h; simp only [Result.andThen_ok] at h ⊢; exact ih _ _ _ h
      | none =>
        rw [hc] at h
        simp only at h ⊢
        cases hf : World.farLoad P { w with drawn := d } (x.add i) (Mode.plain == Mode.atomic) with
        | error e => rw [hf] at h; simp at h
        | ok q =>
          have e2 : World.farLoad P { w with drawn := d' } (x.add i) (Mode.plain == Mode.atomic) = World.farLoad P { w with drawn := d } (x.add i) (Mode.plain == Mode.atomic) := rfl
          rw [e2, hf]
          rw [hf] at h
          cases q
          simp only [Result.andThen_ok] at h ⊢
          exact ih _ _ _ h
  exact key _ _ _ _ h
theorem firstCells_drawn {P : Program} {sz n d d' : Nat} {x : Value} {r : Array Value} (h : (Builtin.firstCells sz n x).run P { w with drawn := d } = .ok r { w with drawn := d }) : (Builtin.firstCells sz n x).run P { w with drawn := d' } = .ok r { w with drawn := d' } := by
  unfold Builtin.firstCells at h ⊢
  split at h
  · exact loadCells_drawn h
  · simp only [Sem.run_pure, Result.ok.injEq] at h ⊢; exact ⟨h.1, trivial⟩
  · simp only [Sem.run_pure, Result.ok.injEq] at h ⊢; exact ⟨h.1, trivial⟩
  · simp at h
theorem td_isInt {d : TypeDesc} (h : (tdOf d).isInt = true) : ∃ k, d = .int k := by
  cases d <;> simp [tdOf, TD.isInt] at h ⊢
theorem drawn_self (w : World) : { w with drawn := w.drawn } = w := rfl

theorem appendVc_sound (hr : Rel G ι σ w) {ts : List TypeId} {xs : List AV} {xs' : List Value} {rt : TypeId} {K : AV → AH → Prop} (h : appendVc C ts xs σ K) (hx : VRelL ι xs xs') :
    Gives G ι σ C.P w (Builtin.append_ ts.toArray rt xs'.toArray) K := by
  unfold appendVc at h
  split at h
  case h_2 => cases h
  rename_i t t' trest a n c x xrest
  obtain ⟨s', x', r', rfl, hs, hx', _⟩ := vrelL_two hx
  split at h
  case h_2 => cases h
  rename_i ti ti' hti hti'
  obtain ⟨d, hd, htd, hdP⟩ := C.und hti
  obtain ⟨d', hd', htd', hdP'⟩ := C.und hti'
  split at h
  case h_2 => cases h
  rename_i e he
  obtain rfl := td_slice (htd.trans he)
  split at h
  case h_2 => cases h
  rename_i y hy
  split at h
  case isTrue => cases h
  rename_i hys
  split at h
  case isTrue => cases h
  rename_i hyb
  obtain ⟨a', ĉ, rfl, hnc, hnil, hsm⟩ := vrel_slice hs
  obtain ⟨i, hi, hib, his⟩ := C.bytes hy
  split at h
  · -- zeros
    rename_i hint
    split at h
    case h_2 => cases h
    rename_i k' i'
    obtain ⟨k, rfl⟩ := td_isInt (d := d') (by rw [htd']; exact hint)
    obtain ⟨h0, h1, h2, hz0, h⟩ := h
    simp only [VRel] at hx'
    subst hx'
    obtain ⟨z, hz, hzs, hzl, hz1⟩ := C.zero hy
    have hzr : VRelL ι y.zero z.cells.toList := hzs ▸ ofVs_rel ι z.cells.toList
    have hzl' : y.zero.length = y.size := by rw [← hzs, ofVs_length, Array.length_toList, hzl]
    have ew : IntKind.i64.wrap i' = i' := wrap64_in (by omega) (by omega)
    let appended : Sem (Array Value) := if i'.toNat * y.size = 0 then pure #[] else do pure (Builtin.zeroCells (← zeroValue e).cells i'.toNat)
    have happ : ∀ d, appended.run C.P { w with drawn := d } = .ok (Builtin.zeroCells z.cells i'.toNat).toList.toArray { w with drawn := d } := by
      intro d
      simp only [appended]
      by_cases h0 : i'.toNat * y.size = 0
      · rw [if_pos h0]
        have : (Builtin.zeroCells z.cells i'.toNat).toList = [] := List.length_eq_zero_iff.1 (by rw [zeroCells_size, hzl, h0])
        rw [this]
        rfl
      · rw [if_neg h0]
        simp only [Sem.run_bind, hz, Result.andThen_ok, Sem.run_pure, Array.toArray_toList]
    have := appVc_sound (C := C) (x := .int k' i') (zeros := true) hr hy hys hyb h hs happ (zeroCells_rel hzr _) (by rw [repL_length, hzl']) (leaves_rep hz0 _)
    obtain ⟨v, v', σ', ι', w', hrun, hrest⟩ := this
    refine ⟨v, v', σ', ι', w', ?_, hrest⟩
    rw [← hrun]
    have e1 : ¬ i' < 0 := by omega
    have e2 : ¬ (i' * (i.bytes : Int) > 2 ^ 48) := by rw [hib]; omega
    unfold Builtin.append_ appendTail
    simp only [List.getElem?_toArray, List.getElem?_cons_zero, List.getElem?_cons_succ, Sem.run_bind, hd, hd', Result.andThen_ok, C.size hy, Sem.run_pure, if_true, asInt, asIntOf, ew, appended, e1, if_false, hi, e2, Bool.not_true, Bool.false_eq_true]
    rfl
  · -- elements
    rename_i hnint
    have hnot : ∀ k, d' ≠ .int k := by
      intro k e'
      subst e'
      rw [← htd'] at hnint
      simp [tdOf, TD.isInt] at hnint
    obtain ⟨m, h, hm, hlen⟩ := lenA_sound h hx'
    obtain ⟨new, us, hnl, hnr, hnlv, hrun, hK⟩ := srcVc_sound (C := C) hr h hx' (by unfold lenA at hm ⊢; split at hm <;> simp_all) hys
    have happ : ∀ d, (Builtin.firstCells y.size m x').run C.P { w with drawn := d } = .ok us.toArray { w with drawn := d } := fun d => firstCells_drawn (d := w.drawn) hrun
    have := appVc_sound (C := C) (x := x') (zeros := false) hr hy hys hyb hK hs happ hnr hnl hnlv
    obtain ⟨v, v', σ', ι', w', hrun', hrest⟩ := this
    refine ⟨v, v', σ', ι', w', ?_, hrest⟩
    rw [← hrun']
    have hm : (d' matches .int _) = false := by
      cases d' <;> first | rfl | (exact absurd rfl (hnot _))
    unfold Builtin.append_ appendTail
    simp only [List.getElem?_toArray, List.getElem?_cons_zero, List.getElem?_cons_succ, Sem.run_bind, hd, hd', Result.andThen_ok, C.size hy, Sem.run_pure, hm, Bool.false_eq_true, if_false, hlen]
    rfl
end
end Go.Proofs.YthpngchngnaloaaGreatDoor.Vm
