/- The operations of the model do what the abstract machine asks: append, copy, clear, cap. -/
import Derived.Test.YthpngchngnaloaaGreatDoorVmB
import Derived.Laws.BytesString
import Derived.Lib.ConvBytes
import Derived.Laws.StructEq
namespace Go.Proofs.YthpngchngnaloaaGreatDoor.Vm
open RowKit (Below)

theorem AH.ext' {σ τ : AH} (h : ∀ i, σ.get i = τ.get i) (hn : σ.next = τ.next) : σ = τ := by
  cases σ; cases τ
  simp only at h hn
  subst hn
  congr
  funext i
  exact h i
theorem kill_set (σ : AH) (b : Nat) (k : Blk) : (σ.set b k).kill b = σ.kill b := by
  apply AH.ext'
  · intro i
    simp only [AH.kill_get, AH.set_get]
    split <;> rfl
  · rfl

section
variable {C : Cx} {G : Base} {ι : IM} {σ : AH} {w : World}

theorem old_sound (hr : Rel G ι σ w) {a : Option (Nat × Nat)} {n sz : Nat} {c : Cp} {s' : Value} {old : List AV} (hs : VRel ι (.slice a n c) s') (ho : rd σ a (n * sz) = some old) (hsz : sz ≠ 0) :
    ∃ os, old.length = n * sz ∧ VRelL ι old os ∧ ∀ P d, (Builtin.firstCells sz n s').run P { w with drawn := d } = .ok (List.toArray os) { w with drawn := d } := by
  obtain ⟨a', ĉ, rfl, hn, hnil, hsm⟩ := vrel_slice hs
  have hrd := fun d => rd_sound (hr.drawn d) ho (a' := a') (fun h0 b o hbo => by
    obtain ⟨p, z, hp, rfl, hz, _⟩ := hsm b o hbo
    have : n ≠ 0 := fun e => h0 (by rw [e, Nat.zero_mul])
    exact ⟨p, hp, by rw [hz (by omega)]⟩)
  by_cases h0 : n = 0
  · subst h0
    rcases hrd 0 with ⟨hl, _⟩
    rw [Nat.zero_mul] at hl
    have := List.length_eq_zero_iff.1 hl
    subst this
    refine ⟨[], by simp, .nil, fun P d => ?_⟩
    cases a' <;> simp [Builtin.firstCells, loadCells, loadCellsFrom]
  · have hne : n * sz ≠ 0 := Nat.mul_ne_zero h0 hsz
    rcases hrd 0 with ⟨hl, ⟨h1, _⟩ | ⟨z, us, rfl, hul, hur, hrun⟩⟩
    · exact absurd h1 hne
    · refine ⟨us, hl, hur, fun P d => ?_⟩
      have h2 := hrun P
      simp only [Builtin.firstCells]
      -- the reads hang on the heap alone
      rcases hrd d with ⟨_, ⟨h1, _⟩ | ⟨z', us', e, hul', hur', hrun'⟩⟩
      · exact absurd h1 hne
      · cases e
        have h3 := hrun' P
        have h4 : us' = us := by
          have : ∀ (P : Program) (x : Addr) (n : Nat) (vs : List Value) (d d' : Nat), (loadCells x n).run P { w with drawn := d } = .ok vs.toArray { w with drawn := d } → (loadCells x n).run P { w with drawn := d' } = .ok vs.toArray { w with drawn := d' } := by
            intro P x n vs d d' h
            have key : ∀ (n i : Nat) (acc : Array Value) (r : Array Value), (loadCellsFrom x i n acc).run P { w with drawn := d } = .ok r { w with drawn := d } → (loadCellsFrom x i n acc).run P { w with drawn := d' } = .ok r { w with drawn := d' } := by
              intro n
              induction n with
              | zero => intro i acc r h; simp only [loadCellsFrom, Sem.run_pure, Result.ok.injEq] at h ⊢; exact ⟨h.1, trivial⟩
              | succ n ih =>
                intro i acc r h
                simp only [loadCellsFrom, Sem.run_bind, run_load] at h ⊢
                have e1 : World.cell? { w with drawn := d } (x.add i) = World.cell? { w with drawn := d' } (x.add i) := rfl
                rw [e1] at h
                cases hc : World.cell? { w with drawn := d' } (x.add i) with
                | some v => rw [hc] at h; simp only [Result.andThen_ok] at h ⊢; exact ih _ _ _ h
                | none =>
                  rw [hc] at h
                  simp only at h ⊢
                  cases hf : World.farLoad P { w with drawn := d } (x.add i) (Mode.plain == Mode.atomic) with
                  | error e => rw [hf] at h; simp at h
                  | ok q =>
                    have e2 : World.farLoad P { w with drawn := d' } (x.add i) (Mode.plain == Mode.atomic) = World.farLoad P { w with drawn := d } (x.add i) (Mode.plain == Mode.atomic) := rfl
                    rw [e2, hf]
                    rw [hf] at h
                    cases q
                    simp only [Result.andThen_ok] at h ⊢
                    exact ih _ _ _ h
            exact key _ _ _ _ h
          have h5 := this P z (n * sz) us 0 d h2
          rw [h3] at h5
          simp only [Result.ok.injEq, and_true] at h5
          simpa using h5
        rw [h4] at h3
        exact h3

theorem appVc_sound (hr : Rel G ι σ w) {e : TypeId} {y : TI} (hy : C.ti e = some y) (hys : y.size ≠ 0) (hyb : y.bytes ≠ 0) {a : Option (Nat × Nat)} {n m : Nat} {c : Cp} {a' : Option Addr} {ĉ : Nat} {zeros : Bool} {x : Value}
    {appended : Sem (Array Value)} {new : List AV} {us : List Value} {K : AV → AH → Prop} (h : appVc y.size y.bytes a n c m new σ K) (hs : VRel ι (.slice a n c) (.slice a' n ĉ))
    (happ : ∀ d, appended.run C.P { w with drawn := d } = .ok us.toArray { w with drawn := d }) (hn : VRelL ι new us) (hnl : new.length = m * y.size) (hln : leaves new = true) :
    Gives G ι σ C.P w (appendTail e y.size a' n ĉ m zeros x (.slice a' n ĉ) appended) K := by
  have happ0 : appended.run C.P w = .ok us.toArray w := happ w.drawn
  obtain ⟨_, _, he, hnc, hnil, hsm⟩ := vrel_slice hs
  cases he
  unfold appVc at h
  split at h
  · rename_i hm0
    subst hm0
    have hus : us = [] := List.length_eq_zero_iff.1 (by rw [hn.length, hnl]; simp)
    subst hus
    refine .same hr (v' := .slice a' n ĉ) ?_ hs h
    unfold appendTail
    rw [if_pos (by omega)]
    simp only [Sem.run_bind, happ0, Result.andThen_ok]
    cases a' <;> simp [storeCells]
  rename_i hm0
  obtain ⟨hb, h⟩ := h
  split at h
  · -- nil
    obtain ⟨rfl, rfl, rfl, rfl⟩ := hnil rfl
    obtain ⟨newCap, ι', w', h1, h2, rfl, h4⟩ := append_grow (C := C) hr hy hys hyb (base := none) (n := 0) (cap := 0) (m := m) zeros x (.slice none 0 0) (old := []) (os := []) (by omega) hb happ
      (fun d => by simp [Builtin.firstCells]) .nil hn (by simp) hnl rfl hln
    refine ⟨_, _, _, _, w', h1, h4, Ext.put _ _ _ (Nat.le_refl _), by simp, ?_, h⟩
    simp only [VRel, Nat.zero_add]
    exact ⟨_, _, newCap, IM.put_self _ _ _, rfl, by omega, fun _ => by simp, by simp [capRel]⟩
  · -- the capacity is known
    rename_i b o cc
    obtain ⟨p, z, hp, rfl, hz, hcr⟩ := hsm b o rfl
    simp only [capRel] at hcr
    subst hcr
    split at h
    · rename_i hfit
      obtain ⟨cs, own, hk, hrw, ho, hK⟩ := h
      obtain rfl := hz (by omega)
      obtain ⟨w', hrun, hr'⟩ := put_sound hr hp hk hrw ho hn hln
      refine .here (v' := .slice (some ⟨p.blk, p.base + o, none⟩) (n + m) ĉ) hr' (Nat.le_refl _) ?_ ?_ hK
      · unfold appendTail
        rw [if_pos hfit]
        simp only [Sem.run_bind, happ0, Result.andThen_ok, addr_add, Nat.add_assoc] at hrun ⊢
        simp only [hrun, Result.andThen_ok, Sem.run_pure]
      · simp only [VRel]
        exact ⟨p, _, ĉ, hp, rfl, hfit, fun _ => rfl, rfl⟩
    · rename_i hfit
      obtain ⟨old, h1, h2, hK⟩ := h
      obtain ⟨os, hol, hor, hrun⟩ := old_sound hr hs h1 hys
      obtain ⟨newCap, ι', w', h3, h4, rfl, h5⟩ := append_grow (C := C) hr hy hys hyb (base := some z) (n := n) (cap := ĉ) (m := m) zeros x (.slice (some z) n ĉ) hfit hb happ (hrun _) hor hn hol hnl h2 hln
      refine ⟨_, _, _, _, w', h3, h5, Ext.put _ _ _ (Nat.le_refl _), by simp, ?_, hK⟩
      simp only [VRel]
      exact ⟨_, _, newCap, IM.put_self _ _ _, rfl, h4, fun _ => by simp, by simp [capRel]⟩
  · -- the slice reaches to its block's end
    rename_i b o
    obtain ⟨p, z, hp, rfl, hz, hcr⟩ := hsm b o rfl
    simp only [capRel] at hcr
    obtain ⟨cs, own, hk, hosz, ho, h⟩ := h
    have hrw : own.rw = true := by cases own <;> simp_all [Own.sz, Own.rw]
    obtain ⟨ĉs, elem, fr, g1, g2, g3, g4, g5, g6, g7, g8⟩ := hr.cells hp hk
    have hpsz := g8 _ hosz
    have hyp : 0 < y.size := Nat.pos_of_ne_zero hys
    split at h
    · rename_i hfit
      have hfit' : n + m ≤ ĉ := by
        have h1 : (n + m) * y.size ≤ ĉ * y.size := by rw [hpsz] at hcr; omega
        exact Nat.le_of_mul_le_mul_right h1 hyp
      obtain rfl := hz (by omega)
      obtain ⟨w', hrun, hr'⟩ := put_sound hr hp hk hrw (o := o + n * y.size) (by rw [hnl, Nat.add_mul] at *; omega) hn hln
      refine .here (v' := .slice (some ⟨p.blk, p.base + o, none⟩) (n + m) ĉ) hr' (Nat.le_refl _) ?_ ?_ h
      · unfold appendTail
        rw [if_pos hfit']
        simp only [Sem.run_bind, happ0, Result.andThen_ok, addr_add, Nat.add_assoc] at hrun ⊢
        simp only [hrun, Result.andThen_ok, Sem.run_pure]
      · simp only [VRel]
        exact ⟨p, _, ĉ, hp, rfl, hfit', fun _ => rfl, hcr⟩
    · rename_i hfit
      obtain ⟨hlo, h⟩ := h
      have hold : rd σ (some (b, o)) (n * y.size) = some ((cs.drop o).take (n * y.size)) := by
        unfold rd
        split
        · rename_i h0; rw [h0]; simp
        · simp only [AH.range, hk]; rw [if_pos ho]
      obtain ⟨os, hol, hor, hrun⟩ := old_sound hr hs hold hys
      split at h
      · rename_i hfull
        have hnf : ¬ n + m ≤ ĉ := by
          intro h1
          have h2 : (n + m) * y.size ≤ ĉ * y.size := Nat.mul_le_mul_right _ h1
          rw [hpsz] at hcr
          rw [g7 hfull] at hfit
          omega
        obtain ⟨newCap, ι', w', h3, h4, rfl, h5⟩ := append_grow (C := C) hr hy hys hyb (base := some z) (n := n) (cap := ĉ) (m := m) zeros x (.slice (some z) n ĉ) hnf hb happ (hrun _) hor hn hol hnl hlo hln
        refine ⟨_, _, _, _, w', h3, h5, Ext.put _ _ _ (Nat.le_refl _), by simp, ?_, h⟩
        simp only [VRel]
        exact ⟨_, _, newCap, IM.put_self _ _ _, rfl, h4, fun _ => by simp, by simp [capRel]⟩
      · rename_i hfull
        by_cases hin : n + m ≤ ĉ
        · -- in place
          obtain rfl := hz (by omega)
          have hlt := hr.bound b p hp
          have hul := hn.length
          have hmul : (n + m) * y.size ≤ ĉ * y.size := Nat.mul_le_mul_right _ hin
          have hadd : (n + m) * y.size = n * y.size + m * y.size := Nat.add_mul _ _ _
          rw [hpsz] at hcr
          have hst := run_storeCells (P := C.P) p.blk elem fr (p.base + (o + n * y.size)) us 0 ĉs w g1 (by omega) (hn.one hln) (fun j hj hj' => g6 hrw j (by omega) (by omega))
          rw [Nat.add_zero] at hst
          have hsw := hr.swap hp hk (by simpa [Blk.rw] using hrw) (k' := .cells (cs.take (o + n * y.size)) (.grow y.size)) (.cells (layA ĉs (p.base + (o + n * y.size)) us) elem fr) (by
            refine ⟨_, _, _, putBlk_self _ _ _ hlt, ?_, by simp; omega, by rw [layA_size]; exact g4, ?_, fun _ => g6 hrw, fun h => (by cases h), fun s hs => by cases hs; exact hpsz⟩
            · refine .of_get (by simp [layA_size]; omega) fun i a v ha hv' => ?_
              have hi : i < o + n * y.size := by have := (List.getElem?_eq_some_iff.1 ha).1; simp at this; omega
              rw [List.getElem?_take_of_lt hi] at ha
              rw [List.getElem?_take_of_lt (by simp; omega), List.getElem?_drop, layA_toList_get _ _ _ _ (by omega), if_neg (by omega)] at hv'
              obtain ⟨u, hu, hur⟩ := g2.get ha
              rw [List.getElem?_take_of_lt (by omega), List.getElem?_drop] at hu
              rw [hu] at hv'; cases hv'; exact hur
            · intro v hv'
              obtain ⟨i, hi⟩ := List.mem_iff_getElem?.1 hv'
              rw [List.getElem?_take] at hi
              split at hi
              case isFalse => cases hi
              rename_i hl
              rw [List.getElem?_drop, layA_toList_get _ _ _ _ (by omega)] at hi
              split at hi
              · exact hn.one hln v (List.mem_of_getElem? hi)
              · refine g5 v (List.mem_iff_getElem?.2 ⟨i, ?_⟩)
                rw [List.getElem?_take_of_lt hl, List.getElem?_drop]; exact hi)
          have hren := hsw.rename hp (k := .cells (cs.take (o + n * y.size)) (.grow y.size)) (by simp) rfl (.cells ((cs.drop o).take (n * y.size) ++ new) (.grow y.size)) ⟨p.blk, p.base + o, p.lim - o, y.size⟩ rfl (by
            have hle := IM.le_put ι ⟨p.blk, p.base + o, p.lim - o, y.size⟩ ((hr.fresh _ (Nat.le_refl _)).1)
            have hlen : ((cs.drop o).take (n * y.size) ++ new).length = n * y.size + m * y.size := by simp [hnl]; omega
            refine ⟨_, _, _, putBlk_self _ _ _ hlt, ?_, by rw [hlen]; simp only; omega, by rw [layA_size]; simp only; omega, ?_, fun _ j hj hj' => g6 hrw j (by simp only at hj; omega) (by simp only at hj'; omega), fun h => (by cases h), fun s hs => by cases hs; rfl⟩
            · refine VRelL.mono hle _ _ (.of_get (by rw [hlen]; simp [layA_size]; omega) fun i a v ha hv' => ?_)
              have hi : i < n * y.size + m * y.size := by have := (List.getElem?_eq_some_iff.1 ha).1; rwa [hlen] at this
              rw [List.getElem?_take_of_lt (by rw [hlen]; exact hi), List.getElem?_drop, layA_toList_get _ _ _ _ (by omega)] at hv'
              by_cases hi2 : i < n * y.size
              · rw [List.getElem?_append_left (by simp; omega), List.getElem?_take_of_lt hi2, List.getElem?_drop] at ha
                rw [if_neg (by simp only; omega)] at hv'
                obtain ⟨u, hu, hur⟩ := g2.get ha
                rw [List.getElem?_take_of_lt (by omega), List.getElem?_drop] at hu
                rw [show p.base + o + i = p.base + (o + i) by omega, hu] at hv'; cases hv'; exact hur
              · rw [List.getElem?_append_right (by simp; omega)] at ha
                rw [if_pos (by simp only; omega)] at hv'
                have e1 : ((cs.drop o).take (n * y.size)).length = n * y.size := by simp; omega
                rw [e1] at ha
                obtain ⟨u, hu, hur⟩ := hn.get ha
                rw [show p.base + o + i - (p.base + (o + n * y.size)) = i - n * y.size by omega, hu] at hv'; cases hv'; exact hur
            · intro v hv'
              obtain ⟨i, hi⟩ := List.mem_iff_getElem?.1 hv'
              rw [List.getElem?_take] at hi
              split at hi
              case isFalse => cases hi
              rename_i hl
              simp only at hl
              rw [List.getElem?_drop, layA_toList_get _ _ _ _ (by omega)] at hi
              split at hi
              · exact hn.one hln v (List.mem_of_getElem? hi)
              · refine g5 v (List.mem_iff_getElem?.2 ⟨o + i, ?_⟩)
                rw [List.getElem?_take_of_lt (by omega), List.getElem?_drop, ← Nat.add_assoc]; exact hi)
          rw [kill_set] at hren
          refine ⟨_, .slice (some ⟨p.blk, p.base + o, none⟩) (n + m) ĉ, _, _, _, ?_, hren, Ext.put _ _ _ (Nat.le_refl _), by simp, ?_, h⟩
          · unfold appendTail
            rw [if_pos hin]
            simp only [Sem.run_bind, happ0, Result.andThen_ok, addr_add, Nat.add_assoc] at hst ⊢
            simp only [hst, Result.andThen_ok, Sem.run_pure]
          · simp only [VRel]
            refine ⟨_, _, ĉ, IM.put_self _ _ _, rfl, hin, fun _ => by simp, ?_⟩
            simp only [capRel]
            omega
        · obtain ⟨newCap, ι', w', h3, h4, rfl, h5⟩ := append_grow (C := C) (hr.kill b) hy hys hyb (base := some z) (n := n) (cap := ĉ) (m := m) zeros x (.slice (some z) n ĉ) hin hb happ (hrun _) hor hn hol hnl hlo hln
          refine ⟨_, _, _, _, w', h3, h5, Ext.put _ _ _ (Nat.le_refl _), by simp, ?_, h⟩
          simp only [VRel]
          exact ⟨_, _, newCap, IM.put_self _ _ _, rfl, h4, fun _ => by simp, by simp [capRel]⟩
  · cases h
end
end Go.Proofs.YthpngchngnaloaaGreatDoor.Vm

/-! The operations of the model do what the abstract machine asks: the builtins. -/
namespace Go.Proofs.YthpngchngnaloaaGreatDoor.Vm
open RowKit (Below)

section
variable {C : Cx} {G : Base} {ι : IM} {σ : AH} {w : World}

theorem vrelL_two {x y : AV} {r : List AV} {l : List Value} (h : VRelL ι (x :: y :: r) l) : ∃ x' y' r', l = x' :: y' :: r' ∧ VRel ι x x' ∧ VRel ι y y' ∧ VRelL ι r r' := by
  simp only [VRelL] at h
  obtain ⟨x', l1, rfl, h1, y', l2, rfl, h2, h3⟩ := h
  exact ⟨x', y', l2, rfl, h1, h2, h3⟩
theorem vrelL_one {x : AV} {r : List AV} {l : List Value} (h : VRelL ι (x :: r) l) : ∃ x' r', l = x' :: r' ∧ VRel ι x x' ∧ VRelL ι r r' := by
  simp only [VRelL] at h
  exact h

theorem loadCells_drawn {P : Program} {x : Addr} {n d d' : Nat} {r : Array Value} (h : (loadCells x n).run P { w with drawn := d } = .ok r { w with drawn := d }) : (loadCells x n).run P { w with drawn := d' } = .ok r { w with drawn := d' } := by
  have key : ∀ (n i : Nat) (acc : Array Value) (r : Array Value), (loadCellsFrom x i n acc).run P { w with drawn := d } = .ok r { w with drawn := d } → (loadCellsFrom x i n acc).run P { w with drawn := d' } = .ok r { w with drawn := d' } := by
    intro n
    induction n with
    | zero => intro i acc r h; simp only [loadCellsFrom, Sem.run_pure, Result.ok.injEq] at h ⊢; exact ⟨h.1, trivial⟩
    | succ n ih =>
      intro i acc r h
      simp only [loadCellsFrom, Sem.run_bind, run_load] at h ⊢
      have e1 : World.cell? { w with drawn := d } (x.add i) = World.cell? { w with drawn := d' } (x.add i) := rfl
      rw [e1] at h
      cases hc : World.cell? { w with drawn := d' } (x.add i) with
      | some v => rw [hc] at h; simp only [Result.andThen_ok] at h ⊢; exact ih _ _ _ h
      | none =>
        rw [hc] at h
        simp only at h ⊢
        cases hf : World.farLoad P { w with drawn := d } (x.add i) (Mode.plain == Mode.atomic) with
        | error e => rw [hf] at h; simp at h
        | ok q =>
          have e2 : World.farLoad P { w with drawn := d' } (x.add i) (Mode.plain == Mode.atomic) = World.farLoad P { w with drawn := d } (x.add i) (Mode.plain == Mode.atomic) := rfl
          rw [e2, hf]
          rw [hf] at h
          cases q
          simp only [Result.andThen_ok] at h ⊢
          exact ih _ _ _ h
  exact key _ _ _ _ h
theorem firstCells_drawn {P : Program} {sz n d d' : Nat} {x : Value} {r : Array Value} (h : (Builtin.firstCells sz n x).run P { w with drawn := d } = .ok r { w with drawn := d }) : (Builtin.firstCells sz n x).run P { w with drawn := d' } = .ok r { w with drawn := d' } := by
  unfold Builtin.firstCells at h ⊢
  split at h
  · exact loadCells_drawn h
  · simp only [Sem.run_pure, Result.ok.injEq] at h ⊢; exact ⟨h.1, trivial⟩
  · simp only [Sem.run_pure, Result.ok.injEq] at h ⊢; exact ⟨h.1, trivial⟩
  · simp at h
theorem td_isInt {d : TypeDesc} (h : (tdOf d).isInt = true) : ∃ k, d = .int k := by
  cases d <;> simp [tdOf, TD.isInt] at h ⊢
theorem drawn_self (w : World) : { w with drawn := w.drawn } = w := rfl

theorem appendVc_sound (hr : Rel G ι σ w) {ts : List TypeId} {xs : List AV} {xs' : List Value} {rt : TypeId} {K : AV → AH → Prop} (h : appendVc C ts xs σ K) (hx : VRelL ι xs xs') :
    Gives G ι σ C.P w (Builtin.append_ ts.toArray rt xs'.toArray) K := by
  unfold appendVc at h
  split at h
  case h_2 => cases h
  rename_i t t' trest a n c x xrest
  obtain ⟨s', x', r', rfl, hs, hx', _⟩ := vrelL_two hx
  split at h
  case h_2 => cases h
  rename_i ti ti' hti hti'
  obtain ⟨d, hd, htd, hdP⟩ := C.und hti
  obtain ⟨d', hd', htd', hdP'⟩ := C.und hti'
  split at h
  case h_2 => cases h
  rename_i e he
  obtain rfl := td_slice (htd.trans he)
  split at h
  case h_2 => cases h
  rename_i y hy
  split at h
  case isTrue => cases h
  rename_i hys
  split at h
  case isTrue => cases h
  rename_i hyb
  obtain ⟨a', ĉ, rfl, hnc, hnil, hsm⟩ := vrel_slice hs
  obtain ⟨i, hi, hib, his⟩ := C.bytes hy
  split at h
  · -- zeros
    rename_i hint
    split at h
    case h_2 => cases h
    rename_i k' i'
    obtain ⟨k, rfl⟩ := td_isInt (d := d') (by rw [htd']; exact hint)
    obtain ⟨h0, h1, h2, hz0, h⟩ := h
    simp only [VRel] at hx'
    subst hx'
    obtain ⟨z, hz, hzs, hzl, hz1⟩ := C.zero hy
    have hzr : VRelL ι y.zero z.cells.toList := hzs ▸ ofVs_rel ι z.cells.toList
    have hzl' : y.zero.length = y.size := by rw [← hzs, ofVs_length, Array.length_toList, hzl]
    have ew : IntKind.i64.wrap i' = i' := wrap64_in (by omega) (by omega)
    let appended : Sem (Array Value) := if i'.toNat * y.size = 0 then pure #[] else do pure (Builtin.zeroCells (← zeroValue e).cells i'.toNat)
    have happ : ∀ d, appended.run C.P { w with drawn := d } = .ok (Builtin.zeroCells z.cells i'.toNat).toList.toArray { w with drawn := d } := by
      intro d
      simp only [appended]
      by_cases h0 : i'.toNat * y.size = 0
      · rw [if_pos h0]
        have : (Builtin.zeroCells z.cells i'.toNat).toList = [] := List.length_eq_zero_iff.1 (by rw [zeroCells_size, hzl, h0])
        rw [this]
        rfl
      · rw [if_neg h0]
        simp only [Sem.run_bind, hz, Result.andThen_ok, Sem.run_pure, Array.toArray_toList]
    have := appVc_sound (C := C) (x := .int k' i') (zeros := true) hr hy hys hyb h hs happ (zeroCells_rel hzr _) (by rw [repL_length, hzl']) (leaves_rep hz0 _)
    obtain ⟨v, v', σ', ι', w', hrun, hrest⟩ := this
    refine ⟨v, v', σ', ι', w', ?_, hrest⟩
    rw [← hrun]
    have e1 : ¬ i' < 0 := by omega
    have e2 : ¬ (i' * (i.bytes : Int) > 2 ^ 48) := by rw [hib]; omega
    unfold Builtin.append_ appendTail
    simp only [List.getElem?_toArray, List.getElem?_cons_zero, List.getElem?_cons_succ, Sem.run_bind, hd, hd', Result.andThen_ok, C.size hy, Sem.run_pure, if_true, asInt, asIntOf, ew, appended, e1, if_false, hi, e2, Bool.not_true, Bool.false_eq_true]
    rfl
  · -- elements
    rename_i hnint
    have hnot : ∀ k, d' ≠ .int k := by
      intro k e'
      subst e'
      rw [← htd'] at hnint
      simp [tdOf, TD.isInt] at hnint
    obtain ⟨m, h, hm, hlen⟩ := lenA_sound h hx'
    obtain ⟨new, us, hnl, hnr, hnlv, hrun, hK⟩ := srcVc_sound (C := C) hr h hx' (by unfold lenA at hm ⊢; split at hm <;> simp_all) hys
    have happ : ∀ d, (Builtin.firstCells y.size m x').run C.P { w with drawn := d } = .ok us.toArray { w with drawn := d } := fun d => firstCells_drawn (d := w.drawn) hrun
    have := appVc_sound (C := C) (x := x') (zeros := false) hr hy hys hyb hK hs happ hnr hnl hnlv
    obtain ⟨v, v', σ', ι', w', hrun', hrest⟩ := this
    refine ⟨v, v', σ', ι', w', ?_, hrest⟩
    rw [← hrun']
    have hm : (d' matches .int _) = false := by
      cases d' <;> first | rfl | (exact absurd rfl (hnot _))
    unfold Builtin.append_ appendTail
    simp only [List.getElem?_toArray, List.getElem?_cons_zero, List.getElem?_cons_succ, Sem.run_bind, hd, hd', Result.andThen_ok, C.size hy, Sem.run_pure, hm, Bool.false_eq_true, if_false, hlen]
    rfl
end
end Go.Proofs.YthpngchngnaloaaGreatDoor.Vm

/-! The operations of the model do what the abstract machine asks: copy, clear, cap, len, conversions. -/
namespace Go.Proofs.YthpngchngnaloaaGreatDoor.Vm
open RowKit (Below)

section
variable {C : Cx} {G : Base} {ι : IM} {σ : AH} {w : World}

theorem putVc_some {b o : Nat} {vs : List AV} {K : AH → Prop} (h : putVc σ b o vs K) : ∃ cs own, σ.get b = some (.cells cs own) ∧ own.rw = true ∧ o + vs.length ≤ cs.length ∧ K (σ.set b (.cells (layL cs o vs) own)) := h

theorem copyVc_sound (hr : Rel G ι σ w) {ts : List TypeId} {xs : List AV} {xs' : List Value} {rt : TypeId} {K : AV → AH → Prop} (h : copyVc C ts xs σ K) (hx : VRelL ι xs xs') :
    Gives G ι σ C.P w (Builtin.copy_ ts.toArray rt xs'.toArray) K := by
  unfold copyVc at h
  split at h
  case h_2 => cases h
  rename_i t trest a n c x xrest
  obtain ⟨s', x', r', rfl, hs, hx', _⟩ := vrelL_two hx
  split at h
  case h_2 => cases h
  rename_i ti hti
  obtain ⟨d, hd, htd, hdP⟩ := C.und hti
  split at h
  case h_2 => cases h
  rename_i e he
  obtain rfl := td_slice (htd.trans he)
  split at h
  case h_2 => cases h
  rename_i y hy
  split at h
  case isTrue => cases h
  rename_i hys
  obtain ⟨a', ĉ, rfl, hnc, hnil, hsm⟩ := vrel_slice hs
  obtain ⟨m, h, hm, hlen⟩ := lenA_sound h hx'
  by_cases h0 : min m n = 0
  · -- nothing is copied
    have hK : K (.int .i64 0) σ := by
      unfold srcVc at h
      split at h
      · obtain ⟨_, _, _, h⟩ := h; rwa [if_pos h0] at h
      · split at h
        · first | exact h | rwa [if_pos h0] at h
        · cases h
      · cases h
    refine .same hr (v' := .int .i64 0) ?_ (by simp only [VRel]) hK
    have hf : (Builtin.firstCells y.size 0 x').run C.P w = .ok #[] w := by
      unfold lenA at hm
      split at hm
      · rename_i a2 n2 c2
        obtain ⟨a2', c2', rfl, _⟩ := vrel_slice hx'
        cases a2' <;> simp [Builtin.firstCells, loadCells, loadCellsFrom]
      · rename_i s
        simp only [VRel] at hx'
        subst hx'
        simp only [Builtin.firstCells, Sem.run_pure, str_extract]
        simp
      · cases hm
    unfold Builtin.copy_
    simp only [List.getElem?_toArray, List.getElem?_cons_zero, List.getElem?_cons_succ, Sem.run_bind, hd, Result.andThen_ok, hlen, C.size hy]
    rw [show Nat.min m n = 0 from h0]
    simp only [hf, Result.andThen_ok]
    cases a' <;> simp [storeCells, goInt]
  · · obtain ⟨new, us, hnl, hnr, hnlv, hrun, hK⟩ := srcVc_sound (C := C) hr h hx' (by unfold lenA at hm ⊢; split at hm <;> simp_all <;> omega) hys
      rw [if_neg h0] at hK
      obtain ⟨b, o, rfl, hK⟩ := atP_some hK
      obtain ⟨cs, own, hk, hrw, ho, hK⟩ := putVc_some hK
      obtain ⟨p, z, hp, rfl, hz, _⟩ := hsm b o rfl
      obtain rfl := hz (by omega)
      obtain ⟨w', hst, hr'⟩ := put_sound hr hp hk hrw ho hnr hnlv
      refine .here (v' := .int .i64 (min m n : Nat)) hr' (Nat.le_refl _) ?_ (by simp only [VRel]) hK
      unfold Builtin.copy_
      simp only [List.getElem?_toArray, List.getElem?_cons_zero, List.getElem?_cons_succ, Sem.run_bind, hd, Result.andThen_ok, hlen, C.size hy]
      rw [show Nat.min m n = min m n from rfl]
      simp only [hrun, Result.andThen_ok, hst, Sem.run_pure, goInt]

theorem clearVc_sound (hr : Rel G ι σ w) {ts : List TypeId} {xs : List AV} {xs' : List Value} {rt : TypeId} {K : AV → AH → Prop} (h : clearVc C ts xs σ K) (hx : VRelL ι xs xs') :
    Gives G ι σ C.P w (Builtin.clear_ ts.toArray rt xs'.toArray) K := by
  unfold clearVc at h
  split at h
  case h_2 => cases h
  rename_i t trest a n c xrest
  obtain ⟨s', r', rfl, hs, _⟩ := vrelL_one hx
  split at h
  case h_2 => cases h
  rename_i ti hti
  obtain ⟨d, hd, htd, hdP⟩ := C.und hti
  split at h
  case h_2 => cases h
  rename_i e he
  obtain rfl := td_slice (htd.trans he)
  split at h
  case h_2 => cases h
  rename_i y hy
  obtain ⟨a', ĉ, rfl, hnc, hnil, hsm⟩ := vrel_slice hs
  split at h
  · rename_i h0
    subst h0
    refine .same hr (v' := .tuple #[]) ?_ (by simp only [VRel]; exact ⟨[], rfl, .nil⟩) h
    unfold Builtin.clear_
    simp only [List.getElem?_toArray, List.getElem?_cons_zero, Sem.run_bind, hd, Result.andThen_ok]
    cases a' <;> simp
  · rename_i h0
    obtain ⟨hz0, h⟩ := h
    obtain ⟨b, o, rfl, h⟩ := atP_some h
    obtain ⟨cs, own, hk, hrw, ho, hK⟩ := putVc_some h
    obtain ⟨p, z, hp, rfl, hz, _⟩ := hsm b o rfl
    obtain rfl := hz (by omega)
    obtain ⟨zv, hzv, hzs, hzl, hz1⟩ := C.zero hy
    have hzr : VRelL ι y.zero zv.cells.toList := hzs ▸ ofVs_rel ι zv.cells.toList
    obtain ⟨w', hst, hr'⟩ := put_sound hr hp hk hrw ho (zeroCells_rel hzr n) (leaves_rep hz0 n)
    refine .here (v' := .tuple #[]) hr' (Nat.le_refl _) ?_ (by simp only [VRel]; exact ⟨[], rfl, .nil⟩) hK
    unfold Builtin.clear_
    simp only [List.getElem?_toArray, List.getElem?_cons_zero, Sem.run_bind, hd, Result.andThen_ok]
    obtain ⟨k, rfl⟩ : ∃ k, n = k + 1 := ⟨n - 1, by omega⟩
    simp only [Sem.run_bind, hzv, Result.andThen_ok, hst, Sem.run_pure]

theorem capVc_sound (hr : Rel G ι σ w) {t : TypeId} {ti : TI} {e : TypeId} (hti : C.ti t = some ti) (he : ti.d = .slice e) {ts : List TypeId} {a : Option (Nat × Nat)} {n : Nat} {c : Cp} {xs' : List Value} {rt : TypeId} {K : AV → AH → Prop} (h : capVc a n c σ K) {r : List AV} (hx : VRelL ι (.slice a n c :: r) xs') :
    Gives G ι σ C.P w (Builtin.cap_ (t :: ts).toArray rt xs'.toArray) K := by
  obtain ⟨s', r', rfl, hs, _⟩ := vrelL_one hx
  obtain ⟨d, hd, htd, hdP⟩ := C.und hti
  obtain rfl := td_slice (htd.trans he)
  obtain ⟨a', ĉ, rfl, hnc, hnil, hsm⟩ := vrel_slice hs
  have hrun : ∀ w, (Builtin.cap_ (t :: ts).toArray rt (Value.slice a' n ĉ :: r').toArray).run C.P w = .ok (.int .i64 ĉ) w := by
    intro w
    unfold Builtin.cap_
    simp only [List.getElem?_toArray, List.getElem?_cons_zero, Sem.run_bind, hd, Result.andThen_ok, goInt, Sem.run_pure]
  unfold capVc at h
  split at h
  · rename_i c
    have : ĉ = c := by
      rcases a with _ | ⟨b, o⟩
      · obtain ⟨_, _, h1, h2⟩ := hnil rfl; cases h2; exact h1
      · obtain ⟨_, _, _, _, _, h1⟩ := hsm b o rfl; exact h1
    subst this
    exact .same hr (hrun w) (by simp only [VRel]) h
  · rename_i b o
    obtain ⟨cs, own, sz, hk, hosz, hsz, ho, h⟩ := h
    obtain ⟨p, z, hp, rfl, hz, hcr⟩ := hsm b o rfl
    simp only [capRel] at hcr
    obtain ⟨ĉs, elem, fr, g1, g2, g3, g4, g5, g6, g7, g8⟩ := hr.cells hp hk
    have hpsz := g8 _ hosz
    rw [hpsz] at hcr
    have hrw : own.rw = true := by cases own <;> simp_all [Own.sz, Own.rw]
    split at h
    · rename_i hfull
      have : (cs.length - o) / sz = ĉ := by
        rw [g7 hfull, ← hcr, Nat.add_sub_cancel_left, Nat.mul_div_cancel _ hsz]
      rw [this] at h
      exact .same hr (hrun w) (by simp only [VRel]) h
    · have hK := h ĉ hnc (by omega)
      have e1 : putBlk w p.blk (.cells ĉs elem fr) = w := by
        unfold putBlk
        obtain ⟨hlt, hxx⟩ := Array.getElem?_eq_some_iff.1 g1
        rw [show w.heap.setIfInBounds p.blk (.cells ĉs elem fr) = w.heap from by
          apply Array.ext_getElem?; intro k; rw [Array.getElem?_setIfInBounds]
          by_cases hk : p.blk = k
          · subst hk; simp [hlt, hxx]
          · simp [hk]]
      have hsw := hr.swap hp hk (by simpa [Blk.rw] using hrw) (k' := .cells (cs ++ List.replicate (o + ĉ * sz - cs.length) .any) (.exact sz)) (.cells ĉs elem fr) (by
        rw [e1]
        have hlen : (cs ++ List.replicate (o + ĉ * sz - cs.length) AV.any).length = p.lim := by simp; omega
        refine ⟨_, _, _, g1, ?_, by rw [hlen]; exact Nat.le_refl _, g4, g5, fun _ => g6 hrw, fun _ => hlen, fun s hs => by cases hs; exact hpsz⟩
        rw [hlen]
        refine .of_get (by rw [hlen]; simp; omega) fun i x v hx hv => ?_
        have hi : i < p.lim := by have := (List.getElem?_eq_some_iff.1 hx).1; rwa [hlen] at this
        by_cases hi2 : i < cs.length
        · rw [List.getElem?_append_left hi2] at hx
          obtain ⟨u, hu, hur⟩ := g2.get hx
          rw [List.getElem?_take_of_lt hi] at hv
          rw [List.getElem?_take_of_lt hi2] at hu
          rw [hu] at hv; cases hv; exact hur
        · rw [List.getElem?_append_right (by omega), List.getElem?_replicate] at hx
          split at hx
          · cases hx; simp only [VRel]
          · cases hx)
      rw [e1] at hsw
      exact .here hsw (Nat.le_refl _) (hrun w) (by simp only [VRel]) hK
  · cases h

theorem lenVc_sound (hr : Rel G ι σ w) {t : TypeId} {ts : List TypeId} {x : AV} {xs' : List Value} {rt : TypeId} {K : AV → Prop} (h : lenVc C t x σ K) {r : List AV} (hx : VRelL ι (x :: r) xs') :
    Gives G ι σ C.P w (Builtin.len_ (t :: ts).toArray rt xs'.toArray) (fun v τ => τ = σ ∧ K v) := by
  obtain ⟨s', r', rfl, hs, _⟩ := vrelL_one hx
  unfold lenVc at h
  split at h
  case h_2 => cases h
  rename_i ti hti
  obtain ⟨d, hd, htd, hdP⟩ := C.und hti
  split at h
  · rename_i e a n c hte
    obtain rfl := td_slice (htd.trans hte)
    obtain ⟨a', ĉ, rfl, _⟩ := vrel_slice hs
    refine .same hr (v' := .int .i64 n) ?_ (by simp only [VRel]) ⟨rfl, h⟩
    unfold Builtin.len_
    simp only [List.getElem?_toArray, List.getElem?_cons_zero, Sem.run_bind, hd, Result.andThen_ok, goInt, Sem.run_pure]
  · rename_i s hte
    obtain rfl := td_str (htd.trans hte)
    simp only [VRel] at hs
    subst hs
    refine .same hr (v' := .int .i64 s.length) ?_ (by simp only [VRel]) ⟨rfl, h⟩
    unfold Builtin.len_
    simp only [List.getElem?_toArray, List.getElem?_cons_zero, Sem.run_bind, hd, Result.andThen_ok, goInt, Sem.run_pure]
    simp [ByteArray.size]
  · rename_i k e hte
    obtain rfl := td_map (htd.trans hte)
    simp only [VRel] at hs
    subst hs
    refine .same hr (v' := .int .i64 0) ?_ (by simp only [VRel]) ⟨rfl, h⟩
    unfold Builtin.len_
    simp only [List.getElem?_toArray, List.getElem?_cons_zero, Sem.run_bind, hd, Result.andThen_ok, goInt, Sem.run_pure]
  · rename_i k e r0 hte
    obtain rfl := td_map (htd.trans hte)
    obtain ⟨es, clock, hk, hK⟩ := h
    simp only [VRel] at hs
    obtain ⟨p, hp, rfl⟩ := hs
    obtain ⟨ês, g1, g2⟩ := hr.live r0 p _ hp hk
    refine .same hr (v' := .int .i64 es.length) ?_ (by simp only [VRel]) ⟨rfl, hK⟩
    unfold Builtin.len_
    have hg : (getObj p.blk).run C.P w = .ok (.map ês clock) w := by simp [getObj, Sem.run, g1]
    simp only [List.getElem?_toArray, List.getElem?_cons_zero, Sem.run_bind, hd, Result.andThen_ok, hg, goInt, Sem.run_pure]
    rw [← g2.length]; rfl
  · rename_i n e hte
    obtain rfl := td_array (htd.trans hte)
    refine .same hr (v' := .int .i64 n) ?_ (by simp only [VRel]) ⟨rfl, h⟩
    unfold Builtin.len_
    simp only [List.getElem?_toArray, List.getElem?_cons_zero, Sem.run_bind, hd, Result.andThen_ok, goInt, Sem.run_pure]
  · cases h

/-! ### Conversions -/
theorem isByte_ok {e : TypeId} (h : isByte C e = true) : C.P.underlying e = some (.int .u8) ∧ (∃ te, C.ti e = some te ∧ te.size = 1 ∧ te.bytes = 1) := by
  unfold isByte at h
  split at h
  case h_2 => cases h
  rename_i te hte
  simp only [Bool.and_eq_true, beq_iff_eq] at h
  obtain ⟨d, _, htd, hdP⟩ := C.und hte
  rw [td_int (htd.trans h.1.1)] at hdP
  exact ⟨hdP, te, hte, h.1.2, h.2⟩

theorem bytesOf_fold : ∀ (l : List UInt8) (acc : ByteArray), (l.map fun b => (b.toNat : Int)).foldl (fun r n => r.push (UInt8.ofNat n.toNat)) acc = ⟨acc.data ++ l.toArray⟩
  | [], acc => by simp
  | c :: l, acc => by
    simp only [List.map_cons, List.foldl_cons]
    rw [bytesOf_fold l]
    congr 1
    apply Array.ext'
    simp [ByteArray.push]
theorem bytesWorld_eq (w : World) (e : TypeId) (s : ByteArray) : Lib.bytesWorld w e s = ({ w with drawn := w.drawn + 1 } : World).alloc (.cells (Lib.bytesCells w e s) e ((Lib.bytesCells w e s).size, (Lib.bytesCells w e s).size + 1)) := by
  have h : (Lib.bytesWorld w e s).heap = (({ w with drawn := w.drawn + 1 } : World).alloc (.cells (Lib.bytesCells w e s) e ((Lib.bytesCells w e s).size, (Lib.bytesCells w e s).size + 1))).heap := by
    apply Array.ext_getElem?
    intro k
    rcases Nat.lt_trichotomy k w.heap.size with hk | hk | hk
    · rw [Lib.bytesWorld_at_old _ _ _ _ hk]
      exact (Below.heap_alloc _ _ _ hk).symm
    · subst hk
      rw [Lib.bytesWorld_at_new]
      exact (alloc_new _ _).symm
    · rw [Array.getElem?_eq_none (by rw [Lib.bytesWorld_size]; omega), Array.getElem?_eq_none (by simp; omega)]
  have h1 : (Lib.bytesWorld w e s).tape = w.tape := rfl
  cases hx : Lib.bytesWorld w e s with
  | mk heap tape drawn os output =>
    rw [hx] at h
    simp only at h
    subst h
    have e1 : tape = (Lib.bytesWorld w e s).tape := by rw [hx]
    have e2 : drawn = (Lib.bytesWorld w e s).drawn := by rw [hx]
    have e3 : os = (Lib.bytesWorld w e s).os := by rw [hx]
    have e4 : output = (Lib.bytesWorld w e s).output := by rw [hx]
    subst e1 e2 e3 e4
    rfl

theorem convVc_sound (hr : Rel G ι σ w) {s d : TypeId} {x : AV} {x' : Value} {K : AV → AH → Prop} (h : convVc C s d x σ K) (hx : VRel ι x x') : Gives G ι σ C.P w (convert s d x') K := by
  unfold convVc at h
  split at h
  case h_2 => cases h
  rename_i ts td hts htd0
  obtain ⟨ds, hds, hts2, _⟩ := C.und hts
  obtain ⟨dd, hdd, htd2, _⟩ := C.und htd0
  split at h
  · rename_i k k' n hte
    obtain rfl := td_int (htd2.trans hte)
    simp only [VRel] at hx
    subst hx
    refine .same hr (v' := .int k (k.wrap n)) ?_ (by simp only [VRel]) h
    unfold convert
    simp only [Sem.run_bind, hds, hdd, Result.andThen_ok]
    cases ds <;> rfl
  · rename_i k n hte
    obtain rfl := td_str (htd2.trans hte)
    simp only [VRel] at hx
    subst hx
    refine .same hr (v' := .string (Utf8.encode n)) ?_ (by simp only [VRel]) h
    unfold convert
    simp only [Sem.run_bind, hds, hdd, Result.andThen_ok]
    cases ds <;> rfl
  · rename_i l hte
    obtain rfl := td_str (htd2.trans hte)
    simp only [VRel] at hx
    subst hx
    refine .same hr (v' := .string ⟨l.toArray⟩) ?_ (by simp only [VRel]) h
    unfold convert
    simp only [Sem.run_bind, hds, hdd, Result.andThen_ok]
    cases ds <;> rfl
  · rename_i a n c hte
    obtain rfl := td_str (htd2.trans hte)
    split at h
    case h_2 => cases h
    rename_i e hse
    obtain rfl := td_slice (hts2.trans hse)
    split at h
    case isFalse => cases h
    rename_i hb
    obtain ⟨hbu, te, hte', hbs, _⟩ := isByte_ok hb
    obtain ⟨l, hl, hK⟩ := h
    obtain ⟨a', ĉ, rfl, hnc, hnil, hsm⟩ := vrel_slice hx
    have hrd := rd_sound hr hl (a' := a') (fun h0 b o hbo => by
      obtain ⟨p, z, hp, rfl, hz, _⟩ := hsm b o hbo
      exact ⟨p, hp, by rw [hz (by omega)]⟩)
    obtain ⟨hlen, hrd⟩ := hrd
    have hll : l.length = n := by simpa using hlen
    refine .same hr (v' := .string ⟨l.toArray⟩) ?_ (by simp only [VRel]) hK
    unfold convert
    simp only [Sem.run_bind, hds, hdd, Result.andThen_ok, run_und hbu]
    rcases hrd with ⟨h0, h1⟩ | ⟨z, us, rfl, hul, hur, hrun⟩
    · have hl0 : l = [] := by simpa using h1
      subst hl0
      subst h0
      cases a' with
      | none => unfold Conv.bytesToString; rfl
      | some z =>
        have := run_bytesToString (P := C.P) w z 0 ĉ [] (by simp [loadCells, loadCellsFrom])
        rw [this]; rfl
    · have hus : us = (l.map fun b => (b.toNat : Int)).map (Value.int .u8) := by
        apply List.ext_getElem?
        intro i
        cases hx : us[i]? with
        | none =>
          have := List.getElem?_eq_none_iff.1 hx
          rw [List.getElem?_eq_none (by simp; omega)]
        | some u =>
          obtain ⟨a, ha, hau⟩ := hur.get' hx
          rw [List.getElem?_map] at ha
          rw [List.getElem?_map, List.getElem?_map]
          cases hy : l[i]? with
          | none => rw [hy] at ha; cases ha
          | some b =>
            rw [hy] at ha; cases ha
            simp only [byteAV, VRel] at hau
            simp [hau]
      have h2 := hrun C.P
      rw [hus] at h2
      rw [run_bytesToString w z n ĉ _ h2, bytesOf_fold]
      show Result.ok (Value.string ⟨#[] ++ l.toArray⟩) w = _
      rw [Array.empty_append]
  · rename_i e l hte
    obtain rfl := td_slice (htd2.trans hte)
    split at h
    case isFalse => cases h
    rename_i hb
    obtain ⟨hbu, te, hte', hbs, _⟩ := isByte_ok hb
    simp only [VRel] at hx
    subst hx
    obtain ⟨ds', _, hP⟩ : ∃ u, tdOf u = ts.d ∧ C.P.underlying s = some u := by
      obtain ⟨u, _, h1, h2⟩ := C.und hts; exact ⟨u, h1, h2⟩
    obtain ⟨dd', hdd', _, hPd⟩ := C.und htd0
    have hPd' : C.P.underlying d = some (.slice e) := by
      obtain ⟨u, h1, h2, h3⟩ := C.und htd0
      rw [td_slice (h2.trans hte)] at h3; exact h3
    have hrun := Lib.run_convert_string_bytes (P := C.P) w s d e ⟨l.toArray⟩ hP hPd' hbu
    have hcap : l.length ≤ grownCap w l.length 0 e := by unfold grownCap; simp only [Question.cut]; omega
    have hsz : (⟨l.toArray⟩ : ByteArray).size = l.length := by simp [ByteArray.size]
    have hcells : Lib.bytesCells w e ⟨l.toArray⟩ = ((l.map fun (b : UInt8) => Value.int .u8 (b.toNat : Int)) ++ List.replicate (grownCap w l.length 0 e - l.length) (Value.int .u8 0) : List Value).toArray := by
      unfold Lib.bytesCells
      rw [hsz]
      apply Array.ext'
      simp
    have hnew := new_cells (hr.drawn (w.drawn + 1)) (l.map byteAV) (l.map fun b => Value.int .u8 b.toNat) (.grow 1) e 1 (List.replicate (grownCap w l.length 0 e - l.length) (.int .u8 0)) ((Lib.bytesCells w e ⟨l.toArray⟩).size, (Lib.bytesCells w e ⟨l.toArray⟩).size + 1) (byte_rel l) (by unfold leaves; rw [List.all_map]; simp [byteAV, AV.leaf, Function.comp_def]) (by intro u hu; rw [(List.mem_replicate.1 hu).2]; rfl) (fun h => by cases h) (fun s hs => by cases hs; rfl)
      (by intro _ j hj; rw [hcells]; simp at hj ⊢; omega)
    rw [← hcells, ← bytesWorld_eq] at hnew
    rw [hsz] at hrun
    refine ⟨_, _, _, _, _, hrun, hnew, Ext.put _ _ _ (Nat.le_refl _), by simp, ?_, h⟩
    simp only [VRel]
    refine ⟨_, _, _, IM.put_self _ _ _, rfl, hcap, fun _ => by simp, ?_⟩
    simp only [capRel, List.length_map, List.length_replicate]
    omega
  · rename_i e b o n c hte
    split at h
    case isFalse => cases h
    rename_i hc
    obtain ⟨rfl, hb, hn⟩ := hc
    obtain ⟨cs, own, hk, hrw, hK⟩ := h
    obtain ⟨hbu, te, hte', hbs, _⟩ := isByte_ok hb
    obtain rfl := td_slice (htd2.trans hte)
    obtain ⟨a', ĉ, rfl, hnc, hnil, hsm⟩ := vrel_slice hx
    obtain ⟨p, z, hp, rfl, hz, hcr⟩ := hsm b o rfl
    have hz := hz (by omega)
    subst hz
    obtain ⟨ĉs, elem, fr, h1, h2, h3, h4, h5, h6, h7, h8⟩ := hr.cells hp hk
    have hfz : ∃ fr', w.freeze ⟨p.blk, ĉs.size, none⟩ 1 = putBlk w p.blk (.cells ĉs elem fr') := by
      obtain ⟨hlt, hx⟩ := Array.getElem?_eq_some_iff.1 h1
      obtain ⟨lo, hi⟩ := fr
      refine ⟨if lo == hi then (ĉs.size, ĉs.size + 1) else (min lo ĉs.size, max hi (ĉs.size + 1)), ?_⟩
      unfold World.freeze putBlk
      rw [if_neg (by decide)]
      congr 1
      apply Array.ext_getElem?
      intro k
      rw [Array.getElem?_modify, Array.getElem?_setIfInBounds]
      by_cases hk : p.blk = k
      · subst hk
        simp only [if_true, hlt, h1]
        rfl
      · simp [hk]
    obtain ⟨fr', hfz⟩ := hfz
    have hlt : p.blk < w.heap.size := (Array.getElem?_eq_some_iff.1 h1).1
    have hnew : Rel G ι (σ.set b (.cells cs .ro)) (putBlk w p.blk (.cells ĉs elem fr')) :=
      hr.swap hp hk (by simpa [Blk.rw] using hrw) _ ⟨ĉs, elem, fr', putBlk_self _ _ _ hlt, h2, h3, h4, h5, (fun h => by cases h), (fun h => by cases h), (fun _ h => by cases h)⟩
    refine .here hnew (Nat.le_refl _) (v' := .slice (some ⟨p.blk, p.base + o, none⟩) n ĉ) ?_ ?_ hK
    · unfold convert
      simp only [Sem.run_bind, hdd, Result.andThen_ok]
      have hsh : (shape p.blk).run C.P w = .ok (some (elem, ĉs.size)) w := by
        show Sem.run C.P (.shape p.blk .pure) w = _
        simp only [Sem.run, World.shape?, h1]
      simp only [run_und hbu, Sem.run_bind, Result.andThen_ok, beq_self_eq_true, markStringish, hsh, run_freeze, hfz, Sem.run_pure]
    · simp only [VRel]
      exact ⟨p, _, ĉ, hp, rfl, hnc, fun _ => rfl, hcr⟩
  · cases h
end
end Go.Proofs.YthpngchngnaloaaGreatDoor.Vm

/-! The operations of the model do what the abstract machine asks: reckoning, comparing. -/
namespace Go.Proofs.YthpngchngnaloaaGreatDoor.Vm
open RowKit (Below)

section
variable {C : Cx} {G : Base} {ι : IM} {σ : AH} {w : World}

theorem intVc_sound {op : BinOp} {k : IntKind} {a b : Int} {K : AV → Prop} {t : TypeId} (h : intVc op k a b K) (hop : op ≠ .shl ∧ op ≠ .shr) :
    ∃ v v', (∀ w, (binOp op t (.int k a) (.int k b)).run C.P w = .ok v' w) ∧ (∀ ι, VRel ι v v') ∧ K v := by
  unfold intVc at h
  split at h
  all_goals try (cases h; done)
  all_goals first
    | (refine ⟨_, _, fun w => ?_, fun ι => by simp only [VRel]; rfl, h⟩; simp [binOp, Op.intArith]; done)
    | (refine ⟨_, _, fun w => ?_, fun ι => by simp only [VRel]; rfl, h⟩; simp only [binOp, ne_eq, not_true_eq_false, if_false, Op.intBits, bitsOf]; rfl)
    | (refine ⟨_, _, fun w => ?_, fun ι => by simp only [VRel]; rfl, h⟩; simp only [binOp, ne_eq, not_true_eq_false, if_false, Op.intCmp]; rfl)
    | (split at h
       · cases h
       · rename_i hb
         refine ⟨_, _, fun w => ?_, fun ι => by simp only [VRel]; rfl, h⟩
         simp only [binOp, ne_eq, not_true_eq_false, if_false, Op.intDiv, hb]; rfl)

theorem strVc_sound {op : BinOp} {a b : List UInt8} {K : AV → Prop} {t : TypeId} (h : strVc op a b K) :
    ∃ v v', (∀ w, (binOp op t (.string ⟨a.toArray⟩) (.string ⟨b.toArray⟩)).run C.P w = .ok v' w) ∧ (∀ ι, VRel ι v v') ∧ K v := by
  have ha : (⟨a.toArray⟩ : ByteArray).toList = a := ByteArray.toList_mk a
  have hb : (⟨b.toArray⟩ : ByteArray).toList = b := ByteArray.toList_mk b
  unfold strVc at h
  split at h
  all_goals try (cases h; done)
  · obtain ⟨hl, h⟩ := h
    refine ⟨_, .string ⟨(a ++ b).toArray⟩, fun w => ?_, fun ι => by simp only [VRel], h⟩
    have e1 : (⟨a.toArray⟩ : ByteArray).size = a.length := by simp [ByteArray.size]
    have e2 : (⟨b.toArray⟩ : ByteArray).size = b.length := by simp [ByteArray.size]
    have e3 : IntKind.i64.max = 9223372036854775807 := by rfl
    simp only [binOp, Op.stringOp, e1, e2, e3]
    rw [if_neg (by omega)]
    simp only [Sem.run_pure]
    congr 2
  all_goals
    refine ⟨_, _, fun w => ?_, fun ι => by simp only [VRel]; rfl, h⟩
    simp only [binOp, Op.stringOp, ha, hb]
    rfl

/-! ### Equality of plain structs -/
theorem eqS_acc : ∀ (ss : List Sh) (as bs : List AV) (r : Bool), eqS ss as bs r = (eqS ss as bs true).map (r && ·)
  | [], [], [], r => by simp [eqS]
  | [], [], _ :: _, r => by simp [eqS]
  | [], _ :: _, _, r => by simp [eqS]
  | _ :: _, [], _, r => by simp [eqS]
  | _ :: _, a :: as, [], r => by simp [eqS]
  | s :: ss, a :: as, b :: bs, r => by
    simp only [eqS]
    cases eq1 s a b with
    | none => rfl
    | some x =>
      simp only
      rw [eqS_acc ss as bs (r && x), eqS_acc ss as bs (true && x)]
      cases eqS ss as bs true <;> simp [Bool.and_assoc]

def shFits (P : Program) (t : TypeId) : Sh → Prop
  | .bool => P.underlying t = some .bool
  | .str => P.underlying t = some .string
  | .int k => P.underlying t = some (.int k)
  | _ => False

theorem eq1_sound {P : Program} {t : TypeId} {s : Sh} {a b : AV} {a' b' : Value} {x : Bool} (ht : shFits P t s)
    (ha : VRel ι a a') (hb : VRel ι b b') (h : eq1 s a b = some x) (d : Nat) (w : World) :
    (Op.equalIn (d + 1) t a' b').run P w = .ok x w ∧ a'.oneCell' = true ∧ b'.oneCell' = true := by
  unfold eq1 at h
  split at h
  · rename_i k0 k n k' m
    simp only [VRel] at ha hb
    subst ha hb
    split at h
    · rename_i hk
      subst hk
      cases h
      exact ⟨by simp [Op.equalIn, run_und ht], rfl, rfl⟩
    · cases h
  · simp only [VRel] at ha hb
    subst ha hb
    cases h
    exact ⟨by simp [Op.equalIn, run_und ht], rfl, rfl⟩
  · simp only [VRel] at ha hb
    subst ha hb
    cases h
    refine ⟨?_, rfl, rfl⟩
    simp only [Op.equalIn, Sem.run_bind, run_und ht, Result.andThen_ok, Sem.run_pure]
    rw [beq_toListBytes, ByteArray.toList_mk, ByteArray.toList_mk]
  · cases h

theorem part_leaf {P : Program} {t : TypeId} {s : Sh} (ht : shFits P t s) (cs : Array Value) (off : Nat) (v : Value) (hv : cs[off]? = some v) (w : World) : (part t cs off).run P w = .ok v w := by
  have : (isAgg t).run P w = .ok false w := by
    unfold isAgg
    cases s <;> simp only [shFits] at ht <;> first | (cases ht; done) | (simp [run_und ht])
  simp [part, this, hv]

theorem eqFields_sound {P : Program} {d : Nat} : ∀ (fs : List Field) (ss : List Sh) (as bs : List AV) (xs ys : Array Value) (i : Nat) (q : Bool) (w : World),
    PlainFields P fs i ss → VRelL ι as (xs.toList.drop i) → VRelL ι bs (ys.toList.drop i) → eqS ss as bs true = some q → (Op.eqFields (d + 1) xs ys fs).run P w = .ok q w
  | [], [], as, bs, xs, ys, i, q, w, hf, ha, hb, h => by
    cases as <;> cases bs <;> simp [eqS] at h
    subst h
    simp [Op.eqFields]
  | [], _ :: _, _, _, _, _, _, _, _, hf, _, _, _ => by simp [PlainFields] at hf
  | _ :: _, [], _, _, _, _, _, _, _, hf, _, _, _ => by simp [PlainFields] at hf
  | f :: fs, s :: ss, as, bs, xs, ys, i, q, w, hf, ha, hb, h => by
    simp only [PlainFields] at hf
    obtain ⟨⟨hoff, hname, hty⟩, hf⟩ := hf
    have hty' : shFits P f.type s := by cases s <;> exact hty
    cases as with
    | nil => simp [eqS] at h
    | cons a as =>
    cases bs with
    | nil => simp [eqS] at h
    | cons b bs =>
    simp only [eqS] at h
    cases he : eq1 s a b with
    | none => rw [he] at h; cases h
    | some x =>
      rw [he] at h
      simp only at h
      rw [eqS_acc] at h
      obtain ⟨q0, h1, h2⟩ := Option.map_eq_some_iff.1 h
      simp only [VRelL] at ha hb
      obtain ⟨a', xr, hxs, har, hxr⟩ := ha
      obtain ⟨b', yr, hys, hbr, hyr⟩ := hb
      have hx0 : xs[i]? = some a' := by
        have := congrArg (fun l => l[0]?) hxs
        simpa [List.getElem?_drop] using this
      have hy0 : ys[i]? = some b' := by
        have := congrArg (fun l => l[0]?) hys
        simpa [List.getElem?_drop] using this
      have hxd : xs.toList.drop (i + 1) = xr := by rw [← List.drop_drop, hxs]; rfl
      have hyd : ys.toList.drop (i + 1) = yr := by rw [← List.drop_drop, hys]; rfl
      obtain ⟨he1, _, _⟩ := eq1_sound hty' har hbr he d w
      have hn : f.name ≠ "_" := by simpa using hname
      simp only [Op.eqFields, hn, ne_eq, not_false_eq_true, if_true, Sem.run_bind, hoff, part_leaf hty' xs i a' hx0, part_leaf hty' ys i b' hy0, Result.andThen_ok, he1]
      have ih := eqFields_sound (d := d) fs ss as bs xs ys (i + 1) q0 w hf (hxd ▸ hxr) (hyd ▸ hyr) h1
      cases x
      · simp only [Bool.not_false, if_true, Sem.run_pure]
        rw [← h2]; simp
      · simp only [Bool.not_true, Bool.false_eq_true, if_false, ih]
        rw [← h2]; simp

theorem plain_struct {t : TypeId} {ti : TI} (hti : C.ti t = some ti) (hp : ti.plain = true) : ∃ F : Array Field, C.P.underlying t = some (.struct F) ∧ C.P.stoodInHeld t = false ∧ C.P.eqGuardType C.P.depth t = false ∧ PlainFields C.P F.toList 0 ti.sh := by
  obtain ⟨h1, h2, h3⟩ := (C.ok t ti hti).plain hp
  split at h3
  · rename_i fs hfs; exact ⟨fs, hfs, h1, h2, h3⟩
  · cases h3

theorem equal_struct {t : TypeId} {ti : TI} (hti : C.ti t = some ti) (hp : ti.plain = true) {as bs : List AV} {xs ys : Array Value} {q : Bool} (ha : VRelL ι as xs.toList) (hb : VRelL ι bs ys.toList) (h : eqS ti.sh as bs true = some q) (d : Nat) (w : World) :
    (Op.equalIn (d + 1 + 1) t (.agg xs) (.agg ys)).run C.P w = .ok q w := by
  obtain ⟨F, h1, h2, h3, h4⟩ := plain_struct hti hp
  have hF : C.P.fieldsOf t = F := by simp [Program.fieldsOf, h1]
  rw [run_equalIn_struct w (d + 1) t xs ys (by rw [hF]; exact h1) h2, hF]
  exact eqFields_sound F.toList ti.sh as bs xs ys 0 q w h4 (by simpa using ha) (by simpa using hb) h

theorem eqVc_sound {t : TypeId} {x y : AV} {x' y' : Value} {K : Bool → Prop} (h : eqVc C t x y K) (hx : VRel ι x x') (hy : VRel ι y y') :
    ∃ r, (∀ d w, (Op.equalIn (d + 1 + 1) t x' y').run C.P w = .ok r w) ∧ K r := by
  unfold eqVc at h
  split at h
  case h_2 => cases h
  rename_i ti hti
  obtain ⟨d, hd, htd, hdP⟩ := C.und hti
  split at h
  · rename_i a b hte
    obtain rfl := td_bool (htd.trans hte)
    simp only [VRel] at hx hy
    subst hx hy
    exact ⟨_, fun d w => by rw [Op.equalIn, Sem.run_bind, hd, Result.andThen_ok]; rfl, h⟩
  · rename_i e b hte
    obtain rfl := td_ptr (htd.trans hte)
    simp only [VRel] at hx
    subst hx
    rcases b with _ | ⟨b, o⟩
    · simp only [VRel] at hy; subst hy
      exact ⟨_, fun d w => by rw [Op.equalIn, Sem.run_bind, hd, Result.andThen_ok]; rfl, h⟩
    · obtain ⟨p, hp, rfl⟩ := vrel_ptr hy
      exact ⟨_, fun d w => by rw [Op.equalIn, Sem.run_bind, hd, Result.andThen_ok]; rfl, h⟩
  · rename_i e b hte
    obtain rfl := td_ptr (htd.trans hte)
    obtain ⟨p, hp, rfl⟩ := vrel_ptr (b := b.1) (o := b.2) hx
    simp only [VRel] at hy
    subst hy
    exact ⟨_, fun d w => by rw [Op.equalIn, Sem.run_bind, hd, Result.andThen_ok]; rfl, h⟩
  · rename_i e n c b n' c' hte
    obtain rfl := td_slice (htd.trans hte)
    simp only [VRel] at hx
    obtain ⟨_, _, rfl⟩ := hx
    obtain ⟨a', ĉ, rfl, _, hnil, hs⟩ := vrel_slice hy
    rcases b with _ | ⟨b, o⟩
    · obtain ⟨rfl, _⟩ := hnil rfl
      exact ⟨_, fun d w => by rw [Op.equalIn, Sem.run_bind, hd, Result.andThen_ok]; rfl, h⟩
    · obtain ⟨p, z, _, rfl, _⟩ := hs b o rfl
      exact ⟨_, fun d w => by rw [Op.equalIn, Sem.run_bind, hd, Result.andThen_ok]; rfl, h⟩
  · rename_i e b n c n' c' hte
    obtain rfl := td_slice (htd.trans hte)
    simp only [VRel] at hy
    obtain ⟨_, _, rfl⟩ := hy
    obtain ⟨a', ĉ, rfl, _, hnil, hs⟩ := vrel_slice hx
    obtain ⟨p, z, _, rfl, _⟩ := hs b.1 b.2 rfl
    exact ⟨_, fun d w => by rw [Op.equalIn, Sem.run_bind, hd, Result.andThen_ok]; rfl, h⟩
  · rename_i k e b hte
    obtain rfl := td_map (htd.trans hte)
    simp only [VRel] at hx
    subst hx
    rcases b with _ | b
    · simp only [VRel] at hy; subst hy
      exact ⟨_, fun d w => by rw [Op.equalIn, Sem.run_bind, hd, Result.andThen_ok]; rfl, h⟩
    · simp only [VRel] at hy; obtain ⟨p, hp, rfl⟩ := hy
      exact ⟨_, fun d w => by rw [Op.equalIn, Sem.run_bind, hd, Result.andThen_ok]; rfl, h⟩
  · rename_i k e b hte
    obtain rfl := td_map (htd.trans hte)
    simp only [VRel] at hx hy
    obtain ⟨p, hp, rfl⟩ := hx
    subst hy
    exact ⟨_, fun d w => by rw [Op.equalIn, Sem.run_bind, hd, Result.andThen_ok]; rfl, h⟩
  · rename_i t' v hte
    obtain ⟨ms, rfl⟩ := td_iface (htd.trans hte)
    simp only [VRel] at hx hy
    subst hx
    obtain ⟨z, rfl, _⟩ := hy
    exact ⟨_, fun d w => by rw [Op.equalIn, Sem.run_bind, hd, Result.andThen_ok]; rfl, h⟩
  · rename_i t' v hte
    obtain ⟨ms, rfl⟩ := td_iface (htd.trans hte)
    simp only [VRel] at hx hy
    obtain ⟨z, rfl, _⟩ := hx
    subst hy
    exact ⟨_, fun d w => by rw [Op.equalIn, Sem.run_bind, hd, Result.andThen_ok]; rfl, h⟩
  · rename_i fs as bs hte
    split at h
    case isFalse => cases h
    rename_i hp
    split at h
    case h_2 => cases h
    rename_i r hr
    obtain ⟨l, rfl, hl⟩ := vrel_agg hx
    obtain ⟨m, rfl, hm⟩ := vrel_agg hy
    exact ⟨r, fun d w => equal_struct hti hp hl hm hr d w, h⟩
  · cases h

theorem ite_self_of {α : Type} {c : Prop} [Decidable c] {x y z : α} (hx : c → x = z) (hy : y = z) : (if c then x else y) = z := by
  split
  · rename_i h; exact hx h
  · exact hy
theorem eqGuard_sound {op : BinOp} {t : TypeId} {x y : AV} {x' y' : Value} {X Y : Operand} {K : Bool → Prop} (h : eqVc C t x y K) (hx : VRel ι x x') (hy : VRel ι y y') (w : World) :
    (eqGuard op t X Y x' y').run C.P w = .ok () w := by
  unfold eqGuard
  rw [Sem.run_ite]
  refine (ite_self_of (fun _ => rfl) ?_)
  unfold eqVc at h
  split at h
  case h_2 => cases h
  rename_i ti hti
  split at h
  case h_10 =>
    rename_i fs as bs hte
    split at h
    case isFalse => cases h
    rename_i hp
    obtain ⟨F, h1, h2, h3, h4⟩ := plain_struct hti hp
    obtain ⟨l, rfl, hl⟩ := vrel_agg hx
    obtain ⟨m, rfl, hm⟩ := vrel_agg hy
    simp [h3]
  case h_11 => cases h
  all_goals
    first
      | (simp only [VRel] at hx hy; subst hx hy; rfl)
      | (obtain ⟨_, _, rfl, _⟩ := vrel_slice hx; rfl)
      | (simp only [VRel] at hx; subst hx; rfl)
      | (simp only [VRel] at hx; obtain ⟨_, _, rfl⟩ := hx; rfl)
      | (simp only [VRel] at hx; obtain ⟨_, rfl, _⟩ := hx; rfl)
      | (simp only [VRel] at hx hy; subst hx; obtain ⟨_, rfl, _⟩ := hy; rfl)
      | (rename_i e b hte; obtain ⟨p, hp, rfl⟩ := vrel_ptr (b := b.1) (o := b.2) hx; rfl)
end
end Go.Proofs.YthpngchngnaloaaGreatDoor.Vm
