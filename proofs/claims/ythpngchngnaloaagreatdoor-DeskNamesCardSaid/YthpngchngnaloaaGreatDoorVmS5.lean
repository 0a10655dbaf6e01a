/- The operations of the model do what the abstract machine asks: append, copy, clear, cap. -/
import Derived.Test.YthpngchngnaloaaGreatDoorVmS4
namespace Go.Proofs.YthpngchngnaloaaGreatDoor.Vm
open RowKit (Below)

theorem AH.ext' {σ τ : AH} (h : ∀ i, σ.get i = τ.get i) (hn : σ.next = τ.next) : σ = τ := by
  cases σ; cases τ
  simp only at h hn
  subst hn
  congr
  funext i
  exact h i
theorem kill_set (σ : AH) (b : Nat) (k : Blk) : (σ.set b k).kill b = σ.kill b := by
  apply AH.ext'
  · intro i
    simp only [AH.kill_get, AH.set_get]
    split <;> rfl
  · rfl

section
variable {C : Cx} {G : Base} {ι : IM} {σ : AH} {w : World}

theorem old_sound (hr : Rel G ι σ w) {a : Option (Nat × Nat)} {n sz : Nat} {c : Cp} {s' : Value} {old : List AV} (hs : VRel ι (.slice a n c) s') (ho : rd σ a (n * sz) = some old) (hsz : sz ≠ 0) :
    ∃ os, old.length = n * sz ∧ VRelL ι old os ∧ ∀ P d, (Builtin.firstCells sz n s').run P { w with drawn := d } = .ok (List.toArray os) { w with drawn := d } := by
  obtain ⟨a', ĉ, rfl, hn, hnil, hsm⟩ := vrel_slice hs
  have hrd := fun d => rd_sound (hr.drawn d) ho (a' := a') (fun h0 b o hbo => by
    obtain ⟨p, z, hp, rfl, hz, _⟩ := hsm b o hbo
    have : n ≠ 0 := fun e => h0 (by rw [e, Nat.zero_mul])
    exact ⟨p, hp, by rw [hz (by omega)]⟩)
  by_cases h0 : n = 0
  · subst h0
    rcases hrd 0 with ⟨hl, _⟩
    rw [Nat.zero_mul] at hl
    have := List.length_eq_zero_iff.1 hl
    subst this
    refine ⟨[], by simp, .nil, fun P d => ?_⟩
    cases a' <;> simp [Builtin.firstCells, loadCells, loadCellsFrom]
  · have hne : n * sz ≠ 0 := Nat.mul_ne_zero h0 hsz
    rcases hrd 0 with ⟨hl, ⟨h1, _⟩ | ⟨z, us, rfl, hul, hur, hrun⟩⟩
    · exact absurd h1 hne
    · refine ⟨us, hl, hur, fun P d => ?_⟩
      have h2 := hrun P
      simp only [Builtin.firstCells]
      -- the reads hang on the heap alone
      rcases hrd d with ⟨_, ⟨h1, _⟩ | ⟨z', us', e, hul', hur', hrun'⟩⟩
      · exact absurd h1 hne
      · cases e
        have h3 := hrun' P
        have h4 : us' = us := by
          have : ∀ (P : Program) (x : Addr) (n : Nat) (vs : List Value) (d d' : Nat), (loadCells x n).run P { w with drawn := d } = .ok vs.toArray { w with drawn := d } → (loadCells x n).run P { w with drawn := d' } = .ok vs.toArray { w with drawn := d' } := by
            intro P x n vs d d' h
            have key : ∀ (n i : Nat) (acc : Array Value) (r : Array Value), (loadCellsFrom x i n acc).run P { w with drawn := d } = .ok r { w with drawn := d } → (loadCellsFrom x i n acc).run P { w with drawn := d' } = .ok r { w with drawn := d' } := by
              intro n
              induction n with
              | zero => intro i acc r h; simp only [loadCellsFrom, Sem.run_pure, Result.ok.injEq] at h ⊢; exact ⟨h.1, trivial⟩
              | succ n ih =>
                intro i acc r h
                simp only [loadCellsFrom, Sem.run_bind, run_load] at h ⊢
                have e1 : World.cell? { w with drawn := d } (x.add i) = World.cell? { w with drawn := d' } (x.add i) := rfl
                rw [e1] at h
                cases hc : World.cell? { w with drawn := d' } (x.add i) with
                | some v => rw [hc] at h; simp only [Result.andThen_ok] at h ⊢; exact ih _ _ _ h
                | none =>
                  rw [hc] at h
                  simp only at h ⊢
                  cases hf : World.farLoad P { w with drawn := d } (x.add i) (Mode.plain == Mode.atomic) with
                  | error e => rw [hf] at h; simp at h
                  | ok q =>
                    have e2 : World.farLoad P { w with drawn := d' } (x.add i) (Mode.plain == Mode.atomic) = World.farLoad P { w with drawn := d } (x.add i) (Mode.plain == Mode.atomic) := rfl
                    rw [e2, hf]
                    rw [hf] at h
                    cases q
                    simp only [Result.andThen_ok] at h ⊢
                    exact ih _ _ _ h
            exact key _ _ _ _ h
          have h5 := this P z (n * sz) us 0 d h2
          rw [h3] at h5
          simp only [Result.ok.injEq, and_true] at h5
          simpa using h5
        rw [h4] at h3
        exact h3

theorem appVc_sound (hr : Rel G ι σ w) {e : TypeId} {y : TI} (hy : C.ti e = some y) (hys : y.size ≠ 0) (hyb : y.bytes ≠ 0) {a : Option (Nat × Nat)} {n m : Nat} {c : Cp} {a' : Option Addr} {ĉ : Nat} {zeros : Bool} {x : Value}
    {appended : Sem (Array Value)} {new : List AV} {us : List Value} {K : AV → AH → Prop} (h : appVc y.size y.bytes a n c m new σ K) (hs : VRel ι (.slice a n c) (.slice a' n ĉ))
    (happ : ∀ d, appended.run C.P { w with drawn := d } = .ok us.toArray { w with drawn := d }) (hn : VRelL ι new us) (hnl : new.length = m * y.size) (hln : leaves new = true) :
    Gives G ι σ C.P w (appendTail e y.size a' n ĉ m zeros x (.slice a' n ĉ) appended) K := by
  have happ0 : appended.run C.P w = .ok us.toArray w := happ w.drawn
  obtain ⟨_, _, he, hnc, hnil, hsm⟩ := vrel_slice hs
  cases he
  unfold appVc at h
  split at h
  · rename_i hm0
    subst hm0
    have hus : us = [] := List.length_eq_zero_iff.1 (by rw [hn.length, hnl]; simp)
    subst hus
    refine .same hr (v' := .slice a' n ĉ) ?_ hs h
    unfold appendTail
    rw [if_pos (by omega)]
    simp only [Sem.run_bind, happ0, Result.andThen_ok]
    cases a' <;> simp [storeCells]
  rename_i hm0
  obtain ⟨hb, h⟩ := h
  split at h
  · -- nil
    obtain ⟨rfl, rfl, rfl, rfl⟩ := hnil rfl
    obtain ⟨newCap, ι', w', h1, h2, rfl, h4⟩ := append_grow (C := C) hr hy hys hyb (base := none) (n := 0) (cap := 0) (m := m) zeros x (.slice none 0 0) (old := []) (os := []) (by omega) hb happ
      (fun d => by simp [Builtin.firstCells]) .nil hn (by simp) hnl rfl hln
    refine ⟨_, _, _, _, w', h1, h4, Ext.put _ _ _ (Nat.le_refl _), by simp, ?_, h⟩
    simp only [VRel, Nat.zero_add]
    exact ⟨_, _, newCap, IM.put_self _ _ _, rfl, by omega, fun _ => by simp, by simp [capRel]⟩
  · -- the capacity is known
    rename_i b o cc
    obtain ⟨p, z, hp, rfl, hz, hcr⟩ := hsm b o rfl
    simp only [capRel] at hcr
    subst hcr
    split at h
    · rename_i hfit
      obtain ⟨cs, own, hk, hrw, ho, hK⟩ := h
      obtain rfl := hz (by omega)
      obtain ⟨w', hrun, hr'⟩ := put_sound hr hp hk hrw ho hn hln
      refine .here (v' := .slice (some ⟨p.blk, p.base + o, none⟩) (n + m) ĉ) hr' (Nat.le_refl _) ?_ ?_ hK
      · unfold appendTail
        rw [if_pos hfit]
        simp only [Sem.run_bind, happ0, Result.andThen_ok, addr_add, Nat.add_assoc] at hrun ⊢
        simp only [hrun, Result.andThen_ok, Sem.run_pure]
      · simp only [VRel]
        exact ⟨p, _, ĉ, hp, rfl, hfit, fun _ => rfl, rfl⟩
    · rename_i hfit
      obtain ⟨old, h1, h2, hK⟩ := h
      obtain ⟨os, hol, hor, hrun⟩ := old_sound hr hs h1 hys
      obtain ⟨newCap, ι', w', h3, h4, rfl, h5⟩ := append_grow (C := C) hr hy hys hyb (base := some z) (n := n) (cap := ĉ) (m := m) zeros x (.slice (some z) n ĉ) hfit hb happ (hrun _) hor hn hol hnl h2 hln
      refine ⟨_, _, _, _, w', h3, h5, Ext.put _ _ _ (Nat.le_refl _), by simp, ?_, hK⟩
      simp only [VRel]
      exact ⟨_, _, newCap, IM.put_self _ _ _, rfl, h4, fun _ => by simp, by simp [capRel]⟩
  · -- the slice reaches to its block's end
    rename_i b o
    obtain ⟨p, z, hp, rfl, hz, hcr⟩ := hsm b o rfl
    simp only [capRel] at hcr
    obtain ⟨cs, own, hk, hosz, ho, h⟩ := h
    have hrw : own.rw = true := by cases own <;> simp_all [Own.sz, Own.rw]
    obtain ⟨ĉs, elem, fr, g1, g2, g3, g4, g5, g6, g7, g8⟩ := hr.cells hp hk
    have hpsz := g8 _ hosz
    have hyp : 0 < y.size := Nat.pos_of_ne_zero hys
    split at h
    · rename_i hfit
      have hfit' : n + m ≤ ĉ := by
        have h1 : (n + m) * y.size ≤ ĉ * y.size := by rw [hpsz] at hcr; omega
        exact Nat.le_of_mul_le_mul_right h1 hyp
      obtain rfl := hz (by omega)
      obtain ⟨w', hrun, hr'⟩ := put_sound hr hp hk hrw (o := o + n * y.size) (by rw [hnl, Nat.add_mul] at *; omega) hn hln
      refine .here (v' := .slice (some ⟨p.blk, p.base + o, none⟩) (n + m) ĉ) hr' (Nat.le_refl _) ?_ ?_ h
      · unfold appendTail
        rw [if_pos hfit']
        simp only [Sem.run_bind, happ0, Result.andThen_ok, addr_add, Nat.add_assoc] at hrun ⊢
        simp only [hrun, Result.andThen_ok, Sem.run_pure]
      · simp only [VRel]
        exact ⟨p, _, ĉ, hp, rfl, hfit', fun _ => rfl, hcr⟩
    · rename_i hfit
      obtain ⟨hlo, h⟩ := h
      have hold : rd σ (some (b, o)) (n * y.size) = some ((cs.drop o).take (n * y.size)) := by
        unfold rd
        split
        · rename_i h0; rw [h0]; simp
        · simp only [AH.range, hk]; rw [if_pos ho]
      obtain ⟨os, hol, hor, hrun⟩ := old_sound hr hs hold hys
      split at h
      · rename_i hfull
        have hnf : ¬ n + m ≤ ĉ := by
          intro h1
          have h2 : (n + m) * y.size ≤ ĉ * y.size := Nat.mul_le_mul_right _ h1
          rw [hpsz] at hcr
          rw [g7 hfull] at hfit
          omega
        obtain ⟨newCap, ι', w', h3, h4, rfl, h5⟩ := append_grow (C := C) hr hy hys hyb (base := some z) (n := n) (cap := ĉ) (m := m) zeros x (.slice (some z) n ĉ) hnf hb happ (hrun _) hor hn hol hnl hlo hln
        refine ⟨_, _, _, _, w', h3, h5, Ext.put _ _ _ (Nat.le_refl _), by simp, ?_, h⟩
        simp only [VRel]
        exact ⟨_, _, newCap, IM.put_self _ _ _, rfl, h4, fun _ => by simp, by simp [capRel]⟩
      · rename_i hfull
        by_cases hin : n + m ≤ ĉ
        · -- in place
          obtain rfl := hz (by omega)
          have hlt := hr.bound b p hp
          have hul := hn.length
          have hmul : (n + m) * y.size ≤ ĉ * y.size := Nat.mul_le_mul_right _ hin
          have hadd : (n + m) * y.size = n * y.size + m * y.size := Nat.add_mul _ _ _
          rw [hpsz] at hcr
          have hst := run_storeCells (P := C.P) p.blk elem fr (p.base + (o + n * y.size)) us 0 ĉs w g1 (by omega) (hn.one hln) (fun j hj hj' => g6 hrw j (by omega) (by omega))
          rw [Nat.add_zero] at hst
          have hsw := hr.swap hp hk (by simpa [Blk.rw] using hrw) (k' := .cells (cs.take (o + n * y.size)) (.grow y.size)) (.cells (layA ĉs (p.base + (o + n * y.size)) us) elem fr) (by
            refine ⟨_, _, _, putBlk_self _ _ _ hlt, ?_, by simp; omega, by rw [layA_size]; exact g4, ?_, fun _ => g6 hrw, fun h => (by cases h), fun s hs => by cases hs; exact hpsz⟩
            · refine .of_get (by simp [layA_size]; omega) fun i a v ha hv' => ?_
              have hi : i < o + n * y.size := by have := (List.getElem?_eq_some_iff.1 ha).1; simp at this; omega
              rw [List.getElem?_take_of_lt hi] at ha
              rw [List.getElem?_take_of_lt (by simp; omega), List.getElem?_drop, layA_toList_get _ _ _ _ (by omega), if_neg (by omega)] at hv'
              obtain ⟨u, hu, hur⟩ := g2.get ha
              rw [List.getElem?_take_of_lt (by omega), List.getElem?_drop] at hu
              rw [hu] at hv'; cases hv'; exact hur
            · intro v hv'
              obtain ⟨i, hi⟩ := List.mem_iff_getElem?.1 hv'
              rw [List.getElem?_take] at hi
              split at hi
              case isFalse => cases hi
              rename_i hl
              rw [List.getElem?_drop, layA_toList_get _ _ _ _ (by omega)] at hi
              split at hi
              · exact hn.one hln v (List.mem_of_getElem? hi)
              · refine g5 v (List.mem_iff_getElem?.2 ⟨i, ?_⟩)
                rw [List.getElem?_take_of_lt hl, List.getElem?_drop]; exact hi)
          have hren := hsw.rename hp (k := .cells (cs.take (o + n * y.size)) (.grow y.size)) (by simp) rfl (.cells ((cs.drop o).take (n * y.size) ++ new) (.grow y.size)) ⟨p.blk, p.base + o, p.lim - o, y.size⟩ rfl (by
            have hle := IM.le_put ι ⟨p.blk, p.base + o, p.lim - o, y.size⟩ ((hr.fresh _ (Nat.le_refl _)).1)
            have hlen : ((cs.drop o).take (n * y.size) ++ new).length = n * y.size + m * y.size := by simp [hnl]; omega
            refine ⟨_, _, _, putBlk_self _ _ _ hlt, ?_, by rw [hlen]; simp only; omega, by rw [layA_size]; simp only; omega, ?_, fun _ j hj hj' => g6 hrw j (by simp only at hj; omega) (by simp only at hj'; omega), fun h => (by cases h), fun s hs => by cases hs; rfl⟩
            · refine VRelL.mono hle _ _ (.of_get (by rw [hlen]; simp [layA_size]; omega) fun i a v ha hv' => ?_)
              have hi : i < n * y.size + m * y.size := by have := (List.getElem?_eq_some_iff.1 ha).1; rwa [hlen] at this
              rw [List.getElem?_take_of_lt (by rw [hlen]; exact hi), List.getElem?_drop, layA_toList_get _ _ _ _ (by omega)] at hv'
              by_cases hi2 : i < n * y.size
              · rw [List.getElem?_append_left (by simp; omega), List.getElem?_take_of_lt hi2, List.getElem?_drop] at ha
                rw [if_neg (by simp only; omega)] at hv'
                obtain ⟨u, hu, hur⟩ := g2.get ha
                rw [List.getElem?_take_of_lt (by omega), List.getElem?_drop] at hu
                rw [show p.base + o + i = p.base + (o + i) by omega, hu] at hv'; cases hv'; exact hur
              · rw [List.getElem?_append_right (by simp; omega)] at ha
                rw [if_pos (by simp only; omega)] at hv'
                have e1 : ((cs.drop o).take (n * y.size)).length = n * y.size := by simp; omega
                rw [e1] at ha
                obtain ⟨u, hu, hur⟩ := hn.get ha
                rw [show p.base + o + i - (p.base + (o + n * y.size)) = i - n * y.size by omega, hu] at hv'; cases hv'; exact hur
            · intro v hv'
              obtain ⟨i, hi⟩ := List.mem_iff_getElem?.1 hv'
              rw [List.getElem?_take] at hi
              split at hi
              case isFalse => cases hi
              rename_i hl
              simp only at hl
              rw [List.getElem?_drop, layA_toList_get _ _ _ _ (by omega)] at hi
              split at hi
              · exact hn.one hln v (List.mem_of_getElem? hi)
              · refine g5 v (List.mem_iff_getElem?.2 ⟨o + i, ?_⟩)
                rw [List.getElem?_take_of_lt (by omega), List.getElem?_drop, ← Nat.add_assoc]; exact hi)
          rw [kill_set] at hren
          refine ⟨_, .slice (some ⟨p.blk, p.base + o, none⟩) (n + m) ĉ, _, _, _, ?_, hren, Ext.put _ _ _ (Nat.le_refl _), by simp, ?_, h⟩
          · unfold appendTail
            rw [if_pos hin]
            simp only [Sem.run_bind, happ0, Result.andThen_ok, addr_add, Nat.add_assoc] at hst ⊢
            simp only [hst, Result.andThen_ok, Sem.run_pure]
          · simp only [VRel]
            refine ⟨_, _, ĉ, IM.put_self _ _ _, rfl, hin, fun _ => by simp, ?_⟩
            simp only [capRel]
            omega
        · obtain ⟨newCap, ι', w', h3, h4, rfl, h5⟩ := append_grow (C := C) (hr.kill b) hy hys hyb (base := some z) (n := n) (cap := ĉ) (m := m) zeros x (.slice (some z) n ĉ) hin hb happ (hrun _) hor hn hol hnl hlo hln
          refine ⟨_, _, _, _, w', h3, h5, Ext.put _ _ _ (Nat.le_refl _), by simp, ?_, h⟩
          simp only [VRel]
          exact ⟨_, _, newCap, IM.put_self _ _ _, rfl, h4, fun _ => by simp, by simp [capRel]⟩
  · cases h
end
end Go.Proofs.YthpngchngnaloaaGreatDoor.Vm
