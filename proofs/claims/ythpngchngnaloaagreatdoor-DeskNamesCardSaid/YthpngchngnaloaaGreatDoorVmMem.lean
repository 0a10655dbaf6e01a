/- Loads, stores and new blocks: what they do to a world that is as an abstract memory says. -/
import Derived.Test.YthpngchngnaloaaGreatDoorVmVal
import Derived.Laws.Cells
namespace Go.Proofs.YthpngchngnaloaaGreatDoor.Vm
open RowKit (Below)

/-- What fills one cell. -/
def AV.leaf : AV → Bool
  | .any | .agg _ | .tuple _ => false
  | _ => true

theorem AV.leaf_one {ι : IM} {a : AV} {v : Value} (h : a.leaf = true) (hr : VRel ι a v) : v.oneCell' = true := by
  cases a with
  | any => cases h
  | agg cs => cases h
  | tuple cs => cases h
  | ptr a => rcases a with _ | ⟨b, o⟩ <;> simp only [VRel] at hr
             · subst hr; rfl
             · obtain ⟨p, _, rfl⟩ := hr; rfl
  | slice a n c => rcases a with _ | ⟨b, o⟩ <;> simp only [VRel] at hr
                   · obtain ⟨_, _, rfl⟩ := hr; rfl
                   · obtain ⟨p, x, y, _, rfl, _⟩ := hr; rfl
  | map r => rcases r with _ | r <;> simp only [VRel] at hr
             · subst hr; rfl
             · obtain ⟨p, _, rfl⟩ := hr; rfl
  | func f fs cs => simp only [VRel] at hr; obtain ⟨_, _, rfl, _⟩ := hr; rfl
  | iface t x => simp only [VRel] at hr; obtain ⟨_, rfl, _⟩ := hr; rfl
  | yield b => simp only [VRel] at hr; obtain ⟨_, _, rfl⟩ := hr; rfl
  | _ => simp only [VRel] at hr; subst hr; rfl

/-! ### Worlds -/
@[simp] theorem addr_add (b o n : Nat) : (⟨b, o, none⟩ : Addr).add n = ⟨b, o + n, none⟩ := by
  unfold Addr.add; split
  · rename_i h; simp [h]
  · rfl

theorem cell?_of_heap {w : World} {b o : Nat} {c : Array Value} {e : TypeId} {fr : Nat × Nat} (h : w.heap[b]? = some (.cells c e fr)) :
    w.cell? ⟨b, o, none⟩ = c[o]? := by simp [World.cell?, h]
theorem frozen?_of_heap {w : World} {b o : Nat} {c : Array Value} {e : TypeId} {fr : Nat × Nat} (h : w.heap[b]? = some (.cells c e fr)) :
    w.frozen? ⟨b, o, none⟩ = (decide (fr.1 ≤ o) && decide (o < fr.2)) := by
  obtain ⟨lo, hi⟩ := fr
  simp [World.frozen?, h]

/-- One block of a world is another object. -/
def putBlk (w : World) (b : Nat) (o : Obj) : World := { w with heap := w.heap.setIfInBounds b o }
theorem putBlk_heap (w : World) (b : Nat) (o : Obj) (k : Nat) : (putBlk w b o).heap[k]? = if k = b then (if b < w.heap.size then some o else none) else w.heap[k]? := by
  simp only [putBlk, Array.getElem?_setIfInBounds]
  by_cases h : b = k
  · subst h; simp
  · rw [if_neg h, if_neg (Ne.symm h)]
theorem putBlk_self (w : World) (b : Nat) (o : Obj) (h : b < w.heap.size) : (putBlk w b o).heap[b]? = some o := by
  rw [putBlk_heap]; simp [h]
theorem putBlk_other (w : World) (b : Nat) (o : Obj) {k : Nat} (h : k ≠ b) : (putBlk w b o).heap[k]? = w.heap[k]? := by
  rw [putBlk_heap]; simp [h]
theorem putBlk_size (w : World) (b : Nat) (o : Obj) : (putBlk w b o).heap.size = w.heap.size := by simp [putBlk]
theorem putBlk_below {w : World} {N b : Nat} {o : Obj} (h : N ≤ b) : Below N w (putBlk w b o) :=
  ⟨rfl, rfl, rfl, by rw [putBlk_size]; exact Nat.le_refl _, fun k hk => putBlk_other _ _ _ (by omega)⟩

theorem setCell_eq {w : World} {b o : Nat} {c : Array Value} {e : TypeId} {fr : Nat × Nat} (v : Value) (h : w.heap[b]? = some (.cells c e fr)) :
    w.setCell ⟨b, o, none⟩ v = putBlk w b (.cells (c.setIfInBounds o v) e fr) := by
  obtain ⟨hlt, hx⟩ := Array.getElem?_eq_some_iff.1 h
  unfold World.setCell putBlk
  congr 1
  apply Array.ext_getElem?
  intro k
  rw [Array.getElem?_modify, Array.getElem?_setIfInBounds]
  by_cases hk : b = k
  · subst hk
    simp only [if_true, hlt, h]
    rfl
  · simp [hk]

theorem putBlk_putBlk (w : World) (b : Nat) (o o' : Obj) : putBlk (putBlk w b o) b o' = putBlk w b o' := by
  unfold putBlk
  simp [Array.setIfInBounds_setIfInBounds]

/-- Values laid over an array from a place on. -/
def layA (c : Array Value) (o : Nat) : List Value → Array Value
  | [] => c
  | v :: vs => layA (c.setIfInBounds o v) (o + 1) vs
theorem layA_size (vs : List Value) : ∀ (c : Array Value) (o : Nat), (layA c o vs).size = c.size := by
  induction vs with
  | nil => intro c o; rfl
  | cons v vs ih => intro c o; simp [layA, ih]
theorem layA_get (vs : List Value) : ∀ (c : Array Value) (o k : Nat), o + vs.length ≤ c.size →
    (layA c o vs)[k]? = if o ≤ k ∧ k < o + vs.length then vs[k - o]? else c[k]? := by
  induction vs with
  | nil => intro c o k _; simp [layA]; omega
  | cons v vs ih =>
    intro c o k h
    simp only [List.length_cons] at h
    simp only [layA]
    rw [ih _ _ _ (by simp; omega)]
    by_cases h1 : o + 1 ≤ k ∧ k < o + 1 + vs.length
    · rw [if_pos h1, if_pos (by simp only [List.length_cons]; omega)]
      obtain ⟨d, rfl⟩ : ∃ d, k = o + 1 + d := ⟨k - (o + 1), by omega⟩
      rw [show o + 1 + d - (o + 1) = d by omega, show o + 1 + d - o = d + 1 by omega]
      simp
    · rw [if_neg h1]
      by_cases h2 : k = o
      · subst h2
        rw [if_pos (by simp only [List.length_cons]; omega), Nat.sub_self, Array.getElem?_setIfInBounds_self_of_lt (by omega)]
        rfl
      · rw [if_neg (by simp only [List.length_cons]; omega), Array.getElem?_setIfInBounds_ne (Ne.symm h2)]

theorem run_storeCells {P : Program} (b : Nat) (e : TypeId) (fr : Nat × Nat) (o : Nat) : ∀ (vs : List Value) (i : Nat) (c : Array Value) (w : World), w.heap[b]? = some (.cells c e fr) →
    o + i + vs.length ≤ c.size → (∀ v ∈ vs, v.oneCell' = true) → (∀ j, o + i ≤ j → j < o + i + vs.length → ¬ (fr.1 ≤ j ∧ j < fr.2)) →
    (storeCells ⟨b, o, none⟩ vs i).run P w = .ok () (putBlk w b (.cells (layA c (o + i) vs) e fr))
  | [], i, c, w, h, hl, h1, hf => by
    have : putBlk w b (.cells c e fr) = w := by
      unfold putBlk
      obtain ⟨hlt, hx⟩ := Array.getElem?_eq_some_iff.1 h
      rw [show w.heap.setIfInBounds b (.cells c e fr) = w.heap from by
        apply Array.ext_getElem?; intro k; rw [Array.getElem?_setIfInBounds]
        by_cases hk : b = k
        · subst hk; simp [hlt, hx]
        · simp [hk]]
    simp only [storeCells, layA, this]; rfl
  | v :: vs, i, c, w, h, hl, h1, hf => by
    simp only [List.length_cons] at hl
    have hlt : b < w.heap.size := (Array.getElem?_eq_some_iff.1 h).1
    have hc : w.cell? ⟨b, o + i, none⟩ = some c[o + i] := by rw [cell?_of_heap h]; exact Array.getElem?_eq_getElem (by omega)
    have hfr : w.frozen? ⟨b, o + i, none⟩ = false := by
      rw [frozen?_of_heap h]
      have := hf (o + i) (by omega) (by simp only [List.length_cons]; omega)
      simp only [Bool.and_eq_false_iff, decide_eq_false_iff_not]; omega
    simp only [storeCells, addr_add, Sem.run_bind]
    rw [run_store P w _ v _ (h1 v (by simp))]
    simp only [hc, hfr, Bool.false_eq_true, if_false, Result.andThen_ok]
    rw [setCell_eq v h]
    rw [run_storeCells b e fr o vs (i + 1) _ _ (putBlk_self _ _ _ hlt) (by simp; omega) (fun u hu => h1 u (by simp [hu])) (fun j hj hj' => hf j (by omega) (by simp only [List.length_cons]; omega))]
    rw [putBlk_putBlk]
    simp only [layA, Nat.add_assoc]

theorem run_loadRange {P : Program} {w : World} {b o : Nat} {c : Array Value} {e : TypeId} {fr : Nat × Nat} (h : w.heap[b]? = some (.cells c e fr)) (vs : List Value)
    (hv : ∀ (j : Nat) (v : Value), vs[j]? = some v → c[o + j]? = some v) : (loadCells ⟨b, o, none⟩ vs.length).run P w = .ok vs.toArray w :=
  run_loadCells_list w _ vs fun j v hj => by rw [addr_add, cell?_of_heap h]; exact hv j v hj

/-! ### The abstract memory -/
/-- Cells laid over others from a place on. -/
def layL (cs : List AV) (o : Nat) : List AV → List AV
  | [] => cs
  | v :: vs => layL (cs.set o v) (o + 1) vs
theorem layL_length (vs : List AV) : ∀ (cs : List AV) (o : Nat), (layL cs o vs).length = cs.length := by
  induction vs with
  | nil => intro c o; rfl
  | cons v vs ih => intro c o; simp [layL, ih]
theorem layL_get (vs : List AV) : ∀ (c : List AV) (o k : Nat), o + vs.length ≤ c.length →
    (layL c o vs)[k]? = if o ≤ k ∧ k < o + vs.length then vs[k - o]? else c[k]? := by
  induction vs with
  | nil => intro c o k _; simp [layL]; omega
  | cons v vs ih =>
    intro c o k h
    simp only [List.length_cons] at h
    simp only [layL]
    rw [ih _ _ _ (by simp; omega)]
    by_cases h1 : o + 1 ≤ k ∧ k < o + 1 + vs.length
    · rw [if_pos h1, if_pos (by simp only [List.length_cons]; omega)]
      obtain ⟨d, rfl⟩ : ∃ d, k = o + 1 + d := ⟨k - (o + 1), by omega⟩
      rw [show o + 1 + d - (o + 1) = d by omega, show o + 1 + d - o = d + 1 by omega]
      simp
    · rw [if_neg h1]
      by_cases h2 : k = o
      · subst h2
        rw [if_pos (by simp only [List.length_cons]; omega), List.getElem?_set_self (by omega)]
        simp
      · rw [if_neg (by simp only [List.length_cons]; omega), List.getElem?_set_ne (Ne.symm h2)]
theorem layL_eq (vs : List AV) (c : List AV) (o : Nat) (h : o + vs.length ≤ c.length) : layL c o vs = c.take o ++ vs ++ c.drop (o + vs.length) := by
  apply List.ext_getElem?
  intro k
  rw [layL_get _ _ _ _ h]
  by_cases h1 : k < o
  · rw [if_neg (by omega), List.getElem?_append_left (by simp; omega), List.getElem?_append_left (by simp; omega), List.getElem?_take_of_lt h1]
  · by_cases h2 : k < o + vs.length
    · rw [if_pos (by omega), List.getElem?_append_left (by simp; omega), List.getElem?_append_right (by simp; omega)]
      simp [Nat.min_eq_left (show o ≤ c.length by omega)]
    · rw [if_neg (by omega), List.getElem?_append_right (by simp; omega)]
      simp only [List.length_append, List.length_take, Nat.min_eq_left (show o ≤ c.length by omega), List.getElem?_drop]
      congr 1; omega

def AH.range (σ : AH) (b o n : Nat) : Option (List AV) :=
  match σ.get b with
  | some (.cells cs _) => if o + n ≤ cs.length then some ((cs.drop o).take n) else none
  | _ => none
def AH.cell (σ : AH) (b o : Nat) : Option AV :=
  match σ.get b with
  | some (.cells cs _) => cs[o]?
  | _ => none

@[simp] theorem AH.set_get (σ : AH) (b : Nat) (k : Blk) (i : Nat) : (σ.set b k).get i = if i = b then some k else σ.get i := rfl
@[simp] theorem AH.set_next (σ : AH) (b : Nat) (k : Blk) : (σ.set b k).next = σ.next := rfl
@[simp] theorem AH.kill_get (σ : AH) (b i : Nat) : (σ.kill b).get i = if i = b then none else σ.get i := rfl
@[simp] theorem AH.kill_next (σ : AH) (b : Nat) : (σ.kill b).next = σ.next := rfl
@[simp] theorem AH.alloc_get (σ : AH) (k : Blk) (i : Nat) : (σ.alloc k).get i = if i = σ.next then some k else σ.get i := rfl
@[simp] theorem AH.alloc_next (σ : AH) (k : Blk) : (σ.alloc k).next = σ.next + 1 := rfl

theorem BRel.congr {ι : IM} {k : Blk} {p : Place} {w w' : World} (h : BRel ι k p w) (hw : w'.heap[p.blk]? = w.heap[p.blk]?) : BRel ι k p w' := by
  cases k <;> simp only [BRel] at h ⊢ <;> rw [hw] <;> exact h
theorem BRel.mono {ι ι' : IM} (hι : ι.le ι') {k : Blk} {p : Place} {w : World} (h : BRel ι k p w) : BRel ι' k p w := by
  cases k with
  | cells cs own =>
    simp only [BRel] at h ⊢
    obtain ⟨ĉs, elem, fr, h1, h2, h3⟩ := h
    exact ⟨ĉs, elem, fr, h1, VRelL.mono hι _ _ h2, h3⟩
  | map es clock =>
    simp only [BRel] at h ⊢
    obtain ⟨ês, h1, h2⟩ := h
    exact ⟨ês, h1, h2.mono hι⟩
  | siter s pos => exact h
  | miter m since seen last =>
    simp only [BRel] at h ⊢
    obtain ⟨m', h1, h2, h3, h4⟩ := h
    exact ⟨m', h1, h2, h3, fun r hr => by obtain ⟨q, hq, e⟩ := h4 r hr; exact ⟨q, hι _ _ hq, e⟩⟩
  | loop st pe fr ps assign body =>
    simp only [BRel] at h ⊢
    obtain ⟨r, h1, h2, h3, h4, h5⟩ := h
    exact ⟨r, h1, h2, h3, VRelL.mono hι _ _ h4, h5⟩
theorem BRel.there {ι : IM} {k : Blk} {p : Place} {w : World} (h : BRel ι k p w) : ∃ o, w.heap[p.blk]? = some o := by
  cases k <;> simp only [BRel] at h
  · obtain ⟨_, _, _, h, _⟩ := h; exact ⟨_, h⟩
  · obtain ⟨_, h, _⟩ := h; exact ⟨_, h⟩
  · exact ⟨_, h.1⟩
  · obtain ⟨_, h, _⟩ := h; exact ⟨_, h⟩
  · obtain ⟨_, h, _⟩ := h; exact ⟨_, h⟩

section
variable {G : Base} {ι : IM} {σ : AH} {w : World}

theorem Rel.ι_lt (h : Rel G ι σ w) {b : Nat} {p : Place} (hp : ι b = some p) : b < σ.next := by
  rcases Nat.lt_or_ge b σ.next with hb | hb
  · exact hb
  · rw [(h.fresh b hb).1] at hp; cases hp
theorem Rel.get_lt (h : Rel G ι σ w) {b : Nat} {k : Blk} (hk : σ.get b = some k) : b < σ.next := by
  rcases Nat.lt_or_ge b σ.next with hb | hb
  · exact hb
  · rw [(h.fresh b hb).2] at hk; cases hk

/-- A world that differs in nothing that the memory speaks of. -/
theorem Rel.world (h : Rel G ι σ w) {w' : World} (hs : w.heap.size ≤ w'.heap.size) (hb : ∀ k, k < w.heap.size → w'.heap[k]? = w.heap[k]?) (h1 : w'.os = w.os) (h2 : w'.tape = w.tape) (h3 : w'.output = w.output) : Rel G ι σ w' where
  fresh := h.fresh
  live := fun b p k hp hk => (h.live b p k hp hk).congr (hb _ (h.bound b p hp))
  bound := fun b p hp => Nat.lt_of_lt_of_le (h.bound b p hp) hs
  apart := h.apart
  new := h.new
  below := h.below.trans ⟨h1, h2, h3, hs, fun k hk => hb k (Nat.lt_of_lt_of_le hk h.size)⟩
  size := Nat.le_trans h.size hs
  kept := fun D hD => ⟨by
    have h0 := (h.kept D hD).1
    rw [hb D (Array.getElem?_eq_some_iff.1 h0).1]; exact h0, (h.kept D hD).2⟩
theorem Rel.drew (h : Rel G ι σ w) : Rel G ι σ w.drew := h.world (Nat.le_refl _) (fun _ _ => rfl) rfl rfl rfl
theorem Rel.drawn (h : Rel G ι σ w) (n : Nat) : Rel G ι σ { w with drawn := n } := h.world (Nat.le_refl _) (fun _ _ => rfl) rfl rfl rfl
theorem Rel.garbage (h : Rel G ι σ w) (o : Obj) : Rel G ι σ (w.alloc o) :=
  h.world (by simp) (fun k hk => Below.heap_alloc _ _ _ hk) rfl rfl rfl

/-- A new abstract block that lies nowhere yet. -/
theorem Rel.pend (h : Rel G ι σ w) (k : Blk) : Rel G ι (σ.alloc k) w where
  fresh := fun b hb => by
    simp only [AH.alloc_next] at hb
    refine ⟨(h.fresh b (by omega)).1, ?_⟩
    simp only [AH.alloc_get]; rw [if_neg (by omega)]; exact (h.fresh b (by omega)).2
  live := fun b p k' hp hk => by
    have := h.ι_lt hp
    simp only [AH.alloc_get] at hk; rw [if_neg (by omega)] at hk
    exact h.live b p k' hp hk
  bound := h.bound
  apart := fun b p b' p' k1 k2 hne hp hp' hk hk' => by
    have h1 := h.ι_lt hp
    have h2 := h.ι_lt hp'
    simp only [AH.alloc_get] at hk hk'; rw [if_neg (by omega)] at hk hk'
    exact h.apart b p b' p' k1 k2 hne hp hp' hk hk'
  new := fun b p k1 hp hk => by
    have h1 := h.ι_lt hp
    simp only [AH.alloc_get] at hk; rw [if_neg (by omega)] at hk
    exact h.new b p k1 hp hk
  below := h.below
  size := h.size
  kept := h.kept

def IM.put (ι : IM) (b : Nat) (p : Place) : IM := fun i => if i = b then some p else ι i
@[simp] theorem IM.put_self (ι : IM) (b : Nat) (p : Place) : ι.put b p b = some p := by simp [IM.put]
theorem IM.put_ne (ι : IM) {b i : Nat} (p : Place) (h : i ≠ b) : ι.put b p i = ι i := by simp [IM.put, h]
theorem IM.le_put (ι : IM) {b : Nat} (p : Place) (h : ι b = none) : ι.le (ι.put b p) := fun i q hq => by
  have : i ≠ b := fun e => by rw [e, h] at hq; cases hq
  rw [IM.put_ne _ _ this]; exact hq

/-- A pending block is laid in a new block of the world. -/
theorem Rel.place (h : Rel G ι σ w) {b : Nat} {k : Blk} (hb : ι b = none) (hk : σ.get b = some k) (o : Obj) (p : Place) (hp : p.blk = w.heap.size)
    (hr : BRel (ι.put b p) k p (w.alloc o)) : Rel G (ι.put b p) σ (w.alloc o) := by
  have hg := h.garbage o
  have hle := IM.le_put ι p hb
  refine ⟨fun i hi => ?_, fun i q k' hq hk' => ?_, fun i q hq => ?_, fun i q i' q' k1 k2 hne hq hq' hk1 hk2 hrw => ?_, fun i q k1 hq hk1 hrw => ?_, hg.below, hg.size, fun D hD => ⟨(hg.kept D hD).1, fun i q hq => ?_⟩⟩
  · have := h.get_lt hk
    rw [IM.put_ne _ _ (by omega)]; exact h.fresh i hi
  · by_cases e : i = b
    · subst e; rw [IM.put_self] at hq; cases hq; rw [hk] at hk'; cases hk'; exact hr
    · rw [IM.put_ne _ _ e] at hq; exact (hg.live i q k' hq hk').mono hle
  · by_cases e : i = b
    · subst e; rw [IM.put_self] at hq; cases hq; rw [hp]; simp
    · rw [IM.put_ne _ _ e] at hq; exact hg.bound i q hq
  · by_cases e : i = b
    · subst e; rw [IM.put_self] at hq; cases hq
      rw [IM.put_ne _ _ (Ne.symm hne)] at hq'
      have := h.bound i' q' hq'
      omega
    · rw [IM.put_ne _ _ e] at hq
      by_cases e' : i' = b
      · subst e'; rw [IM.put_self] at hq'; cases hq'
        have := h.bound i q hq
        omega
      · rw [IM.put_ne _ _ e'] at hq'; exact h.apart i q i' q' k1 k2 hne hq hq' hk1 hk2 hrw
  · by_cases e : i = b
    · subst e; rw [IM.put_self] at hq; cases hq; rw [hp]; exact h.size
    · rw [IM.put_ne _ _ e] at hq; exact h.new i q k1 hq hk1 hrw
  · by_cases e : i = b
    · subst e; rw [IM.put_self] at hq; cases hq
      have := (Array.getElem?_eq_some_iff.1 (h.kept D hD).1).1
      omega
    · rw [IM.put_ne _ _ e] at hq; exact (h.kept D hD).2 i q hq

/-- A new block, in the memory and in the world. -/
theorem Rel.fresh_block (h : Rel G ι σ w) (k : Blk) (o : Obj) (p : Place) (hp : p.blk = w.heap.size)
    (hr : BRel (ι.put σ.next p) k p (w.alloc o)) : Rel G (ι.put σ.next p) (σ.alloc k) (w.alloc o) :=
  (h.pend k).place ((h.fresh _ (Nat.le_refl _)).1) (by simp) o p hp hr
theorem Ext.put (n : Nat) (ι : IM) {b : Nat} (p : Place) (h : n ≤ b) : Ext n ι (ι.put b p) := fun i hi => IM.put_ne _ _ (by omega)

/-- A block that may be written is another. -/
theorem Rel.swap (h : Rel G ι σ w) {b : Nat} {p : Place} {k k' : Blk} (hp : ι b = some p) (hk : σ.get b = some k) (hrw : k.rw = true) (o : Obj)
    (hr : BRel ι k' p (putBlk w p.blk o)) : Rel G ι (σ.set b k') (putBlk w p.blk o) := by
  have hlt := h.bound b p hp
  refine ⟨fun i hi => ⟨(h.fresh i hi).1, ?_⟩, fun i q k1 hq hk1 => ?_, fun i q hq => by rw [putBlk_size]; exact h.bound i q hq, fun i q i' q' k1 k2 hne hq hq' hk1 hk2 hrw1 => ?_, fun i q k1 hq hk1 hrw1 => ?_, ?_, by rw [putBlk_size]; exact h.size, fun D hD => ⟨(putBlk_other _ _ _ (Ne.symm ((h.kept D hD).2 b p hp))).trans (h.kept D hD).1, (h.kept D hD).2⟩⟩
  · have := h.get_lt hk
    simp only [AH.set_next] at hi
    simp only [AH.set_get]; rw [if_neg (by omega)]; exact (h.fresh i hi).2
  · simp only [AH.set_get] at hk1
    by_cases e : i = b
    · subst e; simp at hk1; subst hk1; rw [hp] at hq; cases hq; exact hr
    · rw [if_neg e] at hk1
      have hne := h.apart b p i q k k1 (Ne.symm e) hp hq hk hk1 hrw
      exact (h.live i q k1 hq hk1).congr (putBlk_other _ _ _ (Ne.symm hne))
  · simp only [AH.set_get] at hk1 hk2
    by_cases e : i = b
    · subst e
      rw [if_neg (Ne.symm hne)] at hk2
      exact h.apart i q i' q' k k2 hne hq hq' hk hk2 hrw
    · rw [if_neg e] at hk1
      by_cases e' : i' = b
      · subst e'; exact h.apart i q i' q' k1 k hne hq hq' hk1 hk hrw1
      · rw [if_neg e'] at hk2; exact h.apart i q i' q' k1 k2 hne hq hq' hk1 hk2 hrw1
  · simp only [AH.set_get] at hk1
    by_cases e : i = b
    · subst e; exact h.new i q k hq hk hrw
    · rw [if_neg e] at hk1; exact h.new i q k1 hq hk1 hrw1
  · exact h.below.trans (putBlk_below (h.new b p k hp hk hrw))

/-- A block is spoken of no more. -/
theorem Rel.kill (h : Rel G ι σ w) (b : Nat) : Rel G ι (σ.kill b) w := by
  have hg : ∀ {i k}, (σ.kill b).get i = some k → σ.get i = some k := fun {i k} hk => by
    simp only [AH.kill_get] at hk
    split at hk
    · cases hk
    · exact hk
  refine ⟨fun i hi => ⟨(h.fresh i hi).1, ?_⟩, fun i q k1 hq hk1 => h.live i q k1 hq (hg hk1), h.bound, fun i q i' q' k1 k2 hne hq hq' hk1 hk2 => h.apart i q i' q' k1 k2 hne hq hq' (hg hk1) (hg hk2), fun i q k1 hq hk1 => h.new i q k1 hq (hg hk1), h.below, h.size, h.kept⟩
  simp only [AH.kill_get]; split
  · rfl
  · exact (h.fresh i hi).2

/-- A block goes on under another name. -/
theorem Rel.rename (h : Rel G ι σ w) {b : Nat} {p : Place} {k : Blk} (hp : ι b = some p) (hk : σ.get b = some k) (hrw : k.rw = true) (k' : Blk) (p' : Place) (hp' : p'.blk = p.blk)
    (hr : BRel (ι.put σ.next p') k' p' w) : Rel G (ι.put σ.next p') ((σ.kill b).alloc k') w := by
  have hb := h.get_lt hk
  have hle := IM.le_put ι p' ((h.fresh _ (Nat.le_refl _)).1)
  have hg : ∀ {i k1}, i ≠ σ.next → ((σ.kill b).alloc k').get i = some k1 → i ≠ b ∧ σ.get i = some k1 := fun {i k1} hi hk1 => by
    have hk2 : (if i = σ.next then some k' else if i = b then none else σ.get i) = some k1 := hk1
    rw [if_neg hi] at hk2
    split at hk2
    · cases hk2
    · rename_i e; exact ⟨e, hk2⟩
  refine ⟨fun i hi => ?_, fun i q k1 hq hk1 => ?_, fun i q hq => ?_, fun i q i' q' k1 k2 hne hq hq' hk1 hk2 hrw1 => ?_, fun i q k1 hq hk1 hrw1 => ?_, h.below, h.size, fun D hD => ⟨(h.kept D hD).1, fun i q hq => ?_⟩⟩
  · simp only [AH.alloc_next, AH.kill_next] at hi
    refine ⟨by rw [IM.put_ne _ _ (by omega)]; exact (h.fresh i (by omega)).1, ?_⟩
    show (if i = σ.next then some k' else if i = b then none else σ.get i) = none
    rw [if_neg (by omega)]; split
    · rfl
    · exact (h.fresh i (by omega)).2
  · by_cases e : i = σ.next
    · subst e; rw [IM.put_self] at hq; cases hq
      simp at hk1; subst hk1; exact hr
    · rw [IM.put_ne _ _ e] at hq
      exact (h.live i q k1 hq (hg e hk1).2).mono hle
  · by_cases e : i = σ.next
    · subst e; rw [IM.put_self] at hq; cases hq; rw [hp']; exact h.bound b p hp
    · rw [IM.put_ne _ _ e] at hq; exact h.bound i q hq
  · by_cases e : i = σ.next
    · subst e; rw [IM.put_self] at hq; cases hq
      rw [IM.put_ne _ _ (Ne.symm hne)] at hq'
      have h2 := hg (Ne.symm hne) hk2
      rw [hp']; exact h.apart b p i' q' k k2 (Ne.symm h2.1) hp hq' hk h2.2 hrw
    · rw [IM.put_ne _ _ e] at hq
      have h1 := hg e hk1
      by_cases e' : i' = σ.next
      · subst e'; rw [IM.put_self] at hq'; cases hq'
        rw [hp']; exact (h.apart b p i q k k1 (Ne.symm h1.1) hp hq hk h1.2 hrw).symm
      · rw [IM.put_ne _ _ e'] at hq'
        exact h.apart i q i' q' k1 k2 hne hq hq' h1.2 (hg e' hk2).2 hrw1
  · by_cases e : i = σ.next
    · subst e; rw [IM.put_self] at hq; cases hq; rw [hp']; exact h.new b p k hp hk hrw
    · rw [IM.put_ne _ _ e] at hq; exact h.new i q k1 hq (hg e hk1).2 hrw1
  · by_cases e : i = σ.next
    · subst e; rw [IM.put_self] at hq; cases hq; rw [hp']; exact (h.kept D hD).2 b p hp
    · rw [IM.put_ne _ _ e] at hq; exact (h.kept D hD).2 i q hq

/-- A block for deferred calls more. -/
theorem Rel.defer (h : Rel G ι σ w) : Rel { G with defs := w.heap.size :: G.defs } ι σ (w.alloc (.deferred (some []))) := by
  have hg := h.garbage (.deferred (some []))
  refine ⟨hg.fresh, hg.live, hg.bound, hg.apart, hg.new, hg.below, hg.size, fun D hD => ?_⟩
  rcases List.mem_cons.1 hD with rfl | hD
  · exact ⟨by show (w.heap.push (.deferred (some [])))[w.heap.size]? = _; rw [Array.getElem?_push_size], fun b p hp => by have := h.bound b p hp; omega⟩
  · exact hg.kept D hD
/-- One of them is shut, and is spoken of no more. -/
theorem Rel.shut (h : Rel G ι σ w) {D : Nat} {r : List Nat} (hD : G.defs = D :: r) (hr : D ∉ r) (hN : G.N ≤ D) : Rel { G with defs := r } ι σ (putBlk w D (.deferred none)) := by
  have hk := h.kept D (by rw [hD]; simp)
  refine ⟨h.fresh, fun i q k1 hq hk1 => (h.live i q k1 hq hk1).congr (putBlk_other _ _ _ (hk.2 i q hq)), fun i q hq => by rw [putBlk_size]; exact h.bound i q hq, h.apart, h.new, h.below.trans (putBlk_below hN), by rw [putBlk_size]; exact h.size, fun D' hD' => ?_⟩
  have h' := h.kept D' (by rw [hD]; simp [show D' ∈ r from hD'])
  have hne : D' ≠ D := fun e => hr (e ▸ hD')
  exact ⟨(putBlk_other _ _ _ hne).trans h'.1, h'.2⟩
end
end Go.Proofs.YthpngchngnaloaaGreatDoor.Vm
