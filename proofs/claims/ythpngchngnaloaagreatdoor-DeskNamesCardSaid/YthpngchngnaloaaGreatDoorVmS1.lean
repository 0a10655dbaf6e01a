/- The operations of the model do what the abstract machine asks: types, loads, stores, aggregates. -/
import Derived.Test.YthpngchngnaloaaGreatDoorVmOp
namespace Go.Proofs.YthpngchngnaloaaGreatDoor.Vm
open RowKit (Below)

section
variable {C : Cx} {G : Base} {ι : IM} {σ : AH} {w : World}

theorem run_und {P : Program} {t : TypeId} {d : TypeDesc} (h : P.underlying t = some d) (w : World) : (underlying t).run P w = .ok d w := by
  unfold underlying; simp [h]
theorem run_info {P : Program} {t : TypeId} {i : TypeInfo} (h : P.info? t = some i) (w : World) : (typeInfo t).run P w = .ok i w := by
  unfold typeInfo; simp [h]

theorem Cx.und (C : Cx) {t : TypeId} {ti : TI} (h : C.ti t = some ti) : ∃ d, (∀ w, (underlying t).run C.P w = .ok d w) ∧ tdOf d = ti.d ∧ C.P.underlying t = some d := by
  obtain ⟨d, h1, h2⟩ := (C.ok t ti h).und
  exact ⟨d, run_und h1, h2, h1⟩
theorem Cx.size (C : Cx) {t : TypeId} {ti : TI} (h : C.ti t = some ti) (w : World) : (sizeOf t).run C.P w = .ok ti.size w := by
  obtain ⟨i, h1, h2, _⟩ := (C.ok t ti h).info
  unfold sizeOf; simp [run_info h1, h2]
theorem Cx.bytes (C : Cx) {t : TypeId} {ti : TI} (h : C.ti t = some ti) : ∃ i, (∀ w, (typeInfo t).run C.P w = .ok i w) ∧ i.bytes = ti.bytes ∧ i.size = ti.size := by
  obtain ⟨i, h1, h2, h3, _⟩ := (C.ok t ti h).info
  exact ⟨i, run_info h1, h3, h2⟩
theorem Cx.zero (C : Cx) {t : TypeId} {ti : TI} (h : C.ti t = some ti) : ∃ z, (∀ w, (zeroValue t).run C.P w = .ok z w) ∧ ofVs z.cells.toList = ti.zero ∧ z.cells.size = ti.size ∧ (∀ v, v ∈ z.cells → v.oneCell' = true) := by
  obtain ⟨i, h1, _, _, z, h4, h5, h6, h7, _⟩ := (C.ok t ti h).info
  refine ⟨z, fun w => ?_, h5, h6, h7⟩
  unfold zeroValue; simp [run_info h1, h4]
theorem Cx.zeroAV (C : Cx) (ι : IM) {t : TypeId} {ti : TI} (h : C.ti t = some ti) : ∃ z, (∀ w, (zeroValue t).run C.P w = .ok z w) ∧ VRel ι (Vm.zeroAV ti) z := by
  obtain ⟨i, h1, _, _, z, h4, _, _, _, h8⟩ := (C.ok t ti h).info
  refine ⟨z, fun w => ?_, h8 ▸ ofV_rel ι z⟩
  unfold zeroValue; simp [run_info h1, h4]
theorem Cx.isAgg (C : Cx) {t : TypeId} {ti : TI} (h : C.ti t = some ti) (w : World) : (isAgg t).run C.P w = .ok ti.d.isAgg w := by
  obtain ⟨d, h1, h2, _⟩ := C.und h
  unfold Go.isAgg
  simp only [Sem.run_bind, h1, Result.andThen_ok]
  rw [← h2]
  cases d <;> simp [tdOf, TD.isAgg]
theorem ofVs_length : ∀ l : List Value, (ofVs l).length = l.length
  | [] => rfl
  | v :: l => by simp [ofVs, ofVs_length l]
theorem ofVs_append : ∀ l m : List Value, ofVs (l ++ m) = ofVs l ++ ofVs m
  | [], m => rfl
  | v :: l, m => by simp [ofVs, ofVs_append l m]

/-! ### What a type is -/
theorem td_int {d : TypeDesc} {k : IntKind} (h : tdOf d = .int k) : d = .int k := by cases d <;> simp_all [tdOf]
theorem td_bool {d : TypeDesc} (h : tdOf d = .bool) : d = .bool := by cases d <;> simp_all [tdOf]
theorem td_str {d : TypeDesc} (h : tdOf d = .str) : d = .string := by cases d <;> simp_all [tdOf]
theorem td_ptr {d : TypeDesc} {e : TypeId} (h : tdOf d = .ptr e) : d = .pointer e := by cases d <;> simp_all [tdOf]
theorem td_slice {d : TypeDesc} {e : TypeId} (h : tdOf d = .slice e) : d = .slice e := by cases d <;> simp_all [tdOf]
theorem td_map {d : TypeDesc} {k e : TypeId} (h : tdOf d = .map k e) : d = .map k e := by cases d <;> simp_all [tdOf]
theorem td_array {d : TypeDesc} {n : Nat} {e : TypeId} (h : tdOf d = .array n e) : d = .array n e := by cases d <;> simp_all [tdOf]
theorem td_struct {d : TypeDesc} {fs : List (Nat × TypeId)} (h : tdOf d = .struct fs) : ∃ F, d = .struct F ∧ F.toList.map (fun f => (f.offset, f.type)) = fs := by
  cases d <;> simp_all [tdOf]
theorem td_iface {d : TypeDesc} (h : tdOf d = .iface) : ∃ ms, d = .interface ms := by cases d <;> simp_all [tdOf]

/-! ### Reading -/
theorem Rel.cells (h : Rel G ι σ w) {b : Nat} {p : Place} {cs : List AV} {own : Own} (hp : ι b = some p) (hk : σ.get b = some (.cells cs own)) :
    ∃ ĉs elem fr, w.heap[p.blk]? = some (.cells ĉs elem fr) ∧ VRelL ι cs ((ĉs.toList.drop p.base).take cs.length) ∧
      cs.length ≤ p.lim ∧ p.base + p.lim ≤ ĉs.size ∧ (∀ v, v ∈ (ĉs.toList.drop p.base).take p.lim → v.oneCell' = true) ∧
      (own.rw = true → (∀ j, p.base ≤ j → j < p.base + p.lim → ¬ (fr.1 ≤ j ∧ j < fr.2))) ∧ (own.full = true → cs.length = p.lim) ∧ (∀ s, own.sz = some s → p.sz = s) :=
  h.live b p _ hp hk

theorem range_some {b o n : Nat} {vs : List AV} (h : σ.range b o n = some vs) : ∃ cs own, σ.get b = some (.cells cs own) ∧ o + n ≤ cs.length ∧ vs = (cs.drop o).take n := by
  unfold AH.range at h
  split at h
  · rename_i cs own hk
    split at h
    · rename_i hl; cases h; exact ⟨cs, own, hk, hl, rfl⟩
    · cases h
  · cases h
theorem cell_some {b o : Nat} {v : AV} (h : σ.cell b o = some v) : ∃ cs own, σ.get b = some (.cells cs own) ∧ cs[o]? = some v := by
  unfold AH.cell at h
  split at h
  · rename_i cs own hk; exact ⟨cs, own, hk, h⟩
  · cases h
theorem range_length {b o n : Nat} {vs : List AV} (h : σ.range b o n = some vs) : vs.length = n := by
  obtain ⟨cs, own, _, hl, rfl⟩ := range_some h; simp; omega

/-- A range of the memory, read in the world. -/
theorem load_range (h : Rel G ι σ w) {b o n : Nat} {p : Place} {vs : List AV} (hp : ι b = some p) (hv : σ.range b o n = some vs) :
    ∃ us : List Value, us.length = n ∧ VRelL ι vs us ∧ (∀ u ∈ us, u.oneCell' = true) ∧ ∀ P : Program, (loadCells ⟨p.blk, p.base + o, none⟩ n).run P w = .ok us.toArray w := by
  obtain ⟨cs, own, hk, hl, rfl⟩ := range_some hv
  obtain ⟨ĉs, elem, fr, h1, h2, h3, h4, h5, _⟩ := h.cells hp hk
  have h6 := (h2.drop o).take n
  refine ⟨_, ?_, h6, ?_, ?_⟩
  · rw [h6.length]; simp; omega
  · intro u hu
    refine h5 u ?_
    have hu1 := List.mem_of_mem_drop (List.mem_of_mem_take hu)
    rw [List.mem_iff_getElem?] at hu1 ⊢
    obtain ⟨i, hi⟩ := hu1
    rw [List.getElem?_take] at hi
    split at hi
    · rename_i hlt
      exact ⟨i, by rw [List.getElem?_take_of_lt (by omega)]; exact hi⟩
    · cases hi
  · intro P
    have hlen : ((((ĉs.toList.drop p.base).take cs.length).drop o).take n).length = n := by rw [h6.length]; simp; omega
    have := run_loadRange (P := P) h1 (o := p.base + o) ((((ĉs.toList.drop p.base).take cs.length).drop o).take n) (fun j v hj => by
      have hjn : j < n := by rw [← hlen]; exact (List.getElem?_eq_some_iff.1 hj).1
      rw [List.getElem?_take_of_lt hjn, List.getElem?_drop, List.getElem?_take_of_lt (by omega), List.getElem?_drop] at hj
      rw [← Array.getElem?_toList, Nat.add_assoc]; exact hj)
    rw [hlen] at this
    exact this
theorem load_cell (h : Rel G ι σ w) {b o : Nat} {p : Place} {v : AV} (hp : ι b = some p) (hv : σ.cell b o = some v) :
    ∃ u : Value, VRel ι v u ∧ ∀ P : Program, (load ⟨p.blk, p.base + o, none⟩).run P w = .ok u w := by
  obtain ⟨cs, own, hk, hc⟩ := cell_some hv
  obtain ⟨ĉs, elem, fr, h1, h2, h3, h4, h5, _⟩ := h.cells hp hk
  obtain ⟨u, hu, hr⟩ := h2.get hc
  refine ⟨u, hr, fun P => ?_⟩
  have ho : o < cs.length := (List.getElem?_eq_some_iff.1 hc).1
  rw [List.getElem?_take_of_lt ho, List.getElem?_drop] at hu
  rw [run_load, cell?_of_heap h1, ← Array.getElem?_toList, hu]

theorem cell_range {b o n : Nat} {vs : List AV} (h : σ.range b o n = some vs) (i : Nat) (hi : i < n) : σ.cell b (o + i) = vs[i]? := by
  obtain ⟨cs, own, hk, hl, rfl⟩ := range_some h
  unfold AH.cell; rw [hk]; simp only
  rw [List.getElem?_take_of_lt hi, List.getElem?_drop]

theorem ldsK_imp {b : Nat} : ∀ {ss : List Sh} {o : Nat} {K : List AV → Prop}, ldsK σ b o ss K → ∃ vs, vs.length = ss.length ∧ (∀ (i : Nat) (v : AV), vs[i]? = some v → σ.cell b (o + i) = some v) ∧ K vs
  | [], o, K, h => ⟨[], rfl, fun i v hv => by simp at hv, h⟩
  | s :: ss, o, K, h => by
    obtain ⟨v, hv, h⟩ := ldK_imp h
    obtain ⟨vs, hl, hc, hK⟩ := ldsK_imp h
    refine ⟨v :: vs, by simp [hl], fun i u hu => ?_, hK⟩
    cases i with
    | zero => simp at hu; subst hu; exact hv
    | succ i => simp at hu; rw [show o + (i + 1) = o + 1 + i by omega]; exact hc i u hu

theorem atP_some {a : Option (Nat × Nat)} {K : Nat → Nat → Prop} (h : atP a K) : ∃ b o, a = some (b, o) ∧ K b o := by
  unfold atP at h
  split at h
  · exact ⟨_, _, rfl, h⟩
  · cases h
theorem vrel_ptr {b o : Nat} {v : Value} (h : VRel ι (.ptr (some (b, o))) v) : ∃ p, ι b = some p ∧ v = .pointer (some ⟨p.blk, p.base + o, none⟩) := by
  simpa only [VRel] using h

theorem loadVc_sound {t : TypeId} {x : AV} {x' : Value} {K : AV → Prop} (h : loadVc C t x σ K) (hr : Rel G ι σ w) (hx : VRel ι x x') :
    ∃ v v', (Instr.loadAt t x').run C.P w = .ok v' w ∧ VRel ι v v' ∧ K v := by
  unfold loadVc at h
  split at h
  case h_2 => cases h
  rename_i a ti hti
  split at h
  · rename_i hagg
    obtain ⟨b, o, rfl, hs, h⟩ := atP_some h
    obtain ⟨p, hp, rfl⟩ := vrel_ptr hx
    obtain ⟨vs, hl, hc, hK⟩ := ldsK_imp h
    split at hK
    case isFalse => cases hK
    rename_i hlen
    obtain ⟨rs, hrs⟩ := Option.isSome_iff_exists.1 hs
    have he : rs = vs := by
      apply List.ext_getElem?
      intro i
      by_cases hi : i < ti.size
      · rw [← cell_range hrs i hi]
        obtain ⟨v, hv⟩ : ∃ v, vs[i]? = some v := ⟨vs[i]'(by omega), List.getElem?_eq_getElem (by omega)⟩
        rw [hv, hc i v hv]
      · rw [List.getElem?_eq_none (by rw [range_length hrs]; omega), List.getElem?_eq_none (by omega)]
    subst he
    obtain ⟨us, hul, hur, _, hrun⟩ := load_range hr hp hrs
    refine ⟨_, .agg us.toArray, ?_, ?_, hK⟩
    · simp only [Instr.loadAt, Instr.sureAddr, loadVar, Sem.run_bind, Sem.run_pure, Result.andThen_ok, C.isAgg hti, hagg, if_true, C.size hti, hrun]
    · simp only [VRel]; exact ⟨us, rfl, hur⟩
  · rename_i hagg
    split at h
    case h_2 => cases h
    rename_i s hs
    obtain ⟨b, o, rfl, h⟩ := atP_some h
    obtain ⟨p, hp, rfl⟩ := vrel_ptr hx
    obtain ⟨v, hv, hK⟩ := ldK_imp h
    obtain ⟨u, hu, hrun⟩ := load_cell hr hp hv
    refine ⟨v, u, ?_, hu, hK⟩
    simp only [Instr.loadAt, Instr.sureAddr, loadVar, Sem.run_bind, Sem.run_pure, Result.andThen_ok, C.isAgg hti, hagg, Bool.false_eq_true, if_false]
    exact hrun _

/-! ### Storing -/
theorem VRelL.one {ι : IM} {vs : List AV} {us : List Value} (h : VRelL ι vs us) (hl : leaves vs = true) : ∀ u ∈ us, u.oneCell' = true := by
  intro u hu
  obtain ⟨i, hi⟩ := List.mem_iff_getElem?.1 hu
  obtain ⟨a, ha, hr⟩ := h.get' hi
  exact AV.leaf_one (List.all_eq_true.1 hl a (List.mem_of_getElem? ha)) hr

theorem layA_toList_get (ĉs : Array Value) (o : Nat) (us : List Value) (k : Nat) (h : o + us.length ≤ ĉs.size) :
    (layA ĉs o us).toList[k]? = if o ≤ k ∧ k < o + us.length then us[k - o]? else ĉs.toList[k]? := by
  rw [Array.getElem?_toList, layA_get _ _ _ _ h]
  split
  · rfl
  · rw [Array.getElem?_toList]

/-- The block behind cells that were laid into it. -/
theorem BRel.lay {ι : IM} {cs : List AV} {own : Own} {p : Place} {b o : Nat} {vs : List AV} {us : List Value} {ĉs : Array Value} {elem : TypeId} {fr : Nat × Nat}
    (hr : Rel G ι σ w) (hp : ι b = some p) (hk : σ.get b = some (.cells cs own)) (hh : w.heap[p.blk]? = some (.cells ĉs elem fr)) (hv : VRelL ι vs us) (hl : leaves vs = true) (ho : o + vs.length ≤ cs.length) :
    BRel ι (.cells (layL cs o vs) own) p (putBlk w p.blk (.cells (layA ĉs (p.base + o) us) elem fr)) := by
  obtain ⟨ĉs', elem', fr', h1, h2, h3, h4, h5, h6, h7, h8⟩ := hr.cells hp hk
  rw [hh] at h1; cases h1
  have hlen := hv.length
  have hb : p.base + o + us.length ≤ ĉs.size := by omega
  refine ⟨_, _, _, putBlk_self _ _ _ (hr.bound b p hp), ?_, by rw [layL_length]; exact h3, by rw [layA_size]; exact h4, ?_, h6, fun hf => by rw [layL_length]; exact h7 hf, h8⟩
  · rw [layL_length]
    refine .of_get (by simp [layL_length, layA_size]; omega) fun i a v ha hv' => ?_
    have hi : i < cs.length := by have := (List.getElem?_eq_some_iff.1 ha).1; rwa [layL_length] at this
    rw [List.getElem?_take_of_lt hi, List.getElem?_drop, layA_toList_get _ _ _ _ hb] at hv'
    rw [layL_get _ _ _ _ ho] at ha
    by_cases hin : o ≤ i ∧ i < o + vs.length
    · rw [if_pos hin] at ha
      rw [if_pos (by omega), show p.base + i - (p.base + o) = i - o by omega] at hv'
      obtain ⟨u, hu, hur⟩ := hv.get ha
      rw [hu] at hv'; cases hv'; exact hur
    · rw [if_neg hin] at ha
      rw [if_neg (by omega)] at hv'
      obtain ⟨u, hu, hur⟩ := h2.get ha
      rw [List.getElem?_take_of_lt hi, List.getElem?_drop] at hu
      rw [hu] at hv'; cases hv'; exact hur
  · intro v hv'
    obtain ⟨i, hi⟩ := List.mem_iff_getElem?.1 hv'
    rw [List.getElem?_take] at hi
    split at hi
    case isFalse => cases hi
    rename_i hlt
    rw [List.getElem?_drop, layA_toList_get _ _ _ _ hb] at hi
    split at hi
    · exact hv.one hl v (List.mem_of_getElem? hi)
    · refine h5 v (List.mem_iff_getElem?.2 ⟨i, ?_⟩)
      rw [List.getElem?_take_of_lt hlt, List.getElem?_drop]; exact hi

theorem put_sound {b o : Nat} {vs : List AV} {us : List Value} {p : Place} {cs : List AV} {own : Own} (hr : Rel G ι σ w) (hp : ι b = some p)
    (hk : σ.get b = some (.cells cs own)) (hrw : own.rw = true) (ho : o + vs.length ≤ cs.length) (hv : VRelL ι vs us) (hl : leaves vs = true) :
    ∃ w', (∀ P : Program, (storeCells ⟨p.blk, p.base + o, none⟩ us).run P w = .ok () w') ∧ Rel G ι (σ.set b (.cells (layL cs o vs) own)) w' := by
  obtain ⟨ĉs, elem, fr, h1, h2, h3, h4, h5, h6, h7, h8⟩ := hr.cells hp hk
  have hlen := hv.length
  refine ⟨putBlk w p.blk (.cells (layA ĉs (p.base + o) us) elem fr), fun P => ?_, ?_⟩
  · have := run_storeCells (P := P) p.blk elem fr (p.base + o) us 0 ĉs w h1 (by omega) (hv.one hl) (fun j hj hj' => h6 hrw j (by omega) (by omega))
    simpa using this
  · exact hr.swap hp hk (by simpa [Blk.rw] using hrw) _ (BRel.lay hr hp hk h1 hv hl ho)

theorem cells_rel {v : AV} {v' : Value} (h : VRel ι v v') (hl : leaves v.cells = true) : VRelL ι v.cells v'.cells.toList := by
  cases v with
  | agg cs =>
    simp only [VRel] at h
    obtain ⟨l, rfl, hr⟩ := h
    exact hr
  | _ =>
    have h1 : v'.oneCell' = true := AV.leaf_one (by simpa [leaves, AV.cells] using hl) h
    have h2 : v'.cells = #[v'] := by cases v' <;> simp_all [Value.cells, Value.oneCell']
    rw [h2]
    exact .cons h .nil

theorem storeVc_sound {t : TypeId} {x v : AV} {x' v' : Value} {K : AH → Prop} (h : storeVc C t x v σ K) (hr : Rel G ι σ w) (hx : VRel ι x x') (hv : VRel ι v v') :
    ∃ σ' w', (Instr.storeAt t x' v').run C.P w = .ok () w' ∧ Rel G ι σ' w' ∧ σ'.next = σ.next ∧ K σ' := by
  unfold storeVc at h
  split at h
  case h_2 => cases h
  rename_i a ti hti
  split at h
  case isFalse => cases h
  rename_i hl
  split at h
  case isFalse => cases h
  rename_i hlen
  obtain ⟨b, o, rfl, cs, own, hk, hrw, ho, hK⟩ := atP_some h
  obtain ⟨p, hp, rfl⟩ := vrel_ptr hx
  have hc := cells_rel hv hl
  obtain ⟨w', hrun, hr'⟩ := put_sound hr hp hk hrw ho hc hl
  refine ⟨_, w', ?_, hr', rfl, hK⟩
  have hs : v'.cells.size = ti.size := by rw [← Array.length_toList, hc.length, hlen]
  simp only [Instr.storeAt, Instr.sureAddr, storeVar, Sem.run_bind, Sem.run_pure, Result.andThen_ok, C.size hti, hs, ne_eq, not_true_eq_false, if_false]
  exact hrun _

theorem alloc_new (w : World) (o : Obj) : (w.alloc o).heap[w.heap.size]? = some o := by
  show (w.heap.push o)[w.heap.size]? = some o
  simp
/-- A new row of cells. -/
theorem new_cells (hr : Rel G ι σ w) (vs : List AV) (us : List Value) (own : Own) (e : TypeId) (sz : Nat) (rest : List Value) (frz : Nat × Nat) (hv : VRelL ι vs us) (hl : leaves vs = true)
    (hrest : ∀ u ∈ rest, u.oneCell' = true) (hfull : own.full = true → rest = []) (hsz : ∀ s, own.sz = some s → sz = s) (hfrz : own.rw = true → ∀ j, j < us.length + rest.length → ¬ (frz.1 ≤ j ∧ j < frz.2)) :
    Rel G (ι.put σ.next ⟨w.heap.size, 0, us.length + rest.length, sz⟩) (σ.alloc (.cells vs own)) (w.alloc (.cells (us ++ rest).toArray e frz)) := by
  have hle := IM.le_put ι ⟨w.heap.size, 0, us.length + rest.length, sz⟩ ((hr.fresh _ (Nat.le_refl _)).1)
  refine hr.fresh_block _ _ _ rfl ?_
  refine ⟨(us ++ rest).toArray, e, frz, alloc_new w _, ?_, ?_, by simp, ?_, fun h j _ hj => hfrz h j (by simpa using hj), fun h => ?_, hsz⟩
  · simp only [List.drop_zero]
    rw [← hv.length, List.take_left]
    exact VRelL.mono hle _ _ hv
  · rw [← hv.length]; simp
  · intro v hm
    have := List.mem_of_mem_take hm
    simp only [List.drop_zero, List.mem_append] at this
    rcases this with h | h
    · exact hv.one hl v h
    · exact hrest v h
  · rw [hfull h, ← hv.length]; simp
end
end Go.Proofs.YthpngchngnaloaaGreatDoor.Vm
