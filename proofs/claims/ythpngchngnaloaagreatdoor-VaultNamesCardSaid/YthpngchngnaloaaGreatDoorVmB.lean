/- The operations of the model do what the abstract machine asks: types, loads, stores, aggregates. -/
import Derived.Test.YthpngchngnaloaaGreatDoorVmA
import Derived.Lib.Strings
namespace Go.Proofs.YthpngchngnaloaaGreatDoor.Vm
open RowKit (Below)

section
variable {C : Cx} {G : Base} {ι : IM} {σ : AH} {w : World}

theorem run_und {P : Program} {t : TypeId} {d : TypeDesc} (h : P.underlying t = some d) (w : World) : (underlying t).run P w = .ok d w := by
  unfold underlying; simp [h]
theorem run_info {P : Program} {t : TypeId} {i : TypeInfo} (h : P.info? t = some i) (w : World) : (typeInfo t).run P w = .ok i w := by
  unfold typeInfo; simp [h]

theorem Cx.und (C : Cx) {t : TypeId} {ti : TI} (h : C.ti t = some ti) : ∃ d, (∀ w, (underlying t).run C.P w = .ok d w) ∧ tdOf d = ti.d ∧ C.P.underlying t = some d := by
  obtain ⟨d, h1, h2⟩ := (C.ok t ti h).und
  exact ⟨d, run_und h1, h2, h1⟩
theorem Cx.size (C : Cx) {t : TypeId} {ti : TI} (h : C.ti t = some ti) (w : World) : (sizeOf t).run C.P w = .ok ti.size w := by
  obtain ⟨i, h1, h2, _⟩ := (C.ok t ti h).info
  unfold sizeOf; simp [run_info h1, h2]
theorem Cx.bytes (C : Cx) {t : TypeId} {ti : TI} (h : C.ti t = some ti) : ∃ i, (∀ w, (typeInfo t).run C.P w = .ok i w) ∧ i.bytes = ti.bytes ∧ i.size = ti.size := by
  obtain ⟨i, h1, h2, h3, _⟩ := (C.ok t ti h).info
  exact ⟨i, run_info h1, h3, h2⟩
theorem Cx.zero (C : Cx) {t : TypeId} {ti : TI} (h : C.ti t = some ti) : ∃ z, (∀ w, (zeroValue t).run C.P w = .ok z w) ∧ ofVs z.cells.toList = ti.zero ∧ z.cells.size = ti.size ∧ (∀ v, v ∈ z.cells → v.oneCell' = true) := by
  obtain ⟨i, h1, _, _, z, h4, h5, h6, h7, _⟩ := (C.ok t ti h).info
  refine ⟨z, fun w => ?_, h5, h6, h7⟩
  unfold zeroValue; simp [run_info h1, h4]
theorem Cx.zeroAV (C : Cx) (ι : IM) {t : TypeId} {ti : TI} (h : C.ti t = some ti) : ∃ z, (∀ w, (zeroValue t).run C.P w = .ok z w) ∧ VRel ι (Vm.zeroAV ti) z := by
  obtain ⟨i, h1, _, _, z, h4, _, _, _, h8⟩ := (C.ok t ti h).info
  refine ⟨z, fun w => ?_, h8 ▸ ofV_rel ι z⟩
  unfold zeroValue; simp [run_info h1, h4]
theorem Cx.isAgg (C : Cx) {t : TypeId} {ti : TI} (h : C.ti t = some ti) (w : World) : (isAgg t).run C.P w = .ok ti.d.isAgg w := by
  obtain ⟨d, h1, h2, _⟩ := C.und h
  unfold Go.isAgg
  simp only [Sem.run_bind, h1, Result.andThen_ok]
  rw [← h2]
  cases d <;> simp [tdOf, TD.isAgg]
theorem ofVs_length : ∀ l : List Value, (ofVs l).length = l.length
  | [] => rfl
  | v :: l => by simp [ofVs, ofVs_length l]
theorem ofVs_append : ∀ l m : List Value, ofVs (l ++ m) = ofVs l ++ ofVs m
  | [], m => rfl
  | v :: l, m => by simp [ofVs, ofVs_append l m]

/-! ### What a type is -/
theorem td_int {d : TypeDesc} {k : IntKind} (h : tdOf d = .int k) : d = .int k := by cases d <;> simp_all [tdOf]
theorem td_bool {d : TypeDesc} (h : tdOf d = .bool) : d = .bool := by cases d <;> simp_all [tdOf]
theorem td_str {d : TypeDesc} (h : tdOf d = .str) : d = .string := by cases d <;> simp_all [tdOf]
theorem td_ptr {d : TypeDesc} {e : TypeId} (h : tdOf d = .ptr e) : d = .pointer e := by cases d <;> simp_all [tdOf]
theorem td_slice {d : TypeDesc} {e : TypeId} (h : tdOf d = .slice e) : d = .slice e := by cases d <;> simp_all [tdOf]
theorem td_map {d : TypeDesc} {k e : TypeId} (h : tdOf d = .map k e) : d = .map k e := by cases d <;> simp_all [tdOf]
theorem td_array {d : TypeDesc} {n : Nat} {e : TypeId} (h : tdOf d = .array n e) : d = .array n e := by cases d <;> simp_all [tdOf]
theorem td_struct {d : TypeDesc} {fs : List (Nat × TypeId)} (h : tdOf d = .struct fs) : ∃ F, d = .struct F ∧ F.toList.map (fun f => (f.offset, f.type)) = fs := by
  cases d <;> simp_all [tdOf]
theorem td_iface {d : TypeDesc} (h : tdOf d = .iface) : ∃ ms, d = .interface ms := by cases d <;> simp_all [tdOf]

/-! ### Reading -/
theorem Rel.cells (h : Rel G ι σ w) {b : Nat} {p : Place} {cs : List AV} {own : Own} (hp : ι b = some p) (hk : σ.get b = some (.cells cs own)) :
    ∃ ĉs elem fr, w.heap[p.blk]? = some (.cells ĉs elem fr) ∧ VRelL ι cs ((ĉs.toList.drop p.base).take cs.length) ∧
      cs.length ≤ p.lim ∧ p.base + p.lim ≤ ĉs.size ∧ (∀ v, v ∈ (ĉs.toList.drop p.base).take p.lim → v.oneCell' = true) ∧
      (own.rw = true → (∀ j, p.base ≤ j → j < p.base + p.lim → ¬ (fr.1 ≤ j ∧ j < fr.2))) ∧ (own.full = true → cs.length = p.lim) ∧ (∀ s, own.sz = some s → p.sz = s) :=
  h.live b p _ hp hk

theorem range_some {b o n : Nat} {vs : List AV} (h : σ.range b o n = some vs) : ∃ cs own, σ.get b = some (.cells cs own) ∧ o + n ≤ cs.length ∧ vs = (cs.drop o).take n := by
  unfold AH.range at h
  split at h
  · rename_i cs own hk
    split at h
    · rename_i hl; cases h; exact ⟨cs, own, hk, hl, rfl⟩
    · cases h
  · cases h
theorem cell_some {b o : Nat} {v : AV} (h : σ.cell b o = some v) : ∃ cs own, σ.get b = some (.cells cs own) ∧ cs[o]? = some v := by
  unfold AH.cell at h
  split at h
  · rename_i cs own hk; exact ⟨cs, own, hk, h⟩
  · cases h
theorem range_length {b o n : Nat} {vs : List AV} (h : σ.range b o n = some vs) : vs.length = n := by
  obtain ⟨cs, own, _, hl, rfl⟩ := range_some h; simp; omega

/-- A range of the memory, read in the world. -/
theorem load_range (h : Rel G ι σ w) {b o n : Nat} {p : Place} {vs : List AV} (hp : ι b = some p) (hv : σ.range b o n = some vs) :
    ∃ us : List Value, us.length = n ∧ VRelL ι vs us ∧ (∀ u ∈ us, u.oneCell' = true) ∧ ∀ P : Program, (loadCells ⟨p.blk, p.base + o, none⟩ n).run P w = .ok us.toArray w := by
  obtain ⟨cs, own, hk, hl, rfl⟩ := range_some hv
  obtain ⟨ĉs, elem, fr, h1, h2, h3, h4, h5, _⟩ := h.cells hp hk
  have h6 := (h2.drop o).take n
  refine ⟨_, ?_, h6, ?_, ?_⟩
  · rw [h6.length]; simp; omega
  · intro u hu
    refine h5 u ?_
    have hu1 := List.mem_of_mem_drop (List.mem_of_mem_take hu)
    rw [List.mem_iff_getElem?] at hu1 ⊢
    obtain ⟨i, hi⟩ := hu1
    rw [List.getElem?_take] at hi
    split at hi
    · rename_i hlt
      exact ⟨i, by rw [List.getElem?_take_of_lt (by omega)]; exact hi⟩
    · cases hi
  · intro P
    have hlen : ((((ĉs.toList.drop p.base).take cs.length).drop o).take n).length = n := by rw [h6.length]; simp; omega
    have := run_loadRange (P := P) h1 (o := p.base + o) ((((ĉs.toList.drop p.base).take cs.length).drop o).take n) (fun j v hj => by
      have hjn : j < n := by rw [← hlen]; exact (List.getElem?_eq_some_iff.1 hj).1
      rw [List.getElem?_take_of_lt hjn, List.getElem?_drop, List.getElem?_take_of_lt (by omega), List.getElem?_drop] at hj
      rw [← Array.getElem?_toList, Nat.add_assoc]; exact hj)
    rw [hlen] at this
    exact this
theorem load_cell (h : Rel G ι σ w) {b o : Nat} {p : Place} {v : AV} (hp : ι b = some p) (hv : σ.cell b o = some v) :
    ∃ u : Value, VRel ι v u ∧ ∀ P : Program, (load ⟨p.blk, p.base + o, none⟩).run P w = .ok u w := by
  obtain ⟨cs, own, hk, hc⟩ := cell_some hv
  obtain ⟨ĉs, elem, fr, h1, h2, h3, h4, h5, _⟩ := h.cells hp hk
  obtain ⟨u, hu, hr⟩ := h2.get hc
  refine ⟨u, hr, fun P => ?_⟩
  have ho : o < cs.length := (List.getElem?_eq_some_iff.1 hc).1
  rw [List.getElem?_take_of_lt ho, List.getElem?_drop] at hu
  rw [run_load, cell?_of_heap h1, ← Array.getElem?_toList, hu]

theorem cell_range {b o n : Nat} {vs : List AV} (h : σ.range b o n = some vs) (i : Nat) (hi : i < n) : σ.cell b (o + i) = vs[i]? := by
  obtain ⟨cs, own, hk, hl, rfl⟩ := range_some h
  unfold AH.cell; rw [hk]; simp only
  rw [List.getElem?_take_of_lt hi, List.getElem?_drop]

theorem ldsK_imp {b : Nat} : ∀ {ss : List Sh} {o : Nat} {K : List AV → Prop}, ldsK σ b o ss K → ∃ vs, vs.length = ss.length ∧ (∀ (i : Nat) (v : AV), vs[i]? = some v → σ.cell b (o + i) = some v) ∧ K vs
  | [], o, K, h => ⟨[], rfl, fun i v hv => by simp at hv, h⟩
  | s :: ss, o, K, h => by
    obtain ⟨v, hv, h⟩ := ldK_imp h
    obtain ⟨vs, hl, hc, hK⟩ := ldsK_imp h
    refine ⟨v :: vs, by simp [hl], fun i u hu => ?_, hK⟩
    cases i with
    | zero => simp at hu; subst hu; exact hv
    | succ i => simp at hu; rw [show o + (i + 1) = o + 1 + i by omega]; exact hc i u hu

theorem atP_some {a : Option (Nat × Nat)} {K : Nat → Nat → Prop} (h : atP a K) : ∃ b o, a = some (b, o) ∧ K b o := by
  unfold atP at h
  split at h
  · exact ⟨_, _, rfl, h⟩
  · cases h
theorem vrel_ptr {b o : Nat} {v : Value} (h : VRel ι (.ptr (some (b, o))) v) : ∃ p, ι b = some p ∧ v = .pointer (some ⟨p.blk, p.base + o, none⟩) := by
  simpa only [VRel] using h

theorem loadVc_sound {t : TypeId} {x : AV} {x' : Value} {K : AV → Prop} (h : loadVc C t x σ K) (hr : Rel G ι σ w) (hx : VRel ι x x') :
    ∃ v v', (Instr.loadAt t x').run C.P w = .ok v' w ∧ VRel ι v v' ∧ K v := by
  unfold loadVc at h
  split at h
  case h_2 => cases h
  rename_i a ti hti
  split at h
  · rename_i hagg
    obtain ⟨b, o, rfl, hs, h⟩ := atP_some h
    obtain ⟨p, hp, rfl⟩ := vrel_ptr hx
    obtain ⟨vs, hl, hc, hK⟩ := ldsK_imp h
    split at hK
    case isFalse => cases hK
    rename_i hlen
    obtain ⟨rs, hrs⟩ := Option.isSome_iff_exists.1 hs
    have he : rs = vs := by
      apply List.ext_getElem?
      intro i
      by_cases hi : i < ti.size
      · rw [← cell_range hrs i hi]
        obtain ⟨v, hv⟩ : ∃ v, vs[i]? = some v := ⟨vs[i]'(by omega), List.getElem?_eq_getElem (by omega)⟩
        rw [hv, hc i v hv]
      · rw [List.getElem?_eq_none (by rw [range_length hrs]; omega), List.getElem?_eq_none (by omega)]
    subst he
    obtain ⟨us, hul, hur, _, hrun⟩ := load_range hr hp hrs
    refine ⟨_, .agg us.toArray, ?_, ?_, hK⟩
    · simp only [Instr.loadAt, Instr.sureAddr, loadVar, Sem.run_bind, Sem.run_pure, Result.andThen_ok, C.isAgg hti, hagg, if_true, C.size hti, hrun]
    · simp only [VRel]; exact ⟨us, rfl, hur⟩
  · rename_i hagg
    split at h
    case h_2 => cases h
    rename_i s hs
    obtain ⟨b, o, rfl, h⟩ := atP_some h
    obtain ⟨p, hp, rfl⟩ := vrel_ptr hx
    obtain ⟨v, hv, hK⟩ := ldK_imp h
    obtain ⟨u, hu, hrun⟩ := load_cell hr hp hv
    refine ⟨v, u, ?_, hu, hK⟩
    simp only [Instr.loadAt, Instr.sureAddr, loadVar, Sem.run_bind, Sem.run_pure, Result.andThen_ok, C.isAgg hti, hagg, Bool.false_eq_true, if_false]
    exact hrun _

/-! ### Storing -/
theorem VRelL.one {ι : IM} {vs : List AV} {us : List Value} (h : VRelL ι vs us) (hl : leaves vs = true) : ∀ u ∈ us, u.oneCell' = true := by
  intro u hu
  obtain ⟨i, hi⟩ := List.mem_iff_getElem?.1 hu
  obtain ⟨a, ha, hr⟩ := h.get' hi
  exact AV.leaf_one (List.all_eq_true.1 hl a (List.mem_of_getElem? ha)) hr

theorem layA_toList_get (ĉs : Array Value) (o : Nat) (us : List Value) (k : Nat) (h : o + us.length ≤ ĉs.size) :
    (layA ĉs o us).toList[k]? = if o ≤ k ∧ k < o + us.length then us[k - o]? else ĉs.toList[k]? := by
  rw [Array.getElem?_toList, layA_get _ _ _ _ h]
  split
  · rfl
  · rw [Array.getElem?_toList]

/-- The block behind cells that were laid into it. -/
theorem BRel.lay {ι : IM} {cs : List AV} {own : Own} {p : Place} {b o : Nat} {vs : List AV} {us : List Value} {ĉs : Array Value} {elem : TypeId} {fr : Nat × Nat}
    (hr : Rel G ι σ w) (hp : ι b = some p) (hk : σ.get b = some (.cells cs own)) (hh : w.heap[p.blk]? = some (.cells ĉs elem fr)) (hv : VRelL ι vs us) (hl : leaves vs = true) (ho : o + vs.length ≤ cs.length) :
    BRel ι (.cells (layL cs o vs) own) p (putBlk w p.blk (.cells (layA ĉs (p.base + o) us) elem fr)) := by
  obtain ⟨ĉs', elem', fr', h1, h2, h3, h4, h5, h6, h7, h8⟩ := hr.cells hp hk
  rw [hh] at h1; cases h1
  have hlen := hv.length
  have hb : p.base + o + us.length ≤ ĉs.size := by omega
  refine ⟨_, _, _, putBlk_self _ _ _ (hr.bound b p hp), ?_, by rw [layL_length]; exact h3, by rw [layA_size]; exact h4, ?_, h6, fun hf => by rw [layL_length]; exact h7 hf, h8⟩
  · rw [layL_length]
    refine .of_get (by simp [layL_length, layA_size]; omega) fun i a v ha hv' => ?_
    have hi : i < cs.length := by have := (List.getElem?_eq_some_iff.1 ha).1; rwa [layL_length] at this
    rw [List.getElem?_take_of_lt hi, List.getElem?_drop, layA_toList_get _ _ _ _ hb] at hv'
    rw [layL_get _ _ _ _ ho] at ha
    by_cases hin : o ≤ i ∧ i < o + vs.length
    · rw [if_pos hin] at ha
      rw [if_pos (by omega), show p.base + i - (p.base + o) = i - o by omega] at hv'
      obtain ⟨u, hu, hur⟩ := hv.get ha
      rw [hu] at hv'; cases hv'; exact hur
    · rw [if_neg hin] at ha
      rw [if_neg (by omega)] at hv'
      obtain ⟨u, hu, hur⟩ := h2.get ha
      rw [List.getElem?_take_of_lt hi, List.getElem?_drop] at hu
      rw [hu] at hv'; cases hv'; exact hur
  · intro v hv'
    obtain ⟨i, hi⟩ := List.mem_iff_getElem?.1 hv'
    rw [List.getElem?_take] at hi
    split at hi
    case isFalse => cases hi
    rename_i hlt
    rw [List.getElem?_drop, layA_toList_get _ _ _ _ hb] at hi
    split at hi
    · exact hv.one hl v (List.mem_of_getElem? hi)
    · refine h5 v (List.mem_iff_getElem?.2 ⟨i, ?_⟩)
      rw [List.getElem?_take_of_lt hlt, List.getElem?_drop]; exact hi

theorem put_sound {b o : Nat} {vs : List AV} {us : List Value} {p : Place} {cs : List AV} {own : Own} (hr : Rel G ι σ w) (hp : ι b = some p)
    (hk : σ.get b = some (.cells cs own)) (hrw : own.rw = true) (ho : o + vs.length ≤ cs.length) (hv : VRelL ι vs us) (hl : leaves vs = true) :
    ∃ w', (∀ P : Program, (storeCells ⟨p.blk, p.base + o, none⟩ us).run P w = .ok () w') ∧ Rel G ι (σ.set b (.cells (layL cs o vs) own)) w' := by
  obtain ⟨ĉs, elem, fr, h1, h2, h3, h4, h5, h6, h7, h8⟩ := hr.cells hp hk
  have hlen := hv.length
  refine ⟨putBlk w p.blk (.cells (layA ĉs (p.base + o) us) elem fr), fun P => ?_, ?_⟩
  · have := run_storeCells (P := P) p.blk elem fr (p.base + o) us 0 ĉs w h1 (by omega) (hv.one hl) (fun j hj hj' => h6 hrw j (by omega) (by omega))
    simpa using this
  · exact hr.swap hp hk (by simpa [Blk.rw] using hrw) _ (BRel.lay hr hp hk h1 hv hl ho)

theorem cells_rel {v : AV} {v' : Value} (h : VRel ι v v') (hl : leaves v.cells = true) : VRelL ι v.cells v'.cells.toList := by
  cases v with
  | agg cs =>
    simp only [VRel] at h
    obtain ⟨l, rfl, hr⟩ := h
    exact hr
  | _ =>
    have h1 : v'.oneCell' = true := AV.leaf_one (by simpa [leaves, AV.cells] using hl) h
    have h2 : v'.cells = #[v'] := by cases v' <;> simp_all [Value.cells, Value.oneCell']
    rw [h2]
    exact .cons h .nil

theorem storeVc_sound {t : TypeId} {x v : AV} {x' v' : Value} {K : AH → Prop} (h : storeVc C t x v σ K) (hr : Rel G ι σ w) (hx : VRel ι x x') (hv : VRel ι v v') :
    ∃ σ' w', (Instr.storeAt t x' v').run C.P w = .ok () w' ∧ Rel G ι σ' w' ∧ σ'.next = σ.next ∧ K σ' := by
  unfold storeVc at h
  split at h
  case h_2 => cases h
  rename_i a ti hti
  split at h
  case isFalse => cases h
  rename_i hl
  split at h
  case isFalse => cases h
  rename_i hlen
  obtain ⟨b, o, rfl, cs, own, hk, hrw, ho, hK⟩ := atP_some h
  obtain ⟨p, hp, rfl⟩ := vrel_ptr hx
  have hc := cells_rel hv hl
  obtain ⟨w', hrun, hr'⟩ := put_sound hr hp hk hrw ho hc hl
  refine ⟨_, w', ?_, hr', rfl, hK⟩
  have hs : v'.cells.size = ti.size := by rw [← Array.length_toList, hc.length, hlen]
  simp only [Instr.storeAt, Instr.sureAddr, storeVar, Sem.run_bind, Sem.run_pure, Result.andThen_ok, C.size hti, hs, ne_eq, not_true_eq_false, if_false]
  exact hrun _

theorem alloc_new (w : World) (o : Obj) : (w.alloc o).heap[w.heap.size]? = some o := by
  show (w.heap.push o)[w.heap.size]? = some o
  simp
/-- A new row of cells. -/
theorem new_cells (hr : Rel G ι σ w) (vs : List AV) (us : List Value) (own : Own) (e : TypeId) (sz : Nat) (rest : List Value) (frz : Nat × Nat) (hv : VRelL ι vs us) (hl : leaves vs = true)
    (hrest : ∀ u ∈ rest, u.oneCell' = true) (hfull : own.full = true → rest = []) (hsz : ∀ s, own.sz = some s → sz = s) (hfrz : own.rw = true → ∀ j, j < us.length + rest.length → ¬ (frz.1 ≤ j ∧ j < frz.2)) :
    Rel G (ι.put σ.next ⟨w.heap.size, 0, us.length + rest.length, sz⟩) (σ.alloc (.cells vs own)) (w.alloc (.cells (us ++ rest).toArray e frz)) := by
  have hle := IM.le_put ι ⟨w.heap.size, 0, us.length + rest.length, sz⟩ ((hr.fresh _ (Nat.le_refl _)).1)
  refine hr.fresh_block _ _ _ rfl ?_
  refine ⟨(us ++ rest).toArray, e, frz, alloc_new w _, ?_, ?_, by simp, ?_, fun h j _ hj => hfrz h j (by simpa using hj), fun h => ?_, hsz⟩
  · simp only [List.drop_zero]
    rw [← hv.length, List.take_left]
    exact VRelL.mono hle _ _ hv
  · rw [← hv.length]; simp
  · intro v hm
    have := List.mem_of_mem_take hm
    simp only [List.drop_zero, List.mem_append] at this
    rcases this with h | h
    · exact hv.one hl v h
    · exact hrest v h
  · rw [hfull h, ← hv.length]; simp
end
end Go.Proofs.YthpngchngnaloaaGreatDoor.Vm

/-! The operations of the model do what the abstract machine asks: new variables, aggregates, places. -/
namespace Go.Proofs.YthpngchngnaloaaGreatDoor.Vm
open RowKit (Below)

section
variable {C : Cx} {G : Base} {ι : IM} {σ : AH} {w : World}

/-! ### New variables -/
theorem newRow_run (P : Program) (e : TypeId) (us : Array Value) (w : World) : (newRow e us).run P w = .ok ⟨w.heap.size, 0, none⟩ (w.alloc (.cells us e)) := rfl

theorem new_sound (hr : Rel G ι σ w) {vs : List AV} {us : List Value} {K : AV → AH → Prop} (h : newVc vs σ K) (hv : VRelL ι vs us) (e : TypeId) :
    ∃ v σ' ι' w', Rel G ι' σ' w' ∧ Ext σ.next ι ι' ∧ σ.next ≤ σ'.next ∧ VRel ι' v (.pointer (some ⟨w.heap.size, 0, none⟩)) ∧ w' = w.alloc (.cells us.toArray e) ∧ K v σ' := by
  unfold newVc at h
  split at h
  case isFalse => cases h
  rename_i hl
  have := new_cells hr vs us (.exact 1) e 1 [] (0, 0) hv hl (by simp) (fun _ => rfl) (fun s hs => by cases hs; rfl) (by simp)
  rw [List.append_nil] at this
  refine ⟨_, _, _, _, this, Ext.put _ _ _ (Nat.le_refl _), by simp, ?_, rfl, h⟩
  simp only [VRel]
  exact ⟨_, IM.put_self _ _ _, by simp⟩

theorem allocVc_sound (hr : Rel G ι σ w) {t : TypeId} {ti : TI} {K : AV → AH → Prop} (hti : C.ti t = some ti) (h : newVc ti.zero σ K) :
    ∃ v v' σ' ι' w', (Instr.alloc t true (.tuple #[])).run C.P w = .ok v' w' ∧ Rel G ι' σ' w' ∧ Ext σ.next ι ι' ∧ σ.next ≤ σ'.next ∧ VRel ι' v v' ∧ K v σ' := by
  obtain ⟨z, hz, hzs, _⟩ := C.zero hti
  obtain ⟨v, σ', ι', w', h1, h2, h3, h4, h5, h6⟩ := new_sound hr h (hzs ▸ ofVs_rel ι z.cells.toList) t
  refine ⟨v, _, σ', ι', w', ?_, h1, h2, h3, h4, h6⟩
  simp only [Instr.alloc, newVar, Sem.run_bind, hz, Result.andThen_ok, newRow_run, Sem.run_pure, h5]

theorem boxVc_sound (hr : Rel G ι σ w) {t : TypeId} {x : AV} {x' : Value} {K : AV → AH → Prop} (h : newVc x.cells σ K) (hx : VRel ι x x') :
    ∃ v v' σ' ι' w', (Instr.box t x').run C.P w = .ok v' w' ∧ Rel G ι' σ' w' ∧ Ext σ.next ι ι' ∧ σ.next ≤ σ'.next ∧ VRel ι' v v' ∧ K v σ' := by
  have hl : leaves x.cells = true := by
    unfold newVc at h; split at h
    · assumption
    · cases h
  obtain ⟨v, σ', ι', w', h1, h2, h3, h4, h5, h6⟩ := new_sound hr h (cells_rel hx hl) t
  refine ⟨v, _, σ', ι', w', ?_, h1, h2, h3, h4, h6⟩
  simp only [Instr.box, newVar, Sem.run_bind, Result.andThen_ok, newRow_run, Sem.run_pure, h5]

/-! ### Aggregates -/
theorem zip_lay : ∀ (l : List Value) (k off : Nat) (c : Array Value), (l.zipIdx k).foldl (fun cs (x : Value × Nat) => cs.setIfInBounds (off + x.2) x.1) c = layA c (off + k) l
  | [], _, _, _ => rfl
  | v :: l, k, off, c => by
    simp only [List.zipIdx_cons, List.foldl_cons, layA]
    rw [zip_lay l (k + 1) off]
    rfl
theorem fold_lay (vs : Array Value) (off : Nat) (c : Array Value) : vs.zipIdx.foldl (fun cs (x : Value × Nat) => cs.setIfInBounds (off + x.2) x.1) c = layA c off vs.toList := by
  rw [← Array.foldl_toList, Array.toList_zipIdx]
  exact zip_lay _ 0 _ _

theorem lay_rel {cs vs : List AV} {ĉs : Array Value} {us : List Value} {o : Nat} (h : VRelL ι cs ĉs.toList) (hv : VRelL ι vs us) (ho : o + vs.length ≤ cs.length) :
    VRelL ι (layL cs o vs) (layA ĉs o us).toList := by
  have h1 := h.length
  have h2 := hv.length
  simp only [Array.length_toList] at h1
  refine .of_get (by simp [layL_length, layA_size, h1]) fun i a v ha hv' => ?_
  rw [layA_toList_get _ _ _ _ (by omega)] at hv'
  rw [layL_get _ _ _ _ ho] at ha
  by_cases hin : o ≤ i ∧ i < o + vs.length
  · rw [if_pos hin] at ha
    rw [if_pos (by omega)] at hv'
    obtain ⟨u, hu, hur⟩ := hv.get ha
    rw [hu] at hv'; cases hv'; exact hur
  · rw [if_neg hin] at ha
    rw [if_neg (by omega)] at hv'
    obtain ⟨u, hu, hur⟩ := h.get ha
    rw [hu] at hv'; cases hv'; exact hur

inductive PRel (ι : IM) : List (Nat × AV) → List (Nat × Value) → Prop
  | nil : PRel ι [] []
  | cons (i : Nat) {v : AV} {v' : Value} {l : List (Nat × AV)} {l' : List (Nat × Value)} (h : VRel ι v v') (h' : PRel ι l l') : PRel ι ((i, v) :: l) ((i, v') :: l')

theorem fill_sound {place place' : Nat → Option (Nat × Nat)} (hpl : ∀ i x, place i = some x → place' i = some x) : ∀ {parts : List (Nat × AV)} {parts' : List (Nat × Value)} {cs out : List AV} {ĉs : Array Value},
    fillL place cs parts = some out → PRel ι parts parts' → VRelL ι cs ĉs.toList → ∃ out', Instr.fill place' ĉs parts' = some out' ∧ VRelL ι out out'.toList
  | [], _, cs, out, ĉs, h, hp, hc => by
    cases hp
    simp only [fillL, Option.some.injEq] at h
    subst h
    exact ⟨ĉs, by simp [Instr.fill], hc⟩
  | (i, v) :: rest, _, cs, out, ĉs, h, hp, hc => by
    cases hp with
    | cons _ hv hrest =>
      rename_i v' l'
      simp only [fillL] at h
      split at h
      · cases h
      rename_i off size hpi
      split at h
      case isFalse => cases h
      rename_i hlv
      split at h
      case isFalse => cases h
      rename_i hsz
      split at h
      case isFalse => cases h
      rename_i hoff
      have hcr := cells_rel hv hlv
      have hlen := hcr.length
      have hclen := hc.length
      simp only [Array.length_toList] at hlen hclen
      obtain ⟨out', h1, h2⟩ := fill_sound hpl h hrest (lay_rel hc hcr hoff)
      refine ⟨out', ?_, h2⟩
      simp only [Instr.fill, hpl _ _ hpi]
      rw [if_neg (by simp; omega), fold_lay]
      exact h1

theorem run_mapM_fields (P : Program) (w : World) (g : TypeId → Nat) : ∀ (l : List Field), (∀ f ∈ l, ∀ w, (sizeOf f.type).run P w = .ok (g f.type) w) →
    (l.mapM (fun f => do pure (f.offset, ← sizeOf f.type)) : Sem (List (Nat × Nat))).run P w = .ok (l.map fun f => (f.offset, g f.type)) w
  | [], _ => by simp
  | f :: l, h => by
    simp only [List.mapM_cons, Sem.run_bind, h f (by simp), Result.andThen_ok, Sem.run_pure]
    rw [run_mapM_fields P w g l (fun f hf => h f (by simp [hf]))]
    simp

theorem buildVc_sound {t : TypeId} {parts : List (Nat × AV)} {parts' : Array (Nat × Value)} {K : AV → Prop} (h : buildVc C t parts K) (hp : PRel ι parts parts'.toList) :
    ∃ v v', (∀ w, (Instr.build t parts').run C.P w = .ok v' w) ∧ VRel ι v v' ∧ K v := by
  unfold buildVc at h
  split at h
  case h_2 => cases h
  rename_i ti hti
  obtain ⟨z, hz, hzs, _⟩ := C.zero hti
  obtain ⟨d, hd, htd, hdP⟩ := C.und hti
  have hzr : VRelL ι ti.zero z.cells.toList := hzs ▸ ofVs_rel ι z.cells.toList
  split at h
  case h_3 => cases h
  · rename_i fs hfs
    split at h
    case isFalse => cases h
    rename_i hall
    split at h
    case h_2 => cases h
    rename_i cs hfill
    obtain ⟨F, rfl, hF⟩ := td_struct (htd.trans hfs)
    let g : TypeId → Nat := fun t => ((C.ti t).map (·.size)).getD 0
    have hmap : ∀ w, (F.mapM (fun f => do pure (f.offset, ← sizeOf f.type)) : Sem (Array (Nat × Nat))).run C.P w = .ok (F.map fun f => (f.offset, g f.type)) w := by
      intro w
      rw [Array.mapM_eq_mapM_toList, Sem.run_map, run_mapM_fields C.P w g F.toList]
      · rw [Result.andThen_ok, ← Array.toList_map, Array.toArray_toList]
      · intro f hf w
        have : (C.ti f.type).isSome = true := by
          have := List.all_eq_true.1 hall (f.offset, f.type) (by rw [← hF]; exact List.mem_map.2 ⟨f, hf, rfl⟩)
          exact this
        obtain ⟨x, hx⟩ := Option.isSome_iff_exists.1 this
        simp only [g, hx, Option.map_some, Option.getD_some]
        exact C.size hx w
    obtain ⟨out', h1, h2⟩ := fill_sound (place' := fun i => (F.map fun f => (f.offset, g f.type))[i]?) (fun i x hx => by
      split at hx
      · rename_i off ft hi
        obtain ⟨y, hy, rfl⟩ := Option.map_eq_some_iff.1 hx
        rw [← hF, List.getElem?_map] at hi
        obtain ⟨f, hf, he⟩ := Option.map_eq_some_iff.1 hi
        rw [Array.getElem?_toList] at hf
        rw [Array.getElem?_map, hf]
        simp only [Prod.mk.injEq] at he
        simp [g, he.1, he.2, hy]
      · cases hx) hfill hp hzr
    refine ⟨.agg cs, .agg out', fun w => ?_, by simp only [VRel]; exact ⟨out'.toList, by simp, h2⟩, h⟩
    simp only [Instr.build, Sem.run_bind, hz, hd, Result.andThen_ok, hmap, h1, Sem.run_pure]
  · rename_i n e hfs
    split at h
    case h_2 => cases h
    rename_i x hx
    split at h
    case h_2 => cases h
    rename_i cs hfill
    obtain rfl := td_array (htd.trans hfs)
    obtain ⟨out', h1, h2⟩ := fill_sound (place' := fun i => some (i * x.size, x.size)) (fun i x hx => hx) hfill hp hzr
    refine ⟨.agg cs, .agg out', fun w => ?_, by simp only [VRel]; exact ⟨out'.toList, by simp, h2⟩, h⟩
    simp only [Instr.build, Sem.run_bind, hz, hd, Result.andThen_ok, C.size hx, h1, Sem.run_pure]

theorem repL_length (z : List AV) : ∀ n, (repL z n).length = n * z.length
  | 0 => by simp [repL]
  | n + 1 => by simp [repL, repL_length z n, Nat.succ_mul]; omega
theorem repL_get (z : List AV) : ∀ n i, i < n * z.length → (repL z n)[i]? = z[i % z.length]?
  | 0, i, h => by simp at h
  | n + 1, i, h => by
    simp only [repL]
    by_cases hi : i < z.length
    · rw [List.getElem?_append_left hi, Nat.mod_eq_of_lt hi]
    · rw [List.getElem?_append_right (by omega), repL_get z n _ (by rw [Nat.succ_mul] at h; omega)]
      congr 1
      rw [Nat.mod_eq_sub_mod (a := i) (by omega)]
theorem rep_rel {z : List AV} {zv : Array Value} (h : VRelL ι z zv.toList) (n m : Nat) (hm : m = n * z.length) : VRelL ι (repL z n) ((Array.range m).map (zv[· % zv.size]!)).toList := by
  have hl := h.length
  simp only [Array.length_toList] at hl
  refine .of_get (by simp [repL_length, hm]) fun i a v ha hv => ?_
  have hi : i < n * z.length := by have := (List.getElem?_eq_some_iff.1 ha).1; rwa [repL_length] at this
  rw [repL_get z n i hi] at ha
  have hz : 0 < z.length := by
    rcases Nat.eq_zero_or_pos z.length with h0 | h0
    · rw [h0] at hi; simp at hi
    · exact h0
  simp only [Array.toList_map, Array.toList_range, List.getElem?_map, List.getElem?_range (hm ▸ hi), Option.map_some, Option.some.injEq] at hv
  obtain ⟨u, hu, hur⟩ := h.get ha
  have hlt : i % zv.size < zv.size := Nat.mod_lt _ (by omega)
  rw [getElem!_pos zv _ hlt] at hv
  rw [Array.getElem?_toList, ← hl, Array.getElem?_eq_getElem hlt] at hu
  cases hu
  rw [← hv]; exact hur

theorem buildSliceVc_sound (hr : Rel G ι σ w) {t : TypeId} {len : Nat} {parts : List (Nat × AV)} {parts' : Array (Nat × Value)} {K : AV → AH → Prop} (h : buildSliceVc C t len parts σ K) (hp : PRel ι parts parts'.toList) :
    ∃ v v' σ' ι' w', (Instr.buildSlice t len parts').run C.P w = .ok v' w' ∧ Rel G ι' σ' w' ∧ Ext σ.next ι ι' ∧ σ.next ≤ σ'.next ∧ VRel ι' v v' ∧ K v σ' := by
  unfold buildSliceVc at h
  split at h
  case h_2 => cases h
  rename_i ti hti
  obtain ⟨d, hd, htd, hdP⟩ := C.und hti
  split at h
  case h_2 => cases h
  rename_i e he
  obtain rfl := td_slice (htd.trans he)
  split at h
  case h_2 => cases h
  rename_i x hx
  obtain ⟨z, hz, hzs, hzl, _⟩ := C.zero hx
  have hzr : VRelL ι x.zero z.cells.toList := hzs ▸ ofVs_rel ι z.cells.toList
  have hzl' : x.zero.length = x.size := by rw [← hzs, ofVs_length, Array.length_toList, hzl]
  split at h
  case isFalse => cases h
  rename_i hlim
  split at h
  case h_2 => cases h
  rename_i cs hfill
  split at h
  case isFalse => cases h
  rename_i hl
  obtain ⟨zz, hzz, hzzr⟩ : ∃ zz : Array Value, ((len * x.size = 0 ∧ zz = #[]) ∨ (len * x.size ≠ 0 ∧ zz = z.cells)) ∧
      VRelL ι (repL x.zero len) ((Array.range (len * x.size)).map (zz[· % zz.size]!)).toList := by
    by_cases h0 : len * x.size = 0
    · refine ⟨#[], .inl ⟨h0, rfl⟩, ?_⟩
      have : repL x.zero len = [] := List.length_eq_zero_iff.1 (by rw [repL_length, hzl', h0])
      rw [this, h0]; simp [VRelL]
    · refine ⟨z.cells, .inr ⟨h0, rfl⟩, ?_⟩
      exact rep_rel hzr len _ (by rw [hzl'])
  obtain ⟨out', h1, h2⟩ := fill_sound (place' := fun i => some (i * x.size, x.size)) (fun i x hx => hx) hfill hp hzzr
  have hnew := new_cells hr cs out'.toList (.exact x.size) e x.size [] (0, 0) h2 hl (by simp) (fun _ => rfl) (fun s hs => by cases hs; rfl) (by simp)
  rw [List.append_nil] at hnew
  refine ⟨_, .slice (some ⟨w.heap.size, 0, none⟩) len len, _, _, _, ?_, hnew, Ext.put _ _ _ (Nat.le_refl _), by simp, ?_, h⟩
  · simp only [Instr.buildSlice, Sem.run_bind, hd, Result.andThen_ok, C.size hx]
    rw [if_neg (by omega)]
    rcases hzz with ⟨h0, rfl⟩ | ⟨h0, rfl⟩
    · simp only [h0, if_true, Sem.run_bind, Sem.run_pure, Result.andThen_ok]
      rw [h0] at h1
      simp only [h1, Sem.run_bind, Sem.run_pure, Result.andThen_ok, newRow_run, Array.toArray_toList]
    · simp only [h0, if_false, Sem.run_bind, Sem.run_pure, Result.andThen_ok, hz, h1, newRow_run, Array.toArray_toList]
  · simp only [VRel]
    exact ⟨_, _, len, IM.put_self _ _ _, rfl, Nat.le_refl _, fun _ => by simp, rfl⟩

theorem partVc_sound {t : TypeId} {cs : List AV} {ĉs : Array Value} {off : Nat} {K : AV → Prop} (h : partVc C t cs off K) (hc : VRelL ι cs ĉs.toList) :
    ∃ v v', (∀ w, (part t ĉs off).run C.P w = .ok v' w) ∧ VRel ι v v' ∧ K v := by
  unfold partVc at h
  split at h
  case h_2 => cases h
  rename_i ti hti
  split at h
  · rename_i hagg
    refine ⟨_, .agg (ĉs.extract off (off + ti.size)), fun w => ?_, ?_, h⟩
    · simp only [part, Sem.run_bind, C.isAgg hti, hagg, Result.andThen_ok, if_true, C.size hti, Sem.run_pure]
    · simp only [VRel]
      refine ⟨(ĉs.toList.drop off).take ti.size, ?_, (hc.drop off).take _⟩
      congr 1
      apply Array.ext'
      rw [Array.toList_extract, List.extract_eq_take_drop, show off + ti.size - off = ti.size by omega]
  · rename_i hagg
    split at h
    case h_2 => cases h
    rename_i v hv
    obtain ⟨u, hu, hur⟩ := hc.get hv
    refine ⟨v, u, fun w => ?_, hur, h⟩
    rw [Array.getElem?_toList] at hu
    simp only [part, Sem.run_bind, C.isAgg hti, hagg, Bool.false_eq_true, Result.andThen_ok, if_false, hu, Sem.run_pure]

theorem vrel_agg {cs : List AV} {v : Value} (h : VRel ι (.agg cs) v) : ∃ l : Array Value, v = .agg l ∧ VRelL ι cs l.toList := by
  simp only [VRel] at h
  obtain ⟨l, rfl, h⟩ := h
  exact ⟨_, rfl, h⟩

theorem fieldVc_sound {t : TypeId} {x : AV} {x' : Value} {f : Nat} {K : AV → Prop} (h : fieldVc C t x f K) (hx : VRel ι x x') :
    ∃ v v', (∀ w, (Instr.field t x' f).run C.P w = .ok v' w) ∧ VRel ι v v' ∧ K v := by
  unfold fieldVc at h
  split at h
  case h_2 => cases h
  rename_i ti cs hti
  obtain ⟨d, hd, htd, hdP⟩ := C.und hti
  split at h
  case h_2 => cases h
  rename_i fs hfs
  obtain ⟨F, rfl, hF⟩ := td_struct (htd.trans hfs)
  split at h
  case h_2 => cases h
  rename_i off ft hf
  obtain ⟨l, rfl, hl⟩ := vrel_agg hx
  obtain ⟨v, v', h1, h2, h3⟩ := partVc_sound h hl
  refine ⟨v, v', fun w => ?_, h2, h3⟩
  rw [← hF, List.getElem?_map] at hf
  obtain ⟨fl, hfl, he⟩ := Option.map_eq_some_iff.1 hf
  rw [Array.getElem?_toList] at hfl
  simp only [Prod.mk.injEq] at he
  simp only [Instr.field, Sem.run_bind, hd, Result.andThen_ok, hfl, asAgg, Sem.run_pure, he.1, he.2, h1]

theorem fieldAddrVc_sound {t : TypeId} {x : AV} {x' : Value} {f : Nat} {K : AV → Prop} (h : fieldAddrVc C t x f K) (hx : VRel ι x x') :
    ∃ v v', (∀ w, (Instr.fieldAt t x' f).run C.P w = .ok v' w) ∧ VRel ι v v' ∧ K v := by
  unfold fieldAddrVc at h
  split at h
  case h_2 => cases h
  rename_i ti a hti
  obtain ⟨d, hd, htd, hdP⟩ := C.und hti
  split at h
  case h_2 => cases h
  rename_i fs hfs
  obtain ⟨F, rfl, hF⟩ := td_struct (htd.trans hfs)
  split at h
  case h_2 => cases h
  rename_i off ft hf
  split at h
  case h_2 => cases h
  rename_i y hy
  split at h
  case isTrue => cases h
  rename_i hne
  obtain ⟨b, o, rfl, h⟩ := atP_some h
  obtain ⟨p, hp, rfl⟩ := vrel_ptr hx
  rw [← hF, List.getElem?_map] at hf
  obtain ⟨fl, hfl, he⟩ := Option.map_eq_some_iff.1 hf
  rw [Array.getElem?_toList] at hfl
  simp only [Prod.mk.injEq] at he
  refine ⟨_, .pointer (some ⟨p.blk, p.base + o + off, none⟩), fun w => ?_, ?_, h⟩
  · simp only [Instr.fieldAt, Sem.run_bind, hd, Result.andThen_ok, hfl, Instr.sureAddr, fieldPlace, Sem.run_pure, he.1, he.2, C.size hy, hne, if_false, addr_add]
  · simp only [VRel]; exact ⟨p, hp, by rw [Nat.add_assoc]⟩

theorem vrel_slice {a : Option (Nat × Nat)} {n : Nat} {c : Cp} {v : Value} (h : VRel ι (.slice a n c) v) : ∃ a' ĉ, v = .slice a' n ĉ ∧ n ≤ ĉ ∧ (a = none → a' = none ∧ n = 0 ∧ ĉ = 0 ∧ c = .k 0) ∧
    (∀ b o, a = some (b, o) → ∃ p x, ι b = some p ∧ a' = some x ∧ (0 < ĉ → x = ⟨p.blk, p.base + o, none⟩) ∧ capRel p o ĉ c) := by
  rcases a with _ | ⟨b, o⟩
  · simp only [VRel] at h
    obtain ⟨rfl, rfl, rfl⟩ := h
    exact ⟨none, 0, rfl, Nat.le_refl _, fun _ => ⟨rfl, rfl, rfl, rfl⟩, fun b o h => (by cases h)⟩
  · simp only [VRel] at h
    obtain ⟨p, x, ĉ, hp, rfl, h1, h2, h3⟩ := h
    refine ⟨some x, ĉ, rfl, h1, fun h => (by cases h), fun b' o' h => ?_⟩
    cases h
    exact ⟨p, x, hp, rfl, h2, h3⟩

theorem indexAddrVc_sound {t : TypeId} {x i : AV} {x' i' : Value} {K : AV → Prop} (h : indexAddrVc C t x i K) (hx : VRel ι x x') (hi : VRel ι i i') :
    ∃ v v', (∀ w, (Instr.indexAt t x' i').run C.P w = .ok v' w) ∧ VRel ι v v' ∧ K v := by
  unfold indexAddrVc at h
  split at h
  case h_2 => cases h
  rename_i ti k i hti
  obtain ⟨d, hd, htd, hdP⟩ := C.und hti
  simp only [VRel] at hi
  subst hi
  split at h
  case h_3 => cases h
  · rename_i n e a hte
    obtain rfl := td_array (htd.trans hte)
    split at h
    case h_2 => cases h
    rename_i y hy
    obtain ⟨h0, h1, h⟩ := h
    obtain ⟨b, o, rfl, h⟩ := atP_some h
    obtain ⟨p, hp, rfl⟩ := vrel_ptr hx
    refine ⟨_, .pointer (some ⟨p.blk, p.base + o + i.toNat * y.size, none⟩), fun w => ?_, ?_, h⟩
    · simp only [Instr.indexAt, asIntOf, Sem.run_bind, Sem.run_pure, hd, Result.andThen_ok, Instr.sureAddr, h0, h1, and_self, if_true, C.size hy, addr_add]
    · simp only [VRel]; exact ⟨p, hp, by rw [Nat.add_assoc]⟩
  · rename_i e a n c hte
    obtain rfl := td_slice (htd.trans hte)
    split at h
    case h_2 => cases h
    rename_i y hy
    obtain ⟨h0, h1, h⟩ := h
    obtain ⟨b, o, rfl, h⟩ := atP_some h
    obtain ⟨a', ĉ, rfl, hn, _, hs⟩ := vrel_slice hx
    obtain ⟨p, z, hp, rfl, hz, _⟩ := hs b o rfl
    obtain rfl := hz (by omega)
    refine ⟨_, .pointer (some ⟨p.blk, p.base + o + i.toNat * y.size, none⟩), fun w => ?_, ?_, h⟩
    · simp only [Instr.indexAt, asIntOf, Sem.run_bind, Sem.run_pure, hd, Result.andThen_ok, h0, h1, and_self, if_true, C.size hy, addr_add]
    · simp only [VRel]; exact ⟨p, hp, by rw [Nat.add_assoc]⟩

theorem str_get (s : List UInt8) (i : Nat) : (⟨s.toArray⟩ : ByteArray)[i]? = s[i]? := by
  by_cases h : i < s.length
  · rw [List.getElem?_eq_getElem h]
    have h' : i < (⟨s.toArray⟩ : ByteArray).size := by simpa [ByteArray.size] using h
    rw [getElem?_pos (⟨s.toArray⟩ : ByteArray) i h']
    rfl
  · rw [List.getElem?_eq_none (by omega)]
    exact getElem?_neg (⟨s.toArray⟩ : ByteArray) i (by simpa [ByteArray.size] using h)

theorem indexVc_sound {t : TypeId} {x i : AV} {x' i' : Value} {K : AV → Prop} (h : indexVc C t x i K) (hx : VRel ι x x') (hi : VRel ι i i') :
    ∃ v v', (∀ w, (Instr.index t x' i').run C.P w = .ok v' w) ∧ VRel ι v v' ∧ K v := by
  unfold indexVc at h
  split at h
  case h_2 => cases h
  rename_i ti k i hti
  obtain ⟨d, hd, htd, hdP⟩ := C.und hti
  simp only [VRel] at hi
  subst hi
  split at h
  case h_3 => cases h
  · rename_i n e cs hte
    obtain rfl := td_array (htd.trans hte)
    split at h
    case h_2 => cases h
    rename_i y hy
    obtain ⟨h0, h1, h⟩ := h
    obtain ⟨l, rfl, hl⟩ := vrel_agg hx
    obtain ⟨v, v', h2, h3, h4⟩ := partVc_sound h hl
    refine ⟨v, v', fun w => ?_, h3, h4⟩
    simp only [Instr.index, asIntOf, Sem.run_bind, Sem.run_pure, hd, Result.andThen_ok, h0, h1, and_self, if_true, C.size hy, h2]
  · rename_i s hte
    obtain rfl := td_str (htd.trans hte)
    obtain ⟨h0, c, hc, h⟩ := h
    simp only [VRel] at hx
    subst hx
    refine ⟨_, .int .u8 c.toNat, fun w => ?_, by simp only [VRel], h⟩
    simp only [Instr.index, asIntOf, Sem.run_bind, Sem.run_pure, hd, Result.andThen_ok, h0, if_true, str_get, hc]
end
end Go.Proofs.YthpngchngnaloaaGreatDoor.Vm

/-! The operations of the model do what the abstract machine asks: slices, append, copy. -/
namespace Go.Proofs.YthpngchngnaloaaGreatDoor.Vm
open RowKit (Below)

section
variable {C : Cx} {G : Base} {ι : IM} {σ : AH} {w : World}

theorem boundVc_some {x : AV} {d most : Nat} {K : Nat → Prop} (h : boundVc (some x) d most K) : ∃ k i, x = .int k i ∧ 0 ≤ i ∧ i ≤ (most : Int) ∧ K i.toNat := by
  unfold boundVc at h
  split at h
  · rename_i e; cases e
  · rename_i k i e; cases e; exact ⟨k, i, rfl, h.1, h.2.1, h.2.2⟩
  · cases h

/-- Optional values. -/
def ORel (ι : IM) : Option AV → Option Value → Prop
  | none, none => True
  | some a, some v => VRel ι a v
  | _, _ => False

theorem run_sliceBound {P : Program} {k : IntKind} {i : Int} {y : Nat} {code : BoundsCode} (w : World) (h0 : 0 ≤ i) (h1 : i ≤ (y : Int)) : (Instr.sliceBound (.int k i) y code).run P w = .ok i.toNat w := by
  unfold Instr.sliceBound
  simp [asIntOf, h0, h1]

/-- Two bounds, without a third: what comes out. -/
theorem bounds2 {isS : Bool} {len cap room : Nat} {lo hi : Option AV} {lo' hi' : Option Value} {K : Nat → Nat → Prop} (hlo : ORel ι lo lo') (hhi : ORel ι hi hi')
    (h : boundVc hi len room fun h => boundVc lo 0 h fun l => K l h) (hlen : len ≤ cap) (hroom : room ≤ cap) :
    ∃ l h, K l h ∧ l ≤ h ∧ h ≤ cap ∧ (lo = none → l = 0) ∧ (h = len ∨ h ≤ room) ∧ ∀ (P : Program) (w : World), (Instr.sliceBounds isS len cap lo' hi' none).run P w = .ok (l, h, cap) w := by
  have hlow : ∀ hh, hh ≤ cap → (hh = len ∨ hh ≤ room) → boundVc lo 0 hh (fun l => K l hh) → ∃ l, K l hh ∧ l ≤ hh ∧ (lo = none → l = 0) ∧
      ∀ (P : Program) (w : World), (match lo' with
        | some v => Instr.sliceBound v hh .sliceB
        | none => pure 0 : Sem Nat).run P w = .ok l w := by
    intro hh hle hor h2
    cases lo with
    | none =>
      cases lo' with
      | some _ => cases hlo
      | none => exact ⟨0, h2, Nat.zero_le _, fun _ => rfl, fun P w => rfl⟩
    | some a =>
      cases lo' with
      | none => cases hlo
      | some v =>
        obtain ⟨k, i, rfl, h0, h1, h3⟩ := boundVc_some h2
        simp only [ORel, VRel] at hlo
        subst hlo
        exact ⟨i.toNat, h3, by omega, fun h => (by cases h), fun P w => run_sliceBound w h0 h1⟩
  cases hi with
  | none =>
    cases hi' with
    | some _ => cases hhi
    | none =>
      obtain ⟨l, h1, h2, h3, h4⟩ := hlow len hlen (.inl rfl) h
      refine ⟨l, len, h1, h2, hlen, h3, .inl rfl, fun P w => ?_⟩
      have h5 := h4 P w
      cases lo' <;> simp only [Sem.run_pure, Result.ok.injEq, and_true] at h5 <;> simp only [Instr.sliceBounds, Sem.run_bind, Sem.run_pure, Result.andThen_ok, Option.isSome_none, Bool.false_eq_true, if_false, h5]
  | some a =>
    cases hi' with
    | none => cases hhi
    | some v =>
      obtain ⟨k, i, rfl, h0, h1, h⟩ := boundVc_some h
      simp only [ORel, VRel] at hhi
      subst hhi
      obtain ⟨l, h2, h3, h4, h5⟩ := hlow i.toNat (by omega) (.inr (by omega)) h
      refine ⟨l, i.toNat, h2, h3, by omega, h4, .inr (by omega), fun P w => ?_⟩
      have h6 := h5 P w
      have h7 : ∀ code, (Instr.sliceBound (.int k i) cap code).run P w = .ok i.toNat w := fun code => run_sliceBound w h0 (by omega)
      cases lo' <;> simp only [Sem.run_pure, Result.ok.injEq, and_true] at h6 <;> simp only [Instr.sliceBounds, Sem.run_bind, Sem.run_pure, Result.andThen_ok, Option.isSome_none, Bool.false_eq_true, if_false, h7, h6]
theorem bounds3 {isS : Bool} {len cap room : Nat} {lo hi mx : Option AV} {lo' hi' mx' : Option Value} {K : Nat → Nat → Nat → Prop} (hlo : ORel ι lo lo') (hhi : ORel ι hi hi') (hmx : ORel ι mx mx') (hm : mx.isSome = true) (hh : hi.isSome = true)
    (h : boundVc mx len room fun m => boundVc hi len m fun h => boundVc lo 0 h fun l => K l h m) (hroom : room ≤ cap) :
    ∃ l h m, K l h m ∧ l ≤ h ∧ h ≤ m ∧ m ≤ cap ∧ m ≤ room ∧ ∀ (P : Program) (w : World), (Instr.sliceBounds isS len cap lo' hi' mx').run P w = .ok (l, h, m) w := by
  cases mx with
  | none => cases hm
  | some a =>
  cases mx' with
  | none => cases hmx
  | some v =>
  obtain ⟨k, i, rfl, h0, h1, h⟩ := boundVc_some h
  simp only [ORel, VRel] at hmx
  subst hmx
  cases hi with
  | none => cases hh
  | some b =>
  cases hi' with
  | none => cases hhi
  | some u =>
  obtain ⟨k', j, rfl, h2, h3, h⟩ := boundVc_some h
  simp only [ORel, VRel] at hhi
  subst hhi
  cases lo with
  | none =>
    cases lo' with
    | some _ => cases hlo
    | none =>
      refine ⟨0, j.toNat, i.toNat, h, Nat.zero_le _, by omega, by omega, by omega, fun P w => ?_⟩
      simp only [Instr.sliceBounds, Sem.run_bind, Sem.run_pure, Result.andThen_ok, run_sliceBound w h0 (show i ≤ (cap : Int) by omega), run_sliceBound w h2 h3]
  | some c =>
    cases lo' with
    | none => cases hlo
    | some x =>
      obtain ⟨k'', q, rfl, h4, h5, h⟩ := boundVc_some h
      simp only [ORel, VRel] at hlo
      subst hlo
      refine ⟨q.toNat, j.toNat, i.toNat, h, by omega, by omega, by omega, by omega, fun P w => ?_⟩
      simp only [Instr.sliceBounds, Sem.run_bind, Sem.run_pure, Result.andThen_ok, run_sliceBound w h0 (show i ≤ (cap : Int) by omega), run_sliceBound w h2 h3, run_sliceBound w h4 h5]

theorem room_le (hr : Rel G ι σ w) {wide : Bool} {a : Option (Nat × Nat)} {n : Nat} {c : Cp} {a' : Option Addr} {ĉ : Nat} (hx : VRel ι (.slice a n c) (.slice a' n ĉ)) : roomOf wide σ a n c ≤ ĉ := by
  obtain ⟨a1, c1, e, hn, _, hs⟩ := vrel_slice hx
  cases e
  unfold roomOf
  split
  case isFalse => exact hn
  split
  · rename_i bo c'
    obtain ⟨p, z, hp, _, _, hc⟩ := hs _ _ rfl
    simp only [capRel] at hc
    omega
  · split
    case h_2 => exact hn
    rename_i cs own hk
    split
    case h_2 => exact hn
    rename_i sz hs2
    split
    case isFalse => exact hn
    rename_i hsz
    obtain ⟨p, z, hp, _, _, hc⟩ := hs _ _ rfl
    simp only [capRel] at hc
    obtain ⟨_, _, _, _, _, h3, _, _, _, _, h8⟩ := hr.cells hp hk
    have h10 := h8 sz hs2
    refine Nat.max_le.2 ⟨hn, ?_⟩
    rw [h10] at hc
    rw [Nat.div_le_iff_le_mul_add_pred hsz]
    have : sz * ĉ = ĉ * sz := Nat.mul_comm _ _
    omega
  · exact hn

theorem cut_rel {a : Option (Nat × Nat)} {n : Nat} {c : Cp} {a' : Option Addr} {ĉ : Nat} (hx : VRel ι (.slice a n c) (.slice a' n ĉ)) {l h m sz : Nat} {c' : Cp} (hl : l ≤ h) (hh : h ≤ m) (hm : m ≤ ĉ)
    (hc : (c' = .k (m - l)) ∨ (m = ĉ ∧ l = 0 ∧ c' = c) ∨ (m = ĉ ∧ c' = shC c l)) :
    VRel ι (.slice (shA a (l * sz)) (h - l) c') (.slice (if m = l then a' else a'.map (·.add (l * sz))) (h - l) (m - l)) := by
  obtain ⟨a1, c1, e, hn, h0, hs⟩ := vrel_slice hx
  cases e
  rcases a with _ | ⟨b, o⟩
  · obtain ⟨rfl, rfl, rfl, rfl⟩ := h0 rfl
    have hm0 : m = 0 := by omega
    have hl0 : l = 0 := by omega
    have hh0 : h = 0 := by omega
    subst hm0 hl0 hh0
    simp only [shA, VRel, if_true]
    refine ⟨trivial, ?_, trivial⟩
    rcases hc with rfl | ⟨_, _, rfl⟩ | ⟨_, rfl⟩ <;> rfl
  · obtain ⟨p, z, hp, rfl, hz, hcr⟩ := hs b o rfl
    simp only [shA, VRel]
    by_cases hml : m = l
    · refine ⟨p, z, m - l, hp, by rw [if_pos hml], by omega, fun h => by omega, ?_⟩
      rcases hc with rfl | ⟨h1, h2, rfl⟩ | ⟨h1, rfl⟩
      · rfl
      · subst h1 h2; simpa using hcr
      · subst h1
        cases c <;> simp only [shC, capRel] at hcr ⊢
        omega
    · refine ⟨p, z.add (l * sz), m - l, hp, by rw [if_neg hml]; rfl, by omega, fun _ => ?_, ?_⟩
      · rw [hz (by omega), addr_add, Nat.add_assoc]
      · rcases hc with rfl | ⟨h1, h2, rfl⟩ | ⟨h1, rfl⟩
        · rfl
        · subst h1 h2; simpa using hcr
        · subst h1
          cases c <;> simp only [shC, capRel] at hcr ⊢
          omega

theorem str_extract (s : List UInt8) (l h : Nat) : (⟨s.toArray⟩ : ByteArray).extract l h = ⟨((s.take h).drop l).toArray⟩ := by
  have := Lib.extract_data ⟨s.toArray⟩ l h
  rw [show ((s.take h).drop l) = (s.drop l).take (h - l) from by rw [List.drop_take]]
  cases hx : (⟨s.toArray⟩ : ByteArray).extract l h with
  | mk d =>
    rw [hx] at this
    simp only at this
    rw [← this]

theorem sliceVc_sound (hr : Rel G ι σ w) {wide : Bool} {t : TypeId} {x : AV} {x' : Value} {lo hi mx : Option AV} {lo' hi' mx' : Option Value} {K : AV → Prop} (h : sliceVc C wide t x lo hi mx σ K)
    (hx : VRel ι x x') (hlo : ORel ι lo lo') (hhi : ORel ι hi hi') (hmx : ORel ι mx mx') :
    ∃ v v', (∀ w, (Instr.sliceAt t x' lo' hi' mx').run C.P w = .ok v' w) ∧ VRel ι v v' ∧ K v := by
  unfold sliceVc at h
  split at h
  case h_2 => cases h
  rename_i ti hti
  obtain ⟨d, hd, htd, hdP⟩ := C.und hti
  split at h
  case h_4 => cases h
  · rename_i s hte
    obtain rfl := td_str (htd.trans hte)
    split at h
    case h_2 => cases h
    cases mx' with
    | some _ => cases hmx
    | none =>
    simp only [VRel] at hx
    subst hx
    obtain ⟨l, h', hK, h1, h2, _, _, hrun⟩ := bounds2 (isS := false) (K := fun l h => K (.str ((s.take h).drop l))) hlo hhi h (Nat.le_refl s.length) (Nat.le_refl s.length)
    refine ⟨_, .string ((⟨s.toArray⟩ : ByteArray).extract l h'), fun w => ?_, by simp only [VRel]; rw [str_extract], hK⟩
    have hsz : (⟨s.toArray⟩ : ByteArray).size = s.length := by simp [ByteArray.size]
    simp only [Instr.sliceAt, Instr.slice, Sem.run_bind, hd, Result.andThen_ok, hsz, Option.isSome_none, Bool.false_eq_true, if_false, Sem.run_pure, hrun]
  · rename_i e a n c hte
    obtain rfl := td_slice (htd.trans hte)
    split at h
    case h_2 => cases h
    rename_i y hy
    split at h
    case isTrue => cases h
    rename_i hys
    obtain ⟨a', ĉ, rfl, hn, h0, hs⟩ := vrel_slice hx
    have hroom := room_le (wide := wide) hr hx
    split at h
    · rename_i mv
      split at h
      case isFalse => cases h
      rename_i hhs
      obtain ⟨l, h', m, hK, h1, h2, h3, _, hrun⟩ := bounds3 (isS := true) (K := fun l h m => K (.slice (shA a (l * y.size)) (h - l) (.k (m - l)))) hlo hhi hmx rfl hhs h hroom
      refine ⟨_, _, fun w => ?_, cut_rel (sz := y.size) hx h1 h2 h3 (.inl rfl), hK⟩
      simp only [Instr.sliceAt, Instr.slice, Sem.run_bind, hd, Result.andThen_ok, hrun, C.size hy, Sem.run_pure]
    · cases mx' with
      | some _ => cases hmx
      | none =>
      obtain ⟨l, h', hK, h1, h2, h3, _, hrun⟩ := bounds2 (isS := true) (K := fun l h => (lo = none ∧ K (.slice a h c)) ∨ (K (.slice (shA a (l * y.size)) (h - l) (shC c l)))) hlo hhi (by
        unfold boundVc at h ⊢
        split at h
        · split at h
          · exact .inl ⟨rfl, h⟩
          · rename_i u
            simp only at h ⊢
            split at h
            · rename_i e; cases e
            · rename_i e; cases e; exact ⟨h.1, h.2.1, .inr h.2.2⟩
            · cases h
        · refine ⟨h.1, h.2.1, ?_⟩
          have h := h.2.2
          split at h
          · exact .inl ⟨rfl, h⟩
          · rename_i u
            simp only at h ⊢
            split at h
            · rename_i e; cases e
            · rename_i e; cases e; exact ⟨h.1, h.2.1, .inr h.2.2⟩
            · cases h
        · cases h) hn hroom
      rcases hK with ⟨hlo0, hK⟩ | hK
      · obtain rfl := h3 hlo0
        refine ⟨_, .slice (if ĉ = 0 then a' else a'.map (·.add (0 * y.size))) (h' - 0) (ĉ - 0), fun w => ?_, ?_, hK⟩
        · simp only [Instr.sliceAt, Instr.slice, Sem.run_bind, hd, Result.andThen_ok, hrun, C.size hy, Sem.run_pure]
        · have := cut_rel (sz := y.size) (c' := c) hx h1 h2 (Nat.le_refl ĉ) (.inr (.inl ⟨rfl, rfl, rfl⟩))
          have e : shA a (0 * y.size) = a := by rw [Nat.zero_mul]; cases a <;> rfl
          rw [e] at this
          simpa using this
      · refine ⟨_, _, fun w => ?_, cut_rel (sz := y.size) hx h1 h2 (Nat.le_refl ĉ) (.inr (.inr ⟨rfl, rfl⟩)), hK⟩
        simp only [Instr.sliceAt, Instr.slice, Sem.run_bind, hd, Result.andThen_ok, hrun, C.size hy, Sem.run_pure]
  · rename_i n e a hte
    obtain rfl := td_array (htd.trans hte)
    split at h
    case h_2 => cases h
    rename_i y hy
    cases mx' with
    | some _ => cases hmx
    | none =>
    split at h
    case isTrue => cases h
    rename_i hys
    obtain ⟨b, o, rfl, h⟩ := atP_some h
    obtain ⟨p, hp, rfl⟩ := vrel_ptr hx
    obtain ⟨l, h', hK, h1, h2, _, _, hrun⟩ := bounds2 (isS := false) (K := fun l h => K (.slice (some (b, o + l * y.size)) (h - l) (.k (n - l)))) hlo hhi h (Nat.le_refl n) (Nat.le_refl n)
    refine ⟨_, .slice (some (if n = l then ⟨p.blk, p.base + o, none⟩ else ⟨p.blk, p.base + o + l * y.size, none⟩)) (h' - l) (n - l), fun w => ?_, ?_, hK⟩
    · simp only [Instr.sliceAt, Instr.sureAddr, Sem.run_bind, hd, Result.andThen_ok, Sem.run_pure, hrun, C.size hy, addr_add]
    · simp only [VRel]
      exact ⟨p, _, n - l, hp, rfl, by omega, fun h => by rw [if_neg (by omega), Nat.add_assoc], rfl⟩
end
end Go.Proofs.YthpngchngnaloaaGreatDoor.Vm

/-! The operations of the model do what the abstract machine asks: make, append, copy, clear, cap. -/
namespace Go.Proofs.YthpngchngnaloaaGreatDoor.Vm
open RowKit (Below)

section
variable {C : Cx} {G : Base} {ι : IM} {σ : AH} {w : World}

/-- What an operation with a value comes to. -/
def Gives (G : Base) (ι : IM) (σ : AH) (P : Program) (w : World) (s : Sem Value) (K : AV → AH → Prop) : Prop :=
  ∃ v v' σ' ι' w', s.run P w = .ok v' w' ∧ Rel G ι' σ' w' ∧ Ext σ.next ι ι' ∧ σ.next ≤ σ'.next ∧ VRel ι' v v' ∧ K v σ'
theorem Gives.same (hr : Rel G ι σ w) {P : Program} {s : Sem Value} {K : AV → AH → Prop} {v : AV} {v' : Value} (h : s.run P w = .ok v' w) (hv : VRel ι v v') (hK : K v σ) : Gives G ι σ P w s K :=
  ⟨v, v', σ, ι, w, h, hr, Ext.refl _ _, Nat.le_refl _, hv, hK⟩
theorem Gives.here {P : Program} {s : Sem Value} {K : AV → AH → Prop} {v : AV} {v' : Value} {σ' : AH} {w' : World} (hr : Rel G ι σ' w') (hn : σ.next ≤ σ'.next) (h : s.run P w = .ok v' w') (hv : VRel ι v v') (hK : K v σ') : Gives G ι σ P w s K :=
  ⟨v, v', σ', ι, w', h, hr, Ext.refl _ _, hn, hv, hK⟩

theorem wrap64_in {n : Int} (h0 : -9223372036854775808 ≤ n) (h1 : n ≤ 9223372036854775807) : IntKind.i64.wrap n = n := by
  unfold IntKind.wrap
  simp [IntKind.signed, IntKind.bits] <;> omega

theorem mem_rep {z : Array Value} (hz : ∀ v, v ∈ z → v.oneCell' = true) (n : Nat) (h0 : n ≠ 0 → z.size ≠ 0) : ∀ u ∈ ((Array.range n).map (z[· % z.size]!)).toList, u.oneCell' = true := by
  intro u hu
  rw [Array.toList_map] at hu
  obtain ⟨i, hi, rfl⟩ := List.mem_map.1 hu
  have hi' : i < n := by simpa using hi
  have hlt : i % z.size < z.size := Nat.mod_lt _ (by have := h0 (by omega); omega)
  rw [getElem!_pos z _ hlt]
  exact hz _ (Array.getElem_mem hlt)

theorem makeSliceVc_sound (hr : Rel G ι σ w) {t : TypeId} {l c : AV} {l' c' : Value} {K : AV → AH → Prop} (h : makeSliceVc C t l c σ K) (hl : VRel ι l l') (hc : VRel ι c c') :
    Gives G ι σ C.P w (Instr.makeSlice t l' c') K := by
  unfold makeSliceVc at h
  split at h
  case h_2 => cases h
  rename_i ti kl l kc c hti
  obtain ⟨d, hd, htd, hdP⟩ := C.und hti
  simp only [VRel] at hl hc
  subst hl hc
  split at h
  case h_2 => cases h
  rename_i e he
  obtain rfl := td_slice (htd.trans he)
  split at h
  case h_2 => cases h
  rename_i x hx
  obtain ⟨h0, h1, h2, h3, hlz, hK⟩ := h
  obtain ⟨z, hz, hzs, hzl, hz1⟩ := C.zero hx
  obtain ⟨i, hi, hib, his⟩ := C.bytes hx
  have hzr : VRelL ι x.zero z.cells.toList := hzs ▸ ofVs_rel ι z.cells.toList
  have hzl' : x.zero.length = x.size := by rw [← hzs, ofVs_length, Array.length_toList, hzl]
  have e1 : IntKind.i64.wrap l = l := wrap64_in (by omega) (by omega)
  have e2 : IntKind.i64.wrap c = c := wrap64_in (by omega) (by omega)
  have hlen : ∀ zz : Array Value, ((Array.range (c.toNat * x.size)).map (zz[· % zz.size]!)).toList.length = c.toNat * x.size := by simp
  obtain ⟨zz, hzz, hzzr⟩ : ∃ zz : Array Value, ((c.toNat * x.size = 0 ∧ zz = #[]) ∨ (c.toNat * x.size ≠ 0 ∧ zz = z.cells)) ∧
      VRelL ι (repL x.zero c.toNat) ((Array.range (c.toNat * x.size)).map (zz[· % zz.size]!)).toList := by
    by_cases h0 : c.toNat * x.size = 0
    · refine ⟨#[], .inl ⟨h0, rfl⟩, ?_⟩
      have : repL x.zero c.toNat = [] := List.length_eq_zero_iff.1 (by rw [repL_length, hzl', h0])
      rw [this, h0]; simp [VRelL]
    · refine ⟨z.cells, .inr ⟨h0, rfl⟩, ?_⟩
      exact rep_rel hzr c.toNat _ (by rw [hzl'])
  have hlv : leaves (repL x.zero c.toNat) = true := by
    unfold leaves at hlz ⊢
    have : ∀ n, (repL x.zero n).all AV.leaf = true := by
      intro n
      induction n with
      | zero => rfl
      | succ n ih => simp [repL, hlz, ih]
    exact this _
  have hnew := new_cells hr (repL x.zero c.toNat) _ (.exact x.size) e x.size [] (0, 0) hzzr hlv (by simp) (fun _ => rfl) (fun s hs => by cases hs; rfl) (by simp)
  rw [List.append_nil, Array.toArray_toList] at hnew
  refine ⟨_, .slice (some ⟨w.heap.size, 0, none⟩) l.toNat c.toNat, _, _, _, ?_, hnew, Ext.put _ _ _ (Nat.le_refl _), by simp, ?_, hK⟩
  · have hbig : ¬ ((c < 0 ∨ (i.bytes : Int) * c > 2 ^ 48) ∨ l < 0 ∨ c < l) := by
      rw [hib]; omega
    simp only [Instr.makeSlice, Sem.run_bind, hd, Result.andThen_ok, asInt, asIntOf, Sem.run_pure, hi, e1, e2]
    rw [if_neg (by simp only [Bool.or_eq_true, decide_eq_true_eq]; omega)]
    simp only [Sem.run_bind, Result.andThen_ok, run_askRoom, C.size hx]
    rcases hzz with ⟨h0, rfl⟩ | ⟨h0, rfl⟩
    · simp only [h0, if_true, Sem.run_bind, Sem.run_pure, Result.andThen_ok, newRow_run]
    · simp only [h0, if_false, Sem.run_bind, Sem.run_pure, Result.andThen_ok, hz, newRow_run]
  · simp only [VRel]
    exact ⟨_, _, c.toNat, IM.put_self _ _ _, rfl, by omega, fun _ => by simp, rfl⟩

/-! ### What is laid -/
theorem rd_sound (hr : Rel G ι σ w) {a : Option (Nat × Nat)} {m : Nat} {vs : List AV} (h : rd σ a m = some vs) {a' : Option Addr} (ha : m ≠ 0 → ∀ b o, a = some (b, o) → ∃ p, ι b = some p ∧ a' = some ⟨p.blk, p.base + o, none⟩) :
    vs.length = m ∧ ((m = 0 ∧ vs = []) ∨ ∃ x us, a' = some x ∧ us.length = m ∧ VRelL ι vs us ∧ ∀ P : Program, (loadCells x m).run P w = .ok (List.toArray us) w) := by
  unfold rd at h
  split at h
  · cases h; rename_i h0; subst h0; exact ⟨rfl, .inl ⟨rfl, rfl⟩⟩
  · rename_i h0
    split at h
    · cases h
    · rename_i b o
      obtain ⟨p, hp, rfl⟩ := ha h0 b o rfl
      obtain ⟨us, h1, h2, _, h3⟩ := load_range hr hp h
      exact ⟨range_length h, .inr ⟨_, us, rfl, h1, h2, h3⟩⟩

theorem byte_rel (l : List UInt8) : VRelL ι (l.map byteAV) (l.map fun b => Value.int .u8 b.toNat) := by
  refine .of_get (by simp) fun i a v ha hv => ?_
  rw [List.getElem?_map] at ha hv
  cases hx : l[i]? with
  | none => rw [hx] at ha; cases ha
  | some c =>
    rw [hx] at ha hv
    cases ha; cases hv
    simp only [byteAV, VRel]

/-- 'firstCells' of what is to be laid. -/
theorem srcVc_sound (hr : Rel G ι σ w) {sz m : Nat} {x : AV} {x' : Value} {K : List AV → Prop} (h : srcVc sz x m σ K) (hx : VRel ι x x') (hm : lenA x fun n => m ≤ n) (hsz : sz ≠ 0) :
    ∃ new us, new.length = m * sz ∧ VRelL ι new us ∧ leaves new = true ∧ (Builtin.firstCells sz m x').run C.P w = .ok (List.toArray us) w ∧ K new := by
  unfold srcVc at h
  split at h
  case h_3 => cases h
  · rename_i a n c
    obtain ⟨new, h1, h2, h3⟩ := h
    obtain ⟨a', ĉ, rfl, hn, hnil, hs⟩ := vrel_slice hx
    simp only [lenA] at hm
    have hrd := rd_sound hr h1 (a' := a') (fun h0 b o hbo => by
      obtain ⟨p, z, hp, rfl, hz, _⟩ := hs b o hbo
      have : m ≠ 0 := fun e => h0 (by rw [e, Nat.zero_mul])
      exact ⟨p, hp, by rw [hz (by omega)]⟩)
    rcases hrd with ⟨hlen, ⟨h0, rfl⟩ | ⟨z, us, rfl, hul, hur, hrun⟩⟩
    · have hm0 : m = 0 := (Nat.mul_eq_zero.1 h0).resolve_right hsz
      subst hm0
      refine ⟨[], [], by simp, .nil, rfl, ?_, h3⟩
      cases a' with
      | none => simp [Builtin.firstCells]
      | some z => simp [Builtin.firstCells, loadCells, loadCellsFrom]
    · exact ⟨new, us, hlen, hur, h2, hrun _, h3⟩
  · rename_i s
    split at h
    case isFalse => cases h
    rename_i h1
    subst h1
    simp only [lenA] at hm
    simp only [VRel] at hx
    subst hx
    refine ⟨_, (s.take m).map fun b => Value.int .u8 b.toNat, by simp; omega, byte_rel _, ?_, ?_, h⟩
    · unfold leaves
      rw [List.all_map]
      simp [byteAV, AV.leaf, Function.comp_def]
    · simp only [Builtin.firstCells, Sem.run_pure, str_extract]
      simp

theorem lenA_sound {x : AV} {x' : Value} {K : Nat → Prop} (h : lenA x K) (hx : VRel ι x x') : ∃ n, K n ∧ lenA x (fun k => k = n) ∧ ∀ (P : Program) (w : World), (Builtin.lenOf x').run P w = .ok n w := by
  unfold lenA at h
  split at h
  case h_3 => cases h
  · rename_i a n c
    obtain ⟨a', ĉ, rfl, _⟩ := vrel_slice hx
    exact ⟨n, h, rfl, fun P w => rfl⟩
  · rename_i s
    simp only [VRel] at hx
    subst hx
    exact ⟨s.length, h, rfl, fun P w => by simp [Builtin.lenOf, ByteArray.size]⟩

/-! ### append -/
theorem growBy_le (need : Nat) : ∀ (r c : Nat), 256 ≤ c → c < 2 * need → need ≤ 2 * need → Builtin.growBy need r c ≤ 2 * need
  | 0, c, _, h, _ => by simp only [Builtin.growBy]; omega
  | r + 1, c, h1, h2, h3 => by
    simp only [Builtin.growBy]
    split
    · omega
    · rename_i h
      by_cases h4 : c + (c + 768) / 4 < 2 * need
      · exact growBy_le need r _ (by omega) h4 h3
      · omega
theorem nextcap_le {need cap : Nat} (h : cap < need) : Builtin.nextslicecap need cap ≤ 2 * need := by
  unfold Builtin.nextslicecap
  split
  · omega
  · split
    · omega
    · exact growBy_le need 4 cap (by omega) (by omega) (by omega)

theorem zeroCells_one {z : Array Value} (hz : ∀ v, v ∈ z → v.oneCell' = true) (n : Nat) : ∀ u ∈ (Builtin.zeroCells z n).toList, u.oneCell' = true := by
  unfold Builtin.zeroCells
  exact mem_rep hz _ (fun h h0 => h (by rw [h0, Nat.mul_zero]))
theorem zeroCells_size (z : Array Value) (n : Nat) : (Builtin.zeroCells z n).toList.length = n * z.size := by simp [Builtin.zeroCells]
theorem zeroCells_rel {z : List AV} {z' : Array Value} (h : VRelL ι z z'.toList) (n : Nat) : VRelL ι (repL z n) (Builtin.zeroCells z' n).toList := by
  have hl := h.length
  simp only [Array.length_toList] at hl
  unfold Builtin.zeroCells
  exact rep_rel h n _ (by rw [hl])
theorem leaves_rep {z : List AV} (h : leaves z = true) : ∀ n, leaves (repL z n) = true
  | 0 => rfl
  | n + 1 => by
    have := leaves_rep h n
    unfold leaves at *
    simp [repL, h, this]
theorem leaves_append {a b : List AV} (h : leaves a = true) (h' : leaves b = true) : leaves (a ++ b) = true := by
  unfold leaves at *
  simp only [List.all_append, h, h', Bool.and_self]

/-- The model's append, once it is known what is laid: 'new', of m elements. -/
def appendTail (elem : TypeId) (size : Nat) (base : Option Addr) (sLen sCap n : Nat) (zeros : Bool) (x s : Value) (appended : Sem (Array Value)) : Sem Value := do
  let need := sLen + n
  if need ≤ sCap then
    let new ← appended
    if let some a := base then storeCells (a.add (sLen * size)) new.toList
    pure (.slice base need sCap)
  else
    if (need : Int) > IntKind.i64.max ∧ (zeros ∨ (← typeInfo elem).bytes = 0) then runtimePanic (.error "growslice: len out of range")
    if Builtin.nextslicecap need sCap * (← typeInfo elem).bytes > 2 ^ 48 then (if zeros then runtimePanic (.error "growslice: len out of range") else do
      if !(← Builtin.mayShare size sLen n base x) then mark .noRoom
      unsupported (.resourceLimit "append: a slice or a string whose bytes no memory bears"))
    let newCap ← choose (.appendCap need sCap elem)
    askRoom (newCap * (← typeInfo elem).bytes)
    let old ← Builtin.firstCells size sLen s
    let new ← appended
    let rest := Builtin.zeroCells (← zeroValue elem).cells (newCap - need)
    pure (.slice (some (← newRow elem (old ++ new ++ rest))) need newCap)

theorem append_grow (hr : Rel G ι σ w) {e : TypeId} {y : TI} (hy : C.ti e = some y) (hys : y.size ≠ 0) (hyb : y.bytes ≠ 0) {base : Option Addr} {n cap m : Nat} (zeros : Bool) (x s : Value) {appended : Sem (Array Value)}
    {old new : List AV} {os us : List Value} (hcap : ¬ n + m ≤ cap) (hb : (n + m) * y.bytes ≤ 2 ^ 47)
    (happ : ∀ d, appended.run C.P { w with drawn := d } = .ok us.toArray { w with drawn := d }) (hold : ∀ d, (Builtin.firstCells y.size n s).run C.P { w with drawn := d } = .ok os.toArray { w with drawn := d })
    (ho : VRelL ι old os) (hn : VRelL ι new us) (hol : old.length = n * y.size) (hnl : new.length = m * y.size) (hlo : leaves old = true) (hln : leaves new = true) :
    ∃ newCap ι' w', (appendTail e y.size base n cap m zeros x s appended).run C.P w = .ok (.slice (some ⟨w.heap.size, 0, none⟩) (n + m) newCap) w' ∧ n + m ≤ newCap ∧
      ι' = ι.put σ.next ⟨w.heap.size, 0, newCap * y.size, y.size⟩ ∧ Rel G ι' (σ.alloc (.cells (old ++ new) (.grow y.size))) w' := by
  obtain ⟨z, hz, hzs, hzl, hz1⟩ := C.zero hy
  obtain ⟨i, hi, hib, his⟩ := C.bytes hy
  have hbig : ¬ (((n + m : Nat) : Int) > IntKind.i64.max ∧ (zeros = true ∨ i.bytes = 0)) := by
    rintro ⟨h1, _⟩
    have h2 : n + m ≤ (n + m) * y.bytes := Nat.le_mul_of_pos_right _ (by omega)
    have h3 : IntKind.i64.max = 9223372036854775807 := by rfl
    omega
  have hlim : ¬ Builtin.nextslicecap (n + m) cap * i.bytes > 2 ^ 48 := by
    have h1 := nextcap_le (need := n + m) (cap := cap) (by omega)
    have h2 : Builtin.nextslicecap (n + m) cap * i.bytes ≤ (2 * (n + m)) * i.bytes := Nat.mul_le_mul_right _ h1
    rw [hib] at *
    have h3 : 2 * (n + m) * y.bytes = 2 * ((n + m) * y.bytes) := Nat.mul_assoc _ _ _
    omega
  obtain ⟨newCap, hchoose, hle⟩ : ∃ newCap, (choose (.appendCap (n + m) cap e)).run C.P w = .ok newCap { w with drawn := w.drawn + 1 } ∧ n + m ≤ newCap := by
    refine ⟨(Question.appendCap (n + m) cap e).cut (w.tape w.drawn (.appendCap (n + m) cap e)), by rw [run_choose]; simp only [Question.forced, Bool.false_eq_true, if_false], ?_⟩
    simp only [Question.cut]
    omega
  have hr1 : Rel G ι σ { w with drawn := w.drawn + 1 } := hr.drawn _
  have hcells := new_cells hr1 (old ++ new) (os ++ us) (.grow y.size) e y.size (Builtin.zeroCells z.cells (newCap - (n + m))).toList (0, 0) (ho.append hn) (leaves_append hlo hln) (zeroCells_one hz1 _) (fun h => by cases h) (fun s hs => by cases hs; rfl) (by simp)
  have hol' := ho.length
  have hnl' := hn.length
  have hsz : (os ++ us).length + (Builtin.zeroCells z.cells (newCap - (n + m))).toList.length = newCap * y.size := by
    rw [List.length_append, hol', hnl', hol, hnl, zeroCells_size, hzl, ← Nat.add_mul, ← Nat.add_mul]
    congr 1; omega
  rw [hsz] at hcells
  refine ⟨newCap, _, _, ?_, hle, rfl, hcells⟩
  unfold appendTail
  rw [if_neg hcap]
  simp only [Sem.run_bind, hi, Result.andThen_ok, if_neg hbig, if_neg hlim, hchoose, run_askRoom, hold, happ, hz, newRow_run, Sem.run_pure]
  congr 2
  simp

end
end Go.Proofs.YthpngchngnaloaaGreatDoor.Vm
