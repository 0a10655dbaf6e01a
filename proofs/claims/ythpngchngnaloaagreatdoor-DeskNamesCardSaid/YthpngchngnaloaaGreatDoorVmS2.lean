/- The operations of the model do what the abstract machine asks: new variables, aggregates, places. -/
import Derived.Test.YthpngchngnaloaaGreatDoorVmS1
namespace Go.Proofs.YthpngchngnaloaaGreatDoor.Vm
open RowKit (Below)

section
variable {C : Cx} {G : Base} {ι : IM} {σ : AH} {w : World}

/-! ### New variables -/
theorem newRow_run (P : Program) (e : TypeId) (us : Array Value) (w : World) : (newRow e us).run P w = .ok ⟨w.heap.size, 0, none⟩ (w.alloc (.cells us e)) := rfl

theorem new_sound (hr : Rel G ι σ w) {vs : List AV} {us : List Value} {K : AV → AH → Prop} (h : newVc vs σ K) (hv : VRelL ι vs us) (e : TypeId) :
    ∃ v σ' ι' w', Rel G ι' σ' w' ∧ Ext σ.next ι ι' ∧ σ.next ≤ σ'.next ∧ VRel ι' v (.pointer (some ⟨w.heap.size, 0, none⟩)) ∧ w' = w.alloc (.cells us.toArray e) ∧ K v σ' := by
  unfold newVc at h
  split at h
  case isFalse => cases h
  rename_i hl
  have := new_cells hr vs us (.exact 1) e 1 [] (0, 0) hv hl (by simp) (fun _ => rfl) (fun s hs => by cases hs; rfl) (by simp)
  rw [List.append_nil] at this
  refine ⟨_, _, _, _, this, Ext.put _ _ _ (Nat.le_refl _), by simp, ?_, rfl, h⟩
  simp only [VRel]
  exact ⟨_, IM.put_self _ _ _, by simp⟩

theorem allocVc_sound (hr : Rel G ι σ w) {t : TypeId} {ti : TI} {K : AV → AH → Prop} (hti : C.ti t = some ti) (h : newVc ti.zero σ K) :
    ∃ v v' σ' ι' w', (Instr.alloc t true (.tuple #[])).run C.P w = .ok v' w' ∧ Rel G ι' σ' w' ∧ Ext σ.next ι ι' ∧ σ.next ≤ σ'.next ∧ VRel ι' v v' ∧ K v σ' := by
  obtain ⟨z, hz, hzs, _⟩ := C.zero hti
  obtain ⟨v, σ', ι', w', h1, h2, h3, h4, h5, h6⟩ := new_sound hr h (hzs ▸ ofVs_rel ι z.cells.toList) t
  refine ⟨v, _, σ', ι', w', ?_, h1, h2, h3, h4, h6⟩
  simp only [Instr.alloc, newVar, Sem.run_bind, hz, Result.andThen_ok, newRow_run, Sem.run_pure, h5]

theorem boxVc_sound (hr : Rel G ι σ w) {t : TypeId} {x : AV} {x' : Value} {K : AV → AH → Prop} (h : newVc x.cells σ K) (hx : VRel ι x x') :
    ∃ v v' σ' ι' w', (Instr.box t x').run C.P w = .ok v' w' ∧ Rel G ι' σ' w' ∧ Ext σ.next ι ι' ∧ σ.next ≤ σ'.next ∧ VRel ι' v v' ∧ K v σ' := by
  have hl : leaves x.cells = true := by
    unfold newVc at h; split at h
    · assumption
    · cases h
  obtain ⟨v, σ', ι', w', h1, h2, h3, h4, h5, h6⟩ := new_sound hr h (cells_rel hx hl) t
  refine ⟨v, _, σ', ι', w', ?_, h1, h2, h3, h4, h6⟩
  simp only [Instr.box, newVar, Sem.run_bind, Result.andThen_ok, newRow_run, Sem.run_pure, h5]

/-! ### Aggregates -/
theorem zip_lay : ∀ (l : List Value) (k off : Nat) (c : Array Value), (l.zipIdx k).foldl (fun cs (x : Value × Nat) => cs.setIfInBounds (off + x.2) x.1) c = layA c (off + k) l
  | [], _, _, _ => rfl
  | v :: l, k, off, c => by
    simp only [List.zipIdx_cons, List.foldl_cons, layA]
    rw [zip_lay l (k + 1) off]
    rfl
theorem fold_lay (vs : Array Value) (off : Nat) (c : Array Value) : vs.zipIdx.foldl (fun cs (x : Value × Nat) => cs.setIfInBounds (off + x.2) x.1) c = layA c off vs.toList := by
  rw [← Array.foldl_toList, Array.toList_zipIdx]
  exact zip_lay _ 0 _ _

theorem lay_rel {cs vs : List AV} {ĉs : Array Value} {us : List Value} {o : Nat} (h : VRelL ι cs ĉs.toList) (hv : VRelL ι vs us) (ho : o + vs.length ≤ cs.length) :
    VRelL ι (layL cs o vs) (layA ĉs o us).toList := by
  have h1 := h.length
  have h2 := hv.length
  simp only [Array.length_toList] at h1
  refine .of_get (by simp [layL_length, layA_size, h1]) fun i a v ha hv' => ?_
  rw [layA_toList_get _ _ _ _ (by omega)] at hv'
  rw [layL_get _ _ _ _ ho] at ha
  by_cases hin : o ≤ i ∧ i < o + vs.length
  · rw [if_pos hin] at ha
    rw [if_pos (by omega)] at hv'
    obtain ⟨u, hu, hur⟩ := hv.get ha
    rw [hu] at hv'; cases hv'; exact hur
  · rw [if_neg hin] at ha
    rw [if_neg (by omega)] at hv'
    obtain ⟨u, hu, hur⟩ := h.get ha
    rw [hu] at hv'; cases hv'; exact hur

inductive PRel (ι : IM) : List (Nat × AV) → List (Nat × Value) → Prop
  | nil : PRel ι [] []
  | cons (i : Nat) {v : AV} {v' : Value} {l : List (Nat × AV)} {l' : List (Nat × Value)} (h : VRel ι v v') (h' : PRel ι l l') : PRel ι ((i, v) :: l) ((i, v') :: l')

theorem fill_sound {place place' : Nat → Option (Nat × Nat)} (hpl : ∀ i x, place i = some x → place' i = some x) : ∀ {parts : List (Nat × AV)} {parts' : List (Nat × Value)} {cs out : List AV} {ĉs : Array Value},
    fillL place cs parts = some out → PRel ι parts parts' → VRelL ι cs ĉs.toList → ∃ out', Instr.fill place' ĉs parts' = some out' ∧ VRelL ι out out'.toList
  | [], _, cs, out, ĉs, h, hp, hc => by
    cases hp
    simp only [fillL, Option.some.injEq] at h
    subst h
    exact ⟨ĉs, by simp [Instr.fill], hc⟩
  | (i, v) :: rest, _, cs, out, ĉs, h, hp, hc => by
    cases hp with
    | cons _ hv hrest =>
      rename_i v' l'
      simp only [fillL] at h
      split at h
      · cases h
      rename_i off size hpi
      split at h
      case isFalse => cases h
      rename_i hlv
      split at h
      case isFalse => cases h
      rename_i hsz
      split at h
      case isFalse => cases h
      rename_i hoff
      have hcr := cells_rel hv hlv
      have hlen := hcr.length
      have hclen := hc.length
      simp only [Array.length_toList] at hlen hclen
      obtain ⟨out', h1, h2⟩ := fill_sound hpl h hrest (lay_rel hc hcr hoff)
      refine ⟨out', ?_, h2⟩
      simp only [Instr.fill, hpl _ _ hpi]
      rw [if_neg (by simp; omega), fold_lay]
      exact h1

theorem run_mapM_fields (P : Program) (w : World) (g : TypeId → Nat) : ∀ (l : List Field), (∀ f ∈ l, ∀ w, (sizeOf f.type).run P w = .ok (g f.type) w) →
    (l.mapM (fun f => do pure (f.offset, ← sizeOf f.type)) : Sem (List (Nat × Nat))).run P w = .ok (l.map fun f => (f.offset, g f.type)) w
  | [], _ => by simp
  | f :: l, h => by
    simp only [List.mapM_cons, Sem.run_bind, h f (by simp), Result.andThen_ok, Sem.run_pure]
    rw [run_mapM_fields P w g l (fun f hf => h f (by simp [hf]))]
    simp

theorem buildVc_sound {t : TypeId} {parts : List (Nat × AV)} {parts' : Array (Nat × Value)} {K : AV → Prop} (h : buildVc C t parts K) (hp : PRel ι parts parts'.toList) :
    ∃ v v', (∀ w, (Instr.build t parts').run C.P w = .ok v' w) ∧ VRel ι v v' ∧ K v := by
  unfold buildVc at h
  split at h
  case h_2 => cases h
  rename_i ti hti
  obtain ⟨z, hz, hzs, _⟩ := C.zero hti
  obtain ⟨d, hd, htd, hdP⟩ := C.und hti
  have hzr : VRelL ι ti.zero z.cells.toList := hzs ▸ ofVs_rel ι z.cells.toList
  split at h
  case h_3 => cases h
  · rename_i fs hfs
    split at h
    case isFalse => cases h
    rename_i hall
    split at h
    case h_2 => cases h
    rename_i cs hfill
    obtain ⟨F, rfl, hF⟩ := td_struct (htd.trans hfs)
    let g : TypeId → Nat := fun t => ((C.ti t).map (·.size)).getD 0
    have hmap : ∀ w, (F.mapM (fun f => do pure (f.offset, ← sizeOf f.type)) : Sem (Array (Nat × Nat))).run C.P w = .ok (F.map fun f => (f.offset, g f.type)) w := by
      intro w
      rw [Array.mapM_eq_mapM_toList, Sem.run_map, run_mapM_fields C.P w g F.toList]
      · rw [Result.andThen_ok, ← Array.toList_map, Array.toArray_toList]
      · intro f hf w
        have : (C.ti f.type).isSome = true := by
          have := List.all_eq_true.1 hall (f.offset, f.type) (by rw [← hF]; exact List.mem_map.2 ⟨f, hf, rfl⟩)
          exact this
        obtain ⟨x, hx⟩ := Option.isSome_iff_exists.1 this
        simp only [g, hx, Option.map_some, Option.getD_some]
        exact C.size hx w
    obtain ⟨out', h1, h2⟩ := fill_sound (place' := fun i => (F.map fun f => (f.offset, g f.type))[i]?) (fun i x hx => by
      split at hx
      · rename_i off ft hi
        obtain ⟨y, hy, rfl⟩ := Option.map_eq_some_iff.1 hx
        rw [← hF, List.getElem?_map] at hi
        obtain ⟨f, hf, he⟩ := Option.map_eq_some_iff.1 hi
        rw [Array.getElem?_toList] at hf
        rw [Array.getElem?_map, hf]
        simp only [Prod.mk.injEq] at he
        simp [g, he.1, he.2, hy]
      · cases hx) hfill hp hzr
    refine ⟨.agg cs, .agg out', fun w => ?_, by simp only [VRel]; exact ⟨out'.toList, by simp, h2⟩, h⟩
    simp only [Instr.build, Sem.run_bind, hz, hd, Result.andThen_ok, hmap, h1, Sem.run_pure]
  · rename_i n e hfs
    split at h
    case h_2 => cases h
    rename_i x hx
    split at h
    case h_2 => cases h
    rename_i cs hfill
    obtain rfl := td_array (htd.trans hfs)
    obtain ⟨out', h1, h2⟩ := fill_sound (place' := fun i => some (i * x.size, x.size)) (fun i x hx => hx) hfill hp hzr
    refine ⟨.agg cs, .agg out', fun w => ?_, by simp only [VRel]; exact ⟨out'.toList, by simp, h2⟩, h⟩
    simp only [Instr.build, Sem.run_bind, hz, hd, Result.andThen_ok, C.size hx, h1, Sem.run_pure]

theorem repL_length (z : List AV) : ∀ n, (repL z n).length = n * z.length
  | 0 => by simp [repL]
  | n + 1 => by simp [repL, repL_length z n, Nat.succ_mul]; omega
theorem repL_get (z : List AV) : ∀ n i, i < n * z.length → (repL z n)[i]? = z[i % z.length]?
  | 0, i, h => by simp at h
  | n + 1, i, h => by
    simp only [repL]
    by_cases hi : i < z.length
    · rw [List.getElem?_append_left hi, Nat.mod_eq_of_lt hi]
    · rw [List.getElem?_append_right (by omega), repL_get z n _ (by rw [Nat.succ_mul] at h; omega)]
      congr 1
      rw [Nat.mod_eq_sub_mod (a := i) (by omega)]
theorem rep_rel {z : List AV} {zv : Array Value} (h : VRelL ι z zv.toList) (n m : Nat) (hm : m = n * z.length) : VRelL ι (repL z n) ((Array.range m).map (zv[· % zv.size]!)).toList := by
  have hl := h.length
  simp only [Array.length_toList] at hl
  refine .of_get (by simp [repL_length, hm]) fun i a v ha hv => ?_
  have hi : i < n * z.length := by have := (List.getElem?_eq_some_iff.1 ha).1; rwa [repL_length] at this
  rw [repL_get z n i hi] at ha
  have hz : 0 < z.length := by
    rcases Nat.eq_zero_or_pos z.length with h0 | h0
    · rw [h0] at hi; simp at hi
    · exact h0
  simp only [Array.toList_map, Array.toList_range, List.getElem?_map, List.getElem?_range (hm ▸ hi), Option.map_some, Option.some.injEq] at hv
  obtain ⟨u, hu, hur⟩ := h.get ha
  have hlt : i % zv.size < zv.size := Nat.mod_lt _ (by omega)
  rw [getElem!_pos zv _ hlt] at hv
  rw [Array.getElem?_toList, ← hl, Array.getElem?_eq_getElem hlt] at hu
  cases hu
  rw [← hv]; exact hur

theorem buildSliceVc_sound (hr : Rel G ι σ w) {t : TypeId} {len : Nat} {parts : List (Nat × AV)} {parts' : Array (Nat × Value)} {K : AV → AH → Prop} (h : buildSliceVc C t len parts σ K) (hp : PRel ι parts parts'.toList) :
    ∃ v v' σ' ι' w', (Instr.buildSlice t len parts').run C.P w = .ok v' w' ∧ Rel G ι' σ' w' ∧ Ext σ.next ι ι' ∧ σ.next ≤ σ'.next ∧ VRel ι' v v' ∧ K v σ' := by
  unfold buildSliceVc at h
  split at h
  case h_2 => cases h
  rename_i ti hti
  obtain ⟨d, hd, htd, hdP⟩ := C.und hti
  split at h
  case h_2 => cases h
  rename_i e he
  obtain rfl := td_slice (htd.trans he)
  split at h
  case h_2 => cases h
  rename_i x hx
  obtain ⟨z, hz, hzs, hzl, _⟩ := C.zero hx
  have hzr : VRelL ι x.zero z.cells.toList := hzs ▸ ofVs_rel ι z.cells.toList
  have hzl' : x.zero.length = x.size := by rw [← hzs, ofVs_length, Array.length_toList, hzl]
  split at h
  case isFalse => cases h
  rename_i hlim
  split at h
  case h_2 => cases h
  rename_i cs hfill
  split at h
  case isFalse => cases h
  rename_i hl
  obtain ⟨zz, hzz, hzzr⟩ : ∃ zz : Array Value, ((len * x.size = 0 ∧ zz = #[]) ∨ (len * x.size ≠ 0 ∧ zz = z.cells)) ∧
      VRelL ι (repL x.zero len) ((Array.range (len * x.size)).map (zz[· % zz.size]!)).toList := by
    by_cases h0 : len * x.size = 0
    · refine ⟨#[], .inl ⟨h0, rfl⟩, ?_⟩
      have : repL x.zero len = [] := List.length_eq_zero_iff.1 (by rw [repL_length, hzl', h0])
      rw [this, h0]; simp [VRelL]
    · refine ⟨z.cells, .inr ⟨h0, rfl⟩, ?_⟩
      exact rep_rel hzr len _ (by rw [hzl'])
  obtain ⟨out', h1, h2⟩ := fill_sound (place' := fun i => some (i * x.size, x.size)) (fun i x hx => hx) hfill hp hzzr
  have hnew := new_cells hr cs out'.toList (.exact x.size) e x.size [] (0, 0) h2 hl (by simp) (fun _ => rfl) (fun s hs => by cases hs; rfl) (by simp)
  rw [List.append_nil] at hnew
  refine ⟨_, .slice (some ⟨w.heap.size, 0, none⟩) len len, _, _, _, ?_, hnew, Ext.put _ _ _ (Nat.le_refl _), by simp, ?_, h⟩
  · simp only [Instr.buildSlice, Sem.run_bind, hd, Result.andThen_ok, C.size hx]
    rw [if_neg (by omega)]
    rcases hzz with ⟨h0, rfl⟩ | ⟨h0, rfl⟩
    · simp only [h0, if_true, Sem.run_bind, Sem.run_pure, Result.andThen_ok]
      rw [h0] at h1
      simp only [h1, Sem.run_bind, Sem.run_pure, Result.andThen_ok, newRow_run, Array.toArray_toList]
    · simp only [h0, if_false, Sem.run_bind, Sem.run_pure, Result.andThen_ok, hz, h1, newRow_run, Array.toArray_toList]
  · simp only [VRel]
    exact ⟨_, _, len, IM.put_self _ _ _, rfl, Nat.le_refl _, fun _ => by simp, rfl⟩

theorem partVc_sound {t : TypeId} {cs : List AV} {ĉs : Array Value} {off : Nat} {K : AV → Prop} (h : partVc C t cs off K) (hc : VRelL ι cs ĉs.toList) :
    ∃ v v', (∀ w, (part t ĉs off).run C.P w = .ok v' w) ∧ VRel ι v v' ∧ K v := by
  unfold partVc at h
  split at h
  case h_2 => cases h
  rename_i ti hti
  split at h
  · rename_i hagg
    refine ⟨_, .agg (ĉs.extract off (off + ti.size)), fun w => ?_, ?_, h⟩
    · simp only [part, Sem.run_bind, C.isAgg hti, hagg, Result.andThen_ok, if_true, C.size hti, Sem.run_pure]
    · simp only [VRel]
      refine ⟨(ĉs.toList.drop off).take ti.size, ?_, (hc.drop off).take _⟩
      congr 1
      apply Array.ext'
      rw [Array.toList_extract, List.extract_eq_take_drop, show off + ti.size - off = ti.size by omega]
  · rename_i hagg
    split at h
    case h_2 => cases h
    rename_i v hv
    obtain ⟨u, hu, hur⟩ := hc.get hv
    refine ⟨v, u, fun w => ?_, hur, h⟩
    rw [Array.getElem?_toList] at hu
    simp only [part, Sem.run_bind, C.isAgg hti, hagg, Bool.false_eq_true, Result.andThen_ok, if_false, hu, Sem.run_pure]

theorem vrel_agg {cs : List AV} {v : Value} (h : VRel ι (.agg cs) v) : ∃ l : Array Value, v = .agg l ∧ VRelL ι cs l.toList := by
  simp only [VRel] at h
  obtain ⟨l, rfl, h⟩ := h
  exact ⟨_, rfl, h⟩

theorem fieldVc_sound {t : TypeId} {x : AV} {x' : Value} {f : Nat} {K : AV → Prop} (h : fieldVc C t x f K) (hx : VRel ι x x') :
    ∃ v v', (∀ w, (Instr.field t x' f).run C.P w = .ok v' w) ∧ VRel ι v v' ∧ K v := by
  unfold fieldVc at h
  split at h
  case h_2 => cases h
  rename_i ti cs hti
  obtain ⟨d, hd, htd, hdP⟩ := C.und hti
  split at h
  case h_2 => cases h
  rename_i fs hfs
  obtain ⟨F, rfl, hF⟩ := td_struct (htd.trans hfs)
  split at h
  case h_2 => cases h
  rename_i off ft hf
  obtain ⟨l, rfl, hl⟩ := vrel_agg hx
  obtain ⟨v, v', h1, h2, h3⟩ := partVc_sound h hl
  refine ⟨v, v', fun w => ?_, h2, h3⟩
  rw [← hF, List.getElem?_map] at hf
  obtain ⟨fl, hfl, he⟩ := Option.map_eq_some_iff.1 hf
  rw [Array.getElem?_toList] at hfl
  simp only [Prod.mk.injEq] at he
  simp only [Instr.field, Sem.run_bind, hd, Result.andThen_ok, hfl, asAgg, Sem.run_pure, he.1, he.2, h1]

theorem fieldAddrVc_sound {t : TypeId} {x : AV} {x' : Value} {f : Nat} {K : AV → Prop} (h : fieldAddrVc C t x f K) (hx : VRel ι x x') :
    ∃ v v', (∀ w, (Instr.fieldAt t x' f).run C.P w = .ok v' w) ∧ VRel ι v v' ∧ K v := by
  unfold fieldAddrVc at h
  split at h
  case h_2 => cases h
  rename_i ti a hti
  obtain ⟨d, hd, htd, hdP⟩ := C.und hti
  split at h
  case h_2 => cases h
  rename_i fs hfs
  obtain ⟨F, rfl, hF⟩ := td_struct (htd.trans hfs)
  split at h
  case h_2 => cases h
  rename_i off ft hf
  split at h
  case h_2 => cases h
  rename_i y hy
  split at h
  case isTrue => cases h
  rename_i hne
  obtain ⟨b, o, rfl, h⟩ := atP_some h
  obtain ⟨p, hp, rfl⟩ := vrel_ptr hx
  rw [← hF, List.getElem?_map] at hf
  obtain ⟨fl, hfl, he⟩ := Option.map_eq_some_iff.1 hf
  rw [Array.getElem?_toList] at hfl
  simp only [Prod.mk.injEq] at he
  refine ⟨_, .pointer (some ⟨p.blk, p.base + o + off, none⟩), fun w => ?_, ?_, h⟩
  · simp only [Instr.fieldAt, Sem.run_bind, hd, Result.andThen_ok, hfl, Instr.sureAddr, fieldPlace, Sem.run_pure, he.1, he.2, C.size hy, hne, if_false, addr_add]
  · simp only [VRel]; exact ⟨p, hp, by rw [Nat.add_assoc]⟩

theorem vrel_slice {a : Option (Nat × Nat)} {n : Nat} {c : Cp} {v : Value} (h : VRel ι (.slice a n c) v) : ∃ a' ĉ, v = .slice a' n ĉ ∧ n ≤ ĉ ∧ (a = none → a' = none ∧ n = 0 ∧ ĉ = 0 ∧ c = .k 0) ∧
    (∀ b o, a = some (b, o) → ∃ p x, ι b = some p ∧ a' = some x ∧ (0 < ĉ → x = ⟨p.blk, p.base + o, none⟩) ∧ capRel p o ĉ c) := by
  rcases a with _ | ⟨b, o⟩
  · simp only [VRel] at h
    obtain ⟨rfl, rfl, rfl⟩ := h
    exact ⟨none, 0, rfl, Nat.le_refl _, fun _ => ⟨rfl, rfl, rfl, rfl⟩, fun b o h => (by cases h)⟩
  · simp only [VRel] at h
    obtain ⟨p, x, ĉ, hp, rfl, h1, h2, h3⟩ := h
    refine ⟨some x, ĉ, rfl, h1, fun h => (by cases h), fun b' o' h => ?_⟩
    cases h
    exact ⟨p, x, hp, rfl, h2, h3⟩

theorem indexAddrVc_sound {t : TypeId} {x i : AV} {x' i' : Value} {K : AV → Prop} (h : indexAddrVc C t x i K) (hx : VRel ι x x') (hi : VRel ι i i') :
    ∃ v v', (∀ w, (Instr.indexAt t x' i').run C.P w = .ok v' w) ∧ VRel ι v v' ∧ K v := by
  unfold indexAddrVc at h
  split at h
  case h_2 => cases h
  rename_i ti k i hti
  obtain ⟨d, hd, htd, hdP⟩ := C.und hti
  simp only [VRel] at hi
  subst hi
  split at h
  case h_3 => cases h
  · rename_i n e a hte
    obtain rfl := td_array (htd.trans hte)
    split at h
    case h_2 => cases h
    rename_i y hy
    obtain ⟨h0, h1, h⟩ := h
    obtain ⟨b, o, rfl, h⟩ := atP_some h
    obtain ⟨p, hp, rfl⟩ := vrel_ptr hx
    refine ⟨_, .pointer (some ⟨p.blk, p.base + o + i.toNat * y.size, none⟩), fun w => ?_, ?_, h⟩
    · simp only [Instr.indexAt, asIntOf, Sem.run_bind, Sem.run_pure, hd, Result.andThen_ok, Instr.sureAddr, h0, h1, and_self, if_true, C.size hy, addr_add]
    · simp only [VRel]; exact ⟨p, hp, by rw [Nat.add_assoc]⟩
  · rename_i e a n c hte
    obtain rfl := td_slice (htd.trans hte)
    split at h
    case h_2 => cases h
    rename_i y hy
    obtain ⟨h0, h1, h⟩ := h
    obtain ⟨b, o, rfl, h⟩ := atP_some h
    obtain ⟨a', ĉ, rfl, hn, _, hs⟩ := vrel_slice hx
    obtain ⟨p, z, hp, rfl, hz, _⟩ := hs b o rfl
    obtain rfl := hz (by omega)
    refine ⟨_, .pointer (some ⟨p.blk, p.base + o + i.toNat * y.size, none⟩), fun w => ?_, ?_, h⟩
    · simp only [Instr.indexAt, asIntOf, Sem.run_bind, Sem.run_pure, hd, Result.andThen_ok, h0, h1, and_self, if_true, C.size hy, addr_add]
    · simp only [VRel]; exact ⟨p, hp, by rw [Nat.add_assoc]⟩

theorem str_get (s : List UInt8) (i : Nat) : (⟨s.toArray⟩ : ByteArray)[i]? = s[i]? := by
  by_cases h : i < s.length
  · rw [List.getElem?_eq_getElem h]
    have h' : i < (⟨s.toArray⟩ : ByteArray).size := by simpa [ByteArray.size] using h
    rw [getElem?_pos (⟨s.toArray⟩ : ByteArray) i h']
    rfl
  · rw [List.getElem?_eq_none (by omega)]
    exact getElem?_neg (⟨s.toArray⟩ : ByteArray) i (by simpa [ByteArray.size] using h)

theorem indexVc_sound {t : TypeId} {x i : AV} {x' i' : Value} {K : AV → Prop} (h : indexVc C t x i K) (hx : VRel ι x x') (hi : VRel ι i i') :
    ∃ v v', (∀ w, (Instr.index t x' i').run C.P w = .ok v' w) ∧ VRel ι v v' ∧ K v := by
  unfold indexVc at h
  split at h
  case h_2 => cases h
  rename_i ti k i hti
  obtain ⟨d, hd, htd, hdP⟩ := C.und hti
  simp only [VRel] at hi
  subst hi
  split at h
  case h_3 => cases h
  · rename_i n e cs hte
    obtain rfl := td_array (htd.trans hte)
    split at h
    case h_2 => cases h
    rename_i y hy
    obtain ⟨h0, h1, h⟩ := h
    obtain ⟨l, rfl, hl⟩ := vrel_agg hx
    obtain ⟨v, v', h2, h3, h4⟩ := partVc_sound h hl
    refine ⟨v, v', fun w => ?_, h3, h4⟩
    simp only [Instr.index, asIntOf, Sem.run_bind, Sem.run_pure, hd, Result.andThen_ok, h0, h1, and_self, if_true, C.size hy, h2]
  · rename_i s hte
    obtain rfl := td_str (htd.trans hte)
    obtain ⟨h0, c, hc, h⟩ := h
    simp only [VRel] at hx
    subst hx
    refine ⟨_, .int .u8 c.toNat, fun w => ?_, by simp only [VRel], h⟩
    simp only [Instr.index, asIntOf, Sem.run_bind, Sem.run_pure, hd, Result.andThen_ok, h0, if_true, str_get, hc]
end
end Go.Proofs.YthpngchngnaloaaGreatDoor.Vm
