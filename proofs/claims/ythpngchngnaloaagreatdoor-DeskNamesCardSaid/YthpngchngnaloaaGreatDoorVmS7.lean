/- The operations of the model do what the abstract machine asks: copy, clear, cap, len, conversions. -/
import Derived.Test.YthpngchngnaloaaGreatDoorVmS6
import Derived.Laws.BytesString
import Derived.Lib.ConvBytes
namespace Go.Proofs.YthpngchngnaloaaGreatDoor.Vm
open RowKit (Below)

section
variable {C : Cx} {G : Base} {ι : IM} {σ : AH} {w : World}

theorem putVc_some {b o : Nat} {vs : List AV} {K : AH → Prop} (h : putVc σ b o vs K) : ∃ cs own, σ.get b = some (.cells cs own) ∧ own.rw = true ∧ o + vs.length ≤ cs.length ∧ K (σ.set b (.cells (layL cs o vs) own)) := h

theorem copyVc_sound (hr : Rel G ι σ w) {ts : List TypeId} {xs : List AV} {xs' : List Value} {rt : TypeId} {K : AV → AH → Prop} (h : copyVc C ts xs σ K) (hx : VRelL ι xs xs') :
    Gives G ι σ C.P w (Builtin.copy_ ts.toArray rt xs'.toArray) K := by
  unfold copyVc at h
  split at h
  case h_2 => cases h
  rename_i t trest a n c x xrest
  obtain ⟨s', x', r', rfl, hs, hx', _⟩ := vrelL_two hx
  split at h
  case h_2 => cases h
  rename_i ti hti
  obtain ⟨d, hd, htd, hdP⟩ := C.und hti
  split at h
  case h_2 => cases h
  rename_i e he
  obtain rfl := td_slice (htd.trans he)
  split at h
  case h_2 => cases h
  rename_i y hy
  split at h
  case isTrue => cases h
  rename_i hys
  obtain ⟨a', ĉ, rfl, hnc, hnil, hsm⟩ := vrel_slice hs
  obtain ⟨m, h, hm, hlen⟩ := lenA_sound h hx'
  by_cases h0 : min m n = 0
  · -- nothing is copied
    have hK : K (.int .i64 0) σ := by
      unfold srcVc at h
      split at h
      · obtain ⟨_, _, _, h⟩ := h; rwa [if_pos h0] at h
      · split at h
        · first | exact h | rwa [if_pos h0] at h
        · cases h
      · cases h
    refine .same hr (v' := .int .i64 0) ?_ (by simp only [VRel]) hK
    have hf : (Builtin.firstCells y.size 0 x').run C.P w = .ok #[] w := by
      unfold lenA at hm
      split at hm
      · rename_i a2 n2 c2
        obtain ⟨a2', c2', rfl, _⟩ := vrel_slice hx'
        cases a2' <;> simp [Builtin.firstCells, loadCells, loadCellsFrom]
      · rename_i s
        simp only [VRel] at hx'
        subst hx'
        simp only [Builtin.firstCells, Sem.run_pure, str_extract]
        simp
      · cases hm
    unfold Builtin.copy_
    simp only [List.getElem?_toArray, List.getElem?_cons_zero, List.getElem?_cons_succ, Sem.run_bind, hd, Result.andThen_ok, hlen, C.size hy]
    rw [show Nat.min m n = 0 from h0]
    simp only [hf, Result.andThen_ok]
    cases a' <;> simp [storeCells, goInt]
  · · obtain ⟨new, us, hnl, hnr, hnlv, hrun, hK⟩ := srcVc_sound (C := C) hr h hx' (by unfold lenA at hm ⊢; split at hm <;> simp_all <;> omega) hys
      rw [if_neg h0] at hK
      obtain ⟨b, o, rfl, hK⟩ := atP_some hK
      obtain ⟨cs, own, hk, hrw, ho, hK⟩ := putVc_some hK
      obtain ⟨p, z, hp, rfl, hz, _⟩ := hsm b o rfl
      obtain rfl := hz (by omega)
      obtain ⟨w', hst, hr'⟩ := put_sound hr hp hk hrw ho hnr hnlv
      refine .here (v' := .int .i64 (min m n : Nat)) hr' (Nat.le_refl _) ?_ (by simp only [VRel]) hK
      unfold Builtin.copy_
      simp only [List.getElem?_toArray, List.getElem?_cons_zero, List.getElem?_cons_succ, Sem.run_bind, hd, Result.andThen_ok, hlen, C.size hy]
      rw [show Nat.min m n = min m n from rfl]
      simp only [hrun, Result.andThen_ok, hst, Sem.run_pure, goInt]

theorem clearVc_sound (hr : Rel G ι σ w) {ts : List TypeId} {xs : List AV} {xs' : List Value} {rt : TypeId} {K : AV → AH → Prop} (h : clearVc C ts xs σ K) (hx : VRelL ι xs xs') :
    Gives G ι σ C.P w (Builtin.clear_ ts.toArray rt xs'.toArray) K := by
  unfold clearVc at h
  split at h
  case h_2 => cases h
  rename_i t trest a n c xrest
  obtain ⟨s', r', rfl, hs, _⟩ := vrelL_one hx
  split at h
  case h_2 => cases h
  rename_i ti hti
  obtain ⟨d, hd, htd, hdP⟩ := C.und hti
  split at h
  case h_2 => cases h
  rename_i e he
  obtain rfl := td_slice (htd.trans he)
  split at h
  case h_2 => cases h
  rename_i y hy
  obtain ⟨a', ĉ, rfl, hnc, hnil, hsm⟩ := vrel_slice hs
  split at h
  · rename_i h0
    subst h0
    refine .same hr (v' := .tuple #[]) ?_ (by simp only [VRel]; exact ⟨[], rfl, .nil⟩) h
    unfold Builtin.clear_
    simp only [List.getElem?_toArray, List.getElem?_cons_zero, Sem.run_bind, hd, Result.andThen_ok]
    cases a' <;> simp
  · rename_i h0
    obtain ⟨hz0, h⟩ := h
    obtain ⟨b, o, rfl, h⟩ := atP_some h
    obtain ⟨cs, own, hk, hrw, ho, hK⟩ := putVc_some h
    obtain ⟨p, z, hp, rfl, hz, _⟩ := hsm b o rfl
    obtain rfl := hz (by omega)
    obtain ⟨zv, hzv, hzs, hzl, hz1⟩ := C.zero hy
    have hzr : VRelL ι y.zero zv.cells.toList := hzs ▸ ofVs_rel ι zv.cells.toList
    obtain ⟨w', hst, hr'⟩ := put_sound hr hp hk hrw ho (zeroCells_rel hzr n) (leaves_rep hz0 n)
    refine .here (v' := .tuple #[]) hr' (Nat.le_refl _) ?_ (by simp only [VRel]; exact ⟨[], rfl, .nil⟩) hK
    unfold Builtin.clear_
    simp only [List.getElem?_toArray, List.getElem?_cons_zero, Sem.run_bind, hd, Result.andThen_ok]
    obtain ⟨k, rfl⟩ : ∃ k, n = k + 1 := ⟨n - 1, by omega⟩
    simp only [Sem.run_bind, hzv, Result.andThen_ok, hst, Sem.run_pure]

theorem capVc_sound (hr : Rel G ι σ w) {t : TypeId} {ti : TI} {e : TypeId} (hti : C.ti t = some ti) (he : ti.d = .slice e) {ts : List TypeId} {a : Option (Nat × Nat)} {n : Nat} {c : Cp} {xs' : List Value} {rt : TypeId} {K : AV → AH → Prop} (h : capVc a n c σ K) {r : List AV} (hx : VRelL ι (.slice a n c :: r) xs') :
    Gives G ι σ C.P w (Builtin.cap_ (t :: ts).toArray rt xs'.toArray) K := by
  obtain ⟨s', r', rfl, hs, _⟩ := vrelL_one hx
  obtain ⟨d, hd, htd, hdP⟩ := C.und hti
  obtain rfl := td_slice (htd.trans he)
  obtain ⟨a', ĉ, rfl, hnc, hnil, hsm⟩ := vrel_slice hs
  have hrun : ∀ w, (Builtin.cap_ (t :: ts).toArray rt (Value.slice a' n ĉ :: r').toArray).run C.P w = .ok (.int .i64 ĉ) w := by
    intro w
    unfold Builtin.cap_
    simp only [List.getElem?_toArray, List.getElem?_cons_zero, Sem.run_bind, hd, Result.andThen_ok, goInt, Sem.run_pure]
  unfold capVc at h
  split at h
  · rename_i c
    have : ĉ = c := by
      rcases a with _ | ⟨b, o⟩
      · obtain ⟨_, _, h1, h2⟩ := hnil rfl; cases h2; exact h1
      · obtain ⟨_, _, _, _, _, h1⟩ := hsm b o rfl; exact h1
    subst this
    exact .same hr (hrun w) (by simp only [VRel]) h
  · rename_i b o
    obtain ⟨cs, own, sz, hk, hosz, hsz, ho, h⟩ := h
    obtain ⟨p, z, hp, rfl, hz, hcr⟩ := hsm b o rfl
    simp only [capRel] at hcr
    obtain ⟨ĉs, elem, fr, g1, g2, g3, g4, g5, g6, g7, g8⟩ := hr.cells hp hk
    have hpsz := g8 _ hosz
    rw [hpsz] at hcr
    have hrw : own.rw = true := by cases own <;> simp_all [Own.sz, Own.rw]
    split at h
    · rename_i hfull
      have : (cs.length - o) / sz = ĉ := by
        rw [g7 hfull, ← hcr, Nat.add_sub_cancel_left, Nat.mul_div_cancel _ hsz]
      rw [this] at h
      exact .same hr (hrun w) (by simp only [VRel]) h
    · have hK := h ĉ hnc (by omega)
      have e1 : putBlk w p.blk (.cells ĉs elem fr) = w := by
        unfold putBlk
        obtain ⟨hlt, hxx⟩ := Array.getElem?_eq_some_iff.1 g1
        rw [show w.heap.setIfInBounds p.blk (.cells ĉs elem fr) = w.heap from by
          apply Array.ext_getElem?; intro k; rw [Array.getElem?_setIfInBounds]
          by_cases hk : p.blk = k
          · subst hk; simp [hlt, hxx]
          · simp [hk]]
      have hsw := hr.swap hp hk (by simpa [Blk.rw] using hrw) (k' := .cells (cs ++ List.replicate (o + ĉ * sz - cs.length) .any) (.exact sz)) (.cells ĉs elem fr) (by
        rw [e1]
        have hlen : (cs ++ List.replicate (o + ĉ * sz - cs.length) AV.any).length = p.lim := by simp; omega
        refine ⟨_, _, _, g1, ?_, by rw [hlen]; exact Nat.le_refl _, g4, g5, fun _ => g6 hrw, fun _ => hlen, fun s hs => by cases hs; exact hpsz⟩
        rw [hlen]
        refine .of_get (by rw [hlen]; simp; omega) fun i x v hx hv => ?_
        have hi : i < p.lim := by have := (List.getElem?_eq_some_iff.1 hx).1; rwa [hlen] at this
        by_cases hi2 : i < cs.length
        · rw [List.getElem?_append_left hi2] at hx
          obtain ⟨u, hu, hur⟩ := g2.get hx
          rw [List.getElem?_take_of_lt hi] at hv
          rw [List.getElem?_take_of_lt hi2] at hu
          rw [hu] at hv; cases hv; exact hur
        · rw [List.getElem?_append_right (by omega), List.getElem?_replicate] at hx
          split at hx
          · cases hx; simp only [VRel]
          · cases hx)
      rw [e1] at hsw
      exact .here hsw (Nat.le_refl _) (hrun w) (by simp only [VRel]) hK
  · cases h

theorem lenVc_sound (hr : Rel G ι σ w) {t : TypeId} {ts : List TypeId} {x : AV} {xs' : List Value} {rt : TypeId} {K : AV → Prop} (h : lenVc C t x σ K) {r : List AV} (hx : VRelL ι (x :: r) xs') :
    Gives G ι σ C.P w (Builtin.len_ (t :: ts).toArray rt xs'.toArray) (fun v τ => τ = σ ∧ K v) := by
  obtain ⟨s', r', rfl, hs, _⟩ := vrelL_one hx
  unfold lenVc at h
  split at h
  case h_2 => cases h
  rename_i ti hti
  obtain ⟨d, hd, htd, hdP⟩ := C.und hti
  split at h
  · rename_i e a n c hte
    obtain rfl := td_slice (htd.trans hte)
    obtain ⟨a', ĉ, rfl, _⟩ := vrel_slice hs
    refine .same hr (v' := .int .i64 n) ?_ (by simp only [VRel]) ⟨rfl, h⟩
    unfold Builtin.len_
    simp only [List.getElem?_toArray, List.getElem?_cons_zero, Sem.run_bind, hd, Result.andThen_ok, goInt, Sem.run_pure]
  · rename_i s hte
    obtain rfl := td_str (htd.trans hte)
    simp only [VRel] at hs
    subst hs
    refine .same hr (v' := .int .i64 s.length) ?_ (by simp only [VRel]) ⟨rfl, h⟩
    unfold Builtin.len_
    simp only [List.getElem?_toArray, List.getElem?_cons_zero, Sem.run_bind, hd, Result.andThen_ok, goInt, Sem.run_pure]
    simp [ByteArray.size]
  · rename_i k e hte
    obtain rfl := td_map (htd.trans hte)
    simp only [VRel] at hs
    subst hs
    refine .same hr (v' := .int .i64 0) ?_ (by simp only [VRel]) ⟨rfl, h⟩
    unfold Builtin.len_
    simp only [List.getElem?_toArray, List.getElem?_cons_zero, Sem.run_bind, hd, Result.andThen_ok, goInt, Sem.run_pure]
  · rename_i k e r0 hte
    obtain rfl := td_map (htd.trans hte)
    obtain ⟨es, clock, hk, hK⟩ := h
    simp only [VRel] at hs
    obtain ⟨p, hp, rfl⟩ := hs
    obtain ⟨ês, g1, g2⟩ := hr.live r0 p _ hp hk
    refine .same hr (v' := .int .i64 es.length) ?_ (by simp only [VRel]) ⟨rfl, hK⟩
    unfold Builtin.len_
    have hg : (getObj p.blk).run C.P w = .ok (.map ês clock) w := by simp [getObj, Sem.run, g1]
    simp only [List.getElem?_toArray, List.getElem?_cons_zero, Sem.run_bind, hd, Result.andThen_ok, hg, goInt, Sem.run_pure]
    rw [← g2.length]; rfl
  · rename_i n e hte
    obtain rfl := td_array (htd.trans hte)
    refine .same hr (v' := .int .i64 n) ?_ (by simp only [VRel]) ⟨rfl, h⟩
    unfold Builtin.len_
    simp only [List.getElem?_toArray, List.getElem?_cons_zero, Sem.run_bind, hd, Result.andThen_ok, goInt, Sem.run_pure]
  · cases h

/-! ### Conversions -/
theorem isByte_ok {e : TypeId} (h : isByte C e = true) : C.P.underlying e = some (.int .u8) ∧ (∃ te, C.ti e = some te ∧ te.size = 1 ∧ te.bytes = 1) := by
  unfold isByte at h
  split at h
  case h_2 => cases h
  rename_i te hte
  simp only [Bool.and_eq_true, beq_iff_eq] at h
  obtain ⟨d, _, htd, hdP⟩ := C.und hte
  rw [td_int (htd.trans h.1.1)] at hdP
  exact ⟨hdP, te, hte, h.1.2, h.2⟩

theorem bytesOf_fold : ∀ (l : List UInt8) (acc : ByteArray), (l.map fun b => (b.toNat : Int)).foldl (fun r n => r.push (UInt8.ofNat n.toNat)) acc = ⟨acc.data ++ l.toArray⟩
  | [], acc => by simp
  | c :: l, acc => by
    simp only [List.map_cons, List.foldl_cons]
    rw [bytesOf_fold l]
    congr 1
    apply Array.ext'
    simp [ByteArray.push]
theorem bytesWorld_eq (w : World) (e : TypeId) (s : ByteArray) : Lib.bytesWorld w e s = ({ w with drawn := w.drawn + 1 } : World).alloc (.cells (Lib.bytesCells w e s) e ((Lib.bytesCells w e s).size, (Lib.bytesCells w e s).size + 1)) := by
  have h : (Lib.bytesWorld w e s).heap = (({ w with drawn := w.drawn + 1 } : World).alloc (.cells (Lib.bytesCells w e s) e ((Lib.bytesCells w e s).size, (Lib.bytesCells w e s).size + 1))).heap := by
    apply Array.ext_getElem?
    intro k
    rcases Nat.lt_trichotomy k w.heap.size with hk | hk | hk
    · rw [Lib.bytesWorld_at_old _ _ _ _ hk]
      exact (Below.heap_alloc _ _ _ hk).symm
    · subst hk
      rw [Lib.bytesWorld_at_new]
      exact (alloc_new _ _).symm
    · rw [Array.getElem?_eq_none (by rw [Lib.bytesWorld_size]; omega), Array.getElem?_eq_none (by simp; omega)]
  have h1 : (Lib.bytesWorld w e s).tape = w.tape := rfl
  cases hx : Lib.bytesWorld w e s with
  | mk heap tape drawn os output =>
    rw [hx] at h
    simp only at h
    subst h
    have e1 : tape = (Lib.bytesWorld w e s).tape := by rw [hx]
    have e2 : drawn = (Lib.bytesWorld w e s).drawn := by rw [hx]
    have e3 : os = (Lib.bytesWorld w e s).os := by rw [hx]
    have e4 : output = (Lib.bytesWorld w e s).output := by rw [hx]
    subst e1 e2 e3 e4
    rfl

theorem convVc_sound (hr : Rel G ι σ w) {s d : TypeId} {x : AV} {x' : Value} {K : AV → AH → Prop} (h : convVc C s d x σ K) (hx : VRel ι x x') : Gives G ι σ C.P w (convert s d x') K := by
  unfold convVc at h
  split at h
  case h_2 => cases h
  rename_i ts td hts htd0
  obtain ⟨ds, hds, hts2, _⟩ := C.und hts
  obtain ⟨dd, hdd, htd2, _⟩ := C.und htd0
  split at h
  · rename_i k k' n hte
    obtain rfl := td_int (htd2.trans hte)
    simp only [VRel] at hx
    subst hx
    refine .same hr (v' := .int k (k.wrap n)) ?_ (by simp only [VRel]) h
    unfold convert
    simp only [Sem.run_bind, hds, hdd, Result.andThen_ok]
    cases ds <;> rfl
  · rename_i k n hte
    obtain rfl := td_str (htd2.trans hte)
    simp only [VRel] at hx
    subst hx
    refine .same hr (v' := .string (Utf8.encode n)) ?_ (by simp only [VRel]) h
    unfold convert
    simp only [Sem.run_bind, hds, hdd, Result.andThen_ok]
    cases ds <;> rfl
  · rename_i l hte
    obtain rfl := td_str (htd2.trans hte)
    simp only [VRel] at hx
    subst hx
    refine .same hr (v' := .string ⟨l.toArray⟩) ?_ (by simp only [VRel]) h
    unfold convert
    simp only [Sem.run_bind, hds, hdd, Result.andThen_ok]
    cases ds <;> rfl
  · rename_i a n c hte
    obtain rfl := td_str (htd2.trans hte)
    split at h
    case h_2 => cases h
    rename_i e hse
    obtain rfl := td_slice (hts2.trans hse)
    split at h
    case isFalse => cases h
    rename_i hb
    obtain ⟨hbu, te, hte', hbs, _⟩ := isByte_ok hb
    obtain ⟨l, hl, hK⟩ := h
    obtain ⟨a', ĉ, rfl, hnc, hnil, hsm⟩ := vrel_slice hx
    have hrd := rd_sound hr hl (a' := a') (fun h0 b o hbo => by
      obtain ⟨p, z, hp, rfl, hz, _⟩ := hsm b o hbo
      exact ⟨p, hp, by rw [hz (by omega)]⟩)
    obtain ⟨hlen, hrd⟩ := hrd
    have hll : l.length = n := by simpa using hlen
    refine .same hr (v' := .string ⟨l.toArray⟩) ?_ (by simp only [VRel]) hK
    unfold convert
    simp only [Sem.run_bind, hds, hdd, Result.andThen_ok, run_und hbu]
    rcases hrd with ⟨h0, h1⟩ | ⟨z, us, rfl, hul, hur, hrun⟩
    · have hl0 : l = [] := by simpa using h1
      subst hl0
      subst h0
      cases a' with
      | none => unfold Conv.bytesToString; rfl
      | some z =>
        have := run_bytesToString (P := C.P) w z 0 ĉ [] (by simp [loadCells, loadCellsFrom])
        rw [this]; rfl
    · have hus : us = (l.map fun b => (b.toNat : Int)).map (Value.int .u8) := by
        apply List.ext_getElem?
        intro i
        cases hx : us[i]? with
        | none =>
          have := List.getElem?_eq_none_iff.1 hx
          rw [List.getElem?_eq_none (by simp; omega)]
        | some u =>
          obtain ⟨a, ha, hau⟩ := hur.get' hx
          rw [List.getElem?_map] at ha
          rw [List.getElem?_map, List.getElem?_map]
          cases hy : l[i]? with
          | none => rw [hy] at ha; cases ha
          | some b =>
            rw [hy] at ha; cases ha
            simp only [byteAV, VRel] at hau
            simp [hau]
      have h2 := hrun C.P
      rw [hus] at h2
      rw [run_bytesToString w z n ĉ _ h2, bytesOf_fold]
      show Result.ok (Value.string ⟨#[] ++ l.toArray⟩) w = _
      rw [Array.empty_append]
  · rename_i e l hte
    obtain rfl := td_slice (htd2.trans hte)
    split at h
    case isFalse => cases h
    rename_i hb
    obtain ⟨hbu, te, hte', hbs, _⟩ := isByte_ok hb
    simp only [VRel] at hx
    subst hx
    obtain ⟨ds', _, hP⟩ : ∃ u, tdOf u = ts.d ∧ C.P.underlying s = some u := by
      obtain ⟨u, _, h1, h2⟩ := C.und hts; exact ⟨u, h1, h2⟩
    obtain ⟨dd', hdd', _, hPd⟩ := C.und htd0
    have hPd' : C.P.underlying d = some (.slice e) := by
      obtain ⟨u, h1, h2, h3⟩ := C.und htd0
      rw [td_slice (h2.trans hte)] at h3; exact h3
    have hrun := Lib.run_convert_string_bytes (P := C.P) w s d e ⟨l.toArray⟩ hP hPd' hbu
    have hcap : l.length ≤ grownCap w l.length 0 e := by unfold grownCap; simp only [Question.cut]; omega
    have hsz : (⟨l.toArray⟩ : ByteArray).size = l.length := by simp [ByteArray.size]
    have hcells : Lib.bytesCells w e ⟨l.toArray⟩ = ((l.map fun (b : UInt8) => Value.int .u8 (b.toNat : Int)) ++ List.replicate (grownCap w l.length 0 e - l.length) (Value.int .u8 0) : List Value).toArray := by
      unfold Lib.bytesCells
      rw [hsz]
      apply Array.ext'
      simp
    have hnew := new_cells (hr.drawn (w.drawn + 1)) (l.map byteAV) (l.map fun b => Value.int .u8 b.toNat) (.grow 1) e 1 (List.replicate (grownCap w l.length 0 e - l.length) (.int .u8 0)) ((Lib.bytesCells w e ⟨l.toArray⟩).size, (Lib.bytesCells w e ⟨l.toArray⟩).size + 1) (byte_rel l) (by unfold leaves; rw [List.all_map]; simp [byteAV, AV.leaf, Function.comp_def]) (by intro u hu; rw [(List.mem_replicate.1 hu).2]; rfl) (fun h => by cases h) (fun s hs => by cases hs; rfl)
      (by intro _ j hj; rw [hcells]; simp at hj ⊢; omega)
    rw [← hcells, ← bytesWorld_eq] at hnew
    rw [hsz] at hrun
    refine ⟨_, _, _, _, _, hrun, hnew, Ext.put _ _ _ (Nat.le_refl _), by simp, ?_, h⟩
    simp only [VRel]
    refine ⟨_, _, _, IM.put_self _ _ _, rfl, hcap, fun _ => by simp, ?_⟩
    simp only [capRel, List.length_map, List.length_replicate]
    omega
  · cases h
end
end Go.Proofs.YthpngchngnaloaaGreatDoor.Vm
