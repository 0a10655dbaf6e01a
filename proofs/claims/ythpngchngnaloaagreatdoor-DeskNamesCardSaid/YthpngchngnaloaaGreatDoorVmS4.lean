/- The operations of the model do what the abstract machine asks: make, append, copy, clear, cap. -/
import Derived.Test.YthpngchngnaloaaGreatDoorVmS3
namespace Go.Proofs.YthpngchngnaloaaGreatDoor.Vm
open RowKit (Below)

section
variable {C : Cx} {G : Base} {ι : IM} {σ : AH} {w : World}

/-- What an operation with a value comes to. -/
def Gives (G : Base) (ι : IM) (σ : AH) (P : Program) (w : World) (s : Sem Value) (K : AV → AH → Prop) : Prop :=
  ∃ v v' σ' ι' w', s.run P w = .ok v' w' ∧ Rel G ι' σ' w' ∧ Ext σ.next ι ι' ∧ σ.next ≤ σ'.next ∧ VRel ι' v v' ∧ K v σ'
theorem Gives.same (hr : Rel G ι σ w) {P : Program} {s : Sem Value} {K : AV → AH → Prop} {v : AV} {v' : Value} (h : s.run P w = .ok v' w) (hv : VRel ι v v') (hK : K v σ) : Gives G ι σ P w s K :=
  ⟨v, v', σ, ι, w, h, hr, Ext.refl _ _, Nat.le_refl _, hv, hK⟩
theorem Gives.here {P : Program} {s : Sem Value} {K : AV → AH → Prop} {v : AV} {v' : Value} {σ' : AH} {w' : World} (hr : Rel G ι σ' w') (hn : σ.next ≤ σ'.next) (h : s.run P w = .ok v' w') (hv : VRel ι v v') (hK : K v σ') : Gives G ι σ P w s K :=
  ⟨v, v', σ', ι, w', h, hr, Ext.refl _ _, hn, hv, hK⟩

theorem wrap64_in {n : Int} (h0 : -9223372036854775808 ≤ n) (h1 : n ≤ 9223372036854775807) : IntKind.i64.wrap n = n := by
  unfold IntKind.wrap
  simp [IntKind.signed, IntKind.bits] <;> omega

theorem mem_rep {z : Array Value} (hz : ∀ v, v ∈ z → v.oneCell' = true) (n : Nat) (h0 : n ≠ 0 → z.size ≠ 0) : ∀ u ∈ ((Array.range n).map (z[· % z.size]!)).toList, u.oneCell' = true := by
  intro u hu
  rw [Array.toList_map] at hu
  obtain ⟨i, hi, rfl⟩ := List.mem_map.1 hu
  have hi' : i < n := by simpa using hi
  have hlt : i % z.size < z.size := Nat.mod_lt _ (by have := h0 (by omega); omega)
  rw [getElem!_pos z _ hlt]
  exact hz _ (Array.getElem_mem hlt)

theorem makeSliceVc_sound (hr : Rel G ι σ w) {t : TypeId} {l c : AV} {l' c' : Value} {K : AV → AH → Prop} (h : makeSliceVc C t l c σ K) (hl : VRel ι l l') (hc : VRel ι c c') :
    Gives G ι σ C.P w (Instr.makeSlice t l' c') K := by
  unfold makeSliceVc at h
  split at h
  case h_2 => cases h
  rename_i ti kl l kc c hti
  obtain ⟨d, hd, htd, hdP⟩ := C.und hti
  simp only [VRel] at hl hc
  subst hl hc
  split at h
  case h_2 => cases h
  rename_i e he
  obtain rfl := td_slice (htd.trans he)
  split at h
  case h_2 => cases h
  rename_i x hx
  obtain ⟨h0, h1, h2, h3, hlz, hK⟩ := h
  obtain ⟨z, hz, hzs, hzl, hz1⟩ := C.zero hx
  obtain ⟨i, hi, hib, his⟩ := C.bytes hx
  have hzr : VRelL ι x.zero z.cells.toList := hzs ▸ ofVs_rel ι z.cells.toList
  have hzl' : x.zero.length = x.size := by rw [← hzs, ofVs_length, Array.length_toList, hzl]
  have e1 : IntKind.i64.wrap l = l := wrap64_in (by omega) (by omega)
  have e2 : IntKind.i64.wrap c = c := wrap64_in (by omega) (by omega)
  have hlen : ∀ zz : Array Value, ((Array.range (c.toNat * x.size)).map (zz[· % zz.size]!)).toList.length = c.toNat * x.size := by simp
  obtain ⟨zz, hzz, hzzr⟩ : ∃ zz : Array Value, ((c.toNat * x.size = 0 ∧ zz = #[]) ∨ (c.toNat * x.size ≠ 0 ∧ zz = z.cells)) ∧
      VRelL ι (repL x.zero c.toNat) ((Array.range (c.toNat * x.size)).map (zz[· % zz.size]!)).toList := by
    by_cases h0 : c.toNat * x.size = 0
    · refine ⟨#[], .inl ⟨h0, rfl⟩, ?_⟩
      have : repL x.zero c.toNat = [] := List.length_eq_zero_iff.1 (by rw [repL_length, hzl', h0])
      rw [this, h0]; simp [VRelL]
    · refine ⟨z.cells, .inr ⟨h0, rfl⟩, ?_⟩
      exact rep_rel hzr c.toNat _ (by rw [hzl'])
  have hlv : leaves (repL x.zero c.toNat) = true := by
    unfold leaves at hlz ⊢
    have : ∀ n, (repL x.zero n).all AV.leaf = true := by
      intro n
      induction n with
      | zero => rfl
      | succ n ih => simp [repL, hlz, ih]
    exact this _
  have hnew := new_cells hr (repL x.zero c.toNat) _ (.exact x.size) e x.size [] (0, 0) hzzr hlv (by simp) (fun _ => rfl) (fun s hs => by cases hs; rfl) (by simp)
  rw [List.append_nil, Array.toArray_toList] at hnew
  refine ⟨_, .slice (some ⟨w.heap.size, 0, none⟩) l.toNat c.toNat, _, _, _, ?_, hnew, Ext.put _ _ _ (Nat.le_refl _), by simp, ?_, hK⟩
  · have hbig : ¬ ((c < 0 ∨ (i.bytes : Int) * c > 2 ^ 48) ∨ l < 0 ∨ c < l) := by
      rw [hib]; omega
    simp only [Instr.makeSlice, Sem.run_bind, hd, Result.andThen_ok, asInt, asIntOf, Sem.run_pure, hi, e1, e2]
    rw [if_neg (by simp only [Bool.or_eq_true, decide_eq_true_eq]; omega)]
    simp only [Sem.run_bind, Result.andThen_ok, run_askRoom, C.size hx]
    rcases hzz with ⟨h0, rfl⟩ | ⟨h0, rfl⟩
    · simp only [h0, if_true, Sem.run_bind, Sem.run_pure, Result.andThen_ok, newRow_run]
    · simp only [h0, if_false, Sem.run_bind, Sem.run_pure, Result.andThen_ok, hz, newRow_run]
  · simp only [VRel]
    exact ⟨_, _, c.toNat, IM.put_self _ _ _, rfl, by omega, fun _ => by simp, rfl⟩

/-! ### What is laid -/
theorem rd_sound (hr : Rel G ι σ w) {a : Option (Nat × Nat)} {m : Nat} {vs : List AV} (h : rd σ a m = some vs) {a' : Option Addr} (ha : m ≠ 0 → ∀ b o, a = some (b, o) → ∃ p, ι b = some p ∧ a' = some ⟨p.blk, p.base + o, none⟩) :
    vs.length = m ∧ ((m = 0 ∧ vs = []) ∨ ∃ x us, a' = some x ∧ us.length = m ∧ VRelL ι vs us ∧ ∀ P : Program, (loadCells x m).run P w = .ok (List.toArray us) w) := by
  unfold rd at h
  split at h
  · cases h; rename_i h0; subst h0; exact ⟨rfl, .inl ⟨rfl, rfl⟩⟩
  · rename_i h0
    split at h
    · cases h
    · rename_i b o
      obtain ⟨p, hp, rfl⟩ := ha h0 b o rfl
      obtain ⟨us, h1, h2, _, h3⟩ := load_range hr hp h
      exact ⟨range_length h, .inr ⟨_, us, rfl, h1, h2, h3⟩⟩

theorem byte_rel (l : List UInt8) : VRelL ι (l.map byteAV) (l.map fun b => Value.int .u8 b.toNat) := by
  refine .of_get (by simp) fun i a v ha hv => ?_
  rw [List.getElem?_map] at ha hv
  cases hx : l[i]? with
  | none => rw [hx] at ha; cases ha
  | some c =>
    rw [hx] at ha hv
    cases ha; cases hv
    simp only [byteAV, VRel]

/-- 'firstCells' of what is to be laid. -/
theorem srcVc_sound (hr : Rel G ι σ w) {sz m : Nat} {x : AV} {x' : Value} {K : List AV → Prop} (h : srcVc sz x m σ K) (hx : VRel ι x x') (hm : lenA x fun n => m ≤ n) (hsz : sz ≠ 0) :
    ∃ new us, new.length = m * sz ∧ VRelL ι new us ∧ leaves new = true ∧ (Builtin.firstCells sz m x').run C.P w = .ok (List.toArray us) w ∧ K new := by
  unfold srcVc at h
  split at h
  case h_3 => cases h
  · rename_i a n c
    obtain ⟨new, h1, h2, h3⟩ := h
    obtain ⟨a', ĉ, rfl, hn, hnil, hs⟩ := vrel_slice hx
    simp only [lenA] at hm
    have hrd := rd_sound hr h1 (a' := a') (fun h0 b o hbo => by
      obtain ⟨p, z, hp, rfl, hz, _⟩ := hs b o hbo
      have : m ≠ 0 := fun e => h0 (by rw [e, Nat.zero_mul])
      exact ⟨p, hp, by rw [hz (by omega)]⟩)
    rcases hrd with ⟨hlen, ⟨h0, rfl⟩ | ⟨z, us, rfl, hul, hur, hrun⟩⟩
    · have hm0 : m = 0 := (Nat.mul_eq_zero.1 h0).resolve_right hsz
      subst hm0
      refine ⟨[], [], by simp, .nil, rfl, ?_, h3⟩
      cases a' with
      | none => simp [Builtin.firstCells]
      | some z => simp [Builtin.firstCells, loadCells, loadCellsFrom]
    · exact ⟨new, us, hlen, hur, h2, hrun _, h3⟩
  · rename_i s
    split at h
    case isFalse => cases h
    rename_i h1
    subst h1
    simp only [lenA] at hm
    simp only [VRel] at hx
    subst hx
    refine ⟨_, (s.take m).map fun b => Value.int .u8 b.toNat, by simp; omega, byte_rel _, ?_, ?_, h⟩
    · unfold leaves
      rw [List.all_map]
      simp [byteAV, AV.leaf, Function.comp_def]
    · simp only [Builtin.firstCells, Sem.run_pure, str_extract]
      simp

theorem lenA_sound {x : AV} {x' : Value} {K : Nat → Prop} (h : lenA x K) (hx : VRel ι x x') : ∃ n, K n ∧ lenA x (fun k => k = n) ∧ ∀ (P : Program) (w : World), (Builtin.lenOf x').run P w = .ok n w := by
  unfold lenA at h
  split at h
  case h_3 => cases h
  · rename_i a n c
    obtain ⟨a', ĉ, rfl, _⟩ := vrel_slice hx
    exact ⟨n, h, rfl, fun P w => rfl⟩
  · rename_i s
    simp only [VRel] at hx
    subst hx
    exact ⟨s.length, h, rfl, fun P w => by simp [Builtin.lenOf, ByteArray.size]⟩

/-! ### append -/
theorem growBy_le (need : Nat) : ∀ (r c : Nat), 256 ≤ c → c < 2 * need → need ≤ 2 * need → Builtin.growBy need r c ≤ 2 * need
  | 0, c, _, h, _ => by simp only [Builtin.growBy]; omega
  | r + 1, c, h1, h2, h3 => by
    simp only [Builtin.growBy]
    split
    · omega
    · rename_i h
      by_cases h4 : c + (c + 768) / 4 < 2 * need
      · exact growBy_le need r _ (by omega) h4 h3
      · omega
theorem nextcap_le {need cap : Nat} (h : cap < need) : Builtin.nextslicecap need cap ≤ 2 * need := by
  unfold Builtin.nextslicecap
  split
  · omega
  · split
    · omega
    · exact growBy_le need 4 cap (by omega) (by omega) (by omega)

theorem zeroCells_one {z : Array Value} (hz : ∀ v, v ∈ z → v.oneCell' = true) (n : Nat) : ∀ u ∈ (Builtin.zeroCells z n).toList, u.oneCell' = true := by
  unfold Builtin.zeroCells
  exact mem_rep hz _ (fun h h0 => h (by rw [h0, Nat.mul_zero]))
theorem zeroCells_size (z : Array Value) (n : Nat) : (Builtin.zeroCells z n).toList.length = n * z.size := by simp [Builtin.zeroCells]
theorem zeroCells_rel {z : List AV} {z' : Array Value} (h : VRelL ι z z'.toList) (n : Nat) : VRelL ι (repL z n) (Builtin.zeroCells z' n).toList := by
  have hl := h.length
  simp only [Array.length_toList] at hl
  unfold Builtin.zeroCells
  exact rep_rel h n _ (by rw [hl])
theorem leaves_rep {z : List AV} (h : leaves z = true) : ∀ n, leaves (repL z n) = true
  | 0 => rfl
  | n + 1 => by
    have := leaves_rep h n
    unfold leaves at *
    simp [repL, h, this]
theorem leaves_append {a b : List AV} (h : leaves a = true) (h' : leaves b = true) : leaves (a ++ b) = true := by
  unfold leaves at *
  simp only [List.all_append, h, h', Bool.and_self]

/-- The model's append, once it is known what is laid: 'new', of m elements. -/
def appendTail (elem : TypeId) (size : Nat) (base : Option Addr) (sLen sCap n : Nat) (zeros : Bool) (x s : Value) (appended : Sem (Array Value)) : Sem Value := do
  let need := sLen + n
  if need ≤ sCap then
    let new ← appended
    if let some a := base then storeCells (a.add (sLen * size)) new.toList
    pure (.slice base need sCap)
  else
    if (need : Int) > IntKind.i64.max ∧ (zeros ∨ (← typeInfo elem).bytes = 0) then runtimePanic (.error "growslice: len out of range")
    if Builtin.nextslicecap need sCap * (← typeInfo elem).bytes > 2 ^ 48 then (if zeros then runtimePanic (.error "growslice: len out of range") else do
      if !(← Builtin.mayShare size sLen n base x) then mark .noRoom
      unsupported (.resourceLimit "append: a slice or a string whose bytes no memory bears"))
    let newCap ← choose (.appendCap need sCap elem)
    askRoom (newCap * (← typeInfo elem).bytes)
    let old ← Builtin.firstCells size sLen s
    let new ← appended
    let rest := Builtin.zeroCells (← zeroValue elem).cells (newCap - need)
    pure (.slice (some (← newRow elem (old ++ new ++ rest))) need newCap)

theorem append_grow (hr : Rel G ι σ w) {e : TypeId} {y : TI} (hy : C.ti e = some y) (hys : y.size ≠ 0) (hyb : y.bytes ≠ 0) {base : Option Addr} {n cap m : Nat} (zeros : Bool) (x s : Value) {appended : Sem (Array Value)}
    {old new : List AV} {os us : List Value} (hcap : ¬ n + m ≤ cap) (hb : (n + m) * y.bytes ≤ 2 ^ 47)
    (happ : ∀ d, appended.run C.P { w with drawn := d } = .ok us.toArray { w with drawn := d }) (hold : ∀ d, (Builtin.firstCells y.size n s).run C.P { w with drawn := d } = .ok os.toArray { w with drawn := d })
    (ho : VRelL ι old os) (hn : VRelL ι new us) (hol : old.length = n * y.size) (hnl : new.length = m * y.size) (hlo : leaves old = true) (hln : leaves new = true) :
    ∃ newCap ι' w', (appendTail e y.size base n cap m zeros x s appended).run C.P w = .ok (.slice (some ⟨w.heap.size, 0, none⟩) (n + m) newCap) w' ∧ n + m ≤ newCap ∧
      ι' = ι.put σ.next ⟨w.heap.size, 0, newCap * y.size, y.size⟩ ∧ Rel G ι' (σ.alloc (.cells (old ++ new) (.grow y.size))) w' := by
  obtain ⟨z, hz, hzs, hzl, hz1⟩ := C.zero hy
  obtain ⟨i, hi, hib, his⟩ := C.bytes hy
  have hbig : ¬ (((n + m : Nat) : Int) > IntKind.i64.max ∧ (zeros = true ∨ i.bytes = 0)) := by
    rintro ⟨h1, _⟩
    have h2 : n + m ≤ (n + m) * y.bytes := Nat.le_mul_of_pos_right _ (by omega)
    have h3 : IntKind.i64.max = 9223372036854775807 := by rfl
    omega
  have hlim : ¬ Builtin.nextslicecap (n + m) cap * i.bytes > 2 ^ 48 := by
    have h1 := nextcap_le (need := n + m) (cap := cap) (by omega)
    have h2 : Builtin.nextslicecap (n + m) cap * i.bytes ≤ (2 * (n + m)) * i.bytes := Nat.mul_le_mul_right _ h1
    rw [hib] at *
    have h3 : 2 * (n + m) * y.bytes = 2 * ((n + m) * y.bytes) := Nat.mul_assoc _ _ _
    omega
  obtain ⟨newCap, hchoose, hle⟩ : ∃ newCap, (choose (.appendCap (n + m) cap e)).run C.P w = .ok newCap { w with drawn := w.drawn + 1 } ∧ n + m ≤ newCap := by
    refine ⟨(Question.appendCap (n + m) cap e).cut (w.tape w.drawn (.appendCap (n + m) cap e)), by rw [run_choose]; simp only [Question.forced, Bool.false_eq_true, if_false], ?_⟩
    simp only [Question.cut]
    omega
  have hr1 : Rel G ι σ { w with drawn := w.drawn + 1 } := hr.drawn _
  have hcells := new_cells hr1 (old ++ new) (os ++ us) (.grow y.size) e y.size (Builtin.zeroCells z.cells (newCap - (n + m))).toList (0, 0) (ho.append hn) (leaves_append hlo hln) (zeroCells_one hz1 _) (fun h => by cases h) (fun s hs => by cases hs; rfl) (by simp)
  have hol' := ho.length
  have hnl' := hn.length
  have hsz : (os ++ us).length + (Builtin.zeroCells z.cells (newCap - (n + m))).toList.length = newCap * y.size := by
    rw [List.length_append, hol', hnl', hol, hnl, zeroCells_size, hzl, ← Nat.add_mul, ← Nat.add_mul]
    congr 1; omega
  rw [hsz] at hcells
  refine ⟨newCap, _, _, ?_, hle, rfl, hcells⟩
  unfold appendTail
  rw [if_neg hcap]
  simp only [Sem.run_bind, hi, Result.andThen_ok, if_neg hbig, if_neg hlim, hchoose, run_askRoom, hold, happ, hz, newRow_run, Sem.run_pure]
  congr 2
  simp

end
end Go.Proofs.YthpngchngnaloaaGreatDoor.Vm
