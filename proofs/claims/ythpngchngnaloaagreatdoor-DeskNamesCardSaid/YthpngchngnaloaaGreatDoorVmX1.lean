/- The abstract machine, carried out: values, memory, operations. -/
import Derived.Test.YthpngchngnaloaaGreatDoorVmS20
namespace Go.Proofs.YthpngchngnaloaaGreatDoor.Vm

/-! ### A table -/
inductive T (α : Type) where
  | leaf | node (v : α) (l r : T α)
def T.get {α : Type} (d : α) : T α → Nat → α
  | .leaf, _ => d
  | .node v l r, i => cond (Nat.beq i 0) v (cond (Nat.beq (i % 2) 1) (l.get d (i / 2)) (r.get d (i / 2 - 1)))
def T.set {α : Type} (d : α) : Nat → T α → Nat → α → T α
  | 0, t, _, _ => t
  | k + 1, .leaf, i, v => cond (Nat.beq i 0) (.node v .leaf .leaf) (cond (Nat.beq (i % 2) 1) (.node d (T.set d k .leaf (i / 2) v) .leaf) (.node d .leaf (T.set d k .leaf (i / 2 - 1) v)))
  | k + 1, .node u l r, i, v => cond (Nat.beq i 0) (.node v l r) (cond (Nat.beq (i % 2) 1) (.node u (T.set d k l (i / 2) v) r) (.node u l (T.set d k r (i / 2 - 1) v)))
theorem cb {α : Type} (a b : Nat) (x y : α) : cond (Nat.beq a b) x y = if a = b then x else y := by
  by_cases h : a = b
  · subst h; rw [if_pos rfl, Nat.beq_refl]; rfl
  · rw [if_neg h, show Nat.beq a b = false from by
      cases hb : Nat.beq a b with
      | false => rfl
      | true => exact absurd (Nat.eq_of_beq_eq_true hb) h]
    rfl
theorem T.get_set {α : Type} (d : α) : ∀ (k : Nat) (t : T α) (i : Nat) (v : α), i < k → ∀ j, (T.set d k t i v).get d j = if j = i then v else t.get d j
  | 0, _, _, _, h, _ => absurd h (by omega)
  | k + 1, .leaf, i, v, h, j => by
    have ih1 := fun hi => T.get_set d k .leaf (i / 2) v hi (j / 2)
    have ih2 := fun hi => T.get_set d k .leaf (i / 2 - 1) v hi (j / 2 - 1)
    simp only [T.set, cb]
    by_cases hi : i = 0
    · subst hi
      simp only [if_true, T.get, cb]
      by_cases hj : j = 0 <;> simp [hj]
    · have ih1 := ih1 (by omega)
      have ih2 := ih2 (by omega)
      by_cases hp : i % 2 = 1
      · simp only [hi, hp, if_true, if_false, T.get, cb, ih1]
        by_cases hj : j = 0
        · subst hj; simp [Ne.symm hi]
        · by_cases hjp : j % 2 = 1
          · simp only [hj, hjp, if_true, if_false]
            by_cases he : j = i
            · rw [if_pos he, if_pos (by omega)]
            · rw [if_neg he, if_neg (by omega)]
          · simp only [hj, hjp, if_false]
            rw [if_neg (by omega)]
      · simp only [hi, hp, if_false, T.get, cb, ih2]
        by_cases hj : j = 0
        · subst hj; simp [Ne.symm hi]
        · by_cases hjp : j % 2 = 1
          · simp only [hj, hjp, if_true, if_false]
            rw [if_neg (by omega)]
          · simp only [hj, hjp, if_false]
            by_cases he : j = i
            · rw [if_pos he, if_pos (by omega)]
            · rw [if_neg he, if_neg (by omega)]
  | k + 1, .node u l r, i, v, h, j => by
    have ih1 := fun hi => T.get_set d k l (i / 2) v hi (j / 2)
    have ih2 := fun hi => T.get_set d k r (i / 2 - 1) v hi (j / 2 - 1)
    simp only [T.set, cb]
    by_cases hi : i = 0
    · subst hi
      simp only [if_true, T.get, cb]
      by_cases hj : j = 0 <;> simp [hj]
    · have ih1 := ih1 (by omega)
      have ih2 := ih2 (by omega)
      by_cases hp : i % 2 = 1
      · simp only [hi, hp, if_true, if_false, T.get, cb, ih1]
        by_cases hj : j = 0
        · subst hj; simp [Ne.symm hi]
        · by_cases hjp : j % 2 = 1
          · simp only [hj, hjp, if_true, if_false]
            by_cases he : j = i
            · rw [if_pos he, if_pos (by omega)]
            · rw [if_neg he, if_neg (by omega)]
          · simp only [hj, hjp, if_false]
            rw [if_neg (by omega)]
      · simp only [hi, hp, if_false, T.get, cb, ih2]
        by_cases hj : j = 0
        · subst hj; simp [Ne.symm hi]
        · by_cases hjp : j % 2 = 1
          · simp only [hj, hjp, if_true, if_false]
            rw [if_neg (by omega)]
          · simp only [hj, hjp, if_false]
            by_cases he : j = i
            · rw [if_pos he, if_pos (by omega)]
            · rw [if_neg he, if_neg (by omega)]

/-! ### Frames and memory -/
abbrev FT := T AV
def FT.den (f : FT) : Fr := fun i => T.get (.tuple []) f i
def FT.put (f : FT) (t : Option Nat) (v : AV) : FT :=
  match t with
  | some t => T.set (.tuple []) (t + 1) f t v
  | none => f
theorem FT.put_den (f : FT) (t : Option Nat) (v : AV) : (f.put t v).den = setFr f.den t v := by
  cases t with
  | none => rfl
  | some t => funext i; exact T.get_set _ _ f t v (by omega) i
structure M where
  t : T (Option Blk)
  next : Nat
def M.den (m : M) : AH := ⟨fun b => T.get none m.t b, m.next⟩
def M.set (m : M) (b : Nat) (k : Blk) : M := ⟨T.set none (b + 1) m.t b (some k), m.next⟩
def M.kill (m : M) (b : Nat) : M := ⟨T.set none (b + 1) m.t b none, m.next⟩
def M.alloc (m : M) (k : Blk) : M := ⟨T.set none (m.next + 1) m.t m.next (some k), m.next + 1⟩
@[simp] theorem M.set_den (m : M) (b : Nat) (k : Blk) : (m.set b k).den = m.den.set b k := by
  simp only [M.set, M.den, AH.set, T.get_set none (b + 1) m.t b _ (Nat.lt_succ_self _)]
@[simp] theorem M.kill_den (m : M) (b : Nat) : (m.kill b).den = m.den.kill b := by
  simp only [M.kill, M.den, AH.kill, T.get_set none (b + 1) m.t b _ (Nat.lt_succ_self _)]
@[simp] theorem M.alloc_den (m : M) (k : Blk) : (m.alloc k).den = m.den.alloc k := by
  simp only [M.alloc, M.den, AH.alloc, T.get_set none (m.next + 1) m.t m.next _ (Nat.lt_succ_self _)]
  rfl
@[simp] theorem M.den_next (m : M) : m.den.next = m.next := rfl

/-! ### Loads, stores, new variables -/
variable (C : Cx)
def shX (s : Sh) (v : AV) : Bool :=
  match s, v with
  | .int k, .int k' _ => decide (k = k')
  | .bool, .bool _ | .str, .str _ | .ptr, .ptr _ | .slice, .slice .. | .map, .map _ | .raw, _ => true
  | _, _ => false
theorem shX_ld {σ : AH} {b o : Nat} {K : AV → Prop} {s : Sh} {v : AV} (h : shX s v = true) (hc : σ.cell b o = some v) (hK : K v) : ldK σ b o K s := by
  unfold shX at h
  split at h
  · simp only [decide_eq_true_eq] at h; subst h; exact ⟨_, hc, hK⟩
  · exact ⟨_, hc, hK⟩
  · exact ⟨_, hc, hK⟩
  · exact ⟨_, hc, hK⟩
  · exact ⟨_, _, _, hc, hK⟩
  · exact ⟨_, hc, hK⟩
  · exact ⟨_, hc, hK⟩
  · cases h
def shsX : List Sh → List AV → Bool
  | [], [] => true
  | s :: ss, v :: vs => shX s v && shsX ss vs
  | _, _ => false
theorem shsX_ld {σ : AH} {b : Nat} : ∀ {ss : List Sh} {vs : List AV} {o : Nat} {K : List AV → Prop}, shsX ss vs = true → (∀ i v, vs[i]? = some v → σ.cell b (o + i) = some v) → K vs → ldsK σ b o ss K
  | [], [], o, K, _, _, hK => hK
  | s :: ss, v :: vs, o, K, h, hc, hK => by
    simp only [shsX, Bool.and_eq_true] at h
    simp only [ldsK]
    exact shX_ld h.1 (hc 0 v rfl) (shsX_ld h.2 (fun i u hu => by rw [show o + 1 + i = o + (i + 1) by omega]; exact hc (i + 1) u (by simpa using hu)) hK)
  | [], _ :: _, _, _, h, _, _ => by cases h
  | _ :: _, [], _, _, h, _, _ => by cases h
def loadX (t : TypeId) (x : AV) (σ : AH) : Option AV :=
  match x with
  | .ptr (some (b, o)) =>
    match C.ti t with
    | some ti =>
      cond ti.d.isAgg
        (match σ.range b o ti.size with
         | some vs => cond (shsX ti.sh vs) (some (.agg vs)) none
         | none => none)
        (match ti.sh with
         | [s] => (match σ.cell b o with
           | some v => cond (shX s v) (some v) none
           | none => none)
         | _ => none)
    | none => none
  | _ => none
variable {C}
theorem loadX_ok {t : TypeId} {x : AV} {σ : AH} {v : AV} {K : AV → Prop} (h : loadX C t x σ = some v) (hK : K v) : loadVc C t x σ K := by
  unfold loadX at h
  split at h
  case h_2 => cases h
  rename_i b o
  split at h
  case h_2 => cases h
  rename_i ti hti
  unfold loadVc
  simp only [hti]
  cases hagg : ti.d.isAgg with
  | true =>
    rw [hagg] at h
    simp only [cond_true] at h
    split at h
    case h_2 => cases h
    rename_i vs hvs
    rw [Bool.cond_eq_ite] at h
    split at h
    case isFalse => cases h
    rename_i hsh
    cases h
    simp only [if_true, atP]
    refine ⟨by rw [hvs]; rfl, shsX_ld hsh (fun i v hv => ?_) (by rw [if_pos (range_length hvs)]; exact hK)⟩
    have hi : i < ti.size := by
      have := (List.getElem?_eq_some_iff.1 hv).1
      rw [range_length hvs] at this; exact this
    rw [cell_range hvs i hi]; exact hv
  | false =>
    rw [hagg] at h
    simp only [cond_false] at h
    simp only [Bool.false_eq_true, if_false]
    split at h
    case h_2 => cases h
    rename_i s hs
    split at h
    case h_2 => cases h
    rename_i u hu
    rw [Bool.cond_eq_ite] at h
    split at h
    case isFalse => cases h
    rename_i hsh
    cases h
    simp only [hs, atP]
    exact shX_ld hsh hu hK

def putX (m : M) (b o : Nat) (vs : List AV) : Option M :=
  match m.den.get b with
  | some (.cells cs own) => cond (own.rw && Nat.ble (o + vs.length) cs.length) (some (m.set b (.cells (layL cs o vs) own))) none
  | _ => none
theorem putX_ok {m m' : M} {b o : Nat} {vs : List AV} {K : AH → Prop} (h : putX m b o vs = some m') (hK : K m'.den) : putVc m.den b o vs K := by
  unfold putX at h
  split at h
  case h_2 => cases h
  rename_i cs own hg
  rw [Bool.cond_eq_ite] at h
  split at h
  case isFalse => cases h
  rename_i hc
  cases h
  simp only [Bool.and_eq_true, Nat.ble_eq] at hc
  exact ⟨cs, own, hg, hc.1, hc.2, by rw [← M.set_den]; exact hK⟩
def storeX (C : Cx) (t : TypeId) (x v : AV) (m : M) : Option M :=
  match x with
  | .ptr (some (b, o)) =>
    match C.ti t with
    | some ti => cond (leaves v.cells && Nat.beq v.cells.length ti.size) (putX m b o v.cells) none
    | none => none
  | _ => none
theorem storeX_ok {t : TypeId} {x v : AV} {m m' : M} {K : AH → Prop} (h : storeX C t x v m = some m') (hK : K m'.den) : storeVc C t x v m.den K := by
  unfold storeX at h
  split at h
  case h_2 => cases h
  rename_i b o
  split at h
  case h_2 => cases h
  rename_i ti hti
  rw [Bool.cond_eq_ite] at h
  split at h
  case isFalse => cases h
  rename_i hc
  simp only [Bool.and_eq_true, Nat.beq_eq] at hc
  unfold storeVc
  simp only [hti]
  rw [if_pos hc.1, if_pos hc.2]
  exact putX_ok h hK
def newX (vs : List AV) (m : M) : Option (AV × M) :=
  cond (leaves vs) (some (.ptr (some (m.next, 0)), m.alloc (.cells vs (.exact 1)))) none
theorem newX_ok {vs : List AV} {m m' : M} {v : AV} {K : AV → AH → Prop} (h : newX vs m = some (v, m')) (hK : K v m'.den) : newVc vs m.den K := by
  unfold newX at h
  rw [Bool.cond_eq_ite] at h
  split at h
  case isFalse => cases h
  rename_i hc
  cases h
  unfold newVc
  rw [if_pos hc, ← M.alloc_den]
  exact hK

/-! ### Aggregates -/
def buildX (C : Cx) (t : TypeId) (ps : List (Nat × AV)) : Option AV :=
  match C.ti t with
  | some ti =>
    match ti.d with
    | .struct fs =>
      cond (fs.all fun f => (C.ti f.2).isSome)
        ((fillL (fun i => match fs[i]? with | some (off, ft) => (C.ti ft).map fun x => (off, x.size) | none => none) ti.zero ps).map .agg) none
    | .array _ e =>
      match C.ti e with
      | some x => (fillL (fun i => some (i * x.size, x.size)) ti.zero ps).map .agg
      | none => none
    | _ => none
  | none => none
theorem buildX_ok {t : TypeId} {ps : List (Nat × AV)} {v : AV} {K : AV → Prop} (h : buildX C t ps = some v) (hK : K v) : buildVc C t ps K := by
  unfold buildX at h
  unfold buildVc
  split at h
  case h_2 => cases h
  rename_i ti hti
  simp only [hti]
  split at h
  · rename_i fs hd
    simp only [hd]
    rw [Bool.cond_eq_ite] at h
    split at h
    case isFalse => cases h
    rename_i hc
    rw [if_pos hc]
    cases hf : fillL (fun i => match fs[i]? with | some (off, ft) => (C.ti ft).map fun x => (off, x.size) | none => none) ti.zero ps with
    | none => rw [hf] at h; cases h
    | some cs => rw [hf] at h; cases h; exact hK
  · rename_i n e hd
    simp only [hd]
    split at h
    case h_2 => cases h
    rename_i x hx
    simp only [hx]
    cases hf : fillL (fun i => some (i * x.size, x.size)) ti.zero ps with
    | none => rw [hf] at h; cases h
    | some cs => rw [hf] at h; cases h; exact hK
  · cases h
def buildSliceX (C : Cx) (t : TypeId) (len : Nat) (ps : List (Nat × AV)) (m : M) : Option (AV × M) :=
  match C.ti t with
  | some ti =>
    match ti.d with
    | .slice e =>
      match C.ti e with
      | some x => cond (Nat.ble (len * x.size) (2 ^ 24))
          (match fillL (fun i => some (i * x.size, x.size)) (repL x.zero len) ps with
           | some cs => cond (leaves cs) (some (.slice (some (m.next, 0)) len (.k len), m.alloc (.cells cs (.exact x.size)))) none
           | none => none) none
      | none => none
    | _ => none
  | none => none
theorem buildSliceX_ok {t : TypeId} {len : Nat} {ps : List (Nat × AV)} {v : AV} {m m' : M} {K : AV → AH → Prop} (h : buildSliceX C t len ps m = some (v, m')) (hK : K v m'.den) : buildSliceVc C t len ps m.den K := by
  unfold buildSliceX at h
  unfold buildSliceVc
  split at h
  case h_2 => cases h
  rename_i ti hti
  simp only [hti]
  split at h
  case h_2 => cases h
  rename_i e hd
  simp only [hd]
  split at h
  case h_2 => cases h
  rename_i x hx
  simp only [hx]
  rw [Bool.cond_eq_ite] at h
  split at h
  case isFalse => cases h
  rename_i hc
  simp only [Nat.ble_eq] at hc
  rw [if_pos hc]
  split at h
  case h_2 => cases h
  rename_i cs hcs
  rw [Bool.cond_eq_ite] at h
  split at h
  case isFalse => cases h
  rename_i hl
  cases h
  simp only [hcs]
  rw [if_pos hl, ← M.alloc_den]
  exact hK
def partX (C : Cx) (t : TypeId) (cs : List AV) (off : Nat) : Option AV :=
  match C.ti t with
  | some x => cond x.d.isAgg (some (.agg ((cs.drop off).take x.size))) cs[off]?
  | none => none
theorem partX_ok {t : TypeId} {cs : List AV} {off : Nat} {v : AV} {K : AV → Prop} (h : partX C t cs off = some v) (hK : K v) : partVc C t cs off K := by
  unfold partX at h
  unfold partVc
  split at h
  case h_2 => cases h
  rename_i x hx
  simp only [hx]
  rw [Bool.cond_eq_ite] at h
  split at h
  · rename_i hc
    cases h
    rw [if_pos hc]; exact hK
  · rename_i hc
    rw [if_neg hc, h]; exact hK
def fieldX (C : Cx) (t : TypeId) (x : AV) (f : Nat) : Option AV :=
  match C.ti t, x with
  | some ti, .agg cs =>
    match ti.d with
    | .struct fs =>
      match fs[f]? with
      | some (off, ft) => partX C ft cs off
      | none => none
    | _ => none
  | _, _ => none
theorem fieldX_ok {t : TypeId} {x : AV} {f : Nat} {v : AV} {K : AV → Prop} (h : fieldX C t x f = some v) (hK : K v) : fieldVc C t x f K := by
  unfold fieldX at h
  unfold fieldVc
  split at h
  case h_2 => cases h
  rename_i ti cs hti
  simp only [hti]
  split at h
  case h_2 => cases h
  rename_i fs hd
  simp only [hd]
  split at h
  case h_2 => cases h
  rename_i off ft hf
  simp only [hf]
  exact partX_ok h hK
def fieldAddrX (C : Cx) (t : TypeId) (x : AV) (f : Nat) : Option AV :=
  match C.ti t, x with
  | some ti, .ptr (some (b, o)) =>
    match ti.d with
    | .struct fs =>
      match fs[f]? with
      | some (off, ft) =>
        match C.ti ft with
        | some y => cond (Nat.beq y.size 0) none (some (.ptr (some (b, o + off))))
        | none => none
      | none => none
    | _ => none
  | _, _ => none
theorem fieldAddrX_ok {t : TypeId} {x : AV} {f : Nat} {v : AV} {K : AV → Prop} (h : fieldAddrX C t x f = some v) (hK : K v) : fieldAddrVc C t x f K := by
  unfold fieldAddrX at h
  unfold fieldAddrVc
  split at h
  case h_2 => cases h
  rename_i ti b o hti
  simp only [hti]
  split at h
  case h_2 => cases h
  rename_i fs hd
  simp only [hd]
  split at h
  case h_2 => cases h
  rename_i off ft hf
  simp only [hf]
  split at h
  case h_2 => cases h
  rename_i y hy
  simp only [hy]
  rw [Bool.cond_eq_ite] at h
  split at h
  · cases h
  rename_i hc
  simp only [Nat.beq_eq] at hc
  cases h
  rw [if_neg hc]
  exact hK
def intLt (i : Int) (n : Nat) : Bool :=
  match i with
  | .ofNat a => Nat.blt a n
  | .negSucc _ => false
theorem intLt_ok {i : Int} {n : Nat} (h : intLt i n = true) : 0 ≤ i ∧ i < (n : Int) := by
  unfold intLt at h
  split at h
  · simp only [Nat.blt_eq] at h; exact ⟨by simp, by simpa using Int.ofNat_lt.2 h⟩
  · cases h
def indexAddrX (C : Cx) (t : TypeId) (x i : AV) : Option AV :=
  match C.ti t, i with
  | some ti, .int _ i =>
    match ti.d, x with
    | .array n e, .ptr (some (b, o)) =>
      match C.ti e with
      | some y => cond (intLt i n) (some (.ptr (some (b, o + i.toNat * y.size)))) none
      | none => none
    | .slice e, .slice (some (b, o)) n _ =>
      match C.ti e with
      | some y => cond (intLt i n) (some (.ptr (some (b, o + i.toNat * y.size)))) none
      | none => none
    | _, _ => none
  | _, _ => none
theorem indexAddrX_ok {t : TypeId} {x i : AV} {v : AV} {K : AV → Prop} (h : indexAddrX C t x i = some v) (hK : K v) : indexAddrVc C t x i K := by
  unfold indexAddrX at h
  unfold indexAddrVc
  split at h
  case h_2 => cases h
  rename_i ti ki i hti
  simp only [hti]
  split at h
  · rename_i n e b o hd
    simp only [hd]
    split at h
    case h_2 => cases h
    rename_i y hy
    simp only [hy]
    rw [Bool.cond_eq_ite] at h
    split at h
    case isFalse => cases h
    rename_i hc
    cases h
    exact ⟨(intLt_ok hc).1, (intLt_ok hc).2, hK⟩
  · rename_i e b o n c hd
    simp only [hd]
    split at h
    case h_2 => cases h
    rename_i y hy
    simp only [hy]
    rw [Bool.cond_eq_ite] at h
    split at h
    case isFalse => cases h
    rename_i hc
    cases h
    exact ⟨(intLt_ok hc).1, (intLt_ok hc).2, hK⟩
  · cases h
def indexX (C : Cx) (t : TypeId) (x i : AV) : Option AV :=
  match C.ti t, i with
  | some ti, .int _ i =>
    match ti.d, x with
    | .array n e, .agg cs =>
      match C.ti e with
      | some y => cond (intLt i n) (partX C e cs (i.toNat * y.size)) none
      | none => none
    | .str, .str s => cond (intLt i s.length) (match s[i.toNat]? with | some c => some (.int .u8 c.toNat) | none => none) none
    | _, _ => none
  | _, _ => none
theorem indexX_ok {t : TypeId} {x i : AV} {v : AV} {K : AV → Prop} (h : indexX C t x i = some v) (hK : K v) : indexVc C t x i K := by
  unfold indexX at h
  unfold indexVc
  split at h
  case h_2 => cases h
  rename_i ti ki i hti
  simp only [hti]
  split at h
  · rename_i n e cs hd
    simp only [hd]
    split at h
    case h_2 => cases h
    rename_i y hy
    simp only [hy]
    rw [Bool.cond_eq_ite] at h
    split at h
    case isFalse => cases h
    rename_i hc
    exact ⟨(intLt_ok hc).1, (intLt_ok hc).2, partX_ok h hK⟩
  · rename_i s hd
    simp only [hd]
    rw [Bool.cond_eq_ite] at h
    split at h
    case isFalse => cases h
    rename_i hc
    split at h
    case h_2 => cases h
    rename_i c hcc
    cases h
    exact ⟨(intLt_ok hc).1, c, hcc, hK⟩
  · cases h
end Go.Proofs.YthpngchngnaloaaGreatDoor.Vm
