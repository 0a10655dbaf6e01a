/- The values and the memory of an abstract machine, and what it means that a world of the model is as such a memory says. -/
import Derived.Calls
import Derived.Orders
import Derived.Below
import Derived.Laws.Sem
namespace Go.Proofs.YthpngchngnaloaaGreatDoor.Vm

/-- Where an abstract block lies: its block, where it begins there, how many cells it may take, and how many cells an element has. -/
structure Place where
  blk : Nat
  base : Nat
  lim : Nat
  sz : Nat

abbrev IM := Nat → Option Place

/-- What is known of the capacity of a slice: all; that it reaches to the end of where its block may lie; nothing. -/
inductive Cp where
  | k (n : Nat) | u | x
def capRel (p : Place) (o cap : Nat) : Cp → Prop
  | .k c => cap = c
  | .u => o + cap * p.sz = p.lim
  | .x => True

inductive AV where
  | any
  | int (k : IntKind) (n : Int)
  | bool (b : Bool)
  | str (s : List UInt8)
  | ptr (a : Option (Nat × Nat))
  | slice (a : Option (Nat × Nat)) (len : Nat) (cap : Cp)
  | map (r : Option Nat)
  | func (f : FuncId) (first captured : List AV)
  | nilFunc
  | iface (t : TypeId) (v : AV)
  | nilIface
  | agg (cs : List AV)
  | tuple (vs : List AV)
  | yield (b : Nat)
  deriving Inhabited

mutual
/-- A value of the model is as an abstract value says. -/
def VRel (ι : IM) : AV → Value → Prop
  | .any, _ => True
  | .int k n, v => v = .int k n
  | .bool b, v => v = .bool b
  | .str s, v => v = .string ⟨s.toArray⟩
  | .ptr none, v => v = .pointer none
  | .ptr (some (b, o)), v => ∃ p, ι b = some p ∧ v = .pointer (some ⟨p.blk, p.base + o, none⟩)
  | .slice none n c, v => n = 0 ∧ c = .k 0 ∧ v = .slice none 0 0
  | .slice (some (b, o)) n c, v => ∃ p a ĉ, ι b = some p ∧ v = .slice (some a) n ĉ ∧ n ≤ ĉ ∧ (0 < ĉ → a = ⟨p.blk, p.base + o, none⟩) ∧ capRel p o ĉ c
  | .map none, v => v = .map none
  | .map (some r), v => ∃ p, ι r = some p ∧ v = .map (some p.blk)
  | .func f fs cs, v => ∃ fs' cs', v = .func (.func f) (List.toArray fs') (List.toArray cs') ∧ VRelL ι fs fs' ∧ VRelL ι cs cs'
  | .nilFunc, v => v = .nilFunc
  | .iface t x, v => ∃ y, v = .iface t y ∧ VRel ι x y
  | .nilIface, v => v = .nilIface
  | .agg cs, v => ∃ l, v = .agg (List.toArray l) ∧ VRelL ι cs l
  | .tuple cs, v => ∃ l, v = .tuple (List.toArray l) ∧ VRelL ι cs l
  | .yield b, v => ∃ p, ι b = some p ∧ v = .func (.yield p.blk) #[] #[]
def VRelL (ι : IM) : List AV → List Value → Prop
  | [], l => l = []
  | a :: as, l => ∃ v vs, l = v :: vs ∧ VRel ι a v ∧ VRelL ι as vs
end

def IM.le (ι ι' : IM) : Prop := ∀ b p, ι b = some p → ι' b = some p
theorem IM.le_refl (ι : IM) : ι.le ι := fun _ _ h => h
theorem IM.le_trans {ι ι' ι'' : IM} (h : ι.le ι') (h' : ι'.le ι'') : ι.le ι'' := fun b p hp => h' b p (h b p hp)

mutual
theorem VRel.mono {ι ι' : IM} (h : ι.le ι') : ∀ (a : AV) (v : Value), VRel ι a v → VRel ι' a v
  | .any, _, hv => by simp only [VRel]
  | .int k n, v, hv => by simpa only [VRel] using hv
  | .bool b, v, hv => by simpa only [VRel] using hv
  | .str s, v, hv => by simpa only [VRel] using hv
  | .ptr none, v, hv => by simpa only [VRel] using hv
  | .ptr (some (b, o)), v, hv => by
    simp only [VRel] at hv ⊢
    obtain ⟨p, hp, hv⟩ := hv
    exact ⟨p, h _ _ hp, hv⟩
  | .slice none n c, v, hv => by simpa only [VRel] using hv
  | .slice (some (b, o)) n c, v, hv => by
    simp only [VRel] at hv ⊢
    obtain ⟨p, a, ĉ, hp, hv⟩ := hv
    exact ⟨p, a, ĉ, h _ _ hp, hv⟩
  | .map none, v, hv => by simpa only [VRel] using hv
  | .map (some r), v, hv => by
    simp only [VRel] at hv ⊢
    obtain ⟨p, hp, hv⟩ := hv
    exact ⟨p, h _ _ hp, hv⟩
  | .func f fs cs, v, hv => by
    simp only [VRel] at hv ⊢
    obtain ⟨l, m, hv, h1, h2⟩ := hv
    exact ⟨l, m, hv, VRelL.mono h fs l h1, VRelL.mono h cs m h2⟩
  | .nilFunc, v, hv => by simpa only [VRel] using hv
  | .iface t x, v, hv => by
    simp only [VRel] at hv ⊢
    obtain ⟨y, hv, h1⟩ := hv
    exact ⟨y, hv, VRel.mono h x y h1⟩
  | .nilIface, v, hv => by simpa only [VRel] using hv
  | .agg cs, v, hv => by
    simp only [VRel] at hv ⊢
    obtain ⟨l, hv, h1⟩ := hv
    exact ⟨l, hv, VRelL.mono h cs l h1⟩
  | .tuple cs, v, hv => by
    simp only [VRel] at hv ⊢
    obtain ⟨l, hv, h1⟩ := hv
    exact ⟨l, hv, VRelL.mono h cs l h1⟩
  | .yield b, v, hv => by
    simp only [VRel] at hv ⊢
    obtain ⟨p, hp, hv⟩ := hv
    exact ⟨p, h _ _ hp, hv⟩
theorem VRelL.mono {ι ι' : IM} (h : ι.le ι') : ∀ (as : List AV) (vs : List Value), VRelL ι as vs → VRelL ι' as vs
  | [], l, hv => by simpa only [VRelL] using hv
  | a :: as, l, hv => by
    simp only [VRelL] at hv ⊢
    obtain ⟨v, vs, hl, h1, h2⟩ := hv
    exact ⟨v, vs, hl, VRel.mono h a v h1, VRelL.mono h as vs h2⟩
end

theorem VRelL.length {ι : IM} : ∀ {as : List AV} {vs : List Value}, VRelL ι as vs → vs.length = as.length
  | [], l, h => by simp only [VRelL] at h; simp [h]
  | a :: as, l, h => by
    simp only [VRelL] at h
    obtain ⟨v, vs, rfl, _, h2⟩ := h
    simp [h2.length]
theorem VRelL.get {ι : IM} : ∀ {as : List AV} {vs : List Value}, VRelL ι as vs → ∀ {i : Nat} {a : AV}, as[i]? = some a → ∃ v, vs[i]? = some v ∧ VRel ι a v
  | [], _, _, i, a, ha => by simp at ha
  | a :: as, l, h, i, x, hx => by
    simp only [VRelL] at h
    obtain ⟨v, vs, rfl, h1, h2⟩ := h
    cases i with
    | zero => simp at hx; subst hx; exact ⟨v, rfl, h1⟩
    | succ i => simp at hx; obtain ⟨u, hu, hr⟩ := h2.get hx; exact ⟨u, by simpa using hu, hr⟩
theorem VRelL.get' {ι : IM} : ∀ {as : List AV} {vs : List Value}, VRelL ι as vs → ∀ {i : Nat} {v : Value}, vs[i]? = some v → ∃ a, as[i]? = some a ∧ VRel ι a v
  | [], l, h, i, v, hv => by simp only [VRelL] at h; subst h; simp at hv
  | a :: as, l, h, i, x, hx => by
    simp only [VRelL] at h
    obtain ⟨v, vs, rfl, h1, h2⟩ := h
    cases i with
    | zero => simp at hx; subst hx; exact ⟨a, rfl, h1⟩
    | succ i => simp at hx; obtain ⟨u, hu, hr⟩ := h2.get' hx; exact ⟨u, by simpa using hu, hr⟩
theorem VRelL.append {ι : IM} : ∀ {as bs : List AV} {vs us : List Value}, VRelL ι as vs → VRelL ι bs us → VRelL ι (as ++ bs) (vs ++ us)
  | [], bs, vs, us, h, h' => by simp only [VRelL] at h; subst h; simpa using h'
  | a :: as, bs, vs, us, h, h' => by
    simp only [VRelL] at h
    obtain ⟨v, ws, rfl, h1, h2⟩ := h
    simp only [List.cons_append, VRelL]
    exact ⟨v, ws ++ us, rfl, h1, h2.append h'⟩
theorem VRelL.cons {ι : IM} {a : AV} {as : List AV} {v : Value} {vs : List Value} (h : VRel ι a v) (h' : VRelL ι as vs) : VRelL ι (a :: as) (v :: vs) := by
  simp only [VRelL]; exact ⟨v, vs, rfl, h, h'⟩
theorem VRelL.nil {ι : IM} : VRelL ι [] [] := by simp only [VRelL]
theorem VRelL.of_get {ι : IM} : ∀ {as : List AV} {vs : List Value}, vs.length = as.length → (∀ (i : Nat) (a : AV) (v : Value), as[i]? = some a → vs[i]? = some v → VRel ι a v) → VRelL ι as vs
  | [], vs, h, _ => by simp only [VRelL]; exact List.length_eq_zero_iff.1 h
  | a :: as, [], h, _ => by simp at h
  | a :: as, v :: vs, h, hg => .cons (hg 0 a v rfl rfl) (.of_get (by simpa using h) fun i x u hx hu => hg (i + 1) x u (by simpa using hx) (by simpa using hu))
theorem VRelL.take {ι : IM} {as : List AV} {vs : List Value} (h : VRelL ι as vs) (n : Nat) : VRelL ι (as.take n) (vs.take n) := by
  refine .of_get (by simp [h.length]) fun i a v ha hv => ?_
  rw [List.getElem?_take] at ha hv
  split at ha
  · rename_i hi
    rw [if_pos hi] at hv
    obtain ⟨u, hu, hr⟩ := h.get ha
    rw [hv] at hu; cases hu; exact hr
  · cases ha
theorem VRelL.drop {ι : IM} {as : List AV} {vs : List Value} (h : VRelL ι as vs) (n : Nat) : VRelL ι (as.drop n) (vs.drop n) := by
  refine .of_get (by simp [h.length]) fun i a v ha hv => ?_
  rw [List.getElem?_drop] at ha hv
  obtain ⟨u, hu, hr⟩ := h.get ha
  rw [hv] at hu; cases hu; exact hr

/-! ### Constants -/
mutual
/-- A constant of the model as an abstract value: what bears no address. -/
def ofV : Value → AV
  | .bool b => .bool b
  | .int k n => .int k n
  | .string s => .str s.data.toList
  | .pointer none => .ptr none
  | .slice none 0 0 => .slice none 0 (.k 0)
  | .map none => .map none
  | .nilFunc => .nilFunc
  | .nilIface => .nilIface
  | .agg ⟨l⟩ => .agg (ofVs l)
  | .tuple ⟨l⟩ => .tuple (ofVs l)
  | _ => .any
def ofVs : List Value → List AV
  | [] => []
  | v :: vs => ofV v :: ofVs vs
end
mutual
theorem ofV_rel (ι : IM) : ∀ v, VRel ι (ofV v) v
  | .bool b => by simp [ofV, VRel]
  | .int k n => by simp [ofV, VRel]
  | .string s => by simp [ofV, VRel]
  | .pointer none => by simp [ofV, VRel]
  | .slice none 0 0 => by simp [ofV, VRel]
  | .map none => by simp [ofV, VRel]
  | .nilFunc => by simp [ofV, VRel]
  | .nilIface => by simp [ofV, VRel]
  | .agg ⟨l⟩ => by simp only [ofV, VRel]; exact ⟨l, rfl, ofVs_rel ι l⟩
  | .tuple ⟨l⟩ => by simp only [ofV, VRel]; exact ⟨l, rfl, ofVs_rel ι l⟩
  | .float .. => by simp [ofV, VRel]
  | .complex .. => by simp [ofV, VRel]
  | .pointer (some _) => by simp [ofV, VRel]
  | .slice (some _) _ _ => by simp [ofV, VRel]
  | .slice none (_ + 1) _ => by simp [ofV, VRel]
  | .slice none 0 (_ + 1) => by simp [ofV, VRel]
  | .map (some _) => by simp [ofV, VRel]
  | .chan _ => by simp [ofV, VRel]
  | .func .. => by simp [ofV, VRel]
  | .iface .. => by simp [ofV, VRel]
theorem ofVs_rel (ι : IM) : ∀ l, VRelL ι (ofVs l) l
  | [] => by simp [ofVs, VRelL]
  | v :: vs => by simp only [ofVs]; exact .cons (ofV_rel ι v) (ofVs_rel ι vs)
end

/-! ### The abstract memory -/
/-- Whether a block is written: never; yes, and it may grow; yes, and all that it may ever have is known. -/
inductive Own where
  | ro | grow (sz : Nat) | exact (sz : Nat)
  deriving DecidableEq
def Own.sz : Own → Option Nat
  | .ro => none
  | .grow s => some s
  | .exact s => some s
def Own.full : Own → Bool
  | .exact _ => true
  | _ => false
def Own.rw : Own → Bool
  | .ro => false
  | _ => true

inductive Blk where
  | cells (cs : List AV) (own : Own)
  | map (es : List (AV × AV × Nat)) (clock : Nat)
  | siter (s : List UInt8) (pos : Nat)
  | miter (m : Option Nat) (since : Nat) (seen : List Nat) (last : Nat)
  | loop (st : LoopState) (pe : Option Code) (fr : List AV) (ps : Array Nat) (assign body : Code)

def Blk.rw : Blk → Bool
  | .cells _ own => own.rw
  | .map .. => true
  | .siter .. => true
  | .miter .. => true
  | .loop .. => true

structure AH where
  get : Nat → Option Blk
  next : Nat

def AH.set (σ : AH) (b : Nat) (k : Blk) : AH := { σ with get := fun i => if i = b then some k else σ.get i }
def AH.kill (σ : AH) (b : Nat) : AH := { σ with get := fun i => if i = b then none else σ.get i }
def AH.alloc (σ : AH) (k : Blk) : AH := { get := fun i => if i = σ.next then some k else σ.get i, next := σ.next + 1 }

def MRel (ι : IM) : List (AV × AV × Nat) → List MapEntry → Prop
  | [], l => l = []
  | e :: es, l => ∃ e' l', l = e' :: l' ∧ VRel ι e.1 e'.key ∧ VRel ι e.2.1 e'.val ∧ e.2.2 = e'.born ∧ MRel ι es l'
theorem MRel.mono {ι ι' : IM} (h : ι.le ι') : ∀ {es : List (AV × AV × Nat)} {l : List MapEntry}, MRel ι es l → MRel ι' es l
  | [], l, hm => hm
  | e :: es, l, hm => by
    obtain ⟨e', l', hl, h1, h2, h3, h4⟩ := hm
    exact ⟨e', l', hl, VRel.mono h _ _ h1, VRel.mono h _ _ h2, h3, MRel.mono h h4⟩
theorem MRel.length {ι : IM} : ∀ {es : List (AV × AV × Nat)} {l : List MapEntry}, MRel ι es l → l.length = es.length
  | [], l, hm => by simp only [MRel] at hm; subst hm; rfl
  | e :: es, l, hm => by
    obtain ⟨e', l', rfl, h1, h2, h3, h4⟩ := hm
    simp [h4.length]

def BRel (ι : IM) : Blk → Place → World → Prop
  | .cells cs own, p, w => ∃ ĉs elem fr, w.heap[p.blk]? = some (.cells ĉs elem fr) ∧ VRelL ι cs ((ĉs.toList.drop p.base).take cs.length) ∧
      cs.length ≤ p.lim ∧ p.base + p.lim ≤ ĉs.size ∧ (∀ v, v ∈ (ĉs.toList.drop p.base).take p.lim → v.oneCell' = true) ∧
      (own.rw = true → (∀ j, p.base ≤ j → j < p.base + p.lim → ¬ (fr.1 ≤ j ∧ j < fr.2))) ∧ (own.full = true → cs.length = p.lim) ∧ (∀ s, own.sz = some s → p.sz = s)
  | .map es clock, p, w => ∃ ês, w.heap[p.blk]? = some (.map ês clock) ∧ MRel ι es ês.toList
  | .siter s pos, p, w => w.heap[p.blk]? = some (.stringIter ⟨s.toArray⟩ pos) ∧ p.base = 0
  | .miter m since seen last, p, w => ∃ m', w.heap[p.blk]? = some (.mapIter m' since seen.toArray last) ∧ p.base = 0 ∧ (m = none → m' = none) ∧ (∀ r, m = some r → ∃ q, ι r = some q ∧ m' = some q.blk)
  | .loop st pe fr ps assign body, p, w => ∃ r, w.heap[p.blk]? = some (.loop r) ∧ r.state = st ∧ r.pending = pe ∧ VRelL ι fr r.tmps.toList ∧ r.params = ps ∧ r.assign = assign ∧ r.body = body

/-- What stands fast through a call: the world at its beginning, how many blocks it had, and which variables are known. -/
structure Base where
  w0 : World
  N : Nat
  /-- blocks for deferred calls, which stay empty -/
  defs : List Nat := []

structure Rel (G : Base) (ι : IM) (σ : AH) (w : World) : Prop where
  fresh : ∀ b, σ.next ≤ b → ι b = none ∧ σ.get b = none
  live : ∀ b p k, ι b = some p → σ.get b = some k → BRel ι k p w
  bound : ∀ b p, ι b = some p → p.blk < w.heap.size
  apart : ∀ b p b' p' k k', b ≠ b' → ι b = some p → ι b' = some p' → σ.get b = some k → σ.get b' = some k' → k.rw = true → p.blk ≠ p'.blk
  new : ∀ b p k, ι b = some p → σ.get b = some k → k.rw = true → G.N ≤ p.blk
  below : RowKit.Below G.N G.w0 w
  size : G.N ≤ w.heap.size
  kept : ∀ D, D ∈ G.defs → w.heap[D]? = some (.deferred (some [])) ∧ ∀ b p, ι b = some p → p.blk ≠ D

/-- The relation between a memory and a later one's: what was there lies where it lay. -/
def Ext (n : Nat) (ι ι' : IM) : Prop := ∀ b, b < n → ι' b = ι b
theorem Ext.refl (n : Nat) (ι : IM) : Ext n ι ι := fun _ _ => rfl
theorem Ext.trans {n m : Nat} {ι ι' ι'' : IM} (h : Ext n ι ι') (h' : Ext m ι' ι'') (hn : n ≤ m) : Ext n ι ι'' :=
  fun b hb => (h' b (Nat.lt_of_lt_of_le hb hn)).trans (h b hb)
theorem Rel.le {G : Base} {ι ι' : IM} {σ : AH} {w : World} (h : Rel G ι σ w) (he : Ext σ.next ι ι') : ι.le ι' := by
  intro b p hp
  by_cases hb : b < σ.next
  · rw [he b hb]; exact hp
  · rw [(h.fresh b (by omega)).1] at hp; cases hp
end Go.Proofs.YthpngchngnaloaaGreatDoor.Vm
