/- The values and the memory of an abstract machine, and what it means that a world of the model is as such a memory says. -/
import Derived.Calls
import Derived.Orders
import Derived.Below
import Derived.Laws.Sem
import Derived.Laws.Cells
namespace Go.Proofs.YthpngchngnaloaaGreatDoor.Vm

/-- Where an abstract block lies: its block, where it begins there, how many cells it may take, and how many cells an element has. -/
structure Place where
  blk : Nat
  base : Nat
  lim : Nat
  sz : Nat

abbrev IM := Nat → Option Place

/-- What is known of the capacity of a slice: all; that it reaches to the end of where its block may lie; nothing. -/
inductive Cp where
  | k (n : Nat) | u | x
def capRel (p : Place) (o cap : Nat) : Cp → Prop
  | .k c => cap = c
  | .u => o + cap * p.sz = p.lim
  | .x => True

inductive AV where
  | any
  | int (k : IntKind) (n : Int)
  | bool (b : Bool)
  | str (s : List UInt8)
  | ptr (a : Option (Nat × Nat))
  | slice (a : Option (Nat × Nat)) (len : Nat) (cap : Cp)
  | map (r : Option Nat)
  | func (f : FuncId) (first captured : List AV)
  | nilFunc
  | iface (t : TypeId) (v : AV)
  | nilIface
  | agg (cs : List AV)
  | tuple (vs : List AV)
  | yield (b : Nat)
  deriving Inhabited

mutual
/-- A value of the model is as an abstract value says. -/
def VRel (ι : IM) : AV → Value → Prop
  | .any, _ => True
  | .int k n, v => v = .int k n
  | .bool b, v => v = .bool b
  | .str s, v => v = .string ⟨s.toArray⟩
  | .ptr none, v => v = .pointer none
  | .ptr (some (b, o)), v => ∃ p, ι b = some p ∧ v = .pointer (some ⟨p.blk, p.base + o, none⟩)
  | .slice none n c, v => n = 0 ∧ c = .k 0 ∧ v = .slice none 0 0
  | .slice (some (b, o)) n c, v => ∃ p a ĉ, ι b = some p ∧ v = .slice (some a) n ĉ ∧ n ≤ ĉ ∧ (0 < ĉ → a = ⟨p.blk, p.base + o, none⟩) ∧ capRel p o ĉ c
  | .map none, v => v = .map none
  | .map (some r), v => ∃ p, ι r = some p ∧ v = .map (some p.blk)
  | .func f fs cs, v => ∃ fs' cs', v = .func (.func f) (List.toArray fs') (List.toArray cs') ∧ VRelL ι fs fs' ∧ VRelL ι cs cs'
  | .nilFunc, v => v = .nilFunc
  | .iface t x, v => ∃ y, v = .iface t y ∧ VRel ι x y
  | .nilIface, v => v = .nilIface
  | .agg cs, v => ∃ l, v = .agg (List.toArray l) ∧ VRelL ι cs l
  | .tuple cs, v => ∃ l, v = .tuple (List.toArray l) ∧ VRelL ι cs l
  | .yield b, v => ∃ p, ι b = some p ∧ v = .func (.yield p.blk) #[] #[]
def VRelL (ι : IM) : List AV → List Value → Prop
  | [], l => l = []
  | a :: as, l => ∃ v vs, l = v :: vs ∧ VRel ι a v ∧ VRelL ι as vs
end

def IM.le (ι ι' : IM) : Prop := ∀ b p, ι b = some p → ι' b = some p
theorem IM.le_refl (ι : IM) : ι.le ι := fun _ _ h => h
theorem IM.le_trans {ι ι' ι'' : IM} (h : ι.le ι') (h' : ι'.le ι'') : ι.le ι'' := fun b p hp => h' b p (h b p hp)

mutual
theorem VRel.mono {ι ι' : IM} (h : ι.le ι') : ∀ (a : AV) (v : Value), VRel ι a v → VRel ι' a v
  | .any, _, hv => by simp only [VRel]
  | .int k n, v, hv => by simpa only [VRel] using hv
  | .bool b, v, hv => by simpa only [VRel] using hv
  | .str s, v, hv => by simpa only [VRel] using hv
  | .ptr none, v, hv => by simpa only [VRel] using hv
  | .ptr (some (b, o)), v, hv => by
    simp only [VRel] at hv ⊢
    obtain ⟨p, hp, hv⟩ := hv
    exact ⟨p, h _ _ hp, hv⟩
  | .slice none n c, v, hv => by simpa only [VRel] using hv
  | .slice (some (b, o)) n c, v, hv => by
    simp only [VRel] at hv ⊢
    obtain ⟨p, a, ĉ, hp, hv⟩ := hv
    exact ⟨p, a, ĉ, h _ _ hp, hv⟩
  | .map none, v, hv => by simpa only [VRel] using hv
  | .map (some r), v, hv => by
    simp only [VRel] at hv ⊢
    obtain ⟨p, hp, hv⟩ := hv
    exact ⟨p, h _ _ hp, hv⟩
  | .func f fs cs, v, hv => by
    simp only [VRel] at hv ⊢
    obtain ⟨l, m, hv, h1, h2⟩ := hv
    exact ⟨l, m, hv, VRelL.mono h fs l h1, VRelL.mono h cs m h2⟩
  | .nilFunc, v, hv => by simpa only [VRel] using hv
  | .iface t x, v, hv => by
    simp only [VRel] at hv ⊢
    obtain ⟨y, hv, h1⟩ := hv
    exact ⟨y, hv, VRel.mono h x y h1⟩
  | .nilIface, v, hv => by simpa only [VRel] using hv
  | .agg cs, v, hv => by
    simp only [VRel] at hv ⊢
    obtain ⟨l, hv, h1⟩ := hv
    exact ⟨l, hv, VRelL.mono h cs l h1⟩
  | .tuple cs, v, hv => by
    simp only [VRel] at hv ⊢
    obtain ⟨l, hv, h1⟩ := hv
    exact ⟨l, hv, VRelL.mono h cs l h1⟩
  | .yield b, v, hv => by
    simp only [VRel] at hv ⊢
    obtain ⟨p, hp, hv⟩ := hv
    exact ⟨p, h _ _ hp, hv⟩
theorem VRelL.mono {ι ι' : IM} (h : ι.le ι') : ∀ (as : List AV) (vs : List Value), VRelL ι as vs → VRelL ι' as vs
  | [], l, hv => by simpa only [VRelL] using hv
  | a :: as, l, hv => by
    simp only [VRelL] at hv ⊢
    obtain ⟨v, vs, hl, h1, h2⟩ := hv
    exact ⟨v, vs, hl, VRel.mono h a v h1, VRelL.mono h as vs h2⟩
end

theorem VRelL.length {ι : IM} : ∀ {as : List AV} {vs : List Value}, VRelL ι as vs → vs.length = as.length
  | [], l, h => by simp only [VRelL] at h; simp [h]
  | a :: as, l, h => by
    simp only [VRelL] at h
    obtain ⟨v, vs, rfl, _, h2⟩ := h
    simp [h2.length]
theorem VRelL.get {ι : IM} : ∀ {as : List AV} {vs : List Value}, VRelL ι as vs → ∀ {i : Nat} {a : AV}, as[i]? = some a → ∃ v, vs[i]? = some v ∧ VRel ι a v
  | [], _, _, i, a, ha => by simp at ha
  | a :: as, l, h, i, x, hx => by
    simp only [VRelL] at h
    obtain ⟨v, vs, rfl, h1, h2⟩ := h
    cases i with
    | zero => simp at hx; subst hx; exact ⟨v, rfl, h1⟩
    | succ i => simp at hx; obtain ⟨u, hu, hr⟩ := h2.get hx; exact ⟨u, by simpa using hu, hr⟩
theorem VRelL.get' {ι : IM} : ∀ {as : List AV} {vs : List Value}, VRelL ι as vs → ∀ {i : Nat} {v : Value}, vs[i]? = some v → ∃ a, as[i]? = some a ∧ VRel ι a v
  | [], l, h, i, v, hv => by simp only [VRelL] at h; subst h; simp at hv
  | a :: as, l, h, i, x, hx => by
    simp only [VRelL] at h
    obtain ⟨v, vs, rfl, h1, h2⟩ := h
    cases i with
    | zero => simp at hx; subst hx; exact ⟨a, rfl, h1⟩
    | succ i => simp at hx; obtain ⟨u, hu, hr⟩ := h2.get' hx; exact ⟨u, by simpa using hu, hr⟩
theorem VRelL.append {ι : IM} : ∀ {as bs : List AV} {vs us : List Value}, VRelL ι as vs → VRelL ι bs us → VRelL ι (as ++ bs) (vs ++ us)
  | [], bs, vs, us, h, h' => by simp only [VRelL] at h; subst h; simpa using h'
  | a :: as, bs, vs, us, h, h' => by
    simp only [VRelL] at h
    obtain ⟨v, ws, rfl, h1, h2⟩ := h
    simp only [List.cons_append, VRelL]
    exact ⟨v, ws ++ us, rfl, h1, h2.append h'⟩
theorem VRelL.cons {ι : IM} {a : AV} {as : List AV} {v : Value} {vs : List Value} (h : VRel ι a v) (h' : VRelL ι as vs) : VRelL ι (a :: as) (v :: vs) := by
  simp only [VRelL]; exact ⟨v, vs, rfl, h, h'⟩
theorem VRelL.nil {ι : IM} : VRelL ι [] [] := by simp only [VRelL]
theorem VRelL.of_get {ι : IM} : ∀ {as : List AV} {vs : List Value}, vs.length = as.length → (∀ (i : Nat) (a : AV) (v : Value), as[i]? = some a → vs[i]? = some v → VRel ι a v) → VRelL ι as vs
  | [], vs, h, _ => by simp only [VRelL]; exact List.length_eq_zero_iff.1 h
  | a :: as, [], h, _ => by simp at h
  | a :: as, v :: vs, h, hg => .cons (hg 0 a v rfl rfl) (.of_get (by simpa using h) fun i x u hx hu => hg (i + 1) x u (by simpa using hx) (by simpa using hu))
theorem VRelL.take {ι : IM} {as : List AV} {vs : List Value} (h : VRelL ι as vs) (n : Nat) : VRelL ι (as.take n) (vs.take n) := by
  refine .of_get (by simp [h.length]) fun i a v ha hv => ?_
  rw [List.getElem?_take] at ha hv
  split at ha
  · rename_i hi
    rw [if_pos hi] at hv
    obtain ⟨u, hu, hr⟩ := h.get ha
    rw [hv] at hu; cases hu; exact hr
  · cases ha
theorem VRelL.drop {ι : IM} {as : List AV} {vs : List Value} (h : VRelL ι as vs) (n : Nat) : VRelL ι (as.drop n) (vs.drop n) := by
  refine .of_get (by simp [h.length]) fun i a v ha hv => ?_
  rw [List.getElem?_drop] at ha hv
  obtain ⟨u, hu, hr⟩ := h.get ha
  rw [hv] at hu; cases hu; exact hr

/-! ### Constants -/
mutual
/-- A constant of the model as an abstract value: what bears no address. -/
def ofV : Value → AV
  | .bool b => .bool b
  | .int k n => .int k n
  | .string s => .str s.data.toList
  | .pointer none => .ptr none
  | .slice none 0 0 => .slice none 0 (.k 0)
  | .map none => .map none
  | .nilFunc => .nilFunc
  | .nilIface => .nilIface
  | .agg ⟨l⟩ => .agg (ofVs l)
  | .tuple ⟨l⟩ => .tuple (ofVs l)
  | _ => .any
def ofVs : List Value → List AV
  | [] => []
  | v :: vs => ofV v :: ofVs vs
end
mutual
theorem ofV_rel (ι : IM) : ∀ v, VRel ι (ofV v) v
  | .bool b => by simp [ofV, VRel]
  | .int k n => by simp [ofV, VRel]
  | .string s => by simp [ofV, VRel]
  | .pointer none => by simp [ofV, VRel]
  | .slice none 0 0 => by simp [ofV, VRel]
  | .map none => by simp [ofV, VRel]
  | .nilFunc => by simp [ofV, VRel]
  | .nilIface => by simp [ofV, VRel]
  | .agg ⟨l⟩ => by simp only [ofV, VRel]; exact ⟨l, rfl, ofVs_rel ι l⟩
  | .tuple ⟨l⟩ => by simp only [ofV, VRel]; exact ⟨l, rfl, ofVs_rel ι l⟩
  | .float .. => by simp [ofV, VRel]
  | .complex .. => by simp [ofV, VRel]
  | .pointer (some _) => by simp [ofV, VRel]
  | .slice (some _) _ _ => by simp [ofV, VRel]
  | .slice none (_ + 1) _ => by simp [ofV, VRel]
  | .slice none 0 (_ + 1) => by simp [ofV, VRel]
  | .map (some _) => by simp [ofV, VRel]
  | .chan _ => by simp [ofV, VRel]
  | .func .. => by simp [ofV, VRel]
  | .iface .. => by simp [ofV, VRel]
theorem ofVs_rel (ι : IM) : ∀ l, VRelL ι (ofVs l) l
  | [] => by simp [ofVs, VRelL]
  | v :: vs => by simp only [ofVs]; exact .cons (ofV_rel ι v) (ofVs_rel ι vs)
end

/-! ### The abstract memory -/
/-- Whether a block is written: never; yes, and it may grow; yes, and all that it may ever have is known. -/
inductive Own where
  | ro | grow (sz : Nat) | exact (sz : Nat)
  deriving DecidableEq
def Own.sz : Own → Option Nat
  | .ro => none
  | .grow s => some s
  | .exact s => some s
def Own.full : Own → Bool
  | .exact _ => true
  | _ => false
def Own.rw : Own → Bool
  | .ro => false
  | _ => true

inductive Blk where
  | cells (cs : List AV) (own : Own)
  | map (es : List (AV × AV × Nat)) (clock : Nat)
  | siter (s : List UInt8) (pos : Nat)
  | miter (m : Option Nat) (since : Nat) (seen : List Nat) (last : Nat)
  | loop (st : LoopState) (pe : Option Code) (fr : List AV) (ps : Array Nat) (assign body : Code)

def Blk.rw : Blk → Bool
  | .cells _ own => own.rw
  | .map .. => true
  | .siter .. => true
  | .miter .. => true
  | .loop .. => true

structure AH where
  get : Nat → Option Blk
  next : Nat

def AH.set (σ : AH) (b : Nat) (k : Blk) : AH := { σ with get := fun i => if i = b then some k else σ.get i }
def AH.kill (σ : AH) (b : Nat) : AH := { σ with get := fun i => if i = b then none else σ.get i }
def AH.alloc (σ : AH) (k : Blk) : AH := { get := fun i => if i = σ.next then some k else σ.get i, next := σ.next + 1 }

def MRel (ι : IM) : List (AV × AV × Nat) → List MapEntry → Prop
  | [], l => l = []
  | e :: es, l => ∃ e' l', l = e' :: l' ∧ VRel ι e.1 e'.key ∧ VRel ι e.2.1 e'.val ∧ e.2.2 = e'.born ∧ MRel ι es l'
theorem MRel.mono {ι ι' : IM} (h : ι.le ι') : ∀ {es : List (AV × AV × Nat)} {l : List MapEntry}, MRel ι es l → MRel ι' es l
  | [], l, hm => hm
  | e :: es, l, hm => by
    obtain ⟨e', l', hl, h1, h2, h3, h4⟩ := hm
    exact ⟨e', l', hl, VRel.mono h _ _ h1, VRel.mono h _ _ h2, h3, MRel.mono h h4⟩
theorem MRel.length {ι : IM} : ∀ {es : List (AV × AV × Nat)} {l : List MapEntry}, MRel ι es l → l.length = es.length
  | [], l, hm => by simp only [MRel] at hm; subst hm; rfl
  | e :: es, l, hm => by
    obtain ⟨e', l', rfl, h1, h2, h3, h4⟩ := hm
    simp [h4.length]

def BRel (ι : IM) : Blk → Place → World → Prop
  | .cells cs own, p, w => ∃ ĉs elem fr, w.heap[p.blk]? = some (.cells ĉs elem fr) ∧ VRelL ι cs ((ĉs.toList.drop p.base).take cs.length) ∧
      cs.length ≤ p.lim ∧ p.base + p.lim ≤ ĉs.size ∧ (∀ v, v ∈ (ĉs.toList.drop p.base).take p.lim → v.oneCell' = true) ∧
      (own.rw = true → (∀ j, p.base ≤ j → j < p.base + p.lim → ¬ (fr.1 ≤ j ∧ j < fr.2))) ∧ (own.full = true → cs.length = p.lim) ∧ (∀ s, own.sz = some s → p.sz = s)
  | .map es clock, p, w => ∃ ês, w.heap[p.blk]? = some (.map ês clock) ∧ MRel ι es ês.toList
  | .siter s pos, p, w => w.heap[p.blk]? = some (.stringIter ⟨s.toArray⟩ pos) ∧ p.base = 0
  | .miter m since seen last, p, w => ∃ m', w.heap[p.blk]? = some (.mapIter m' since seen.toArray last) ∧ p.base = 0 ∧ (m = none → m' = none) ∧ (∀ r, m = some r → ∃ q, ι r = some q ∧ m' = some q.blk)
  | .loop st pe fr ps assign body, p, w => ∃ r, w.heap[p.blk]? = some (.loop r) ∧ r.state = st ∧ r.pending = pe ∧ VRelL ι fr r.tmps.toList ∧ r.params = ps ∧ r.assign = assign ∧ r.body = body

/-- What stands fast through a call: the world at its beginning, how many blocks it had, and which variables are known. -/
structure Base where
  w0 : World
  N : Nat
  /-- blocks for deferred calls, which stay empty -/
  defs : List Nat := []

structure Rel (G : Base) (ι : IM) (σ : AH) (w : World) : Prop where
  fresh : ∀ b, σ.next ≤ b → ι b = none ∧ σ.get b = none
  live : ∀ b p k, ι b = some p → σ.get b = some k → BRel ι k p w
  bound : ∀ b p, ι b = some p → p.blk < w.heap.size
  apart : ∀ b p b' p' k k', b ≠ b' → ι b = some p → ι b' = some p' → σ.get b = some k → σ.get b' = some k' → k.rw = true → p.blk ≠ p'.blk
  new : ∀ b p k, ι b = some p → σ.get b = some k → k.rw = true → G.N ≤ p.blk
  below : RowKit.Below G.N G.w0 w
  size : G.N ≤ w.heap.size
  kept : ∀ D, D ∈ G.defs → w.heap[D]? = some (.deferred (some [])) ∧ ∀ b p, ι b = some p → p.blk ≠ D

/-- The relation between a memory and a later one's: what was there lies where it lay. -/
def Ext (n : Nat) (ι ι' : IM) : Prop := ∀ b, b < n → ι' b = ι b
theorem Ext.refl (n : Nat) (ι : IM) : Ext n ι ι := fun _ _ => rfl
theorem Ext.trans {n m : Nat} {ι ι' ι'' : IM} (h : Ext n ι ι') (h' : Ext m ι' ι'') (hn : n ≤ m) : Ext n ι ι'' :=
  fun b hb => (h' b (Nat.lt_of_lt_of_le hb hn)).trans (h b hb)
theorem Rel.le {G : Base} {ι ι' : IM} {σ : AH} {w : World} (h : Rel G ι σ w) (he : Ext σ.next ι ι') : ι.le ι' := by
  intro b p hp
  by_cases hb : b < σ.next
  · rw [he b hb]; exact hp
  · rw [(h.fresh b (by omega)).1] at hp; cases hp
end Go.Proofs.YthpngchngnaloaaGreatDoor.Vm

/-! Loads, stores and new blocks: what they do to a world that is as an abstract memory says. -/
namespace Go.Proofs.YthpngchngnaloaaGreatDoor.Vm
open RowKit (Below)

/-- What fills one cell. -/
def AV.leaf : AV → Bool
  | .any | .agg _ | .tuple _ => false
  | _ => true

theorem AV.leaf_one {ι : IM} {a : AV} {v : Value} (h : a.leaf = true) (hr : VRel ι a v) : v.oneCell' = true := by
  cases a with
  | any => cases h
  | agg cs => cases h
  | tuple cs => cases h
  | ptr a => rcases a with _ | ⟨b, o⟩ <;> simp only [VRel] at hr
             · subst hr; rfl
             · obtain ⟨p, _, rfl⟩ := hr; rfl
  | slice a n c => rcases a with _ | ⟨b, o⟩ <;> simp only [VRel] at hr
                   · obtain ⟨_, _, rfl⟩ := hr; rfl
                   · obtain ⟨p, x, y, _, rfl, _⟩ := hr; rfl
  | map r => rcases r with _ | r <;> simp only [VRel] at hr
             · subst hr; rfl
             · obtain ⟨p, _, rfl⟩ := hr; rfl
  | func f fs cs => simp only [VRel] at hr; obtain ⟨_, _, rfl, _⟩ := hr; rfl
  | iface t x => simp only [VRel] at hr; obtain ⟨_, rfl, _⟩ := hr; rfl
  | yield b => simp only [VRel] at hr; obtain ⟨_, _, rfl⟩ := hr; rfl
  | _ => simp only [VRel] at hr; subst hr; rfl

/-! ### Worlds -/
@[simp] theorem addr_add (b o n : Nat) : (⟨b, o, none⟩ : Addr).add n = ⟨b, o + n, none⟩ := by
  unfold Addr.add; split
  · rename_i h; simp [h]
  · rfl

theorem cell?_of_heap {w : World} {b o : Nat} {c : Array Value} {e : TypeId} {fr : Nat × Nat} (h : w.heap[b]? = some (.cells c e fr)) :
    w.cell? ⟨b, o, none⟩ = c[o]? := by simp [World.cell?, h]
theorem frozen?_of_heap {w : World} {b o : Nat} {c : Array Value} {e : TypeId} {fr : Nat × Nat} (h : w.heap[b]? = some (.cells c e fr)) :
    w.frozen? ⟨b, o, none⟩ = (decide (fr.1 ≤ o) && decide (o < fr.2)) := by
  obtain ⟨lo, hi⟩ := fr
  simp [World.frozen?, h]

/-- One block of a world is another object. -/
def putBlk (w : World) (b : Nat) (o : Obj) : World := { w with heap := w.heap.setIfInBounds b o }
theorem putBlk_heap (w : World) (b : Nat) (o : Obj) (k : Nat) : (putBlk w b o).heap[k]? = if k = b then (if b < w.heap.size then some o else none) else w.heap[k]? := by
  simp only [putBlk, Array.getElem?_setIfInBounds]
  by_cases h : b = k
  · subst h; simp
  · rw [if_neg h, if_neg (Ne.symm h)]
theorem putBlk_self (w : World) (b : Nat) (o : Obj) (h : b < w.heap.size) : (putBlk w b o).heap[b]? = some o := by
  rw [putBlk_heap]; simp [h]
theorem putBlk_other (w : World) (b : Nat) (o : Obj) {k : Nat} (h : k ≠ b) : (putBlk w b o).heap[k]? = w.heap[k]? := by
  rw [putBlk_heap]; simp [h]
theorem putBlk_size (w : World) (b : Nat) (o : Obj) : (putBlk w b o).heap.size = w.heap.size := by simp [putBlk]
theorem putBlk_below {w : World} {N b : Nat} {o : Obj} (h : N ≤ b) : Below N w (putBlk w b o) :=
  ⟨rfl, rfl, rfl, by rw [putBlk_size]; exact Nat.le_refl _, fun k hk => putBlk_other _ _ _ (by omega)⟩

theorem setCell_eq {w : World} {b o : Nat} {c : Array Value} {e : TypeId} {fr : Nat × Nat} (v : Value) (h : w.heap[b]? = some (.cells c e fr)) :
    w.setCell ⟨b, o, none⟩ v = putBlk w b (.cells (c.setIfInBounds o v) e fr) := by
  obtain ⟨hlt, hx⟩ := Array.getElem?_eq_some_iff.1 h
  unfold World.setCell putBlk
  congr 1
  apply Array.ext_getElem?
  intro k
  rw [Array.getElem?_modify, Array.getElem?_setIfInBounds]
  by_cases hk : b = k
  · subst hk
    simp only [if_true, hlt, h]
    rfl
  · simp [hk]

theorem putBlk_putBlk (w : World) (b : Nat) (o o' : Obj) : putBlk (putBlk w b o) b o' = putBlk w b o' := by
  unfold putBlk
  simp [Array.setIfInBounds_setIfInBounds]

/-- Values laid over an array from a place on. -/
def layA (c : Array Value) (o : Nat) : List Value → Array Value
  | [] => c
  | v :: vs => layA (c.setIfInBounds o v) (o + 1) vs
theorem layA_size (vs : List Value) : ∀ (c : Array Value) (o : Nat), (layA c o vs).size = c.size := by
  induction vs with
  | nil => intro c o; rfl
  | cons v vs ih => intro c o; simp [layA, ih]
theorem layA_get (vs : List Value) : ∀ (c : Array Value) (o k : Nat), o + vs.length ≤ c.size →
    (layA c o vs)[k]? = if o ≤ k ∧ k < o + vs.length then vs[k - o]? else c[k]? := by
  induction vs with
  | nil => intro c o k _; simp [layA]; omega
  | cons v vs ih =>
    intro c o k h
    simp only [List.length_cons] at h
    simp only [layA]
    rw [ih _ _ _ (by simp; omega)]
    by_cases h1 : o + 1 ≤ k ∧ k < o + 1 + vs.length
    · rw [if_pos h1, if_pos (by simp only [List.length_cons]; omega)]
      obtain ⟨d, rfl⟩ : ∃ d, k = o + 1 + d := ⟨k - (o + 1), by omega⟩
      rw [show o + 1 + d - (o + 1) = d by omega, show o + 1 + d - o = d + 1 by omega]
      simp
    · rw [if_neg h1]
      by_cases h2 : k = o
      · subst h2
        rw [if_pos (by simp only [List.length_cons]; omega), Nat.sub_self, Array.getElem?_setIfInBounds_self_of_lt (by omega)]
        rfl
      · rw [if_neg (by simp only [List.length_cons]; omega), Array.getElem?_setIfInBounds_ne (Ne.symm h2)]

theorem run_storeCells {P : Program} (b : Nat) (e : TypeId) (fr : Nat × Nat) (o : Nat) : ∀ (vs : List Value) (i : Nat) (c : Array Value) (w : World), w.heap[b]? = some (.cells c e fr) →
    o + i + vs.length ≤ c.size → (∀ v ∈ vs, v.oneCell' = true) → (∀ j, o + i ≤ j → j < o + i + vs.length → ¬ (fr.1 ≤ j ∧ j < fr.2)) →
    (storeCells ⟨b, o, none⟩ vs i).run P w = .ok () (putBlk w b (.cells (layA c (o + i) vs) e fr))
  | [], i, c, w, h, hl, h1, hf => by
    have : putBlk w b (.cells c e fr) = w := by
      unfold putBlk
      obtain ⟨hlt, hx⟩ := Array.getElem?_eq_some_iff.1 h
      rw [show w.heap.setIfInBounds b (.cells c e fr) = w.heap from by
        apply Array.ext_getElem?; intro k; rw [Array.getElem?_setIfInBounds]
        by_cases hk : b = k
        · subst hk; simp [hlt, hx]
        · simp [hk]]
    simp only [storeCells, layA, this]; rfl
  | v :: vs, i, c, w, h, hl, h1, hf => by
    simp only [List.length_cons] at hl
    have hlt : b < w.heap.size := (Array.getElem?_eq_some_iff.1 h).1
    have hc : w.cell? ⟨b, o + i, none⟩ = some c[o + i] := by rw [cell?_of_heap h]; exact Array.getElem?_eq_getElem (by omega)
    have hfr : w.frozen? ⟨b, o + i, none⟩ = false := by
      rw [frozen?_of_heap h]
      have := hf (o + i) (by omega) (by simp only [List.length_cons]; omega)
      simp only [Bool.and_eq_false_iff, decide_eq_false_iff_not]; omega
    simp only [storeCells, addr_add, Sem.run_bind]
    rw [run_store P w _ v _ (h1 v (by simp))]
    simp only [hc, hfr, Bool.false_eq_true, if_false, Result.andThen_ok]
    rw [setCell_eq v h]
    rw [run_storeCells b e fr o vs (i + 1) _ _ (putBlk_self _ _ _ hlt) (by simp; omega) (fun u hu => h1 u (by simp [hu])) (fun j hj hj' => hf j (by omega) (by simp only [List.length_cons]; omega))]
    rw [putBlk_putBlk]
    simp only [layA, Nat.add_assoc]

theorem run_loadRange {P : Program} {w : World} {b o : Nat} {c : Array Value} {e : TypeId} {fr : Nat × Nat} (h : w.heap[b]? = some (.cells c e fr)) (vs : List Value)
    (hv : ∀ (j : Nat) (v : Value), vs[j]? = some v → c[o + j]? = some v) : (loadCells ⟨b, o, none⟩ vs.length).run P w = .ok vs.toArray w :=
  run_loadCells_list w _ vs fun j v hj => by rw [addr_add, cell?_of_heap h]; exact hv j v hj

/-! ### The abstract memory -/
/-- Cells laid over others from a place on. -/
def layL (cs : List AV) (o : Nat) : List AV → List AV
  | [] => cs
  | v :: vs => layL (cs.set o v) (o + 1) vs
theorem layL_length (vs : List AV) : ∀ (cs : List AV) (o : Nat), (layL cs o vs).length = cs.length := by
  induction vs with
  | nil => intro c o; rfl
  | cons v vs ih => intro c o; simp [layL, ih]
theorem layL_get (vs : List AV) : ∀ (c : List AV) (o k : Nat), o + vs.length ≤ c.length →
    (layL c o vs)[k]? = if o ≤ k ∧ k < o + vs.length then vs[k - o]? else c[k]? := by
  induction vs with
  | nil => intro c o k _; simp [layL]; omega
  | cons v vs ih =>
    intro c o k h
    simp only [List.length_cons] at h
    simp only [layL]
    rw [ih _ _ _ (by simp; omega)]
    by_cases h1 : o + 1 ≤ k ∧ k < o + 1 + vs.length
    · rw [if_pos h1, if_pos (by simp only [List.length_cons]; omega)]
      obtain ⟨d, rfl⟩ : ∃ d, k = o + 1 + d := ⟨k - (o + 1), by omega⟩
      rw [show o + 1 + d - (o + 1) = d by omega, show o + 1 + d - o = d + 1 by omega]
      simp
    · rw [if_neg h1]
      by_cases h2 : k = o
      · subst h2
        rw [if_pos (by simp only [List.length_cons]; omega), List.getElem?_set_self (by omega)]
        simp
      · rw [if_neg (by simp only [List.length_cons]; omega), List.getElem?_set_ne (Ne.symm h2)]
theorem layL_eq (vs : List AV) (c : List AV) (o : Nat) (h : o + vs.length ≤ c.length) : layL c o vs = c.take o ++ vs ++ c.drop (o + vs.length) := by
  apply List.ext_getElem?
  intro k
  rw [layL_get _ _ _ _ h]
  by_cases h1 : k < o
  · rw [if_neg (by omega), List.getElem?_append_left (by simp; omega), List.getElem?_append_left (by simp; omega), List.getElem?_take_of_lt h1]
  · by_cases h2 : k < o + vs.length
    · rw [if_pos (by omega), List.getElem?_append_left (by simp; omega), List.getElem?_append_right (by simp; omega)]
      simp [Nat.min_eq_left (show o ≤ c.length by omega)]
    · rw [if_neg (by omega), List.getElem?_append_right (by simp; omega)]
      simp only [List.length_append, List.length_take, Nat.min_eq_left (show o ≤ c.length by omega), List.getElem?_drop]
      congr 1; omega

def AH.range (σ : AH) (b o n : Nat) : Option (List AV) :=
  match σ.get b with
  | some (.cells cs _) => if o + n ≤ cs.length then some ((cs.drop o).take n) else none
  | _ => none
def AH.cell (σ : AH) (b o : Nat) : Option AV :=
  match σ.get b with
  | some (.cells cs _) => cs[o]?
  | _ => none

@[simp] theorem AH.set_get (σ : AH) (b : Nat) (k : Blk) (i : Nat) : (σ.set b k).get i = if i = b then some k else σ.get i := rfl
@[simp] theorem AH.set_next (σ : AH) (b : Nat) (k : Blk) : (σ.set b k).next = σ.next := rfl
@[simp] theorem AH.kill_get (σ : AH) (b i : Nat) : (σ.kill b).get i = if i = b then none else σ.get i := rfl
@[simp] theorem AH.kill_next (σ : AH) (b : Nat) : (σ.kill b).next = σ.next := rfl
@[simp] theorem AH.alloc_get (σ : AH) (k : Blk) (i : Nat) : (σ.alloc k).get i = if i = σ.next then some k else σ.get i := rfl
@[simp] theorem AH.alloc_next (σ : AH) (k : Blk) : (σ.alloc k).next = σ.next + 1 := rfl

theorem BRel.congr {ι : IM} {k : Blk} {p : Place} {w w' : World} (h : BRel ι k p w) (hw : w'.heap[p.blk]? = w.heap[p.blk]?) : BRel ι k p w' := by
  cases k <;> simp only [BRel] at h ⊢ <;> rw [hw] <;> exact h
theorem BRel.mono {ι ι' : IM} (hι : ι.le ι') {k : Blk} {p : Place} {w : World} (h : BRel ι k p w) : BRel ι' k p w := by
  cases k with
  | cells cs own =>
    simp only [BRel] at h ⊢
    obtain ⟨ĉs, elem, fr, h1, h2, h3⟩ := h
    exact ⟨ĉs, elem, fr, h1, VRelL.mono hι _ _ h2, h3⟩
  | map es clock =>
    simp only [BRel] at h ⊢
    obtain ⟨ês, h1, h2⟩ := h
    exact ⟨ês, h1, h2.mono hι⟩
  | siter s pos => exact h
  | miter m since seen last =>
    simp only [BRel] at h ⊢
    obtain ⟨m', h1, h2, h3, h4⟩ := h
    exact ⟨m', h1, h2, h3, fun r hr => by obtain ⟨q, hq, e⟩ := h4 r hr; exact ⟨q, hι _ _ hq, e⟩⟩
  | loop st pe fr ps assign body =>
    simp only [BRel] at h ⊢
    obtain ⟨r, h1, h2, h3, h4, h5⟩ := h
    exact ⟨r, h1, h2, h3, VRelL.mono hι _ _ h4, h5⟩
theorem BRel.there {ι : IM} {k : Blk} {p : Place} {w : World} (h : BRel ι k p w) : ∃ o, w.heap[p.blk]? = some o := by
  cases k <;> simp only [BRel] at h
  · obtain ⟨_, _, _, h, _⟩ := h; exact ⟨_, h⟩
  · obtain ⟨_, h, _⟩ := h; exact ⟨_, h⟩
  · exact ⟨_, h.1⟩
  · obtain ⟨_, h, _⟩ := h; exact ⟨_, h⟩
  · obtain ⟨_, h, _⟩ := h; exact ⟨_, h⟩

section
variable {G : Base} {ι : IM} {σ : AH} {w : World}

theorem Rel.ι_lt (h : Rel G ι σ w) {b : Nat} {p : Place} (hp : ι b = some p) : b < σ.next := by
  rcases Nat.lt_or_ge b σ.next with hb | hb
  · exact hb
  · rw [(h.fresh b hb).1] at hp; cases hp
theorem Rel.get_lt (h : Rel G ι σ w) {b : Nat} {k : Blk} (hk : σ.get b = some k) : b < σ.next := by
  rcases Nat.lt_or_ge b σ.next with hb | hb
  · exact hb
  · rw [(h.fresh b hb).2] at hk; cases hk

/-- A world that differs in nothing that the memory speaks of. -/
theorem Rel.world (h : Rel G ι σ w) {w' : World} (hs : w.heap.size ≤ w'.heap.size) (hb : ∀ k, k < w.heap.size → w'.heap[k]? = w.heap[k]?) (h1 : w'.os = w.os) (h2 : w'.tape = w.tape) (h3 : w'.output = w.output) : Rel G ι σ w' where
  fresh := h.fresh
  live := fun b p k hp hk => (h.live b p k hp hk).congr (hb _ (h.bound b p hp))
  bound := fun b p hp => Nat.lt_of_lt_of_le (h.bound b p hp) hs
  apart := h.apart
  new := h.new
  below := h.below.trans ⟨h1, h2, h3, hs, fun k hk => hb k (Nat.lt_of_lt_of_le hk h.size)⟩
  size := Nat.le_trans h.size hs
  kept := fun D hD => ⟨by
    have h0 := (h.kept D hD).1
    rw [hb D (Array.getElem?_eq_some_iff.1 h0).1]; exact h0, (h.kept D hD).2⟩
theorem Rel.drew (h : Rel G ι σ w) : Rel G ι σ w.drew := h.world (Nat.le_refl _) (fun _ _ => rfl) rfl rfl rfl
theorem Rel.drawn (h : Rel G ι σ w) (n : Nat) : Rel G ι σ { w with drawn := n } := h.world (Nat.le_refl _) (fun _ _ => rfl) rfl rfl rfl
theorem Rel.garbage (h : Rel G ι σ w) (o : Obj) : Rel G ι σ (w.alloc o) :=
  h.world (by simp) (fun k hk => Below.heap_alloc _ _ _ hk) rfl rfl rfl

/-- A new abstract block that lies nowhere yet. -/
theorem Rel.pend (h : Rel G ι σ w) (k : Blk) : Rel G ι (σ.alloc k) w where
  fresh := fun b hb => by
    simp only [AH.alloc_next] at hb
    refine ⟨(h.fresh b (by omega)).1, ?_⟩
    simp only [AH.alloc_get]; rw [if_neg (by omega)]; exact (h.fresh b (by omega)).2
  live := fun b p k' hp hk => by
    have := h.ι_lt hp
    simp only [AH.alloc_get] at hk; rw [if_neg (by omega)] at hk
    exact h.live b p k' hp hk
  bound := h.bound
  apart := fun b p b' p' k1 k2 hne hp hp' hk hk' => by
    have h1 := h.ι_lt hp
    have h2 := h.ι_lt hp'
    simp only [AH.alloc_get] at hk hk'; rw [if_neg (by omega)] at hk hk'
    exact h.apart b p b' p' k1 k2 hne hp hp' hk hk'
  new := fun b p k1 hp hk => by
    have h1 := h.ι_lt hp
    simp only [AH.alloc_get] at hk; rw [if_neg (by omega)] at hk
    exact h.new b p k1 hp hk
  below := h.below
  size := h.size
  kept := h.kept

def IM.put (ι : IM) (b : Nat) (p : Place) : IM := fun i => if i = b then some p else ι i
@[simp] theorem IM.put_self (ι : IM) (b : Nat) (p : Place) : ι.put b p b = some p := by simp [IM.put]
theorem IM.put_ne (ι : IM) {b i : Nat} (p : Place) (h : i ≠ b) : ι.put b p i = ι i := by simp [IM.put, h]
theorem IM.le_put (ι : IM) {b : Nat} (p : Place) (h : ι b = none) : ι.le (ι.put b p) := fun i q hq => by
  have : i ≠ b := fun e => by rw [e, h] at hq; cases hq
  rw [IM.put_ne _ _ this]; exact hq

/-- A pending block is laid in a new block of the world. -/
theorem Rel.place (h : Rel G ι σ w) {b : Nat} {k : Blk} (hb : ι b = none) (hk : σ.get b = some k) (o : Obj) (p : Place) (hp : p.blk = w.heap.size)
    (hr : BRel (ι.put b p) k p (w.alloc o)) : Rel G (ι.put b p) σ (w.alloc o) := by
  have hg := h.garbage o
  have hle := IM.le_put ι p hb
  refine ⟨fun i hi => ?_, fun i q k' hq hk' => ?_, fun i q hq => ?_, fun i q i' q' k1 k2 hne hq hq' hk1 hk2 hrw => ?_, fun i q k1 hq hk1 hrw => ?_, hg.below, hg.size, fun D hD => ⟨(hg.kept D hD).1, fun i q hq => ?_⟩⟩
  · have := h.get_lt hk
    rw [IM.put_ne _ _ (by omega)]; exact h.fresh i hi
  · by_cases e : i = b
    · subst e; rw [IM.put_self] at hq; cases hq; rw [hk] at hk'; cases hk'; exact hr
    · rw [IM.put_ne _ _ e] at hq; exact (hg.live i q k' hq hk').mono hle
  · by_cases e : i = b
    · subst e; rw [IM.put_self] at hq; cases hq; rw [hp]; simp
    · rw [IM.put_ne _ _ e] at hq; exact hg.bound i q hq
  · by_cases e : i = b
    · subst e; rw [IM.put_self] at hq; cases hq
      rw [IM.put_ne _ _ (Ne.symm hne)] at hq'
      have := h.bound i' q' hq'
      omega
    · rw [IM.put_ne _ _ e] at hq
      by_cases e' : i' = b
      · subst e'; rw [IM.put_self] at hq'; cases hq'
        have := h.bound i q hq
        omega
      · rw [IM.put_ne _ _ e'] at hq'; exact h.apart i q i' q' k1 k2 hne hq hq' hk1 hk2 hrw
  · by_cases e : i = b
    · subst e; rw [IM.put_self] at hq; cases hq; rw [hp]; exact h.size
    · rw [IM.put_ne _ _ e] at hq; exact h.new i q k1 hq hk1 hrw
  · by_cases e : i = b
    · subst e; rw [IM.put_self] at hq; cases hq
      have := (Array.getElem?_eq_some_iff.1 (h.kept D hD).1).1
      omega
    · rw [IM.put_ne _ _ e] at hq; exact (h.kept D hD).2 i q hq

/-- A new block, in the memory and in the world. -/
theorem Rel.fresh_block (h : Rel G ι σ w) (k : Blk) (o : Obj) (p : Place) (hp : p.blk = w.heap.size)
    (hr : BRel (ι.put σ.next p) k p (w.alloc o)) : Rel G (ι.put σ.next p) (σ.alloc k) (w.alloc o) :=
  (h.pend k).place ((h.fresh _ (Nat.le_refl _)).1) (by simp) o p hp hr
theorem Ext.put (n : Nat) (ι : IM) {b : Nat} (p : Place) (h : n ≤ b) : Ext n ι (ι.put b p) := fun i hi => IM.put_ne _ _ (by omega)

/-- A block that may be written is another. -/
theorem Rel.swap (h : Rel G ι σ w) {b : Nat} {p : Place} {k k' : Blk} (hp : ι b = some p) (hk : σ.get b = some k) (hrw : k.rw = true) (o : Obj)
    (hr : BRel ι k' p (putBlk w p.blk o)) : Rel G ι (σ.set b k') (putBlk w p.blk o) := by
  have hlt := h.bound b p hp
  refine ⟨fun i hi => ⟨(h.fresh i hi).1, ?_⟩, fun i q k1 hq hk1 => ?_, fun i q hq => by rw [putBlk_size]; exact h.bound i q hq, fun i q i' q' k1 k2 hne hq hq' hk1 hk2 hrw1 => ?_, fun i q k1 hq hk1 hrw1 => ?_, ?_, by rw [putBlk_size]; exact h.size, fun D hD => ⟨(putBlk_other _ _ _ (Ne.symm ((h.kept D hD).2 b p hp))).trans (h.kept D hD).1, (h.kept D hD).2⟩⟩
  · have := h.get_lt hk
    simp only [AH.set_next] at hi
    simp only [AH.set_get]; rw [if_neg (by omega)]; exact (h.fresh i hi).2
  · simp only [AH.set_get] at hk1
    by_cases e : i = b
    · subst e; simp at hk1; subst hk1; rw [hp] at hq; cases hq; exact hr
    · rw [if_neg e] at hk1
      have hne := h.apart b p i q k k1 (Ne.symm e) hp hq hk hk1 hrw
      exact (h.live i q k1 hq hk1).congr (putBlk_other _ _ _ (Ne.symm hne))
  · simp only [AH.set_get] at hk1 hk2
    by_cases e : i = b
    · subst e
      rw [if_neg (Ne.symm hne)] at hk2
      exact h.apart i q i' q' k k2 hne hq hq' hk hk2 hrw
    · rw [if_neg e] at hk1
      by_cases e' : i' = b
      · subst e'; exact h.apart i q i' q' k1 k hne hq hq' hk1 hk hrw1
      · rw [if_neg e'] at hk2; exact h.apart i q i' q' k1 k2 hne hq hq' hk1 hk2 hrw1
  · simp only [AH.set_get] at hk1
    by_cases e : i = b
    · subst e; exact h.new i q k hq hk hrw
    · rw [if_neg e] at hk1; exact h.new i q k1 hq hk1 hrw1
  · exact h.below.trans (putBlk_below (h.new b p k hp hk hrw))

/-- A block is spoken of no more. -/
theorem Rel.kill (h : Rel G ι σ w) (b : Nat) : Rel G ι (σ.kill b) w := by
  have hg : ∀ {i k}, (σ.kill b).get i = some k → σ.get i = some k := fun {i k} hk => by
    simp only [AH.kill_get] at hk
    split at hk
    · cases hk
    · exact hk
  refine ⟨fun i hi => ⟨(h.fresh i hi).1, ?_⟩, fun i q k1 hq hk1 => h.live i q k1 hq (hg hk1), h.bound, fun i q i' q' k1 k2 hne hq hq' hk1 hk2 => h.apart i q i' q' k1 k2 hne hq hq' (hg hk1) (hg hk2), fun i q k1 hq hk1 => h.new i q k1 hq (hg hk1), h.below, h.size, h.kept⟩
  simp only [AH.kill_get]; split
  · rfl
  · exact (h.fresh i hi).2

/-- A block goes on under another name. -/
theorem Rel.rename (h : Rel G ι σ w) {b : Nat} {p : Place} {k : Blk} (hp : ι b = some p) (hk : σ.get b = some k) (hrw : k.rw = true) (k' : Blk) (p' : Place) (hp' : p'.blk = p.blk)
    (hr : BRel (ι.put σ.next p') k' p' w) : Rel G (ι.put σ.next p') ((σ.kill b).alloc k') w := by
  have hb := h.get_lt hk
  have hle := IM.le_put ι p' ((h.fresh _ (Nat.le_refl _)).1)
  have hg : ∀ {i k1}, i ≠ σ.next → ((σ.kill b).alloc k').get i = some k1 → i ≠ b ∧ σ.get i = some k1 := fun {i k1} hi hk1 => by
    have hk2 : (if i = σ.next then some k' else if i = b then none else σ.get i) = some k1 := hk1
    rw [if_neg hi] at hk2
    split at hk2
    · cases hk2
    · rename_i e; exact ⟨e, hk2⟩
  refine ⟨fun i hi => ?_, fun i q k1 hq hk1 => ?_, fun i q hq => ?_, fun i q i' q' k1 k2 hne hq hq' hk1 hk2 hrw1 => ?_, fun i q k1 hq hk1 hrw1 => ?_, h.below, h.size, fun D hD => ⟨(h.kept D hD).1, fun i q hq => ?_⟩⟩
  · simp only [AH.alloc_next, AH.kill_next] at hi
    refine ⟨by rw [IM.put_ne _ _ (by omega)]; exact (h.fresh i (by omega)).1, ?_⟩
    show (if i = σ.next then some k' else if i = b then none else σ.get i) = none
    rw [if_neg (by omega)]; split
    · rfl
    · exact (h.fresh i (by omega)).2
  · by_cases e : i = σ.next
    · subst e; rw [IM.put_self] at hq; cases hq
      simp at hk1; subst hk1; exact hr
    · rw [IM.put_ne _ _ e] at hq
      exact (h.live i q k1 hq (hg e hk1).2).mono hle
  · by_cases e : i = σ.next
    · subst e; rw [IM.put_self] at hq; cases hq; rw [hp']; exact h.bound b p hp
    · rw [IM.put_ne _ _ e] at hq; exact h.bound i q hq
  · by_cases e : i = σ.next
    · subst e; rw [IM.put_self] at hq; cases hq
      rw [IM.put_ne _ _ (Ne.symm hne)] at hq'
      have h2 := hg (Ne.symm hne) hk2
      rw [hp']; exact h.apart b p i' q' k k2 (Ne.symm h2.1) hp hq' hk h2.2 hrw
    · rw [IM.put_ne _ _ e] at hq
      have h1 := hg e hk1
      by_cases e' : i' = σ.next
      · subst e'; rw [IM.put_self] at hq'; cases hq'
        rw [hp']; exact (h.apart b p i q k k1 (Ne.symm h1.1) hp hq hk h1.2 hrw).symm
      · rw [IM.put_ne _ _ e'] at hq'
        exact h.apart i q i' q' k1 k2 hne hq hq' h1.2 (hg e' hk2).2 hrw1
  · by_cases e : i = σ.next
    · subst e; rw [IM.put_self] at hq; cases hq; rw [hp']; exact h.new b p k hp hk hrw
    · rw [IM.put_ne _ _ e] at hq; exact h.new i q k1 hq (hg e hk1).2 hrw1
  · by_cases e : i = σ.next
    · subst e; rw [IM.put_self] at hq; cases hq; rw [hp']; exact (h.kept D hD).2 b p hp
    · rw [IM.put_ne _ _ e] at hq; exact (h.kept D hD).2 i q hq

/-- A block for deferred calls more. -/
theorem Rel.defer (h : Rel G ι σ w) : Rel { G with defs := w.heap.size :: G.defs } ι σ (w.alloc (.deferred (some []))) := by
  have hg := h.garbage (.deferred (some []))
  refine ⟨hg.fresh, hg.live, hg.bound, hg.apart, hg.new, hg.below, hg.size, fun D hD => ?_⟩
  rcases List.mem_cons.1 hD with rfl | hD
  · exact ⟨by show (w.heap.push (.deferred (some [])))[w.heap.size]? = _; rw [Array.getElem?_push_size], fun b p hp => by have := h.bound b p hp; omega⟩
  · exact hg.kept D hD
/-- One of them is shut, and is spoken of no more. -/
theorem Rel.shut (h : Rel G ι σ w) {D : Nat} {r : List Nat} (hD : G.defs = D :: r) (hr : D ∉ r) (hN : G.N ≤ D) : Rel { G with defs := r } ι σ (putBlk w D (.deferred none)) := by
  have hk := h.kept D (by rw [hD]; simp)
  refine ⟨h.fresh, fun i q k1 hq hk1 => (h.live i q k1 hq hk1).congr (putBlk_other _ _ _ (hk.2 i q hq)), fun i q hq => by rw [putBlk_size]; exact h.bound i q hq, h.apart, h.new, h.below.trans (putBlk_below hN), by rw [putBlk_size]; exact h.size, fun D' hD' => ?_⟩
  have h' := h.kept D' (by rw [hD]; simp [show D' ∈ r from hD'])
  have hne : D' ≠ D := fun e => hr (e ▸ hD')
  exact ⟨(putBlk_other _ _ _ hne).trans h'.1, h'.2⟩
end
end Go.Proofs.YthpngchngnaloaaGreatDoor.Vm

/-! What an operation asks of an abstract memory. -/
namespace Go.Proofs.YthpngchngnaloaaGreatDoor.Vm
open RowKit (Below)

/-- A type, as far as the abstract machine looks at it. -/
inductive TD where
  | int (k : IntKind) | bool | str | ptr (e : TypeId) | slice (e : TypeId) | map (k e : TypeId) | func | iface | tuple
  | struct (fs : List (Nat × TypeId)) | array (n : Nat) (e : TypeId)
  | other
  deriving DecidableEq
def tdOf : TypeDesc → TD
  | .int k => .int k
  | .bool => .bool
  | .string => .str
  | .pointer e => .ptr e
  | .slice e => .slice e
  | .map k e => .map k e
  | .func .. => .func
  | .interface _ => .iface
  | .tuple _ => .tuple
  | .struct fs => .struct (fs.toList.map fun f => (f.offset, f.type))
  | .array n e => .array n e
  | _ => .other
def TD.isInt : TD → Bool
  | .int _ => true
  | _ => false
def TD.isAgg : TD → Bool
  | .struct _ | .array _ _ => true
  | _ => false

/-- What a cell of a type holds. -/
inductive Sh where
  | int (k : IntKind) | bool | str | ptr | slice | map | raw
  deriving DecidableEq

structure TI where
  d : TD
  size : Nat
  bytes : Nat
  zero : List AV
  sh : List Sh
  /-- a struct of whole numbers, bools and strings that may be compared cell by cell -/
  plain : Bool

/-- A struct type's fields are plain, and '==' of it asks nothing that the model leaves open. -/
def PlainField (P : Program) (f : Field) (i : Nat) (s : Sh) : Prop :=
  f.offset = i ∧ (f.name == "_") = false ∧
    match s with
    | .bool => P.underlying f.type = some .bool
    | .str => P.underlying f.type = some .string
    | .int k => P.underlying f.type = some (.int k)
    | _ => False
def PlainFields (P : Program) : List Field → Nat → List Sh → Prop
  | [], _, [] => True
  | f :: fs, i, s :: ss => PlainField P f i s ∧ PlainFields P fs (i + 1) ss
  | _, _, _ => False
def PlainStruct (P : Program) (t : TypeId) (sh : List Sh) : Prop :=
  P.stoodInHeld t = false ∧ P.eqGuardType P.depth t = false ∧
    match P.underlying t with
    | some (.struct fs) => PlainFields P fs.toList 0 sh
    | _ => False

def zeroAV (ti : TI) : AV := if ti.d.isAgg then .agg ti.zero else ti.zero.headD .any
structure TIok (P : Program) (t : TypeId) (x : TI) : Prop where
  und : ∃ d, P.underlying t = some d ∧ tdOf d = x.d
  info : ∃ i, P.info? t = some i ∧ i.size = x.size ∧ i.bytes = x.bytes ∧ ∃ z, i.zero = some z ∧ ofVs z.cells.toList = x.zero ∧ z.cells.size = x.size ∧ (∀ v, v ∈ z.cells → v.oneCell' = true) ∧ ofV z = zeroAV x
  plain : x.plain = true → PlainStruct P t x.sh

structure Cx where
  P : Program
  ti : TypeId → Option TI
  ok : ∀ t x, ti t = some x → TIok P t x
  mixed : P.follows .mixedOrders = true
  /-- the shapes of a result: several, or one; an aggregate or not -/
  res : TypeId → Option (List (Bool × List Sh))

/-! ### Operands -/
abbrev Fr := Nat → AV
def setFr (fr : Fr) (t : Option Nat) (v : AV) : Fr :=
  match t with
  | some t => fun i => if i = t then v else fr i
  | none => fr
def ev (gl : List Nat) (n : Nat) (fr : Fr) : Operand → AV
  | .tmp t => if t < n then fr t else .any
  | .const v => ofV v
  | .global g => if gl.contains g then .ptr (some (g, 0)) else .any
  | .func f => .func f [] []
def FrRel (ι : IM) (n : Nat) (fr : Fr) (tmps : Array Value) : Prop := tmps.size = n ∧ ∀ t, t < n → ∃ v, tmps[t]? = some v ∧ VRel ι (fr t) v
/-- The variables that are known lie where they lie. -/
def Globs (ι : IM) (gl : List Nat) : Prop := ∀ g, g ∈ gl → ∃ p, ι g = some p ∧ p.blk = g ∧ p.base = 0

/-! ### Values by their shapes -/
def shK (K : AV → Prop) : Sh → AV → Prop
  | .int k, v => ∃ n, v = .int k n ∧ K (.int k n)
  | .bool, v => ∃ b, v = .bool b ∧ K (.bool b)
  | .str, v => ∃ s, v = .str s ∧ K (.str s)
  | .ptr, v => ∃ a, v = .ptr a ∧ K (.ptr a)
  | .slice, v => ∃ a n c, v = .slice a n c ∧ K (.slice a n c)
  | .map, v => ∃ r, v = .map r ∧ K (.map r)
  | .raw, v => K v
theorem shK_imp {K : AV → Prop} {s : Sh} {v : AV} (h : shK K s v) : K v := by
  cases s <;> simp only [shK] at h
  · obtain ⟨n, rfl, h⟩ := h; exact h
  · obtain ⟨n, rfl, h⟩ := h; exact h
  · obtain ⟨n, rfl, h⟩ := h; exact h
  · obtain ⟨n, rfl, h⟩ := h; exact h
  · obtain ⟨a, n, c, rfl, h⟩ := h; exact h
  · obtain ⟨n, rfl, h⟩ := h; exact h
  · exact h
def shsK : List Sh → List AV → (List AV → Prop) → Prop
  | [], vs, K => vs = [] ∧ K []
  | s :: ss, vs, K => ∃ v rest, vs = v :: rest ∧ shK (fun v => shsK ss rest fun r => K (v :: r)) s v
theorem shsK_imp : ∀ {ss : List Sh} {vs : List AV} {K : List AV → Prop}, shsK ss vs K → K vs
  | [], vs, K, h => by obtain ⟨rfl, h⟩ := h; exact h
  | s :: ss, vs, K, h => by
    obtain ⟨v, rest, rfl, h⟩ := h
    exact shsK_imp (K := fun r => K (v :: r)) (shK_imp h)

/-! ### Loads and stores -/
/-- A cell is asked for, and is of a shape. -/
def ldK (σ : AH) (b o : Nat) (K : AV → Prop) : Sh → Prop
  | .int k => ∃ n, σ.cell b o = some (.int k n) ∧ K (.int k n)
  | .bool => ∃ x, σ.cell b o = some (.bool x) ∧ K (.bool x)
  | .str => ∃ s, σ.cell b o = some (.str s) ∧ K (.str s)
  | .ptr => ∃ a, σ.cell b o = some (.ptr a) ∧ K (.ptr a)
  | .slice => ∃ a n c, σ.cell b o = some (.slice a n c) ∧ K (.slice a n c)
  | .map => ∃ r, σ.cell b o = some (.map r) ∧ K (.map r)
  | .raw => ∃ v, σ.cell b o = some v ∧ K v
theorem ldK_imp {σ : AH} {b o : Nat} {K : AV → Prop} {s : Sh} (h : ldK σ b o K s) : ∃ v, σ.cell b o = some v ∧ K v := by
  cases s <;> simp only [ldK] at h
  · obtain ⟨n, h1, h⟩ := h; exact ⟨_, h1, h⟩
  · obtain ⟨n, h1, h⟩ := h; exact ⟨_, h1, h⟩
  · obtain ⟨n, h1, h⟩ := h; exact ⟨_, h1, h⟩
  · obtain ⟨n, h1, h⟩ := h; exact ⟨_, h1, h⟩
  · obtain ⟨a, n, c, h1, h⟩ := h; exact ⟨_, h1, h⟩
  · obtain ⟨n, h1, h⟩ := h; exact ⟨_, h1, h⟩
  · exact h
def ldsK (σ : AH) (b : Nat) : Nat → List Sh → (List AV → Prop) → Prop
  | _, [], K => K []
  | o, s :: ss, K => ldK σ b o (fun v => ldsK σ b (o + 1) ss fun r => K (v :: r)) s

/-- A place that is not nil. -/
def atP (a : Option (Nat × Nat)) (K : Nat → Nat → Prop) : Prop :=
  match a with
  | some (b, o) => K b o
  | none => False
/-- A value of a type is loaded. -/
def loadVc (C : Cx) (t : TypeId) (x : AV) (σ : AH) (K : AV → Prop) : Prop :=
  match x, C.ti t with
  | .ptr a, some ti =>
    if ti.d.isAgg then atP a fun b o => (σ.range b o ti.size).isSome = true ∧ ldsK σ b o ti.sh (fun vs => if vs.length = ti.size then K (.agg vs) else False)
    else match ti.sh with
      | [s] => atP a fun b o => ldK σ b o K s
      | _ => False
  | _, _ => False

def AV.cells : AV → List AV
  | .agg cs => cs
  | v => [v]
def leaves (l : List AV) : Bool := l.all AV.leaf

/-- Cells are stored from a place on. -/
def putVc (σ : AH) (b o : Nat) (vs : List AV) (K : AH → Prop) : Prop :=
  ∃ cs own, σ.get b = some (.cells cs own) ∧ own.rw = true ∧ o + vs.length ≤ cs.length ∧ K (σ.set b (.cells (layL cs o vs) own))
def storeVc (C : Cx) (t : TypeId) (x v : AV) (σ : AH) (K : AH → Prop) : Prop :=
  match x, C.ti t with
  | .ptr a, some ti => if leaves v.cells then (if v.cells.length = ti.size then atP a fun b o => putVc σ b o v.cells K else False) else False
  | _, _ => False
/-- A new variable. -/
def newVc (vs : List AV) (σ : AH) (K : AV → AH → Prop) : Prop :=
  if leaves vs then K (.ptr (some (σ.next, 0))) (σ.alloc (.cells vs (.exact 1))) else False

/-! ### Aggregates -/
def fillL (place : Nat → Option (Nat × Nat)) (cells : List AV) : List (Nat × AV) → Option (List AV)
  | [] => some cells
  | (i, v) :: rest =>
    match place i with
    | none => none
    | some (off, size) => if leaves v.cells then (if v.cells.length = size then (if off + v.cells.length ≤ cells.length then fillL place (layL cells off v.cells) rest else none) else none) else none
def buildVc (C : Cx) (t : TypeId) (parts : List (Nat × AV)) (K : AV → Prop) : Prop :=
  match C.ti t with
  | some ti =>
    match ti.d with
    | .struct fs =>
      if fs.all (fun f => (C.ti f.2).isSome) then
      match fillL (fun i => match fs[i]? with | some (off, ft) => (C.ti ft).map fun x => (off, x.size) | none => none) ti.zero parts with
      | some cs => K (.agg cs)
      | none => False
      else False
    | .array _ e =>
      match C.ti e with
      | some x =>
        match fillL (fun i => some (i * x.size, x.size)) ti.zero parts with
        | some cs => K (.agg cs)
        | none => False
      | none => False
    | _ => False
  | none => False
def repL (z : List AV) : Nat → List AV
  | 0 => []
  | n + 1 => z ++ repL z n
def buildSliceVc (C : Cx) (t : TypeId) (len : Nat) (parts : List (Nat × AV)) (σ : AH) (K : AV → AH → Prop) : Prop :=
  match C.ti t with
  | some ti =>
    match ti.d with
    | .slice e =>
      match C.ti e with
      | some x =>
        if len * x.size ≤ 2 ^ 24 then
          match fillL (fun i => some (i * x.size, x.size)) (repL x.zero len) parts with
          | some cs => if leaves cs then K (.slice (some (σ.next, 0)) len (.k len)) (σ.alloc (.cells cs (.exact x.size))) else False
          | none => False
        else False
      | none => False
    | _ => False
  | none => False
def partVc (C : Cx) (t : TypeId) (cs : List AV) (off : Nat) (K : AV → Prop) : Prop :=
  match C.ti t with
  | some x =>
    if x.d.isAgg then K (.agg ((cs.drop off).take x.size))
    else match cs[off]? with
      | some v => K v
      | none => False
  | none => False
def fieldVc (C : Cx) (t : TypeId) (x : AV) (f : Nat) (K : AV → Prop) : Prop :=
  match C.ti t, x with
  | some ti, .agg cs =>
    match ti.d with
    | .struct fs =>
      match fs[f]? with
      | some (off, ft) => partVc C ft cs off K
      | none => False
    | _ => False
  | _, _ => False
def fieldAddrVc (C : Cx) (t : TypeId) (x : AV) (f : Nat) (K : AV → Prop) : Prop :=
  match C.ti t, x with
  | some ti, .ptr a =>
    match ti.d with
    | .struct fs =>
      match fs[f]? with
      | some (off, ft) =>
        match C.ti ft with
        | some x => if x.size = 0 then False else atP a fun b o => K (.ptr (some (b, o + off)))
        | none => False
      | none => False
    | _ => False
  | _, _ => False
/-- The address of an element. -/
def indexAddrVc (C : Cx) (t : TypeId) (x i : AV) (K : AV → Prop) : Prop :=
  match C.ti t, i with
  | some ti, .int _ i =>
    match ti.d, x with
    | .array n e, .ptr a =>
      match C.ti e with
      | some y => 0 ≤ i ∧ i < (n : Int) ∧ atP a fun b o => K (.ptr (some (b, o + i.toNat * y.size)))
      | none => False
    | .slice e, .slice a n _ =>
      match C.ti e with
      | some y => 0 ≤ i ∧ i < (n : Int) ∧ atP a fun b o => K (.ptr (some (b, o + i.toNat * y.size)))
      | none => False
    | _, _ => False
  | _, _ => False
/-- An element of an array that is a value, or a byte of a string. -/
def indexVc (C : Cx) (t : TypeId) (x i : AV) (K : AV → Prop) : Prop :=
  match C.ti t, i with
  | some ti, .int _ i =>
    match ti.d, x with
    | .array n e, .agg cs =>
      match C.ti e with
      | some y => 0 ≤ i ∧ i < (n : Int) ∧ partVc C e cs (i.toNat * y.size) K
      | none => False
    | .str, .str s => 0 ≤ i ∧ ∃ c, s[i.toNat]? = some c ∧ K (.int .u8 c.toNat)
    | _, _ => False
  | _, _ => False

/-! ### Slices -/
/-- A bound of a slice: a number from 0 to the most. -/
def boundVc (x : Option AV) (d most : Nat) (K : Nat → Prop) : Prop :=
  match x with
  | none => K d
  | some (.int _ i) => 0 ≤ i ∧ i ≤ (most : Int) ∧ K i.toNat
  | _ => False
def shA (a : Option (Nat × Nat)) (n : Nat) : Option (Nat × Nat) :=
  match a with
  | some (b, o) => some (b, o + n)
  | none => none
/-- The capacity behind a cut at the front. -/
def shC (c : Cp) (n : Nat) : Cp :=
  match c with
  | .k c => .k (c - n)
  | _ => .x
/-- How many elements a slice may be cut to: as many as it has; or, where 'wide' is asked for, as many as there is room for. -/
def roomOf (wide : Bool) (σ : AH) (a : Option (Nat × Nat)) (n : Nat) (c : Cp) : Nat :=
  if wide then
    match a, c with
    | some _, .k c => c
    | some (b, o), .u => (match σ.get b with
      | some (.cells cs own) => (match own.sz with
        | some sz => if 0 < sz then max n ((cs.length - o) / sz) else n
        | none => n)
      | _ => n)
    | _, _ => n
  else n
def sliceVc (C : Cx) (wide : Bool) (t : TypeId) (x : AV) (lo hi mx : Option AV) (σ : AH) (K : AV → Prop) : Prop :=
  match C.ti t with
  | some ti =>
    match ti.d, x with
    | .str, .str s =>
      match mx with
      | none => boundVc hi s.length s.length fun h => boundVc lo 0 h fun l => K (.str ((s.take h).drop l))
      | some _ => False
    | .slice e, .slice a n c =>
      match C.ti e with
      | some y =>
        if y.size = 0 then False else
        match mx with
        | some _ => if hi.isSome then boundVc mx n (roomOf wide σ a n c) fun m => boundVc hi n m fun h => boundVc lo 0 h fun l => K (.slice (shA a (l * y.size)) (h - l) (.k (m - l))) else False
        | none => boundVc hi n (roomOf wide σ a n c) fun h => match lo with
          | none => K (.slice a h c)
          | some _ => boundVc lo 0 h fun l => K (.slice (shA a (l * y.size)) (h - l) (shC c l))
      | none => False
    | .array n e, .ptr a =>
      match mx, C.ti e with
      | none, some y => if y.size = 0 then False else atP a fun b o => boundVc hi n n fun h => boundVc lo 0 h fun l => K (.slice (some (b, o + l * y.size)) (h - l) (.k (n - l)))
      | _, _ => False
    | _, _ => False
  | none => False
def makeSliceVc (C : Cx) (t : TypeId) (len cap : AV) (σ : AH) (K : AV → AH → Prop) : Prop :=
  match C.ti t, len, cap with
  | some ti, .int _ l, .int _ c =>
    match ti.d with
    | .slice e =>
      match C.ti e with
      | some x => 0 ≤ l ∧ l ≤ c ∧ x.bytes * c ≤ 2 ^ 47 ∧ c < 2 ^ 63 ∧ leaves x.zero = true ∧ K (.slice (some (σ.next, 0)) l.toNat (.k c.toNat)) (σ.alloc (.cells (repL x.zero c.toNat) (.exact x.size)))
      | none => False
    | _ => False
  | _, _, _ => False

/-! ### Reckoning -/
def bitsOf (f : (n : Nat) → BitVec n → BitVec n → BitVec n) (k : IntKind) (a b : Int) : Int := k.wrap (f k.bits (BitVec.ofInt k.bits a) (BitVec.ofInt k.bits b)).toNat
def eq1 : Sh → AV → AV → Option Bool
  | .int _, .int k a, .int k' b => if k = k' then some (a == b) else none
  | .bool, .bool a, .bool b => some (a == b)
  | .str, .str a, .str b => some (a == b)
  | _, _, _ => none
def eqS : List Sh → List AV → List AV → Bool → Option Bool
  | [], [], [], r => some r
  | s :: ss, a :: as, b :: bs, r =>
    match eq1 s a b with
    | some x => eqS ss as bs (r && x)
    | none => none
  | _, _, _, _ => none
def eqVc (C : Cx) (t : TypeId) (x y : AV) (K : Bool → Prop) : Prop :=
  match C.ti t with
  | some ti =>
    match ti.d, x, y with
    | .bool, .bool a, .bool b => K (a == b)
    | .ptr _, .ptr none, .ptr b => K b.isNone
    | .ptr _, .ptr (some _), .ptr none => K false
    | .slice _, .slice none _ _, .slice b _ _ => K b.isNone
    | .slice _, .slice (some _) _ _, .slice none _ _ => K false
    | .map _ _, .map none, .map b => K b.isNone
    | .map _ _, .map (some _), .map none => K false
    | .iface, .nilIface, .iface _ _ => K false
    | .iface, .iface _ _, .nilIface => K false
    | .struct _, .agg as, .agg bs => if ti.plain then (match eqS ti.sh as bs true with | some r => K r | none => False) else False
    | _, _, _ => False
  | none => False
def intVc (op : BinOp) (k : IntKind) (a b : Int) (K : AV → Prop) : Prop :=
  match op with
  | .add => K (.int k (k.wrap (a + b)))
  | .sub => K (.int k (k.wrap (a - b)))
  | .mul => K (.int k (k.wrap (a * b)))
  | .quo => if b = 0 then False else K (.int k (k.wrap (a.tdiv b)))
  | .rem => if b = 0 then False else K (.int k (a.tmod b))
  | .and => K (.int k (bitsOf (fun _ => BitVec.and) k a b))
  | .or => K (.int k (bitsOf (fun _ => BitVec.or) k a b))
  | .xor => K (.int k (bitsOf (fun _ => BitVec.xor) k a b))
  | .eql => K (.bool (a == b))
  | .neq => K (.bool (a != b))
  | .lss => K (.bool (decide (a < b)))
  | .leq => K (.bool (decide (a ≤ b)))
  | .gtr => K (.bool (decide (a > b)))
  | .geq => K (.bool (decide (a ≥ b)))
  | _ => False
def strVc (op : BinOp) (a b : List UInt8) (K : AV → Prop) : Prop :=
  match op with
  | .add => a.length + b.length < 2 ^ 63 ∧ K (.str (a ++ b))
  | .eql => K (.bool (a == b))
  | .neq => K (.bool (!(a == b)))
  | .lss => K (.bool (Op.bytesLess a b))
  | .leq => K (.bool (Op.bytesLess a b || a == b))
  | .gtr => K (.bool (!(Op.bytesLess a b || a == b)))
  | .geq => K (.bool (!Op.bytesLess a b))
  | _ => False
def binVc (C : Cx) (op : BinOp) (t : TypeId) (x y : AV) (K : AV → Prop) : Prop :=
  match op, x, y with
  | .shl, .int k a, .int _ b => if b < 0 then False else K (.int k (k.wrap (a * 2 ^ min b.toNat k.bits)))
  | .shr, .int k a, .int _ b => if b < 0 then False else K (.int k (a.fdiv (2 ^ min b.toNat k.bits)))
  | op, .int k a, .int k' b => if k = k' then intVc op k a b K else False
  | op, .str a, .str b => strVc op a b K
  | .eql, x, y => eqVc C t x y fun r => K (.bool r)
  | .neq, x, y => eqVc C t x y fun r => K (.bool (!r))
  | _, _, _ => False
def unVc (op : UnOp) (x : AV) (K : AV → Prop) : Prop :=
  match op, x with
  | .neg, .int k n => K (.int k (k.wrap (0 - n)))
  | .xor, .int k n => K (.int k (bitsOf (fun _ => BitVec.xor) k (if k.signed then -1 else k.max) n))
  | .not, .bool b => K (.bool (!b))
  | _, _ => False
def byteAV (c : UInt8) : AV := .int .u8 (c.toNat : Int)
/-- Some cells from a place on; none of nil. -/
def rd (σ : AH) (a : Option (Nat × Nat)) (m : Nat) : Option (List AV) :=
  if m = 0 then some [] else
  match a with
  | none => none
  | some (b, o) => σ.range b o m
def isByte (C : Cx) (e : TypeId) : Bool :=
  match C.ti e with
  | some te => te.d == .int .u8 && te.size == 1 && te.bytes == 1
  | none => false
def convVc (C : Cx) (s d : TypeId) (x : AV) (σ : AH) (K : AV → AH → Prop) : Prop :=
  match C.ti s, C.ti d with
  | some ts, some td =>
    match td.d, x with
    | .int k, .int _ n => K (.int k (k.wrap n)) σ
    | .str, .int _ n => K (.str (Utf8.encode n).data.toList) σ
    | .str, .str l => K (.str l) σ
    | .str, .slice a n _ => (match ts.d with
      | .slice e => if isByte C e then ∃ l : List UInt8, rd σ a n = some (l.map byteAV) ∧ K (.str l) σ else False
      | _ => False)
    | .slice e, .str l => if isByte C e then K (.slice (some (σ.next, 0)) l.length .u) (σ.alloc (.cells (l.map byteAV) (.grow 1))) else False
    | .slice e, .slice (some (b, o)) n c => if s = d ∧ isByte C e = true ∧ 0 < n then ∃ cs own, σ.get b = some (.cells cs own) ∧ own.rw = true ∧ K (.slice (some (b, o)) n c) (σ.set b (.cells cs .ro)) else False
    | _, _ => False
  | _, _ => False

/-! ### append, copy, clear, cap -/
/-- Elements are laid behind a slice. -/
def appVc (sz bytes : Nat) (a : Option (Nat × Nat)) (n : Nat) (c : Cp) (m : Nat) (new : List AV) (σ : AH) (K : AV → AH → Prop) : Prop :=
  if m = 0 then K (.slice a n c) σ else
  (n + m) * bytes ≤ 2 ^ 47 ∧
  match a, c with
  | none, _ => K (.slice (some (σ.next, 0)) m .u) (σ.alloc (.cells new (.grow sz)))
  | some (b, o), .k cc =>
    if n + m ≤ cc then putVc σ b (o + n * sz) new fun σ' => K (.slice a (n + m) c) σ'
    else ∃ old, rd σ a (n * sz) = some old ∧ leaves old = true ∧ K (.slice (some (σ.next, 0)) (n + m) .u) (σ.alloc (.cells (old ++ new) (.grow sz)))
  | some (b, o), .u =>
    ∃ cs own, σ.get b = some (.cells cs own) ∧ own.sz = some sz ∧ o + n * sz ≤ cs.length ∧
    (if o + (n + m) * sz ≤ cs.length then K (.slice a (n + m) .u) (σ.set b (.cells (layL cs (o + n * sz) new) own))
     else leaves ((cs.drop o).take (n * sz)) = true ∧
      (if own.full then K (.slice (some (σ.next, 0)) (n + m) .u) (σ.alloc (.cells ((cs.drop o).take (n * sz) ++ new) (.grow sz)))
       else K (.slice (some (σ.next, 0)) (n + m) .u) ((σ.kill b).alloc (.cells ((cs.drop o).take (n * sz) ++ new) (.grow sz)))))
  | some _, .x => False
/-- What is laid: the elements of a slice, or a string's bytes. -/
def srcVc (sz : Nat) (x : AV) (m : Nat) (σ : AH) (K : List AV → Prop) : Prop :=
  match x with
  | .slice a _ _ => ∃ new, rd σ a (m * sz) = some new ∧ leaves new = true ∧ K new
  | .str s => if sz = 1 then K ((s.take m).map byteAV) else False
  | _ => False
def lenA (x : AV) (K : Nat → Prop) : Prop :=
  match x with
  | .slice _ n _ => K n
  | .str s => K s.length
  | _ => False
def appendVc (C : Cx) (ts : List TypeId) (xs : List AV) (σ : AH) (K : AV → AH → Prop) : Prop :=
  match ts, xs with
  | t :: t' :: _, .slice a n c :: x :: _ =>
    match C.ti t, C.ti t' with
    | some ti, some ti' =>
      match ti.d with
      | .slice e =>
        match C.ti e with
        | some y =>
          if y.size = 0 then False else if y.bytes = 0 then False else
          if ti'.d.isInt then
            match x with
            | .int _ i => 0 ≤ i ∧ i < 2 ^ 63 ∧ i * y.bytes ≤ 2 ^ 47 ∧ leaves y.zero = true ∧ appVc y.size y.bytes a n c i.toNat (repL y.zero i.toNat) σ K
            | _ => False
          else lenA x fun m => srcVc y.size x m σ fun new => appVc y.size y.bytes a n c m new σ K
        | none => False
      | _ => False
    | _, _ => False
  | _, _ => False
def copyVc (C : Cx) (ts : List TypeId) (xs : List AV) (σ : AH) (K : AV → AH → Prop) : Prop :=
  match ts, xs with
  | t :: _, .slice a n _ :: x :: _ =>
    match C.ti t with
    | some ti =>
      match ti.d with
      | .slice e =>
        match C.ti e with
        | some y => if y.size = 0 then False else lenA x fun m => srcVc y.size x (min m n) σ fun new =>
            if min m n = 0 then K (.int .i64 0) σ else atP a fun b o => putVc σ b o new fun σ' => K (.int .i64 (min m n : Nat)) σ'
        | none => False
      | _ => False
    | none => False
  | _, _ => False
def clearVc (C : Cx) (ts : List TypeId) (xs : List AV) (σ : AH) (K : AV → AH → Prop) : Prop :=
  match ts, xs with
  | t :: _, .slice a n _ :: _ =>
    match C.ti t with
    | some ti =>
      match ti.d with
      | .slice e =>
        match C.ti e with
        | some y => if n = 0 then K (.tuple []) σ else leaves y.zero = true ∧ atP a fun b o => putVc σ b o (repL y.zero n) fun σ' => K (.tuple []) σ'
        | none => False
      | _ => False
    | none => False
  | _, _ => False
def capVc (a : Option (Nat × Nat)) (n : Nat) (c : Cp) (σ : AH) (K : AV → AH → Prop) : Prop :=
  match c, a with
  | .k c, _ => K (.int .i64 c) σ
  | .u, some (b, o) =>
    ∃ cs own sz, σ.get b = some (.cells cs own) ∧ own.sz = some sz ∧ 0 < sz ∧ o + n * sz ≤ cs.length ∧
      (if own.full then K (.int .i64 ((cs.length - o) / sz : Nat)) σ
       else ∀ cap, n ≤ cap → cs.length ≤ o + cap * sz → K (.int .i64 cap) (σ.set b (.cells (cs ++ List.replicate (o + cap * sz - cs.length) .any) (.exact sz))))
  | _, _ => False
def lenVc (C : Cx) (t : TypeId) (x : AV) (σ : AH) (K : AV → Prop) : Prop :=
  match C.ti t with
  | some ti =>
    match ti.d, x with
    | .slice _, .slice _ n _ => K (.int .i64 n)
    | .str, .str s => K (.int .i64 s.length)
    | .map _ _, .map none => K (.int .i64 0)
    | .map _ _, .map (some r) => ∃ es clock, σ.get r = some (.map es clock) ∧ K (.int .i64 es.length)
    | .array n _, _ => K (.int .i64 n)
    | _, _ => False
  | none => False
def maxVc (f : Int → Int → Int) (k : IntKind) (a : Int) : List AV → (AV → Prop) → Prop
  | [], K => K (.int k a)
  | .int _ b :: r, K => maxVc f k (f a b) r K
  | _ :: _, _ => False
def max2 (x y : Int) : Int := if y > x then y else x
def min2 (x y : Int) : Int := if y < x then y else x

/-! ### Maps -/
/-- How keys are held against each other: a whole number, or a string; or structs of plain fields. -/
inductive KC where
  | one (s : Sh) | many (ss : List Sh)
def eqK (c : KC) (a b : AV) : Option Bool :=
  match c, a, b with
  | .one s, a, b => eq1 s a b
  | .many ss, .agg as, .agg bs => eqS ss as bs true
  | _, _, _ => none
def mapFind (c : KC) (k : AV) : List (AV × AV × Nat) → Nat → Option (Option (Nat × AV))
  | [], _ => some none
  | e :: es, i =>
    match eqK c k e.1 with
    | some true => some (some (i, e.2.1))
    | some false => mapFind c k es (i + 1)
    | none => none
/-- A map's key is a whole number, a string, or a struct of plain fields; the key at hand is one. -/
def keyOk (C : Cx) (kt : TypeId) (k : AV) (K : KC → Prop) : Prop :=
  match C.ti kt with
  | some ti =>
    match ti.d, k with
    | .int kd, .int _ _ => K (.one (.int kd))
    | .str, .str _ => K (.one .str)
    | .struct _, .agg cs => if ti.plain then (match eqS ti.sh cs cs true with | some _ => K (.many ti.sh) | none => False) else False
    | _, _ => False
  | none => False
def mapTys (C : Cx) (t : TypeId) (K : TypeId → TI → Prop) : Prop :=
  match C.ti t with
  | some ti =>
    match ti.d with
    | .map k e => match C.ti e with
      | some te => K k te
      | none => False
    | _ => False
  | none => False
def lookupVc (C : Cx) (t : TypeId) (x k : AV) (ok : Bool) (σ : AH) (K : AV → Prop) : Prop :=
  mapTys C t fun kt te => keyOk C kt k fun sh =>
    match x with
    | .map none => K (if ok then .tuple [zeroAV te, .bool false] else zeroAV te)
    | .map (some r) => ∃ es clock, σ.get r = some (.map es clock) ∧
      ∃ res, mapFind sh k es 0 = some res ∧
      (match res with
       | some (_, v) => K (if ok then .tuple [v, .bool true] else v)
       | none => K (if ok then .tuple [zeroAV te, .bool false] else zeroAV te))
    | _ => False
def mapPutVc (C : Cx) (t : TypeId) (x k v : AV) (σ : AH) (K : AH → Prop) : Prop :=
  mapTys C t fun kt _ => keyOk C kt k fun sh =>
    match x with
    | .map (some r) => ∃ es clock, σ.get r = some (.map es clock) ∧
      ∃ res, mapFind sh k es 0 = some res ∧
      (match res with
       | some (i, _) => K (σ.set r (.map (es.modify i fun e => (k, v, e.2.2)) clock))
       | none => K (σ.set r (.map (es ++ [(k, v, clock)]) (clock + 1))))
    | _ => False
def mapEntryVc (C : Cx) (t : TypeId) (x k : AV) (σ : AH) (K : AV → AH → Prop) : Prop :=
  mapTys C t fun kt te => keyOk C kt k fun sh =>
    match x with
    | .map (some r) => ∃ es clock, σ.get r = some (.map es clock) ∧
      ∃ res, mapFind sh k es 0 = some res ∧
      (match res with
       | some (i, v) => K (.tuple [v, .int .i64 (((es[i]?).map (·.2.2)).getD 0 : Nat)]) (σ.set r (.map (es.modify i fun e => (k, e.2)) clock))
       | none => K (.tuple [zeroAV te, .int .i64 clock]) (σ.set r (.map (es ++ [(k, zeroAV te, clock)]) (clock + 1))))
    | _ => False
def entryStoreVc (x stamp v : AV) (σ : AH) (K : AH → Prop) : Prop :=
  match x, stamp with
  | .map (some r), .int _ s => ∃ es clock, σ.get r = some (.map es clock) ∧
      ∃ i, es.findIdx? (fun e => (e.2.2 : Int) == s) = some i ∧ K (σ.set r (.map (es.modify i fun e => (e.1, v, e.2.2)) clock))
  | _, _ => False
def deleteVc (C : Cx) (ts : List TypeId) (xs : List AV) (σ : AH) (K : AV → AH → Prop) : Prop :=
  match ts, xs with
  | t :: _, .map (some r) :: k :: _ => mapTys C t fun kt _ => keyOk C kt k fun sh =>
      ∃ es clock, σ.get r = some (.map es clock) ∧
      ∃ res, mapFind sh k es 0 = some res ∧
      (match res with
       | some (i, _) => K (.tuple []) (σ.set r (.map (es.eraseIdx i) clock))
       | none => K (.tuple []) σ)
  | _, _ => False

/-! ### Strings gone through -/
def rangeVc (C : Cx) (t : TypeId) (x : AV) (σ : AH) (K : AV → AH → Prop) : Prop :=
  match C.ti t, x with
  | some ti, .str s => if ti.d = .str then K (.ptr (some (σ.next, 0))) (σ.alloc (.siter s 0)) else False
  | some ti, .map m => match ti.d with
    | .map _ _ => (match m with
      | none => K (.ptr (some (σ.next, 0))) (σ.alloc (.miter none 0 [] 0))
      | some r => ∃ es clock, σ.get r = some (.map es clock) ∧ K (.ptr (some (σ.next, 0))) (σ.alloc (.miter (some r) clock [] clock)))
    | _ => False
  | _, _ => False
/-- The entries that a map has yet to hand out. -/
def leftA (es : List (AV × AV × Nat)) (seen : List Nat) : List (AV × AV × Nat) := es.filter fun e => !seen.contains e.2.2
def nextVc (x : AV) (isString : Bool) (σ : AH) (K : AV → AH → Prop) : Prop :=
  match x, isString with
  | .ptr (some (r, 0)), true => ∃ s pos, σ.get r = some (.siter s pos) ∧
      (if pos < s.length then
        K (.tuple [.bool true, .int .i64 pos, .int .i32 (Utf8.decode ⟨s.toArray⟩ pos).1]) (σ.set r (.siter s (pos + (Utf8.decode ⟨s.toArray⟩ pos).2)))
       else K (.tuple [.bool false]) σ)
  | .ptr (some (r, 0)), false => ∃ m since seen last, σ.get r = some (.miter m since seen last) ∧
      (match m with
       | none => K (.tuple [.bool false]) (σ.kill r)
       | some q => ∃ es, σ.get q = some (.map es since) ∧ last = since ∧ (es.all fun e => decide (e.2.2 < since)) = true ∧
         (match leftA es seen with
          | [] => K (.tuple [.bool false]) (σ.kill r)
          | l => ∀ e, e ∈ l → K (.tuple [.bool true, e.1, e.2.1]) (σ.set r (.miter (some q) since (seen ++ [e.2.2]) last))))
  | _, _ => False
def assertVc (C : Cx) (x : AV) (t : TypeId) (ok : Bool) (K : AV → Prop) : Prop :=
  match C.ti t, x with
  | some ti, .iface t' v => match ti.d with
    | .iface => False
    | _ => if t' = t then K (if ok then .tuple [v, .bool true] else v) else if ok then K (.tuple [zeroAV ti, .bool false]) else False
  | some ti, .nilIface => match ti.d with
    | .iface => False
    | _ => if ok then K (.tuple [zeroAV ti, .bool false]) else False
  | _, _ => False
end Go.Proofs.YthpngchngnaloaaGreatDoor.Vm
