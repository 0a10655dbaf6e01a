/- What an operation asks of an abstract memory. -/
import Derived.Test.YthpngchngnaloaaGreatDoorVmMem
namespace Go.Proofs.YthpngchngnaloaaGreatDoor.Vm
open RowKit (Below)

/-- A type, as far as the abstract machine looks at it. -/
inductive TD where
  | int (k : IntKind) | bool | str | ptr (e : TypeId) | slice (e : TypeId) | map (k e : TypeId) | func | iface | tuple
  | struct (fs : List (Nat × TypeId)) | array (n : Nat) (e : TypeId)
  | other
  deriving DecidableEq
def tdOf : TypeDesc → TD
  | .int k => .int k
  | .bool => .bool
  | .string => .str
  | .pointer e => .ptr e
  | .slice e => .slice e
  | .map k e => .map k e
  | .func .. => .func
  | .interface _ => .iface
  | .tuple _ => .tuple
  | .struct fs => .struct (fs.toList.map fun f => (f.offset, f.type))
  | .array n e => .array n e
  | _ => .other
def TD.isInt : TD → Bool
  | .int _ => true
  | _ => false
def TD.isAgg : TD → Bool
  | .struct _ | .array _ _ => true
  | _ => false

/-- What a cell of a type holds. -/
inductive Sh where
  | int (k : IntKind) | bool | str | ptr | slice | map | raw
  deriving DecidableEq

structure TI where
  d : TD
  size : Nat
  bytes : Nat
  zero : List AV
  sh : List Sh
  /-- a struct of whole numbers, bools and strings that may be compared cell by cell -/
  plain : Bool

/-- A struct type's fields are plain, and '==' of it asks nothing that the model leaves open. -/
def PlainField (P : Program) (f : Field) (i : Nat) (s : Sh) : Prop :=
  f.offset = i ∧ (f.name == "_") = false ∧
    match s with
    | .bool => P.underlying f.type = some .bool
    | .str => P.underlying f.type = some .string
    | .int k => P.underlying f.type = some (.int k)
    | _ => False
def PlainFields (P : Program) : List Field → Nat → List Sh → Prop
  | [], _, [] => True
  | f :: fs, i, s :: ss => PlainField P f i s ∧ PlainFields P fs (i + 1) ss
  | _, _, _ => False
def PlainStruct (P : Program) (t : TypeId) (sh : List Sh) : Prop :=
  P.stoodInHeld t = false ∧ P.eqGuardType P.depth t = false ∧
    match P.underlying t with
    | some (.struct fs) => PlainFields P fs.toList 0 sh
    | _ => False

def zeroAV (ti : TI) : AV := if ti.d.isAgg then .agg ti.zero else ti.zero.headD .any
structure TIok (P : Program) (t : TypeId) (x : TI) : Prop where
  und : ∃ d, P.underlying t = some d ∧ tdOf d = x.d
  info : ∃ i, P.info? t = some i ∧ i.size = x.size ∧ i.bytes = x.bytes ∧ ∃ z, i.zero = some z ∧ ofVs z.cells.toList = x.zero ∧ z.cells.size = x.size ∧ (∀ v, v ∈ z.cells → v.oneCell' = true) ∧ ofV z = zeroAV x
  plain : x.plain = true → PlainStruct P t x.sh

structure Cx where
  P : Program
  ti : TypeId → Option TI
  ok : ∀ t x, ti t = some x → TIok P t x
  mixed : P.follows .mixedOrders = true
  /-- the shapes of a result: several, or one; an aggregate or not -/
  res : TypeId → Option (List (Bool × List Sh))

/-! ### Operands -/
abbrev Fr := Nat → AV
def setFr (fr : Fr) (t : Option Nat) (v : AV) : Fr :=
  match t with
  | some t => fun i => if i = t then v else fr i
  | none => fr
def ev (gl : List Nat) (n : Nat) (fr : Fr) : Operand → AV
  | .tmp t => if t < n then fr t else .any
  | .const v => ofV v
  | .global g => if gl.contains g then .ptr (some (g, 0)) else .any
  | .func f => .func f [] []
def FrRel (ι : IM) (n : Nat) (fr : Fr) (tmps : Array Value) : Prop := tmps.size = n ∧ ∀ t, t < n → ∃ v, tmps[t]? = some v ∧ VRel ι (fr t) v
/-- The variables that are known lie where they lie. -/
def Globs (ι : IM) (gl : List Nat) : Prop := ∀ g, g ∈ gl → ∃ p, ι g = some p ∧ p.blk = g ∧ p.base = 0

/-! ### Values by their shapes -/
def shK (K : AV → Prop) : Sh → AV → Prop
  | .int k, v => ∃ n, v = .int k n ∧ K (.int k n)
  | .bool, v => ∃ b, v = .bool b ∧ K (.bool b)
  | .str, v => ∃ s, v = .str s ∧ K (.str s)
  | .ptr, v => ∃ a, v = .ptr a ∧ K (.ptr a)
  | .slice, v => ∃ a n c, v = .slice a n c ∧ K (.slice a n c)
  | .map, v => ∃ r, v = .map r ∧ K (.map r)
  | .raw, v => K v
theorem shK_imp {K : AV → Prop} {s : Sh} {v : AV} (h : shK K s v) : K v := by
  cases s <;> simp only [shK] at h
  · obtain ⟨n, rfl, h⟩ := h; exact h
  · obtain ⟨n, rfl, h⟩ := h; exact h
  · obtain ⟨n, rfl, h⟩ := h; exact h
  · obtain ⟨n, rfl, h⟩ := h; exact h
  · obtain ⟨a, n, c, rfl, h⟩ := h; exact h
  · obtain ⟨n, rfl, h⟩ := h; exact h
  · exact h
def shsK : List Sh → List AV → (List AV → Prop) → Prop
  | [], vs, K => vs = [] ∧ K []
  | s :: ss, vs, K => ∃ v rest, vs = v :: rest ∧ shK (fun v => shsK ss rest fun r => K (v :: r)) s v
theorem shsK_imp : ∀ {ss : List Sh} {vs : List AV} {K : List AV → Prop}, shsK ss vs K → K vs
  | [], vs, K, h => by obtain ⟨rfl, h⟩ := h; exact h
  | s :: ss, vs, K, h => by
    obtain ⟨v, rest, rfl, h⟩ := h
    exact shsK_imp (K := fun r => K (v :: r)) (shK_imp h)

/-! ### Loads and stores -/
/-- A cell is asked for, and is of a shape. -/
def ldK (σ : AH) (b o : Nat) (K : AV → Prop) : Sh → Prop
  | .int k => ∃ n, σ.cell b o = some (.int k n) ∧ K (.int k n)
  | .bool => ∃ x, σ.cell b o = some (.bool x) ∧ K (.bool x)
  | .str => ∃ s, σ.cell b o = some (.str s) ∧ K (.str s)
  | .ptr => ∃ a, σ.cell b o = some (.ptr a) ∧ K (.ptr a)
  | .slice => ∃ a n c, σ.cell b o = some (.slice a n c) ∧ K (.slice a n c)
  | .map => ∃ r, σ.cell b o = some (.map r) ∧ K (.map r)
  | .raw => ∃ v, σ.cell b o = some v ∧ K v
theorem ldK_imp {σ : AH} {b o : Nat} {K : AV → Prop} {s : Sh} (h : ldK σ b o K s) : ∃ v, σ.cell b o = some v ∧ K v := by
  cases s <;> simp only [ldK] at h
  · obtain ⟨n, h1, h⟩ := h; exact ⟨_, h1, h⟩
  · obtain ⟨n, h1, h⟩ := h; exact ⟨_, h1, h⟩
  · obtain ⟨n, h1, h⟩ := h; exact ⟨_, h1, h⟩
  · obtain ⟨n, h1, h⟩ := h; exact ⟨_, h1, h⟩
  · obtain ⟨a, n, c, h1, h⟩ := h; exact ⟨_, h1, h⟩
  · obtain ⟨n, h1, h⟩ := h; exact ⟨_, h1, h⟩
  · exact h
def ldsK (σ : AH) (b : Nat) : Nat → List Sh → (List AV → Prop) → Prop
  | _, [], K => K []
  | o, s :: ss, K => ldK σ b o (fun v => ldsK σ b (o + 1) ss fun r => K (v :: r)) s

/-- A place that is not nil. -/
def atP (a : Option (Nat × Nat)) (K : Nat → Nat → Prop) : Prop :=
  match a with
  | some (b, o) => K b o
  | none => False
/-- A value of a type is loaded. -/
def loadVc (C : Cx) (t : TypeId) (x : AV) (σ : AH) (K : AV → Prop) : Prop :=
  match x, C.ti t with
  | .ptr a, some ti =>
    if ti.d.isAgg then atP a fun b o => (σ.range b o ti.size).isSome = true ∧ ldsK σ b o ti.sh (fun vs => if vs.length = ti.size then K (.agg vs) else False)
    else match ti.sh with
      | [s] => atP a fun b o => ldK σ b o K s
      | _ => False
  | _, _ => False

def AV.cells : AV → List AV
  | .agg cs => cs
  | v => [v]
def leaves (l : List AV) : Bool := l.all AV.leaf

/-- Cells are stored from a place on. -/
def putVc (σ : AH) (b o : Nat) (vs : List AV) (K : AH → Prop) : Prop :=
  ∃ cs own, σ.get b = some (.cells cs own) ∧ own.rw = true ∧ o + vs.length ≤ cs.length ∧ K (σ.set b (.cells (layL cs o vs) own))
def storeVc (C : Cx) (t : TypeId) (x v : AV) (σ : AH) (K : AH → Prop) : Prop :=
  match x, C.ti t with
  | .ptr a, some ti => if leaves v.cells then (if v.cells.length = ti.size then atP a fun b o => putVc σ b o v.cells K else False) else False
  | _, _ => False
/-- A new variable. -/
def newVc (vs : List AV) (σ : AH) (K : AV → AH → Prop) : Prop :=
  if leaves vs then K (.ptr (some (σ.next, 0))) (σ.alloc (.cells vs (.exact 1))) else False

/-! ### Aggregates -/
def fillL (place : Nat → Option (Nat × Nat)) (cells : List AV) : List (Nat × AV) → Option (List AV)
  | [] => some cells
  | (i, v) :: rest =>
    match place i with
    | none => none
    | some (off, size) => if leaves v.cells then (if v.cells.length = size then (if off + v.cells.length ≤ cells.length then fillL place (layL cells off v.cells) rest else none) else none) else none
def buildVc (C : Cx) (t : TypeId) (parts : List (Nat × AV)) (K : AV → Prop) : Prop :=
  match C.ti t with
  | some ti =>
    match ti.d with
    | .struct fs =>
      if fs.all (fun f => (C.ti f.2).isSome) then
      match fillL (fun i => match fs[i]? with | some (off, ft) => (C.ti ft).map fun x => (off, x.size) | none => none) ti.zero parts with
      | some cs => K (.agg cs)
      | none => False
      else False
    | .array _ e =>
      match C.ti e with
      | some x =>
        match fillL (fun i => some (i * x.size, x.size)) ti.zero parts with
        | some cs => K (.agg cs)
        | none => False
      | none => False
    | _ => False
  | none => False
def repL (z : List AV) : Nat → List AV
  | 0 => []
  | n + 1 => z ++ repL z n
def buildSliceVc (C : Cx) (t : TypeId) (len : Nat) (parts : List (Nat × AV)) (σ : AH) (K : AV → AH → Prop) : Prop :=
  match C.ti t with
  | some ti =>
    match ti.d with
    | .slice e =>
      match C.ti e with
      | some x =>
        if len * x.size ≤ 2 ^ 24 then
          match fillL (fun i => some (i * x.size, x.size)) (repL x.zero len) parts with
          | some cs => if leaves cs then K (.slice (some (σ.next, 0)) len (.k len)) (σ.alloc (.cells cs (.exact x.size))) else False
          | none => False
        else False
      | none => False
    | _ => False
  | none => False
def partVc (C : Cx) (t : TypeId) (cs : List AV) (off : Nat) (K : AV → Prop) : Prop :=
  match C.ti t with
  | some x =>
    if x.d.isAgg then K (.agg ((cs.drop off).take x.size))
    else match cs[off]? with
      | some v => K v
      | none => False
  | none => False
def fieldVc (C : Cx) (t : TypeId) (x : AV) (f : Nat) (K : AV → Prop) : Prop :=
  match C.ti t, x with
  | some ti, .agg cs =>
    match ti.d with
    | .struct fs =>
      match fs[f]? with
      | some (off, ft) => partVc C ft cs off K
      | none => False
    | _ => False
  | _, _ => False
def fieldAddrVc (C : Cx) (t : TypeId) (x : AV) (f : Nat) (K : AV → Prop) : Prop :=
  match C.ti t, x with
  | some ti, .ptr a =>
    match ti.d with
    | .struct fs =>
      match fs[f]? with
      | some (off, ft) =>
        match C.ti ft with
        | some x => if x.size = 0 then False else atP a fun b o => K (.ptr (some (b, o + off)))
        | none => False
      | none => False
    | _ => False
  | _, _ => False
/-- The address of an element. -/
def indexAddrVc (C : Cx) (t : TypeId) (x i : AV) (K : AV → Prop) : Prop :=
  match C.ti t, i with
  | some ti, .int _ i =>
    match ti.d, x with
    | .array n e, .ptr a =>
      match C.ti e with
      | some y => 0 ≤ i ∧ i < (n : Int) ∧ atP a fun b o => K (.ptr (some (b, o + i.toNat * y.size)))
      | none => False
    | .slice e, .slice a n _ =>
      match C.ti e with
      | some y => 0 ≤ i ∧ i < (n : Int) ∧ atP a fun b o => K (.ptr (some (b, o + i.toNat * y.size)))
      | none => False
    | _, _ => False
  | _, _ => False
/-- An element of an array that is a value, or a byte of a string. -/
def indexVc (C : Cx) (t : TypeId) (x i : AV) (K : AV → Prop) : Prop :=
  match C.ti t, i with
  | some ti, .int _ i =>
    match ti.d, x with
    | .array n e, .agg cs =>
      match C.ti e with
      | some y => 0 ≤ i ∧ i < (n : Int) ∧ partVc C e cs (i.toNat * y.size) K
      | none => False
    | .str, .str s => 0 ≤ i ∧ ∃ c, s[i.toNat]? = some c ∧ K (.int .u8 c.toNat)
    | _, _ => False
  | _, _ => False

/-! ### Slices -/
/-- A bound of a slice: a number from 0 to the most. -/
def boundVc (x : Option AV) (d most : Nat) (K : Nat → Prop) : Prop :=
  match x with
  | none => K d
  | some (.int _ i) => 0 ≤ i ∧ i ≤ (most : Int) ∧ K i.toNat
  | _ => False
def shA (a : Option (Nat × Nat)) (n : Nat) : Option (Nat × Nat) :=
  match a with
  | some (b, o) => some (b, o + n)
  | none => none
/-- The capacity behind a cut at the front. -/
def shC (c : Cp) (n : Nat) : Cp :=
  match c with
  | .k c => .k (c - n)
  | _ => .x
/-- How many elements a slice may be cut to: as many as it has; or, where 'wide' is asked for, as many as there is room for. -/
def roomOf (wide : Bool) (σ : AH) (a : Option (Nat × Nat)) (n : Nat) (c : Cp) : Nat :=
  if wide then
    match a, c with
    | some _, .k c => c
    | some (b, o), .u => (match σ.get b with
      | some (.cells cs (.exact sz)) => if 0 < sz then (cs.length - o) / sz else n
      | _ => n)
    | _, _ => n
  else n
def sliceVc (C : Cx) (wide : Bool) (t : TypeId) (x : AV) (lo hi mx : Option AV) (σ : AH) (K : AV → Prop) : Prop :=
  match C.ti t with
  | some ti =>
    match ti.d, x with
    | .str, .str s =>
      match mx with
      | none => boundVc hi s.length s.length fun h => boundVc lo 0 h fun l => K (.str ((s.take h).drop l))
      | some _ => False
    | .slice e, .slice a n c =>
      match C.ti e with
      | some y =>
        if y.size = 0 then False else
        match mx with
        | some _ => if hi.isSome then boundVc mx n (roomOf wide σ a n c) fun m => boundVc hi n m fun h => boundVc lo 0 h fun l => K (.slice (shA a (l * y.size)) (h - l) (.k (m - l))) else False
        | none => boundVc hi n (roomOf wide σ a n c) fun h => match lo with
          | none => K (.slice a h c)
          | some _ => boundVc lo 0 h fun l => K (.slice (shA a (l * y.size)) (h - l) (shC c l))
      | none => False
    | .array n e, .ptr a =>
      match mx, C.ti e with
      | none, some y => if y.size = 0 then False else atP a fun b o => boundVc hi n n fun h => boundVc lo 0 h fun l => K (.slice (some (b, o + l * y.size)) (h - l) (.k (n - l)))
      | _, _ => False
    | _, _ => False
  | none => False
def makeSliceVc (C : Cx) (t : TypeId) (len cap : AV) (σ : AH) (K : AV → AH → Prop) : Prop :=
  match C.ti t, len, cap with
  | some ti, .int _ l, .int _ c =>
    match ti.d with
    | .slice e =>
      match C.ti e with
      | some x => 0 ≤ l ∧ l ≤ c ∧ x.bytes * c ≤ 2 ^ 47 ∧ c < 2 ^ 63 ∧ leaves x.zero = true ∧ K (.slice (some (σ.next, 0)) l.toNat (.k c.toNat)) (σ.alloc (.cells (repL x.zero c.toNat) (.exact x.size)))
      | none => False
    | _ => False
  | _, _, _ => False

/-! ### Reckoning -/
def bitsOf (f : (n : Nat) → BitVec n → BitVec n → BitVec n) (k : IntKind) (a b : Int) : Int := k.wrap (f k.bits (BitVec.ofInt k.bits a) (BitVec.ofInt k.bits b)).toNat
def eq1 : Sh → AV → AV → Option Bool
  | .int _, .int k a, .int k' b => if k = k' then some (a == b) else none
  | .bool, .bool a, .bool b => some (a == b)
  | .str, .str a, .str b => some (a == b)
  | _, _, _ => none
def eqS : List Sh → List AV → List AV → Bool → Option Bool
  | [], [], [], r => some r
  | s :: ss, a :: as, b :: bs, r =>
    match eq1 s a b with
    | some x => eqS ss as bs (r && x)
    | none => none
  | _, _, _, _ => none
def eqVc (C : Cx) (t : TypeId) (x y : AV) (K : Bool → Prop) : Prop :=
  match C.ti t with
  | some ti =>
    match ti.d, x, y with
    | .bool, .bool a, .bool b => K (a == b)
    | .ptr _, .ptr none, .ptr b => K b.isNone
    | .ptr _, .ptr (some _), .ptr none => K false
    | .slice _, .slice none _ _, .slice b _ _ => K b.isNone
    | .slice _, .slice (some _) _ _, .slice none _ _ => K false
    | .map _ _, .map none, .map b => K b.isNone
    | .map _ _, .map (some _), .map none => K false
    | .iface, .nilIface, .iface _ _ => K false
    | .iface, .iface _ _, .nilIface => K false
    | .struct _, .agg as, .agg bs => if ti.plain then (match eqS ti.sh as bs true with | some r => K r | none => False) else False
    | _, _, _ => False
  | none => False
def intVc (op : BinOp) (k : IntKind) (a b : Int) (K : AV → Prop) : Prop :=
  match op with
  | .add => K (.int k (k.wrap (a + b)))
  | .sub => K (.int k (k.wrap (a - b)))
  | .mul => K (.int k (k.wrap (a * b)))
  | .quo => if b = 0 then False else K (.int k (k.wrap (a.tdiv b)))
  | .rem => if b = 0 then False else K (.int k (a.tmod b))
  | .and => K (.int k (bitsOf (fun _ => BitVec.and) k a b))
  | .or => K (.int k (bitsOf (fun _ => BitVec.or) k a b))
  | .xor => K (.int k (bitsOf (fun _ => BitVec.xor) k a b))
  | .eql => K (.bool (a == b))
  | .neq => K (.bool (a != b))
  | .lss => K (.bool (decide (a < b)))
  | .leq => K (.bool (decide (a ≤ b)))
  | .gtr => K (.bool (decide (a > b)))
  | .geq => K (.bool (decide (a ≥ b)))
  | _ => False
def strVc (op : BinOp) (a b : List UInt8) (K : AV → Prop) : Prop :=
  match op with
  | .add => a.length + b.length < 2 ^ 63 ∧ K (.str (a ++ b))
  | .eql => K (.bool (a == b))
  | .neq => K (.bool (!(a == b)))
  | .lss => K (.bool (Op.bytesLess a b))
  | .leq => K (.bool (Op.bytesLess a b || a == b))
  | .gtr => K (.bool (!(Op.bytesLess a b || a == b)))
  | .geq => K (.bool (!Op.bytesLess a b))
  | _ => False
def binVc (C : Cx) (op : BinOp) (t : TypeId) (x y : AV) (K : AV → Prop) : Prop :=
  match op, x, y with
  | .shl, .int k a, .int _ b => if b < 0 then False else K (.int k (k.wrap (a * 2 ^ min b.toNat k.bits)))
  | .shr, .int k a, .int _ b => if b < 0 then False else K (.int k (a.fdiv (2 ^ min b.toNat k.bits)))
  | op, .int k a, .int k' b => if k = k' then intVc op k a b K else False
  | op, .str a, .str b => strVc op a b K
  | .eql, x, y => eqVc C t x y fun r => K (.bool r)
  | .neq, x, y => eqVc C t x y fun r => K (.bool (!r))
  | _, _, _ => False
def unVc (op : UnOp) (x : AV) (K : AV → Prop) : Prop :=
  match op, x with
  | .neg, .int k n => K (.int k (k.wrap (0 - n)))
  | .xor, .int k n => K (.int k (bitsOf (fun _ => BitVec.xor) k (if k.signed then -1 else k.max) n))
  | .not, .bool b => K (.bool (!b))
  | _, _ => False
def byteAV (c : UInt8) : AV := .int .u8 (c.toNat : Int)
/-- Some cells from a place on; none of nil. -/
def rd (σ : AH) (a : Option (Nat × Nat)) (m : Nat) : Option (List AV) :=
  if m = 0 then some [] else
  match a with
  | none => none
  | some (b, o) => σ.range b o m
def isByte (C : Cx) (e : TypeId) : Bool :=
  match C.ti e with
  | some te => te.d == .int .u8 && te.size == 1 && te.bytes == 1
  | none => false
def convVc (C : Cx) (s d : TypeId) (x : AV) (σ : AH) (K : AV → AH → Prop) : Prop :=
  match C.ti s, C.ti d with
  | some ts, some td =>
    match td.d, x with
    | .int k, .int _ n => K (.int k (k.wrap n)) σ
    | .str, .int _ n => K (.str (Utf8.encode n).data.toList) σ
    | .str, .str l => K (.str l) σ
    | .str, .slice a n _ => (match ts.d with
      | .slice e => if isByte C e then ∃ l : List UInt8, rd σ a n = some (l.map byteAV) ∧ K (.str l) σ else False
      | _ => False)
    | .slice e, .str l => if isByte C e then K (.slice (some (σ.next, 0)) l.length .u) (σ.alloc (.cells (l.map byteAV) (.grow 1))) else False
    | _, _ => False
  | _, _ => False

/-! ### append, copy, clear, cap -/
/-- Elements are laid behind a slice. -/
def appVc (sz bytes : Nat) (a : Option (Nat × Nat)) (n : Nat) (c : Cp) (m : Nat) (new : List AV) (σ : AH) (K : AV → AH → Prop) : Prop :=
  if m = 0 then K (.slice a n c) σ else
  (n + m) * bytes ≤ 2 ^ 47 ∧
  match a, c with
  | none, _ => K (.slice (some (σ.next, 0)) m .u) (σ.alloc (.cells new (.grow sz)))
  | some (b, o), .k cc =>
    if n + m ≤ cc then putVc σ b (o + n * sz) new fun σ' => K (.slice a (n + m) c) σ'
    else ∃ old, rd σ a (n * sz) = some old ∧ leaves old = true ∧ K (.slice (some (σ.next, 0)) (n + m) .u) (σ.alloc (.cells (old ++ new) (.grow sz)))
  | some (b, o), .u =>
    ∃ cs own, σ.get b = some (.cells cs own) ∧ own.sz = some sz ∧ o + n * sz ≤ cs.length ∧
    (if o + (n + m) * sz ≤ cs.length then K (.slice a (n + m) .u) (σ.set b (.cells (layL cs (o + n * sz) new) own))
     else leaves ((cs.drop o).take (n * sz)) = true ∧
      (if own.full then K (.slice (some (σ.next, 0)) (n + m) .u) (σ.alloc (.cells ((cs.drop o).take (n * sz) ++ new) (.grow sz)))
       else K (.slice (some (σ.next, 0)) (n + m) .u) ((σ.kill b).alloc (.cells ((cs.drop o).take (n * sz) ++ new) (.grow sz)))))
  | some _, .x => False
/-- What is laid: the elements of a slice, or a string's bytes. -/
def srcVc (sz : Nat) (x : AV) (m : Nat) (σ : AH) (K : List AV → Prop) : Prop :=
  match x with
  | .slice a _ _ => ∃ new, rd σ a (m * sz) = some new ∧ leaves new = true ∧ K new
  | .str s => if sz = 1 then K ((s.take m).map byteAV) else False
  | _ => False
def lenA (x : AV) (K : Nat → Prop) : Prop :=
  match x with
  | .slice _ n _ => K n
  | .str s => K s.length
  | _ => False
def appendVc (C : Cx) (ts : List TypeId) (xs : List AV) (σ : AH) (K : AV → AH → Prop) : Prop :=
  match ts, xs with
  | t :: t' :: _, .slice a n c :: x :: _ =>
    match C.ti t, C.ti t' with
    | some ti, some ti' =>
      match ti.d with
      | .slice e =>
        match C.ti e with
        | some y =>
          if y.size = 0 then False else if y.bytes = 0 then False else
          if ti'.d.isInt then
            match x with
            | .int _ i => 0 ≤ i ∧ i < 2 ^ 63 ∧ i * y.bytes ≤ 2 ^ 47 ∧ leaves y.zero = true ∧ appVc y.size y.bytes a n c i.toNat (repL y.zero i.toNat) σ K
            | _ => False
          else lenA x fun m => srcVc y.size x m σ fun new => appVc y.size y.bytes a n c m new σ K
        | none => False
      | _ => False
    | _, _ => False
  | _, _ => False
def copyVc (C : Cx) (ts : List TypeId) (xs : List AV) (σ : AH) (K : AV → AH → Prop) : Prop :=
  match ts, xs with
  | t :: _, .slice a n _ :: x :: _ =>
    match C.ti t with
    | some ti =>
      match ti.d with
      | .slice e =>
        match C.ti e with
        | some y => if y.size = 0 then False else lenA x fun m => srcVc y.size x (min m n) σ fun new =>
            if min m n = 0 then K (.int .i64 0) σ else atP a fun b o => putVc σ b o new fun σ' => K (.int .i64 (min m n : Nat)) σ'
        | none => False
      | _ => False
    | none => False
  | _, _ => False
def clearVc (C : Cx) (ts : List TypeId) (xs : List AV) (σ : AH) (K : AV → AH → Prop) : Prop :=
  match ts, xs with
  | t :: _, .slice a n _ :: _ =>
    match C.ti t with
    | some ti =>
      match ti.d with
      | .slice e =>
        match C.ti e with
        | some y => if n = 0 then K (.tuple []) σ else leaves y.zero = true ∧ atP a fun b o => putVc σ b o (repL y.zero n) fun σ' => K (.tuple []) σ'
        | none => False
      | _ => False
    | none => False
  | _, _ => False
def capVc (a : Option (Nat × Nat)) (n : Nat) (c : Cp) (σ : AH) (K : AV → AH → Prop) : Prop :=
  match c, a with
  | .k c, _ => K (.int .i64 c) σ
  | .u, some (b, o) =>
    ∃ cs own sz, σ.get b = some (.cells cs own) ∧ own.sz = some sz ∧ 0 < sz ∧ o + n * sz ≤ cs.length ∧
      (if own.full then K (.int .i64 ((cs.length - o) / sz : Nat)) σ
       else ∀ cap, n ≤ cap → cs.length ≤ o + cap * sz → K (.int .i64 cap) (σ.set b (.cells (cs ++ List.replicate (o + cap * sz - cs.length) .any) (.exact sz))))
  | _, _ => False
def lenVc (C : Cx) (t : TypeId) (x : AV) (σ : AH) (K : AV → Prop) : Prop :=
  match C.ti t with
  | some ti =>
    match ti.d, x with
    | .slice _, .slice _ n _ => K (.int .i64 n)
    | .str, .str s => K (.int .i64 s.length)
    | .map _ _, .map none => K (.int .i64 0)
    | .map _ _, .map (some r) => ∃ es clock, σ.get r = some (.map es clock) ∧ K (.int .i64 es.length)
    | .array n _, _ => K (.int .i64 n)
    | _, _ => False
  | none => False
def maxVc (f : Int → Int → Int) (k : IntKind) (a : Int) : List AV → (AV → Prop) → Prop
  | [], K => K (.int k a)
  | .int _ b :: r, K => maxVc f k (f a b) r K
  | _ :: _, _ => False
def max2 (x y : Int) : Int := if y > x then y else x
def min2 (x y : Int) : Int := if y < x then y else x

/-! ### Maps -/
/-- How keys are held against each other: a whole number, or a string; or structs of plain fields. -/
inductive KC where
  | one (s : Sh) | many (ss : List Sh)
def eqK (c : KC) (a b : AV) : Option Bool :=
  match c, a, b with
  | .one s, a, b => eq1 s a b
  | .many ss, .agg as, .agg bs => eqS ss as bs true
  | _, _, _ => none
def mapFind (c : KC) (k : AV) : List (AV × AV × Nat) → Nat → Option (Option (Nat × AV))
  | [], _ => some none
  | e :: es, i =>
    match eqK c k e.1 with
    | some true => some (some (i, e.2.1))
    | some false => mapFind c k es (i + 1)
    | none => none
/-- A map's key is a whole number, a string, or a struct of plain fields; the key at hand is one. -/
def keyOk (C : Cx) (kt : TypeId) (k : AV) (K : KC → Prop) : Prop :=
  match C.ti kt with
  | some ti =>
    match ti.d, k with
    | .int kd, .int _ _ => K (.one (.int kd))
    | .str, .str _ => K (.one .str)
    | .struct _, .agg cs => if ti.plain then (match eqS ti.sh cs cs true with | some _ => K (.many ti.sh) | none => False) else False
    | _, _ => False
  | none => False
def mapTys (C : Cx) (t : TypeId) (K : TypeId → TI → Prop) : Prop :=
  match C.ti t with
  | some ti =>
    match ti.d with
    | .map k e => match C.ti e with
      | some te => K k te
      | none => False
    | _ => False
  | none => False
def lookupVc (C : Cx) (t : TypeId) (x k : AV) (ok : Bool) (σ : AH) (K : AV → Prop) : Prop :=
  mapTys C t fun kt te => keyOk C kt k fun sh =>
    match x with
    | .map none => K (if ok then .tuple [zeroAV te, .bool false] else zeroAV te)
    | .map (some r) => ∃ es clock, σ.get r = some (.map es clock) ∧
      ∃ res, mapFind sh k es 0 = some res ∧
      (match res with
       | some (_, v) => K (if ok then .tuple [v, .bool true] else v)
       | none => K (if ok then .tuple [zeroAV te, .bool false] else zeroAV te))
    | _ => False
def mapPutVc (C : Cx) (t : TypeId) (x k v : AV) (σ : AH) (K : AH → Prop) : Prop :=
  mapTys C t fun kt _ => keyOk C kt k fun sh =>
    match x with
    | .map (some r) => ∃ es clock, σ.get r = some (.map es clock) ∧
      ∃ res, mapFind sh k es 0 = some res ∧
      (match res with
       | some (i, _) => K (σ.set r (.map (es.modify i fun e => (k, v, e.2.2)) clock))
       | none => K (σ.set r (.map (es ++ [(k, v, clock)]) (clock + 1))))
    | _ => False
def mapEntryVc (C : Cx) (t : TypeId) (x k : AV) (σ : AH) (K : AV → AH → Prop) : Prop :=
  mapTys C t fun kt te => keyOk C kt k fun sh =>
    match x with
    | .map (some r) => ∃ es clock, σ.get r = some (.map es clock) ∧
      ∃ res, mapFind sh k es 0 = some res ∧
      (match res with
       | some (i, v) => K (.tuple [v, .int .i64 (((es[i]?).map (·.2.2)).getD 0 : Nat)]) (σ.set r (.map (es.modify i fun e => (k, e.2)) clock))
       | none => K (.tuple [zeroAV te, .int .i64 clock]) (σ.set r (.map (es ++ [(k, zeroAV te, clock)]) (clock + 1))))
    | _ => False
def entryStoreVc (x stamp v : AV) (σ : AH) (K : AH → Prop) : Prop :=
  match x, stamp with
  | .map (some r), .int _ s => ∃ es clock, σ.get r = some (.map es clock) ∧
      ∃ i, es.findIdx? (fun e => (e.2.2 : Int) == s) = some i ∧ K (σ.set r (.map (es.modify i fun e => (e.1, v, e.2.2)) clock))
  | _, _ => False
def deleteVc (C : Cx) (ts : List TypeId) (xs : List AV) (σ : AH) (K : AV → AH → Prop) : Prop :=
  match ts, xs with
  | t :: _, .map (some r) :: k :: _ => mapTys C t fun kt _ => keyOk C kt k fun sh =>
      ∃ es clock, σ.get r = some (.map es clock) ∧
      ∃ res, mapFind sh k es 0 = some res ∧
      (match res with
       | some (i, _) => K (.tuple []) (σ.set r (.map (es.eraseIdx i) clock))
       | none => K (.tuple []) σ)
  | _, _ => False

/-! ### Strings gone through -/
def rangeVc (C : Cx) (t : TypeId) (x : AV) (σ : AH) (K : AV → AH → Prop) : Prop :=
  match C.ti t, x with
  | some ti, .str s => if ti.d = .str then K (.ptr (some (σ.next, 0))) (σ.alloc (.siter s 0)) else False
  | some ti, .map m => match ti.d with
    | .map _ _ => (match m with
      | none => K (.ptr (some (σ.next, 0))) (σ.alloc (.miter none 0 [] 0))
      | some r => ∃ es clock, σ.get r = some (.map es clock) ∧ K (.ptr (some (σ.next, 0))) (σ.alloc (.miter (some r) clock [] clock)))
    | _ => False
  | _, _ => False
/-- The entries that a map has yet to hand out. -/
def leftA (es : List (AV × AV × Nat)) (seen : List Nat) : List (AV × AV × Nat) := es.filter fun e => !seen.contains e.2.2
def nextVc (x : AV) (isString : Bool) (σ : AH) (K : AV → AH → Prop) : Prop :=
  match x, isString with
  | .ptr (some (r, 0)), true => ∃ s pos, σ.get r = some (.siter s pos) ∧
      (if pos < s.length then
        K (.tuple [.bool true, .int .i64 pos, .int .i32 (Utf8.decode ⟨s.toArray⟩ pos).1]) (σ.set r (.siter s (pos + (Utf8.decode ⟨s.toArray⟩ pos).2)))
       else K (.tuple [.bool false]) σ)
  | .ptr (some (r, 0)), false => ∃ m since seen last, σ.get r = some (.miter m since seen last) ∧
      (match m with
       | none => K (.tuple [.bool false]) (σ.kill r)
       | some q => ∃ es, σ.get q = some (.map es since) ∧ last = since ∧ (es.all fun e => decide (e.2.2 < since)) = true ∧
         (match leftA es seen with
          | [] => K (.tuple [.bool false]) (σ.kill r)
          | l => ∀ e, e ∈ l → K (.tuple [.bool true, e.1, e.2.1]) (σ.set r (.miter (some q) since (seen ++ [e.2.2]) last))))
  | _, _ => False
def assertVc (C : Cx) (x : AV) (t : TypeId) (ok : Bool) (K : AV → Prop) : Prop :=
  match C.ti t, x with
  | some ti, .iface t' v => match ti.d with
    | .iface => False
    | _ => if t' = t then K (if ok then .tuple [v, .bool true] else v) else if ok then K (.tuple [zeroAV ti, .bool false]) else False
  | some ti, .nilIface => match ti.d with
    | .iface => False
    | _ => if ok then K (.tuple [zeroAV ti, .bool false]) else False
  | _, _ => False
end Go.Proofs.YthpngchngnaloaaGreatDoor.Vm
