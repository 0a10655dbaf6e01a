/- What code asks of the abstract machine. -/
import Derived.Test.YthpngchngnaloaaGreatDoorVmA
import Derived.RangeFuncLeaves
import Derived.OrdersIn
import Derived.Test.YthpngchngnaloaaGreatDoorVmD
namespace Go.Proofs.YthpngchngnaloaaGreatDoor.Vm
open RowKit (Below)

/-- A call, at the machine: a function with a body is entered, another one answers at once. -/
def CallR (P : Program) (g : FuncId) (args : Array Value) (w : World) (R : Value → World → Prop) : Prop :=
  match (callFunc g args).run P w with
  | .ok (.value v) w' => R v w'
  | .ok (.enter f as) w' => Calls P f as w' fun
      | .returned v, w'' => R v w''
      | _, _ => False
  | _ => False

/-- A call, in the abstract machine. -/
def ACall (P : Program) (gl : List Nat) (g : FuncId) (args : List AV) (σ : AH) (K : AV → AH → Prop) : Prop :=
  ∀ (G : Base) (ι : IM) (w : World) (args' : List Value), Rel G ι σ w → Globs ι gl → VRelL ι args args' →
    CallR P g args'.toArray w fun v' w' => ∃ v σ' ι', Rel G ι' σ' w' ∧ Ext σ.next ι ι' ∧ σ.next ≤ σ'.next ∧ VRel ι' v v' ∧ K v σ'

/-- The fence that lets all in; for a round's frame, too. -/
def fw (r : Option Nat) : Fence := { Fence.wide with round := r }
/-- A call of what a loop over a function hands to that function. -/
def YieldR (P : Program) (l : Nat) (args : Array Value) (w : World) (R : Value → World → Prop) : Prop :=
  match (Instr.yield l args).run P w with
  | .ok (.round l' f tmps assign body) w' => RoundIn Fence.wide 0 P l' f tmps assign body w' fun
      | .returned v, w'' => R v w''
      | _, _ => False
  | _ => False
def AYield (P : Program) (gl : List Nat) (b : Nat) (args : List AV) (σ : AH) (K : AV → AH → Prop) : Prop :=
  ∀ (G : Base) (ι : IM) (w : World) (args' : List Value) (p : Place), Rel G ι σ w → Globs ι gl → VRelL ι args args' → ι b = some p →
    YieldR P p.blk args'.toArray w fun v' w' => ∃ v σ' ι', Rel G ι' σ' w' ∧ Ext σ.next ι ι' ∧ σ.next ≤ σ'.next ∧ VRel ι' v v' ∧ K v σ'

/-! ### Results -/
def oneK (K : AV → Prop) (b : Bool) (ss : List Sh) (v : AV) : Prop :=
  if b then ∃ cs, v = .agg cs ∧ shsK ss cs fun r => K (.agg r)
  else match ss with
    | [s] => shK K s v
    | _ => K v
theorem oneK_imp {K : AV → Prop} {b : Bool} {ss : List Sh} {v : AV} (h : oneK K b ss v) : K v := by
  unfold oneK at h
  split at h
  · obtain ⟨cs, rfl, h⟩ := h; exact shsK_imp (K := fun r => K (.agg r)) h
  · split at h
    · exact shK_imp h
    · exact h
def manyK : List (Bool × List Sh) → List AV → (List AV → Prop) → Prop
  | [], vs, K => vs = [] ∧ K []
  | (b, ss) :: r, vs, K => ∃ v rest, vs = v :: rest ∧ oneK (fun v => manyK r rest fun l => K (v :: l)) b ss v
theorem manyK_imp : ∀ {l : List (Bool × List Sh)} {vs : List AV} {K : List AV → Prop}, manyK l vs K → K vs
  | [], vs, K, h => by obtain ⟨rfl, h⟩ := h; exact h
  | (b, ss) :: r, vs, K, h => by
    obtain ⟨v, rest, rfl, h⟩ := h
    exact manyK_imp (K := fun l => K (v :: l)) (oneK_imp h)
def resK (r : Option (List (Bool × List Sh))) (v : AV) (K : AV → Prop) : Prop :=
  match r with
  | none => K v
  | some [(b, ss)] => oneK K b ss v
  | some l => ∃ vs, v = .tuple vs ∧ manyK l vs fun vs => K (.tuple vs)
theorem resK_imp {r : Option (List (Bool × List Sh))} {v : AV} {K : AV → Prop} (h : resK r v K) : K v := by
  unfold resK at h
  split at h
  · exact h
  · exact oneK_imp h
  · obtain ⟨vs, rfl, h⟩ := h; exact manyK_imp (K := fun vs => K (.tuple vs)) h

/-! ### Operations -/
def callVc (C : Cx) (gl : List Nat) (n : Nat) (c : Call) (t : TypeId) (fr : Fr) (σ : AH) (K : AV → AH → Prop) : Prop :=
  match c.callee with
  | .value f =>
    match ev gl n fr f with
    | .func g first cap => ACall C.P gl g (first ++ c.args.toList.map (ev gl n fr) ++ cap) σ fun v σ' => resK (C.res t) v fun v => K v σ'
    | .yield b => AYield C.P gl b (c.args.toList.map (ev gl n fr)) σ fun v σ' => resK (C.res t) v fun v => K v σ'
    | _ => False
  | .invoke _ _ => False
  | .builtin b =>
    match b with
    | .append => appendVc C c.argTypes.toList (c.args.toList.map (ev gl n fr)) σ K
    | .copy => copyVc C c.argTypes.toList (c.args.toList.map (ev gl n fr)) σ K
    | .clear => clearVc C c.argTypes.toList (c.args.toList.map (ev gl n fr)) σ K
    | .delete => deleteVc C c.argTypes.toList (c.args.toList.map (ev gl n fr)) σ K
    | .len => match c.argTypes.toList, c.args.toList with
      | t :: _, x :: _ => lenVc C t (ev gl n fr x) σ fun v => K v σ
      | _, _ => False
    | .cap => match c.argTypes.toList, c.args.toList with
      | t :: _, x :: _ => match C.ti t, ev gl n fr x with
        | some ti, .slice a m c => (match ti.d with
          | .slice _ => capVc a m c σ K
          | _ => False)
        | _, _ => False
      | _, _ => False
    | .max => match c.args.toList.map (ev gl n fr) with
      | .int k a :: r => maxVc max2 k a r fun v => K v σ
      | _ => False
    | .min => match c.args.toList.map (ev gl n fr) with
      | .int k a :: r => maxVc min2 k a r fun v => K v σ
      | _ => False
    | _ => False

def optE (gl : List Nat) (n : Nat) (fr : Fr) : Option Operand → Option AV
  | some x => some (ev gl n fr x)
  | none => none

def opVc (C : Cx) (gl : List Nat) (wide : Bool) (n : Nat) (o : Oper) (fr : Fr) (σ : AH) (K : AV → AH → Prop) : Prop :=
  match o.op with
  | .move x | .assign x => K (ev gl n fr x) σ
  | .pick c a b => match ev gl n fr c with
    | .bool t => cond t (K (ev gl n fr a) σ) (K (ev gl n fr b) σ)
    | _ => False
  | .alloc t => match C.ti t with
    | some ti => newVc ti.zero σ K
    | none => False
  | .box _ x => newVc (ev gl n fr x).cells σ K
  | .build t ps => buildVc C t (ps.toList.map fun p => (p.1, ev gl n fr p.2)) fun v => K v σ
  | .buildSlice t len ps => buildSliceVc C t len (ps.toList.map fun p => (p.1, ev gl n fr p.2)) σ K
  | .load t a => loadVc C t (ev gl n fr a) σ fun v => K v σ
  | .store t a x => storeVc C t (ev gl n fr a) (ev gl n fr x) σ fun σ' => K (.tuple []) σ'
  | .nilCheck x => match ev gl n fr x with
    | .ptr a => atP a fun b o => K (.ptr (some (b, o))) σ
    | .func f fs cs => K (.func f fs cs) σ
    | _ => False
  | .binOp op t x y _ => binVc C op t (ev gl n fr x) (ev gl n fr y) fun v => K v σ
  | .unOp op _ x => unVc op (ev gl n fr x) fun v => K v σ
  | .convert s d x => convVc C s d (ev gl n fr x) σ K
  | .makeInterface t x => match C.ti t with
    | some ti => (match ti.d with
      | .iface => False
      | .other => False
      | _ => K (.iface t (ev gl n fr x)) σ)
    | none => False
  | .makeFunc fn first cap => match fn with
    | .func f => K (.func f (first.toList.map (ev gl n fr)) (cap.toList.map (ev gl n fr))) σ
    | _ => False
  | .makeMap t r => match r with
    | none => K (.map (some σ.next)) (σ.alloc (.map [] 0))
    | some x => match ev gl n fr x, C.ti t with
      | .int _ _, some ti => (match ti.d with
        | .map _ _ => K (.map (some σ.next)) (σ.alloc (.map [] 0))
        | _ => False)
      | _, _ => False
  | .makeSlice t l c => makeSliceVc C t (ev gl n fr l) (ev gl n fr c) σ K
  | .slice t x lo hi mx => sliceVc C wide t (ev gl n fr x) (optE gl n fr lo) (optE gl n fr hi) (optE gl n fr mx) σ fun v => K v σ
  | .fieldAddr s x f => fieldAddrVc C s (ev gl n fr x) f fun v => K v σ
  | .field t x f => fieldVc C t (ev gl n fr x) f fun v => K v σ
  | .indexAddr t x i => indexAddrVc C t (ev gl n fr x) (ev gl n fr i) fun v => K v σ
  | .index t x i => indexVc C t (ev gl n fr x) (ev gl n fr i) fun v => K v σ
  | .lookup t x i ok => lookupVc C t (ev gl n fr x) (ev gl n fr i) ok σ fun v => K v σ
  | .mapUpdate t m k x | .insert t m k x => mapPutVc C t (ev gl n fr m) (ev gl n fr k) (ev gl n fr x) σ fun σ' => K (.tuple []) σ'
  | .mapEntry t m k => mapEntryVc C t (ev gl n fr m) (ev gl n fr k) σ K
  | .entryStore _ m s x => entryStoreVc (ev gl n fr m) (ev gl n fr s) (ev gl n fr x) σ fun σ' => K (.tuple []) σ'
  | .range t x => rangeVc C t (ev gl n fr x) σ K
  | .next it b => nextVc (ev gl n fr it) b σ K
  | .typeAssert x _ t ok => assertVc C (ev gl n fr x) t ok fun v => K v σ
  | .extract t i => match ev gl n fr t with
    | .tuple vs => (match vs[i]? with
      | some v => K v σ
      | none => False)
    | _ => False
  | .call c => callVc C gl n c o.type fr σ K
  | _ => False

/-- An operation that is carried out only where another one has yielded something. -/
def guardK (n : Nat) (ops : Array Oper) (fr : Fr) (g : Option (Nat × Bool)) (K : Bool → Fr → Prop) : Prop :=
  match g with
  | none => K true fr
  | some (j, want) =>
    match ops[j]? with
    | some oj =>
      match oj.dst with
      | some t =>
        if t < n then
          match fr t with
          | .bool b => cond b (K want (setFr fr (some t) (.bool true))) (K (!want) (setFr fr (some t) (.bool false)))
          | .tuple [] => K false fr
          | _ => False
        else False
      | none => False
    | none => False

/-- Operations in the order of the text. -/
def opsVc (C : Cx) (gl : List Nat) (wide : Bool) (n : Nat) (ops : Array Oper) (K : Fr → AH → Prop) : List Nat → Fr → AH → Prop
  | [], fr, σ => K fr σ
  | i :: is, fr, σ =>
    match ops[i]? with
    | none => False
    | some o => guardK n ops fr o.guard fun run fr =>
      cond run (opVc C gl wide n o fr σ fun v σ' => opsVc C gl wide n ops K is (setFr fr o.dst v) σ')
        (opsVc C gl wide n ops K is (setFr fr o.dst (.tuple [])) σ)

/-! ### Operations whose order is open -/
/-- What an operation that was carried out hangs on: nothing; cells that it has read; a block that it has laid. -/
inductive Foot where
  | none | rng (a : Option (Nat × Nat)) (n : Nat) | blk (b : Nat)
def Foot.same (σ σ' : AH) : Foot → Prop
  | .none => True
  | .rng a n => atP a fun b o => σ'.range b o n = σ.range b o n
  | .blk b => σ'.get b = σ.get b
inductive Cls where
  | pure | load | new | heavy
  deriving DecidableEq
/-- How an operation stands to others whose order is open. -/
def cls (C : Cx) (o : Oper) : Cls :=
  match o.op with
  | .move _ | .assign _ | .pick .. | .build .. | .nilCheck _ | .binOp .. | .unOp .. | .makeInterface .. | .makeFunc .. | .slice .. | .fieldAddr .. | .field .. | .indexAddr .. | .index .. | .extract .. => .pure
  | .convert _ d _ => (match C.ti d with
    | some ti => if ti.d.isInt then .pure else .heavy
    | none => .heavy)
  | .call c => (match c.callee with
    | .builtin .len => (match c.argTypes.toList with
      | t :: _ => (match C.ti t with
        | some ti => (match ti.d with
          | .slice _ | .str => .pure
          | _ => .heavy)
        | none => .heavy)
      | [] => .heavy)
    | .builtin .max | .builtin .min => .pure
    | _ => .heavy)
  | .load .. | .lookup .. => .load
  | .alloc _ | .box .. | .buildSlice .. => .new
  | _ => .heavy
def footOf (C : Cx) (gl : List Nat) (n : Nat) (o : Oper) (fr : Fr) (σ : AH) : Foot :=
  match o.op with
  | .load t a => (match ev gl n fr a, C.ti t with
    | .ptr p, some ti => .rng p (if ti.d.isAgg then ti.size else 1)
    | _, _ => .none)
  | .lookup _ x _ _ => (match ev gl n fr x with
    | .map (some r) => .blk r
    | _ => .none)
  | .alloc _ | .box .. | .buildSlice .. => .blk σ.next
  | _ => .none
/-- Of what was carried out ahead, and need not have been, nothing has turned. -/
def obls (pr : List Nat) (σ σ' : AH) : List (Nat × Foot) → Prop
  | [] => True
  | (j, f) :: r => if pr.contains j then obls pr σ σ' r else Foot.same σ σ' f ∧ obls pr σ σ' r
/-- All operations that one waits for, directly or not. -/
def waitsFor (ops : List Oper) : List (List Nat) :=
  ops.foldl (init := []) fun acc o => acc ++ [o.after.toList.foldl (fun s e => if Region.binds .any e then (e.on :: acc.getD e.on []) ++ s else s) []]

def drawVc (C : Cx) (gl : List Nat) (n : Nat) (ops : Array Oper) (pr : List (List Nat)) (K : Fr → AH → Prop) : List Nat → List (Nat × Foot) → Fr → AH → Prop
  | [], _, fr, σ => K fr σ
  | i :: is, log, fr, σ =>
    match ops[i]? with
    | none => False
    | some o => guardK n ops fr o.guard fun run fr =>
      cond run
        (match cls C o with
         | .heavy => opVc C gl false n o fr σ fun v σ' => obls (pr.getD i []) σ σ' log ∧ drawVc C gl n ops pr K is log (setFr fr o.dst v) σ'
         | .pure => opVc C gl false n o fr σ fun v σ' => drawVc C gl n ops pr K is log (setFr fr o.dst v) σ'
         | _ => opVc C gl false n o fr σ fun v σ' => drawVc C gl n ops pr K is ((i, footOf C gl n o fr σ) :: log) (setFr fr o.dst v) σ')
        (drawVc C gl n ops pr K is log (setFr fr o.dst (.tuple [])) σ)

/-- The order in which all that may be carried out is, as early as may be: what changes memory as late as may be. -/
def eager (C : Cx) (ops : Array Oper) : Nat → List Nat → List Nat
  | 0, done => done.reverse
  | k + 1, done =>
    let ready := (List.range ops.size).filter fun i => !done.contains i && (match ops[i]? with
      | some o => o.after.toList.all fun e => !Region.binds .any e || done.contains e.on
      | none => false)
    match ready.find? (fun i => match ops[i]? with | some o => cls C o != .heavy | none => false) with
    | some i => eager C ops k (i :: done)
    | none => match ready with
      | i :: _ => eager C ops k (i :: done)
      | [] => done.reverse

/-- The plan is an order that the operations may be in, and of what it leaves open nothing hangs on the order. -/
def planStep (C : Cx) (ops : Array Oper) (wt : List (List Nat)) (pre : List Nat) (i : Nat) (post : List Nat) (o : Oper) : Bool :=
  !pre.contains i &&
  (o.after.toList.all fun e => !Region.binds .any e || pre.contains e.on) &&
  ((wt.getD i []).all fun j => o.after.toList.any fun e => Region.binds .any e && (e.on == j || (wt.getD e.on []).contains j)) &&
  (cls C o != .heavy || post.all fun k => (wt.getD k []).contains i) &&
  (pre.all fun j => match ops[j]? with
    | some oj => (match oj.dst with | some t => o.dst != some t | none => true)
    | none => false) &&
  ((o.looksAt ops).all fun t => (pre ++ post).all fun j => match ops[j]? with
    | some oj => (match oj.dst with | some t' => t' != t || (wt.getD i []).contains j || (wt.getD j []).contains i | none => true)
    | none => false) &&
  (match o.op with | .select .. => false | _ => true)
def planGo (C : Cx) (ops : Array Oper) (wt : List (List Nat)) : List Nat → List Nat → Bool
  | _, [] => true
  | pre, i :: is =>
    match ops[i]? with
    | some o => planStep C ops wt pre i is o && planGo C ops wt (pre ++ [i]) is
    | none => false
def planOK (C : Cx) (ops : Array Oper) (wt : List (List Nat)) (plan : List Nat) : Bool :=
  (List.range ops.size).all (fun i => plan.contains i) && planGo C ops wt [] plan
def drawAll (C : Cx) (gl : List Nat) (n : Nat) (ops : Array Oper) (wt : List (List Nat)) (plan : List Nat) (K : Fr → AH → Prop) (fr : Fr) (σ : AH) : Prop :=
  if planOK C ops wt plan then drawVc C gl n ops wt K plan [] fr σ else False

/-! ### Code -/
def loopVc (F : (Fr → AH → Prop) → Fr → AH → Prop) (fr : Fr) (σ : AH) : Prop :=
  ∃ (I : Nat → Fr → AH → Prop) (k : Nat), I k fr σ ∧ ∀ k fr σ, I k fr σ → F (fun fr' σ' => ∃ k', k' < k ∧ I k' fr' σ') fr σ

inductive AExit where
  | normal | exit (id : Nat) | ret
  deriving DecidableEq
def AExit.then (next : Fr → AH → Prop) (Q : AExit → Fr → AH → Prop) : AExit → Fr → AH → Prop
  | .normal, fr, σ => next fr σ
  | e, fr, σ => Q e fr σ
def AExit.inBlock (id : Nat) (Q : AExit → Fr → AH → Prop) : AExit → Fr → AH → Prop
  | .exit id', fr, σ => if id' = id then Q .normal fr σ else Q (.exit id') fr σ
  | e, fr, σ => Q e fr σ

/-- A function that a loop may go over: it has a body. -/
def hasBody (P : Program) (g : FuncId) : Bool :=
  match P.funcs[g]? with
  | some fn => fn.body.isSome && !(fn.name == "runtime.NumGoroutine")
  | none => false
/-- Behind a loop over a function: what a round has left to do. -/
def afterLoop (Q : AExit → Fr → AH → Prop) (fr : Fr) (b : Nat) (σ : AH) : Prop :=
  match σ.get b with
  | some (.loop .busy _ _ _ _ _) => False
  | some (.loop _ pe _ _ _ _) => (match pe with
    | none => Q .normal fr (σ.kill b)
    | some .ret => Q .ret fr (σ.kill b)
    | some (.exit id) => Q (.exit id) fr (σ.kill b)
    | _ => False)
  | _ => False
def rangeFuncVc (C : Cx) (gl : List Nat) (n : Nat) (g : Operand) (ps : Array Nat) (assign body : Code) (Q : AExit → Fr → AH → Prop) (fr : Fr) (σ : AH) : Prop :=
  match ev gl n fr g with
  | .func gid first cap => hasBody C.P gid = true ∧
      ACall C.P gl gid (first ++ [.yield σ.next] ++ cap) (σ.alloc (.loop .ready none ((List.range n).map fr) ps assign body)) fun _ σ' => afterLoop Q fr σ.next σ'
  | _ => False

def codeVc (C : Cx) (gl : List Nat) (wide : Bool) (n : Nat) : Code → (AExit → Fr → AH → Prop) → Fr → AH → Prop
  | .skip, Q, fr, σ => Q .normal fr σ
  | .region _ ops draw, Q, fr, σ =>
    if draw then drawAll C gl n ops (waitsFor ops.toList) (eager C ops ops.size []) (Q .normal) fr σ
    else opsVc C gl wide n ops (Q .normal) (List.range ops.size) fr σ
  | .seq a b, Q, fr, σ => codeVc C gl wide n a (AExit.then (codeVc C gl wide n b Q) Q) fr σ
  | .cond c x y, Q, fr, σ => match ev gl n fr c with
    | .bool b => cond b (codeVc C gl wide n x Q fr σ) (codeVc C gl wide n y Q fr σ)
    | _ => False
  | .block id c, Q, fr, σ => codeVc C gl wide n c (AExit.inBlock id Q) fr σ
  | .loop c, Q, fr, σ => loopVc (fun K => codeVc C gl wide n c (AExit.then K Q)) fr σ
  | .exit id, Q, fr, σ => Q (.exit id) fr σ
  | .ret, Q, fr, σ => Q .ret fr σ
  | .label _, Q, fr, σ => Q .normal fr σ
  | .rangeFunc g ps assign body, Q, fr, σ => rangeFuncVc C gl n g ps assign body Q fr σ
  | _, _, _, _ => False
/-- Code without a loop over a function. -/
def flatCode : Code → Bool
  | .seq a b | .cond _ a b => flatCode a && flatCode b
  | .block _ c | .loop c => flatCode c
  | .rangeFunc .. | .scope _ => false
  | _ => true

/-! ### Rounds -/
def setAll (fr : Fr) : List (Nat × AV) → Fr
  | [] => fr
  | (t, v) :: l => setAll (setFr fr (some t) v) l
def initL (args : List AV) : Fr := fun t => match args[t]? with
  | some v => v
  | none => .tuple []
/-- What a call of yield asks: the assignment to the loop's left sides; the body; whether it goes on. -/
def roundVc (C : Cx) (gl : List Nat) (wide : Bool) (b : Nat) (args : List AV) (σ : AH) (K : AV → AH → Prop) : Prop :=
  match σ.get b with
  | some (.loop .ready _ frs ps assign body) =>
    if args.length = ps.size ∧ flatCode assign = true ∧ flatCode body = true then
      codeVc C gl wide frs.length assign (fun e fr1 σ1 => match e with
        | .normal => (match σ1.get b with
          | some (.loop .ready pe frs' ps' a' b') =>
            codeVc C gl wide frs.length body (fun e fr2 σ2 => match σ2.get b with
              | some (.loop _ _ frs' ps' a' b') => (match e with
                | .normal => K (.bool true) (σ2.set b (.loop .ready none frs' ps' a' b'))
                | .ret => K (.bool false) (σ2.set b (.loop .done (some .ret) frs' ps' a' b'))
                | .exit id => K (.bool false) (σ2.set b (.loop .done (some (.exit id)) frs' ps' a' b')))
              | _ => False) fr1 (σ1.set b (.loop .busy pe frs' ps' a' b'))
          | _ => False)
        | _ => False) (setAll (initL frs) (ps.toList.zip args)) σ
    else False
  | _ => False
end Go.Proofs.YthpngchngnaloaaGreatDoor.Vm

/-! An operation of the model does what the abstract machine asks. -/
namespace Go.Proofs.YthpngchngnaloaaGreatDoor.Vm
open RowKit (Below)

/-- What an operation comes to. -/
def OpRun (P : Program) (o : Oper) (ρ : Operand → Value) (w : World) (R : Value → World → Prop) : Prop :=
  match (execOp ρ o).run P w with
  | .ok (.value v) w' => R v w'
  | .ok .skip w' => R undef w'
  | .ok (.enter f args) w' => Calls P f args w' fun
      | .returned v, w'' => R v w''
      | _, _ => False
  | .ok (.round l f tmps assign body) w' => RoundIn Fence.wide 0 P l f tmps assign body w' fun
      | .returned v, w'' => R v w''
      | _, _ => False
  | _ => False
theorem OpRun.wp {P : Program} {o : Oper} {a : Act} {w : World} {R : Value → World → Prop} {next : Act → World → Prop} {Q : Exit → Act → World → Prop} {rd : Option Nat} (h : OpRun P o a.eval w R) (hn : ∀ v w', R v w' → next (a.put o.dst v) w') :
    o.wpIn (fw rd) 0 P a w next Q := by
  have hsem : Oper.semAt (fw rd).round a.eval o = execOp a.eval o := by
    by_cases hd : ∀ c, o.op ≠ .defer c
    · exact Oper.semAt_eq _ _ _ hd
    · exfalso
      simp only [ne_eq, Classical.not_forall, Classical.not_not] at hd
      obtain ⟨c, hc⟩ := hd
      unfold OpRun at h
      have e : execOp a.eval o = (do pure (.defer (← resolve a.eval c o.type)) : Sem Next) := by unfold execOp; rw [hc]
      rw [e, Sem.run_bind] at h
      cases hr : (resolve a.eval c o.type).run P w with
      | ok d w' => rw [hr] at h; exact h
      | halt x w' => rw [hr] at h; exact h
  refine ⟨fun f _ => trivial, ?_⟩
  rw [hsem]
  unfold OpRun at h
  split at h
  · rename_i v w' e; rw [e]; exact hn _ _ h
  · rename_i w' e; rw [e]; exact hn _ _ h
  · rename_i f args w' e
    rw [e]
    refine ⟨(fun hx => by simp [fw, Fence.wide] at hx), ?_⟩
    refine CallsIn.mono (F := fw rd) (n := 0 - 1) (callsIn_wide (n := 0 - 1).2 h) fun e w'' he => ?_
    cases e with
    | returned v => exact hn _ _ he
    | panicked c => cases he
    | outgrown => cases he
  · rename_i l f tmps as body w' e
    rw [e]
    refine ⟨(fun hx => by simp [fw, Fence.wide] at hx), ?_⟩
    refine RoundIn.mono (F := fw rd) (n := 0 - 1) h fun e w'' he => ?_
    cases e with
    | returned v => exact hn _ _ he
    | panicked c => cases he
    | outgrown => cases he
  · cases h
theorem OpRun.mono {P : Program} {o : Oper} {ρ : Operand → Value} {w : World} {R R' : Value → World → Prop} (h : OpRun P o ρ w R) (hn : ∀ v w', R v w' → R' v w') : OpRun P o ρ w R' := by
  unfold OpRun at h ⊢
  split at h
  · exact hn _ _ h
  · exact hn _ _ h
  · refine Calls.mono h fun e w'' he => ?_
    cases e with
    | returned v => exact hn _ _ he
    | panicked c => cases he
    | outgrown => cases he
  · refine RoundIn.mono h fun e w'' he => ?_
    cases e with
    | returned v => exact hn _ _ he
    | panicked c => cases he
    | outgrown => cases he
  · cases h

section
variable {C : Cx} {G : Base} {ι : IM} {σ : AH} {w : World} {gl : List Nat} {n : Nat} {fr : Fr} {ρ : Operand → Value}

/-- What operands hold. -/
def Ops (ι : IM) (gl : List Nat) (n : Nat) (fr : Fr) (ρ : Operand → Value) (l : List Operand) : Prop := ∀ x, x ∈ l → VRel ι (ev gl n fr x) (ρ x)

/-- What is handed on behind an operation. -/
def After (G : Base) (ι : IM) (σ : AH) (K : AV → AH → Prop) (v' : Value) (w' : World) : Prop :=
  ∃ v σ' ι', Rel G ι' σ' w' ∧ Ext σ.next ι ι' ∧ σ.next ≤ σ'.next ∧ VRel ι' v v' ∧ K v σ'

theorem OpRun.of_gives {o : Oper} {s : Sem Value} {K : AV → AH → Prop} (he : execOp ρ o = (do pure (.value (← s)) : Sem Next)) (h : Gives G ι σ C.P w s K) : OpRun C.P o ρ w (After G ι σ K) := by
  obtain ⟨v, v', σ', ι', w', hrun, h1, h2, h3, h4, h5⟩ := h
  unfold OpRun
  rw [he]
  simp only [Sem.run_bind, hrun, Result.andThen_ok, Sem.run_pure]
  exact ⟨v, σ', ι', h1, h2, h3, h4, h5⟩
theorem OpRun.of_pure {o : Oper} {s : Sem Value} {K : AV → AH → Prop} (hr : Rel G ι σ w) (he : execOp ρ o = (do pure (.value (← s)) : Sem Next)) (h : ∃ v v', s.run C.P w = .ok v' w ∧ VRel ι v v' ∧ K v σ) : OpRun C.P o ρ w (After G ι σ K) := by
  obtain ⟨v, v', h1, h2, h3⟩ := h
  exact .of_gives he (.same hr h1 h2 h3)
theorem OpRun.of_value {o : Oper} {K : AV → AH → Prop} {v : AV} {v' : Value} (hr : Rel G ι σ w) (he : execOp ρ o = (pure (.value v') : Sem Next)) (hv : VRel ι v v') (hK : K v σ) : OpRun C.P o ρ w (After G ι σ K) := by
  unfold OpRun
  rw [he]
  exact ⟨v, σ, ι, hr, Ext.refl _ _, Nat.le_refl _, hv, hK⟩
theorem OpRun.of_unit {o : Oper} {s : Sem Unit} {K : AV → AH → Prop} (he : execOp ρ o = (do s; pure .skip : Sem Next)) (h : ∃ σ' w', s.run C.P w = .ok () w' ∧ Rel G ι σ' w' ∧ σ'.next = σ.next ∧ K (.tuple []) σ') : OpRun C.P o ρ w (After G ι σ K) := by
  obtain ⟨σ', w', hrun, h1, h2, h3⟩ := h
  unfold OpRun
  rw [he]
  simp only [Sem.run_bind, hrun, Result.andThen_ok, Sem.run_pure]
  refine ⟨.tuple [], σ', ι, h1, Ext.refl _ _, by omega, ?_, h3⟩
  simp only [VRel]
  exact ⟨[], rfl, .nil⟩

theorem ops_list : ∀ {l : List Operand}, Ops ι gl n fr ρ l → VRelL ι (l.map (ev gl n fr)) (l.map ρ)
  | [], _ => .nil
  | x :: l, h => .cons (h x (by simp)) (ops_list fun y hy => h y (by simp [hy]))
theorem ops_parts : ∀ {l : List (Nat × Operand)}, Ops ι gl n fr ρ (l.map (·.2)) → PRel ι (l.map fun p => (p.1, ev gl n fr p.2)) (l.map fun p => (p.1, ρ p.2))
  | [], _ => .nil
  | (i, x) :: l, h => .cons i (h x (by simp)) (ops_parts fun y hy => h y (by simp [hy]))
theorem ops_opt {x : Option Operand} (h : ∀ y, x = some y → VRel ι (ev gl n fr y) (ρ y)) : ORel ι (optE gl n fr x) (x.map ρ) := by
  cases x with
  | none => trivial
  | some y => exact h y rfl

theorem callVc_sound (hr : Rel G ι σ w) (hgl : Globs ι gl) {o : Oper} {c : Call} {K : AV → AH → Prop} (ho : o.op = .call c) (hops : Ops ι gl n fr ρ o.op.operands.toList) (h : callVc C gl n c o.type fr σ K) :
    OpRun C.P o ρ w (After G ι σ K) := by
  have hargs : Ops ι gl n fr ρ c.args.toList := fun x hx => hops x (by rw [ho]; simp only [Op.operands, Call.operands]; simp [hx])
  have hal := ops_list hargs
  unfold callVc at h
  split at h
  · rename_i f hf
    have hfv : VRel ι (ev gl n fr f) (ρ f) := hops f (by rw [ho]; simp [Op.operands, Call.operands, hf])
    split at h
    case h_3 => cases h
    case h_2 =>
      rename_i b he
      rw [he] at hfv
      simp only [VRel] at hfv
      obtain ⟨p, hp, hρ⟩ := hfv
      have hc := h G ι w _ p hr hgl hal hp
      have hex : (execOp ρ o).run C.P w = (Instr.yield p.blk (c.args.toList.map ρ).toArray).run C.P w := by
        unfold execOp
        rw [ho]
        simp only [resolve, hf, hρ, Deferred.ofValue, Sem.run_bind, Sem.run_pure, Result.andThen_ok, invoke]
        congr 2
        apply Array.ext'
        simp
      unfold OpRun
      rw [hex]
      unfold YieldR at hc
      split at hc
      · rename_i l' f tmps as body w' e
        rw [e]
        refine RoundIn.mono hc fun e w'' he => ?_
        cases e with
        | returned v =>
          obtain ⟨v, σ', ι', h3, h4, h5, h6, h7⟩ := he
          exact ⟨v, σ', ι', h3, h4, h5, h6, resK_imp h7⟩
        | panicked c => cases he
        | outgrown => cases he
      · cases hc
    rename_i g first cap he
    rw [he] at hfv
    simp only [VRel] at hfv
    obtain ⟨fs', cs', hρ, h1, h2⟩ := hfv
    have hc := h G ι w _ hr hgl ((h1.append hal).append h2)
    have hex : (execOp ρ o).run C.P w = (callFunc g (fs' ++ c.args.toList.map ρ ++ cs').toArray).run C.P w := by
      unfold execOp
      rw [ho]
      simp only [resolve, hf, hρ, Deferred.ofValue, Sem.run_bind, Sem.run_pure, Result.andThen_ok, invoke]
      congr 1
      apply congrArg
      apply Array.ext'
      simp
    unfold OpRun
    rw [hex]
    unfold CallR at hc
    split at hc
    · rename_i v w' e
      rw [e]
      obtain ⟨v, σ', ι', h3, h4, h5, h6, h7⟩ := hc
      exact ⟨v, σ', ι', h3, h4, h5, h6, resK_imp h7⟩
    · rename_i f as w' e
      rw [e]
      refine Calls.mono hc fun e w'' he => ?_
      cases e with
      | returned v =>
        obtain ⟨v, σ', ι', h3, h4, h5, h6, h7⟩ := he
        exact ⟨v, σ', ι', h3, h4, h5, h6, resK_imp h7⟩
      | panicked c => cases he
      | outgrown => cases he
    · cases hc
  · cases h
  · rename_i b hb
    have hx : ∀ (s : Array Value → Sem Value), (∀ consts args, builtin b c.argTypes o.type consts args = (do pure (.value (← s args)) : Sem Next)) → Gives G ι σ C.P w (s (c.args.toList.map ρ).toArray) K → OpRun C.P o ρ w (After G ι σ K) := by
      intro s hs hgive
      obtain ⟨v, v', σ', ι', w', hrun, h1, h2, h3, h4, h5⟩ := hgive
      unfold OpRun
      unfold execOp
      rw [ho]
      simp only [resolve, hb, Sem.run_bind, Sem.run_pure, Result.andThen_ok, invoke, hs]
      have e1 : c.args.map ρ = (c.args.toList.map ρ).toArray := by apply Array.ext'; simp
      rw [e1, hrun]
      exact ⟨v, σ', ι', h1, h2, h3, h4, h5⟩
    have ets : c.argTypes.toList.toArray = c.argTypes := by simp
    split at h
    · refine hx (Builtin.append_ c.argTypes o.type) (fun _ _ => rfl) ?_
      have := appendVc_sound (rt := o.type) hr h hal
      rwa [ets] at this
    · refine hx (Builtin.copy_ c.argTypes o.type) (fun _ _ => rfl) ?_
      have := copyVc_sound (rt := o.type) hr h hal
      rwa [ets] at this
    · refine hx (Builtin.clear_ c.argTypes o.type) (fun _ _ => rfl) ?_
      have := clearVc_sound (rt := o.type) hr h hal
      rwa [ets] at this
    · refine hx (Builtin.delete_ c.argTypes o.type) (fun _ _ => rfl) ?_
      have := deleteVc_sound (rt := o.type) hr h hal
      rwa [ets] at this
    · split at h
      case h_2 => cases h
      rename_i t ts x xs ht hxs
      rw [hxs] at hal
      refine hx (Builtin.len_ c.argTypes o.type) (fun _ _ => rfl) ?_
      have := lenVc_sound (rt := o.type) (ts := ts) hr h hal
      rw [← ht, ets, ← hxs] at this
      obtain ⟨v, v', σ', ι', w', hrun, h1, h2, h3, h4, rfl, h5⟩ := this
      exact ⟨v, v', _, ι', w', hrun, h1, h2, h3, h4, h5⟩
    · split at h
      case h_2 => cases h
      rename_i t ts x xs ht hxs
      split at h
      case h_2 => cases h
      rename_i ti a m cp hti hev
      split at h
      case h_2 => cases h
      rename_i e hd
      rw [hxs, List.map_cons, hev] at hal
      refine hx (Builtin.cap_ c.argTypes o.type) (fun _ _ => rfl) ?_
      have := capVc_sound (rt := o.type) (ts := ts) hr hti hd h hal
      rwa [← ht, ets, ← hxs] at this
    · split at h
      case h_2 => cases h
      rename_i k a r hl
      rw [hl] at hal
      refine hx (Builtin.max_ c.argTypes o.type) (fun _ _ => rfl) ?_
      obtain ⟨v, v', h1, h2, h3⟩ := max_sound (C := C) (ts := c.argTypes) (rt := o.type) h hal
      exact .same hr (h1 w) h2 h3
    · split at h
      case h_2 => cases h
      rename_i k a r hl
      rw [hl] at hal
      refine hx (Builtin.min_ c.argTypes o.type) (fun _ _ => rfl) ?_
      obtain ⟨v, v', h1, h2, h3⟩ := min_sound (C := C) (ts := c.argTypes) (rt := o.type) h hal
      exact .same hr (h1 w) h2 h3
    · cases h
end
end Go.Proofs.YthpngchngnaloaaGreatDoor.Vm
