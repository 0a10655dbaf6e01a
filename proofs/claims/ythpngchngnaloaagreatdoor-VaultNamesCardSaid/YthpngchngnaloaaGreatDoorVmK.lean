/- The abstract machine, carried out: operations, regions, code, calls. -/
import Derived.Test.YthpngchngnaloaaGreatDoorVmJ
import Derived.Lib.Bytealg
import Derived.Laws.Externs
namespace Go.Proofs.YthpngchngnaloaaGreatDoor.Vm
noncomputable section
abbrev Outs (α : Type) := Option (List α)
def flat {α β : Type} : List α → (α → Outs β) → Outs β
  | [], _ => some []
  | x :: xs, f => match f x with
    | none => none
    | some a => match flat xs f with
      | none => none
      | some b => some (a ++ b)
theorem flat_mem {α β : Type} {f : α → Outs β} : ∀ {l : List α} {r : List β}, flat l f = some r → ∀ x, x ∈ l → ∃ a, f x = some a ∧ ∀ y, y ∈ a → y ∈ r
  | [], r, h, x, hx => by cases hx
  | y :: ys, r, h, x, hx => by
    simp only [flat] at h
    split at h
    case h_1 => cases h
    rename_i a ha
    split at h
    case h_1 => cases h
    rename_i b hb
    cases h
    rcases List.mem_cons.1 hx with rfl | hx
    · exact ⟨a, ha, fun y hy => by simp [hy]⟩
    · obtain ⟨a', h1, h2⟩ := flat_mem hb x hx
      exact ⟨a', h1, fun y hy => by simp [h2 y hy]⟩
/-- All outcomes go on. -/
def andThen {α β : Type} (x : Outs α) (f : α → Outs β) : Outs β :=
  match x with
  | none => none
  | some [a] => f a
  | some l => flat l f
theorem andThen_ok {α β : Type} {x : Outs α} {f : α → Outs β} {r : List β} (h : andThen x f = some r) : ∃ l, x = some l ∧ ∀ a, a ∈ l → ∃ b, f a = some b ∧ ∀ y, y ∈ b → y ∈ r := by
  unfold andThen at h
  split at h
  · cases h
  · rename_i a
    exact ⟨_, rfl, fun b hb => by rw [List.mem_singleton.1 hb]; exact ⟨r, h, fun y hy => hy⟩⟩
  · rename_i l
    exact ⟨_, rfl, flat_mem h⟩

variable {C : Cx}
/-- A call of a function; or, where the first word is true, of what a loop over a function has handed out. -/
abbrev CallX := Bool → Nat → List AV → M → Outs (AV × M)
/-- Calls that are carried out are calls. -/
def CallOk (P : Program) (gl : List Nat) (call : CallX) : Prop := ∀ y g args m l, call y g args m = some l → ∀ K : AV → AH → Prop, (∀ v m', (v, m') ∈ l → K v m'.den) → (bif y then AYield P gl g args m.den K else ACall P gl g args m.den K)

def okV (x : Option AV) (m : M) : Outs (AV × M) :=
  match x with
  | some v => some [(v, m)]
  | none => none
def okU (x : Option M) : Outs (AV × M) :=
  match x with
  | some m => some [(.tuple [], m)]
  | none => none
def okP (x : Option (AV × M)) : Outs (AV × M) :=
  match x with
  | some p => some [p]
  | none => none
theorem okV_ok {x : Option AV} {m : M} {l : List (AV × M)} (h : okV x m = some l) : ∃ v, x = some v ∧ l = [(v, m)] := by
  unfold okV at h; split at h <;> cases h; exact ⟨_, rfl, rfl⟩
theorem okU_ok {x : Option M} {l : List (AV × M)} (h : okU x = some l) : ∃ m, x = some m ∧ l = [(.tuple [], m)] := by
  unfold okU at h; split at h <;> cases h; exact ⟨_, rfl, rfl⟩
theorem okP_ok {x : Option (AV × M)} {l : List (AV × M)} (h : okP x = some l) : ∃ p, x = some p ∧ l = [p] := by
  unfold okP at h; split at h <;> cases h; exact ⟨_, rfl, rfl⟩

def capX (a : Option (Nat × Nat)) (n : Nat) (c : Cp) (σ : AH) : Option AV :=
  match c, a with
  | .k c, _ => some (.int .i64 c)
  | .u, some (b, o) => (match σ.get b with
    | some (.cells cs (.exact sz)) => cond (Nat.blt 0 sz && Nat.ble (o + n * sz) cs.length) (some (.int .i64 ((cs.length - o) / sz : Nat))) none
    | _ => none)
  | _, _ => none
theorem capX_ok {a : Option (Nat × Nat)} {n : Nat} {c : Cp} {σ : AH} {v : AV} {K : AV → AH → Prop} (h : capX a n c σ = some v) (hK : K v σ) : capVc a n c σ K := by
  unfold capX at h
  unfold capVc
  split at h
  · cases h; exact hK
  · split at h
    case h_2 => cases h
    rename_i cs sz hg
    rw [Bool.cond_eq_ite] at h
    split at h
    case isFalse => cases h
    rename_i hc
    simp only [Bool.and_eq_true, Nat.blt_eq, Nat.ble_eq] at hc
    cases h
    exact ⟨cs, .exact sz, sz, hg, rfl, hc.1, hc.2, by simpa only [Own.full, if_true] using hK⟩
  · cases h
def callOpX (C : Cx) (call : CallX) (gl : List Nat) (n : Nat) (c : Call) (fr : FT) (m : M) : Outs (AV × M) :=
  match c.callee with
  | .value f =>
    (match ev gl n fr.den f with
     | .func g first cap => call false g (first ++ c.args.toList.map (ev gl n fr.den) ++ cap) m
     | .yield b => call true b (c.args.toList.map (ev gl n fr.den)) m
     | _ => none)
  | .invoke _ _ => none
  | .builtin b =>
    match b with
    | .append => okP (appendX C c.argTypes.toList (c.args.toList.map (ev gl n fr.den)) m)
    | .copy => okP (copyX C c.argTypes.toList (c.args.toList.map (ev gl n fr.den)) m)
    | .clear => okP (clearX C c.argTypes.toList (c.args.toList.map (ev gl n fr.den)) m)
    | .delete => okP (deleteX C c.argTypes.toList (c.args.toList.map (ev gl n fr.den)) m)
    | .len => (match c.argTypes.toList, c.args.toList with
      | t :: _, x :: _ => okV (lenX C t (ev gl n fr.den x) m.den) m
      | _, _ => none)
    | .cap => (match c.argTypes.toList, c.args.toList with
      | t :: _, x :: _ => (match C.ti t, ev gl n fr.den x with
        | some ti, .slice a q e => (match ti.d with
          | .slice _ => okV (capX a q e m.den) m
          | _ => none)
        | _, _ => none)
      | _, _ => none)
    | .max => (match c.args.toList.map (ev gl n fr.den) with
      | .int k a :: r => okV (maxX max2 k a r) m
      | _ => none)
    | .min => (match c.args.toList.map (ev gl n fr.den) with
      | .int k a :: r => okV (maxX min2 k a r) m
      | _ => none)
    | _ => none
theorem callOpX_ok (hres : ∀ t, C.res t = none) {call : CallX} {gl : List Nat} (hc : CallOk C.P gl call) {n : Nat} {c : Call} {t : TypeId} {fr : FT} {m : M} {l : List (AV × M)} {K : AV → AH → Prop} (h : callOpX C call gl n c fr m = some l)
    (hK : ∀ v m', (v, m') ∈ l → K v m'.den) : callVc C gl n c t fr.den m.den K := by
  unfold callOpX at h
  unfold callVc
  split at h
  · rename_i f hf
    simp only [hf]
    split at h
    case h_3 => cases h
    case h_2 =>
      rename_i b he
      simp only [he]
      refine hc true b _ m l h _ fun v m' hm => ?_
      rw [hres t]
      exact hK v m' hm
    rename_i g first cap he
    simp only [he]
    refine hc false g _ m l h _ fun v m' hm => ?_
    rw [hres t]
    exact hK v m' hm
  · cases h
  · rename_i b hb
    simp only [hb]
    split at h
    · obtain ⟨p, h1, rfl⟩ := okP_ok h; exact appendX_ok h1 (hK _ _ (List.mem_singleton.2 rfl))
    · obtain ⟨p, h1, rfl⟩ := okP_ok h; exact copyX_ok h1 (hK _ _ (List.mem_singleton.2 rfl))
    · obtain ⟨p, h1, rfl⟩ := okP_ok h; exact clearX_ok h1 (hK _ _ (List.mem_singleton.2 rfl))
    · obtain ⟨p, h1, rfl⟩ := okP_ok h; exact deleteX_ok h1 (hK _ _ (List.mem_singleton.2 rfl))
    · split at h
      case h_2 => cases h
      rename_i t ts x xs ht hx
      simp only [ht, hx]
      obtain ⟨v, h1, rfl⟩ := okV_ok h; exact lenX_ok h1 (hK _ _ (List.mem_singleton.2 rfl))
    · split at h
      case h_2 => cases h
      rename_i t ts x xs ht hx
      simp only [ht, hx]
      split at h
      case h_2 => cases h
      rename_i ti a q e hti hev
      simp only [hti, hev]
      split at h
      case h_2 => cases h
      rename_i el hd
      simp only [hd]
      obtain ⟨v, h1, rfl⟩ := okV_ok h; exact capX_ok h1 (hK _ _ (List.mem_singleton.2 rfl))
    · split at h
      case h_2 => cases h
      rename_i k a r hl
      simp only [hl]
      obtain ⟨v, h1, rfl⟩ := okV_ok h; exact maxX_ok h1 (hK _ _ (List.mem_singleton.2 rfl))
    · split at h
      case h_2 => cases h
      rename_i k a r hl
      simp only [hl]
      obtain ⟨v, h1, rfl⟩ := okV_ok h; exact maxX_ok h1 (hK _ _ (List.mem_singleton.2 rfl))
    · cases h

def opX (C : Cx) (call : CallX) (wide : Bool) (gl : List Nat) (n : Nat) (o : Oper) (fr : FT) (m : M) : Outs (AV × M) :=
  match o.op with
  | .move x | .assign x => some [(ev gl n fr.den x, m)]
  | .pick c a b => (match ev gl n fr.den c with
    | .bool t => some [(cond t (ev gl n fr.den a) (ev gl n fr.den b), m)]
    | _ => none)
  | .alloc t => (match C.ti t with
    | some ti => okP (newX ti.zero m)
    | none => none)
  | .box _ x => okP (newX (ev gl n fr.den x).cells m)
  | .build t ps => okV (buildX C t (ps.toList.map fun p => (p.1, ev gl n fr.den p.2))) m
  | .buildSlice t len ps => okP (buildSliceX C t len (ps.toList.map fun p => (p.1, ev gl n fr.den p.2)) m)
  | .load t a => okV (loadX C t (ev gl n fr.den a) m.den) m
  | .store t a x => okU (storeX C t (ev gl n fr.den a) (ev gl n fr.den x) m)
  | .nilCheck x => (match ev gl n fr.den x with
    | .ptr (some (b, o)) => some [(.ptr (some (b, o)), m)]
    | .func f fs cs => some [(.func f fs cs, m)]
    | _ => none)
  | .binOp op t x y _ => okV (binX C op t (ev gl n fr.den x) (ev gl n fr.den y)) m
  | .unOp op _ x => okV (unX op (ev gl n fr.den x)) m
  | .convert s d x => okP (convX C s d (ev gl n fr.den x) m)
  | .makeInterface t x => (match C.ti t with
    | some ti => (match ti.d with
      | .iface => none
      | .other => none
      | _ => some [(.iface t (ev gl n fr.den x), m)])
    | none => none)
  | .makeFunc fn first cap => (match fn with
    | .func f => some [(.func f (first.toList.map (ev gl n fr.den)) (cap.toList.map (ev gl n fr.den)), m)]
    | _ => none)
  | .makeMap t r => (match r with
    | none => some [(.map (some m.next), m.alloc (.map [] 0))]
    | some x => (match ev gl n fr.den x, C.ti t with
      | .int _ _, some ti => (match ti.d with
        | .map _ _ => some [(.map (some m.next), m.alloc (.map [] 0))]
        | _ => none)
      | _, _ => none))
  | .makeSlice t l c => okP (makeSliceX C t (ev gl n fr.den l) (ev gl n fr.den c) m)
  | .slice t x lo hi mx => okV (sliceX C wide t (ev gl n fr.den x) (optE gl n fr.den lo) (optE gl n fr.den hi) (optE gl n fr.den mx) m.den) m
  | .fieldAddr s x f => okV (fieldAddrX C s (ev gl n fr.den x) f) m
  | .field t x f => okV (fieldX C t (ev gl n fr.den x) f) m
  | .indexAddr t x i => okV (indexAddrX C t (ev gl n fr.den x) (ev gl n fr.den i)) m
  | .index t x i => okV (indexX C t (ev gl n fr.den x) (ev gl n fr.den i)) m
  | .lookup t x i ok => okV (lookupX C t (ev gl n fr.den x) (ev gl n fr.den i) ok m.den) m
  | .mapUpdate t q k x | .insert t q k x => okU (mapPutX C t (ev gl n fr.den q) (ev gl n fr.den k) (ev gl n fr.den x) m)
  | .mapEntry t q k => okP (mapEntryX C t (ev gl n fr.den q) (ev gl n fr.den k) m)
  | .entryStore _ q s x => okU (entryStoreX (ev gl n fr.den q) (ev gl n fr.den s) (ev gl n fr.den x) m)
  | .range t x => okP (rangeX C t (ev gl n fr.den x) m)
  | .next it b => nextX (ev gl n fr.den it) b m
  | .typeAssert x _ t ok => okV (assertX C (ev gl n fr.den x) t ok) m
  | .extract t i => (match ev gl n fr.den t with
    | .tuple vs => okV vs[i]? m
    | _ => none)
  | .call c => callOpX C call gl n c fr m
  | _ => none
set_option maxHeartbeats 1000000 in
theorem opX_ok (hres : ∀ t, C.res t = none) {call : CallX} {gl : List Nat} (hc : CallOk C.P gl call) {n : Nat} {o : Oper} {fr : FT} {m : M} {l : List (AV × M)} {K : AV → AH → Prop} {wide : Bool} (h : opX C call wide gl n o fr m = some l)
    (hK : ∀ v m', (v, m') ∈ l → K v m'.den) : opVc C gl wide n o fr.den m.den K := by
  unfold opX at h
  split at h
  · rename_i e; unfold opVc; rw [e]; cases h; exact hK _ _ (List.mem_singleton.2 rfl)
  · rename_i e; unfold opVc; rw [e]; cases h; exact hK _ _ (List.mem_singleton.2 rfl)
  · rename_i c a b e
    unfold opVc; rw [e]
    split at h
    case h_2 => cases h
    rename_i t he
    cases h
    simp only [he]
    have := hK _ _ (List.mem_singleton.2 rfl)
    cases t <;> exact this
  · rename_i t e
    unfold opVc; rw [e]
    split at h
    case h_2 => cases h
    rename_i ti hti
    simp only [hti]
    obtain ⟨p, h1, rfl⟩ := okP_ok h; exact newX_ok h1 (hK _ _ (List.mem_singleton.2 rfl))
  · rename_i e; unfold opVc; rw [e]
    obtain ⟨p, h1, rfl⟩ := okP_ok h; exact newX_ok h1 (hK _ _ (List.mem_singleton.2 rfl))
  · rename_i e; unfold opVc; rw [e]
    obtain ⟨p, h1, rfl⟩ := okV_ok h; exact buildX_ok (K := fun v => K v m.den) h1 (hK _ _ (List.mem_singleton.2 rfl))
  · rename_i e; unfold opVc; rw [e]
    obtain ⟨p, h1, rfl⟩ := okP_ok h; exact buildSliceX_ok h1 (hK _ _ (List.mem_singleton.2 rfl))
  · rename_i e; unfold opVc; rw [e]
    obtain ⟨p, h1, rfl⟩ := okV_ok h; exact loadX_ok (K := fun v => K v m.den) h1 (hK _ _ (List.mem_singleton.2 rfl))
  · rename_i e; unfold opVc; rw [e]
    obtain ⟨p, h1, rfl⟩ := okU_ok h; exact storeX_ok (K := fun σ' => K (.tuple []) σ') h1 (hK _ _ (List.mem_singleton.2 rfl))
  · rename_i x e
    unfold opVc; rw [e]
    split at h
    · rename_i b o he
      cases h
      simp only [he]
      exact hK _ _ (List.mem_singleton.2 rfl)
    · rename_i f fs cs he
      cases h
      simp only [he]
      exact hK _ _ (List.mem_singleton.2 rfl)
    · cases h
  · rename_i e; unfold opVc; rw [e]
    obtain ⟨p, h1, rfl⟩ := okV_ok h; exact binX_ok (K := fun v => K v m.den) h1 (hK _ _ (List.mem_singleton.2 rfl))
  · rename_i e; unfold opVc; rw [e]
    obtain ⟨p, h1, rfl⟩ := okV_ok h; exact unX_ok (K := fun v => K v m.den) h1 (hK _ _ (List.mem_singleton.2 rfl))
  · rename_i e; unfold opVc; rw [e]
    obtain ⟨p, h1, rfl⟩ := okP_ok h; exact convX_ok h1 (hK _ _ (List.mem_singleton.2 rfl))
  · rename_i t x e
    unfold opVc; rw [e]
    split at h
    case h_2 => cases h
    rename_i ti hti
    simp only [hti]
    split at h
    · cases h
    · cases h
    · rename_i n1 n2
      cases h
      split
      · exact absurd (by assumption) n1
      · exact absurd (by assumption) n2
      · exact hK _ _ (List.mem_singleton.2 rfl)
  · rename_i fn first cap e
    unfold opVc; rw [e]
    split at h
    case h_2 => cases h
    cases h
    exact hK _ _ (List.mem_singleton.2 rfl)
  · rename_i t r e
    unfold opVc; rw [e]
    split at h
    · cases h
      have := hK _ _ (List.mem_singleton.2 rfl)
      rw [M.alloc_den] at this
      exact this
    · split at h
      case h_2 => cases h
      rename_i k i ti he hti
      simp only [he, hti]
      split at h
      case h_2 => cases h
      rename_i hd
      simp only [hd]
      cases h
      have := hK _ _ (List.mem_singleton.2 rfl)
      rw [M.alloc_den] at this
      exact this
  · rename_i e; unfold opVc; rw [e]
    obtain ⟨p, h1, rfl⟩ := okP_ok h; exact makeSliceX_ok h1 (hK _ _ (List.mem_singleton.2 rfl))
  · rename_i e; unfold opVc; rw [e]
    obtain ⟨p, h1, rfl⟩ := okV_ok h; exact sliceX_ok (K := fun v => K v m.den) h1 (hK _ _ (List.mem_singleton.2 rfl))
  · rename_i e; unfold opVc; rw [e]
    obtain ⟨p, h1, rfl⟩ := okV_ok h; exact fieldAddrX_ok (K := fun v => K v m.den) h1 (hK _ _ (List.mem_singleton.2 rfl))
  · rename_i e; unfold opVc; rw [e]
    obtain ⟨p, h1, rfl⟩ := okV_ok h; exact fieldX_ok (K := fun v => K v m.den) h1 (hK _ _ (List.mem_singleton.2 rfl))
  · rename_i e; unfold opVc; rw [e]
    obtain ⟨p, h1, rfl⟩ := okV_ok h; exact indexAddrX_ok (K := fun v => K v m.den) h1 (hK _ _ (List.mem_singleton.2 rfl))
  · rename_i e; unfold opVc; rw [e]
    obtain ⟨p, h1, rfl⟩ := okV_ok h; exact indexX_ok (K := fun v => K v m.den) h1 (hK _ _ (List.mem_singleton.2 rfl))
  · rename_i e; unfold opVc; rw [e]
    obtain ⟨p, h1, rfl⟩ := okV_ok h; exact lookupX_ok (K := fun v => K v m.den) h1 (hK _ _ (List.mem_singleton.2 rfl))
  · rename_i e; unfold opVc; rw [e]
    obtain ⟨p, h1, rfl⟩ := okU_ok h; exact mapPutX_ok (K := fun σ' => K (.tuple []) σ') h1 (hK _ _ (List.mem_singleton.2 rfl))
  · rename_i e; unfold opVc; rw [e]
    obtain ⟨p, h1, rfl⟩ := okU_ok h; exact mapPutX_ok (K := fun σ' => K (.tuple []) σ') h1 (hK _ _ (List.mem_singleton.2 rfl))
  · rename_i e; unfold opVc; rw [e]
    obtain ⟨p, h1, rfl⟩ := okP_ok h; exact mapEntryX_ok h1 (hK _ _ (List.mem_singleton.2 rfl))
  · rename_i e; unfold opVc; rw [e]
    obtain ⟨p, h1, rfl⟩ := okU_ok h; exact entryStoreX_ok (K := fun σ' => K (.tuple []) σ') h1 (hK _ _ (List.mem_singleton.2 rfl))
  · rename_i e; unfold opVc; rw [e]
    obtain ⟨p, h1, rfl⟩ := okP_ok h; exact rangeX_ok h1 (hK _ _ (List.mem_singleton.2 rfl))
  · rename_i e; unfold opVc; rw [e]
    exact nextX_ok h hK
  · rename_i e; unfold opVc; rw [e]
    obtain ⟨p, h1, rfl⟩ := okV_ok h; exact assertX_ok (K := fun v => K v m.den) h1 (hK _ _ (List.mem_singleton.2 rfl))
  · rename_i t i e
    unfold opVc; rw [e]
    split at h
    case h_2 => cases h
    rename_i vs he
    simp only [he]
    obtain ⟨p, h1, rfl⟩ := okV_ok h
    simp only [h1]
    exact hK _ _ (List.mem_singleton.2 rfl)
  · rename_i c e
    unfold opVc; rw [e]
    exact callOpX_ok hres hc h hK
  · cases h
end
end Go.Proofs.YthpngchngnaloaaGreatDoor.Vm

/-! The abstract machine, carried out: regions. -/
namespace Go.Proofs.YthpngchngnaloaaGreatDoor.Vm
noncomputable section

/-! ### Equality -/
def cpSame : Cp → Cp → Bool
  | .k a, .k b => Nat.beq a b
  | .u, .u | .x, .x => true
  | _, _ => false
theorem cpSame_eq {a b : Cp} (h : cpSame a b = true) : a = b := by
  cases a <;> cases b <;> simp [cpSame] at h <;> simp_all
def placeSame : Option (Nat × Nat) → Option (Nat × Nat) → Bool
  | none, none => true
  | some (a, b), some (c, d) => Nat.beq a c && Nat.beq b d
  | _, _ => false
theorem placeSame_eq {a b : Option (Nat × Nat)} (h : placeSame a b = true) : a = b := by
  cases a <;> cases b <;> simp [placeSame] at h
  · rfl
  · rename_i p q; cases p; cases q; simp at h; simp [h]
mutual
def same : AV → AV → Bool
  | .any, .any => true
  | .int k n, .int k' n' => decide (k = k') && decide (n = n')
  | .bool b, .bool b' => b == b'
  | .str s, .str s' => s == s'
  | .ptr a, .ptr a' => placeSame a a'
  | .slice a n c, .slice a' n' c' => placeSame a a' && Nat.beq n n' && cpSame c c'
  | .map none, .map none => true
  | .map (some a), .map (some b) => Nat.beq a b
  | .func f x y, .func f' x' y' => Nat.beq f f' && sameL x x' && sameL y y'
  | .nilFunc, .nilFunc => true
  | .iface t x, .iface t' x' => Nat.beq t t' && same x x'
  | .nilIface, .nilIface => true
  | .agg l, .agg l' => sameL l l'
  | .tuple l, .tuple l' => sameL l l'
  | .yield a, .yield b => Nat.beq a b
  | _, _ => false
def sameL : List AV → List AV → Bool
  | [], [] => true
  | a :: as, b :: bs => same a b && sameL as bs
  | _, _ => false
end
mutual
theorem same_eq : ∀ (a b : AV), same a b = true → a = b
  | .any, b, h => by cases b <;> first | rfl | (simp only [same] at h; cases h)
  | .int k n, b, h => by cases b <;> simp [same] at h; simp [h]
  | .bool x, b, h => by cases b <;> simp [same] at h; simp [h]
  | .str s, b, h => by cases b <;> simp [same] at h; simp [h]
  | .ptr a, b, h => by cases b <;> simp [same] at h; simp [placeSame_eq h]
  | .slice a n c, b, h => by
    cases b <;> simp [same] at h
    rw [placeSame_eq h.1.1, h.1.2, cpSame_eq h.2]
  | .map none, b, h => by
    cases b with
    | map r => cases r with
      | none => rfl
      | some r => simp [same] at h
    | _ => simp [same] at h
  | .map (some a), b, h => by
    cases b with
    | map r => cases r with
      | none => simp [same] at h
      | some r => simp [same] at h; simp [h]
    | _ => simp [same] at h
  | .func f x y, b, h => by
    cases b <;> simp [same] at h
    rw [h.1.1, sameL_eq _ _ h.1.2, sameL_eq _ _ h.2]
  | .nilFunc, b, h => by cases b <;> first | rfl | (simp only [same] at h; cases h)
  | .iface t x, b, h => by
    cases b <;> simp [same] at h
    rw [h.1, same_eq _ _ h.2]
  | .nilIface, b, h => by cases b <;> first | rfl | (simp only [same] at h; cases h)
  | .agg l, b, h => by
    cases b <;> simp [same] at h
    rw [sameL_eq _ _ h]
  | .tuple l, b, h => by
    cases b <;> simp [same] at h
    rw [sameL_eq _ _ h]
  | .yield l, b, h => by
    cases b <;> simp [same] at h
    rw [h]
theorem sameL_eq : ∀ (a b : List AV), sameL a b = true → a = b
  | [], [], _ => rfl
  | [], _ :: _, h => by simp [sameL] at h
  | _ :: _, [], h => by simp [sameL] at h
  | a :: as, b :: bs, h => by
    simp [sameL] at h
    rw [same_eq _ _ h.1, sameL_eq _ _ h.2]
end
def ownSame : Own → Own → Bool
  | .ro, .ro => true
  | .grow a, .grow b => Nat.beq a b
  | .exact a, .exact b => Nat.beq a b
  | _, _ => false
theorem ownSame_eq {a b : Own} (h : ownSame a b = true) : a = b := by
  cases a <;> cases b <;> simp [ownSame] at h <;> simp_all
def entSame : List (AV × AV × Nat) → List (AV × AV × Nat) → Bool
  | [], [] => true
  | (a, b, c) :: l, (a', b', c') :: l' => same a a' && same b b' && Nat.beq c c' && entSame l l'
  | _, _ => false
theorem entSame_eq : ∀ {a b : List (AV × AV × Nat)}, entSame a b = true → a = b
  | [], [], _ => rfl
  | [], _ :: _, h => by simp [entSame] at h
  | _ :: _, [], h => by simp [entSame] at h
  | (a, b, c) :: l, (a', b', c') :: l', h => by
    simp [entSame] at h
    rw [same_eq _ _ h.1.1.1, same_eq _ _ h.1.1.2, h.1.2, entSame_eq h.2]
def natsSame : List Nat → List Nat → Bool
  | [], [] => true
  | a :: l, b :: l' => Nat.beq a b && natsSame l l'
  | _, _ => false
theorem natsSame_eq : ∀ {a b : List Nat}, natsSame a b = true → a = b
  | [], [], _ => rfl
  | [], _ :: _, h => by simp [natsSame] at h
  | _ :: _, [], h => by simp [natsSame] at h
  | a :: l, b :: l', h => by
    simp [natsSame] at h
    rw [h.1, natsSame_eq h.2]
def optN : Option Nat → Option Nat → Bool
  | none, none => true
  | some a, some b => Nat.beq a b
  | _, _ => false
theorem optN_eq {a b : Option Nat} (h : optN a b = true) : a = b := by
  cases a <;> cases b <;> simp [optN] at h <;> simp_all
def blkSame : Blk → Blk → Bool
  | .cells a o, .cells b o' => ownSame o o' && sameL a b
  | .map a c, .map b c' => Nat.beq c c' && entSame a b
  | .siter s p, .siter s' p' => Nat.beq p p' && s == s'
  | .miter a b c d, .miter a' b' c' d' => optN a a' && Nat.beq b b' && natsSame c c' && Nat.beq d d'
  | _, _ => false
theorem blkSame_eq {a b : Blk} (h : blkSame a b = true) : a = b := by
  cases a <;> cases b <;> simp [blkSame] at h
  · rw [ownSame_eq h.1, sameL_eq _ _ h.2]
  · rw [h.1, entSame_eq h.2]
  · rw [h.1, h.2]
  · rw [optN_eq h.1.1.1, h.1.1.2, natsSame_eq h.1.2, h.2]
def oblk : Option Blk → Option Blk → Bool
  | none, none => true
  | some a, some b => blkSame a b
  | _, _ => false
theorem oblk_eq {a b : Option Blk} (h : oblk a b = true) : a = b := by
  cases a <;> cases b <;> simp [oblk] at h
  · rfl
  · rw [blkSame_eq h]
def tSame {α : Type} (f : α → α → Bool) : T α → T α → Bool
  | .leaf, .leaf => true
  | .node v l r, .node v' l' r' => f v v' && tSame f l l' && tSame f r r'
  | _, _ => false
theorem tSame_eq {α : Type} {f : α → α → Bool} (hf : ∀ a b, f a b = true → a = b) : ∀ {a b : T α}, tSame f a b = true → a = b
  | .leaf, .leaf, _ => rfl
  | .leaf, .node .., h => by simp [tSame] at h
  | .node .., .leaf, h => by simp [tSame] at h
  | .node v l r, .node v' l' r', h => by
    simp [tSame] at h
    rw [hf _ _ h.1.1, tSame_eq hf h.1.2, tSame_eq hf h.2]
def mSame (a b : M) : Bool := Nat.beq a.next b.next && tSame oblk a.t b.t
theorem mSame_eq {a b : M} (h : mSame a b = true) : a = b := by
  cases a; cases b
  simp [mSame] at h
  rw [h.1, tSame_eq (fun _ _ => oblk_eq) h.2]

/-! ### Regions -/
variable {C : Cx}
def guardX (n : Nat) (ops : Array Oper) (fr : FT) (g : Option (Nat × Bool)) : Option Bool :=
  match g with
  | none => some true
  | some (j, want) =>
    match ops[j]? with
    | some oj =>
      match oj.dst with
      | some t => cond (Nat.blt t n)
          (match fr.den t with
           | .bool b => some (cond b want (!want))
           | .tuple [] => some false
           | _ => none) none
      | none => none
    | none => none
theorem guardX_ok {n : Nat} {ops : Array Oper} {fr : FT} {g : Option (Nat × Bool)} {run : Bool} {K : Bool → Fr → Prop} (h : guardX n ops fr g = some run) (hK : K run fr.den) : guardK n ops fr.den g K := by
  unfold guardX at h
  unfold guardK
  split at h
  · cases h; exact hK
  · rename_i j want
    split at h
    case h_2 => cases h
    rename_i oj hoj
    simp only [hoj]
    split at h
    case h_2 => cases h
    rename_i t ht
    simp only [ht]
    rw [Bool.cond_eq_ite] at h
    split at h
    case isFalse => cases h
    rename_i hlt
    simp only [Nat.blt_eq] at hlt
    rw [if_pos hlt]
    split at h
    · rename_i b hb
      cases h
      simp only [hb]
      have := setFr_self fr.den t
      rw [hb] at this
      cases b
      · simp only [cond_false, this] at hK ⊢; exact hK
      · simp only [cond_true, this] at hK ⊢; exact hK
    · rename_i hb
      cases h
      simp only [hb]
      exact hK
    · cases h
def opsX (C : Cx) (call : CallX) (gl : List Nat) (n : Nat) (ops : Array Oper) : List Nat → FT → M → Outs (FT × M)
  | [], fr, m => some [(fr, m)]
  | i :: is, fr, m =>
    match ops[i]? with
    | none => none
    | some o => match guardX n ops fr o.guard with
      | none => none
      | some run => cond run (andThen (opX C call true gl n o fr m) fun p => opsX C call gl n ops is (fr.put o.dst p.1) p.2)
          (opsX C call gl n ops is (fr.put o.dst (.tuple [])) m)
theorem opsX_ok (hres : ∀ t, C.res t = none) {call : CallX} {gl : List Nat} (hc : CallOk C.P gl call) {n : Nat} {ops : Array Oper} {K : Fr → AH → Prop} : ∀ {is : List Nat} {fr : FT} {m : M} {l : List (FT × M)},
    opsX C call gl n ops is fr m = some l → (∀ x, x ∈ l → K x.1.den x.2.den) → opsVc C gl true n ops K is fr.den m.den
  | [], fr, m, l, h, hK => by cases h; exact hK _ (List.mem_singleton.2 rfl)
  | i :: is, fr, m, l, h, hK => by
    simp only [opsX] at h
    simp only [opsVc]
    split at h
    case h_1 => cases h
    rename_i o ho
    split at h
    case h_1 => cases h
    rename_i run hg
    simp only [ho]
    refine guardX_ok hg ?_
    cases run with
    | true =>
      simp only [cond_true] at h ⊢
      obtain ⟨l', h1, h2⟩ := andThen_ok h
      refine opX_ok hres hc h1 fun v m' hm => ?_
      obtain ⟨b, hb, hy⟩ := h2 _ hm
      have := opsX_ok hres hc hb fun x hx => hK x (hy x hx)
      rwa [FT.put_den] at this
    | false =>
      simp only [cond_false] at h ⊢
      have := opsX_ok hres hc h hK
      rwa [FT.put_den] at this

def rngSame (a b : Option (List AV)) : Bool :=
  match a, b with
  | some x, some y => sameL x y
  | _, _ => false
def footX (σ σ' : AH) : Foot → Bool
  | .none => true
  | .rng (some (b, o)) n => rngSame (σ'.range b o n) (σ.range b o n)
  | .rng none _ => false
  | .blk b => oblk (σ'.get b) (σ.get b)
theorem footX_ok {σ σ' : AH} {f : Foot} (h : footX σ σ' f = true) : Foot.same σ σ' f := by
  unfold footX at h
  split at h
  · trivial
  · unfold rngSame at h
    split at h
    · rename_i h1 h2
      simp only [Foot.same, atP]
      rw [h1, h2, sameL_eq _ _ h]
    · cases h
  · cases h
  · exact oblk_eq h
def oblsX (pr : List Nat) (σ σ' : AH) : List (Nat × Foot) → Bool
  | [] => true
  | (j, f) :: r => cond (pr.contains j) (oblsX pr σ σ' r) (footX σ σ' f && oblsX pr σ σ' r)
theorem oblsX_ok {pr : List Nat} {σ σ' : AH} : ∀ {l : List (Nat × Foot)}, oblsX pr σ σ' l = true → obls pr σ σ' l
  | [], _ => trivial
  | (j, f) :: r, h => by
    simp only [oblsX, Bool.cond_eq_ite] at h
    simp only [obls]
    split at h
    · rename_i hc; rw [if_pos hc]; exact oblsX_ok h
    · rename_i hc
      rw [if_neg hc]
      simp only [Bool.and_eq_true] at h
      exact ⟨footX_ok h.1, oblsX_ok h.2⟩
def drawX (C : Cx) (call : CallX) (gl : List Nat) (n : Nat) (ops : Array Oper) (pr : List (List Nat)) : List Nat → List (Nat × Foot) → FT → M → Outs (FT × M)
  | [], _, fr, m => some [(fr, m)]
  | i :: is, log, fr, m =>
    match ops[i]? with
    | none => none
    | some o => match guardX n ops fr o.guard with
      | none => none
      | some run => cond run
          (match cls C o with
           | .heavy => andThen (opX C call false gl n o fr m) fun p => cond (oblsX (pr.getD i []) m.den p.2.den log) (drawX C call gl n ops pr is log (fr.put o.dst p.1) p.2) none
           | .pure => andThen (opX C call false gl n o fr m) fun p => drawX C call gl n ops pr is log (fr.put o.dst p.1) p.2
           | _ => andThen (opX C call false gl n o fr m) fun p => drawX C call gl n ops pr is ((i, footOf C gl n o fr.den m.den) :: log) (fr.put o.dst p.1) p.2)
          (drawX C call gl n ops pr is log (fr.put o.dst (.tuple [])) m)
theorem drawX_ok (hres : ∀ t, C.res t = none) {call : CallX} {gl : List Nat} (hc : CallOk C.P gl call) {n : Nat} {ops : Array Oper} {pr : List (List Nat)} {K : Fr → AH → Prop} : ∀ {is : List Nat} {log : List (Nat × Foot)} {fr : FT} {m : M} {l : List (FT × M)},
    drawX C call gl n ops pr is log fr m = some l → (∀ x, x ∈ l → K x.1.den x.2.den) → drawVc C gl n ops pr K is log fr.den m.den
  | [], log, fr, m, l, h, hK => by cases h; exact hK _ (List.mem_singleton.2 rfl)
  | i :: is, log, fr, m, l, h, hK => by
    simp only [drawX] at h
    simp only [drawVc]
    split at h
    case h_1 => cases h
    rename_i o ho
    split at h
    case h_1 => cases h
    rename_i run hg
    simp only [ho]
    refine guardX_ok hg ?_
    cases run with
    | true =>
      simp only [cond_true] at h ⊢
      split at h
      · rename_i hcl
        simp only [hcl]
        obtain ⟨l', h1, h2⟩ := andThen_ok h
        refine opX_ok hres hc h1 fun v m' hm => ?_
        obtain ⟨b, hb, hy⟩ := h2 _ hm
        rw [Bool.cond_eq_ite] at hb
        split at hb
        case isFalse => cases hb
        rename_i ho
        have := drawX_ok hres hc hb fun x hx => hK x (hy x hx)
        rw [FT.put_den] at this
        exact ⟨oblsX_ok ho, this⟩
      · rename_i hcl
        simp only [hcl]
        obtain ⟨l', h1, h2⟩ := andThen_ok h
        refine opX_ok hres hc h1 fun v m' hm => ?_
        obtain ⟨b, hb, hy⟩ := h2 _ hm
        have := drawX_ok hres hc hb fun x hx => hK x (hy x hx)
        rwa [FT.put_den] at this
      · rename_i hc1 hc2
        obtain ⟨l', h1, h2⟩ := andThen_ok h
        have := opX_ok (K := fun v σ' => drawVc C gl n ops pr K is ((i, footOf C gl n o fr.den m.den) :: log) (setFr fr.den o.dst v) σ') hres hc h1 fun v m' hm => by
          obtain ⟨b, hb, hy⟩ := h2 _ hm
          have := drawX_ok hres hc hb fun x hx => hK x (hy x hx)
          rwa [FT.put_den] at this
        split
        · exact absurd (by assumption) hc1
        · exact absurd (by assumption) hc2
        · exact this
    | false =>
      simp only [cond_false] at h ⊢
      have := drawX_ok hres hc h hK
      rwa [FT.put_den] at this
end
end Go.Proofs.YthpngchngnaloaaGreatDoor.Vm

/-! The abstract machine, carried out: code and calls. -/
namespace Go.Proofs.YthpngchngnaloaaGreatDoor.Vm
noncomputable section
variable {C : Cx}

abbrev OutX := AExit × FT × M
def exitSame : AExit → AExit → Bool
  | .normal, .normal | .ret, .ret => true
  | .exit a, .exit b => Nat.beq a b
  | _, _ => false
theorem exitSame_eq {a b : AExit} (h : exitSame a b = true) : a = b := by
  cases a <;> cases b <;> simp [exitSame] at h <;> simp_all
def outSame (a b : OutX) : Bool := exitSame a.1 b.1 && tSame same a.2.1 b.2.1 && mSame a.2.2 b.2.2
theorem outSame_eq {a b : OutX} (h : outSame a b = true) : a = b := by
  obtain ⟨a1, a2, a3⟩ := a
  obtain ⟨b1, b2, b3⟩ := b
  simp only [outSame, Bool.and_eq_true] at h
  rw [exitSame_eq h.1.1, tSame_eq same_eq h.1.2, mSame_eq h.2]
def dedup : List OutX → List OutX
  | [] => []
  | x :: xs => match dedup xs with
    | [] => [x]
    | l => cond (l.any (outSame x)) l (x :: l)
theorem dedup_mem : ∀ {l : List OutX} {x : OutX}, x ∈ l → x ∈ dedup l
  | [], x, h => by cases h
  | y :: ys, x, h => by
    simp only [dedup]
    split
    · rename_i hd
      rcases List.mem_cons.1 h with rfl | h
      · simp
      · have := dedup_mem h
        rw [hd] at this; cases this
    · rename_i hd
      rw [Bool.cond_eq_ite]
      split
      · rename_i ha
        rcases List.mem_cons.1 h with rfl | h
        · obtain ⟨z, hz, hs⟩ := List.any_eq_true.1 ha
          rw [outSame_eq hs]; exact hz
        · exact dedup_mem h
      · rcases List.mem_cons.1 h with rfl | h
        · simp
        · exact List.mem_cons_of_mem _ (dedup_mem h)

abbrev RunX := Nat → Code → FT → M → Outs OutX
def initGo : List AV → Nat → FT → FT
  | [], _, f => f
  | v :: vs, i, f => initGo vs (i + 1) (f.put (some i) v)
def initX (args : List AV) : FT := initGo args 0 .leaf
theorem initGo_den : ∀ (args : List AV) (i : Nat) (f : FT) (j : Nat), (initGo args i f).den j = if i ≤ j ∧ j < i + args.length then (args[j - i]?).getD (.tuple []) else f.den j
  | [], i, f, j => by
    simp only [initGo, List.length_nil]
    rw [if_neg (by omega)]
  | v :: vs, i, f, j => by
    simp only [initGo]
    rw [initGo_den vs (i + 1) _ j, FT.put_den]
    simp only [setFr, List.length_cons]
    by_cases hj : j = i
    · subst hj
      rw [if_neg (by omega), if_pos rfl, if_pos (by omega)]
      simp
    · by_cases hr : i + 1 ≤ j ∧ j < i + 1 + vs.length
      · rw [if_pos hr, if_pos (by omega)]
        obtain ⟨k, rfl⟩ : ∃ k, j = i + 1 + k := ⟨j - (i + 1), by omega⟩
        rw [show i + 1 + k - (i + 1) = k by omega, show i + 1 + k - i = k + 1 by omega]
        rfl
      · rw [if_neg hr, if_neg hj, if_neg (by omega)]
theorem initX_den (args : List AV) : (initX args).den = initL args := by
  funext j
  unfold initX
  rw [initGo_den]
  simp only [Nat.zero_le, true_and, Nat.zero_add, Nat.sub_zero, initL]
  split
  · rename_i h
    rw [List.getElem?_eq_getElem h]
    rfl
  · rename_i h
    rw [List.getElem?_eq_none (by omega)]
    rfl
def resX (C : Cx) (n : Nat) : List ResultVar → FT → AH → Option (List AV)
  | [], _, _ => some []
  | .tmp t :: r, fr, σ => cond (Nat.blt t n) (match resX C n r fr σ with
    | some vs => some (fr.den t :: vs)
    | none => none) none
  | .cell a t :: r, fr, σ => cond (Nat.blt a n) (match loadX C t (fr.den a) σ with
    | some v => (match resX C n r fr σ with
      | some vs => some (v :: vs)
      | none => none)
    | none => none) none
theorem resX_ok {n : Nat} {fr : FT} {σ : AH} : ∀ {rs : List ResultVar} {vs : List AV} {K : List AV → Prop}, resX C n rs fr σ = some vs → K vs → resVc C n rs fr.den σ K
  | [], vs, K, h, hK => by cases h; exact hK
  | .tmp t :: r, vs, K, h, hK => by
    simp only [resX, Bool.cond_eq_ite] at h
    simp only [resVc]
    split at h
    case isFalse => cases h
    rename_i hlt
    simp only [Nat.blt_eq] at hlt
    rw [if_pos hlt]
    split at h
    case h_2 => cases h
    rename_i us hus
    cases h
    exact resX_ok hus hK
  | .cell a t :: r, vs, K, h, hK => by
    simp only [resX, Bool.cond_eq_ite] at h
    simp only [resVc]
    split at h
    case isFalse => cases h
    rename_i hlt
    simp only [Nat.blt_eq] at hlt
    rw [if_pos hlt]
    split at h
    case h_2 => cases h
    rename_i v hv
    split at h
    case h_2 => cases h
    rename_i us hus
    cases h
    exact loadX_ok hv (resX_ok hus hK)
def setAllX (fr : FT) : List (Nat × AV) → FT
  | [] => fr
  | (t, v) :: l => setAllX (fr.put (some t) v) l
theorem setAllX_den : ∀ (l : List (Nat × AV)) (fr : FT), (setAllX fr l).den = setAll fr.den l
  | [], fr => rfl
  | (t, v) :: l, fr => by simp only [setAllX, setAll]; rw [setAllX_den l, FT.put_den]
/-- A round, carried out. -/
def roundX (rec : RunX) (b : Nat) (args : List AV) (m : M) : Outs (AV × M) :=
  match m.den.get b with
  | some (.loop .ready _ frs ps assign body) =>
    cond (Nat.beq args.length ps.size && flatCode assign && flatCode body)
      (andThen (rec frs.length assign (setAllX (initX frs) (ps.toList.zip args)) m) fun x => match x.1 with
        | .normal => (match x.2.2.den.get b with
          | some (.loop .ready pe frs' ps' a' b') =>
            andThen (rec frs.length body x.2.1 (x.2.2.set b (.loop .busy pe frs' ps' a' b'))) fun y => match y.2.2.den.get b with
              | some (.loop _ _ frs' ps' a' b') => (match y.1 with
                | .normal => some [(.bool true, y.2.2.set b (.loop .ready none frs' ps' a' b'))]
                | .ret => some [(.bool false, y.2.2.set b (.loop .done (some .ret) frs' ps' a' b'))]
                | .exit id => some [(.bool false, y.2.2.set b (.loop .done (some (.exit id)) frs' ps' a' b'))])
              | _ => none
          | _ => none)
        | _ => none) none
  | _ => none
/-- A call, carried out. -/
def callX (C : Cx) (ext : FuncId → Option (List AV → M → Outs (AV × M))) (rec : RunX) : CallX := fun y g args m =>
  cond y (roundX rec g args m)
  (match ext g with
  | some e => e args m
  | none =>
    match C.P.funcs[g]? with
    | none => none
    | some fn =>
      match fn.body with
      | none => none
      | some c => cond (Nat.ble args.length fn.ntmps)
          (andThen (rec fn.ntmps c (initX args) m) fun x => match x.1 with
            | .normal | .ret => (match resX C fn.ntmps fn.results.toList x.2.1 x.2.2.den with
              | some vs => some [(resVal vs, x.2.2)]
              | none => none)
            | _ => none) none)

def stepX (C : Cx) (gl : List Nat) (ext : FuncId → Option (List AV → M → Outs (AV × M))) (rec : RunX) : RunX := fun n code fr m =>
  match code with
  | .skip | .label _ => some [(.normal, fr, m)]
  | .region _ ops draw =>
    andThen (cond draw
      (cond (planOK C ops (waitsFor ops.toList) (eager C ops ops.size []))
        (drawX C (callX C ext rec) gl n ops (waitsFor ops.toList) (eager C ops ops.size []) [] fr m) none)
      (opsX C (callX C ext rec) gl n ops (List.range ops.size) fr m)) fun x => some [(.normal, x.1, x.2)]
  | .seq a b => andThen (rec n a fr m) fun x => match x.1 with
    | .normal => rec n b x.2.1 x.2.2
    | _ => some [x]
  | .cond c x y => (match ev gl n fr.den c with
    | .bool b => cond b (rec n x fr m) (rec n y fr m)
    | _ => none)
  | .block id c => andThen (rec n c fr m) fun x => match x.1 with
    | .exit id' => cond (Nat.beq id' id) (some [(.normal, x.2.1, x.2.2)]) (some [x])
    | _ => some [x]
  | .loop c => (match andThen (rec n c fr m) fun x => match x.1 with
      | .normal => rec n (.loop c) x.2.1 x.2.2
      | _ => some [x] with
    | none => none
    | some [x] => some [x]
    | some l => some (dedup l))
  | .exit id => some [(.exit id, fr, m)]
  | .ret => some [(.ret, fr, m)]
  | .rangeFunc g ps assign body => (match ev gl n fr.den g with
    | .func gid first cap => cond (hasBody C.P gid)
        (andThen (callX C ext rec false gid (first ++ [.yield m.next] ++ cap) (m.alloc (.loop .ready none ((List.range n).map fr.den) ps assign body))) fun p => match p.2.den.get m.next with
          | some (.loop .busy _ _ _ _ _) => none
          | some (.loop _ pe _ _ _ _) => (match pe with
            | none => some [(.normal, fr, p.2.kill m.next)]
            | some .ret => some [(.ret, fr, p.2.kill m.next)]
            | some (.exit id) => some [(.exit id, fr, p.2.kill m.next)]
            | _ => none)
          | _ => none) none
    | _ => none)
  | _ => none
def runX (C : Cx) (gl : List Nat) (ext : FuncId → Option (List AV → M → Outs (AV × M))) (k : Nat) : RunX :=
  Nat.rec (fun _ _ _ _ => none) (fun _ ih => stepX C gl ext ih) k

/-- What is carried out is what is asked. -/
def RunOk (C : Cx) (gl : List Nat) (rec : RunX) : Prop := ∀ n c fr m l, rec n c fr m = some l → ∀ QA : AExit → Fr → AH → Prop, (∀ x, x ∈ l → QA x.1 x.2.1.den x.2.2.den) → codeVc C gl true n c QA fr.den m.den

theorem callX_ok {gl : List Nat} {ext : FuncId → Option (List AV → M → Outs (AV × M))} (hng : ∀ (g : Nat) (fn : Func), C.P.funcs[g]? = some fn → (fn.name == "runtime.NumGoroutine") = false)
    (hext : ∀ g e, ext g = some e → ∀ args m l, e args m = some l → ∀ K : AV → AH → Prop, (∀ v m', (v, m') ∈ l → K v m'.den) → ACall C.P gl g args m.den K) {rec : RunX} (hrec : RunOk C gl rec) : CallOk C.P gl (callX C ext rec) := by
  intro y g args m l h K hK
  unfold callX at h
  cases y with
  | true =>
    simp only [cond_true] at h ⊢
    refine AYield.of_round (wide := true) ?_
    unfold roundX at h
    unfold roundVc
    split at h
    case h_2 => cases h
    rename_i pe frs ps as bo hk
    simp only [hk]
    rw [Bool.cond_eq_ite] at h
    split at h
    case isFalse => cases h
    rename_i hc
    simp only [Bool.and_eq_true, Nat.beq_eq] at hc
    rw [if_pos ⟨hc.1.1, hc.1.2, hc.2⟩, ← initX_den, ← setAllX_den]
    obtain ⟨l1, h1, h2⟩ := andThen_ok h
    refine hrec _ _ _ _ _ h1 _ fun x hx => ?_
    obtain ⟨r, hr, hy⟩ := h2 x hx
    cases hx1 : x.1 with
    | exit id => rw [hx1] at hr; cases hr
    | ret => rw [hx1] at hr; cases hr
    | normal =>
      rw [hx1] at hr
      simp only at hr ⊢
      split at hr
      case h_2 => cases hr
      rename_i pe' frs' ps' a' b' hk1
      simp only [hk1]
      obtain ⟨l2, h3, h4⟩ := andThen_ok hr
      rw [← M.set_den]
      refine hrec _ _ _ _ _ h3 _ fun z hz => ?_
      obtain ⟨r2, hr2, hy2⟩ := h4 z hz
      split at hr2
      case h_2 => cases hr2
      rename_i st2 pe2 frs2 ps2 a2 b2 hk2
      simp only [hk2]
      cases hz1 : z.1 with
      | normal =>
        rw [hz1] at hr2
        cases hr2
        have := hK _ _ (hy _ (hy2 _ (List.mem_singleton.2 rfl)))
        rwa [M.set_den] at this
      | ret =>
        rw [hz1] at hr2
        cases hr2
        have := hK _ _ (hy _ (hy2 _ (List.mem_singleton.2 rfl)))
        rwa [M.set_den] at this
      | exit id =>
        rw [hz1] at hr2
        cases hr2
        have := hK _ _ (hy _ (hy2 _ (List.mem_singleton.2 rfl)))
        rwa [M.set_den] at this
  | false =>
  simp only [cond_false] at h ⊢
  split at h
  · rename_i e he
    exact hext g e he args m l h K hK
  · split at h
    case h_1 => cases h
    rename_i fn hfn
    split at h
    case h_1 => cases h
    rename_i c hc
    rw [Bool.cond_eq_ite] at h
    split at h
    case isFalse => cases h
    rename_i hlen
    simp only [Nat.ble_eq] at hlen
    obtain ⟨l', h1, h2⟩ := andThen_ok h
    refine ACall.of_body (wide := true) hfn hc (hng g fn hfn) ?_
    unfold bodyVc
    rw [if_pos hlen, ← initX_den]
    refine hrec _ _ _ _ _ h1 _ fun x hx => ?_
    obtain ⟨b, hb, hy⟩ := h2 x hx
    have fin : (match resX C fn.ntmps fn.results.toList x.2.1 x.2.2.den with
              | some vs => some [(resVal vs, x.2.2)]
              | none => none) = some b → resVc C fn.ntmps fn.results.toList x.2.1.den x.2.2.den fun vs => K (resVal vs) x.2.2.den := by
      intro hb
      split at hb
      case h_2 => cases hb
      rename_i vs hvs
      cases hb
      exact resX_ok hvs (hK _ _ (hy _ (List.mem_singleton.2 rfl)))
    cases hx1 : x.1 with
    | normal => rw [hx1] at hb; exact fin hb
    | ret => rw [hx1] at hb; exact fin hb
    | exit id => rw [hx1] at hb; cases hb

theorem runX_ok (hres : ∀ t, C.res t = none) {gl : List Nat} {ext : FuncId → Option (List AV → M → Outs (AV × M))} (hng : ∀ (g : Nat) (fn : Func), C.P.funcs[g]? = some fn → (fn.name == "runtime.NumGoroutine") = false)
    (hext : ∀ g e, ext g = some e → ∀ args m l, e args m = some l → ∀ K : AV → AH → Prop, (∀ v m', (v, m') ∈ l → K v m'.den) → ACall C.P gl g args m.den K) : ∀ k, RunOk C gl (runX C gl ext k) := by
  intro k
  induction k using Nat.strongRecOn with
  | _ k0 ihS =>
    intro n c fr m l h QA hQ
    cases k0 with
    | zero => cases h
    | succ k => ?_
    have ih := ihS k (Nat.lt_succ_self k)
    have hcall := callX_ok hng hext ih
    change stepX C gl ext (runX C gl ext k) n c fr m = some l at h
    unfold stepX at h
    split at h
    · cases h; exact hQ _ (List.mem_singleton.2 rfl)
    · cases h; exact hQ _ (List.mem_singleton.2 rfl)
    · rename_i id ops draw
      obtain ⟨l', h1, h2⟩ := andThen_ok h
      simp only [codeVc]
      have hQ' : ∀ x, x ∈ l' → QA .normal x.1.den x.2.den := fun x hx => by
        obtain ⟨b, hb, hy⟩ := h2 x hx
        cases hb
        exact hQ _ (hy _ (List.mem_singleton.2 rfl))
      cases draw with
      | true =>
        simp only [cond_true] at h1
        simp only [if_true]
        rw [Bool.cond_eq_ite] at h1
        split at h1
        case isFalse => cases h1
        rename_i hp
        unfold drawAll
        rw [if_pos hp]
        exact drawX_ok hres hcall h1 hQ'
      | false =>
        simp only [cond_false] at h1
        simp only [Bool.false_eq_true, if_false]
        exact opsX_ok hres hcall h1 hQ'
    · rename_i a b
      obtain ⟨l', h1, h2⟩ := andThen_ok h
      simp only [codeVc]
      refine ih _ _ _ _ _ h1 _ fun x hx => ?_
      obtain ⟨r, hr, hy⟩ := h2 x hx
      cases hx1 : x.1 with
      | normal =>
        rw [hx1] at hr
        simp only [AExit.then]
        exact ih _ _ _ _ _ hr _ fun y hy' => hQ y (hy y hy')
      | exit id =>
        rw [hx1] at hr
        cases hr
        simp only [AExit.then]
        have := hQ x (hy x (List.mem_singleton.2 rfl))
        rwa [hx1] at this
      | ret =>
        rw [hx1] at hr
        cases hr
        simp only [AExit.then]
        have := hQ x (hy x (List.mem_singleton.2 rfl))
        rwa [hx1] at this
    · rename_i c x y
      simp only [codeVc]
      split at h
      case h_2 => cases h
      rename_i b hb
      simp only [hb]
      cases b with
      | true => exact ih _ _ _ _ _ h _ hQ
      | false => exact ih _ _ _ _ _ h _ hQ
    · rename_i id c
      obtain ⟨l', h1, h2⟩ := andThen_ok h
      simp only [codeVc]
      refine ih _ _ _ _ _ h1 _ fun x hx => ?_
      obtain ⟨r, hr, hy⟩ := h2 x hx
      cases hx1 : x.1 with
      | normal =>
        rw [hx1] at hr
        cases hr
        simp only [AExit.inBlock]
        have := hQ x (hy x (List.mem_singleton.2 rfl))
        rwa [hx1] at this
      | ret =>
        rw [hx1] at hr
        cases hr
        simp only [AExit.inBlock]
        have := hQ x (hy x (List.mem_singleton.2 rfl))
        rwa [hx1] at this
      | exit id' =>
        rw [hx1] at hr
        simp only [AExit.inBlock]
        simp only [cb] at hr
        split at hr
        · rename_i he
          cases hr
          rw [if_pos he]
          exact hQ _ (hy _ (List.mem_singleton.2 rfl))
        · rename_i he
          cases hr
          rw [if_neg he]
          have := hQ x (hy x (List.mem_singleton.2 rfl))
          rwa [hx1] at this
    · rename_i c
      simp only [codeVc]
      -- the rounds that are left
      have hl : ∀ (k : Nat) (fr : FT) (m : M) (l : List OutX), runX C gl ext (k + 1) n (.loop c) fr m = some l → ∃ l', andThen (runX C gl ext k n c fr m) (fun x => match x.1 with
          | .normal => runX C gl ext k n (.loop c) x.2.1 x.2.2
          | _ => some [x]) = some l' ∧ ∀ x, x ∈ l' → x ∈ l := by
        intro k fr m l h
        change stepX C gl ext (runX C gl ext k) n (.loop c) fr m = some l at h
        unfold stepX at h
        simp only at h
        split at h
        · cases h
        · rename_i x hx
          cases h
          exact ⟨_, hx, fun _ h => h⟩
        · rename_i l' hl' 
          cases h
          exact ⟨_, hl', fun x hx => dedup_mem hx⟩
      refine ⟨fun j fr' σ' => ∃ f m l', fr' = f.den ∧ σ' = m.den ∧ j ≤ k + 1 ∧ runX C gl ext j n (.loop c) f m = some l' ∧ ∀ x, x ∈ l' → QA x.1 x.2.1.den x.2.2.den, k + 1, ⟨fr, m, l, rfl, rfl, Nat.le_refl _, ?_, hQ⟩, ?_⟩
      · change stepX C gl ext (runX C gl ext k) n (.loop c) fr m = some l
        unfold stepX
        exact h
      · rintro j fr' σ' ⟨f, m', l', rfl, rfl, hj, hrun, hQ'⟩
        cases j with
        | zero => cases hrun
        | succ j =>
          obtain ⟨l2, h1, h2⟩ := hl j f m' l' hrun
          obtain ⟨l3, h3, h4⟩ := andThen_ok h1
          refine ihS j (by omega) _ _ _ _ _ h3 _ fun x hx => ?_
          obtain ⟨r, hr, hy⟩ := h4 x hx
          cases hx1 : x.1 with
          | normal =>
            rw [hx1] at hr
            simp only [AExit.then]
            exact ⟨j, Nat.lt_succ_self j, x.2.1, x.2.2, r, rfl, rfl, by omega, hr, fun y hy' => hQ' y (h2 y (hy y hy'))⟩
          | exit id =>
            rw [hx1] at hr
            cases hr
            simp only [AExit.then]
            have := hQ' x (h2 x (hy x (List.mem_singleton.2 rfl)))
            rwa [hx1] at this
          | ret =>
            rw [hx1] at hr
            cases hr
            simp only [AExit.then]
            have := hQ' x (h2 x (hy x (List.mem_singleton.2 rfl)))
            rwa [hx1] at this
    · cases h; exact hQ _ (List.mem_singleton.2 rfl)
    · cases h; exact hQ _ (List.mem_singleton.2 rfl)
    · rename_i g ps as bo
      simp only [codeVc]
      unfold rangeFuncVc
      split at h
      case h_2 => cases h
      rename_i gid first cap hev
      simp only [hev]
      rw [Bool.cond_eq_ite] at h
      split at h
      case isFalse => cases h
      rename_i hb
      refine ⟨hb, ?_⟩
      obtain ⟨l', h1, h2⟩ := andThen_ok h
      have := hcall false gid _ _ _ h1 (fun _ σ' => afterLoop QA fr.den m.next σ') fun v m' hm => ?_
      · simp only [cond_false, M.alloc_den] at this
        exact this
      · obtain ⟨r, hr, hy⟩ := h2 _ hm
        unfold afterLoop
        simp only at hr
        split at hr
        · cases hr
        · rename_i st pe f p a b hnb hk
          have key : (match (generalizing := false) pe with
              | none => QA .normal fr.den (m'.den.kill m.next)
              | some .ret => QA .ret fr.den (m'.den.kill m.next)
              | some (.exit id) => QA (.exit id) fr.den (m'.den.kill m.next)
              | _ => False) := by
            split at hr
            · cases hr
              have := hQ _ (hy _ (List.mem_singleton.2 rfl))
              rw [M.kill_den] at this
              exact this
            · cases hr
              have := hQ _ (hy _ (List.mem_singleton.2 rfl))
              rw [M.kill_den] at this
              exact this
            · cases hr
              have := hQ _ (hy _ (List.mem_singleton.2 rfl))
              rw [M.kill_den] at this
              exact this
            · cases hr
          rw [hk]
          cases st with
          | busy => exact (hnb rfl).elim
          | ready => exact key
          | done => exact key
          | exhausted => exact key
        · cases hr
    · cases h
end
end Go.Proofs.YthpngchngnaloaaGreatDoor.Vm

/-! A program's types, as the abstract machine looks at them; a closed call. -/
namespace Go.Proofs.YthpngchngnaloaaGreatDoor.Vm

def shZ : AV → Sh
  | .int k _ => .int k
  | .bool _ => .bool
  | .str _ => .str
  | .ptr _ => .ptr
  | .slice .. => .slice
  | .map _ => .map
  | _ => .raw
def plainFieldB (P : Program) (f : Field) (i : Nat) (s : Sh) : Bool :=
  Nat.beq f.offset i && !(f.name == "_") &&
    match s, P.underlying f.type with
    | .bool, some .bool => true
    | .str, some .string => true
    | .int k, some (.int k') => decide (k = k')
    | _, _ => false
def plainFieldsB (P : Program) : List Field → Nat → List Sh → Bool
  | [], _, [] => true
  | f :: fs, i, s :: ss => plainFieldB P f i s && plainFieldsB P fs (i + 1) ss
  | _, _, _ => false
def plainB (P : Program) (t : TypeId) (sh : List Sh) : Bool :=
  match P.underlying t with
  | some (.struct fs) => plainFieldsB P fs.toList 0 sh && !P.stoodInHeld t && !P.eqGuardType P.depth t
  | _ => false
theorem plainField_ok {P : Program} {f : Field} {i : Nat} {s : Sh} (h : plainFieldB P f i s = true) : PlainField P f i s := by
  simp only [plainFieldB, Bool.and_eq_true, Nat.beq_eq, Bool.not_eq_true'] at h
  refine ⟨h.1.1, h.1.2, ?_⟩
  have h2 := h.2
  split at h2
  · assumption
  · assumption
  · rename_i e; simp only [decide_eq_true_eq] at h2; subst h2; exact e
  · cases h2
theorem plainFields_ok {P : Program} : ∀ {fs : List Field} {i : Nat} {ss : List Sh}, plainFieldsB P fs i ss = true → PlainFields P fs i ss
  | [], _, [], _ => trivial
  | [], _, _ :: _, h => by cases h
  | _ :: _, _, [], h => by cases h
  | f :: fs, i, s :: ss, h => by
    simp only [plainFieldsB, Bool.and_eq_true] at h
    exact ⟨plainField_ok h.1, plainFields_ok h.2⟩
theorem plain_ok {P : Program} {t : TypeId} {sh : List Sh} (h : plainB P t sh = true) : PlainStruct P t sh := by
  unfold plainB at h
  split at h
  case h_2 => cases h
  rename_i fs hu
  simp only [Bool.and_eq_true, Bool.not_eq_true'] at h
  refine ⟨h.1.2, h.2, ?_⟩
  rw [hu]
  exact plainFields_ok h.1.1
def tiOf (P : Program) (t : TypeId) : Option TI :=
  match P.underlying t, P.info? t with
  | some d, some i =>
    match i.zero with
    | some z =>
      cond (Nat.beq z.cells.size i.size && z.cells.toList.all (·.oneCell') && same (ofV z) (cond (tdOf d).isAgg (.agg (ofVs z.cells.toList)) ((ofVs z.cells.toList).headD .any)))
        (some ⟨tdOf d, i.size, i.bytes, ofVs z.cells.toList, (ofVs z.cells.toList).map shZ, plainB P t ((ofVs z.cells.toList).map shZ)⟩) none
    | none => none
  | _, _ => none
theorem tiOf_ok {P : Program} {t : TypeId} {x : TI} (h : tiOf P t = some x) : TIok P t x := by
  unfold tiOf at h
  split at h
  case h_2 => cases h
  rename_i d i hu hi
  split at h
  case h_2 => cases h
  rename_i z hz
  rw [Bool.cond_eq_ite] at h
  split at h
  case isFalse => cases h
  rename_i hc
  simp only [Bool.and_eq_true, Nat.beq_eq] at hc
  cases h
  refine ⟨⟨d, hu, rfl⟩, ⟨i, hi, rfl, rfl, z, hz, rfl, hc.1.1, fun v hv => List.all_eq_true.1 hc.1.2 v (by simpa using hv), ?_⟩, fun h => plain_ok h⟩
  rw [same_eq _ _ hc.2]
  unfold zeroAV
  simp only [Bool.cond_eq_ite]
/-- The context of a program: nothing is known of results. -/
def cxOf (P : Program) (hm : P.follows .mixedOrders = true) : Cx := ⟨P, tiOf P, fun _ _ h => tiOf_ok h, hm, fun _ => none⟩

/-- No function of the program is the one that the model answers by itself. -/
def noGor (P : Program) : Bool := P.funcs.toList.all fun fn => !(fn.name == "runtime.NumGoroutine")
theorem noGor_ok {P : Program} (h : noGor P = true) (g : Nat) (fn : Func) (hf : P.funcs[g]? = some fn) : (fn.name == "runtime.NumGoroutine") = false := by
  have := List.all_eq_true.1 h fn (by
    obtain ⟨hlt, rfl⟩ := Array.getElem?_eq_some_iff.1 hf
    simp)
  simpa using this

def okTrue : Outs (AV × M) → Bool
  | some l => l.all fun p => match p.1 with
    | .bool true => true
    | _ => false
  | none => false
theorem closed_ok {C : Cx} (hres : ∀ t, C.res t = none) {gl : List Nat} {ext : FuncId → Option (List AV → M → Outs (AV × M))} (hng : noGor C.P = true)
    (hext : ∀ g e, ext g = some e → ∀ args m l, e args m = some l → ∀ K : AV → AH → Prop, (∀ v m', (v, m') ∈ l → K v m'.den) → ACall C.P gl g args m.den K) (k : Nat) (g : FuncId) (args : List AV) (m : M)
    (h : okTrue (callX C ext (runX C gl ext k) false g args m) = true) : ACall C.P gl g args m.den fun v _ => v = .bool true := by
  cases hr : callX C ext (runX C gl ext k) false g args m with
  | none => rw [hr] at h; cases h
  | some l =>
    rw [hr] at h
    refine callX_ok (noGor_ok hng) hext (runX_ok hres (noGor_ok hng) hext k) false g args m l hr _ fun v m' hm => ?_
    have := List.all_eq_true.1 h _ hm
    simp only at this
    cases v with
    | bool b => cases b with
      | true => rfl
      | false => cases this
    | _ => cases this
end Go.Proofs.YthpngchngnaloaaGreatDoor.Vm

/-! Go's own comparison of strings, as the abstract machine carries it out. -/
namespace Go.Proofs.YthpngchngnaloaaGreatDoor.Vm

def cmpX : List AV → M → Outs (AV × M)
  | [.str a, .str b], m => some [(.int .i64 (Lib.compareBytes a b), m)]
  | _, _ => none
theorem cmp_acall {P : Program} {gl : List Nat} {g : FuncId} {fn : Func} (hf : P.funcs[g]? = some fn) (hname : (fn.name == "runtime.NumGoroutine") = false) (hb : fn.body.isNone = true) (hn : Extern.findNext fn = none)
    (he : Extern.find fn = some Extern.BytealgCompare.compare) {a b : List UInt8} {σ : AH} {K : AV → AH → Prop} (hK : K (.int .i64 (Lib.compareBytes a b)) σ) : ACall P gl g [.str a, .str b] σ K := by
  intro G ι w args' hr hgl hargs
  simp only [VRelL, VRel] at hargs
  obtain ⟨v, vs, rfl, rfl, u, us, rfl, rfl, rfl⟩ := hargs
  unfold CallR
  rw [run_callFunc_extern hf hname hb hn he]
  have := Lib.run_compareString (P := P) ⟨a.toArray⟩ ⟨b.toArray⟩ w
  rw [this]
  simp only [Result.andThen]
  refine ⟨_, σ, ι, hr, Ext.refl _ _, Nat.le_refl _, ?_, hK⟩
  simp only [VRel]
theorem cmpX_ok {P : Program} {gl : List Nat} {g : FuncId} {fn : Func} (hf : P.funcs[g]? = some fn) (hname : (fn.name == "runtime.NumGoroutine") = false) (hb : fn.body.isNone = true) (hn : Extern.findNext fn = none)
    (he : Extern.find fn = some Extern.BytealgCompare.compare) {args : List AV} {m : M} {l : List (AV × M)} (h : cmpX args m = some l) {K : AV → AH → Prop} (hK : ∀ v m', (v, m') ∈ l → K v m'.den) : ACall P gl g args m.den K := by
  unfold cmpX at h
  split at h
  · cases h
    exact cmp_acall hf hname hb hn he (hK _ _ (List.mem_singleton.2 rfl))
  · cases h
end Go.Proofs.YthpngchngnaloaaGreatDoor.Vm
