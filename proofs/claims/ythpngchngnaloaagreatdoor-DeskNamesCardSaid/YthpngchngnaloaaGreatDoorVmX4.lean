/- The abstract machine, carried out: operations, regions, code, calls. -/
import Derived.Test.YthpngchngnaloaaGreatDoorVmX3
namespace Go.Proofs.YthpngchngnaloaaGreatDoor.Vm
abbrev Outs (α : Type) := Option (List α)
def flat {α β : Type} : List α → (α → Outs β) → Outs β
  | [], _ => some []
  | x :: xs, f => match f x with
    | none => none
    | some a => match flat xs f with
      | none => none
      | some b => some (a ++ b)
theorem flat_mem {α β : Type} {f : α → Outs β} : ∀ {l : List α} {r : List β}, flat l f = some r → ∀ x, x ∈ l → ∃ a, f x = some a ∧ ∀ y, y ∈ a → y ∈ r
  | [], r, h, x, hx => by cases hx
  | y :: ys, r, h, x, hx => by
    simp only [flat] at h
    split at h
    case h_1 => cases h
    rename_i a ha
    split at h
    case h_1 => cases h
    rename_i b hb
    cases h
    rcases List.mem_cons.1 hx with rfl | hx
    · exact ⟨a, ha, fun y hy => by simp [hy]⟩
    · obtain ⟨a', h1, h2⟩ := flat_mem hb x hx
      exact ⟨a', h1, fun y hy => by simp [h2 y hy]⟩
/-- All outcomes go on. -/
def andThen {α β : Type} (x : Outs α) (f : α → Outs β) : Outs β :=
  match x with
  | none => none
  | some [a] => f a
  | some l => flat l f
theorem andThen_ok {α β : Type} {x : Outs α} {f : α → Outs β} {r : List β} (h : andThen x f = some r) : ∃ l, x = some l ∧ ∀ a, a ∈ l → ∃ b, f a = some b ∧ ∀ y, y ∈ b → y ∈ r := by
  unfold andThen at h
  split at h
  · cases h
  · rename_i a
    exact ⟨_, rfl, fun b hb => by rw [List.mem_singleton.1 hb]; exact ⟨r, h, fun y hy => hy⟩⟩
  · rename_i l
    exact ⟨_, rfl, flat_mem h⟩

variable {C : Cx}
/-- A call of a function; or, where the first word is true, of what a loop over a function has handed out. -/
abbrev CallX := Bool → Nat → List AV → M → Outs (AV × M)
/-- Calls that are carried out are calls. -/
def CallOk (P : Program) (gl : List Nat) (call : CallX) : Prop := ∀ y g args m l, call y g args m = some l → ∀ K : AV → AH → Prop, (∀ v m', (v, m') ∈ l → K v m'.den) → (bif y then AYield P gl g args m.den K else ACall P gl g args m.den K)

def okV (x : Option AV) (m : M) : Outs (AV × M) :=
  match x with
  | some v => some [(v, m)]
  | none => none
def okU (x : Option M) : Outs (AV × M) :=
  match x with
  | some m => some [(.tuple [], m)]
  | none => none
def okP (x : Option (AV × M)) : Outs (AV × M) :=
  match x with
  | some p => some [p]
  | none => none
theorem okV_ok {x : Option AV} {m : M} {l : List (AV × M)} (h : okV x m = some l) : ∃ v, x = some v ∧ l = [(v, m)] := by
  unfold okV at h; split at h <;> cases h; exact ⟨_, rfl, rfl⟩
theorem okU_ok {x : Option M} {l : List (AV × M)} (h : okU x = some l) : ∃ m, x = some m ∧ l = [(.tuple [], m)] := by
  unfold okU at h; split at h <;> cases h; exact ⟨_, rfl, rfl⟩
theorem okP_ok {x : Option (AV × M)} {l : List (AV × M)} (h : okP x = some l) : ∃ p, x = some p ∧ l = [p] := by
  unfold okP at h; split at h <;> cases h; exact ⟨_, rfl, rfl⟩

def capX (a : Option (Nat × Nat)) (n : Nat) (c : Cp) (σ : AH) : Option AV :=
  match c, a with
  | .k c, _ => some (.int .i64 c)
  | .u, some (b, o) => (match σ.get b with
    | some (.cells cs (.exact sz)) => cond (Nat.blt 0 sz && Nat.ble (o + n * sz) cs.length) (some (.int .i64 ((cs.length - o) / sz : Nat))) none
    | _ => none)
  | _, _ => none
theorem capX_ok {a : Option (Nat × Nat)} {n : Nat} {c : Cp} {σ : AH} {v : AV} {K : AV → AH → Prop} (h : capX a n c σ = some v) (hK : K v σ) : capVc a n c σ K := by
  unfold capX at h
  unfold capVc
  split at h
  · cases h; exact hK
  · split at h
    case h_2 => cases h
    rename_i cs sz hg
    rw [Bool.cond_eq_ite] at h
    split at h
    case isFalse => cases h
    rename_i hc
    simp only [Bool.and_eq_true, Nat.blt_eq, Nat.ble_eq] at hc
    cases h
    exact ⟨cs, .exact sz, sz, hg, rfl, hc.1, hc.2, by simpa only [Own.full, if_true] using hK⟩
  · cases h
def callOpX (C : Cx) (call : CallX) (gl : List Nat) (n : Nat) (c : Call) (fr : FT) (m : M) : Outs (AV × M) :=
  match c.callee with
  | .value f =>
    (match ev gl n fr.den f with
     | .func g first cap => call false g (first ++ c.args.toList.map (ev gl n fr.den) ++ cap) m
     | .yield b => call true b (c.args.toList.map (ev gl n fr.den)) m
     | _ => none)
  | .invoke _ _ => none
  | .builtin b =>
    match b with
    | .append => okP (appendX C c.argTypes.toList (c.args.toList.map (ev gl n fr.den)) m)
    | .copy => okP (copyX C c.argTypes.toList (c.args.toList.map (ev gl n fr.den)) m)
    | .clear => okP (clearX C c.argTypes.toList (c.args.toList.map (ev gl n fr.den)) m)
    | .delete => okP (deleteX C c.argTypes.toList (c.args.toList.map (ev gl n fr.den)) m)
    | .len => (match c.argTypes.toList, c.args.toList with
      | t :: _, x :: _ => okV (lenX C t (ev gl n fr.den x) m.den) m
      | _, _ => none)
    | .cap => (match c.argTypes.toList, c.args.toList with
      | t :: _, x :: _ => (match C.ti t, ev gl n fr.den x with
        | some ti, .slice a q e => (match ti.d with
          | .slice _ => okV (capX a q e m.den) m
          | _ => none)
        | _, _ => none)
      | _, _ => none)
    | .max => (match c.args.toList.map (ev gl n fr.den) with
      | .int k a :: r => okV (maxX max2 k a r) m
      | _ => none)
    | .min => (match c.args.toList.map (ev gl n fr.den) with
      | .int k a :: r => okV (maxX min2 k a r) m
      | _ => none)
    | _ => none
theorem callOpX_ok (hres : ∀ t, C.res t = none) {call : CallX} {gl : List Nat} (hc : CallOk C.P gl call) {n : Nat} {c : Call} {t : TypeId} {fr : FT} {m : M} {l : List (AV × M)} {K : AV → AH → Prop} (h : callOpX C call gl n c fr m = some l)
    (hK : ∀ v m', (v, m') ∈ l → K v m'.den) : callVc C gl n c t fr.den m.den K := by
  unfold callOpX at h
  unfold callVc
  split at h
  · rename_i f hf
    simp only [hf]
    split at h
    case h_3 => cases h
    case h_2 =>
      rename_i b he
      simp only [he]
      exact hc true b _ m l h K hK
    rename_i g first cap he
    simp only [he]
    refine hc false g _ m l h _ fun v m' hm => ?_
    rw [hres t]
    exact hK v m' hm
  · cases h
  · rename_i b hb
    simp only [hb]
    split at h
    · obtain ⟨p, h1, rfl⟩ := okP_ok h; exact appendX_ok h1 (hK _ _ (List.mem_singleton.2 rfl))
    · obtain ⟨p, h1, rfl⟩ := okP_ok h; exact copyX_ok h1 (hK _ _ (List.mem_singleton.2 rfl))
    · obtain ⟨p, h1, rfl⟩ := okP_ok h; exact clearX_ok h1 (hK _ _ (List.mem_singleton.2 rfl))
    · obtain ⟨p, h1, rfl⟩ := okP_ok h; exact deleteX_ok h1 (hK _ _ (List.mem_singleton.2 rfl))
    · split at h
      case h_2 => cases h
      rename_i t ts x xs ht hx
      simp only [ht, hx]
      obtain ⟨v, h1, rfl⟩ := okV_ok h; exact lenX_ok h1 (hK _ _ (List.mem_singleton.2 rfl))
    · split at h
      case h_2 => cases h
      rename_i t ts x xs ht hx
      simp only [ht, hx]
      split at h
      case h_2 => cases h
      rename_i ti a q e hti hev
      simp only [hti, hev]
      split at h
      case h_2 => cases h
      rename_i el hd
      simp only [hd]
      obtain ⟨v, h1, rfl⟩ := okV_ok h; exact capX_ok h1 (hK _ _ (List.mem_singleton.2 rfl))
    · split at h
      case h_2 => cases h
      rename_i k a r hl
      simp only [hl]
      obtain ⟨v, h1, rfl⟩ := okV_ok h; exact maxX_ok h1 (hK _ _ (List.mem_singleton.2 rfl))
    · split at h
      case h_2 => cases h
      rename_i k a r hl
      simp only [hl]
      obtain ⟨v, h1, rfl⟩ := okV_ok h; exact maxX_ok h1 (hK _ _ (List.mem_singleton.2 rfl))
    · cases h

def opX (C : Cx) (call : CallX) (wide : Bool) (gl : List Nat) (n : Nat) (o : Oper) (fr : FT) (m : M) : Outs (AV × M) :=
  match o.op with
  | .move x | .assign x => some [(ev gl n fr.den x, m)]
  | .pick c a b => (match ev gl n fr.den c with
    | .bool t => some [(cond t (ev gl n fr.den a) (ev gl n fr.den b), m)]
    | _ => none)
  | .alloc t => (match C.ti t with
    | some ti => okP (newX ti.zero m)
    | none => none)
  | .box _ x => okP (newX (ev gl n fr.den x).cells m)
  | .build t ps => okV (buildX C t (ps.toList.map fun p => (p.1, ev gl n fr.den p.2))) m
  | .buildSlice t len ps => okP (buildSliceX C t len (ps.toList.map fun p => (p.1, ev gl n fr.den p.2)) m)
  | .load t a => okV (loadX C t (ev gl n fr.den a) m.den) m
  | .store t a x => okU (storeX C t (ev gl n fr.den a) (ev gl n fr.den x) m)
  | .nilCheck x => (match ev gl n fr.den x with
    | .ptr (some (b, o)) => some [(.ptr (some (b, o)), m)]
    | .func f fs cs => some [(.func f fs cs, m)]
    | _ => none)
  | .binOp op t x y _ => okV (binX C op t (ev gl n fr.den x) (ev gl n fr.den y)) m
  | .unOp op _ x => okV (unX op (ev gl n fr.den x)) m
  | .convert s d x => okP (convX C s d (ev gl n fr.den x) m)
  | .makeInterface t x => (match C.ti t with
    | some ti => (match ti.d with
      | .iface => none
      | .other => none
      | _ => some [(.iface t (ev gl n fr.den x), m)])
    | none => none)
  | .makeFunc fn first cap => (match fn with
    | .func f => some [(.func f (first.toList.map (ev gl n fr.den)) (cap.toList.map (ev gl n fr.den)), m)]
    | _ => none)
  | .makeMap t r => (match r with
    | none => some [(.map (some m.next), m.alloc (.map [] 0))]
    | some x => (match ev gl n fr.den x, C.ti t with
      | .int _ _, some ti => (match ti.d with
        | .map _ _ => some [(.map (some m.next), m.alloc (.map [] 0))]
        | _ => none)
      | _, _ => none))
  | .makeSlice t l c => okP (makeSliceX C t (ev gl n fr.den l) (ev gl n fr.den c) m)
  | .slice t x lo hi mx => okV (sliceX C wide t (ev gl n fr.den x) (optE gl n fr.den lo) (optE gl n fr.den hi) (optE gl n fr.den mx) m.den) m
  | .fieldAddr s x f => okV (fieldAddrX C s (ev gl n fr.den x) f) m
  | .field t x f => okV (fieldX C t (ev gl n fr.den x) f) m
  | .indexAddr t x i => okV (indexAddrX C t (ev gl n fr.den x) (ev gl n fr.den i)) m
  | .index t x i => okV (indexX C t (ev gl n fr.den x) (ev gl n fr.den i)) m
  | .lookup t x i ok => okV (lookupX C t (ev gl n fr.den x) (ev gl n fr.den i) ok m.den) m
  | .mapUpdate t q k x | .insert t q k x => okU (mapPutX C t (ev gl n fr.den q) (ev gl n fr.den k) (ev gl n fr.den x) m)
  | .mapEntry t q k => okP (mapEntryX C t (ev gl n fr.den q) (ev gl n fr.den k) m)
  | .entryStore _ q s x => okU (entryStoreX (ev gl n fr.den q) (ev gl n fr.den s) (ev gl n fr.den x) m)
  | .range t x => okP (rangeX C t (ev gl n fr.den x) m)
  | .next it b => nextX (ev gl n fr.den it) b m
  | .typeAssert x _ t ok => okV (assertX C (ev gl n fr.den x) t ok) m
  | .extract t i => (match ev gl n fr.den t with
    | .tuple vs => okV vs[i]? m
    | _ => none)
  | .call c => callOpX C call gl n c fr m
  | _ => none
set_option maxHeartbeats 1000000 in
theorem opX_ok (hres : ∀ t, C.res t = none) {call : CallX} {gl : List Nat} (hc : CallOk C.P gl call) {n : Nat} {o : Oper} {fr : FT} {m : M} {l : List (AV × M)} {K : AV → AH → Prop} {wide : Bool} (h : opX C call wide gl n o fr m = some l)
    (hK : ∀ v m', (v, m') ∈ l → K v m'.den) : opVc C gl wide n o fr.den m.den K := by
  unfold opX at h
  split at h
  · rename_i e; unfold opVc; rw [e]; cases h; exact hK _ _ (List.mem_singleton.2 rfl)
  · rename_i e; unfold opVc; rw [e]; cases h; exact hK _ _ (List.mem_singleton.2 rfl)
  · rename_i c a b e
    unfold opVc; rw [e]
    split at h
    case h_2 => cases h
    rename_i t he
    cases h
    simp only [he]
    have := hK _ _ (List.mem_singleton.2 rfl)
    cases t <;> exact this
  · rename_i t e
    unfold opVc; rw [e]
    split at h
    case h_2 => cases h
    rename_i ti hti
    simp only [hti]
    obtain ⟨p, h1, rfl⟩ := okP_ok h; exact newX_ok h1 (hK _ _ (List.mem_singleton.2 rfl))
  · rename_i e; unfold opVc; rw [e]
    obtain ⟨p, h1, rfl⟩ := okP_ok h; exact newX_ok h1 (hK _ _ (List.mem_singleton.2 rfl))
  · rename_i e; unfold opVc; rw [e]
    obtain ⟨p, h1, rfl⟩ := okV_ok h; exact buildX_ok (K := fun v => K v m.den) h1 (hK _ _ (List.mem_singleton.2 rfl))
  · rename_i e; unfold opVc; rw [e]
    obtain ⟨p, h1, rfl⟩ := okP_ok h; exact buildSliceX_ok h1 (hK _ _ (List.mem_singleton.2 rfl))
  · rename_i e; unfold opVc; rw [e]
    obtain ⟨p, h1, rfl⟩ := okV_ok h; exact loadX_ok (K := fun v => K v m.den) h1 (hK _ _ (List.mem_singleton.2 rfl))
  · rename_i e; unfold opVc; rw [e]
    obtain ⟨p, h1, rfl⟩ := okU_ok h; exact storeX_ok (K := fun σ' => K (.tuple []) σ') h1 (hK _ _ (List.mem_singleton.2 rfl))
  · rename_i x e
    unfold opVc; rw [e]
    split at h
    · rename_i b o he
      cases h
      simp only [he]
      exact hK _ _ (List.mem_singleton.2 rfl)
    · rename_i f fs cs he
      cases h
      simp only [he]
      exact hK _ _ (List.mem_singleton.2 rfl)
    · cases h
  · rename_i e; unfold opVc; rw [e]
    obtain ⟨p, h1, rfl⟩ := okV_ok h; exact binX_ok (K := fun v => K v m.den) h1 (hK _ _ (List.mem_singleton.2 rfl))
  · rename_i e; unfold opVc; rw [e]
    obtain ⟨p, h1, rfl⟩ := okV_ok h; exact unX_ok (K := fun v => K v m.den) h1 (hK _ _ (List.mem_singleton.2 rfl))
  · rename_i e; unfold opVc; rw [e]
    obtain ⟨p, h1, rfl⟩ := okP_ok h; exact convX_ok h1 (hK _ _ (List.mem_singleton.2 rfl))
  · rename_i t x e
    unfold opVc; rw [e]
    split at h
    case h_2 => cases h
    rename_i ti hti
    simp only [hti]
    split at h
    · cases h
    · cases h
    · rename_i n1 n2
      cases h
      split
      · exact absurd (by assumption) n1
      · exact absurd (by assumption) n2
      · exact hK _ _ (List.mem_singleton.2 rfl)
  · rename_i fn first cap e
    unfold opVc; rw [e]
    split at h
    case h_2 => cases h
    cases h
    exact hK _ _ (List.mem_singleton.2 rfl)
  · rename_i t r e
    unfold opVc; rw [e]
    split at h
    · cases h
      have := hK _ _ (List.mem_singleton.2 rfl)
      rw [M.alloc_den] at this
      exact this
    · split at h
      case h_2 => cases h
      rename_i k i ti he hti
      simp only [he, hti]
      split at h
      case h_2 => cases h
      rename_i hd
      simp only [hd]
      cases h
      have := hK _ _ (List.mem_singleton.2 rfl)
      rw [M.alloc_den] at this
      exact this
  · rename_i e; unfold opVc; rw [e]
    obtain ⟨p, h1, rfl⟩ := okP_ok h; exact makeSliceX_ok h1 (hK _ _ (List.mem_singleton.2 rfl))
  · rename_i e; unfold opVc; rw [e]
    obtain ⟨p, h1, rfl⟩ := okV_ok h; exact sliceX_ok (K := fun v => K v m.den) h1 (hK _ _ (List.mem_singleton.2 rfl))
  · rename_i e; unfold opVc; rw [e]
    obtain ⟨p, h1, rfl⟩ := okV_ok h; exact fieldAddrX_ok (K := fun v => K v m.den) h1 (hK _ _ (List.mem_singleton.2 rfl))
  · rename_i e; unfold opVc; rw [e]
    obtain ⟨p, h1, rfl⟩ := okV_ok h; exact fieldX_ok (K := fun v => K v m.den) h1 (hK _ _ (List.mem_singleton.2 rfl))
  · rename_i e; unfold opVc; rw [e]
    obtain ⟨p, h1, rfl⟩ := okV_ok h; exact indexAddrX_ok (K := fun v => K v m.den) h1 (hK _ _ (List.mem_singleton.2 rfl))
  · rename_i e; unfold opVc; rw [e]
    obtain ⟨p, h1, rfl⟩ := okV_ok h; exact indexX_ok (K := fun v => K v m.den) h1 (hK _ _ (List.mem_singleton.2 rfl))
  · rename_i e; unfold opVc; rw [e]
    obtain ⟨p, h1, rfl⟩ := okV_ok h; exact lookupX_ok (K := fun v => K v m.den) h1 (hK _ _ (List.mem_singleton.2 rfl))
  · rename_i e; unfold opVc; rw [e]
    obtain ⟨p, h1, rfl⟩ := okU_ok h; exact mapPutX_ok (K := fun σ' => K (.tuple []) σ') h1 (hK _ _ (List.mem_singleton.2 rfl))
  · rename_i e; unfold opVc; rw [e]
    obtain ⟨p, h1, rfl⟩ := okU_ok h; exact mapPutX_ok (K := fun σ' => K (.tuple []) σ') h1 (hK _ _ (List.mem_singleton.2 rfl))
  · rename_i e; unfold opVc; rw [e]
    obtain ⟨p, h1, rfl⟩ := okP_ok h; exact mapEntryX_ok h1 (hK _ _ (List.mem_singleton.2 rfl))
  · rename_i e; unfold opVc; rw [e]
    obtain ⟨p, h1, rfl⟩ := okU_ok h; exact entryStoreX_ok (K := fun σ' => K (.tuple []) σ') h1 (hK _ _ (List.mem_singleton.2 rfl))
  · rename_i e; unfold opVc; rw [e]
    obtain ⟨p, h1, rfl⟩ := okP_ok h; exact rangeX_ok h1 (hK _ _ (List.mem_singleton.2 rfl))
  · rename_i e; unfold opVc; rw [e]
    exact nextX_ok h hK
  · rename_i e; unfold opVc; rw [e]
    obtain ⟨p, h1, rfl⟩ := okV_ok h; exact assertX_ok (K := fun v => K v m.den) h1 (hK _ _ (List.mem_singleton.2 rfl))
  · rename_i t i e
    unfold opVc; rw [e]
    split at h
    case h_2 => cases h
    rename_i vs he
    simp only [he]
    obtain ⟨p, h1, rfl⟩ := okV_ok h
    simp only [h1]
    exact hK _ _ (List.mem_singleton.2 rfl)
  · rename_i c e
    unfold opVc; rw [e]
    exact callOpX_ok hres hc h hK
  · cases h
end Go.Proofs.YthpngchngnaloaaGreatDoor.Vm
