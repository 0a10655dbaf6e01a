/- The abstract machine, carried out: regions. -/
import Derived.Test.YthpngchngnaloaaGreatDoorVmX4
namespace Go.Proofs.YthpngchngnaloaaGreatDoor.Vm

/-! ### Equality -/
def cpSame : Cp → Cp → Bool
  | .k a, .k b => Nat.beq a b
  | .u, .u | .x, .x => true
  | _, _ => false
theorem cpSame_eq {a b : Cp} (h : cpSame a b = true) : a = b := by
  cases a <;> cases b <;> simp [cpSame] at h <;> simp_all
def placeSame : Option (Nat × Nat) → Option (Nat × Nat) → Bool
  | none, none => true
  | some (a, b), some (c, d) => Nat.beq a c && Nat.beq b d
  | _, _ => false
theorem placeSame_eq {a b : Option (Nat × Nat)} (h : placeSame a b = true) : a = b := by
  cases a <;> cases b <;> simp [placeSame] at h
  · rfl
  · rename_i p q; cases p; cases q; simp at h; simp [h]
mutual
def same : AV → AV → Bool
  | .any, .any => true
  | .int k n, .int k' n' => decide (k = k') && decide (n = n')
  | .bool b, .bool b' => b == b'
  | .str s, .str s' => s == s'
  | .ptr a, .ptr a' => placeSame a a'
  | .slice a n c, .slice a' n' c' => placeSame a a' && Nat.beq n n' && cpSame c c'
  | .map none, .map none => true
  | .map (some a), .map (some b) => Nat.beq a b
  | .func f x y, .func f' x' y' => Nat.beq f f' && sameL x x' && sameL y y'
  | .nilFunc, .nilFunc => true
  | .iface t x, .iface t' x' => Nat.beq t t' && same x x'
  | .nilIface, .nilIface => true
  | .agg l, .agg l' => sameL l l'
  | .tuple l, .tuple l' => sameL l l'
  | .yield a, .yield b => Nat.beq a b
  | _, _ => false
def sameL : List AV → List AV → Bool
  | [], [] => true
  | a :: as, b :: bs => same a b && sameL as bs
  | _, _ => false
end
mutual
theorem same_eq : ∀ (a b : AV), same a b = true → a = b
  | .any, b, h => by cases b <;> first | rfl | (simp only [same] at h; cases h)
  | .int k n, b, h => by cases b <;> simp [same] at h; simp [h]
  | .bool x, b, h => by cases b <;> simp [same] at h; simp [h]
  | .str s, b, h => by cases b <;> simp [same] at h; simp [h]
  | .ptr a, b, h => by cases b <;> simp [same] at h; simp [placeSame_eq h]
  | .slice a n c, b, h => by
    cases b <;> simp [same] at h
    rw [placeSame_eq h.1.1, h.1.2, cpSame_eq h.2]
  | .map none, b, h => by
    cases b with
    | map r => cases r with
      | none => rfl
      | some r => simp [same] at h
    | _ => simp [same] at h
  | .map (some a), b, h => by
    cases b with
    | map r => cases r with
      | none => simp [same] at h
      | some r => simp [same] at h; simp [h]
    | _ => simp [same] at h
  | .func f x y, b, h => by
    cases b <;> simp [same] at h
    rw [h.1.1, sameL_eq _ _ h.1.2, sameL_eq _ _ h.2]
  | .nilFunc, b, h => by cases b <;> first | rfl | (simp only [same] at h; cases h)
  | .iface t x, b, h => by
    cases b <;> simp [same] at h
    rw [h.1, same_eq _ _ h.2]
  | .nilIface, b, h => by cases b <;> first | rfl | (simp only [same] at h; cases h)
  | .agg l, b, h => by
    cases b <;> simp [same] at h
    rw [sameL_eq _ _ h]
  | .tuple l, b, h => by
    cases b <;> simp [same] at h
    rw [sameL_eq _ _ h]
  | .yield l, b, h => by
    cases b <;> simp [same] at h
    rw [h]
theorem sameL_eq : ∀ (a b : List AV), sameL a b = true → a = b
  | [], [], _ => rfl
  | [], _ :: _, h => by simp [sameL] at h
  | _ :: _, [], h => by simp [sameL] at h
  | a :: as, b :: bs, h => by
    simp [sameL] at h
    rw [same_eq _ _ h.1, sameL_eq _ _ h.2]
end
def ownSame : Own → Own → Bool
  | .ro, .ro => true
  | .grow a, .grow b => Nat.beq a b
  | .exact a, .exact b => Nat.beq a b
  | _, _ => false
theorem ownSame_eq {a b : Own} (h : ownSame a b = true) : a = b := by
  cases a <;> cases b <;> simp [ownSame] at h <;> simp_all
def entSame : List (AV × AV × Nat) → List (AV × AV × Nat) → Bool
  | [], [] => true
  | (a, b, c) :: l, (a', b', c') :: l' => same a a' && same b b' && Nat.beq c c' && entSame l l'
  | _, _ => false
theorem entSame_eq : ∀ {a b : List (AV × AV × Nat)}, entSame a b = true → a = b
  | [], [], _ => rfl
  | [], _ :: _, h => by simp [entSame] at h
  | _ :: _, [], h => by simp [entSame] at h
  | (a, b, c) :: l, (a', b', c') :: l', h => by
    simp [entSame] at h
    rw [same_eq _ _ h.1.1.1, same_eq _ _ h.1.1.2, h.1.2, entSame_eq h.2]
def natsSame : List Nat → List Nat → Bool
  | [], [] => true
  | a :: l, b :: l' => Nat.beq a b && natsSame l l'
  | _, _ => false
theorem natsSame_eq : ∀ {a b : List Nat}, natsSame a b = true → a = b
  | [], [], _ => rfl
  | [], _ :: _, h => by simp [natsSame] at h
  | _ :: _, [], h => by simp [natsSame] at h
  | a :: l, b :: l', h => by
    simp [natsSame] at h
    rw [h.1, natsSame_eq h.2]
def optN : Option Nat → Option Nat → Bool
  | none, none => true
  | some a, some b => Nat.beq a b
  | _, _ => false
theorem optN_eq {a b : Option Nat} (h : optN a b = true) : a = b := by
  cases a <;> cases b <;> simp [optN] at h <;> simp_all
def blkSame : Blk → Blk → Bool
  | .cells a o, .cells b o' => ownSame o o' && sameL a b
  | .map a c, .map b c' => Nat.beq c c' && entSame a b
  | .siter s p, .siter s' p' => Nat.beq p p' && s == s'
  | .miter a b c d, .miter a' b' c' d' => optN a a' && Nat.beq b b' && natsSame c c' && Nat.beq d d'
  | _, _ => false
theorem blkSame_eq {a b : Blk} (h : blkSame a b = true) : a = b := by
  cases a <;> cases b <;> simp [blkSame] at h
  · rw [ownSame_eq h.1, sameL_eq _ _ h.2]
  · rw [h.1, entSame_eq h.2]
  · rw [h.1, h.2]
  · rw [optN_eq h.1.1.1, h.1.1.2, natsSame_eq h.1.2, h.2]
def oblk : Option Blk → Option Blk → Bool
  | none, none => true
  | some a, some b => blkSame a b
  | _, _ => false
theorem oblk_eq {a b : Option Blk} (h : oblk a b = true) : a = b := by
  cases a <;> cases b <;> simp [oblk] at h
  · rfl
  · rw [blkSame_eq h]
def tSame {α : Type} (f : α → α → Bool) : T α → T α → Bool
  | .leaf, .leaf => true
  | .node v l r, .node v' l' r' => f v v' && tSame f l l' && tSame f r r'
  | _, _ => false
theorem tSame_eq {α : Type} {f : α → α → Bool} (hf : ∀ a b, f a b = true → a = b) : ∀ {a b : T α}, tSame f a b = true → a = b
  | .leaf, .leaf, _ => rfl
  | .leaf, .node .., h => by simp [tSame] at h
  | .node .., .leaf, h => by simp [tSame] at h
  | .node v l r, .node v' l' r', h => by
    simp [tSame] at h
    rw [hf _ _ h.1.1, tSame_eq hf h.1.2, tSame_eq hf h.2]
def mSame (a b : M) : Bool := Nat.beq a.next b.next && tSame oblk a.t b.t
theorem mSame_eq {a b : M} (h : mSame a b = true) : a = b := by
  cases a; cases b
  simp [mSame] at h
  rw [h.1, tSame_eq (fun _ _ => oblk_eq) h.2]

/-! ### Regions -/
variable {C : Cx}
def guardX (n : Nat) (ops : Array Oper) (fr : FT) (g : Option (Nat × Bool)) : Option Bool :=
  match g with
  | none => some true
  | some (j, want) =>
    match ops[j]? with
    | some oj =>
      match oj.dst with
      | some t => cond (Nat.blt t n)
          (match fr.den t with
           | .bool b => some (cond b want (!want))
           | .tuple [] => some false
           | _ => none) none
      | none => none
    | none => none
theorem guardX_ok {n : Nat} {ops : Array Oper} {fr : FT} {g : Option (Nat × Bool)} {run : Bool} {K : Bool → Fr → Prop} (h : guardX n ops fr g = some run) (hK : K run fr.den) : guardK n ops fr.den g K := by
  unfold guardX at h
  unfold guardK
  split at h
  · cases h; exact hK
  · rename_i j want
    split at h
    case h_2 => cases h
    rename_i oj hoj
    simp only [hoj]
    split at h
    case h_2 => cases h
    rename_i t ht
    simp only [ht]
    rw [Bool.cond_eq_ite] at h
    split at h
    case isFalse => cases h
    rename_i hlt
    simp only [Nat.blt_eq] at hlt
    rw [if_pos hlt]
    split at h
    · rename_i b hb
      cases h
      simp only [hb]
      have := setFr_self fr.den t
      rw [hb] at this
      cases b
      · simp only [cond_false, this] at hK ⊢; exact hK
      · simp only [cond_true, this] at hK ⊢; exact hK
    · rename_i hb
      cases h
      simp only [hb]
      exact hK
    · cases h
def opsX (C : Cx) (call : CallX) (gl : List Nat) (n : Nat) (ops : Array Oper) : List Nat → FT → M → Outs (FT × M)
  | [], fr, m => some [(fr, m)]
  | i :: is, fr, m =>
    match ops[i]? with
    | none => none
    | some o => match guardX n ops fr o.guard with
      | none => none
      | some run => cond run (andThen (opX C call true gl n o fr m) fun p => opsX C call gl n ops is (fr.put o.dst p.1) p.2)
          (opsX C call gl n ops is (fr.put o.dst (.tuple [])) m)
theorem opsX_ok (hres : ∀ t, C.res t = none) {call : CallX} {gl : List Nat} (hc : CallOk C.P gl call) {n : Nat} {ops : Array Oper} {K : Fr → AH → Prop} : ∀ {is : List Nat} {fr : FT} {m : M} {l : List (FT × M)},
    opsX C call gl n ops is fr m = some l → (∀ x, x ∈ l → K x.1.den x.2.den) → opsVc C gl true n ops K is fr.den m.den
  | [], fr, m, l, h, hK => by cases h; exact hK _ (List.mem_singleton.2 rfl)
  | i :: is, fr, m, l, h, hK => by
    simp only [opsX] at h
    simp only [opsVc]
    split at h
    case h_1 => cases h
    rename_i o ho
    split at h
    case h_1 => cases h
    rename_i run hg
    simp only [ho]
    refine guardX_ok hg ?_
    cases run with
    | true =>
      simp only [cond_true] at h ⊢
      obtain ⟨l', h1, h2⟩ := andThen_ok h
      refine opX_ok hres hc h1 fun v m' hm => ?_
      obtain ⟨b, hb, hy⟩ := h2 _ hm
      have := opsX_ok hres hc hb fun x hx => hK x (hy x hx)
      rwa [FT.put_den] at this
    | false =>
      simp only [cond_false] at h ⊢
      have := opsX_ok hres hc h hK
      rwa [FT.put_den] at this

def rngSame (a b : Option (List AV)) : Bool :=
  match a, b with
  | some x, some y => sameL x y
  | _, _ => false
def footX (σ σ' : AH) : Foot → Bool
  | .none => true
  | .rng (some (b, o)) n => rngSame (σ'.range b o n) (σ.range b o n)
  | .rng none _ => false
  | .blk b => oblk (σ'.get b) (σ.get b)
theorem footX_ok {σ σ' : AH} {f : Foot} (h : footX σ σ' f = true) : Foot.same σ σ' f := by
  unfold footX at h
  split at h
  · trivial
  · unfold rngSame at h
    split at h
    · rename_i h1 h2
      simp only [Foot.same, atP]
      rw [h1, h2, sameL_eq _ _ h]
    · cases h
  · cases h
  · exact oblk_eq h
def oblsX (pr : List Nat) (σ σ' : AH) : List (Nat × Foot) → Bool
  | [] => true
  | (j, f) :: r => cond (pr.contains j) (oblsX pr σ σ' r) (footX σ σ' f && oblsX pr σ σ' r)
theorem oblsX_ok {pr : List Nat} {σ σ' : AH} : ∀ {l : List (Nat × Foot)}, oblsX pr σ σ' l = true → obls pr σ σ' l
  | [], _ => trivial
  | (j, f) :: r, h => by
    simp only [oblsX, Bool.cond_eq_ite] at h
    simp only [obls]
    split at h
    · rename_i hc; rw [if_pos hc]; exact oblsX_ok h
    · rename_i hc
      rw [if_neg hc]
      simp only [Bool.and_eq_true] at h
      exact ⟨footX_ok h.1, oblsX_ok h.2⟩
def drawX (C : Cx) (call : CallX) (gl : List Nat) (n : Nat) (ops : Array Oper) (pr : List (List Nat)) : List Nat → List (Nat × Foot) → FT → M → Outs (FT × M)
  | [], _, fr, m => some [(fr, m)]
  | i :: is, log, fr, m =>
    match ops[i]? with
    | none => none
    | some o => match guardX n ops fr o.guard with
      | none => none
      | some run => cond run
          (match cls C o with
           | .heavy => andThen (opX C call false gl n o fr m) fun p => cond (oblsX (pr.getD i []) m.den p.2.den log) (drawX C call gl n ops pr is log (fr.put o.dst p.1) p.2) none
           | .pure => andThen (opX C call false gl n o fr m) fun p => drawX C call gl n ops pr is log (fr.put o.dst p.1) p.2
           | _ => andThen (opX C call false gl n o fr m) fun p => drawX C call gl n ops pr is ((i, footOf C gl n o fr.den m.den) :: log) (fr.put o.dst p.1) p.2)
          (drawX C call gl n ops pr is log (fr.put o.dst (.tuple [])) m)
theorem drawX_ok (hres : ∀ t, C.res t = none) {call : CallX} {gl : List Nat} (hc : CallOk C.P gl call) {n : Nat} {ops : Array Oper} {pr : List (List Nat)} {K : Fr → AH → Prop} : ∀ {is : List Nat} {log : List (Nat × Foot)} {fr : FT} {m : M} {l : List (FT × M)},
    drawX C call gl n ops pr is log fr m = some l → (∀ x, x ∈ l → K x.1.den x.2.den) → drawVc C gl n ops pr K is log fr.den m.den
  | [], log, fr, m, l, h, hK => by cases h; exact hK _ (List.mem_singleton.2 rfl)
  | i :: is, log, fr, m, l, h, hK => by
    simp only [drawX] at h
    simp only [drawVc]
    split at h
    case h_1 => cases h
    rename_i o ho
    split at h
    case h_1 => cases h
    rename_i run hg
    simp only [ho]
    refine guardX_ok hg ?_
    cases run with
    | true =>
      simp only [cond_true] at h ⊢
      split at h
      · rename_i hcl
        simp only [hcl]
        obtain ⟨l', h1, h2⟩ := andThen_ok h
        refine opX_ok hres hc h1 fun v m' hm => ?_
        obtain ⟨b, hb, hy⟩ := h2 _ hm
        rw [Bool.cond_eq_ite] at hb
        split at hb
        case isFalse => cases hb
        rename_i ho
        have := drawX_ok hres hc hb fun x hx => hK x (hy x hx)
        rw [FT.put_den] at this
        exact ⟨oblsX_ok ho, this⟩
      · rename_i hcl
        simp only [hcl]
        obtain ⟨l', h1, h2⟩ := andThen_ok h
        refine opX_ok hres hc h1 fun v m' hm => ?_
        obtain ⟨b, hb, hy⟩ := h2 _ hm
        have := drawX_ok hres hc hb fun x hx => hK x (hy x hx)
        rwa [FT.put_den] at this
      · rename_i hc1 hc2
        obtain ⟨l', h1, h2⟩ := andThen_ok h
        have := opX_ok (K := fun v σ' => drawVc C gl n ops pr K is ((i, footOf C gl n o fr.den m.den) :: log) (setFr fr.den o.dst v) σ') hres hc h1 fun v m' hm => by
          obtain ⟨b, hb, hy⟩ := h2 _ hm
          have := drawX_ok hres hc hb fun x hx => hK x (hy x hx)
          rwa [FT.put_den] at this
        split
        · exact absurd (by assumption) hc1
        · exact absurd (by assumption) hc2
        · exact this
    | false =>
      simp only [cond_false] at h ⊢
      have := drawX_ok hres hc h hK
      rwa [FT.put_den] at this
end Go.Proofs.YthpngchngnaloaaGreatDoor.Vm
