/- Operations whose order is open: soundness. -/
import Derived.Test.YthpngchngnaloaaGreatDoorVmS16
namespace Go.Proofs.YthpngchngnaloaaGreatDoor.Vm
open RowKit (Below)

theorem pigeon : ∀ (n : Nat) (S : List Nat), S.Nodup → (∀ i ∈ S, i < n) → S.length ≤ n
  | 0, [], _, _ => Nat.le_refl _
  | 0, i :: S, _, h => absurd (h i (by simp)) (by omega)
  | n + 1, S, hn, h => by
    have h1 := pigeon n (S.erase n) (hn.erase n) fun i hi => by
      have h2 := (hn.mem_erase_iff).1 hi
      have := h i h2.2
      have := h2.1
      omega
    rw [List.length_erase] at h1
    split at h1 <;> omega

theorem Foot.same_refl {σ : AH} {f : Foot} (h : Foot.wf σ f) : Foot.same σ σ f := by
  cases f with
  | none => trivial
  | rng a n =>
    obtain ⟨b, o, rfl, _⟩ := atP_some h
    rfl
  | blk b => rfl
theorem Foot.same_trans {σ σ' σ'' : AH} {f : Foot} (h : Foot.same σ σ' f) (h' : Foot.same σ' σ'' f) : Foot.same σ σ'' f := by
  cases f with
  | none => trivial
  | rng a n =>
    obtain ⟨b, o, rfl, h⟩ := atP_some h
    exact Eq.trans h' h
  | blk b => exact Eq.trans h' h
theorem Foot.wf_le {σ σ' : AH} {f : Foot} (h : Foot.wf σ f) (hn : σ.next ≤ σ'.next) : Foot.wf σ' f := by
  cases f with
  | none => trivial
  | rng a n =>
    obtain ⟨b, o, rfl, h⟩ := atP_some h
    exact Nat.lt_of_lt_of_le h hn
  | blk b => exact Nat.lt_of_lt_of_le h hn
theorem Foot.same_alloc {σ : AH} {f : Foot} (h : Foot.wf σ f) (k : Blk) : Foot.same σ (σ.alloc k) f := by
  cases f with
  | none => trivial
  | rng a n =>
    obtain ⟨b, o, rfl, h⟩ := atP_some h
    simp only [Foot.same, atP, AH.range, AH.alloc_get]
    rw [if_neg (by omega)]
  | blk b =>
    simp only [Foot.wf] at h
    simp only [Foot.same, AH.alloc_get]
    rw [if_neg (by omega)]
theorem obls_spec {pr : List Nat} {σ σ' : AH} : ∀ {log : List (Nat × Foot)}, obls pr σ σ' log → ∀ {k : Nat} {f : Foot}, (k, f) ∈ log → k ∉ pr → Foot.same σ σ' f
  | [], _, k, f, hm, _ => by cases hm
  | (j, g) :: r, h, k, f, hm, hk => by
    simp only [obls] at h
    simp only [List.mem_cons, Prod.mk.injEq] at hm
    rcases hm with ⟨rfl, rfl⟩ | hm
    · rw [if_neg (by simpa using hk)] at h; exact h.1
    · split at h
      · exact obls_spec h hm hk
      · exact obls_spec h.2 hm hk
theorem Late.mono {C : Cx} {gl : List Nat} {n : Nat} {o : Oper} {fr : Fr} {v : AV} {B : Option Nat} {S S' : AH → Prop} (h : Late C gl n o fr v B S) (hs : ∀ σ, S' σ → S σ) : Late C gl n o fr v B S' :=
  fun G σ ι w ρ hS => h G σ ι w ρ (hs σ hS)

section
variable {C : Cx} {G : Base} {ι0 : IM} {N0 : Nat} {gl : List Nat} {n : Nat} {df : List Deferred} {ops : Array Oper} {wt : List (List Nat)} {plan : List Nat} {fr0 : Fr} {K : Fr → AH → Prop}

/-- What has been reckoned and not yet been carried out. -/
def Pend (C : Cx) (gl : List Nat) (n : Nat) (ops : Array Oper) (plan : List Nat) (fr0 : Fr) (vals : Nat → AV) (Bs : Nat → Option Nat) (σ : AH) (log : List (Nat × Foot)) (i : Nat) : Prop :=
  ∃ o p q frA run, ops[i]? = some o ∧ plan = p ++ i :: q ∧ Stage ops fr0 vals (· ∈ p) frA ∧ GuardIs n ops frA o.guard run ∧
    (run = false → vals i = .tuple [] ∧ Bs i = none) ∧
    (run = true → ∃ f, Foot.wf σ f ∧ (f = .none ∨ (i, f) ∈ log) ∧ Late C gl n o frA (vals i) (Bs i) fun σ2 => Foot.same σ σ2 f)

structure Inv (C : Cx) (G : Base) (ι0 : IM) (N0 : Nat) (gl : List Nat) (n : Nat) (df : List Deferred) (ops : Array Oper) (wt : List (List Nat)) (plan : List Nat) (fr0 : Fr) (K : Fr → AH → Prop)
    (L : Nat → Prop) (a : Act) (w : World) (pre post : List Nat) (fr : Fr) (σ : AH) (log : List (Nat × Foot)) (cur : Fr) (vals : Nat → AV) (Bs : Nat → Option Nat) (ι : IM) : Prop where
  eqn : plan = pre ++ post
  abs : Stage ops fr0 vals (· ∈ pre) fr
  real : Stage ops fr0 vals L cur
  st : St G ι0 N0 gl n df cur σ ι a w
  sub : ∀ i, L i → i ∈ pre
  closed : Closed ops L
  pend : ∀ i, i ∈ pre → ¬ L i → Pend C gl n ops plan fr0 vals Bs σ log i
  vc : drawVc C gl n ops wt K post log fr σ
  blks : ∀ i b, i ∈ pre → Bs i = some b → b < σ.next ∧ N0 ≤ b ∧ (¬ L i → ι b = none) ∧ ∀ k, k ∈ pre → Bs k = some b → k = i

/-- One more is reckoned. -/
theorem Inv.light (hp : Plan C ops wt plan) {L : Nat → Prop} {a : Act} {w : World} {pre post : List Nat} {i : Nat} {o : Oper} {fr : Fr} {σ : AH} {log : List (Nat × Foot)} {cur : Fr} {vals : Nat → AV} {Bs : Nat → Option Nat} {ι : IM}
    (h : Inv C G ι0 N0 gl n df ops wt plan fr0 K L a w pre (i :: post) fr σ log cur vals Bs ι) (ho : ops[i]? = some o) (hc : cls C o ≠ .heavy) :
    ∃ fr' σ' log' vals' Bs', Inv C G ι0 N0 gl n df ops wt plan fr0 K L a w (pre ++ [i]) post fr' σ' log' cur vals' Bs' ι := by
  have hnin := hp.nodup h.eqn
  have hvc := h.vc
  simp only [drawVc, ho] at hvc
  obtain ⟨run, hvc, hg⟩ := guard_is hvc
  have hfresh : ∀ b, σ.next ≤ b → σ.get b = none := fun b hb => (h.st.rel.fresh b hb).2
  -- the frames
  have hne : ∀ {j}, j ∈ pre → j ≠ i := fun {j} hj e => hnin (e ▸ hj)
  have frames : ∀ v, Stage ops fr0 (fun j => if j = i then v else vals j) (· ∈ pre ++ [i]) (setFr fr o.dst v) := fun v =>
    (Stage.set hp h.abs ho v).iff fun j => by simp
  have hvals : ∀ v j, j ∈ pre → (fun j => if j = i then v else vals j) j = vals j := fun v j hj => if_neg (hne hj)
  -- the new invariant, from what the step yields
  have go : ∀ (v : AV) (B : Option Nat) (σ' : AH) (log' : List (Nat × Foot)), ((σ' = σ ∧ B = none) ∨ ∃ k, σ' = σ.alloc k ∧ B = some σ.next) → (∀ x, x ∈ log → x ∈ log') →
      Pend C gl n ops plan fr0 (fun j => if j = i then v else vals j) (fun j => if j = i then B else Bs j) σ' log' i → drawVc C gl n ops wt K post log' (setFr fr o.dst v) σ' →
      ∃ fr' σ' log' vals' Bs', Inv C G ι0 N0 gl n df ops wt plan fr0 K L a w (pre ++ [i]) post fr' σ' log' cur vals' Bs' ι := by
    intro v B σ' log' hσ hlog hpend hvc'
    have hrel : Rel G ι σ' w := by
      rcases hσ with ⟨rfl, _⟩ | ⟨k, rfl, _⟩
      · exact h.st.rel
      · exact h.st.rel.pend k
    have hnext : σ.next ≤ σ'.next := by
      rcases hσ with ⟨rfl, _⟩ | ⟨k, rfl, _⟩
      · exact Nat.le_refl _
      · simp
    refine ⟨_, σ', log', _, fun j => if j = i then B else Bs j, by rw [h.eqn]; simp, frames v, h.real.congr fun j hj => hvals v j (h.sub j hj), ⟨h.st.frame, h.st.defers, hrel, h.st.ext, Nat.le_trans h.st.next hnext, h.st.globs⟩,
      fun j hj => by simp [h.sub j hj], h.closed, fun j hj hjL => ?_, hvc', fun j b hj hb => ?_⟩
    · simp only [List.mem_append, List.mem_singleton] at hj
      rcases hj with hj | rfl
      · obtain ⟨oj, p, q, frA, runj, h1, h2, h3, h4, h5, h6⟩ := h.pend j hj hjL
        have hsub : ∀ k, k ∈ p → k ∈ pre := by
          intro k hk
          have e1 := h.eqn
          rw [h2] at e1
          have hjp : j ∉ p := hp.nodup h2
          -- p is a beginning of pre, as j lies in pre
          rcases List.append_eq_append_iff.1 e1 with ⟨l, hl, _⟩ | ⟨l, hl, hl2⟩
          · rw [hl]; simp [hk]
          · cases l with
            | nil => simp at hl; rw [← hl]; exact hk
            | cons x l =>
              rw [hl] at hjp
              exact absurd (by simp [hj]) hjp
        refine ⟨oj, p, q, frA, runj, h1, h2, h3.congr fun k hk => hvals v k (hsub k hk), h4, ?_, ?_⟩
        · intro hr
          simp only [if_neg (hne hj)]
          exact h5 hr
        · intro hr
          obtain ⟨f, hw, hf, hl⟩ := h6 hr
          simp only [if_neg (hne hj)]
          have hsame : Foot.same σ σ' f := by
            rcases hσ with ⟨rfl, _⟩ | ⟨k, rfl, _⟩
            · exact Foot.same_refl hw
            · exact Foot.same_alloc hw k
          exact ⟨f, Foot.wf_le hw hnext, hf.imp id (hlog _), hl.mono fun σ2 hs => Foot.same_trans hsame hs⟩
      · exact hpend
    · simp only [List.mem_append, List.mem_singleton] at hj
      by_cases hji : j = i
      · subst hji
        simp only [if_true] at hb
        rcases hσ with ⟨rfl, rfl⟩ | ⟨k, rfl, rfl⟩
        · cases hb
        · cases hb
          refine ⟨by simp, h.st.next, fun _ => (h.st.rel.fresh _ (Nat.le_refl _)).1, fun k hk hkb => ?_⟩
          by_cases hkj : k = j
          · exact hkj
          · simp only [if_neg hkj] at hkb
            simp only [List.mem_append, List.mem_singleton] at hk
            have := (h.blks k _ (hk.resolve_right hkj) hkb).1
            omega
      · simp only [if_neg hji] at hb
        have hj' := hj.resolve_right hji
        obtain ⟨h1, h2, h3, h4⟩ := h.blks j b hj' hb
        refine ⟨by omega, h2, h3, fun k hk hkb => ?_⟩
        by_cases hki : k = i
        · subst hki
          simp only [if_true] at hkb
          rcases hσ with ⟨rfl, rfl⟩ | ⟨k', rfl, rfl⟩
          · cases hkb
          · cases hkb; omega
        · simp only [if_neg hki] at hkb
          simp only [List.mem_append, List.mem_singleton] at hk
          exact h4 k (hk.resolve_right hki) hkb
  have hst : Stage ops fr0 (fun j => if j = i then .any else vals j) (· ∈ pre) fr := h.abs.congr fun j hj => if_neg (hne hj)
  cases run with
  | false =>
    simp only [cond_false] at hvc
    refine go (.tuple []) none σ log (.inl ⟨rfl, rfl⟩) (fun _ h => h) ⟨o, pre, post, fr, false, ho, h.eqn, h.abs.congr fun j hj => if_neg (hne hj), hg, fun _ => ⟨by simp, by simp⟩, fun h => by cases h⟩ hvc
  | true =>
    simp only [cond_true] at hvc
    have key : ∀ (log' : List (Nat × Foot)) , (footOf C gl n o fr σ = .none ∨ (i, footOf C gl n o fr σ) ∈ log') → (∀ x, x ∈ log → x ∈ log') →
        opVc C gl false n o fr σ (fun v σ' => drawVc C gl n ops wt K post log' (setFr fr o.dst v) σ') →
        ∃ fr' σ' log' vals' Bs', Inv C G ι0 N0 gl n df ops wt plan fr0 K L a w (pre ++ [i]) post fr' σ' log' cur vals' Bs' ι := by
      intro log' hin hlog hop
      obtain ⟨v, σ', B, hK, hσ, hwf, _, hlate⟩ := light_step hc hop hfresh
      refine go v B σ' log' hσ hlog ⟨o, pre, post, fr, true, ho, h.eqn, h.abs.congr fun j hj => if_neg (hne hj), hg, (fun h => by cases h), fun _ => ⟨_, hwf, hin, ?_⟩⟩ hK
      simp only [if_true]
      exact hlate
    cases hcl : cls C o with
    | heavy => exact absurd hcl hc
    | pure =>
      rw [hcl] at hvc
      simp only at hvc
      obtain ⟨_, _, _, _, _, _, hpf, _⟩ := light_step hc hvc hfresh
      exact key log (.inl (hpf hcl)) (fun _ h => h) hvc
    | load =>
      rw [hcl] at hvc
      simp only at hvc
      exact key ((i, footOf C gl n o fr σ) :: log) (.inr (by simp)) (fun _ h => by simp [h]) hvc
    | new =>
      rw [hcl] at hvc
      simp only at hvc
      exact key ((i, footOf C gl n o fr σ) :: log) (.inr (by simp)) (fun _ h => by simp [h]) hvc
end
end Go.Proofs.YthpngchngnaloaaGreatDoor.Vm
