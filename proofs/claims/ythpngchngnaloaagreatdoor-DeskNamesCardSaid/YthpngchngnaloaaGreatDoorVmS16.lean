/- Operations whose order is open: what the plan yields is what every order yields. -/
import Derived.Test.YthpngchngnaloaaGreatDoorVmS15
namespace Go.Proofs.YthpngchngnaloaaGreatDoor.Vm
open RowKit (Below)

/-! ### Plans -/
def Dst (ops : Array Oper) (j : Nat) (t : Nat) : Prop := ∃ oj, ops[j]? = some oj ∧ oj.dst = some t

structure PlanAt (C : Cx) (ops : Array Oper) (wt : List (List Nat)) (pre : List Nat) (i : Nat) (post : List Nat) (o : Oper) : Prop where
  op : ops[i]? = some o
  nin : i ∉ pre
  aft : ∀ e ∈ o.after, Region.binds .any e = true → e.on ∈ pre
  wts : ∀ j ∈ wt.getD i [], ∃ e ∈ o.after, Region.binds .any e = true ∧ (e.on = j ∨ j ∈ wt.getD e.on [])
  hvy : cls C o = .heavy → ∀ k ∈ post, i ∈ wt.getD k []
  dst : ∀ j ∈ pre, ∀ t, Dst ops j t → o.dst ≠ some t
  cmp : ∀ t ∈ o.looksAt ops, ∀ j, j ∈ pre ∨ j ∈ post → Dst ops j t → j ∈ wt.getD i [] ∨ i ∈ wt.getD j []

structure Plan (C : Cx) (ops : Array Oper) (wt : List (List Nat)) (plan : List Nat) : Prop where
  all : ∀ i, i < ops.size → i ∈ plan
  at_ : ∀ pre i post, plan = pre ++ i :: post → ∃ o, PlanAt C ops wt pre i post o

section
variable {C : Cx} {ops : Array Oper} {wt : List (List Nat)}

theorem planStep_spec {pre : List Nat} {i : Nat} {post : List Nat} {o : Oper} (ho : ops[i]? = some o) (h : planStep C ops wt pre i post o = true) : PlanAt C ops wt pre i post o := by
  unfold planStep at h
  simp only [Bool.and_eq_true] at h
  obtain ⟨⟨⟨⟨⟨⟨h1, h2⟩, h3⟩, h4⟩, h5⟩, h6⟩, _⟩ := h
  refine ⟨ho, by simpa using h1, fun e he hb => ?_, fun j hj => ?_, fun hc k hk => ?_, fun j hj t ⟨oj, hoj, hd⟩ hdo => ?_, fun t ht j hj ⟨oj, hoj, hd⟩ => ?_⟩
  · have := List.all_eq_true.1 h2 e (by simpa using he)
    rw [hb] at this
    simpa using this
  · have := List.all_eq_true.1 h3 j hj
    obtain ⟨e, he, hx⟩ := List.any_eq_true.1 this
    simp only [Bool.and_eq_true, Bool.or_eq_true, beq_iff_eq] at hx
    exact ⟨e, by simpa using he, hx.1, hx.2.imp id fun h => by simpa using h⟩
  · rw [hc] at h4
    simp only [bne_self_eq_false, Bool.false_or] at h4
    have := List.all_eq_true.1 h4 k hk
    simpa using this
  · have := List.all_eq_true.1 h5 j hj
    rw [hoj] at this
    simp only [hd, hdo] at this
    simp at this
  · have := List.all_eq_true.1 (List.all_eq_true.1 h6 t ht) j (by rcases hj with h | h <;> simp [h])
    rw [hoj] at this
    simp only [hd] at this
    simp only [bne_self_eq_false, Bool.false_or, Bool.or_eq_true] at this
    exact this.imp (fun h => by simpa using h) fun h => by simpa using h
theorem planGo_spec : ∀ (post pre : List Nat), planGo C ops wt pre post = true → ∀ p i q, pre ++ post = p ++ i :: q → pre.length ≤ p.length → ∃ o, PlanAt C ops wt p i q o
  | [], pre, _, p, i, q, he, hl => by
    have := congrArg List.length he
    simp at this
    omega
  | k :: post, pre, h, p, i, q, he, hl => by
    simp only [planGo] at h
    split at h
    case h_2 => cases h
    rename_i o ho
    simp only [Bool.and_eq_true] at h
    by_cases hlen : pre.length = p.length
    · obtain ⟨rfl, h2⟩ := List.append_inj he hlen
      cases h2
      exact ⟨o, planStep_spec ho h.1⟩
    · exact planGo_spec post (pre ++ [k]) h.2 p i q (by simpa using he) (by simp; omega)
theorem plan_spec {plan : List Nat} (h : planOK C ops wt plan = true) : Plan C ops wt plan := by
  unfold planOK at h
  simp only [Bool.and_eq_true] at h
  exact ⟨fun i hi => by simpa using List.all_eq_true.1 h.1 i (by simpa using hi), fun p i q he => planGo_spec plan [] h.2 p i q (by simpa using he) (by simp)⟩

variable {plan : List Nat}

/-- What has been carried out is closed under what is waited for. -/
def Closed (ops : Array Oper) (L : Nat → Prop) : Prop := ∀ i o, L i → ops[i]? = some o → ∀ e ∈ o.after, Region.binds .any e = true → L e.on

theorem Plan.split (hp : Plan C ops wt plan) {i : Nat} {o : Oper} (ho : ops[i]? = some o) : ∃ p q, plan = p ++ i :: q ∧ PlanAt C ops wt p i q o := by
  have hlt : i < ops.size := (Array.getElem?_eq_some_iff.1 ho).1
  obtain ⟨p, q, he⟩ := List.append_of_mem (hp.all i hlt)
  obtain ⟨o', h⟩ := hp.at_ p i q he
  have := h.op
  rw [ho] at this
  cases this
  exact ⟨p, q, he, h⟩
theorem Plan.waits (hp : Plan C ops wt plan) {L : Nat → Prop} (hL : Closed ops L) : ∀ (m : Nat) (p : List Nat) (i : Nat) (q : List Nat), p.length = m → plan = p ++ i :: q →
    ∀ o, ops[i]? = some o → (∀ e ∈ o.after, Region.binds .any e = true → L e.on) → ∀ j ∈ wt.getD i [], L j := by
  intro m
  induction m using Nat.strongRecOn with
  | _ m ih =>
    intro p i q hm he o ho ha j hj
    obtain ⟨o', h⟩ := hp.at_ p i q he
    have := h.op
    rw [ho] at this
    cases this
    obtain ⟨e, hem, hb, hx⟩ := h.wts j hj
    rcases hx with rfl | hx
    · exact ha e hem hb
    · have hin := h.aft e hem hb
      obtain ⟨p1, p2, hp12⟩ := List.append_of_mem hin
      have he' : plan = p1 ++ e.on :: (p2 ++ i :: q) := by rw [he, hp12]; simp
      obtain ⟨oe, hoe⟩ := hp.at_ _ _ _ he'
      exact ih p1.length (by rw [← hm, hp12]; simp) p1 e.on _ rfl he' oe hoe.op (fun e' he' hb' => hL _ _ (ha e hem hb) hoe.op e' he' hb') j hx
theorem Plan.wait (hp : Plan C ops wt plan) {L : Nat → Prop} (hL : Closed ops L) {i : Nat} {o : Oper} (ho : ops[i]? = some o) (ha : ∀ e ∈ o.after, Region.binds .any e = true → L e.on) {j : Nat} (hj : j ∈ wt.getD i []) : L j := by
  obtain ⟨p, q, he, _⟩ := hp.split ho
  exact hp.waits hL _ p i q rfl he o ho ha j hj
theorem Plan.waitL (hp : Plan C ops wt plan) {L : Nat → Prop} (hL : Closed ops L) {i : Nat} {o : Oper} (ho : ops[i]? = some o) (hi : L i) {j : Nat} (hj : j ∈ wt.getD i []) : L j :=
  hp.wait hL ho (fun e he hb => hL i o hi ho e he hb) hj
theorem Plan.lt (hp : Plan C ops wt plan) {i : Nat} (hi : i ∈ plan) : ∃ o, ops[i]? = some o := by
  obtain ⟨p, q, he⟩ := List.append_of_mem hi
  obtain ⟨o, h⟩ := hp.at_ p i q he
  exact ⟨o, h.op⟩
/-- A beginning of the plan is closed. -/
theorem Plan.closed_pre (hp : Plan C ops wt plan) {pre post : List Nat} (he : plan = pre ++ post) : Closed ops (· ∈ pre) := by
  intro i o hi ho e hem hb
  obtain ⟨p1, p2, hp12⟩ := List.append_of_mem hi
  obtain ⟨o', h⟩ := hp.at_ p1 i (p2 ++ post) (by rw [he, hp12]; simp)
  have := h.op
  rw [ho] at this
  cases this
  have := h.aft e hem hb
  rw [hp12]
  simp [this]
theorem Plan.nodup (hp : Plan C ops wt plan) {pre : List Nat} {i : Nat} {post : List Nat} (he : plan = pre ++ i :: post) : i ∉ pre := by
  obtain ⟨o, h⟩ := hp.at_ _ _ _ he
  exact h.nin
theorem Plan.nodup' (hp : Plan C ops wt plan) {pre : List Nat} {i : Nat} {post : List Nat} (he : plan = pre ++ i :: post) : i ∉ post := by
  intro hi
  obtain ⟨p1, p2, hp12⟩ := List.append_of_mem hi
  exact hp.nodup (i := i) (pre := pre ++ i :: p1) (post := p2) (by rw [he, hp12]; simp) (by simp)
/-- A variable is written once. -/
theorem Plan.dst_one (hp : Plan C ops wt plan) {i j : Nat} {t : Nat} (hi : Dst ops i t) (hj : Dst ops j t) : i = j := by
  obtain ⟨oi, hoi, hdi⟩ := hi
  obtain ⟨oj, hoj, hdj⟩ := hj
  obtain ⟨p, q, he, hpi⟩ := hp.split hoi
  have hjm := hp.all j (Array.getElem?_eq_some_iff.1 hoj).1
  rw [he] at hjm
  simp only [List.mem_append, List.mem_cons] at hjm
  rcases hjm with h | h | h
  · exact absurd hdi (hpi.dst j h t ⟨oj, hoj, hdj⟩)
  · exact h.symm
  · obtain ⟨q1, q2, hq⟩ := List.append_of_mem h
    obtain ⟨o', hpj⟩ := hp.at_ (p ++ i :: q1) j q2 (by rw [he, hq]; simp)
    have := hpj.op
    rw [hoj] at this
    cases this
    exact absurd hdj (hpj.dst i (by simp) t ⟨oi, hoi, hdi⟩)

/-! ### Frames by what has been carried out -/
/-- The frame that holds what the operations of a set have yielded. -/
def Stage (ops : Array Oper) (fr0 : Fr) (vals : Nat → AV) (S : Nat → Prop) (fr : Fr) : Prop :=
  ∀ t, (∀ j, S j → Dst ops j t → fr t = vals j) ∧ ((∀ j, S j → ¬ Dst ops j t) → fr t = fr0 t)
theorem Stage.congr {fr0 : Fr} {vals vals' : Nat → AV} {S : Nat → Prop} {fr : Fr} (h : Stage ops fr0 vals S fr) (hv : ∀ j, S j → vals' j = vals j) : Stage ops fr0 vals' S fr :=
  fun t => ⟨fun j hj hd => by rw [hv j hj]; exact (h t).1 j hj hd, (h t).2⟩
theorem Stage.iff {fr0 : Fr} {vals : Nat → AV} {S S' : Nat → Prop} {fr : Fr} (h : Stage ops fr0 vals S fr) (hs : ∀ j, S j ↔ S' j) : Stage ops fr0 vals S' fr :=
  fun t => ⟨fun j hj hd => (h t).1 j ((hs j).2 hj) hd, fun hn => (h t).2 fun j hj => hn j ((hs j).1 hj)⟩
theorem Stage.eq {fr0 : Fr} {vals : Nat → AV} {S : Nat → Prop} {fr fr' : Fr} (h : Stage ops fr0 vals S fr) (h' : Stage ops fr0 vals S fr') : fr = fr' := by
  funext t
  by_cases hx : ∃ j, S j ∧ Dst ops j t
  · obtain ⟨j, hj, hd⟩ := hx
    rw [(h t).1 j hj hd, (h' t).1 j hj hd]
  · have hn : ∀ j, S j → ¬ Dst ops j t := fun j hj hd => hx ⟨j, hj, hd⟩
    rw [(h t).2 hn, (h' t).2 hn]
theorem Stage.set (hp : Plan C ops wt plan) {fr0 : Fr} {vals : Nat → AV} {S : Nat → Prop} {fr : Fr} (h : Stage ops fr0 vals S fr) {i : Nat} {o : Oper} (ho : ops[i]? = some o) (v : AV) :
    Stage ops fr0 (fun j => if j = i then v else vals j) (fun j => S j ∨ j = i) (setFr fr o.dst v) := by
  intro t
  have hset : setFr fr o.dst v t = if o.dst = some t then v else fr t := by
    unfold setFr
    cases o.dst with
    | none => simp
    | some d => simp only [Option.some.injEq]; by_cases h : t = d <;> simp [h, eq_comm]
  rw [hset]
  refine ⟨fun j hj hd => ?_, fun hn => ?_⟩
  · by_cases hji : j = i
    · subst hji
      obtain ⟨oj, hoj, hdj⟩ := hd
      rw [ho] at hoj
      cases hoj
      rw [if_pos hdj]
      exact (if_pos rfl).symm
    · have e1 : (fun j => if j = i then v else vals j) j = vals j := if_neg hji
      rw [e1, if_neg, (h t).1 j (hj.resolve_right hji) hd]
      intro hdt
      exact hji (hp.dst_one hd ⟨o, ho, hdt⟩)
  · rw [if_neg fun hdt => hn i (.inr rfl) ⟨o, ho, hdt⟩]
    exact (h t).2 fun j hj => hn j (.inl hj)
/-- What an operation looks at holds the same wherever it is ready. -/
theorem Plan.agree (hp : Plan C ops wt plan) {fr0 : Fr} {vals : Nat → AV} {pre post : List Nat} {i : Nat} {o : Oper} (he : plan = pre ++ i :: post) (ho : ops[i]? = some o) {L : Nat → Prop} (hL : Closed ops L)
    (hi : ¬ L i) (ha : ∀ e ∈ o.after, Region.binds .any e = true → L e.on) (hsub : ∀ j, L j → j ∈ plan) {frA cur : Fr} (hA : Stage ops fr0 vals (· ∈ pre) frA) (hc : Stage ops fr0 vals L cur) {t : Nat} (ht : t ∈ o.looksAt ops) :
    frA t = cur t := by
  obtain ⟨o', hpi⟩ := hp.at_ _ _ _ he
  have := hpi.op
  rw [ho] at this
  cases this
  have hcl := hp.closed_pre (pre := pre) (post := i :: post) he
  have hwpre : ∀ j, j ∈ wt.getD i [] → j ∈ pre := fun j hj => hp.wait hcl ho (fun e hem hb => hpi.aft e hem hb) hj
  have hwL : ∀ j, j ∈ wt.getD i [] → L j := fun j hj => hp.wait hL ho ha hj
  by_cases hx : ∃ j, j ∈ pre ∧ Dst ops j t
  · obtain ⟨j, hj, hd⟩ := hx
    rw [(hA t).1 j hj hd]
    rcases hpi.cmp t ht j (.inl hj) hd with h | h
    · rw [(hc t).1 j (hwL j h) hd]
    · obtain ⟨oj, hoj, _⟩ := hd
      exact absurd (hp.waitL hcl hoj hj h) hpi.nin
  · have hn : ∀ j, j ∈ pre → ¬ Dst ops j t := fun j hj hd => hx ⟨j, hj, hd⟩
    rw [(hA t).2 hn, (hc t).2 fun j hj hd => ?_]
    have hjm := hsub j hj
    rw [he] at hjm
    simp only [List.mem_append, List.mem_cons] at hjm
    rcases hjm with h | h | h
    · exact hn j h hd
    · exact hi (h ▸ hj)
    · rcases hpi.cmp t ht j (.inr h) hd with h' | h'
      · exact hn j (hwpre j h') hd
      · obtain ⟨oj, hoj, _⟩ := hd
        exact hi (hp.waitL hL hoj hj h')
end
end Go.Proofs.YthpngchngnaloaaGreatDoor.Vm
