/- Operations in the order of the text. -/
import Derived.Test.YthpngchngnaloaaGreatDoorVmG
namespace Go.Proofs.YthpngchngnaloaaGreatDoor.Vm
open RowKit (Below)

theorem Globs.le {ι ι' : IM} {gl : List Nat} (h : Globs ι gl) (hle : ι.le ι') : Globs ι' gl := fun g hg => by
  obtain ⟨p, hp, h1, h2⟩ := h g hg
  exact ⟨p, hle _ _ hp, h1, h2⟩
theorem FrRel.mono {ι ι' : IM} {n : Nat} {fr : Fr} {tmps : Array Value} (h : FrRel ι n fr tmps) (hle : ι.le ι') : FrRel ι' n fr tmps :=
  ⟨h.1, fun t ht => by obtain ⟨v, hv, hr⟩ := h.2 t ht; exact ⟨v, hv, VRel.mono hle _ _ hr⟩⟩
theorem FrRel.put {ι : IM} {n : Nat} {fr : Fr} {a : Act} (h : FrRel ι n fr a.tmps) (dst : Option Nat) {v : AV} {v' : Value} (hv : VRel ι v v') : FrRel ι n (setFr fr dst v) (a.put dst v').tmps := by
  cases dst with
  | none => exact h
  | some d =>
    refine ⟨by simp only [Act.put, Array.size_setIfInBounds]; exact h.1, fun t ht => ?_⟩
    simp only [setFr, Act.put]
    by_cases htd : t = d
    · subst htd
      have hlt : t < a.tmps.size := by rw [h.1]; exact ht
      refine ⟨v', by rw [Array.getElem?_setIfInBounds_self_of_lt hlt], ?_⟩
      rw [if_pos rfl]; exact hv
    · rw [if_neg htd, Array.getElem?_setIfInBounds_ne (Ne.symm htd)]
      exact h.2 t ht
theorem Act.put_defs (a : Act) (dst : Option Nat) (v : Value) : (a.put dst v).defers = a.defers := by cases dst <;> rfl

theorem ev_sound {ι : IM} {gl : List Nat} {n : Nat} {fr : Fr} {a : Act} (hf : FrRel ι n fr a.tmps) (hg : Globs ι gl) (x : Operand) : VRel ι (ev gl n fr x) (a.eval x) := by
  cases x with
  | tmp t =>
    simp only [ev]
    split
    · rename_i ht
      obtain ⟨v, hv, hr⟩ := hf.2 t ht
      simp only [Act.eval, Array.getD_eq_getD_getElem?, hv, Option.getD_some]
      exact hr
    · simp only [VRel]
  | const v => exact ofV_rel ι v
  | global g =>
    simp only [ev]
    split
    · rename_i h
      obtain ⟨p, hp, h1, h2⟩ := hg g (by simpa using h)
      simp only [VRel]
      exact ⟨p, hp, by simp [Act.eval, h1, h2]⟩
    · simp only [VRel]
  | func f =>
    simp only [ev, VRel]
    exact ⟨[], [], rfl, .nil, .nil⟩
theorem ops_sound {ι : IM} {gl : List Nat} {n : Nat} {fr : Fr} {a : Act} (hf : FrRel ι n fr a.tmps) (hg : Globs ι gl) (l : List Operand) : Ops ι gl n fr a.eval l := fun x _ => ev_sound hf hg x

/-- Where an activation stands, told by a frame and a memory. -/
structure St (G : Base) (ι0 : IM) (N0 : Nat) (gl : List Nat) (n : Nat) (df : List Deferred) (fr : Fr) (σ : AH) (ι : IM) (a : Act) (w : World) : Prop where
  frame : FrRel ι n fr a.tmps
  defers : a.defers = df
  rel : Rel G ι σ w
  ext : Ext N0 ι0 ι
  next : N0 ≤ σ.next
  globs : Globs ι gl

/-! ### Guards -/
/-- Whether an operation is carried out. -/
def GuardIs (n : Nat) (ops : Array Oper) (fr : Fr) (g : Option (Nat × Bool)) (run : Bool) : Prop :=
  ∀ (o : Oper) (tmps : Array Value), o.guard = g → (∀ j want oj t, g = some (j, want) → ops[j]? = some oj → oj.dst = some t → t < n → ∃ ι v, tmps[t]? = some v ∧ VRel ι (fr t) v) →
    Region.wanted o (yielded ops tmps) = run
theorem setFr_self (fr : Fr) (t : Nat) : setFr fr (some t) (fr t) = fr := by
  funext i
  simp only [setFr]
  split
  · rename_i h; rw [h]
  · rfl
theorem guard_is {n : Nat} {ops : Array Oper} {fr : Fr} {g : Option (Nat × Bool)} {K : Bool → Fr → Prop} (h : guardK n ops fr g K) : ∃ run, K run fr ∧ GuardIs n ops fr g run := by
  unfold guardK at h
  split at h
  · exact ⟨true, h, fun o tmps ho _ => by unfold Region.wanted; rw [ho]⟩
  · rename_i j want
    split at h
    case h_2 => cases h
    rename_i oj hoj
    split at h
    case h_2 => cases h
    rename_i t hdst
    split at h
    case isFalse => cases h
    rename_i htn
    have hy : ∀ (tmps : Array Value) (v : Value), tmps[t]? = some v → yielded ops tmps j = match v with | .bool b => some b | _ => none := by
      intro tmps v hv
      unfold yielded
      simp only [hoj, Option.bind_some, hdst, hv]
      cases v <;> rfl
    split at h
    · rename_i b hb
      cases b
      · refine ⟨!want, ?_, fun o tmps ho hv => ?_⟩
        · have := setFr_self fr t
          rw [hb] at this
          simp only [cond_false, this] at h
          exact h
        · obtain ⟨ι, v, hv, hr⟩ := hv j want oj t rfl hoj hdst htn
          rw [hb] at hr
          simp only [VRel] at hr
          subst hr
          unfold Region.wanted
          rw [ho]
          simp only [hy tmps _ hv]
          cases want <;> rfl
      · refine ⟨want, ?_, fun o tmps ho hv => ?_⟩
        · have := setFr_self fr t
          rw [hb] at this
          simp only [cond_true, this] at h
          exact h
        · obtain ⟨ι, v, hv, hr⟩ := hv j want oj t rfl hoj hdst htn
          rw [hb] at hr
          simp only [VRel] at hr
          subst hr
          unfold Region.wanted
          rw [ho]
          simp only [hy tmps _ hv]
          cases want <;> rfl
    · rename_i hb
      refine ⟨false, h, fun o tmps ho hv => ?_⟩
      obtain ⟨ι, v, hv, hr⟩ := hv j want oj t rfl hoj hdst htn
      rw [hb] at hr
      simp only [VRel, VRelL] at hr
      obtain ⟨l, rfl, rfl⟩ := hr
      unfold Region.wanted
      rw [ho]
      simp only [hy tmps _ hv]
      rfl
    · cases h

/-! ### The order of the text -/
section
variable {C : Cx} {G : Base} {ι0 : IM} {N0 : Nat} {gl : List Nat} {n : Nat} {df : List Deferred} {rd : Option Nat} {Q : Exit → Act → World → Prop}

theorem St.put {fr : Fr} {σ : AH} {ι : IM} {a : Act} {w : World} (h : St G ι0 N0 gl n df fr σ ι a w) (dst : Option Nat) {v : AV} {v' : Value} {σ' : AH} {ι' : IM} {w' : World}
    (h1 : Rel G ι' σ' w') (h2 : Ext σ.next ι ι') (h3 : σ.next ≤ σ'.next) (hv : VRel ι' v v') : St G ι0 N0 gl n df (setFr fr dst v) σ' ι' (a.put dst v') w' :=
  have hle := h.rel.le h2
  ⟨(h.frame.mono hle).put dst hv, by rw [Act.put_defs]; exact h.defers, h1, h.ext.trans h2 h.next, Nat.le_trans h.next h3, h.globs.le hle⟩
theorem vrel_undef (ι : IM) : VRel ι (.tuple []) undef := by
  simp only [VRel]
  exact ⟨[], rfl, .nil⟩
theorem opsVc_sound {wide : Bool} {ops : Array Oper} {K : Fr → AH → Prop} (hK : ∀ fr σ ι a w, St G ι0 N0 gl n df fr σ ι a w → K fr σ → Q .normal a w) :
    ∀ (l : List Nat) (fr : Fr) (σ : AH) (ι : IM) (a : Act) (w : World), St G ι0 N0 gl n df fr σ ι a w → opsVc C gl wide n ops K l fr σ → wpOpsIn (fw rd) 0 C.P ops Q l a w
  | [], fr, σ, ι, a, w, hs, h => hK fr σ ι a w hs h
  | i :: is, fr, σ, ι, a, w, hs, h => by
    simp only [opsVc] at h
    split at h
    case h_1 => cases h
    rename_i o ho
    obtain ⟨run, h, hg⟩ := guard_is h
    have hw := hg o a.tmps rfl fun j want oj t _ _ _ ht => by
      obtain ⟨v, hv, hr⟩ := hs.frame.2 t ht
      exact ⟨ι, v, hv, hr⟩
    simp only [wpOpsIn, ho]
    rw [hw]
    cases run with
    | true =>
      simp only [cond_true] at h
      simp only [if_true]
      refine (OpRun.wp (opVc_sound hs.rel hs.globs (ops_sound hs.frame hs.globs _) h) ?_)
      rintro v' w' ⟨v, σ', ι', h1, h2, h3, h4, h5⟩
      exact opsVc_sound hK is _ _ _ _ _ (hs.put o.dst h1 h2 h3 h4) h5
    | false =>
      simp only [cond_false] at h
      simp only [Bool.false_eq_true, if_false]
      exact ⟨fun _ _ => trivial, opsVc_sound hK is _ _ _ _ _ (hs.put o.dst hs.rel (Ext.refl _ _) (Nat.le_refl _) (vrel_undef ι)) h⟩
end
end Go.Proofs.YthpngchngnaloaaGreatDoor.Vm

/-! Operations whose order is open: what the plan yields is what every order yields. -/
namespace Go.Proofs.YthpngchngnaloaaGreatDoor.Vm
open RowKit (Below)

/-! ### Plans -/
def Dst (ops : Array Oper) (j : Nat) (t : Nat) : Prop := ∃ oj, ops[j]? = some oj ∧ oj.dst = some t

structure PlanAt (C : Cx) (ops : Array Oper) (wt : List (List Nat)) (pre : List Nat) (i : Nat) (post : List Nat) (o : Oper) : Prop where
  op : ops[i]? = some o
  nin : i ∉ pre
  aft : ∀ e ∈ o.after, Region.binds .any e = true → e.on ∈ pre
  wts : ∀ j ∈ wt.getD i [], ∃ e ∈ o.after, Region.binds .any e = true ∧ (e.on = j ∨ j ∈ wt.getD e.on [])
  hvy : cls C o = .heavy → ∀ k ∈ post, i ∈ wt.getD k []
  dst : ∀ j ∈ pre, ∀ t, Dst ops j t → o.dst ≠ some t
  cmp : ∀ t ∈ o.looksAt ops, ∀ j, j ∈ pre ∨ j ∈ post → Dst ops j t → j ∈ wt.getD i [] ∨ i ∈ wt.getD j []

structure Plan (C : Cx) (ops : Array Oper) (wt : List (List Nat)) (plan : List Nat) : Prop where
  all : ∀ i, i < ops.size → i ∈ plan
  at_ : ∀ pre i post, plan = pre ++ i :: post → ∃ o, PlanAt C ops wt pre i post o

section
variable {C : Cx} {ops : Array Oper} {wt : List (List Nat)}

theorem planStep_spec {pre : List Nat} {i : Nat} {post : List Nat} {o : Oper} (ho : ops[i]? = some o) (h : planStep C ops wt pre i post o = true) : PlanAt C ops wt pre i post o := by
  unfold planStep at h
  simp only [Bool.and_eq_true] at h
  obtain ⟨⟨⟨⟨⟨⟨h1, h2⟩, h3⟩, h4⟩, h5⟩, h6⟩, _⟩ := h
  refine ⟨ho, by simpa using h1, fun e he hb => ?_, fun j hj => ?_, fun hc k hk => ?_, fun j hj t ⟨oj, hoj, hd⟩ hdo => ?_, fun t ht j hj ⟨oj, hoj, hd⟩ => ?_⟩
  · have := List.all_eq_true.1 h2 e (by simpa using he)
    rw [hb] at this
    simpa using this
  · have := List.all_eq_true.1 h3 j hj
    obtain ⟨e, he, hx⟩ := List.any_eq_true.1 this
    simp only [Bool.and_eq_true, Bool.or_eq_true, beq_iff_eq] at hx
    exact ⟨e, by simpa using he, hx.1, hx.2.imp id fun h => by simpa using h⟩
  · rw [hc] at h4
    simp only [bne_self_eq_false, Bool.false_or] at h4
    have := List.all_eq_true.1 h4 k hk
    simpa using this
  · have := List.all_eq_true.1 h5 j hj
    rw [hoj] at this
    simp only [hd, hdo] at this
    simp at this
  · have := List.all_eq_true.1 (List.all_eq_true.1 h6 t ht) j (by rcases hj with h | h <;> simp [h])
    rw [hoj] at this
    simp only [hd] at this
    simp only [bne_self_eq_false, Bool.false_or, Bool.or_eq_true] at this
    exact this.imp (fun h => by simpa using h) fun h => by simpa using h
theorem planGo_spec : ∀ (post pre : List Nat), planGo C ops wt pre post = true → ∀ p i q, pre ++ post = p ++ i :: q → pre.length ≤ p.length → ∃ o, PlanAt C ops wt p i q o
  | [], pre, _, p, i, q, he, hl => by
    have := congrArg List.length he
    simp at this
    omega
  | k :: post, pre, h, p, i, q, he, hl => by
    simp only [planGo] at h
    split at h
    case h_2 => cases h
    rename_i o ho
    simp only [Bool.and_eq_true] at h
    by_cases hlen : pre.length = p.length
    · obtain ⟨rfl, h2⟩ := List.append_inj he hlen
      cases h2
      exact ⟨o, planStep_spec ho h.1⟩
    · exact planGo_spec post (pre ++ [k]) h.2 p i q (by simpa using he) (by simp; omega)
theorem plan_spec {plan : List Nat} (h : planOK C ops wt plan = true) : Plan C ops wt plan := by
  unfold planOK at h
  simp only [Bool.and_eq_true] at h
  exact ⟨fun i hi => by simpa using List.all_eq_true.1 h.1 i (by simpa using hi), fun p i q he => planGo_spec plan [] h.2 p i q (by simpa using he) (by simp)⟩

variable {plan : List Nat}

/-- What has been carried out is closed under what is waited for. -/
def Closed (ops : Array Oper) (L : Nat → Prop) : Prop := ∀ i o, L i → ops[i]? = some o → ∀ e ∈ o.after, Region.binds .any e = true → L e.on

theorem Plan.split (hp : Plan C ops wt plan) {i : Nat} {o : Oper} (ho : ops[i]? = some o) : ∃ p q, plan = p ++ i :: q ∧ PlanAt C ops wt p i q o := by
  have hlt : i < ops.size := (Array.getElem?_eq_some_iff.1 ho).1
  obtain ⟨p, q, he⟩ := List.append_of_mem (hp.all i hlt)
  obtain ⟨o', h⟩ := hp.at_ p i q he
  have := h.op
  rw [ho] at this
  cases this
  exact ⟨p, q, he, h⟩
theorem Plan.waits (hp : Plan C ops wt plan) {L : Nat → Prop} (hL : Closed ops L) : ∀ (m : Nat) (p : List Nat) (i : Nat) (q : List Nat), p.length = m → plan = p ++ i :: q →
    ∀ o, ops[i]? = some o → (∀ e ∈ o.after, Region.binds .any e = true → L e.on) → ∀ j ∈ wt.getD i [], L j := by
  intro m
  induction m using Nat.strongRecOn with
  | _ m ih =>
    intro p i q hm he o ho ha j hj
    obtain ⟨o', h⟩ := hp.at_ p i q he
    have := h.op
    rw [ho] at this
    cases this
    obtain ⟨e, hem, hb, hx⟩ := h.wts j hj
    rcases hx with rfl | hx
    · exact ha e hem hb
    · have hin := h.aft e hem hb
      obtain ⟨p1, p2, hp12⟩ := List.append_of_mem hin
      have he' : plan = p1 ++ e.on :: (p2 ++ i :: q) := by rw [he, hp12]; simp
      obtain ⟨oe, hoe⟩ := hp.at_ _ _ _ he'
      exact ih p1.length (by rw [← hm, hp12]; simp) p1 e.on _ rfl he' oe hoe.op (fun e' he' hb' => hL _ _ (ha e hem hb) hoe.op e' he' hb') j hx
theorem Plan.wait (hp : Plan C ops wt plan) {L : Nat → Prop} (hL : Closed ops L) {i : Nat} {o : Oper} (ho : ops[i]? = some o) (ha : ∀ e ∈ o.after, Region.binds .any e = true → L e.on) {j : Nat} (hj : j ∈ wt.getD i []) : L j := by
  obtain ⟨p, q, he, _⟩ := hp.split ho
  exact hp.waits hL _ p i q rfl he o ho ha j hj
theorem Plan.waitL (hp : Plan C ops wt plan) {L : Nat → Prop} (hL : Closed ops L) {i : Nat} {o : Oper} (ho : ops[i]? = some o) (hi : L i) {j : Nat} (hj : j ∈ wt.getD i []) : L j :=
  hp.wait hL ho (fun e he hb => hL i o hi ho e he hb) hj
theorem Plan.lt (hp : Plan C ops wt plan) {i : Nat} (hi : i ∈ plan) : ∃ o, ops[i]? = some o := by
  obtain ⟨p, q, he⟩ := List.append_of_mem hi
  obtain ⟨o, h⟩ := hp.at_ p i q he
  exact ⟨o, h.op⟩
/-- A beginning of the plan is closed. -/
theorem Plan.closed_pre (hp : Plan C ops wt plan) {pre post : List Nat} (he : plan = pre ++ post) : Closed ops (· ∈ pre) := by
  intro i o hi ho e hem hb
  obtain ⟨p1, p2, hp12⟩ := List.append_of_mem hi
  obtain ⟨o', h⟩ := hp.at_ p1 i (p2 ++ post) (by rw [he, hp12]; simp)
  have := h.op
  rw [ho] at this
  cases this
  have := h.aft e hem hb
  rw [hp12]
  simp [this]
theorem Plan.nodup (hp : Plan C ops wt plan) {pre : List Nat} {i : Nat} {post : List Nat} (he : plan = pre ++ i :: post) : i ∉ pre := by
  obtain ⟨o, h⟩ := hp.at_ _ _ _ he
  exact h.nin
theorem Plan.nodup' (hp : Plan C ops wt plan) {pre : List Nat} {i : Nat} {post : List Nat} (he : plan = pre ++ i :: post) : i ∉ post := by
  intro hi
  obtain ⟨p1, p2, hp12⟩ := List.append_of_mem hi
  exact hp.nodup (i := i) (pre := pre ++ i :: p1) (post := p2) (by rw [he, hp12]; simp) (by simp)
/-- A variable is written once. -/
theorem Plan.dst_one (hp : Plan C ops wt plan) {i j : Nat} {t : Nat} (hi : Dst ops i t) (hj : Dst ops j t) : i = j := by
  obtain ⟨oi, hoi, hdi⟩ := hi
  obtain ⟨oj, hoj, hdj⟩ := hj
  obtain ⟨p, q, he, hpi⟩ := hp.split hoi
  have hjm := hp.all j (Array.getElem?_eq_some_iff.1 hoj).1
  rw [he] at hjm
  simp only [List.mem_append, List.mem_cons] at hjm
  rcases hjm with h | h | h
  · exact absurd hdi (hpi.dst j h t ⟨oj, hoj, hdj⟩)
  · exact h.symm
  · obtain ⟨q1, q2, hq⟩ := List.append_of_mem h
    obtain ⟨o', hpj⟩ := hp.at_ (p ++ i :: q1) j q2 (by rw [he, hq]; simp)
    have := hpj.op
    rw [hoj] at this
    cases this
    exact absurd hdj (hpj.dst i (by simp) t ⟨oi, hoi, hdi⟩)

/-! ### Frames by what has been carried out -/
/-- The frame that holds what the operations of a set have yielded. -/
def Stage (ops : Array Oper) (fr0 : Fr) (vals : Nat → AV) (S : Nat → Prop) (fr : Fr) : Prop :=
  ∀ t, (∀ j, S j → Dst ops j t → fr t = vals j) ∧ ((∀ j, S j → ¬ Dst ops j t) → fr t = fr0 t)
theorem Stage.congr {fr0 : Fr} {vals vals' : Nat → AV} {S : Nat → Prop} {fr : Fr} (h : Stage ops fr0 vals S fr) (hv : ∀ j, S j → vals' j = vals j) : Stage ops fr0 vals' S fr :=
  fun t => ⟨fun j hj hd => by rw [hv j hj]; exact (h t).1 j hj hd, (h t).2⟩
theorem Stage.iff {fr0 : Fr} {vals : Nat → AV} {S S' : Nat → Prop} {fr : Fr} (h : Stage ops fr0 vals S fr) (hs : ∀ j, S j ↔ S' j) : Stage ops fr0 vals S' fr :=
  fun t => ⟨fun j hj hd => (h t).1 j ((hs j).2 hj) hd, fun hn => (h t).2 fun j hj => hn j ((hs j).1 hj)⟩
theorem Stage.eq {fr0 : Fr} {vals : Nat → AV} {S : Nat → Prop} {fr fr' : Fr} (h : Stage ops fr0 vals S fr) (h' : Stage ops fr0 vals S fr') : fr = fr' := by
  funext t
  by_cases hx : ∃ j, S j ∧ Dst ops j t
  · obtain ⟨j, hj, hd⟩ := hx
    rw [(h t).1 j hj hd, (h' t).1 j hj hd]
  · have hn : ∀ j, S j → ¬ Dst ops j t := fun j hj hd => hx ⟨j, hj, hd⟩
    rw [(h t).2 hn, (h' t).2 hn]
theorem Stage.set (hp : Plan C ops wt plan) {fr0 : Fr} {vals : Nat → AV} {S : Nat → Prop} {fr : Fr} (h : Stage ops fr0 vals S fr) {i : Nat} {o : Oper} (ho : ops[i]? = some o) (v : AV) :
    Stage ops fr0 (fun j => if j = i then v else vals j) (fun j => S j ∨ j = i) (setFr fr o.dst v) := by
  intro t
  have hset : setFr fr o.dst v t = if o.dst = some t then v else fr t := by
    unfold setFr
    cases o.dst with
    | none => simp
    | some d => simp only [Option.some.injEq]; by_cases h : t = d <;> simp [h, eq_comm]
  rw [hset]
  refine ⟨fun j hj hd => ?_, fun hn => ?_⟩
  · by_cases hji : j = i
    · subst hji
      obtain ⟨oj, hoj, hdj⟩ := hd
      rw [ho] at hoj
      cases hoj
      rw [if_pos hdj]
      exact (if_pos rfl).symm
    · have e1 : (fun j => if j = i then v else vals j) j = vals j := if_neg hji
      rw [e1, if_neg, (h t).1 j (hj.resolve_right hji) hd]
      intro hdt
      exact hji (hp.dst_one hd ⟨o, ho, hdt⟩)
  · rw [if_neg fun hdt => hn i (.inr rfl) ⟨o, ho, hdt⟩]
    exact (h t).2 fun j hj => hn j (.inl hj)
/-- What an operation looks at holds the same wherever it is ready. -/
theorem Plan.agree (hp : Plan C ops wt plan) {fr0 : Fr} {vals : Nat → AV} {pre post : List Nat} {i : Nat} {o : Oper} (he : plan = pre ++ i :: post) (ho : ops[i]? = some o) {L : Nat → Prop} (hL : Closed ops L)
    (hi : ¬ L i) (ha : ∀ e ∈ o.after, Region.binds .any e = true → L e.on) (hsub : ∀ j, L j → j ∈ plan) {frA cur : Fr} (hA : Stage ops fr0 vals (· ∈ pre) frA) (hc : Stage ops fr0 vals L cur) {t : Nat} (ht : t ∈ o.looksAt ops) :
    frA t = cur t := by
  obtain ⟨o', hpi⟩ := hp.at_ _ _ _ he
  have := hpi.op
  rw [ho] at this
  cases this
  have hcl := hp.closed_pre (pre := pre) (post := i :: post) he
  have hwpre : ∀ j, j ∈ wt.getD i [] → j ∈ pre := fun j hj => hp.wait hcl ho (fun e hem hb => hpi.aft e hem hb) hj
  have hwL : ∀ j, j ∈ wt.getD i [] → L j := fun j hj => hp.wait hL ho ha hj
  by_cases hx : ∃ j, j ∈ pre ∧ Dst ops j t
  · obtain ⟨j, hj, hd⟩ := hx
    rw [(hA t).1 j hj hd]
    rcases hpi.cmp t ht j (.inl hj) hd with h | h
    · rw [(hc t).1 j (hwL j h) hd]
    · obtain ⟨oj, hoj, _⟩ := hd
      exact absurd (hp.waitL hcl hoj hj h) hpi.nin
  · have hn : ∀ j, j ∈ pre → ¬ Dst ops j t := fun j hj hd => hx ⟨j, hj, hd⟩
    rw [(hA t).2 hn, (hc t).2 fun j hj hd => ?_]
    have hjm := hsub j hj
    rw [he] at hjm
    simp only [List.mem_append, List.mem_cons] at hjm
    rcases hjm with h | h | h
    · exact hn j h hd
    · exact hi (h ▸ hj)
    · rcases hpi.cmp t ht j (.inr h) hd with h' | h'
      · exact hn j (hwpre j h') hd
      · obtain ⟨oj, hoj, _⟩ := hd
        exact hi (hp.waitL hL hoj hj h')
end
end Go.Proofs.YthpngchngnaloaaGreatDoor.Vm

/-! Operations whose order is open: soundness. -/
namespace Go.Proofs.YthpngchngnaloaaGreatDoor.Vm
open RowKit (Below)

theorem pigeon : ∀ (n : Nat) (S : List Nat), S.Nodup → (∀ i ∈ S, i < n) → S.length ≤ n
  | 0, [], _, _ => Nat.le_refl _
  | 0, i :: S, _, h => absurd (h i (by simp)) (by omega)
  | n + 1, S, hn, h => by
    have h1 := pigeon n (S.erase n) (hn.erase n) fun i hi => by
      have h2 := (hn.mem_erase_iff).1 hi
      have := h i h2.2
      have := h2.1
      omega
    rw [List.length_erase] at h1
    split at h1 <;> omega

theorem Foot.same_refl {σ : AH} {f : Foot} (h : Foot.wf σ f) : Foot.same σ σ f := by
  cases f with
  | none => trivial
  | rng a n =>
    obtain ⟨b, o, rfl, _⟩ := atP_some h
    rfl
  | blk b => rfl
theorem Foot.same_trans {σ σ' σ'' : AH} {f : Foot} (h : Foot.same σ σ' f) (h' : Foot.same σ' σ'' f) : Foot.same σ σ'' f := by
  cases f with
  | none => trivial
  | rng a n =>
    obtain ⟨b, o, rfl, h⟩ := atP_some h
    exact Eq.trans h' h
  | blk b => exact Eq.trans h' h
theorem Foot.wf_le {σ σ' : AH} {f : Foot} (h : Foot.wf σ f) (hn : σ.next ≤ σ'.next) : Foot.wf σ' f := by
  cases f with
  | none => trivial
  | rng a n =>
    obtain ⟨b, o, rfl, h⟩ := atP_some h
    exact Nat.lt_of_lt_of_le h hn
  | blk b => exact Nat.lt_of_lt_of_le h hn
theorem Foot.same_alloc {σ : AH} {f : Foot} (h : Foot.wf σ f) (k : Blk) : Foot.same σ (σ.alloc k) f := by
  cases f with
  | none => trivial
  | rng a n =>
    obtain ⟨b, o, rfl, h⟩ := atP_some h
    simp only [Foot.same, atP, AH.range, AH.alloc_get]
    rw [if_neg (by omega)]
  | blk b =>
    simp only [Foot.wf] at h
    simp only [Foot.same, AH.alloc_get]
    rw [if_neg (by omega)]
theorem obls_spec {pr : List Nat} {σ σ' : AH} : ∀ {log : List (Nat × Foot)}, obls pr σ σ' log → ∀ {k : Nat} {f : Foot}, (k, f) ∈ log → k ∉ pr → Foot.same σ σ' f
  | [], _, k, f, hm, _ => by cases hm
  | (j, g) :: r, h, k, f, hm, hk => by
    simp only [obls] at h
    simp only [List.mem_cons, Prod.mk.injEq] at hm
    rcases hm with ⟨rfl, rfl⟩ | hm
    · rw [if_neg (by simpa using hk)] at h; exact h.1
    · split at h
      · exact obls_spec h hm hk
      · exact obls_spec h.2 hm hk
theorem Late.mono {C : Cx} {gl : List Nat} {n : Nat} {o : Oper} {fr : Fr} {v : AV} {B : Option Nat} {S S' : AH → Prop} (h : Late C gl n o fr v B S) (hs : ∀ σ, S' σ → S σ) : Late C gl n o fr v B S' :=
  fun G σ ι w ρ hS => h G σ ι w ρ (hs σ hS)

section
variable {C : Cx} {G : Base} {ι0 : IM} {N0 : Nat} {gl : List Nat} {n : Nat} {df : List Deferred} {ops : Array Oper} {wt : List (List Nat)} {plan : List Nat} {fr0 : Fr} {K : Fr → AH → Prop}

/-- What has been reckoned and not yet been carried out. -/
def Pend (C : Cx) (gl : List Nat) (n : Nat) (ops : Array Oper) (plan : List Nat) (fr0 : Fr) (vals : Nat → AV) (Bs : Nat → Option Nat) (σ : AH) (log : List (Nat × Foot)) (i : Nat) : Prop :=
  ∃ o p q frA run, ops[i]? = some o ∧ plan = p ++ i :: q ∧ Stage ops fr0 vals (· ∈ p) frA ∧ GuardIs n ops frA o.guard run ∧
    (run = false → vals i = .tuple [] ∧ Bs i = none) ∧
    (run = true → ∃ f, Foot.wf σ f ∧ (f = .none ∨ (i, f) ∈ log) ∧ Late C gl n o frA (vals i) (Bs i) fun σ2 => Foot.same σ σ2 f)

structure Inv (C : Cx) (G : Base) (ι0 : IM) (N0 : Nat) (gl : List Nat) (n : Nat) (df : List Deferred) (ops : Array Oper) (wt : List (List Nat)) (plan : List Nat) (fr0 : Fr) (K : Fr → AH → Prop)
    (L : Nat → Prop) (a : Act) (w : World) (pre post : List Nat) (fr : Fr) (σ : AH) (log : List (Nat × Foot)) (cur : Fr) (vals : Nat → AV) (Bs : Nat → Option Nat) (ι : IM) : Prop where
  eqn : plan = pre ++ post
  abs : Stage ops fr0 vals (· ∈ pre) fr
  real : Stage ops fr0 vals L cur
  st : St G ι0 N0 gl n df cur σ ι a w
  sub : ∀ i, L i → i ∈ pre
  closed : Closed ops L
  pend : ∀ i, i ∈ pre → ¬ L i → Pend C gl n ops plan fr0 vals Bs σ log i
  vc : drawVc C gl n ops wt K post log fr σ
  blks : ∀ i b, i ∈ pre → Bs i = some b → b < σ.next ∧ N0 ≤ b ∧ (¬ L i → ι b = none) ∧ ∀ k, k ∈ pre → Bs k = some b → k = i

/-- One more is reckoned. -/
theorem Inv.light (hp : Plan C ops wt plan) {L : Nat → Prop} {a : Act} {w : World} {pre post : List Nat} {i : Nat} {o : Oper} {fr : Fr} {σ : AH} {log : List (Nat × Foot)} {cur : Fr} {vals : Nat → AV} {Bs : Nat → Option Nat} {ι : IM}
    (h : Inv C G ι0 N0 gl n df ops wt plan fr0 K L a w pre (i :: post) fr σ log cur vals Bs ι) (ho : ops[i]? = some o) (hc : cls C o ≠ .heavy) :
    ∃ fr' σ' log' vals' Bs', Inv C G ι0 N0 gl n df ops wt plan fr0 K L a w (pre ++ [i]) post fr' σ' log' cur vals' Bs' ι := by
  have hnin := hp.nodup h.eqn
  have hvc := h.vc
  simp only [drawVc, ho] at hvc
  obtain ⟨run, hvc, hg⟩ := guard_is hvc
  have hfresh : ∀ b, σ.next ≤ b → σ.get b = none := fun b hb => (h.st.rel.fresh b hb).2
  -- the frames
  have hne : ∀ {j}, j ∈ pre → j ≠ i := fun {j} hj e => hnin (e ▸ hj)
  have frames : ∀ v, Stage ops fr0 (fun j => if j = i then v else vals j) (· ∈ pre ++ [i]) (setFr fr o.dst v) := fun v =>
    (Stage.set hp h.abs ho v).iff fun j => by simp
  have hvals : ∀ v j, j ∈ pre → (fun j => if j = i then v else vals j) j = vals j := fun v j hj => if_neg (hne hj)
  -- the new invariant, from what the step yields
  have go : ∀ (v : AV) (B : Option Nat) (σ' : AH) (log' : List (Nat × Foot)), ((σ' = σ ∧ B = none) ∨ ∃ k, σ' = σ.alloc k ∧ B = some σ.next) → (∀ x, x ∈ log → x ∈ log') →
      Pend C gl n ops plan fr0 (fun j => if j = i then v else vals j) (fun j => if j = i then B else Bs j) σ' log' i → drawVc C gl n ops wt K post log' (setFr fr o.dst v) σ' →
      ∃ fr' σ' log' vals' Bs', Inv C G ι0 N0 gl n df ops wt plan fr0 K L a w (pre ++ [i]) post fr' σ' log' cur vals' Bs' ι := by
    intro v B σ' log' hσ hlog hpend hvc'
    have hrel : Rel G ι σ' w := by
      rcases hσ with ⟨rfl, _⟩ | ⟨k, rfl, _⟩
      · exact h.st.rel
      · exact h.st.rel.pend k
    have hnext : σ.next ≤ σ'.next := by
      rcases hσ with ⟨rfl, _⟩ | ⟨k, rfl, _⟩
      · exact Nat.le_refl _
      · simp
    refine ⟨_, σ', log', _, fun j => if j = i then B else Bs j, by rw [h.eqn]; simp, frames v, h.real.congr fun j hj => hvals v j (h.sub j hj), ⟨h.st.frame, h.st.defers, hrel, h.st.ext, Nat.le_trans h.st.next hnext, h.st.globs⟩,
      fun j hj => by simp [h.sub j hj], h.closed, fun j hj hjL => ?_, hvc', fun j b hj hb => ?_⟩
    · simp only [List.mem_append, List.mem_singleton] at hj
      rcases hj with hj | rfl
      · obtain ⟨oj, p, q, frA, runj, h1, h2, h3, h4, h5, h6⟩ := h.pend j hj hjL
        have hsub : ∀ k, k ∈ p → k ∈ pre := by
          intro k hk
          have e1 := h.eqn
          rw [h2] at e1
          have hjp : j ∉ p := hp.nodup h2
          -- p is a beginning of pre, as j lies in pre
          rcases List.append_eq_append_iff.1 e1 with ⟨l, hl, _⟩ | ⟨l, hl, hl2⟩
          · rw [hl]; simp [hk]
          · cases l with
            | nil => simp at hl; rw [← hl]; exact hk
            | cons x l =>
              rw [hl] at hjp
              exact absurd (by simp [hj]) hjp
        refine ⟨oj, p, q, frA, runj, h1, h2, h3.congr fun k hk => hvals v k (hsub k hk), h4, ?_, ?_⟩
        · intro hr
          simp only [if_neg (hne hj)]
          exact h5 hr
        · intro hr
          obtain ⟨f, hw, hf, hl⟩ := h6 hr
          simp only [if_neg (hne hj)]
          have hsame : Foot.same σ σ' f := by
            rcases hσ with ⟨rfl, _⟩ | ⟨k, rfl, _⟩
            · exact Foot.same_refl hw
            · exact Foot.same_alloc hw k
          exact ⟨f, Foot.wf_le hw hnext, hf.imp id (hlog _), hl.mono fun σ2 hs => Foot.same_trans hsame hs⟩
      · exact hpend
    · simp only [List.mem_append, List.mem_singleton] at hj
      by_cases hji : j = i
      · subst hji
        simp only [if_true] at hb
        rcases hσ with ⟨rfl, rfl⟩ | ⟨k, rfl, rfl⟩
        · cases hb
        · cases hb
          refine ⟨by simp, h.st.next, fun _ => (h.st.rel.fresh _ (Nat.le_refl _)).1, fun k hk hkb => ?_⟩
          by_cases hkj : k = j
          · exact hkj
          · simp only [if_neg hkj] at hkb
            simp only [List.mem_append, List.mem_singleton] at hk
            have := (h.blks k _ (hk.resolve_right hkj) hkb).1
            omega
      · simp only [if_neg hji] at hb
        have hj' := hj.resolve_right hji
        obtain ⟨h1, h2, h3, h4⟩ := h.blks j b hj' hb
        refine ⟨by omega, h2, h3, fun k hk hkb => ?_⟩
        by_cases hki : k = i
        · subst hki
          simp only [if_true] at hkb
          rcases hσ with ⟨rfl, rfl⟩ | ⟨k', rfl, rfl⟩
          · cases hkb
          · cases hkb; omega
        · simp only [if_neg hki] at hkb
          simp only [List.mem_append, List.mem_singleton] at hk
          exact h4 k (hk.resolve_right hki) hkb
  have hst : Stage ops fr0 (fun j => if j = i then .any else vals j) (· ∈ pre) fr := h.abs.congr fun j hj => if_neg (hne hj)
  cases run with
  | false =>
    simp only [cond_false] at hvc
    refine go (.tuple []) none σ log (.inl ⟨rfl, rfl⟩) (fun _ h => h) ⟨o, pre, post, fr, false, ho, h.eqn, h.abs.congr fun j hj => if_neg (hne hj), hg, fun _ => ⟨by simp, by simp⟩, fun h => by cases h⟩ hvc
  | true =>
    simp only [cond_true] at hvc
    have key : ∀ (log' : List (Nat × Foot)) , (footOf C gl n o fr σ = .none ∨ (i, footOf C gl n o fr σ) ∈ log') → (∀ x, x ∈ log → x ∈ log') →
        opVc C gl false n o fr σ (fun v σ' => drawVc C gl n ops wt K post log' (setFr fr o.dst v) σ') →
        ∃ fr' σ' log' vals' Bs', Inv C G ι0 N0 gl n df ops wt plan fr0 K L a w (pre ++ [i]) post fr' σ' log' cur vals' Bs' ι := by
      intro log' hin hlog hop
      obtain ⟨v, σ', B, hK, hσ, hwf, _, hlate⟩ := light_step hc hop hfresh
      refine go v B σ' log' hσ hlog ⟨o, pre, post, fr, true, ho, h.eqn, h.abs.congr fun j hj => if_neg (hne hj), hg, (fun h => by cases h), fun _ => ⟨_, hwf, hin, ?_⟩⟩ hK
      simp only [if_true]
      exact hlate
    cases hcl : cls C o with
    | heavy => exact absurd hcl hc
    | pure =>
      rw [hcl] at hvc
      simp only at hvc
      obtain ⟨_, _, _, _, _, _, hpf, _⟩ := light_step hc hvc hfresh
      exact key log (.inl (hpf hcl)) (fun _ h => h) hvc
    | load =>
      rw [hcl] at hvc
      simp only at hvc
      exact key ((i, footOf C gl n o fr σ) :: log) (.inr (by simp)) (fun _ h => by simp [h]) hvc
    | new =>
      rw [hcl] at hvc
      simp only at hvc
      exact key ((i, footOf C gl n o fr σ) :: log) (.inr (by simp)) (fun _ h => by simp [h]) hvc
end
end Go.Proofs.YthpngchngnaloaaGreatDoor.Vm

/-! Operations whose order is open: every order. -/
namespace Go.Proofs.YthpngchngnaloaaGreatDoor.Vm
open RowKit (Below)
section
variable {C : Cx} {G : Base} {ι0 : IM} {N0 : Nat} {gl : List Nat} {n : Nat} {df : List Deferred} {rd : Option Nat} {ops : Array Oper} {wt : List (List Nat)} {plan : List Nat} {fr0 : Fr} {K : Fr → AH → Prop} {Q : Exit → Act → World → Prop}
  {L : Nat → Prop} {a : Act} {w : World}

theorem Inv.adv (hp : Plan C ops wt plan) {i : Nat} {o : Oper} (ho : ops[i]? = some o) (hi : ¬ L i) (ha : ∀ e ∈ o.after, Region.binds .any e = true → L e.on) {cur : Fr} {ι : IM} :
    ∀ (post pre : List Nat) (fr : Fr) (σ : AH) (log : List (Nat × Foot)) (vals : Nat → AV) (Bs : Nat → Option Nat), Inv C G ι0 N0 gl n df ops wt plan fr0 K L a w pre post fr σ log cur vals Bs ι → i ∉ pre →
    ∃ pre' post' fr' σ' log' vals' Bs', Inv C G ι0 N0 gl n df ops wt plan fr0 K L a w pre' post' fr' σ' log' cur vals' Bs' ι ∧ (i ∈ pre' ∨ (i ∉ pre' ∧ cls C o = .heavy ∧ ∃ q, post' = i :: q))
  | [], pre, fr, σ, log, vals, Bs, h, hn => by
    have := hp.all i (Array.getElem?_eq_some_iff.1 ho).1
    rw [h.eqn] at this
    simp at this
    exact absurd this hn
  | k :: post, pre, fr, σ, log, vals, Bs, h, hn => by
    obtain ⟨ok, hk⟩ := hp.at_ _ _ _ h.eqn
    by_cases hc : cls C ok = .heavy
    · by_cases hki : k = i
      · subst hki
        have := hk.op
        rw [ho] at this
        cases this
        exact ⟨_, _, _, _, _, _, _, h, .inr ⟨hn, hc, _, rfl⟩⟩
      · exfalso
        have him := hp.all i (Array.getElem?_eq_some_iff.1 ho).1
        rw [h.eqn] at him
        simp only [List.mem_append, List.mem_cons] at him
        have him' : i ∈ post := by
          rcases him with h1 | h1 | h1
          · exact absurd h1 hn
          · exact absurd h1.symm hki
          · exact h1
        exact hk.nin (h.sub k (hp.wait h.closed ho ha (hk.hvy hc i him')))
    · obtain ⟨fr', σ', log', vals', Bs', h'⟩ := h.light hp hk.op hc
      by_cases hki : k = i
      · exact ⟨_, _, _, _, _, _, _, h', .inl (by simp [hki])⟩
      · exact Inv.adv hp ho hi ha post _ _ _ _ _ _ h' (by simp [hn, Ne.symm hki])

theorem closed_or {i : Nat} {o : Oper} (hL : Closed ops L) (ho : ops[i]? = some o) (ha : ∀ e ∈ o.after, Region.binds .any e = true → L e.on) : Closed ops fun j => L j ∨ j = i := by
  rintro j oj (hj | rfl) hoj e he hb
  · exact .inl (hL j oj hj hoj e he hb)
  · rw [ho] at hoj
    cases hoj
    exact .inl (ha e he hb)

theorem looks_tmp {o : Oper} {t : Nat} (h : Operand.tmp t ∈ o.op.operands.toList) : t ∈ o.looksAt ops :=
  List.mem_append_left _ (List.mem_filterMap.2 ⟨.tmp t, h, rfl⟩)
theorem ev_agree {o : Oper} {frA cur : Fr} (h : ∀ t, t ∈ o.looksAt ops → frA t = cur t) {x : Operand} (hx : x ∈ o.op.operands.toList) : ev gl n frA x = ev gl n cur x := by
  cases x with
  | tmp t => simp only [ev]; rw [h t (looks_tmp hx)]
  | const v => rfl
  | global g => rfl
  | func f => rfl
theorem looks_guard {o : Oper} {j : Nat} {want : Bool} {oj : Oper} {t : Nat} (hg : o.guard = some (j, want)) (hj : ops[j]? = some oj) (hd : oj.dst = some t) : t ∈ o.looksAt ops := by
  unfold Oper.looksAt
  rw [hg]
  simp [hj, hd]

/-- What was reckoned is carried out. -/
theorem Inv.take (hp : Plan C ops wt plan) {pre post : List Nat} {fr : Fr} {σ : AH} {log : List (Nat × Foot)} {cur : Fr} {vals : Nat → AV} {Bs : Nat → Option Nat} {ι : IM}
    (h : Inv C G ι0 N0 gl n df ops wt plan fr0 K L a w pre post fr σ log cur vals Bs ι) {i : Nat} {o : Oper} (ho : ops[i]? = some o) (hi : ¬ L i) (ha : ∀ e ∈ o.after, Region.binds .any e = true → L e.on) (him : i ∈ pre)
    {Kn : Act → World → Prop} (hK : ∀ a' w' cur' ι', Inv C G ι0 N0 gl n df ops wt plan fr0 K (fun j => L j ∨ j = i) a' w' pre post fr σ log cur' vals Bs ι' → Kn a' w') : wpOpIn (fw rd) 0 C.P ops Q i Kn a w := by
  obtain ⟨o', p, q, frA, run, h1, h2, h3, h4, h5, h6⟩ := h.pend i him hi
  rw [ho] at h1
  cases h1
  have hsub : ∀ j, L j → j ∈ plan := fun j hj => by rw [h.eqn]; simp [h.sub j hj]
  have hag : ∀ t, t ∈ o.looksAt ops → frA t = cur t := fun t ht => hp.agree h2 ho h.closed hi ha hsub h3 h.real ht
  have hw := h4 o a.tmps rfl fun j want oj t hg hj hd ht => by
    obtain ⟨v, hv, hr⟩ := h.st.frame.2 t ht
    exact ⟨ι, v, hv, by rw [hag t (looks_guard hg hj hd)]; exact hr⟩
  have hreal : Stage ops fr0 vals (fun j => L j ∨ j = i) (setFr cur o.dst (vals i)) :=
    (Stage.set hp h.real ho (vals i)).congr fun j _ => by
      by_cases hji : j = i
      · subst hji; exact (if_pos rfl).symm
      · exact (if_neg hji).symm
  -- what is left
  have rest : ∀ (v' : Value) (w' : World) (ι' : IM), Rel G ι' σ w' → ι.le ι' → (∀ b, Bs i ≠ some b → ι' b = ι b) → VRel ι' (vals i) v' → Kn (a.put o.dst v') w' := by
    intro v' w' ι' hr hle hb hv
    refine hK _ _ (setFr cur o.dst (vals i)) ι' ⟨h.eqn, h.abs, hreal, ⟨(h.st.frame.mono hle).put o.dst hv, by rw [Act.put_defs]; exact h.st.defers, hr, fun b hbN => ?_, h.st.next, h.st.globs.le hle⟩, ?_, closed_or h.closed ho ha, ?_, h.vc, ?_⟩
    · rw [hb b fun e => by have := (h.blks i b him e).2.1; omega]
      exact h.st.ext b hbN
    · rintro j (hj | rfl)
      · exact h.sub j hj
      · exact him
    · intro j hj hjL
      exact h.pend j hj fun hl => hjL (.inl hl)
    · intro j b hj hjb
      obtain ⟨g1, g2, g3, g4⟩ := h.blks j b hj hjb
      refine ⟨g1, g2, fun hjL => ?_, g4⟩
      have hji : j ≠ i := fun e => hjL (.inr e)
      rw [hb b fun e => hji (g4 i him e).symm]
      exact g3 fun hl => hjL (.inl hl)
  unfold wpOpIn
  simp only [ho, hw]
  cases run with
  | false =>
    simp only [Bool.false_eq_true, if_false]
    obtain ⟨e1, e2⟩ := h5 rfl
    exact ⟨fun _ _ => trivial, rest undef w ι h.st.rel (IM.le_refl _) (fun _ _ => rfl) (by rw [e1]; exact vrel_undef ι)⟩
  | true =>
    simp only [if_true]
    obtain ⟨f, hf1, hf2, hlate⟩ := h6 rfl
    have hops : Ops ι gl n frA a.eval o.op.operands.toList := fun x hx => by
      rw [ev_agree (ops := ops) hag hx]
      exact ev_sound h.st.frame h.st.globs x
    refine ((hlate G σ ι w a.eval (Foot.same_refl hf1) h.st.rel h.st.globs (fun b hb => (h.blks i b him hb).2.2.1 hi) hops).wp ?_)
    rintro v' w' ⟨ι', g1, g2, g3, g4⟩
    exact rest v' w' ι' g1 g2 g3 g4

/-- What changes memory is reckoned and carried out at once. -/
theorem Inv.heavy (hp : Plan C ops wt plan) {pre post : List Nat} {fr : Fr} {σ : AH} {log : List (Nat × Foot)} {cur : Fr} {vals : Nat → AV} {Bs : Nat → Option Nat} {ι : IM} {i : Nat} {o : Oper}
    (h : Inv C G ι0 N0 gl n df ops wt plan fr0 K L a w pre (i :: post) fr σ log cur vals Bs ι) (ho : ops[i]? = some o) (hi : ¬ L i) (ha : ∀ e ∈ o.after, Region.binds .any e = true → L e.on) (hc : cls C o = .heavy)
    {Kn : Act → World → Prop} (hK : ∀ a' w' fr' σ' cur' vals' Bs' ι', Inv C G ι0 N0 gl n df ops wt plan fr0 K (fun j => L j ∨ j = i) a' w' (pre ++ [i]) post fr' σ' log cur' vals' Bs' ι' → Kn a' w') : wpOpIn (fw rd) 0 C.P ops Q i Kn a w := by
  have hnin := hp.nodup h.eqn
  have hvc := h.vc
  simp only [drawVc, ho] at hvc
  obtain ⟨run, hvc, hg⟩ := guard_is hvc
  have hsub : ∀ j, L j → j ∈ plan := fun j hj => by rw [h.eqn]; simp [h.sub j hj]
  have hag : ∀ t, t ∈ o.looksAt ops → fr t = cur t := fun t ht => hp.agree h.eqn ho h.closed hi ha hsub h.abs h.real ht
  have hw := hg o a.tmps rfl fun j want oj t hg hj hd ht => by
    obtain ⟨v, hv, hr⟩ := h.st.frame.2 t ht
    exact ⟨ι, v, hv, by rw [hag t (looks_guard hg hj hd)]; exact hr⟩
  have hne : ∀ {j}, j ∈ pre → j ≠ i := fun {j} hj e => hnin (e ▸ hj)
  have rest : ∀ (v : AV) (v' : Value) (σ' : AH) (w' : World) (ι' : IM), Rel G ι' σ' w' → Ext σ.next ι ι' → σ.next ≤ σ'.next → VRel ι' v v' → (∀ {k f}, (k, f) ∈ log → ¬ L k → Foot.wf σ f → Foot.same σ σ' f) →
      drawVc C gl n ops wt K post log (setFr fr o.dst v) σ' → Kn (a.put o.dst v') w' := by
    intro v v' σ' w' ι' hr hext hnext hv hobl hvc'
    have hle := h.st.rel.le hext
    refine hK _ _ (setFr fr o.dst v) σ' (setFr cur o.dst v) (fun j => if j = i then v else vals j) (fun j => if j = i then none else Bs j) ι'
      ⟨by rw [h.eqn]; simp, (Stage.set hp h.abs ho v).iff fun j => by simp, Stage.set hp h.real ho v, h.st.put o.dst hr hext hnext hv, ?_, closed_or h.closed ho ha, ?_, hvc', ?_⟩
    · rintro j (hj | rfl)
      · simp [h.sub j hj]
      · simp
    · intro j hj hjL
      have hji : j ≠ i := fun e => hjL (.inr e)
      have hjl : ¬ L j := fun hl => hjL (.inl hl)
      simp only [List.mem_append, List.mem_singleton] at hj
      have hj' := hj.resolve_right hji
      obtain ⟨oj, p, q, frA, runj, h1, h2, h3, h4, h5, h6⟩ := h.pend j hj' hjl
      have hsub : ∀ k, k ∈ p → k ∈ pre := by
        intro k hk
        have e1 := h.eqn
        rw [h2] at e1
        have hjp : j ∉ p := hp.nodup h2
        rcases List.append_eq_append_iff.1 e1 with ⟨l, hl, _⟩ | ⟨l, hl, hl2⟩
        · rw [hl]; simp [hk]
        · cases l with
          | nil => simp at hl; rw [← hl]; exact hk
          | cons x l =>
            rw [hl] at hjp
            exact absurd (by simp [hj']) hjp
      refine ⟨oj, p, q, frA, runj, h1, h2, h3.congr fun k hk => if_neg (hne (hsub k hk)), h4, ?_, ?_⟩
      · intro hr
        simp only [if_neg hji]
        exact h5 hr
      · intro hr
        obtain ⟨f, hwf, hf, hl⟩ := h6 hr
        simp only [if_neg hji]
        have hsame : Foot.same σ σ' f := by
          rcases hf with rfl | hf
          · trivial
          · exact hobl hf hjl hwf
        exact ⟨f, Foot.wf_le hwf hnext, hf, hl.mono fun σ2 hs => Foot.same_trans hsame hs⟩
    · intro j b hj hjb
      by_cases hji : j = i
      · simp only [if_pos hji] at hjb; cases hjb
      · simp only [if_neg hji] at hjb
        simp only [List.mem_append, List.mem_singleton] at hj
        obtain ⟨g1, g2, g3, g4⟩ := h.blks j b (hj.resolve_right hji) hjb
        refine ⟨by omega, g2, fun hjL => ?_, fun k hk hkb => ?_⟩
        · rw [hext b g1]
          exact g3 fun hl => hjL (.inl hl)
        · by_cases hki : k = i
          · simp only [if_pos hki] at hkb; cases hkb
          · simp only [if_neg hki] at hkb
            simp only [List.mem_append, List.mem_singleton] at hk
            exact g4 k (hk.resolve_right hki) hkb
  unfold wpOpIn
  simp only [ho, hw]
  cases run with
  | false =>
    simp only [cond_false] at hvc
    simp only [Bool.false_eq_true, if_false]
    exact ⟨fun _ _ => trivial, rest (.tuple []) undef σ w ι h.st.rel (Ext.refl _ _) (Nat.le_refl _) (vrel_undef ι) (fun {k f} _ _ hwf => Foot.same_refl hwf) hvc⟩
  | true =>
    simp only [cond_true, hc] at hvc
    simp only [if_true]
    have hops : Ops ι gl n fr a.eval o.op.operands.toList := fun x hx => by
      rw [ev_agree (ops := ops) hag hx]
      exact ev_sound h.st.frame h.st.globs x
    refine ((opVc_sound h.st.rel h.st.globs hops hvc).wp ?_)
    rintro v' w' ⟨v, σ', ι', g1, g2, g3, g4, g5, g6⟩
    exact rest v v' σ' w' ι' g1 g2 g3 g4 (fun {k f} hkf hk _ => obls_spec g5 hkf fun hkw => hk (hp.wait h.closed ho ha hkw)) g6

/-- The order is open, and every order does what the plan says. -/
theorem draw_any (hp : Plan C ops wt plan) (hQ : ∀ fr σ ι a w, St G ι0 N0 gl n df fr σ ι a w → K fr σ → Q .normal a w) :
    ∀ (fuel : Nat) (listed : Array Bool) (a : Act) (w : World) (pre post : List Nat) (fr : Fr) (σ : AH) (log : List (Nat × Foot)) (cur : Fr) (vals : Nat → AV) (Bs : Nat → Option Nat) (ι : IM),
      listed.size = ops.size → Inv C G ι0 N0 gl n df ops wt plan fr0 K (fun i => listed.getD i false = true) a w pre post fr σ log cur vals Bs ι →
      (∀ S : List Nat, S.Nodup → (∀ i ∈ S, i < ops.size ∧ ¬ listed.getD i false = true) → S.length ≤ fuel) → wpAnyIn (fw rd) 0 C.P .any ops Q fuel listed a w := by
  intro fuel
  have done : ∀ (listed : Array Bool) (a : Act) (w : World) (pre post : List Nat) (fr : Fr) (σ : AH) (log : List (Nat × Foot)) (cur : Fr) (vals : Nat → AV) (Bs : Nat → Option Nat) (ι : IM),
      listed.size = ops.size → Inv C G ι0 N0 gl n df ops wt plan fr0 K (fun i => listed.getD i false = true) a w pre post fr σ log cur vals Bs ι → Region.ready .any ops listed = [] → Q .normal a w := by
    intro listed a w pre post fr σ log cur vals Bs ι hsz h hr
    have hlist : ∀ (m : Nat) (j : Nat), j ∈ plan.take m → listed.getD j false = true := by
      intro m
      induction m with
      | zero => intro j hj; simp at hj
      | succ m ih =>
        intro j hj
        rcases Nat.lt_or_ge m plan.length with hm | hm
        · rw [List.take_succ_eq_append_getElem hm] at hj
          simp only [List.mem_append, List.mem_singleton] at hj
          rcases hj with hj | rfl
          · exact ih j hj
          · have he : plan = plan.take m ++ plan[m] :: plan.drop (m + 1) := by rw [List.getElem_cons_drop, List.take_append_drop]
            obtain ⟨o, ho⟩ := hp.at_ _ _ _ he
            have hlt := (Array.getElem?_eq_some_iff.1 ho.op).1
            cases hl : listed.getD plan[m] false with
            | true => rfl
            | false =>
              exfalso
              have : plan[m] ∈ Region.ready .any ops listed := mem_ready.2 ⟨by
                have hlt' : plan[m] < listed.size := by rw [hsz]; exact hlt
                simp only [Array.getD_eq_getD_getElem?, Array.getElem?_eq_getElem hlt', Option.getD_some] at hl ⊢
                exact hl, o, ho.op, fun e he hb => ih _ (ho.aft e he hb)⟩
              rw [hr] at this
              cases this
        · rw [List.take_of_length_le (by omega)] at hj
          exact ih j (by rw [List.take_of_length_le hm]; exact hj)
    have hall : ∀ j, j ∈ plan → listed.getD j false = true := fun j hj => hlist plan.length j (by rw [List.take_length]; exact hj)
    cases post with
    | cons k post =>
      exact absurd (h.sub k (hall k (by rw [h.eqn]; simp))) (hp.nodup h.eqn)
    | nil =>
      have hpre : plan = pre := by rw [h.eqn]; simp
      have : fr = cur := h.abs.eq (h.real.iff fun j => ⟨fun hj => h.sub j hj, fun hj => hall j (by rw [hpre]; exact hj)⟩)
      subst this
      exact hQ fr σ ι a w h.st h.vc
  induction fuel with
  | zero =>
    intro listed a w pre post fr σ log cur vals Bs ι hsz h hf
    have hr : Region.ready .any ops listed = [] := by
      cases hr : Region.ready .any ops listed with
      | nil => rfl
      | cons i r =>
        have hi : i ∈ Region.ready .any ops listed := by rw [hr]; simp
        obtain ⟨h0, o, ho, _⟩ := mem_ready.1 hi
        have hlt := (Array.getElem?_eq_some_iff.1 ho).1
        have := hf [i] (by simp) fun k hk => by
          simp only [List.mem_singleton] at hk
          subst hk
          refine ⟨hlt, ?_⟩
          have hlt' : k < listed.size := by rw [hsz]; exact hlt
          simp only [Array.getD_eq_getD_getElem?, Array.getElem?_eq_getElem hlt', Option.getD_some] at h0 ⊢
          simp [h0]
        simp at this
    exact ⟨hr, done listed a w pre post fr σ log cur vals Bs ι hsz h hr⟩
  | succ fuel ih =>
    intro listed a w pre post fr σ log cur vals Bs ι hsz h hf
    refine ⟨done listed a w pre post fr σ log cur vals Bs ι hsz h, fun i hi => ?_⟩
    obtain ⟨h0, o, ho, ha⟩ := mem_ready.1 hi
    have hlt := (Array.getElem?_eq_some_iff.1 ho).1
    have hlt' : i < listed.size := by rw [hsz]; exact hlt
    have hiL : ¬ listed.getD i false = true := by
      simp only [Array.getD_eq_getD_getElem?, Array.getElem?_eq_getElem hlt', Option.getD_some] at h0 ⊢
      simp [h0]
    have hset : ∀ j, (listed.setIfInBounds i true).getD j false = true ↔ (listed.getD j false = true ∨ j = i) := by
      intro j
      by_cases hji : j = i
      · subst hji
        simp only [Array.getD_eq_getD_getElem?, Array.getElem?_setIfInBounds_self_of_lt hlt', Option.getD_some, or_true]
      · rw [getD_set_ne false (Ne.symm hji)]
        simp [hji]
    have hfun : (fun j => (listed.setIfInBounds i true).getD j false = true) = fun j => listed.getD j false = true ∨ j = i := funext fun j => propext (hset j)
    have hf' : ∀ S : List Nat, S.Nodup → (∀ k ∈ S, k < ops.size ∧ ¬ (listed.setIfInBounds i true).getD k false = true) → S.length ≤ fuel := by
      intro S hS hk
      have := hf (i :: S) (List.nodup_cons.2 ⟨fun hm => (hk i hm).2 ((hset i).2 (.inr rfl)), hS⟩) fun k hkm => by
        simp only [List.mem_cons] at hkm
        rcases hkm with rfl | hkm
        · exact ⟨hlt, hiL⟩
        · exact ⟨(hk k hkm).1, fun hl => (hk k hkm).2 ((hset k).2 (.inl hl))⟩
      simp at this
      omega
    have hsz' : (listed.setIfInBounds i true).size = ops.size := by simp [hsz]
    by_cases him : i ∈ pre
    · exact h.take hp ho hiL ha him fun a' w' cur' ι' h' => ih _ a' w' _ _ _ _ _ _ _ _ _ hsz' (by rw [hfun]; exact h') hf'
    · obtain ⟨pre', post', fr', σ', log', vals', Bs', h', hx⟩ := Inv.adv hp ho hiL ha _ _ _ _ _ _ _ h him
      rcases hx with him' | ⟨_, hc, q, rfl⟩
      · exact h'.take hp ho hiL ha him' fun a' w' cur' ι' h'' => ih _ a' w' _ _ _ _ _ _ _ _ _ hsz' (by rw [hfun]; exact h'') hf'
      · exact h'.heavy hp ho hiL ha hc fun a' w' fr' σ' cur' vals' Bs' ι' h'' => ih _ a' w' _ _ _ _ _ _ _ _ _ hsz' (by rw [hfun]; exact h'') hf'

theorem drawVc_sound {ι : IM} {id : Nat} {fr : Fr} {σ : AH} (hs : St G ι0 N0 gl n df fr σ ι a w) (h : drawAll C gl n ops wt plan K fr σ) (hQ : ∀ fr σ ι a w, St G ι0 N0 gl n df fr σ ι a w → K fr σ → Q .normal a w) :
    (Code.region id ops true).wpIn (fw rd) 0 C.P Q a w := by
  unfold drawAll at h
  split at h
  case isFalse => cases h
  rename_i hok
  have hp := plan_spec hok
  refine wpIn_region_any C.mixed (draw_any (G := G) (ι0 := ι) (N0 := σ.next) (gl := gl) (n := n) (df := df) (wt := wt) (plan := plan) (fr0 := fr) (K := K) hp (fun fr' σ' ι' a' w' hs' hK => ?_) ops.size _ a _ [] plan fr σ [] fr (fun _ => .any) (fun _ => none) ι (by simp) ?_ ?_)
  · exact hQ _ _ _ _ _ ⟨hs'.frame, hs'.defers, hs'.rel, hs.ext.trans hs'.ext hs.next, Nat.le_trans hs.next hs'.next, hs'.globs⟩ hK
  · have hno : ∀ i, ¬ (Array.replicate ops.size false).getD i false = true := fun i => by
      simp only [Array.getD_eq_getD_getElem?, Array.getElem?_replicate]
      split <;> simp
    refine ⟨by simp, fun t => ⟨(fun j hj => by cases hj), fun _ => rfl⟩, fun t => ⟨fun j hj => absurd hj (hno j), fun _ => rfl⟩, ⟨hs.frame, hs.defers, hs.rel.drawn _, Ext.refl _ _, Nat.le_refl _, hs.globs⟩,
      fun i hi => absurd hi (hno i), fun i o hi => absurd hi (hno i), (fun i hi => by cases hi), h, (fun i b hi => by cases hi)⟩
  · intro S hS hk
    exact pigeon _ S hS fun i hi => (hk i hi).1
end
end Go.Proofs.YthpngchngnaloaaGreatDoor.Vm
