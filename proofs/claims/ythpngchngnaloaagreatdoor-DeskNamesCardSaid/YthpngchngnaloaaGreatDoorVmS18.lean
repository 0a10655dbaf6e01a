/- Operations whose order is open: every order. -/
import Derived.Test.YthpngchngnaloaaGreatDoorVmS17
namespace Go.Proofs.YthpngchngnaloaaGreatDoor.Vm
open RowKit (Below)
section
variable {C : Cx} {G : Base} {ι0 : IM} {N0 : Nat} {gl : List Nat} {n : Nat} {df : List Deferred} {rd : Option Nat} {ops : Array Oper} {wt : List (List Nat)} {plan : List Nat} {fr0 : Fr} {K : Fr → AH → Prop} {Q : Exit → Act → World → Prop}
  {L : Nat → Prop} {a : Act} {w : World}

theorem Inv.adv (hp : Plan C ops wt plan) {i : Nat} {o : Oper} (ho : ops[i]? = some o) (hi : ¬ L i) (ha : ∀ e ∈ o.after, Region.binds .any e = true → L e.on) {cur : Fr} {ι : IM} :
    ∀ (post pre : List Nat) (fr : Fr) (σ : AH) (log : List (Nat × Foot)) (vals : Nat → AV) (Bs : Nat → Option Nat), Inv C G ι0 N0 gl n df ops wt plan fr0 K L a w pre post fr σ log cur vals Bs ι → i ∉ pre →
    ∃ pre' post' fr' σ' log' vals' Bs', Inv C G ι0 N0 gl n df ops wt plan fr0 K L a w pre' post' fr' σ' log' cur vals' Bs' ι ∧ (i ∈ pre' ∨ (i ∉ pre' ∧ cls C o = .heavy ∧ ∃ q, post' = i :: q))
  | [], pre, fr, σ, log, vals, Bs, h, hn => by
    have := hp.all i (Array.getElem?_eq_some_iff.1 ho).1
    rw [h.eqn] at this
    simp at this
    exact absurd this hn
  | k :: post, pre, fr, σ, log, vals, Bs, h, hn => by
    obtain ⟨ok, hk⟩ := hp.at_ _ _ _ h.eqn
    by_cases hc : cls C ok = .heavy
    · by_cases hki : k = i
      · subst hki
        have := hk.op
        rw [ho] at this
        cases this
        exact ⟨_, _, _, _, _, _, _, h, .inr ⟨hn, hc, _, rfl⟩⟩
      · exfalso
        have him := hp.all i (Array.getElem?_eq_some_iff.1 ho).1
        rw [h.eqn] at him
        simp only [List.mem_append, List.mem_cons] at him
        have him' : i ∈ post := by
          rcases him with h1 | h1 | h1
          · exact absurd h1 hn
          · exact absurd h1.symm hki
          · exact h1
        exact hk.nin (h.sub k (hp.wait h.closed ho ha (hk.hvy hc i him')))
    · obtain ⟨fr', σ', log', vals', Bs', h'⟩ := h.light hp hk.op hc
      by_cases hki : k = i
      · exact ⟨_, _, _, _, _, _, _, h', .inl (by simp [hki])⟩
      · exact Inv.adv hp ho hi ha post _ _ _ _ _ _ h' (by simp [hn, Ne.symm hki])

theorem closed_or {i : Nat} {o : Oper} (hL : Closed ops L) (ho : ops[i]? = some o) (ha : ∀ e ∈ o.after, Region.binds .any e = true → L e.on) : Closed ops fun j => L j ∨ j = i := by
  rintro j oj (hj | rfl) hoj e he hb
  · exact .inl (hL j oj hj hoj e he hb)
  · rw [ho] at hoj
    cases hoj
    exact .inl (ha e he hb)

theorem looks_tmp {o : Oper} {t : Nat} (h : Operand.tmp t ∈ o.op.operands.toList) : t ∈ o.looksAt ops :=
  List.mem_append_left _ (List.mem_filterMap.2 ⟨.tmp t, h, rfl⟩)
theorem ev_agree {o : Oper} {frA cur : Fr} (h : ∀ t, t ∈ o.looksAt ops → frA t = cur t) {x : Operand} (hx : x ∈ o.op.operands.toList) : ev gl n frA x = ev gl n cur x := by
  cases x with
  | tmp t => simp only [ev]; rw [h t (looks_tmp hx)]
  | const v => rfl
  | global g => rfl
  | func f => rfl
theorem looks_guard {o : Oper} {j : Nat} {want : Bool} {oj : Oper} {t : Nat} (hg : o.guard = some (j, want)) (hj : ops[j]? = some oj) (hd : oj.dst = some t) : t ∈ o.looksAt ops := by
  unfold Oper.looksAt
  rw [hg]
  simp [hj, hd]

/-- What was reckoned is carried out. -/
theorem Inv.take (hp : Plan C ops wt plan) {pre post : List Nat} {fr : Fr} {σ : AH} {log : List (Nat × Foot)} {cur : Fr} {vals : Nat → AV} {Bs : Nat → Option Nat} {ι : IM}
    (h : Inv C G ι0 N0 gl n df ops wt plan fr0 K L a w pre post fr σ log cur vals Bs ι) {i : Nat} {o : Oper} (ho : ops[i]? = some o) (hi : ¬ L i) (ha : ∀ e ∈ o.after, Region.binds .any e = true → L e.on) (him : i ∈ pre)
    {Kn : Act → World → Prop} (hK : ∀ a' w' cur' ι', Inv C G ι0 N0 gl n df ops wt plan fr0 K (fun j => L j ∨ j = i) a' w' pre post fr σ log cur' vals Bs ι' → Kn a' w') : wpOpIn (fw rd) 0 C.P ops Q i Kn a w := by
  obtain ⟨o', p, q, frA, run, h1, h2, h3, h4, h5, h6⟩ := h.pend i him hi
  rw [ho] at h1
  cases h1
  have hsub : ∀ j, L j → j ∈ plan := fun j hj => by rw [h.eqn]; simp [h.sub j hj]
  have hag : ∀ t, t ∈ o.looksAt ops → frA t = cur t := fun t ht => hp.agree h2 ho h.closed hi ha hsub h3 h.real ht
  have hw := h4 o a.tmps rfl fun j want oj t hg hj hd ht => by
    obtain ⟨v, hv, hr⟩ := h.st.frame.2 t ht
    exact ⟨ι, v, hv, by rw [hag t (looks_guard hg hj hd)]; exact hr⟩
  have hreal : Stage ops fr0 vals (fun j => L j ∨ j = i) (setFr cur o.dst (vals i)) :=
    (Stage.set hp h.real ho (vals i)).congr fun j _ => by
      by_cases hji : j = i
      · subst hji; exact (if_pos rfl).symm
      · exact (if_neg hji).symm
  -- what is left
  have rest : ∀ (v' : Value) (w' : World) (ι' : IM), Rel G ι' σ w' → ι.le ι' → (∀ b, Bs i ≠ some b → ι' b = ι b) → VRel ι' (vals i) v' → Kn (a.put o.dst v') w' := by
    intro v' w' ι' hr hle hb hv
    refine hK _ _ (setFr cur o.dst (vals i)) ι' ⟨h.eqn, h.abs, hreal, ⟨(h.st.frame.mono hle).put o.dst hv, by rw [Act.put_defs]; exact h.st.defers, hr, fun b hbN => ?_, h.st.next, h.st.globs.le hle⟩, ?_, closed_or h.closed ho ha, ?_, h.vc, ?_⟩
    · rw [hb b fun e => by have := (h.blks i b him e).2.1; omega]
      exact h.st.ext b hbN
    · rintro j (hj | rfl)
      · exact h.sub j hj
      · exact him
    · intro j hj hjL
      exact h.pend j hj fun hl => hjL (.inl hl)
    · intro j b hj hjb
      obtain ⟨g1, g2, g3, g4⟩ := h.blks j b hj hjb
      refine ⟨g1, g2, fun hjL => ?_, g4⟩
      have hji : j ≠ i := fun e => hjL (.inr e)
      rw [hb b fun e => hji (g4 i him e).symm]
      exact g3 fun hl => hjL (.inl hl)
  unfold wpOpIn
  simp only [ho, hw]
  cases run with
  | false =>
    simp only [Bool.false_eq_true, if_false]
    obtain ⟨e1, e2⟩ := h5 rfl
    exact ⟨fun _ _ => trivial, rest undef w ι h.st.rel (IM.le_refl _) (fun _ _ => rfl) (by rw [e1]; exact vrel_undef ι)⟩
  | true =>
    simp only [if_true]
    obtain ⟨f, hf1, hf2, hlate⟩ := h6 rfl
    have hops : Ops ι gl n frA a.eval o.op.operands.toList := fun x hx => by
      rw [ev_agree (ops := ops) hag hx]
      exact ev_sound h.st.frame h.st.globs x
    refine ((hlate G σ ι w a.eval (Foot.same_refl hf1) h.st.rel h.st.globs (fun b hb => (h.blks i b him hb).2.2.1 hi) hops).wp ?_)
    rintro v' w' ⟨ι', g1, g2, g3, g4⟩
    exact rest v' w' ι' g1 g2 g3 g4

/-- What changes memory is reckoned and carried out at once. -/
theorem Inv.heavy (hp : Plan C ops wt plan) {pre post : List Nat} {fr : Fr} {σ : AH} {log : List (Nat × Foot)} {cur : Fr} {vals : Nat → AV} {Bs : Nat → Option Nat} {ι : IM} {i : Nat} {o : Oper}
    (h : Inv C G ι0 N0 gl n df ops wt plan fr0 K L a w pre (i :: post) fr σ log cur vals Bs ι) (ho : ops[i]? = some o) (hi : ¬ L i) (ha : ∀ e ∈ o.after, Region.binds .any e = true → L e.on) (hc : cls C o = .heavy)
    {Kn : Act → World → Prop} (hK : ∀ a' w' fr' σ' cur' vals' Bs' ι', Inv C G ι0 N0 gl n df ops wt plan fr0 K (fun j => L j ∨ j = i) a' w' (pre ++ [i]) post fr' σ' log cur' vals' Bs' ι' → Kn a' w') : wpOpIn (fw rd) 0 C.P ops Q i Kn a w := by
  have hnin := hp.nodup h.eqn
  have hvc := h.vc
  simp only [drawVc, ho] at hvc
  obtain ⟨run, hvc, hg⟩ := guard_is hvc
  have hsub : ∀ j, L j → j ∈ plan := fun j hj => by rw [h.eqn]; simp [h.sub j hj]
  have hag : ∀ t, t ∈ o.looksAt ops → fr t = cur t := fun t ht => hp.agree h.eqn ho h.closed hi ha hsub h.abs h.real ht
  have hw := hg o a.tmps rfl fun j want oj t hg hj hd ht => by
    obtain ⟨v, hv, hr⟩ := h.st.frame.2 t ht
    exact ⟨ι, v, hv, by rw [hag t (looks_guard hg hj hd)]; exact hr⟩
  have hne : ∀ {j}, j ∈ pre → j ≠ i := fun {j} hj e => hnin (e ▸ hj)
  have rest : ∀ (v : AV) (v' : Value) (σ' : AH) (w' : World) (ι' : IM), Rel G ι' σ' w' → Ext σ.next ι ι' → σ.next ≤ σ'.next → VRel ι' v v' → (∀ {k f}, (k, f) ∈ log → ¬ L k → Foot.wf σ f → Foot.same σ σ' f) →
      drawVc C gl n ops wt K post log (setFr fr o.dst v) σ' → Kn (a.put o.dst v') w' := by
    intro v v' σ' w' ι' hr hext hnext hv hobl hvc'
    have hle := h.st.rel.le hext
    refine hK _ _ (setFr fr o.dst v) σ' (setFr cur o.dst v) (fun j => if j = i then v else vals j) (fun j => if j = i then none else Bs j) ι'
      ⟨by rw [h.eqn]; simp, (Stage.set hp h.abs ho v).iff fun j => by simp, Stage.set hp h.real ho v, h.st.put o.dst hr hext hnext hv, ?_, closed_or h.closed ho ha, ?_, hvc', ?_⟩
    · rintro j (hj | rfl)
      · simp [h.sub j hj]
      · simp
    · intro j hj hjL
      have hji : j ≠ i := fun e => hjL (.inr e)
      have hjl : ¬ L j := fun hl => hjL (.inl hl)
      simp only [List.mem_append, List.mem_singleton] at hj
      have hj' := hj.resolve_right hji
      obtain ⟨oj, p, q, frA, runj, h1, h2, h3, h4, h5, h6⟩ := h.pend j hj' hjl
      have hsub : ∀ k, k ∈ p → k ∈ pre := by
        intro k hk
        have e1 := h.eqn
        rw [h2] at e1
        have hjp : j ∉ p := hp.nodup h2
        rcases List.append_eq_append_iff.1 e1 with ⟨l, hl, _⟩ | ⟨l, hl, hl2⟩
        · rw [hl]; simp [hk]
        · cases l with
          | nil => simp at hl; rw [← hl]; exact hk
          | cons x l =>
            rw [hl] at hjp
            exact absurd (by simp [hj']) hjp
      refine ⟨oj, p, q, frA, runj, h1, h2, h3.congr fun k hk => if_neg (hne (hsub k hk)), h4, ?_, ?_⟩
      · intro hr
        simp only [if_neg hji]
        exact h5 hr
      · intro hr
        obtain ⟨f, hwf, hf, hl⟩ := h6 hr
        simp only [if_neg hji]
        have hsame : Foot.same σ σ' f := by
          rcases hf with rfl | hf
          · trivial
          · exact hobl hf hjl hwf
        exact ⟨f, Foot.wf_le hwf hnext, hf, hl.mono fun σ2 hs => Foot.same_trans hsame hs⟩
    · intro j b hj hjb
      by_cases hji : j = i
      · simp only [if_pos hji] at hjb; cases hjb
      · simp only [if_neg hji] at hjb
        simp only [List.mem_append, List.mem_singleton] at hj
        obtain ⟨g1, g2, g3, g4⟩ := h.blks j b (hj.resolve_right hji) hjb
        refine ⟨by omega, g2, fun hjL => ?_, fun k hk hkb => ?_⟩
        · rw [hext b g1]
          exact g3 fun hl => hjL (.inl hl)
        · by_cases hki : k = i
          · simp only [if_pos hki] at hkb; cases hkb
          · simp only [if_neg hki] at hkb
            simp only [List.mem_append, List.mem_singleton] at hk
            exact g4 k (hk.resolve_right hki) hkb
  unfold wpOpIn
  simp only [ho, hw]
  cases run with
  | false =>
    simp only [cond_false] at hvc
    simp only [Bool.false_eq_true, if_false]
    exact ⟨fun _ _ => trivial, rest (.tuple []) undef σ w ι h.st.rel (Ext.refl _ _) (Nat.le_refl _) (vrel_undef ι) (fun {k f} _ _ hwf => Foot.same_refl hwf) hvc⟩
  | true =>
    simp only [cond_true, hc] at hvc
    simp only [if_true]
    have hops : Ops ι gl n fr a.eval o.op.operands.toList := fun x hx => by
      rw [ev_agree (ops := ops) hag hx]
      exact ev_sound h.st.frame h.st.globs x
    refine ((opVc_sound h.st.rel h.st.globs hops hvc).wp ?_)
    rintro v' w' ⟨v, σ', ι', g1, g2, g3, g4, g5, g6⟩
    exact rest v v' σ' w' ι' g1 g2 g3 g4 (fun {k f} hkf hk _ => obls_spec g5 hkf fun hkw => hk (hp.wait h.closed ho ha hkw)) g6

/-- The order is open, and every order does what the plan says. -/
theorem draw_any (hp : Plan C ops wt plan) (hQ : ∀ fr σ ι a w, St G ι0 N0 gl n df fr σ ι a w → K fr σ → Q .normal a w) :
    ∀ (fuel : Nat) (listed : Array Bool) (a : Act) (w : World) (pre post : List Nat) (fr : Fr) (σ : AH) (log : List (Nat × Foot)) (cur : Fr) (vals : Nat → AV) (Bs : Nat → Option Nat) (ι : IM),
      listed.size = ops.size → Inv C G ι0 N0 gl n df ops wt plan fr0 K (fun i => listed.getD i false = true) a w pre post fr σ log cur vals Bs ι →
      (∀ S : List Nat, S.Nodup → (∀ i ∈ S, i < ops.size ∧ ¬ listed.getD i false = true) → S.length ≤ fuel) → wpAnyIn (fw rd) 0 C.P .any ops Q fuel listed a w := by
  intro fuel
  have done : ∀ (listed : Array Bool) (a : Act) (w : World) (pre post : List Nat) (fr : Fr) (σ : AH) (log : List (Nat × Foot)) (cur : Fr) (vals : Nat → AV) (Bs : Nat → Option Nat) (ι : IM),
      listed.size = ops.size → Inv C G ι0 N0 gl n df ops wt plan fr0 K (fun i => listed.getD i false = true) a w pre post fr σ log cur vals Bs ι → Region.ready .any ops listed = [] → Q .normal a w := by
    intro listed a w pre post fr σ log cur vals Bs ι hsz h hr
    have hlist : ∀ (m : Nat) (j : Nat), j ∈ plan.take m → listed.getD j false = true := by
      intro m
      induction m with
      | zero => intro j hj; simp at hj
      | succ m ih =>
        intro j hj
        rcases Nat.lt_or_ge m plan.length with hm | hm
        · rw [List.take_succ_eq_append_getElem hm] at hj
          simp only [List.mem_append, List.mem_singleton] at hj
          rcases hj with hj | rfl
          · exact ih j hj
          · have he : plan = plan.take m ++ plan[m] :: plan.drop (m + 1) := by rw [List.getElem_cons_drop, List.take_append_drop]
            obtain ⟨o, ho⟩ := hp.at_ _ _ _ he
            have hlt := (Array.getElem?_eq_some_iff.1 ho.op).1
            cases hl : listed.getD plan[m] false with
            | true => rfl
            | false =>
              exfalso
              have : plan[m] ∈ Region.ready .any ops listed := mem_ready.2 ⟨by
                have hlt' : plan[m] < listed.size := by rw [hsz]; exact hlt
                simp only [Array.getD_eq_getD_getElem?, Array.getElem?_eq_getElem hlt', Option.getD_some] at hl ⊢
                exact hl, o, ho.op, fun e he hb => ih _ (ho.aft e he hb)⟩
              rw [hr] at this
              cases this
        · rw [List.take_of_length_le (by omega)] at hj
          exact ih j (by rw [List.take_of_length_le hm]; exact hj)
    have hall : ∀ j, j ∈ plan → listed.getD j false = true := fun j hj => hlist plan.length j (by rw [List.take_length]; exact hj)
    cases post with
    | cons k post =>
      exact absurd (h.sub k (hall k (by rw [h.eqn]; simp))) (hp.nodup h.eqn)
    | nil =>
      have hpre : plan = pre := by rw [h.eqn]; simp
      have : fr = cur := h.abs.eq (h.real.iff fun j => ⟨fun hj => h.sub j hj, fun hj => hall j (by rw [hpre]; exact hj)⟩)
      subst this
      exact hQ fr σ ι a w h.st h.vc
  induction fuel with
  | zero =>
    intro listed a w pre post fr σ log cur vals Bs ι hsz h hf
    have hr : Region.ready .any ops listed = [] := by
      cases hr : Region.ready .any ops listed with
      | nil => rfl
      | cons i r =>
        have hi : i ∈ Region.ready .any ops listed := by rw [hr]; simp
        obtain ⟨h0, o, ho, _⟩ := mem_ready.1 hi
        have hlt := (Array.getElem?_eq_some_iff.1 ho).1
        have := hf [i] (by simp) fun k hk => by
          simp only [List.mem_singleton] at hk
          subst hk
          refine ⟨hlt, ?_⟩
          have hlt' : k < listed.size := by rw [hsz]; exact hlt
          simp only [Array.getD_eq_getD_getElem?, Array.getElem?_eq_getElem hlt', Option.getD_some] at h0 ⊢
          simp [h0]
        simp at this
    exact ⟨hr, done listed a w pre post fr σ log cur vals Bs ι hsz h hr⟩
  | succ fuel ih =>
    intro listed a w pre post fr σ log cur vals Bs ι hsz h hf
    refine ⟨done listed a w pre post fr σ log cur vals Bs ι hsz h, fun i hi => ?_⟩
    obtain ⟨h0, o, ho, ha⟩ := mem_ready.1 hi
    have hlt := (Array.getElem?_eq_some_iff.1 ho).1
    have hlt' : i < listed.size := by rw [hsz]; exact hlt
    have hiL : ¬ listed.getD i false = true := by
      simp only [Array.getD_eq_getD_getElem?, Array.getElem?_eq_getElem hlt', Option.getD_some] at h0 ⊢
      simp [h0]
    have hset : ∀ j, (listed.setIfInBounds i true).getD j false = true ↔ (listed.getD j false = true ∨ j = i) := by
      intro j
      by_cases hji : j = i
      · subst hji
        simp only [Array.getD_eq_getD_getElem?, Array.getElem?_setIfInBounds_self_of_lt hlt', Option.getD_some, or_true]
      · rw [getD_set_ne false (Ne.symm hji)]
        simp [hji]
    have hfun : (fun j => (listed.setIfInBounds i true).getD j false = true) = fun j => listed.getD j false = true ∨ j = i := funext fun j => propext (hset j)
    have hf' : ∀ S : List Nat, S.Nodup → (∀ k ∈ S, k < ops.size ∧ ¬ (listed.setIfInBounds i true).getD k false = true) → S.length ≤ fuel := by
      intro S hS hk
      have := hf (i :: S) (List.nodup_cons.2 ⟨fun hm => (hk i hm).2 ((hset i).2 (.inr rfl)), hS⟩) fun k hkm => by
        simp only [List.mem_cons] at hkm
        rcases hkm with rfl | hkm
        · exact ⟨hlt, hiL⟩
        · exact ⟨(hk k hkm).1, fun hl => (hk k hkm).2 ((hset k).2 (.inl hl))⟩
      simp at this
      omega
    have hsz' : (listed.setIfInBounds i true).size = ops.size := by simp [hsz]
    by_cases him : i ∈ pre
    · exact h.take hp ho hiL ha him fun a' w' cur' ι' h' => ih _ a' w' _ _ _ _ _ _ _ _ _ hsz' (by rw [hfun]; exact h') hf'
    · obtain ⟨pre', post', fr', σ', log', vals', Bs', h', hx⟩ := Inv.adv hp ho hiL ha _ _ _ _ _ _ _ h him
      rcases hx with him' | ⟨_, hc, q, rfl⟩
      · exact h'.take hp ho hiL ha him' fun a' w' cur' ι' h'' => ih _ a' w' _ _ _ _ _ _ _ _ _ hsz' (by rw [hfun]; exact h'') hf'
      · exact h'.heavy hp ho hiL ha hc fun a' w' fr' σ' cur' vals' Bs' ι' h'' => ih _ a' w' _ _ _ _ _ _ _ _ _ hsz' (by rw [hfun]; exact h'') hf'

theorem drawVc_sound {ι : IM} {id : Nat} {fr : Fr} {σ : AH} (hs : St G ι0 N0 gl n df fr σ ι a w) (h : drawAll C gl n ops wt plan K fr σ) (hQ : ∀ fr σ ι a w, St G ι0 N0 gl n df fr σ ι a w → K fr σ → Q .normal a w) :
    (Code.region id ops true).wpIn (fw rd) 0 C.P Q a w := by
  unfold drawAll at h
  split at h
  case isFalse => cases h
  rename_i hok
  have hp := plan_spec hok
  refine wpIn_region_any C.mixed (draw_any (G := G) (ι0 := ι) (N0 := σ.next) (gl := gl) (n := n) (df := df) (wt := wt) (plan := plan) (fr0 := fr) (K := K) hp (fun fr' σ' ι' a' w' hs' hK => ?_) ops.size _ a _ [] plan fr σ [] fr (fun _ => .any) (fun _ => none) ι (by simp) ?_ ?_)
  · exact hQ _ _ _ _ _ ⟨hs'.frame, hs'.defers, hs'.rel, hs.ext.trans hs'.ext hs.next, Nat.le_trans hs.next hs'.next, hs'.globs⟩ hK
  · have hno : ∀ i, ¬ (Array.replicate ops.size false).getD i false = true := fun i => by
      simp only [Array.getD_eq_getD_getElem?, Array.getElem?_replicate]
      split <;> simp
    refine ⟨by simp, fun t => ⟨(fun j hj => by cases hj), fun _ => rfl⟩, fun t => ⟨fun j hj => absurd hj (hno j), fun _ => rfl⟩, ⟨hs.frame, hs.defers, hs.rel.drawn _, Ext.refl _ _, Nat.le_refl _, hs.globs⟩,
      fun i hi => absurd hi (hno i), fun i o hi => absurd hi (hno i), (fun i hi => by cases hi), h, (fun i b hi => by cases hi)⟩
  · intro S hS hk
    exact pigeon _ S hS fun i hi => (hk i hi).1
end
end Go.Proofs.YthpngchngnaloaaGreatDoor.Vm
