/- The abstract machine, carried out: code and calls. -/
import Derived.Test.YthpngchngnaloaaGreatDoorVmX5
namespace Go.Proofs.YthpngchngnaloaaGreatDoor.Vm
variable {C : Cx}

abbrev OutX := AExit × FT × M
def exitSame : AExit → AExit → Bool
  | .normal, .normal | .ret, .ret => true
  | .exit a, .exit b => Nat.beq a b
  | _, _ => false
theorem exitSame_eq {a b : AExit} (h : exitSame a b = true) : a = b := by
  cases a <;> cases b <;> simp [exitSame] at h <;> simp_all
def outSame (a b : OutX) : Bool := exitSame a.1 b.1 && tSame same a.2.1 b.2.1 && mSame a.2.2 b.2.2
theorem outSame_eq {a b : OutX} (h : outSame a b = true) : a = b := by
  obtain ⟨a1, a2, a3⟩ := a
  obtain ⟨b1, b2, b3⟩ := b
  simp only [outSame, Bool.and_eq_true] at h
  rw [exitSame_eq h.1.1, tSame_eq same_eq h.1.2, mSame_eq h.2]
def dedup : List OutX → List OutX
  | [] => []
  | x :: xs => match dedup xs with
    | [] => [x]
    | l => cond (l.any (outSame x)) l (x :: l)
theorem dedup_mem : ∀ {l : List OutX} {x : OutX}, x ∈ l → x ∈ dedup l
  | [], x, h => by cases h
  | y :: ys, x, h => by
    simp only [dedup]
    split
    · rename_i hd
      rcases List.mem_cons.1 h with rfl | h
      · simp
      · have := dedup_mem h
        rw [hd] at this; cases this
    · rename_i hd
      rw [Bool.cond_eq_ite]
      split
      · rename_i ha
        rcases List.mem_cons.1 h with rfl | h
        · obtain ⟨z, hz, hs⟩ := List.any_eq_true.1 ha
          rw [outSame_eq hs]; exact hz
        · exact dedup_mem h
      · rcases List.mem_cons.1 h with rfl | h
        · simp
        · exact List.mem_cons_of_mem _ (dedup_mem h)

abbrev RunX := Nat → Code → FT → M → Outs OutX
def initGo : List AV → Nat → FT → FT
  | [], _, f => f
  | v :: vs, i, f => initGo vs (i + 1) (f.put (some i) v)
def initX (args : List AV) : FT := initGo args 0 .leaf
theorem initGo_den : ∀ (args : List AV) (i : Nat) (f : FT) (j : Nat), (initGo args i f).den j = if i ≤ j ∧ j < i + args.length then (args[j - i]?).getD (.tuple []) else f.den j
  | [], i, f, j => by
    simp only [initGo, List.length_nil]
    rw [if_neg (by omega)]
  | v :: vs, i, f, j => by
    simp only [initGo]
    rw [initGo_den vs (i + 1) _ j, FT.put_den]
    simp only [setFr, List.length_cons]
    by_cases hj : j = i
    · subst hj
      rw [if_neg (by omega), if_pos rfl, if_pos (by omega)]
      simp
    · by_cases hr : i + 1 ≤ j ∧ j < i + 1 + vs.length
      · rw [if_pos hr, if_pos (by omega)]
        obtain ⟨k, rfl⟩ : ∃ k, j = i + 1 + k := ⟨j - (i + 1), by omega⟩
        rw [show i + 1 + k - (i + 1) = k by omega, show i + 1 + k - i = k + 1 by omega]
        rfl
      · rw [if_neg hr, if_neg hj, if_neg (by omega)]
theorem initX_den (args : List AV) : (initX args).den = initL args := by
  funext j
  unfold initX
  rw [initGo_den]
  simp only [Nat.zero_le, true_and, Nat.zero_add, Nat.sub_zero, initL]
  split
  · rename_i h
    rw [List.getElem?_eq_getElem h]
    rfl
  · rename_i h
    rw [List.getElem?_eq_none (by omega)]
    rfl
def resX (C : Cx) (n : Nat) : List ResultVar → FT → AH → Option (List AV)
  | [], _, _ => some []
  | .tmp t :: r, fr, σ => cond (Nat.blt t n) (match resX C n r fr σ with
    | some vs => some (fr.den t :: vs)
    | none => none) none
  | .cell a t :: r, fr, σ => cond (Nat.blt a n) (match loadX C t (fr.den a) σ with
    | some v => (match resX C n r fr σ with
      | some vs => some (v :: vs)
      | none => none)
    | none => none) none
theorem resX_ok {n : Nat} {fr : FT} {σ : AH} : ∀ {rs : List ResultVar} {vs : List AV} {K : List AV → Prop}, resX C n rs fr σ = some vs → K vs → resVc C n rs fr.den σ K
  | [], vs, K, h, hK => by cases h; exact hK
  | .tmp t :: r, vs, K, h, hK => by
    simp only [resX, Bool.cond_eq_ite] at h
    simp only [resVc]
    split at h
    case isFalse => cases h
    rename_i hlt
    simp only [Nat.blt_eq] at hlt
    rw [if_pos hlt]
    split at h
    case h_2 => cases h
    rename_i us hus
    cases h
    exact resX_ok hus hK
  | .cell a t :: r, vs, K, h, hK => by
    simp only [resX, Bool.cond_eq_ite] at h
    simp only [resVc]
    split at h
    case isFalse => cases h
    rename_i hlt
    simp only [Nat.blt_eq] at hlt
    rw [if_pos hlt]
    split at h
    case h_2 => cases h
    rename_i v hv
    split at h
    case h_2 => cases h
    rename_i us hus
    cases h
    exact loadX_ok hv (resX_ok hus hK)
def setAllX (fr : FT) : List (Nat × AV) → FT
  | [] => fr
  | (t, v) :: l => setAllX (fr.put (some t) v) l
theorem setAllX_den : ∀ (l : List (Nat × AV)) (fr : FT), (setAllX fr l).den = setAll fr.den l
  | [], fr => rfl
  | (t, v) :: l, fr => by simp only [setAllX, setAll]; rw [setAllX_den l, FT.put_den]
/-- A round, carried out. -/
def roundX (rec : RunX) (b : Nat) (args : List AV) (m : M) : Outs (AV × M) :=
  match m.den.get b with
  | some (.loop .ready _ frs ps assign body) =>
    cond (Nat.beq args.length ps.size && flatCode assign && flatCode body)
      (andThen (rec frs.length assign (setAllX (initX frs) (ps.toList.zip args)) m) fun x => match x.1 with
        | .normal => (match x.2.2.den.get b with
          | some (.loop .ready pe frs' ps' a' b') =>
            andThen (rec frs.length body x.2.1 (x.2.2.set b (.loop .busy pe frs' ps' a' b'))) fun y => match y.2.2.den.get b with
              | some (.loop _ _ frs' ps' a' b') => (match y.1 with
                | .normal => some [(.bool true, y.2.2.set b (.loop .ready none frs' ps' a' b'))]
                | .ret => some [(.bool false, y.2.2.set b (.loop .done (some .ret) frs' ps' a' b'))]
                | .exit id => some [(.bool false, y.2.2.set b (.loop .done (some (.exit id)) frs' ps' a' b'))])
              | _ => none
          | _ => none)
        | _ => none) none
  | _ => none
/-- A call, carried out. -/
def callX (C : Cx) (ext : FuncId → Option (List AV → M → Outs (AV × M))) (rec : RunX) : CallX := fun y g args m =>
  cond y (roundX rec g args m)
  (match ext g with
  | some e => e args m
  | none =>
    match C.P.funcs[g]? with
    | none => none
    | some fn =>
      match fn.body with
      | none => none
      | some c => cond (Nat.ble args.length fn.ntmps)
          (andThen (rec fn.ntmps c (initX args) m) fun x => match x.1 with
            | .normal | .ret => (match resX C fn.ntmps fn.results.toList x.2.1 x.2.2.den with
              | some vs => some [(resVal vs, x.2.2)]
              | none => none)
            | _ => none) none)

def stepX (C : Cx) (gl : List Nat) (ext : FuncId → Option (List AV → M → Outs (AV × M))) (rec : RunX) : RunX := fun n code fr m =>
  match code with
  | .skip | .label _ => some [(.normal, fr, m)]
  | .region _ ops draw =>
    andThen (cond draw
      (cond (planOK C ops (waitsFor ops.toList) (eager C ops ops.size []))
        (drawX C (callX C ext rec) gl n ops (waitsFor ops.toList) (eager C ops ops.size []) [] fr m) none)
      (opsX C (callX C ext rec) gl n ops (List.range ops.size) fr m)) fun x => some [(.normal, x.1, x.2)]
  | .seq a b => andThen (rec n a fr m) fun x => match x.1 with
    | .normal => rec n b x.2.1 x.2.2
    | _ => some [x]
  | .cond c x y => (match ev gl n fr.den c with
    | .bool b => cond b (rec n x fr m) (rec n y fr m)
    | _ => none)
  | .block id c => andThen (rec n c fr m) fun x => match x.1 with
    | .exit id' => cond (Nat.beq id' id) (some [(.normal, x.2.1, x.2.2)]) (some [x])
    | _ => some [x]
  | .loop c => (match andThen (rec n c fr m) fun x => match x.1 with
      | .normal => rec n (.loop c) x.2.1 x.2.2
      | _ => some [x] with
    | none => none
    | some [x] => some [x]
    | some l => some (dedup l))
  | .exit id => some [(.exit id, fr, m)]
  | .ret => some [(.ret, fr, m)]
  | .rangeFunc g ps assign body => (match ev gl n fr.den g with
    | .func gid first cap => cond (hasBody C.P gid)
        (andThen (callX C ext rec false gid (first ++ [.yield m.next] ++ cap) (m.alloc (.loop .ready none ((List.range n).map fr.den) ps assign body))) fun p => match p.2.den.get m.next with
          | some (.loop .busy _ _ _ _ _) => none
          | some (.loop _ pe _ _ _ _) => (match pe with
            | none => some [(.normal, fr, p.2.kill m.next)]
            | some .ret => some [(.ret, fr, p.2.kill m.next)]
            | some (.exit id) => some [(.exit id, fr, p.2.kill m.next)]
            | _ => none)
          | _ => none) none
    | _ => none)
  | _ => none
noncomputable def runX (C : Cx) (gl : List Nat) (ext : FuncId → Option (List AV → M → Outs (AV × M))) (k : Nat) : RunX :=
  Nat.rec (fun _ _ _ _ => none) (fun _ ih => stepX C gl ext ih) k

/-- What is carried out is what is asked. -/
def RunOk (C : Cx) (gl : List Nat) (rec : RunX) : Prop := ∀ n c fr m l, rec n c fr m = some l → ∀ QA : AExit → Fr → AH → Prop, (∀ x, x ∈ l → QA x.1 x.2.1.den x.2.2.den) → codeVc C gl true n c QA fr.den m.den

theorem callX_ok {gl : List Nat} {ext : FuncId → Option (List AV → M → Outs (AV × M))} (hng : ∀ (g : Nat) (fn : Func), C.P.funcs[g]? = some fn → (fn.name == "runtime.NumGoroutine") = false)
    (hext : ∀ g e, ext g = some e → ∀ args m l, e args m = some l → ∀ K : AV → AH → Prop, (∀ v m', (v, m') ∈ l → K v m'.den) → ACall C.P gl g args m.den K) {rec : RunX} (hrec : RunOk C gl rec) : CallOk C.P gl (callX C ext rec) := by
  intro y g args m l h K hK
  unfold callX at h
  cases y with
  | true =>
    simp only [cond_true] at h ⊢
    refine AYield.of_round (wide := true) ?_
    unfold roundX at h
    unfold roundVc
    split at h
    case h_2 => cases h
    rename_i pe frs ps as bo hk
    simp only [hk]
    rw [Bool.cond_eq_ite] at h
    split at h
    case isFalse => cases h
    rename_i hc
    simp only [Bool.and_eq_true, Nat.beq_eq] at hc
    rw [if_pos ⟨hc.1.1, hc.1.2, hc.2⟩, ← initX_den, ← setAllX_den]
    obtain ⟨l1, h1, h2⟩ := andThen_ok h
    refine hrec _ _ _ _ _ h1 _ fun x hx => ?_
    obtain ⟨r, hr, hy⟩ := h2 x hx
    cases hx1 : x.1 with
    | exit id => rw [hx1] at hr; cases hr
    | ret => rw [hx1] at hr; cases hr
    | normal =>
      rw [hx1] at hr
      simp only at hr ⊢
      split at hr
      case h_2 => cases hr
      rename_i pe' frs' ps' a' b' hk1
      simp only [hk1]
      obtain ⟨l2, h3, h4⟩ := andThen_ok hr
      rw [← M.set_den]
      refine hrec _ _ _ _ _ h3 _ fun z hz => ?_
      obtain ⟨r2, hr2, hy2⟩ := h4 z hz
      split at hr2
      case h_2 => cases hr2
      rename_i st2 pe2 frs2 ps2 a2 b2 hk2
      simp only [hk2]
      cases hz1 : z.1 with
      | normal =>
        rw [hz1] at hr2
        cases hr2
        have := hK _ _ (hy _ (hy2 _ (List.mem_singleton.2 rfl)))
        rwa [M.set_den] at this
      | ret =>
        rw [hz1] at hr2
        cases hr2
        have := hK _ _ (hy _ (hy2 _ (List.mem_singleton.2 rfl)))
        rwa [M.set_den] at this
      | exit id =>
        rw [hz1] at hr2
        cases hr2
        have := hK _ _ (hy _ (hy2 _ (List.mem_singleton.2 rfl)))
        rwa [M.set_den] at this
  | false =>
  simp only [cond_false] at h ⊢
  split at h
  · rename_i e he
    exact hext g e he args m l h K hK
  · split at h
    case h_1 => cases h
    rename_i fn hfn
    split at h
    case h_1 => cases h
    rename_i c hc
    rw [Bool.cond_eq_ite] at h
    split at h
    case isFalse => cases h
    rename_i hlen
    simp only [Nat.ble_eq] at hlen
    obtain ⟨l', h1, h2⟩ := andThen_ok h
    refine ACall.of_body (wide := true) hfn hc (hng g fn hfn) ?_
    unfold bodyVc
    rw [if_pos hlen, ← initX_den]
    refine hrec _ _ _ _ _ h1 _ fun x hx => ?_
    obtain ⟨b, hb, hy⟩ := h2 x hx
    have fin : (match resX C fn.ntmps fn.results.toList x.2.1 x.2.2.den with
              | some vs => some [(resVal vs, x.2.2)]
              | none => none) = some b → resVc C fn.ntmps fn.results.toList x.2.1.den x.2.2.den fun vs => K (resVal vs) x.2.2.den := by
      intro hb
      split at hb
      case h_2 => cases hb
      rename_i vs hvs
      cases hb
      exact resX_ok hvs (hK _ _ (hy _ (List.mem_singleton.2 rfl)))
    cases hx1 : x.1 with
    | normal => rw [hx1] at hb; exact fin hb
    | ret => rw [hx1] at hb; exact fin hb
    | exit id => rw [hx1] at hb; cases hb

theorem runX_ok (hres : ∀ t, C.res t = none) {gl : List Nat} {ext : FuncId → Option (List AV → M → Outs (AV × M))} (hng : ∀ (g : Nat) (fn : Func), C.P.funcs[g]? = some fn → (fn.name == "runtime.NumGoroutine") = false)
    (hext : ∀ g e, ext g = some e → ∀ args m l, e args m = some l → ∀ K : AV → AH → Prop, (∀ v m', (v, m') ∈ l → K v m'.den) → ACall C.P gl g args m.den K) : ∀ k, RunOk C gl (runX C gl ext k) := by
  intro k
  induction k using Nat.strongRecOn with
  | _ k0 ihS =>
    intro n c fr m l h QA hQ
    cases k0 with
    | zero => cases h
    | succ k => ?_
    have ih := ihS k (Nat.lt_succ_self k)
    have hcall := callX_ok hng hext ih
    change stepX C gl ext (runX C gl ext k) n c fr m = some l at h
    unfold stepX at h
    split at h
    · cases h; exact hQ _ (List.mem_singleton.2 rfl)
    · cases h; exact hQ _ (List.mem_singleton.2 rfl)
    · rename_i id ops draw
      obtain ⟨l', h1, h2⟩ := andThen_ok h
      simp only [codeVc]
      have hQ' : ∀ x, x ∈ l' → QA .normal x.1.den x.2.den := fun x hx => by
        obtain ⟨b, hb, hy⟩ := h2 x hx
        cases hb
        exact hQ _ (hy _ (List.mem_singleton.2 rfl))
      cases draw with
      | true =>
        simp only [cond_true] at h1
        simp only [if_true]
        rw [Bool.cond_eq_ite] at h1
        split at h1
        case isFalse => cases h1
        rename_i hp
        unfold drawAll
        rw [if_pos hp]
        exact drawX_ok hres hcall h1 hQ'
      | false =>
        simp only [cond_false] at h1
        simp only [Bool.false_eq_true, if_false]
        exact opsX_ok hres hcall h1 hQ'
    · rename_i a b
      obtain ⟨l', h1, h2⟩ := andThen_ok h
      simp only [codeVc]
      refine ih _ _ _ _ _ h1 _ fun x hx => ?_
      obtain ⟨r, hr, hy⟩ := h2 x hx
      cases hx1 : x.1 with
      | normal =>
        rw [hx1] at hr
        simp only [AExit.then]
        exact ih _ _ _ _ _ hr _ fun y hy' => hQ y (hy y hy')
      | exit id =>
        rw [hx1] at hr
        cases hr
        simp only [AExit.then]
        have := hQ x (hy x (List.mem_singleton.2 rfl))
        rwa [hx1] at this
      | ret =>
        rw [hx1] at hr
        cases hr
        simp only [AExit.then]
        have := hQ x (hy x (List.mem_singleton.2 rfl))
        rwa [hx1] at this
    · rename_i c x y
      simp only [codeVc]
      split at h
      case h_2 => cases h
      rename_i b hb
      simp only [hb]
      cases b with
      | true => exact ih _ _ _ _ _ h _ hQ
      | false => exact ih _ _ _ _ _ h _ hQ
    · rename_i id c
      obtain ⟨l', h1, h2⟩ := andThen_ok h
      simp only [codeVc]
      refine ih _ _ _ _ _ h1 _ fun x hx => ?_
      obtain ⟨r, hr, hy⟩ := h2 x hx
      cases hx1 : x.1 with
      | normal =>
        rw [hx1] at hr
        cases hr
        simp only [AExit.inBlock]
        have := hQ x (hy x (List.mem_singleton.2 rfl))
        rwa [hx1] at this
      | ret =>
        rw [hx1] at hr
        cases hr
        simp only [AExit.inBlock]
        have := hQ x (hy x (List.mem_singleton.2 rfl))
        rwa [hx1] at this
      | exit id' =>
        rw [hx1] at hr
        simp only [AExit.inBlock]
        simp only [cb] at hr
        split at hr
        · rename_i he
          cases hr
          rw [if_pos he]
          exact hQ _ (hy _ (List.mem_singleton.2 rfl))
        · rename_i he
          cases hr
          rw [if_neg he]
          have := hQ x (hy x (List.mem_singleton.2 rfl))
          rwa [hx1] at this
    · rename_i c
      simp only [codeVc]
      -- the rounds that are left
      have hl : ∀ (k : Nat) (fr : FT) (m : M) (l : List OutX), runX C gl ext (k + 1) n (.loop c) fr m = some l → ∃ l', andThen (runX C gl ext k n c fr m) (fun x => match x.1 with
          | .normal => runX C gl ext k n (.loop c) x.2.1 x.2.2
          | _ => some [x]) = some l' ∧ ∀ x, x ∈ l' → x ∈ l := by
        intro k fr m l h
        change stepX C gl ext (runX C gl ext k) n (.loop c) fr m = some l at h
        unfold stepX at h
        simp only at h
        split at h
        · cases h
        · rename_i x hx
          cases h
          exact ⟨_, hx, fun _ h => h⟩
        · rename_i l' hl' 
          cases h
          exact ⟨_, hl', fun x hx => dedup_mem hx⟩
      refine ⟨fun j fr' σ' => ∃ f m l', fr' = f.den ∧ σ' = m.den ∧ j ≤ k + 1 ∧ runX C gl ext j n (.loop c) f m = some l' ∧ ∀ x, x ∈ l' → QA x.1 x.2.1.den x.2.2.den, k + 1, ⟨fr, m, l, rfl, rfl, Nat.le_refl _, ?_, hQ⟩, ?_⟩
      · change stepX C gl ext (runX C gl ext k) n (.loop c) fr m = some l
        unfold stepX
        exact h
      · rintro j fr' σ' ⟨f, m', l', rfl, rfl, hj, hrun, hQ'⟩
        cases j with
        | zero => cases hrun
        | succ j =>
          obtain ⟨l2, h1, h2⟩ := hl j f m' l' hrun
          obtain ⟨l3, h3, h4⟩ := andThen_ok h1
          refine ihS j (by omega) _ _ _ _ _ h3 _ fun x hx => ?_
          obtain ⟨r, hr, hy⟩ := h4 x hx
          cases hx1 : x.1 with
          | normal =>
            rw [hx1] at hr
            simp only [AExit.then]
            exact ⟨j, Nat.lt_succ_self j, x.2.1, x.2.2, r, rfl, rfl, by omega, hr, fun y hy' => hQ' y (h2 y (hy y hy'))⟩
          | exit id =>
            rw [hx1] at hr
            cases hr
            simp only [AExit.then]
            have := hQ' x (h2 x (hy x (List.mem_singleton.2 rfl)))
            rwa [hx1] at this
          | ret =>
            rw [hx1] at hr
            cases hr
            simp only [AExit.then]
            have := hQ' x (h2 x (hy x (List.mem_singleton.2 rfl)))
            rwa [hx1] at this
    · cases h; exact hQ _ (List.mem_singleton.2 rfl)
    · cases h; exact hQ _ (List.mem_singleton.2 rfl)
    · rename_i g ps as bo
      simp only [codeVc]
      unfold rangeFuncVc
      split at h
      case h_2 => cases h
      rename_i gid first cap hev
      simp only [hev]
      rw [Bool.cond_eq_ite] at h
      split at h
      case isFalse => cases h
      rename_i hb
      refine ⟨hb, ?_⟩
      obtain ⟨l', h1, h2⟩ := andThen_ok h
      have := hcall false gid _ _ _ h1 (fun _ σ' => afterLoop QA fr.den m.next σ') fun v m' hm => ?_
      · simp only [cond_false, M.alloc_den] at this
        exact this
      · obtain ⟨r, hr, hy⟩ := h2 _ hm
        unfold afterLoop
        simp only at hr
        split at hr
        · cases hr
        · rename_i st pe f p a b hnb hk
          have key : (match (generalizing := false) pe with
              | none => QA .normal fr.den (m'.den.kill m.next)
              | some .ret => QA .ret fr.den (m'.den.kill m.next)
              | some (.exit id) => QA (.exit id) fr.den (m'.den.kill m.next)
              | _ => False) := by
            split at hr
            · cases hr
              have := hQ _ (hy _ (List.mem_singleton.2 rfl))
              rw [M.kill_den] at this
              exact this
            · cases hr
              have := hQ _ (hy _ (List.mem_singleton.2 rfl))
              rw [M.kill_den] at this
              exact this
            · cases hr
              have := hQ _ (hy _ (List.mem_singleton.2 rfl))
              rw [M.kill_den] at this
              exact this
            · cases hr
          rw [hk]
          cases st with
          | busy => exact (hnb rfl).elim
          | ready => exact key
          | done => exact key
          | exhausted => exact key
        · cases hr
    · cases h
end Go.Proofs.YthpngchngnaloaaGreatDoor.Vm
