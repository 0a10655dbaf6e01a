/- A round of a loop over a function. -/
import Derived.Test.YthpngchngnaloaaGreatDoorVmS19
namespace Go.Proofs.YthpngchngnaloaaGreatDoor.Vm
open RowKit (Below)
section
variable {C : Cx} {gl : List Nat} {wide : Bool}

theorem setAll_rel {ι : IM} {n : Nat} : ∀ (ps : List Nat) (as : List AV) (us : List Value) (fr : Fr) (tmps : Array Value), FrRel ι n fr tmps → VRelL ι as us → as.length = ps.length →
    FrRel ι n (setAll fr (ps.zip as)) ((ps.zip us).foldl (fun t (p : Nat × Value) => t.setIfInBounds p.1 p.2) tmps)
  | [], as, us, fr, tmps, hf, _, _ => by simpa [setAll] using hf
  | p :: ps, [], us, fr, tmps, hf, _, hl => by simp at hl
  | p :: ps, a :: as, us, fr, tmps, hf, ha, hl => by
    simp only [VRelL] at ha
    obtain ⟨u, us', rfl, h1, h2⟩ := ha
    simp only [List.zip_cons_cons, setAll, List.foldl_cons]
    have := FrRel.put (a := ⟨tmps, []⟩) hf (some p) h1
    exact setAll_rel ps as us' _ _ this h2 (by simpa using hl)
theorem initL_rel {ι : IM} {frs : List AV} {tmps : Array Value} (h : VRelL ι frs tmps.toList) : FrRel ι frs.length (initL frs) tmps := by
  refine ⟨by rw [← Array.length_toList, h.length], fun t ht => ?_⟩
  obtain ⟨u, hu, hr⟩ := h.get (List.getElem?_eq_getElem ht)
  refine ⟨u, by rw [← Array.getElem?_toList]; exact hu, ?_⟩
  simp only [initL, List.getElem?_eq_getElem ht]
  exact hr

theorem AYield.of_round {b : Nat} {args : List AV} {σ : AH} {K : AV → AH → Prop} (h : roundVc C gl wide b args σ K) : AYield C.P gl b args σ K := by
  unfold roundVc at h
  split at h
  case h_2 => cases h
  rename_i pe0 frs ps assign body hk
  split at h
  case isFalse => cases h
  rename_i hc
  obtain ⟨hlen, hfa, hfb⟩ := hc
  intro G ι w args' p hr hgl hargs hp
  obtain ⟨r, g1, g2, g3, g4, g5, g6, g7⟩ := hr.live b p _ hp hk
  have hg := run_getObj (P := C.P) g1 (by simp)
  have hsz : args'.length = r.params.size := by rw [hargs.length, hlen, g5]
  unfold YieldR
  have hy : (Instr.yield p.blk args'.toArray).run C.P w = .ok (.round p.blk r.fn ((r.params.toList.zip args').foldl (fun t (q : Nat × Value) => t.setIfInBounds q.1 q.2) r.tmps) r.assign r.body) w := by
    unfold Instr.yield Instr.getLoop
    simp only [Sem.run_bind, hg, Result.andThen_ok, Sem.run_pure]
    rw [if_neg (by simp [hsz])]
    simp only [Sem.run_bind, Sem.run_pure, Result.andThen_ok]
    rw [← Array.foldl_toList, Array.toList_zip]
  rw [hy]
  simp only
  rw [g6, g7, g5]
  have hfr := setAll_rel ps.toList args args' _ _ (initL_rel g4) hargs (by simpa using hlen)
  refine roundIn_of_wpIn (F := Fence.wide) trivial (wpIn_mono (codeVc_sound (Gb := G) (ι0 := ι) (N0 := σ.next) (gl := gl) (wide := wide) (n := frs.length) (rd := some p.blk) assign _ G [] _ σ ι _ w (.inr hfa) (Marks.none G)
    ⟨hfr, rfl, hr, Ext.refl _ _, Nat.le_refl _, hgl⟩ h) fun e a1 w1 he => ?_)
  cases e with
  | exit id => obtain ⟨_, _, _, _, _, _, _, h⟩ := he; exact h
  | ret => obtain ⟨_, _, _, _, _, _, _, h⟩ := he; exact h
  | goto l => exact False.elim he
  | panic c => exact False.elim he
  | outgrown => exact False.elim he
  | normal =>
    obtain ⟨G1, df1, fr1, σ1, ι1, hm1, hs1, h1⟩ := he
    simp only at h1
    split at h1
    case h_2 => cases h1
    rename_i pe frs' ps' as' bo' hk1
    have hp1 : ι1 b = some p := by rw [hs1.ext b (hr.ι_lt hp)]; exact hp
    obtain ⟨r1, k1, k2, k3, k4⟩ := hs1.rel.live b p _ hp1 hk1
    have hg1 := run_getObj (P := C.P) k1 (by simp)
    have hsw := hs1.rel.swap hp1 hk1 rfl (k' := .loop .busy pe frs' ps' as' bo') (.loop { r1 with state := .busy }) ⟨{ r1 with state := .busy }, putBlk_self w1 p.blk _ (hs1.rel.bound _ _ hp1), rfl, k3, k4⟩
    refine ⟨putBlk w1 p.blk (.loop { r1 with state := .busy }), ?_, ?_⟩
    · unfold Instr.beginRound Instr.getLoop
      simp only [Sem.run_bind, hg1, Result.andThen_ok, Sem.run_pure]
      rw [run_setObj k1 (by simp)]
      simp only [Result.andThen_ok, k2, Sem.run_pure]
    · refine wpIn_mono (codeVc_sound (Gb := G) (ι0 := ι) (N0 := σ.next) (gl := gl) (wide := wide) (n := frs.length) (rd := some p.blk) body _ G1 df1 fr1 _ ι1 a1 _ (.inr hfb) hm1
        ⟨hs1.frame, hs1.defers, hsw, hs1.ext, hs1.next, hs1.globs⟩ h1) fun e a2 w2 he => ?_
      have fin : ∀ (e : AExit) (jump : Option Code) (st : LoopState) (v : Bool), (if jump.isNone then LoopState.ready else .done) = st → jump.isNone = v →
          Stands G ι σ.next gl frs.length (fun fr2 σ2 => ∃ st' pe' f' p' a' b', σ2.get b = some (.loop st' pe' f' p' a' b') ∧ K (.bool v) (σ2.set b (.loop st jump f' p' a' b'))) a2 w2 →
          ∃ v' w', (Instr.endRound p.blk jump).run C.P w2 = .ok v' w' ∧ ∃ v1 σ' ι', Rel G ι' σ' w' ∧ Ext σ.next ι ι' ∧ σ.next ≤ σ'.next ∧ VRel ι' v1 v' ∧ K v1 σ' := by
        rintro e jump st v hst hv ⟨G2, df2, fr2, σ2, ι2, hm2, hs2, st', pe', f', p', a', b', hk2, hK⟩
        have hp2 : ι2 b = some p := by rw [hs2.ext b (hr.ι_lt hp)]; exact hp
        obtain ⟨r2, m1, m2, m3, m4⟩ := hs2.rel.live b p _ hp2 hk2
        have hg2 := run_getObj (P := C.P) m1 (by simp)
        have hsw2 := hs2.rel.swap hp2 hk2 rfl (k' := .loop st jump f' p' a' b') (.loop { r2 with state := if jump.isNone then .ready else .done, pending := jump })
          ⟨{ r2 with state := if jump.isNone then .ready else .done, pending := jump }, putBlk_self w2 p.blk _ (hs2.rel.bound _ _ hp2), hst, rfl, m4⟩
        refine ⟨.bool jump.isNone, _, ?_, .bool v, _, ι2, hsw2.fewer hm2, hs2.ext, by simp only [AH.set_next]; exact hs2.next, by simp only [VRel, hv], hK⟩
        unfold Instr.endRound Instr.getLoop
        simp only [Sem.run_bind, hg2, Result.andThen_ok, Sem.run_pure]
        rw [run_setObj m1 (by simp)]
        rfl
      have look : ∀ {e : AExit} {fr2 : Fr} {σ2 : AH} {jump : Option Code} {st : LoopState} {v : Bool}, (match σ2.get b with
              | some (.loop _ _ frs' ps' a' b') => K (.bool v) (σ2.set b (.loop st jump frs' ps' a' b'))
              | _ => False) → ∃ st' pe' f' p' a' b', σ2.get b = some (.loop st' pe' f' p' a' b') ∧ K (.bool v) (σ2.set b (.loop st jump f' p' a' b')) := by
        intro e fr2 σ2 jump st v h
        split at h
        · rename_i st' pe' f' p' a' b' hk; exact ⟨st', pe', f', p', a', b', hk, h⟩
        · cases h
      cases e with
      | normal =>
        obtain ⟨G2, df2, fr2, σ2, ι2, hm2, hs2, h2⟩ := he
        exact fin .normal none .ready true rfl rfl ⟨G2, df2, fr2, σ2, ι2, hm2, hs2, look (e := .normal) (fr2 := fr2) h2⟩
      | ret =>
        obtain ⟨G2, df2, fr2, σ2, ι2, hm2, hs2, h2⟩ := he
        exact fin .ret (some .ret) .done false rfl rfl ⟨G2, df2, fr2, σ2, ι2, hm2, hs2, look (e := .ret) (fr2 := fr2) h2⟩
      | exit id =>
        obtain ⟨G2, df2, fr2, σ2, ι2, hm2, hs2, h2⟩ := he
        exact fin (.exit id) (some (.exit id)) .done false rfl rfl ⟨G2, df2, fr2, σ2, ι2, hm2, hs2, look (e := .exit id) (fr2 := fr2) h2⟩
      | goto l => exact False.elim he
      | panic c => exact False.elim he
      | outgrown => exact False.elim he
end
end Go.Proofs.YthpngchngnaloaaGreatDoor.Vm
