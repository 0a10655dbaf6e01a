/- Code does what the abstract machine asks. -/
import Derived.Test.YthpngchngnaloaaGreatDoorVmH
import Derived.RangeFuncOwn
import Derived.Sort.LoopGhostIn
namespace Go.Proofs.YthpngchngnaloaaGreatDoor.Vm
open RowKit (Below)
/-- The mark of a loop over a function among an activation's deferred calls. -/
def markOf (D : Nat) : Deferred := { target := .collected D, args := #[] }
structure Marks (G : Base) (Gb : Base) (df : List Deferred) : Prop where
  w0 : G.w0 = Gb.w0
  N : G.N = Gb.N
  ds : ∃ ds, G.defs = ds ++ Gb.defs ∧ df = ds.map markOf ∧ ds.Nodup ∧ ∀ D, D ∈ ds → D ∉ Gb.defs ∧ G.N ≤ D
theorem Marks.none (G : Base) : Marks G G [] := ⟨rfl, rfl, [], rfl, rfl, .nil, fun D h => by cases h⟩
theorem Rel.fewer {G Gb : Base} {df : List Deferred} {ι : IM} {σ : AH} {w : World} (h : Rel G ι σ w) (hm : Marks G Gb df) : Rel Gb ι σ w := by
  obtain ⟨h1, h2, ds, h3, _⟩ := hm
  refine ⟨h.fresh, h.live, h.bound, h.apart, fun b p k hp hk hrw => by rw [← h2]; exact h.new b p k hp hk hrw, by rw [← h1, ← h2]; exact h.below, by rw [← h2]; exact h.size, fun D hD => h.kept D (by rw [h3]; simp [hD])⟩

section
variable {C : Cx} {G Gb : Base} {ι0 : IM} {N0 : Nat} {gl : List Nat} {wide : Bool} {n : Nat} {rd : Option Nat}

/-- What is so where code is left. -/
def Stands (Gb : Base) (ι0 : IM) (N0 : Nat) (gl : List Nat) (n : Nat) (X : Fr → AH → Prop) (a : Act) (w : World) : Prop := ∃ G df fr σ ι, Marks G Gb df ∧ St G ι0 N0 gl n df fr σ ι a w ∧ X fr σ
def PostX (Gb : Base) (ι0 : IM) (N0 : Nat) (gl : List Nat) (n : Nat) (QA : AExit → Fr → AH → Prop) : Exit → Act → World → Prop
  | .normal, a, w => Stands Gb ι0 N0 gl n (QA .normal) a w
  | .exit id, a, w => Stands Gb ι0 N0 gl n (QA (.exit id)) a w
  | .ret, a, w => Stands Gb ι0 N0 gl n (QA .ret) a w
  | _, _, _ => False

theorem frs_get {fr : Fr} {tmps : Array Value} {ι : IM} (h : FrRel ι n fr tmps) : VRelL ι ((List.range n).map fr) tmps.toList := by
  refine .of_get (by simp [h.1]) fun i a v ha hv => ?_
  rw [List.getElem?_map] at ha
  rcases Nat.lt_or_ge i n with hi | hi
  · rw [List.getElem?_range hi] at ha
    cases ha
    obtain ⟨u, hu, hr⟩ := h.2 i hi
    rw [Array.getElem?_toList, hu] at hv
    cases hv
    exact hr
  · rw [List.getElem?_eq_none (by simpa using hi)] at ha
    cases ha
theorem AH.kill_of_set (σ : AH) (b : Nat) (k : Blk) : (σ.set b k).kill b = σ.kill b := by
  simp only [AH.kill, AH.set]
  congr 1
  funext i
  split
  · rfl
  · rfl
theorem callFunc_body {P : Program} {g : FuncId} (h : hasBody P g = true) (args : Array Value) (w : World) : (callFunc g args).run P w = .ok (.enter g args) w := by
  unfold hasBody at h
  split at h
  case h_2 => cases h
  rename_i fn hfn
  simp only [Bool.and_eq_true, Bool.not_eq_true'] at h
  unfold callFunc
  have hb : fn.body.isNone = false := by
    cases hx : fn.body with
    | none => rw [hx] at h; simp at h
    | some c => rfl
  simp only [Sem.run_bind, run_program, Result.andThen_ok, hfn, h.2, hb, Bool.false_eq_true, if_false, Sem.run_pure]

theorem rangeFunc_sound {g : Operand} {ps : Array Nat} {assign body : Code} {QA : AExit → Fr → AH → Prop} {G : Base} {df : List Deferred} {fr : Fr} {σ : AH} {ι : IM} {a : Act} {w : World}
    (hm : Marks G Gb df) (hs : St G ι0 N0 gl n df fr σ ι a w) (h : rangeFuncVc C gl n g ps assign body QA fr σ) : (Code.rangeFunc g ps assign body).wpIn (fw none) 0 C.P (PostX Gb ι0 N0 gl n QA) a w := by
  unfold rangeFuncVc at h
  split at h
  case h_2 => cases h
  rename_i gid first cap hev
  obtain ⟨hbody, hcall⟩ := h
  have hg := ev_sound hs.frame hs.globs g
  rw [hev] at hg
  simp only [VRel] at hg
  obtain ⟨fs', cs', hρ, hf1, hf2⟩ := hg
  refine wpIn_rangeFunc fun fn _ => ?_
  -- the blocks
  have hr0 := hs.rel.defer
  have hlen : (w.alloc (.deferred (some []))).heap.size = w.heap.size + 1 := by simp
  let lp : Loop := { state := .ready, pending := none, fn, tmps := a.tmps, params := ps, assign, body, defers := w.heap.size }
  let p : Place := ⟨(w.alloc (.deferred (some []))).heap.size, 0, 0, 0⟩
  have hle1 := IM.le_put ι p ((hr0.fresh _ (Nat.le_refl _)).1)
  have hr1 := hr0.fresh_block (.loop .ready none ((List.range n).map fr) ps assign body) (.loop lp) p rfl
    ⟨lp, alloc_new _ _, rfl, rfl, VRelL.mono hle1 _ _ (frs_get hs.frame), rfl, rfl, rfl⟩
  have hargs : VRelL (ι.put σ.next p) (first ++ [.yield σ.next] ++ cap) (fs' ++ [.func (.yield p.blk) #[] #[]] ++ cs') :=
    ((VRelL.mono hle1 _ _ hf1).append (.cons (by simp only [VRel]; exact ⟨p, IM.put_self _ _ _, rfl⟩) .nil)).append (VRelL.mono hle1 _ _ hf2)
  have hc := hcall _ _ _ _ hr1 (hs.globs.le hle1) hargs
  unfold CallR at hc
  rw [callFunc_body hbody] at hc
  simp only at hc
  refine ⟨w.heap.size + 1, [markOf w.heap.size], _, { target := .fn (.func gid) cs'.toArray, args := (fs' ++ [Value.func (Fn.yield p.blk) #[] #[]]).toArray }, (w.alloc (.deferred (some []))).alloc (.loop lp), gid,
    (fs' ++ [Value.func (Fn.yield p.blk) #[] #[]] ++ cs').toArray, (w.alloc (.deferred (some []))).alloc (.loop lp), run_enterLoop_outer _ _ _ _ _, ?_, fun _ _ => trivial, ?_, fun _ => by simp [fw, Fence.wide] at *, ?_⟩
  · simp only [resolve, rangeCall, hρ, Deferred.ofValue, Sem.run_pure]
    congr 2
    apply Array.ext'
    simp [Act.eval, p]
  · simp only [invoke]
    rw [show (fs' ++ [Value.func (Fn.yield p.blk) #[] #[]]).toArray ++ cs'.toArray = (fs' ++ [Value.func (Fn.yield p.blk) #[] #[]] ++ cs').toArray from by simp]
    exact callFunc_body hbody _ _
  · refine CallsIn.mono (F := fw none) (n := 0 - 1) (callsIn_wide (n := 0 - 1).2 hc) fun e w3 he => ?_
    cases e with
    | panicked c => exact False.elim he
    | outgrown => exact False.elim he
    | returned v =>
      obtain ⟨v1, σ', ι', h1, h2, h3, h4, h5⟩ := he
      simp only [AH.alloc_next] at h2 h3
      have hp' : ι' σ.next = some p := by rw [h2 σ.next (Nat.lt_succ_self _)]; exact IM.put_self _ _ _
      have hle2 : ι.le ι' := IM.le_trans hle1 (hr1.le h2)
      unfold afterLoop at h5
      have fin : ∀ st pe frs ps' as' bo', σ'.get σ.next = some (.loop st pe frs ps' as' bo') → st ≠ .busy → (match pe with
          | none => QA .normal fr (σ'.kill σ.next)
          | some .ret => QA .ret fr (σ'.kill σ.next)
          | some (.exit id) => QA (.exit id) fr (σ'.kill σ.next)
          | _ => False) → rangePost (fw none) 0 C.P (w.heap.size + 1) (PostX Gb ι0 N0 gl n QA) { a with defers := [markOf w.heap.size] ++ a.defers } (.returned v) w3 := by
        intro st pe frs ps' as' bo' hk hst hq
        obtain ⟨r, g1, g2, g3, g4, g5⟩ := h1.live σ.next p _ hp' hk
        have hgl := run_getObj (P := C.P) g1 (by simp)
        have hpb : p.blk = w.heap.size + 1 := hlen
        have hsw := (h1.swap hp' hk rfl (k' := .loop .exhausted pe frs ps' as' bo') (.loop { r with state := .exhausted }) ⟨{ r with state := .exhausted }, putBlk_self w3 p.blk _ (h1.bound _ _ hp'), rfl, g3, g4, g5⟩).kill σ.next
        rw [AH.kill_of_set] at hsw
        have hne : (r.state == .busy) = false := by rw [g2]; cases st <;> first | rfl | exact absurd rfl hst
        have hend : (Instr.endLoop (w.heap.size + 1)).run C.P w3 = .ok pe (putBlk w3 p.blk (.loop { r with state := .exhausted })) := by
          rw [← hpb]
          unfold Instr.endLoop Instr.getLoop
          simp only [Sem.run_bind, hgl, Result.andThen_ok, Sem.run_pure, hne, Bool.false_eq_true, if_false]
          rw [run_setObj g1 (by simp)]
          simp only [Result.andThen_ok, g3]
        have hst' : ∀ X : Fr → AH → Prop, X fr (σ'.kill σ.next) → Stands Gb ι0 N0 gl n X { a with defers := [markOf w.heap.size] ++ a.defers } (putBlk w3 p.blk (.loop { r with state := .exhausted })) := by
          intro X hX
          have hn0 := hs.next
          refine ⟨{ G with defs := w.heap.size :: G.defs }, markOf w.heap.size :: df, fr, _, ι', ⟨hm.w0, hm.N, ?_⟩, ⟨hs.frame.mono hle2, by rw [← hs.defers]; rfl, hsw, hs.ext.trans ((Ext.put N0 ι p hs.next).trans h2 (by omega)) (Nat.le_refl _), by simp only [AH.kill_next]; omega, hs.globs.le hle2⟩, hX⟩
          obtain ⟨ds, e1, e2, e3, e4⟩ := hm.ds
          have hlt : ∀ D, D ∈ G.defs → D < w.heap.size := fun D hD => (Array.getElem?_eq_some_iff.1 (hs.rel.kept D hD).1).1
          refine ⟨w.heap.size :: ds, by show w.heap.size :: G.defs = _; rw [e1]; rfl, by rw [e2]; rfl, List.nodup_cons.2 ⟨fun hD => ?_, e3⟩, fun D hD => ?_⟩
          · have := hlt w.heap.size (by rw [e1]; simp [hD]); omega
          · rcases List.mem_cons.1 hD with rfl | hD
            · refine ⟨fun hD => ?_, hs.rel.size⟩
              have := hlt w.heap.size (by rw [e1]; simp [hD]); omega
            · exact e4 D hD
        refine ⟨pe, _, hend, ?_⟩
        split at hq
        · exact hst' _ hq
        · exact wpIn_ret (hst' _ hq)
        · exact wpIn_exit (hst' _ hq)
        · cases hq
      split at h5
      · cases h5
      · rename_i st pe frs ps' as' bo' hnb hk
        exact fin st pe frs ps' as' bo' hk (fun e => hnb (by rw [e])) h5
      · cases h5

theorem codeVc_sound : ∀ (c : Code) (QA : AExit → Fr → AH → Prop) (G : Base) (df : List Deferred) (fr : Fr) (σ : AH) (ι : IM) (a : Act) (w : World), (rd = none ∨ flatCode c = true) → Marks G Gb df →
    St G ι0 N0 gl n df fr σ ι a w → codeVc C gl wide n c QA fr σ → c.wpIn (fw rd) 0 C.P (PostX Gb ι0 N0 gl n QA) a w
  | .skip, QA, G, df, fr, σ, ι, a, w, _, hm, hs, h => wpIn_skip ⟨G, df, fr, σ, ι, hm, hs, h⟩
  | .region id ops draw, QA, G, df, fr, σ, ι, a, w, _, hm, hs, h => by
    simp only [codeVc] at h
    split at h
    · rename_i hd
      subst hd
      exact drawVc_sound hs h fun fr' σ' ι' a' w' hs' hK => ⟨G, df, fr', σ', ι', hm, hs', hK⟩
    · rename_i hd
      simp only [Bool.not_eq_true] at hd
      subst hd
      exact wpIn_region (opsVc_sound (fun fr' σ' ι' a' w' hs' hK => ⟨G, df, fr', σ', ι', hm, hs', hK⟩) _ fr σ ι a w hs h)
  | .seq x y, QA, G, df, fr, σ, ι, a, w, hrd, hm, hs, h => by
    simp only [codeVc] at h
    refine wpIn_seq (wpIn_mono (codeVc_sound x _ G df fr σ ι a w (hrd.imp (fun h => h) fun h => by simp only [flatCode, Bool.and_eq_true] at h; exact h.1) hm hs h) fun e a' w' he => ?_)
    cases e with
    | normal =>
      obtain ⟨G', df', fr', σ', ι', hm', hs', h'⟩ := he
      exact codeVc_sound y QA G' df' fr' σ' ι' a' w' (hrd.imp (fun h => h) fun h => by simp only [flatCode, Bool.and_eq_true] at h; exact h.2) hm' hs' h'
    | exit id => exact he
    | ret => exact he
    | goto l => exact he
    | panic c => exact he
    | outgrown => exact he
  | .cond c x y, QA, G, df, fr, σ, ι, a, w, hrd, hm, hs, h => by
    simp only [codeVc] at h
    split at h
    case h_2 => cases h
    rename_i b hb
    have hc := ev_sound hs.frame hs.globs c
    rw [hb] at hc
    simp only [VRel] at hc
    refine wpIn_cond hc ?_
    cases b with
    | true => exact codeVc_sound x QA G df fr σ ι a w (hrd.imp (fun h => h) fun h => by simp only [flatCode, Bool.and_eq_true] at h; exact h.1) hm hs h
    | false => exact codeVc_sound y QA G df fr σ ι a w (hrd.imp (fun h => h) fun h => by simp only [flatCode, Bool.and_eq_true] at h; exact h.2) hm hs h
  | .block id c, QA, G, df, fr, σ, ι, a, w, hrd, hm, hs, h => by
    simp only [codeVc] at h
    refine wpIn_block (wpIn_mono (codeVc_sound c _ G df fr σ ι a w (hrd.imp (fun h => h) fun h => by simpa only [flatCode] using h) hm hs h) fun e a' w' he => ?_)
    cases e with
    | exit id' =>
      obtain ⟨G', df', fr', σ', ι', hm', hs', h'⟩ := he
      simp only [AExit.inBlock] at h'
      simp only [Exit.inBlock]
      split at h'
      · rename_i hid
        rw [if_pos hid]
        exact ⟨G', df', fr', σ', ι', hm', hs', h'⟩
      · rename_i hid
        rw [if_neg hid]
        exact ⟨G', df', fr', σ', ι', hm', hs', h'⟩
    | normal => exact he
    | ret => exact he
    | goto l => exact he
    | panic c => exact he
    | outgrown => exact he
  | .loop c, QA, G, df, fr, σ, ι, a, w, hrd, hm, hs, h => by
    simp only [codeVc] at h
    obtain ⟨I, k, h0, hround⟩ := h
    refine wpIn_loop_ghost (fun m a w => Stands Gb ι0 N0 gl n (I m) a w) k ⟨G, df, fr, σ, ι, hm, hs, h0⟩ ?_
    rintro m a w ⟨G, df, fr, σ, ι, hm, hs, hI⟩
    refine wpIn_mono (codeVc_sound c _ G df fr σ ι a w (hrd.imp (fun h => h) fun h => by simpa only [flatCode] using h) hm hs (hround m fr σ hI)) fun e a' w' he => ?_
    cases e with
    | normal =>
      obtain ⟨G', df', fr', σ', ι', hm', hs', k', hlt, hI'⟩ := he
      exact ⟨k', hlt, G', df', fr', σ', ι', hm', hs', hI'⟩
    | exit id => exact he
    | ret => exact he
    | goto l => exact he
    | panic c => exact he
    | outgrown => exact he
  | .exit id, QA, G, df, fr, σ, ι, a, w, _, hm, hs, h => wpIn_exit ⟨G, df, fr, σ, ι, hm, hs, h⟩
  | .ret, QA, G, df, fr, σ, ι, a, w, _, hm, hs, h => wpIn_ret ⟨G, df, fr, σ, ι, hm, hs, h⟩
  | .label _, QA, G, df, fr, σ, ι, a, w, _, hm, hs, h => wpIn_label ⟨G, df, fr, σ, ι, hm, hs, h⟩
  | .rangeFunc g ps assign body, QA, G, df, fr, σ, ι, a, w, hrd, hm, hs, h => by
    simp only [codeVc] at h
    rcases hrd with rfl | hrd
    · exact rangeFunc_sound hm hs h
    · simp [flatCode] at hrd
  | .scope _, QA, G, df, fr, σ, ι, a, w, _, hm, hs, h => by simp only [codeVc] at h
  | .goto _, QA, G, df, fr, σ, ι, a, w, _, hm, hs, h => by simp only [codeVc] at h
  | .refuse _, QA, G, df, fr, σ, ι, a, w, _, hm, hs, h => by simp only [codeVc] at h

/-! ### A function -/
def resVal : List AV → AV
  | [v] => v
  | vs => .tuple vs
/-- What a function hands back. -/
def resVc (C : Cx) (n : Nat) : List ResultVar → Fr → AH → (List AV → Prop) → Prop
  | [], _, _, K => K []
  | .tmp t :: r, fr, σ, K => if t < n then resVc C n r fr σ fun vs => K (fr t :: vs) else False
  | .cell a t :: r, fr, σ, K => if a < n then loadVc C t (fr a) σ fun v => resVc C n r fr σ fun vs => K (v :: vs) else False
/-- What a function's code asks. -/
def bodyVc (C : Cx) (gl : List Nat) (wide : Bool) (fn : Func) (c : Code) (args : List AV) (σ : AH) (K : AV → AH → Prop) : Prop :=
  if args.length ≤ fn.ntmps then
    codeVc C gl wide fn.ntmps c (fun e fr σ => match e with
      | .normal | .ret => resVc C fn.ntmps fn.results.toList fr σ fun vs => K (resVal vs) σ
      | _ => False) (initL args) σ
  else False

def resOne (tmps : Array Value) : ResultVar → Sem Value
  | .tmp t => pure (tmps.getD t undef)
  | .cell a t => do loadVar t (← asAddr (tmps.getD a undef))
theorem resVc_sound {ι : IM} {σ : AH} {fr : Fr} {tmps : Array Value} {w : World} (hr : Rel G ι σ w) (hf : FrRel ι n fr tmps) : ∀ (rs : List ResultVar) (K : List AV → Prop), resVc C n rs fr σ K →
    ∃ vs us, (rs.mapM (resOne tmps)).run C.P w = .ok us w ∧ VRelL ι vs us ∧ K vs
  | [], K, h => ⟨[], [], rfl, .nil, h⟩
  | .tmp t :: r, K, h => by
    simp only [resVc] at h
    split at h
    case isFalse => cases h
    rename_i ht
    obtain ⟨u, hu, hur⟩ := hf.2 t ht
    obtain ⟨vs, us, h1, h2, h3⟩ := resVc_sound hr hf r _ h
    refine ⟨_, u :: us, ?_, .cons hur h2, h3⟩
    simp only [List.mapM_cons, resOne, Sem.run_bind, Sem.run_pure, Result.andThen_ok, h1, Array.getD_eq_getD_getElem?, hu, Option.getD_some]
  | .cell a t :: r, K, h => by
    simp only [resVc] at h
    split at h
    case isFalse => cases h
    rename_i ha
    obtain ⟨u, hu, hur⟩ := hf.2 a ha
    obtain ⟨v, v', hrun, hv, h⟩ := loadVc_sound h hr hur
    obtain ⟨vs, us, h1, h2, h3⟩ := resVc_sound hr hf r _ h
    refine ⟨_, v' :: us, ?_, .cons hv h2, h3⟩
    have hld : (do loadVar t (← asAddr u) : Sem Value).run C.P w = .ok v' w := by
      rw [← hrun]
      unfold Instr.loadAt
      have : u = .nilIface ∨ asAddr u = Instr.sureAddr u ∨ (∃ q, u = .pointer none ∧ q = u) ∨ (Instr.sureAddr u).run C.P w = (stuck "an address expected (no nilCheck in front?)" : Sem Addr).run C.P w := by
        cases u with
        | pointer p => cases p with
          | none => exact .inr (.inr (.inl ⟨_, rfl, rfl⟩))
          | some p => exact .inr (.inl rfl)
        | _ => exact .inr (.inr (.inr rfl))
      unfold Instr.loadAt at hrun
      rcases this with rfl | e | ⟨_, rfl, _⟩ | e
      · simp [Instr.sureAddr] at hrun
      · rw [e]
      · simp [Instr.sureAddr] at hrun
      · rw [Sem.run_bind, e] at hrun
        simp at hrun
    simp only [List.mapM_cons, resOne, Sem.run_bind, Sem.run_pure, Array.getD_eq_getD_getElem?, hu, Option.getD_some] at hld ⊢
    rw [hld]
    simp only [Result.andThen_ok, h1]
theorem results_run {fn : Func} {tmps : Array Value} {w : World} {us : List Value} {P : Program} (h : (fn.results.toList.mapM (resOne tmps)).run P w = .ok us w) : ∃ v, (results fn tmps).run P w = .ok v w ∧ (match us with
    | [u] => v = u
    | us => v = .tuple us.toArray) := by
  have hres : results fn tmps = (fn.results.mapM (resOne tmps) >>= fun vs => pure (if h : vs.size = 1 then vs[0] else .tuple vs)) := by
    unfold results
    congr 1
  have e : (fn.results.mapM (resOne tmps)).run P w = .ok us.toArray w := by
    rw [Array.mapM_eq_mapM_toList, Sem.run_map, h]
    rfl
  rw [hres, Sem.run_bind, e]
  simp only [Result.andThen_ok, Sem.run_pure]
  match us with
  | [] => exact ⟨_, rfl, rfl⟩
  | [u] => exact ⟨_, rfl, rfl⟩
  | u :: u' :: r =>
    refine ⟨_, rfl, ?_⟩
    simp

theorem frame_init {ι : IM} {args : List AV} {args' : List Value} {m : Nat} (h : VRelL ι args args') (hl : args.length ≤ m) : FrRel ι m (initL args) (args'.toArray ++ Array.replicate (m - args'.toArray.size) undef) := by
  have hlen := h.length
  refine ⟨by simp; omega, fun t ht => ?_⟩
  simp only [initL]
  rcases Nat.lt_or_ge t args.length with hlt | hge
  · obtain ⟨u, hu, hr⟩ := h.get (List.getElem?_eq_getElem hlt)
    refine ⟨u, ?_, ?_⟩
    · rw [Array.getElem?_append_left (by simp; omega)]
      simpa using hu
    · rw [List.getElem?_eq_getElem hlt]; exact hr
  · refine ⟨undef, ?_, ?_⟩
    · rw [Array.getElem?_append_right (by simp; omega), Array.getElem?_replicate, if_pos (by simp; omega)]
    · rw [List.getElem?_eq_none hge]; exact vrel_undef ι

theorem takeDeferred_run {P : Program} {w : World} {D : Nat} (h : w.heap[D]? = some (.deferred (some []))) : (Instr.takeDeferred D).run P w = .ok [] (putBlk w D (.deferred none)) := by
  have hg := run_getObj (P := P) h (by simp)
  unfold Instr.takeDeferred
  simp only [Sem.run_bind, hg, Result.andThen_ok]
  rw [run_setObj h (by simp)]
  rfl
/-- Behind the body: the marks are taken; the results. -/
theorem leaves_marks {fn : Func} {tmps : Array Value} {R : Ending → World → Prop} {ι : IM} {σ : AH} (hR : ∀ w, Rel Gb ι σ w → ∃ v, (results fn tmps).run C.P w = .ok v w ∧ R (.returned v) w) :
    ∀ (ds : List Nat) (G : Base) (w : World), G.w0 = Gb.w0 → G.N = Gb.N → G.defs = ds ++ Gb.defs → ds.Nodup → (∀ D, D ∈ ds → D ∉ Gb.defs ∧ G.N ≤ D) → Rel G ι σ w → LeavesInM (fw none) 0 C.P fn tmps R (ds.map markOf) .returning w
  | [], G, w, h1, h2, h3, _, _, hr => hR w (hr.fewer (df := []) ⟨h1, h2, [], h3, rfl, .nil, fun D h => by cases h⟩)
  | D :: ds, G, w, h1, h2, h3, h4, h5, hr => by
    have hn := List.nodup_cons.1 h4
    refine ⟨by simp, .inl ⟨D, _, rfl, takeDeferred_run (hr.kept D (by rw [h3]; simp)).1, ?_⟩⟩
    have hs := hr.shut (D := D) (r := ds ++ Gb.defs) h3 (by
      intro hD
      rcases List.mem_append.1 hD with hD | hD
      · exact hn.1 hD
      · exact (h5 D (by simp)).1 hD) (h5 D (by simp)).2
    exact leaves_marks hR ds { G with defs := ds ++ Gb.defs } _ h1 h2 rfl hn.2 (fun D' hD' => h5 D' (by simp [hD'])) hs

theorem ACall.of_body {fn : Func} {c : Code} {f : FuncId} {args : List AV} {σ : AH} {K : AV → AH → Prop} (hf : C.P.funcs[f]? = some fn) (hb : fn.body = some c) (hn : (fn.name == "runtime.NumGoroutine") = false)
    (h : bodyVc C gl wide fn c args σ K) : ACall C.P gl f args σ K := by
  unfold bodyVc at h
  split at h
  case isFalse => cases h
  rename_i hl
  intro G ι w args' hr hgl hargs
  have hcf : (callFunc f args'.toArray).run C.P w = .ok (.enter f args'.toArray) w := by
    unfold callFunc
    simp only [Sem.run_bind, run_program, Result.andThen_ok, hf, hn, hb, Bool.false_eq_true, if_false, Option.isNone_some, Sem.run_pure]
  unfold CallR
  rw [hcf]
  simp only
  refine callsIn_wide (n := 0).1 (callsIn_of_wp_marks (F := fw none) (n := 0) hf hb trivial (wpIn_mono (codeVc_sound (Gb := G) (ι0 := ι) (N0 := σ.next) (gl := gl) (wide := wide) (n := fn.ntmps) (rd := none) c _ G [] (initL args) σ ι _ w (.inl rfl) (Marks.none G)
    ⟨frame_init hargs hl, rfl, hr, Ext.refl _ _, Nat.le_refl _, hgl⟩ h) fun e a' w' he => ?_))
  have fin : ∀ R : Ending → World → Prop, (∀ v' w'', (∃ v1 σ' ι', Rel G ι' σ' w'' ∧ Ext σ.next ι ι' ∧ σ.next ≤ σ'.next ∧ VRel ι' v1 v' ∧ K v1 σ') → R (.returned v') w'') →
      Stands G ι σ.next gl fn.ntmps (fun fr σ => resVc C fn.ntmps fn.results.toList fr σ fun vs => K (resVal vs) σ) a' w' → LeavesInM (fw none) 0 C.P fn a'.tmps R a'.defers .returning w' := by
    rintro R hR ⟨G', df, fr', σ', ι', hm, hs, hK⟩
    obtain ⟨ds, e1, e2, e3, e4⟩ := hm.ds
    rw [hs.defers, e2]
    refine leaves_marks (Gb := G) (ι := ι') (σ := σ') (fun w2 hr2 => ?_) ds G' w' hm.w0 hm.N e1 e3 e4 hs.rel
    obtain ⟨vs, us, h1, h2, h3⟩ := resVc_sound hr2 hs.frame _ _ hK
    obtain ⟨v, hv, hvu⟩ := results_run h1
    refine ⟨v, hv, hR _ _ ⟨_, σ', ι', hr2, hs.ext, hs.next, ?_, h3⟩⟩
    cases vs with
    | nil =>
      simp only [VRelL] at h2
      subst h2
      simp only at hvu
      subst hvu
      exact vrel_undef ι'
    | cons x xs =>
      simp only [VRelL] at h2
      obtain ⟨u, us', rfl, hx, hxs⟩ := h2
      cases xs with
      | nil =>
        simp only [VRelL] at hxs
        subst hxs
        simp only at hvu
        subst hvu
        exact hx
      | cons y ys =>
        have hxs' := hxs
        simp only [VRelL] at hxs
        obtain ⟨u2, us2, rfl, _, _⟩ := hxs
        simp only at hvu
        subst hvu
        simp only [resVal, VRel]
        exact ⟨_, rfl, .cons hx hxs'⟩
  cases e with
  | normal => exact fin _ (fun _ _ h => h) he
  | ret => exact fin _ (fun _ _ h => h) he
  | exit id => obtain ⟨_, _, _, _, _, _, _, h⟩ := he; exact h
  | goto l => exact False.elim he
  | panic c => exact False.elim he
  | outgrown => exact False.elim he
theorem ACall.mono {P : Program} {f : FuncId} {args : List AV} {σ : AH} {K K' : AV → AH → Prop} (h : ACall P gl f args σ K) (hk : ∀ v σ', K v σ' → K' v σ') : ACall P gl f args σ K' := by
  intro G ι w args' hr hgl hargs
  have := h G ι w args' hr hgl hargs
  unfold CallR at this ⊢
  split at this
  · obtain ⟨v, σ', ι', h1, h2, h3, h4, h5⟩ := this
    exact ⟨v, σ', ι', h1, h2, h3, h4, hk _ _ h5⟩
  · refine Calls.mono this fun e w'' he => ?_
    cases e with
    | returned v =>
      obtain ⟨v, σ', ι', h1, h2, h3, h4, h5⟩ := he
      exact ⟨v, σ', ι', h1, h2, h3, h4, hk _ _ h5⟩
    | panicked c => exact he
    | outgrown => exact he
  · exact this
end
end Go.Proofs.YthpngchngnaloaaGreatDoor.Vm

/-! A round of a loop over a function. -/
namespace Go.Proofs.YthpngchngnaloaaGreatDoor.Vm
open RowKit (Below)
section
variable {C : Cx} {gl : List Nat} {wide : Bool}

theorem setAll_rel {ι : IM} {n : Nat} : ∀ (ps : List Nat) (as : List AV) (us : List Value) (fr : Fr) (tmps : Array Value), FrRel ι n fr tmps → VRelL ι as us → as.length = ps.length →
    FrRel ι n (setAll fr (ps.zip as)) ((ps.zip us).foldl (fun t (p : Nat × Value) => t.setIfInBounds p.1 p.2) tmps)
  | [], as, us, fr, tmps, hf, _, _ => by simpa [setAll] using hf
  | p :: ps, [], us, fr, tmps, hf, _, hl => by simp at hl
  | p :: ps, a :: as, us, fr, tmps, hf, ha, hl => by
    simp only [VRelL] at ha
    obtain ⟨u, us', rfl, h1, h2⟩ := ha
    simp only [List.zip_cons_cons, setAll, List.foldl_cons]
    have := FrRel.put (a := ⟨tmps, []⟩) hf (some p) h1
    exact setAll_rel ps as us' _ _ this h2 (by simpa using hl)
theorem initL_rel {ι : IM} {frs : List AV} {tmps : Array Value} (h : VRelL ι frs tmps.toList) : FrRel ι frs.length (initL frs) tmps := by
  refine ⟨by rw [← Array.length_toList, h.length], fun t ht => ?_⟩
  obtain ⟨u, hu, hr⟩ := h.get (List.getElem?_eq_getElem ht)
  refine ⟨u, by rw [← Array.getElem?_toList]; exact hu, ?_⟩
  simp only [initL, List.getElem?_eq_getElem ht]
  exact hr

theorem AYield.of_round {b : Nat} {args : List AV} {σ : AH} {K : AV → AH → Prop} (h : roundVc C gl wide b args σ K) : AYield C.P gl b args σ K := by
  unfold roundVc at h
  split at h
  case h_2 => cases h
  rename_i pe0 frs ps assign body hk
  split at h
  case isFalse => cases h
  rename_i hc
  obtain ⟨hlen, hfa, hfb⟩ := hc
  intro G ι w args' p hr hgl hargs hp
  obtain ⟨r, g1, g2, g3, g4, g5, g6, g7⟩ := hr.live b p _ hp hk
  have hg := run_getObj (P := C.P) g1 (by simp)
  have hsz : args'.length = r.params.size := by rw [hargs.length, hlen, g5]
  unfold YieldR
  have hy : (Instr.yield p.blk args'.toArray).run C.P w = .ok (.round p.blk r.fn ((r.params.toList.zip args').foldl (fun t (q : Nat × Value) => t.setIfInBounds q.1 q.2) r.tmps) r.assign r.body) w := by
    unfold Instr.yield Instr.getLoop
    simp only [Sem.run_bind, hg, Result.andThen_ok, Sem.run_pure]
    rw [if_neg (by simp [hsz])]
    simp only [Sem.run_bind, Sem.run_pure, Result.andThen_ok]
    rw [← Array.foldl_toList, Array.toList_zip]
  rw [hy]
  simp only
  rw [g6, g7, g5]
  have hfr := setAll_rel ps.toList args args' _ _ (initL_rel g4) hargs (by simpa using hlen)
  refine roundIn_of_wpIn (F := Fence.wide) trivial (wpIn_mono (codeVc_sound (Gb := G) (ι0 := ι) (N0 := σ.next) (gl := gl) (wide := wide) (n := frs.length) (rd := some p.blk) assign _ G [] _ σ ι _ w (.inr hfa) (Marks.none G)
    ⟨hfr, rfl, hr, Ext.refl _ _, Nat.le_refl _, hgl⟩ h) fun e a1 w1 he => ?_)
  cases e with
  | exit id => obtain ⟨_, _, _, _, _, _, _, h⟩ := he; exact h
  | ret => obtain ⟨_, _, _, _, _, _, _, h⟩ := he; exact h
  | goto l => exact False.elim he
  | panic c => exact False.elim he
  | outgrown => exact False.elim he
  | normal =>
    obtain ⟨G1, df1, fr1, σ1, ι1, hm1, hs1, h1⟩ := he
    simp only at h1
    split at h1
    case h_2 => cases h1
    rename_i pe frs' ps' as' bo' hk1
    have hp1 : ι1 b = some p := by rw [hs1.ext b (hr.ι_lt hp)]; exact hp
    obtain ⟨r1, k1, k2, k3, k4⟩ := hs1.rel.live b p _ hp1 hk1
    have hg1 := run_getObj (P := C.P) k1 (by simp)
    have hsw := hs1.rel.swap hp1 hk1 rfl (k' := .loop .busy pe frs' ps' as' bo') (.loop { r1 with state := .busy }) ⟨{ r1 with state := .busy }, putBlk_self w1 p.blk _ (hs1.rel.bound _ _ hp1), rfl, k3, k4⟩
    refine ⟨putBlk w1 p.blk (.loop { r1 with state := .busy }), ?_, ?_⟩
    · unfold Instr.beginRound Instr.getLoop
      simp only [Sem.run_bind, hg1, Result.andThen_ok, Sem.run_pure]
      rw [run_setObj k1 (by simp)]
      simp only [Result.andThen_ok, k2, Sem.run_pure]
    · refine wpIn_mono (codeVc_sound (Gb := G) (ι0 := ι) (N0 := σ.next) (gl := gl) (wide := wide) (n := frs.length) (rd := some p.blk) body _ G1 df1 fr1 _ ι1 a1 _ (.inr hfb) hm1
        ⟨hs1.frame, hs1.defers, hsw, hs1.ext, hs1.next, hs1.globs⟩ h1) fun e a2 w2 he => ?_
      have fin : ∀ (e : AExit) (jump : Option Code) (st : LoopState) (v : Bool), (if jump.isNone then LoopState.ready else .done) = st → jump.isNone = v →
          Stands G ι σ.next gl frs.length (fun fr2 σ2 => ∃ st' pe' f' p' a' b', σ2.get b = some (.loop st' pe' f' p' a' b') ∧ K (.bool v) (σ2.set b (.loop st jump f' p' a' b'))) a2 w2 →
          ∃ v' w', (Instr.endRound p.blk jump).run C.P w2 = .ok v' w' ∧ ∃ v1 σ' ι', Rel G ι' σ' w' ∧ Ext σ.next ι ι' ∧ σ.next ≤ σ'.next ∧ VRel ι' v1 v' ∧ K v1 σ' := by
        rintro e jump st v hst hv ⟨G2, df2, fr2, σ2, ι2, hm2, hs2, st', pe', f', p', a', b', hk2, hK⟩
        have hp2 : ι2 b = some p := by rw [hs2.ext b (hr.ι_lt hp)]; exact hp
        obtain ⟨r2, m1, m2, m3, m4⟩ := hs2.rel.live b p _ hp2 hk2
        have hg2 := run_getObj (P := C.P) m1 (by simp)
        have hsw2 := hs2.rel.swap hp2 hk2 rfl (k' := .loop st jump f' p' a' b') (.loop { r2 with state := if jump.isNone then .ready else .done, pending := jump })
          ⟨{ r2 with state := if jump.isNone then .ready else .done, pending := jump }, putBlk_self w2 p.blk _ (hs2.rel.bound _ _ hp2), hst, rfl, m4⟩
        refine ⟨.bool jump.isNone, _, ?_, .bool v, _, ι2, hsw2.fewer hm2, hs2.ext, by simp only [AH.set_next]; exact hs2.next, by simp only [VRel, hv], hK⟩
        unfold Instr.endRound Instr.getLoop
        simp only [Sem.run_bind, hg2, Result.andThen_ok, Sem.run_pure]
        rw [run_setObj m1 (by simp)]
        rfl
      have look : ∀ {e : AExit} {fr2 : Fr} {σ2 : AH} {jump : Option Code} {st : LoopState} {v : Bool}, (match σ2.get b with
              | some (.loop _ _ frs' ps' a' b') => K (.bool v) (σ2.set b (.loop st jump frs' ps' a' b'))
              | _ => False) → ∃ st' pe' f' p' a' b', σ2.get b = some (.loop st' pe' f' p' a' b') ∧ K (.bool v) (σ2.set b (.loop st jump f' p' a' b')) := by
        intro e fr2 σ2 jump st v h
        split at h
        · rename_i st' pe' f' p' a' b' hk; exact ⟨st', pe', f', p', a', b', hk, h⟩
        · cases h
      cases e with
      | normal =>
        obtain ⟨G2, df2, fr2, σ2, ι2, hm2, hs2, h2⟩ := he
        exact fin .normal none .ready true rfl rfl ⟨G2, df2, fr2, σ2, ι2, hm2, hs2, look (e := .normal) (fr2 := fr2) h2⟩
      | ret =>
        obtain ⟨G2, df2, fr2, σ2, ι2, hm2, hs2, h2⟩ := he
        exact fin .ret (some .ret) .done false rfl rfl ⟨G2, df2, fr2, σ2, ι2, hm2, hs2, look (e := .ret) (fr2 := fr2) h2⟩
      | exit id =>
        obtain ⟨G2, df2, fr2, σ2, ι2, hm2, hs2, h2⟩ := he
        exact fin (.exit id) (some (.exit id)) .done false rfl rfl ⟨G2, df2, fr2, σ2, ι2, hm2, hs2, look (e := .exit id) (fr2 := fr2) h2⟩
      | goto l => exact False.elim he
      | panic c => exact False.elim he
      | outgrown => exact False.elim he
end
end Go.Proofs.YthpngchngnaloaaGreatDoor.Vm
