/- What is light has one outcome, and has it again later. -/
import Derived.Test.YthpngchngnaloaaGreatDoorVmF
namespace Go.Proofs.YthpngchngnaloaaGreatDoor.Vm
open RowKit (Below)
section
variable {C : Cx}

/-- One thing is handed on. -/
def One {α : Type} (X : (α → Prop) → Prop) : Prop := ∀ K, X K → ∃ v, K v ∧ ∀ K', K' v → X K'

theorem eqVc_one (t : TypeId) (x y : AV) : One (eqVc C t x y) := by
  intro K h
  unfold eqVc at h
  split at h
  case h_2 => cases h
  rename_i ti hti
  split at h
  case h_10 =>
    split at h
    case isFalse => cases h
    rename_i hd hp
    split at h
    case h_2 => cases h
    rename_i r hr
    refine ⟨_, h, fun K' hk => ?_⟩
    unfold eqVc
    simp only [hti, hd, hp, hr, if_true]
    exact hk
  case h_11 => cases h
  all_goals
    rename_i hd
    refine ⟨_, h, fun K' hk => ?_⟩
    unfold eqVc
    simp only [hti, hd]
    exact hk
theorem intVc_one (op : BinOp) (k : IntKind) (a b : Int) : One (intVc op k a b) := by
  intro K h
  cases op <;> simp only [intVc] at h <;> (try cases h; done) <;> (try split at h) <;> first
    | exact ⟨_, h, fun K' hk => hk⟩
    | cases h
    | (rename_i h0; exact ⟨_, h, fun K' hk => by simp only [intVc]; rw [if_neg h0]; exact hk⟩)
theorem strVc_one (op : BinOp) (a b : List UInt8) : One (strVc op a b) := by
  intro K h
  cases op <;> simp only [strVc] at h <;> first
    | exact ⟨_, h, fun K' hk => hk⟩
    | exact ⟨_, h.2, fun K' hk => ⟨h.1, hk⟩⟩
theorem binVc_one (op : BinOp) (t : TypeId) (x y : AV) : One (binVc C op t x y) := by
  intro K h
  unfold binVc at h
  split at h
  · split at h
    · cases h
    rename_i h0
    refine ⟨_, h, fun K' hk => ?_⟩
    simp only [binVc]; rw [if_neg h0]; exact hk
  · split at h
    · cases h
    rename_i h0
    refine ⟨_, h, fun K' hk => ?_⟩
    simp only [binVc]; rw [if_neg h0]; exact hk
  · rename_i k a k' b h1 h2
    split at h
    case isFalse => cases h
    rename_i h0
    obtain ⟨v, hv, hl⟩ := intVc_one _ _ _ _ K h
    refine ⟨v, hv, fun K' hk => ?_⟩
    unfold binVc
    split
    all_goals first
      | (exfalso; simp_all; done)
      | (rename_i e1 e2; cases e1; cases e2; rw [if_pos h0]; exact hl K' hk)
      | (rw [if_pos h0]; exact hl K' hk)
      | (rename_i e1 e2 e3 e4; exact (e1 _ _ _ _ rfl rfl).elim)
  · obtain ⟨v, hv, hl⟩ := strVc_one _ _ _ K h
    refine ⟨v, hv, fun K' hk => ?_⟩
    simp only [binVc]; exact hl K' hk
  · rename_i h1 h2
    obtain ⟨v, hv, hl⟩ := eqVc_one _ _ _ _ h
    refine ⟨_, hv, fun K' hk => ?_⟩
    unfold binVc
    split
    all_goals first
      | exact hl _ hk
      | exact (h1 _ _ _ _ rfl rfl).elim
      | exact (h2 _ _ rfl rfl).elim
      | (exfalso; simp_all; done)
  · rename_i h1 h2
    obtain ⟨v, hv, hl⟩ := eqVc_one _ _ _ _ h
    refine ⟨_, hv, fun K' hk => ?_⟩
    unfold binVc
    split
    all_goals first
      | exact hl _ hk
      | exact (h1 _ _ _ _ rfl rfl).elim
      | exact (h2 _ _ rfl rfl).elim
      | (exfalso; simp_all; done)
  · cases h
theorem unVc_one (op : UnOp) (x : AV) : One (unVc op x) := by
  intro K h
  unfold unVc at h
  split at h <;> first
    | exact ⟨_, h, fun K' hk => hk⟩
    | cases h
theorem partVc_one (t : TypeId) (cs : List AV) (off : Nat) : One (partVc C t cs off) := by
  intro K h
  unfold partVc at h
  split at h
  case h_2 => cases h
  rename_i ti hti
  split at h
  · rename_i h0
    exact ⟨_, h, fun K' hk => by unfold partVc; simp only [hti]; rw [if_pos h0]; exact hk⟩
  · rename_i h0
    split at h
    case h_2 => cases h
    rename_i v hv
    exact ⟨_, h, fun K' hk => by unfold partVc; simp only [hti]; rw [if_neg h0]; simp only [hv]; exact hk⟩
theorem buildVc_one (t : TypeId) (ps : List (Nat × AV)) : One (buildVc C t ps) := by
  intro K h
  unfold buildVc at h
  split at h
  case h_2 => cases h
  rename_i ti hti
  split at h
  · rename_i fs hd
    split at h
    case isFalse => cases h
    rename_i h0
    split at h
    case h_2 => cases h
    rename_i cs hcs
    exact ⟨_, h, fun K' hk => by unfold buildVc; simp only [hti, hd]; rw [if_pos h0]; simp only [hcs]; exact hk⟩
  · rename_i m e hd
    split at h
    case h_2 => cases h
    rename_i x hx
    split at h
    case h_2 => cases h
    rename_i cs hcs
    exact ⟨_, h, fun K' hk => by unfold buildVc; simp only [hti, hd, hx, hcs]; exact hk⟩
  · cases h
theorem fieldVc_one (t : TypeId) (x : AV) (f : Nat) : One (fieldVc C t x f) := by
  intro K h
  unfold fieldVc at h
  split at h
  case h_2 => cases h
  rename_i ti cs hti
  split at h
  case h_2 => cases h
  rename_i fs hd
  split at h
  case h_2 => cases h
  rename_i off ft hf
  obtain ⟨v, hv, hl⟩ := partVc_one _ _ _ K h
  exact ⟨v, hv, fun K' hk => by unfold fieldVc; simp only [hti, hd, hf]; exact hl K' hk⟩
theorem fieldAddrVc_one (t : TypeId) (x : AV) (f : Nat) : One (fieldAddrVc C t x f) := by
  intro K h
  unfold fieldAddrVc at h
  split at h
  case h_2 => cases h
  rename_i ti a hti
  split at h
  case h_2 => cases h
  rename_i fs hd
  split at h
  case h_2 => cases h
  rename_i off ft hf
  split at h
  case h_2 => cases h
  rename_i x hx
  split at h
  · cases h
  rename_i h0
  obtain ⟨b, o, rfl, h⟩ := atP_some h
  exact ⟨_, h, fun K' hk => by unfold fieldAddrVc; simp only [hti, hd, hf, hx]; rw [if_neg h0]; exact hk⟩
theorem indexAddrVc_one (t : TypeId) (x i : AV) : One (indexAddrVc C t x i) := by
  intro K h
  unfold indexAddrVc at h
  split at h
  case h_2 => cases h
  rename_i ti ki i hti
  split at h
  · rename_i m e a hd
    split at h
    case h_2 => cases h
    rename_i y hy
    obtain ⟨h1, h2, h⟩ := h
    obtain ⟨b, o, rfl, h⟩ := atP_some h
    exact ⟨_, h, fun K' hk => by unfold indexAddrVc; simp only [hti, hd, hy]; exact ⟨h1, h2, hk⟩⟩
  · rename_i e a m c hd
    split at h
    case h_2 => cases h
    rename_i y hy
    obtain ⟨h1, h2, h⟩ := h
    obtain ⟨b, o, rfl, h⟩ := atP_some h
    exact ⟨_, h, fun K' hk => by unfold indexAddrVc; simp only [hti, hd, hy]; exact ⟨h1, h2, hk⟩⟩
  · cases h
theorem indexVc_one (t : TypeId) (x i : AV) : One (indexVc C t x i) := by
  intro K h
  unfold indexVc at h
  split at h
  case h_2 => cases h
  rename_i ti ki i hti
  split at h
  · rename_i m e a hd
    split at h
    case h_2 => cases h
    rename_i y hy
    obtain ⟨h1, h2, h⟩ := h
    obtain ⟨v, hv, hl⟩ := partVc_one _ _ _ K h
    exact ⟨v, hv, fun K' hk => by unfold indexVc; simp only [hti, hd, hy]; exact ⟨h1, h2, hl K' hk⟩⟩
  · rename_i s hd
    obtain ⟨h1, c, h2, h⟩ := h
    exact ⟨_, h, fun K' hk => by unfold indexVc; simp only [hti, hd]; exact ⟨h1, c, h2, hk⟩⟩
  · cases h
theorem boundVc_one (x : Option AV) (d m : Nat) : One (boundVc x d m) := by
  intro K h
  unfold boundVc at h
  split at h
  · exact ⟨_, h, fun K' hk => hk⟩
  · exact ⟨_, h.2.2, fun K' hk => ⟨h.1, h.2.1, hk⟩⟩
  · cases h
theorem One.bind {α β : Type} {X : (α → Prop) → Prop} {Y : α → (β → Prop) → Prop} (hx : One X) (hy : ∀ a, One (Y a)) : One fun K => X fun a => Y a K := by
  intro K h
  obtain ⟨v, hv, hl⟩ := hx _ h
  obtain ⟨u, hu, hl'⟩ := hy v K hv
  exact ⟨u, hu, fun K' hk => hl _ (hl' K' hk)⟩
theorem One.pure {α β : Type} (f : α → β) {X : (α → Prop) → Prop} (hx : One X) : One fun K => X fun a => K (f a) := by
  intro K h
  obtain ⟨v, hv, hl⟩ := hx _ h
  exact ⟨_, hv, fun K' hk => hl _ hk⟩
theorem sliceVc_one (t : TypeId) (x : AV) (lo hi mx : Option AV) (σ : AH) : One (sliceVc C false t x lo hi mx σ) := by
  intro K h
  unfold sliceVc at h
  split at h
  case h_2 => cases h
  rename_i ti hti
  split at h
  · rename_i s hd
    split at h
    case h_2 => cases h
    obtain ⟨v, hv, hl⟩ := (One.bind (boundVc_one hi s.length s.length) fun h => One.pure (fun l => AV.str ((s.take h).drop l)) (boundVc_one lo 0 h)) K h
    exact ⟨v, hv, fun K' hk => by unfold sliceVc; simp only [hti, hd]; exact hl K' hk⟩
  · rename_i e a m c hd
    split at h
    case h_2 => cases h
    rename_i y hy
    split at h
    · cases h
    rename_i h0
    split at h
    · rename_i mm
      split at h
      case isFalse => cases h
      rename_i h1
      obtain ⟨v, hv, hl⟩ := (One.bind (boundVc_one (some mm) m (roomOf false σ a m c)) fun q => One.bind (boundVc_one hi m q) fun h => One.pure (fun l => AV.slice (shA a (l * y.size)) (h - l) (.k (q - l))) (boundVc_one lo 0 h)) K h
      exact ⟨v, hv, fun K' hk => by unfold sliceVc; simp only [hti, hd, hy]; rw [if_neg h0, if_pos h1]; exact hl K' hk⟩
    · cases lo with
      | none =>
        obtain ⟨v, hv, hl⟩ := One.pure (fun h => AV.slice a h c) (boundVc_one hi m (roomOf false σ a m c)) K h
        exact ⟨v, hv, fun K' hk => by unfold sliceVc; simp only [hti, hd, hy]; rw [if_neg h0]; exact hl K' hk⟩
      | some lo =>
        obtain ⟨v, hv, hl⟩ := (One.bind (boundVc_one hi m (roomOf false σ a m c)) fun h => One.pure (fun l => AV.slice (shA a (l * y.size)) (h - l) (shC c l)) (boundVc_one (some lo) 0 h)) K h
        exact ⟨v, hv, fun K' hk => by unfold sliceVc; simp only [hti, hd, hy]; rw [if_neg h0]; exact hl K' hk⟩
  · rename_i m e a hd
    split at h
    case h_2 => cases h
    rename_i y hy
    split at h
    · cases h
    rename_i h0
    obtain ⟨b, o, rfl, h⟩ := atP_some h
    obtain ⟨v, hv, hl⟩ := (One.bind (boundVc_one hi m m) fun h => One.pure (fun l => AV.slice (some (b, o + l * y.size)) (h - l) (.k (m - l))) (boundVc_one lo 0 h)) K h
    exact ⟨v, hv, fun K' hk => by unfold sliceVc; simp only [hti, hd, hy]; rw [if_neg h0]; exact hl K' hk⟩
  · cases h
theorem sliceVc_still (t : TypeId) (x : AV) (lo hi mx : Option AV) (σ σ' : AH) (K : AV → Prop) : sliceVc C false t x lo hi mx σ K = sliceVc C false t x lo hi mx σ' K := rfl
theorem maxVc_one (f : Int → Int → Int) (k : IntKind) : ∀ (xs : List AV) (a : Int), One (maxVc f k a xs)
  | [], a => fun K h => ⟨_, h, fun K' hk => hk⟩
  | .int _ b :: r, a => fun K h => maxVc_one f k r (f a b) K h
  | .any :: _, _ | .bool _ :: _, _ | .str _ :: _, _ | .ptr _ :: _, _ | .slice .. :: _, _ | .map _ :: _, _ | .func .. :: _, _ | .nilFunc :: _, _ | .iface .. :: _, _ | .nilIface :: _, _ | .agg _ :: _, _ | .tuple _ :: _, _ | .yield _ :: _, _ => fun K h => by cases h

/-! ### Loads -/
theorem ldK_again {σ : AH} {b o : Nat} {K : AV → Prop} {s : Sh} (h : ldK σ b o K s) : ∃ v, σ.cell b o = some v ∧ K v ∧ ∀ (σ' : AH) K', σ'.cell b o = some v → K' v → ldK σ' b o K' s := by
  cases s <;> simp only [ldK] at h ⊢
  · obtain ⟨n, h1, h⟩ := h; exact ⟨_, h1, h, fun σ' K' h2 hk => ⟨n, h2, hk⟩⟩
  · obtain ⟨n, h1, h⟩ := h; exact ⟨_, h1, h, fun σ' K' h2 hk => ⟨n, h2, hk⟩⟩
  · obtain ⟨n, h1, h⟩ := h; exact ⟨_, h1, h, fun σ' K' h2 hk => ⟨n, h2, hk⟩⟩
  · obtain ⟨n, h1, h⟩ := h; exact ⟨_, h1, h, fun σ' K' h2 hk => ⟨n, h2, hk⟩⟩
  · obtain ⟨a, n, c, h1, h⟩ := h; exact ⟨_, h1, h, fun σ' K' h2 hk => ⟨a, n, c, h2, hk⟩⟩
  · obtain ⟨n, h1, h⟩ := h; exact ⟨_, h1, h, fun σ' K' h2 hk => ⟨n, h2, hk⟩⟩
  · obtain ⟨v, h1, h⟩ := h; exact ⟨_, h1, h, fun σ' K' h2 hk => ⟨v, h2, hk⟩⟩
theorem ldsK_again {σ : AH} {b : Nat} : ∀ {ss : List Sh} {o : Nat} {K : List AV → Prop}, ldsK σ b o ss K → ∃ vs, K vs ∧ ∀ (σ' : AH) K', (∀ i, i < ss.length → σ'.cell b (o + i) = σ.cell b (o + i)) → K' vs → ldsK σ' b o ss K'
  | [], o, K, h => ⟨[], h, fun σ' K' _ hk => hk⟩
  | s :: ss, o, K, h => by
    simp only [ldsK] at h
    obtain ⟨v, hv, hK, hl⟩ := ldK_again h
    obtain ⟨vs, hvs, hl'⟩ := ldsK_again hK
    refine ⟨v :: vs, hvs, fun σ' K' hc hk => ?_⟩
    simp only [ldsK]
    refine hl σ' _ ((hc 0 (by simp)).trans hv) (hl' σ' _ (fun i hi => ?_) hk)
    have := hc (i + 1) (by simpa using hi)
    rwa [show o + (i + 1) = o + 1 + i from by omega] at this
end
end Go.Proofs.YthpngchngnaloaaGreatDoor.Vm

/-! A light operation that is carried out later than it is reckoned. -/
namespace Go.Proofs.YthpngchngnaloaaGreatDoor.Vm
open RowKit (Below)
section
variable {C : Cx} {G : Base} {ι : IM} {σ : AH} {w : World} {gl : List Nat} {n : Nat} {fr : Fr} {ρ : Operand → Value}

/-! ### Loads -/
theorem ldsK_len {σ : AH} {b : Nat} {ss : List Sh} {o m : Nat} {K : AV → Prop} (h : ldsK σ b o ss fun vs => if vs.length = m then K (.agg vs) else False) : ss.length = m := by
  obtain ⟨vs, hvs, _, hK⟩ := ldsK_imp h
  split at hK
  · omega
  · cases hK

theorem loadVc_again {t : TypeId} {x : AV} {K : AV → Prop} (h : loadVc C t x σ K) :
    ∃ a ti, x = .ptr (some a) ∧ C.ti t = some ti ∧ (σ.get a.1).isSome = true ∧ ∃ v, K v ∧ ∀ (σ' : AH) K', σ'.range a.1 a.2 (if ti.d.isAgg then ti.size else 1) = σ.range a.1 a.2 (if ti.d.isAgg then ti.size else 1) → K' v → loadVc C t x σ' K' := by
  unfold loadVc at h
  split at h
  case h_2 => cases h
  rename_i a ti hti
  split at h
  · rename_i hagg
    obtain ⟨b, o, rfl, hs, h⟩ := atP_some h
    obtain ⟨rs, hrs⟩ := Option.isSome_iff_exists.1 hs
    obtain ⟨vs, hvs, hl⟩ := ldsK_again h
    split at hvs
    case isFalse => cases hvs
    rename_i hlen
    refine ⟨(b, o), ti, rfl, hti, ?_, _, hvs, fun σ' K' hr hk => ?_⟩
    · obtain ⟨cs, own, hk, _⟩ := range_some hrs
      simp [hk]
    rw [if_pos hagg] at hr
    simp only at hr
    unfold loadVc
    simp only [hti]
    rw [if_pos hagg]
    simp only [atP]
    refine ⟨by rw [hr]; exact hs, hl σ' _ (fun i hi => ?_) (by rw [if_pos hlen]; exact hk)⟩
    by_cases hi' : i < ti.size
    · rw [cell_range (hr.trans hrs) i hi', cell_range hrs i hi']
    · exfalso
      obtain ⟨us, hul, _, _⟩ := ldsK_imp h
      have := ldsK_len h
      omega
  · rename_i hagg
    split at h
    case h_2 => cases h
    rename_i s hsh
    obtain ⟨b, o, rfl, h⟩ := atP_some h
    obtain ⟨v, hv, hK, hl⟩ := ldK_again h
    have hsome : ∃ cs own, σ.get b = some (.cells cs own) ∧ cs[o]? = some v := by
      unfold AH.cell at hv
      split at hv
      · exact ⟨_, _, by assumption, hv⟩
      · cases hv
    obtain ⟨cs, own, hg, hcv⟩ := hsome
    have hrs : σ.range b o 1 = some [v] := by
      unfold AH.range
      rw [hg]
      have hlt : o < cs.length := (List.getElem?_eq_some_iff.1 hcv).1
      simp only
      rw [if_pos (by omega)]
      congr 1
      apply List.ext_getElem?
      intro i
      cases i with
      | zero => simp [hcv]
      | succ i => simp; omega
    refine ⟨(b, o), ti, rfl, hti, by simp [hg], _, hK, fun σ' K' hr hk => ?_⟩
    rw [if_neg hagg] at hr
    simp only at hr
    unfold loadVc
    simp only [hti, hsh]
    rw [if_neg hagg]
    simp only [atP]
    refine hl σ' _ ?_ hk
    have := cell_range (hr.trans hrs) 0 (by omega)
    simpa using this

theorem mapTys_one {t : TypeId} {X : TypeId → TI → Prop} (h : mapTys C t X) : ∃ k te, X k te ∧ ∀ X', X' k te → mapTys C t X' := by
  unfold mapTys at h
  split at h
  case h_2 => cases h
  rename_i ti hti
  split at h
  case h_2 => cases h
  rename_i k e hd
  split at h
  case h_2 => cases h
  rename_i te hte
  exact ⟨_, _, h, fun X' hx => by unfold mapTys; simp only [hti, hd, hte]; exact hx⟩
theorem keyOk_one {t : TypeId} {k : AV} {X : KC → Prop} (h : keyOk C t k X) : ∃ c, X c ∧ ∀ X', X' c → keyOk C t k X' := by
  unfold keyOk at h
  split at h
  case h_2 => cases h
  rename_i ti hti
  split at h
  · rename_i hd
    exact ⟨_, h, fun X' hx => by unfold keyOk; simp only [hti, hd]; exact hx⟩
  · rename_i hd
    exact ⟨_, h, fun X' hx => by unfold keyOk; simp only [hti, hd]; exact hx⟩
  · rename_i hd
    split at h
    case isFalse => cases h
    rename_i hp
    split at h
    case h_2 => cases h
    rename_i he
    exact ⟨_, h, fun X' hx => by unfold keyOk; simp only [hti, hd, hp, he, if_true]; exact hx⟩
  · cases h
theorem lookupVc_again {t : TypeId} {x k : AV} {ok : Bool} {K : AV → Prop} (h : lookupVc C t x k ok σ K) :
    ((∃ r, x = .map (some r) ∧ (σ.get r).isSome = true) ∨ x = .map none) ∧ ∃ v, K v ∧ ∀ (σ' : AH) K', (∀ r, x = .map (some r) → σ'.get r = σ.get r) → K' v → lookupVc C t x k ok σ' K' := by
  unfold lookupVc at h
  obtain ⟨kt, te, h, hl1⟩ := mapTys_one h
  obtain ⟨c, h, hl2⟩ := keyOk_one h
  split at h
  · exact ⟨.inr rfl, _, h, fun σ' K' _ hk => hl1 _ (hl2 _ hk)⟩
  · rename_i r _ _
    obtain ⟨es, clock, hg, res, hf, h⟩ := h
    refine ⟨.inl ⟨r, rfl, by simp [hg]⟩, ?_⟩
    cases res with
    | none => exact ⟨_, h, fun σ' K' hs hk => hl1 _ (hl2 _ ⟨es, clock, (hs r rfl).trans hg, none, hf, hk⟩)⟩
    | some q => exact ⟨_, h, fun σ' K' hs hk => hl1 _ (hl2 _ ⟨es, clock, (hs r rfl).trans hg, some q, hf, hk⟩)⟩
  · cases h

/-! ### What hangs on nothing -/
theorem pure_again {o : Oper} {K : AV → AH → Prop} (hc : cls C o = .pure) (h : opVc C gl false n o fr σ K) : ∃ v, K v σ ∧ ∀ (σ' : AH) (K' : AV → AH → Prop), K' v σ' → opVc C gl false n o fr σ' K' := by
  have one : ∀ {X : (AV → Prop) → Prop}, One X → (opVc C gl false n o fr σ K = X fun v => K v σ) → (∀ (σ' : AH) (K' : AV → AH → Prop), opVc C gl false n o fr σ' K' = X fun v => K' v σ') → ∃ v, K v σ ∧ ∀ (σ' : AH) (K' : AV → AH → Prop), K' v σ' → opVc C gl false n o fr σ' K' := by
    intro X hX e1 e2
    rw [e1] at h
    obtain ⟨v, hv, hl⟩ := hX _ h
    exact ⟨v, hv, fun σ' K' hk => by rw [e2]; exact hl _ hk⟩
  unfold cls at hc
  split at hc
  · rename_i x e
    exact one (X := fun K => K (ev gl n fr x)) (fun K h => ⟨_, h, fun K' hk => hk⟩) (by unfold opVc; rw [e]) (fun σ' K' => by unfold opVc; rw [e])
  · rename_i x e
    exact one (X := fun K => K (ev gl n fr x)) (fun K h => ⟨_, h, fun K' hk => hk⟩) (by unfold opVc; rw [e]) (fun σ' K' => by unfold opVc; rw [e])
  · rename_i c a b e
    refine one (X := fun K => match (generalizing := false) ev gl n fr c with
      | .bool t => cond t (K (ev gl n fr a)) (K (ev gl n fr b))
      | _ => False) (fun K h => ?_) (by unfold opVc; rw [e]; rfl) (fun σ' K' => by unfold opVc; rw [e]; rfl)
    split at h
    · rename_i t he
      cases t
      · exact ⟨_, h, fun K' hk => by simp only [he]; exact hk⟩
      · exact ⟨_, h, fun K' hk => by simp only [he]; exact hk⟩
    · cases h
  · rename_i t ps e
    exact one (buildVc_one (C := C) t (ps.toList.map fun p => (p.1, ev gl n fr p.2))) (by unfold opVc; rw [e]) (fun σ' K' => by unfold opVc; rw [e])
  · rename_i x e
    refine one (X := fun K => match (generalizing := false) ev gl n fr x with
      | .ptr a => atP a fun b o => K (.ptr (some (b, o)))
      | .func f fs cs => K (.func f fs cs)
      | _ => False) (fun K h => ?_) (by unfold opVc; rw [e]; rfl) (fun σ' K' => by unfold opVc; rw [e]; rfl)
    split at h
    · rename_i a he
      obtain ⟨b, o, rfl, h⟩ := atP_some h
      exact ⟨_, h, fun K' hk => by simp only [he]; exact hk⟩
    · rename_i f fs cs he
      exact ⟨_, h, fun K' hk => by simp only [he]; exact hk⟩
    · cases h
  · rename_i op t x y q e
    exact one (binVc_one (C := C) op t (ev gl n fr x) (ev gl n fr y)) (by unfold opVc; rw [e]) (fun σ' K' => by unfold opVc; rw [e])
  · rename_i op t x e
    exact one (unVc_one op (ev gl n fr x)) (by unfold opVc; rw [e]) (fun σ' K' => by unfold opVc; rw [e])
  · rename_i t x e
    refine one (X := fun K => match (generalizing := false) C.ti t with
      | some ti => (match ti.d with
        | .iface => False
        | .other => False
        | _ => K (.iface t (ev gl n fr x)))
      | none => False) (fun K h => ?_) (by unfold opVc; rw [e]; rfl) (fun σ' K' => by unfold opVc; rw [e]; rfl)
    split at h
    · rename_i ti hti
      split at h
      · cases h
      · cases h
      · rename_i h1 h2
        refine ⟨_, h, fun K' hk => ?_⟩
        simp only [hti]
        exact hk
    · cases h
  · rename_i fn first cap e
    refine one (X := fun K => match (generalizing := false) fn with
      | .func f => K (.func f (first.toList.map (ev gl n fr)) (cap.toList.map (ev gl n fr)))
      | _ => False) (fun K h => ?_) (by unfold opVc; rw [e]; rfl) (fun σ' K' => by unfold opVc; rw [e]; rfl)
    split at h
    · exact ⟨_, h, fun K' hk => hk⟩
    · cases h
  · rename_i t x lo hi mx e
    exact one (sliceVc_one (C := C) t (ev gl n fr x) (optE gl n fr lo) (optE gl n fr hi) (optE gl n fr mx) σ) (by unfold opVc; rw [e]) (fun σ' K' => by unfold opVc; rw [e]; exact sliceVc_still _ _ _ _ _ _ _ _)
  · rename_i t x f e
    exact one (fieldAddrVc_one (C := C) t (ev gl n fr x) f) (by unfold opVc; rw [e]) (fun σ' K' => by unfold opVc; rw [e])
  · rename_i t x f e
    exact one (fieldVc_one (C := C) t (ev gl n fr x) f) (by unfold opVc; rw [e]) (fun σ' K' => by unfold opVc; rw [e])
  · rename_i t x i e
    exact one (indexAddrVc_one (C := C) t (ev gl n fr x) (ev gl n fr i)) (by unfold opVc; rw [e]) (fun σ' K' => by unfold opVc; rw [e])
  · rename_i t x i e
    exact one (indexVc_one (C := C) t (ev gl n fr x) (ev gl n fr i)) (by unfold opVc; rw [e]) (fun σ' K' => by unfold opVc; rw [e])
  · rename_i t i e
    refine one (X := fun K => match (generalizing := false) ev gl n fr t with
      | .tuple vs => (match vs[i]? with
        | some v => K v
        | none => False)
      | _ => False) (fun K h => ?_) (by unfold opVc; rw [e]; rfl) (fun σ' K' => by unfold opVc; rw [e]; rfl)
    split at h
    · rename_i vs he
      split at h
      · rename_i v hv
        exact ⟨_, h, fun K' hk => by simp only [he, hv]; exact hk⟩
      · cases h
    · cases h
  · rename_i s d x e
    split at hc
    case h_2 => cases hc
    rename_i td htd
    split at hc
    case isFalse => cases hc
    rename_i hi
    obtain ⟨k, hk⟩ : ∃ k, td.d = .int k := by
      revert hi
      cases td.d <;> simp [TD.isInt]
    unfold opVc at h
    rw [e] at h
    simp only [convVc, htd, hk] at h
    split at h
    case h_2 => cases h
    rename_i ts td' hts e1
    cases e1
    simp only [hk] at h
    split at h
    · rename_i e1 hx
      cases e1
      refine ⟨_, h, fun σ' K' hk' => ?_⟩
      unfold opVc
      rw [e]
      simp only [convVc, hts, htd, hk, hx]
      exact hk'
    all_goals first
      | cases h
      | (rename_i e1 _; cases e1)
  · rename_i c e
    split at hc
    · rename_i hb
      split at hc
      case h_2 => cases hc
      rename_i t ts hts
      split at hc
      case h_2 => cases hc
      rename_i ti hti
      unfold opVc at h
      rw [e] at h
      simp only [callVc, hb, hts] at h
      split at h
      case h_2 => cases h
      rename_i t' q x xs e1 hxs
      cases e1
      have go : ∀ (σ' : AH) (K' : AV → AH → Prop), lenVc C t (ev gl n fr x) σ' (fun v => K' v σ') → opVc C gl false n o fr σ' K' := fun σ' K' hk => by
        unfold opVc
        rw [e]
        simp only [callVc, hb, hts, hxs]
        exact hk
      unfold lenVc at h go
      simp only [hti] at h go
      split at hc
      · rename_i hd
        simp only [hd] at h go
        split at h
        all_goals first
          | (rename_i e1; cases e1; done)
          | (rename_i e1 hx; cases e1; exact ⟨_, h, fun σ' K' hk => go σ' K' (by simp only [hx]; exact hk)⟩)
          | (cases h; done)
          | (rename_i e1 _; cases e1; done)
          | (rename_i e1; cases e1; done)
      · rename_i hd
        simp only [hd] at h go
        split at h
        all_goals first
          | (rename_i e1; cases e1; done)
          | (rename_i e1 hx; cases e1; exact ⟨_, h, fun σ' K' hk => go σ' K' (by simp only [hx]; exact hk)⟩)
          | (cases h; done)
          | (rename_i e1 _; cases e1; done)
          | (rename_i e1; cases e1; done)
      · cases hc
    · rename_i hb
      have go : ∀ (σ' : AH) (K' : AV → AH → Prop), opVc C gl false n o fr σ' K' = match c.args.toList.map (ev gl n fr) with
          | .int k a :: r => maxVc max2 k a r fun v => K' v σ'
          | _ => False := fun σ' K' => by unfold opVc; rw [e]; simp only [callVc, hb]; rfl
      rw [go] at h
      split at h
      case h_2 => cases h
      rename_i k a r hl
      obtain ⟨v, hv, hl'⟩ := maxVc_one _ _ _ _ _ h
      exact ⟨v, hv, fun σ' K' hk => by rw [go]; simp only [hl]; exact hl' _ hk⟩
    · rename_i hb
      have go : ∀ (σ' : AH) (K' : AV → AH → Prop), opVc C gl false n o fr σ' K' = match c.args.toList.map (ev gl n fr) with
          | .int k a :: r => maxVc min2 k a r fun v => K' v σ'
          | _ => False := fun σ' K' => by unfold opVc; rw [e]; simp only [callVc, hb]; rfl
      rw [go] at h
      split at h
      case h_2 => cases h
      rename_i k a r hl
      obtain ⟨v, hv, hl'⟩ := maxVc_one _ _ _ _ _ h
      exact ⟨v, hv, fun σ' K' hk => by rw [go]; simp only [hl]; exact hl' _ hk⟩
    · cases hc
  all_goals cases hc

/-! ### New blocks -/
/-- What a new block's operation does in the world. -/
def NewRun (C : Cx) (gl : List Nat) (n : Nat) (o : Oper) (fr : Fr) (v : Nat → AV) (vs : List AV) (sz : Nat) : Prop :=
  leaves vs = true ∧ ∀ (ι : IM) (ρ : Operand → Value) (w : World), Ops ι gl n fr ρ o.op.operands.toList →
    ∃ us e v', VRelL ι vs us ∧ (execOp ρ o).run C.P w = .ok (.value v') (w.alloc (.cells (List.toArray us) e)) ∧
      ∀ (ι' : IM) b, ι' b = some ⟨w.heap.size, 0, us.length, sz⟩ → VRel ι' (v b) v'
theorem new_again {o : Oper} {K : AV → AH → Prop} (hc : cls C o = .new) (h : opVc C gl false n o fr σ K) :
    ∃ v vs sz, K (v σ.next) (σ.alloc (.cells vs (.exact sz))) ∧ NewRun C gl n o fr v vs sz := by
  have hnew : ∀ {vs : List AV}, newVc vs σ K → K (.ptr (some (σ.next, 0))) (σ.alloc (.cells vs (.exact 1))) ∧ leaves vs = true := by
    intro vs h
    unfold newVc at h
    split at h
    · exact ⟨h, by assumption⟩
    · cases h
  have hptr : ∀ (ι' : IM) (b s l : Nat), ι' b = some ⟨s, 0, l, 1⟩ → VRel ι' (.ptr (some (b, 0))) (.pointer (some ⟨s, 0, none⟩)) := by
    intro ι' b s l h
    simp only [VRel]
    exact ⟨_, h, by simp⟩
  unfold cls at hc
  split at hc
  case h_16 =>
    repeat' split at hc
    all_goals cases hc
  case h_17 =>
    repeat' split at hc
    all_goals cases hc
  case h_20 =>
    rename_i t e
    unfold opVc at h
    rw [e] at h
    simp only at h
    split at h
    case h_2 => cases h
    rename_i ti hti
    obtain ⟨hK, hl⟩ := hnew h
    refine ⟨fun b => .ptr (some (b, 0)), _, 1, hK, hl, fun ι ρ w _ => ?_⟩
    obtain ⟨z, hz, hzs, _⟩ := C.zero hti
    refine ⟨z.cells.toList, t, .pointer (some ⟨w.heap.size, 0, none⟩), hzs ▸ ofVs_rel ι z.cells.toList, ?_, fun ι' b hb => hptr _ _ _ _ hb⟩
    unfold execOp
    rw [e]
    simp only [Instr.alloc, newVar, Sem.run_bind, hz, Result.andThen_ok, newRow_run, Sem.run_pure, Array.toArray_toList]
  case h_21 =>
    rename_i t x e
    unfold opVc at h
    rw [e] at h
    simp only at h
    obtain ⟨hK, hl⟩ := hnew h
    refine ⟨fun b => .ptr (some (b, 0)), _, 1, hK, hl, fun ι ρ w hops => ?_⟩
    have hx := hops x (by simp [e, Op.operands])
    refine ⟨(ρ x).cells.toList, t, .pointer (some ⟨w.heap.size, 0, none⟩), ?_, ?_, fun ι' b hb => hptr _ _ _ _ hb⟩
    · exact cells_rel hx hl
    · unfold execOp
      rw [e]
      simp only [Instr.box, newVar, Sem.run_bind, Result.andThen_ok, newRow_run, Sem.run_pure, Array.toArray_toList]
  case h_22 =>
    rename_i t len ps e
    unfold opVc at h
    rw [e] at h
    simp only at h
    unfold buildSliceVc at h
    split at h
    case h_2 => cases h
    rename_i ti hti
    obtain ⟨d, hd, htd, hdP⟩ := C.und hti
    split at h
    case h_2 => cases h
    rename_i el he
    obtain rfl := td_slice (htd.trans he)
    split at h
    case h_2 => cases h
    rename_i x hx
    obtain ⟨z, hz, hzs, hzl, _⟩ := C.zero hx
    have hzl' : x.zero.length = x.size := by rw [← hzs, ofVs_length, Array.length_toList, hzl]
    split at h
    case isFalse => cases h
    rename_i hlim
    split at h
    case h_2 => cases h
    rename_i cs hfill
    split at h
    case isFalse => cases h
    rename_i hl
    refine ⟨fun b => .slice (some (b, 0)) len (.k len), cs, x.size, h, hl, fun ι ρ w hops => ?_⟩
    have hp := ops_parts' (ι := ι) (gl := gl) (n := n) (fr := fr) (ρ := ρ) (ps := ps) fun y hy => hops y (by rw [e]; simpa [Op.operands] using hy)
    have hzr : VRelL ι x.zero z.cells.toList := hzs ▸ ofVs_rel ι z.cells.toList
    obtain ⟨zz, hzz, hzzr⟩ : ∃ zz : Array Value, ((len * x.size = 0 ∧ zz = #[]) ∨ (len * x.size ≠ 0 ∧ zz = z.cells)) ∧
        VRelL ι (repL x.zero len) ((Array.range (len * x.size)).map (zz[· % zz.size]!)).toList := by
      by_cases h0 : len * x.size = 0
      · refine ⟨#[], .inl ⟨h0, rfl⟩, ?_⟩
        have : repL x.zero len = [] := List.length_eq_zero_iff.1 (by rw [repL_length, hzl', h0])
        rw [this, h0]; simp [VRelL]
      · refine ⟨z.cells, .inr ⟨h0, rfl⟩, ?_⟩
        exact rep_rel hzr len _ (by rw [hzl'])
    obtain ⟨out', h1, h2⟩ := fill_sound (place' := fun i => some (i * x.size, x.size)) (fun i x hx => hx) hfill hp hzzr
    refine ⟨out'.toList, el, .slice (some ⟨w.heap.size, 0, none⟩) len len, h2, ?_, fun ι' b hb => ?_⟩
    · unfold execOp
      rw [e]
      simp only [Instr.buildSlice, Sem.run_bind, hd, Result.andThen_ok, C.size hx]
      rw [if_neg (by omega)]
      rcases hzz with ⟨h0, rfl⟩ | ⟨h0, rfl⟩
      · simp only [h0, if_true, Sem.run_bind, Sem.run_pure, Result.andThen_ok]
        rw [h0] at h1
        simp only [h1, Sem.run_bind, Sem.run_pure, Result.andThen_ok, newRow_run, Array.toArray_toList]
      · simp only [h0, if_false, Sem.run_bind, Sem.run_pure, Result.andThen_ok, hz, h1, newRow_run, Array.toArray_toList]
    · simp only [VRel]
      exact ⟨_, _, len, hb, rfl, Nat.le_refl _, fun _ => by simp, rfl⟩
  all_goals cases hc

/-! ### A light operation, later -/
/-- Wherever what it hangs on is as it was, the operation yields what it yields. -/
def Late (C : Cx) (gl : List Nat) (n : Nat) (o : Oper) (fr : Fr) (v : AV) (B : Option Nat) (S : AH → Prop) : Prop :=
  ∀ (G : Base) (σ : AH) (ι : IM) (w : World) (ρ : Operand → Value), S σ → Rel G ι σ w → Globs ι gl → (∀ b, B = some b → ι b = none) → Ops ι gl n fr ρ o.op.operands.toList →
    OpRun C.P o ρ w fun v' w' => ∃ ι', Rel G ι' σ w' ∧ ι.le ι' ∧ (∀ b, B ≠ some b → ι' b = ι b) ∧ VRel ι' v v'
def Foot.wf (σ : AH) : Foot → Prop
  | .none => True
  | .rng a _ => atP a fun b _ => b < σ.next
  | .blk b => b < σ.next
theorem late_of_op {o : Oper} {v : AV} {S : AH → Prop} (h : ∀ σ', S σ' → opVc C gl false n o fr σ' fun v' σ'' => v' = v ∧ σ'' = σ') : Late C gl n o fr v none S := by
  intro G σ ι w ρ hS hr hgl _ hops
  refine (opVc_sound hr hgl hops (h σ hS)).mono fun v' w' ⟨v1, σ1, ι1, h1, h2, _, h3, h4, h5⟩ => ?_
  subst h4 h5
  have hι : ∀ b, ι1 b = ι b := fun b => by
    rcases Nat.lt_or_ge b σ1.next with hb | hb
    · exact h2 b hb
    · rw [(h1.fresh b hb).1, (hr.fresh b hb).1]
  exact ⟨ι1, h1, fun b p hp => by rw [hι]; exact hp, fun b _ => hι b, h3⟩
theorem late_of_new {o : Oper} {v : Nat → AV} {vs : List AV} {sz : Nat} (b : Nat) (h : NewRun C gl n o fr v vs sz) : Late C gl n o fr (v b) (some b) fun σ' => σ'.get b = some (.cells vs (.exact sz)) := by
  obtain ⟨hl, h⟩ := h
  intro G σ ι w ρ hS hr hgl hb hops
  obtain ⟨us, e, v', h1, h2, h3⟩ := h ι ρ w hops
  have hι := hb b rfl
  have hle := IM.le_put ι ⟨w.heap.size, 0, us.length, sz⟩ hι
  have hpl := hr.place hι hS (.cells us.toArray e) ⟨w.heap.size, 0, us.length, sz⟩ rfl (by
    refine ⟨us.toArray, e, (0, 0), alloc_new w _, ?_, ?_, by simp, ?_, fun _ j _ hj => by simp, fun h => ?_, fun s hs => by cases hs; rfl⟩
    · simp only [List.drop_zero]
      rw [← h1.length, List.take_length]
      exact VRelL.mono hle _ _ h1
    · rw [← h1.length]; exact Nat.le_refl _
    · intro u hm
      simp only [List.drop_zero] at hm
      exact h1.one hl u (List.mem_of_mem_take hm)
    · rw [← h1.length])
  unfold OpRun
  rw [h2]
  exact ⟨_, hpl, hle, fun b' hb' => IM.put_ne _ _ (fun e => hb' (by rw [e])), h3 _ _ (IM.put_self _ _ _)⟩
theorem light_step {o : Oper} {K : AV → AH → Prop} (hc : cls C o ≠ .heavy) (h : opVc C gl false n o fr σ K) (hf : ∀ b, σ.next ≤ b → σ.get b = none) :
    ∃ v σ' B, K v σ' ∧ ((σ' = σ ∧ B = none) ∨ ∃ k, σ' = σ.alloc k ∧ B = some σ.next) ∧ Foot.wf σ' (footOf C gl n o fr σ) ∧ (cls C o = .pure → footOf C gl n o fr σ = .none) ∧
      Late C gl n o fr v B fun σ2 => Foot.same σ' σ2 (footOf C gl n o fr σ) := by
  cases hcl : cls C o with
  | heavy => exact absurd hcl hc
  | pure =>
    have hfoot : footOf C gl n o fr σ = .none := by
      unfold footOf
      split <;> first
        | rfl
        | (rename_i e; unfold cls at hcl; rw [e] at hcl; cases hcl)
    obtain ⟨v, hK, hl⟩ := pure_again hcl h
    refine ⟨v, σ, none, hK, .inl ⟨rfl, rfl⟩, by rw [hfoot]; trivial, fun _ => hfoot, late_of_op fun σ' _ => hl _ _ ⟨rfl, rfl⟩⟩
  | new =>
    obtain ⟨v, vs, sz, hK, hrun⟩ := new_again hcl h
    have hfoot : footOf C gl n o fr σ = .blk σ.next := by
      unfold cls at hcl
      unfold footOf
      split at hcl
      case h_16 => repeat' split at hcl
                   all_goals cases hcl
      case h_17 => repeat' split at hcl
                   all_goals cases hcl
      all_goals first
        | cases hcl; done
        | (rename_i e; rw [e])
    refine ⟨v σ.next, _, some σ.next, hK, .inr ⟨_, rfl, rfl⟩, (by rw [hfoot]; simp [Foot.wf]), (fun h => by cases h), fun G σ2 ι w ρ hS => late_of_new σ.next hrun G σ2 ι w ρ ?_⟩
    rw [hfoot] at hS
    simp only [Foot.same, AH.alloc_get, if_true] at hS
    exact hS
  | load =>
    have hcase : (∃ t a, o.op = .load t a) ∨ ∃ t x k ok, o.op = .lookup t x k ok := by
      unfold cls at hcl
      split at hcl
      case h_16 => repeat' split at hcl
                   all_goals cases hcl
      case h_17 => repeat' split at hcl
                   all_goals cases hcl
      case h_18 => rename_i e; exact .inl ⟨_, _, e⟩
      case h_19 => rename_i e; exact .inr ⟨_, _, _, _, e⟩
      all_goals cases hcl
    rcases hcase with ⟨t, a, e⟩ | ⟨t, x, k, ok, e⟩
    · unfold opVc at h
      rw [e] at h
      simp only at h
      obtain ⟨p, ti, hx, hti, hs, v, hK, hl⟩ := loadVc_again h
      have hfoot : footOf C gl n o fr σ = .rng (some p) (if ti.d.isAgg then ti.size else 1) := by
        unfold footOf; rw [e]; simp only [hx, hti]
      rw [hfoot]
      refine ⟨v, σ, none, hK, .inl ⟨rfl, rfl⟩, ?_, (fun h => by cases h), late_of_op fun σ' hS => ?_⟩
      · simp only [Foot.wf, atP]
        rcases Nat.lt_or_ge p.1 σ.next with hb | hb
        · exact hb
        · rw [hf _ hb] at hs; cases hs
      · unfold opVc
        rw [e]
        exact hl σ' _ hS ⟨rfl, rfl⟩
    · unfold opVc at h
      rw [e] at h
      simp only at h
      obtain ⟨hx, v, hK, hl⟩ := lookupVc_again h
      rcases hx with ⟨r, hx, hs⟩ | hx
      · have hfoot : footOf C gl n o fr σ = .blk r := by
          unfold footOf; rw [e]; simp only [hx]
        rw [hfoot]
        refine ⟨v, σ, none, hK, .inl ⟨rfl, rfl⟩, ?_, (fun h => by cases h), late_of_op fun σ' hS => ?_⟩
        · simp only [Foot.wf]
          rcases Nat.lt_or_ge r σ.next with hb | hb
          · exact hb
          · rw [hf _ hb] at hs; cases hs
        · unfold opVc
          rw [e]
          exact hl σ' _ (fun r' hr' => by rw [hx] at hr'; cases hr'; exact hS) ⟨rfl, rfl⟩
      · have hfoot : footOf C gl n o fr σ = .none := by
          unfold footOf; rw [e]; simp only [hx]
        rw [hfoot]
        refine ⟨v, σ, none, hK, .inl ⟨rfl, rfl⟩, trivial, (fun h => by cases h), late_of_op fun σ' hS => ?_⟩
        unfold opVc
        rw [e]
        exact hl σ' _ (fun r' hr' => by rw [hx] at hr'; cases hr') ⟨rfl, rfl⟩
end
end Go.Proofs.YthpngchngnaloaaGreatDoor.Vm
