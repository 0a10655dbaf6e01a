/- What is light has one outcome, and has it again later. -/
import Derived.Test.YthpngchngnaloaaGreatDoorVmS12
namespace Go.Proofs.YthpngchngnaloaaGreatDoor.Vm
open RowKit (Below)
section
variable {C : Cx}

/-- One thing is handed on. -/
def One {α : Type} (X : (α → Prop) → Prop) : Prop := ∀ K, X K → ∃ v, K v ∧ ∀ K', K' v → X K'

theorem eqVc_one (t : TypeId) (x y : AV) : One (eqVc C t x y) := by
  intro K h
  unfold eqVc at h
  split at h
  case h_2 => cases h
  rename_i ti hti
  split at h
  case h_10 =>
    split at h
    case isFalse => cases h
    rename_i hd hp
    split at h
    case h_2 => cases h
    rename_i r hr
    refine ⟨_, h, fun K' hk => ?_⟩
    unfold eqVc
    simp only [hti, hd, hp, hr, if_true]
    exact hk
  case h_11 => cases h
  all_goals
    rename_i hd
    refine ⟨_, h, fun K' hk => ?_⟩
    unfold eqVc
    simp only [hti, hd]
    exact hk
theorem intVc_one (op : BinOp) (k : IntKind) (a b : Int) : One (intVc op k a b) := by
  intro K h
  cases op <;> simp only [intVc] at h <;> (try cases h; done) <;> (try split at h) <;> first
    | exact ⟨_, h, fun K' hk => hk⟩
    | cases h
    | (rename_i h0; exact ⟨_, h, fun K' hk => by simp only [intVc]; rw [if_neg h0]; exact hk⟩)
theorem strVc_one (op : BinOp) (a b : List UInt8) : One (strVc op a b) := by
  intro K h
  cases op <;> simp only [strVc] at h <;> first
    | exact ⟨_, h, fun K' hk => hk⟩
    | exact ⟨_, h.2, fun K' hk => ⟨h.1, hk⟩⟩
theorem binVc_one (op : BinOp) (t : TypeId) (x y : AV) : One (binVc C op t x y) := by
  intro K h
  unfold binVc at h
  split at h
  · split at h
    · cases h
    rename_i h0
    refine ⟨_, h, fun K' hk => ?_⟩
    simp only [binVc]; rw [if_neg h0]; exact hk
  · split at h
    · cases h
    rename_i h0
    refine ⟨_, h, fun K' hk => ?_⟩
    simp only [binVc]; rw [if_neg h0]; exact hk
  · rename_i k a k' b h1 h2
    split at h
    case isFalse => cases h
    rename_i h0
    obtain ⟨v, hv, hl⟩ := intVc_one _ _ _ _ K h
    refine ⟨v, hv, fun K' hk => ?_⟩
    unfold binVc
    split
    all_goals first
      | (exfalso; simp_all; done)
      | (rename_i e1 e2; cases e1; cases e2; rw [if_pos h0]; exact hl K' hk)
      | (rw [if_pos h0]; exact hl K' hk)
      | (rename_i e1 e2 e3 e4; exact (e1 _ _ _ _ rfl rfl).elim)
  · obtain ⟨v, hv, hl⟩ := strVc_one _ _ _ K h
    refine ⟨v, hv, fun K' hk => ?_⟩
    simp only [binVc]; exact hl K' hk
  · rename_i h1 h2
    obtain ⟨v, hv, hl⟩ := eqVc_one _ _ _ _ h
    refine ⟨_, hv, fun K' hk => ?_⟩
    unfold binVc
    split
    all_goals first
      | exact hl _ hk
      | exact (h1 _ _ _ _ rfl rfl).elim
      | exact (h2 _ _ rfl rfl).elim
      | (exfalso; simp_all; done)
  · rename_i h1 h2
    obtain ⟨v, hv, hl⟩ := eqVc_one _ _ _ _ h
    refine ⟨_, hv, fun K' hk => ?_⟩
    unfold binVc
    split
    all_goals first
      | exact hl _ hk
      | exact (h1 _ _ _ _ rfl rfl).elim
      | exact (h2 _ _ rfl rfl).elim
      | (exfalso; simp_all; done)
  · cases h
theorem unVc_one (op : UnOp) (x : AV) : One (unVc op x) := by
  intro K h
  unfold unVc at h
  split at h <;> first
    | exact ⟨_, h, fun K' hk => hk⟩
    | cases h
theorem partVc_one (t : TypeId) (cs : List AV) (off : Nat) : One (partVc C t cs off) := by
  intro K h
  unfold partVc at h
  split at h
  case h_2 => cases h
  rename_i ti hti
  split at h
  · rename_i h0
    exact ⟨_, h, fun K' hk => by unfold partVc; simp only [hti]; rw [if_pos h0]; exact hk⟩
  · rename_i h0
    split at h
    case h_2 => cases h
    rename_i v hv
    exact ⟨_, h, fun K' hk => by unfold partVc; simp only [hti]; rw [if_neg h0]; simp only [hv]; exact hk⟩
theorem buildVc_one (t : TypeId) (ps : List (Nat × AV)) : One (buildVc C t ps) := by
  intro K h
  unfold buildVc at h
  split at h
  case h_2 => cases h
  rename_i ti hti
  split at h
  · rename_i fs hd
    split at h
    case isFalse => cases h
    rename_i h0
    split at h
    case h_2 => cases h
    rename_i cs hcs
    exact ⟨_, h, fun K' hk => by unfold buildVc; simp only [hti, hd]; rw [if_pos h0]; simp only [hcs]; exact hk⟩
  · rename_i m e hd
    split at h
    case h_2 => cases h
    rename_i x hx
    split at h
    case h_2 => cases h
    rename_i cs hcs
    exact ⟨_, h, fun K' hk => by unfold buildVc; simp only [hti, hd, hx, hcs]; exact hk⟩
  · cases h
theorem fieldVc_one (t : TypeId) (x : AV) (f : Nat) : One (fieldVc C t x f) := by
  intro K h
  unfold fieldVc at h
  split at h
  case h_2 => cases h
  rename_i ti cs hti
  split at h
  case h_2 => cases h
  rename_i fs hd
  split at h
  case h_2 => cases h
  rename_i off ft hf
  obtain ⟨v, hv, hl⟩ := partVc_one _ _ _ K h
  exact ⟨v, hv, fun K' hk => by unfold fieldVc; simp only [hti, hd, hf]; exact hl K' hk⟩
theorem fieldAddrVc_one (t : TypeId) (x : AV) (f : Nat) : One (fieldAddrVc C t x f) := by
  intro K h
  unfold fieldAddrVc at h
  split at h
  case h_2 => cases h
  rename_i ti a hti
  split at h
  case h_2 => cases h
  rename_i fs hd
  split at h
  case h_2 => cases h
  rename_i off ft hf
  split at h
  case h_2 => cases h
  rename_i x hx
  split at h
  · cases h
  rename_i h0
  obtain ⟨b, o, rfl, h⟩ := atP_some h
  exact ⟨_, h, fun K' hk => by unfold fieldAddrVc; simp only [hti, hd, hf, hx]; rw [if_neg h0]; exact hk⟩
theorem indexAddrVc_one (t : TypeId) (x i : AV) : One (indexAddrVc C t x i) := by
  intro K h
  unfold indexAddrVc at h
  split at h
  case h_2 => cases h
  rename_i ti ki i hti
  split at h
  · rename_i m e a hd
    split at h
    case h_2 => cases h
    rename_i y hy
    obtain ⟨h1, h2, h⟩ := h
    obtain ⟨b, o, rfl, h⟩ := atP_some h
    exact ⟨_, h, fun K' hk => by unfold indexAddrVc; simp only [hti, hd, hy]; exact ⟨h1, h2, hk⟩⟩
  · rename_i e a m c hd
    split at h
    case h_2 => cases h
    rename_i y hy
    obtain ⟨h1, h2, h⟩ := h
    obtain ⟨b, o, rfl, h⟩ := atP_some h
    exact ⟨_, h, fun K' hk => by unfold indexAddrVc; simp only [hti, hd, hy]; exact ⟨h1, h2, hk⟩⟩
  · cases h
theorem indexVc_one (t : TypeId) (x i : AV) : One (indexVc C t x i) := by
  intro K h
  unfold indexVc at h
  split at h
  case h_2 => cases h
  rename_i ti ki i hti
  split at h
  · rename_i m e a hd
    split at h
    case h_2 => cases h
    rename_i y hy
    obtain ⟨h1, h2, h⟩ := h
    obtain ⟨v, hv, hl⟩ := partVc_one _ _ _ K h
    exact ⟨v, hv, fun K' hk => by unfold indexVc; simp only [hti, hd, hy]; exact ⟨h1, h2, hl K' hk⟩⟩
  · rename_i s hd
    obtain ⟨h1, c, h2, h⟩ := h
    exact ⟨_, h, fun K' hk => by unfold indexVc; simp only [hti, hd]; exact ⟨h1, c, h2, hk⟩⟩
  · cases h
theorem boundVc_one (x : Option AV) (d m : Nat) : One (boundVc x d m) := by
  intro K h
  unfold boundVc at h
  split at h
  · exact ⟨_, h, fun K' hk => hk⟩
  · exact ⟨_, h.2.2, fun K' hk => ⟨h.1, h.2.1, hk⟩⟩
  · cases h
theorem One.bind {α β : Type} {X : (α → Prop) → Prop} {Y : α → (β → Prop) → Prop} (hx : One X) (hy : ∀ a, One (Y a)) : One fun K => X fun a => Y a K := by
  intro K h
  obtain ⟨v, hv, hl⟩ := hx _ h
  obtain ⟨u, hu, hl'⟩ := hy v K hv
  exact ⟨u, hu, fun K' hk => hl _ (hl' K' hk)⟩
theorem One.pure {α β : Type} (f : α → β) {X : (α → Prop) → Prop} (hx : One X) : One fun K => X fun a => K (f a) := by
  intro K h
  obtain ⟨v, hv, hl⟩ := hx _ h
  exact ⟨_, hv, fun K' hk => hl _ hk⟩
theorem sliceVc_one (t : TypeId) (x : AV) (lo hi mx : Option AV) (σ : AH) : One (sliceVc C false t x lo hi mx σ) := by
  intro K h
  unfold sliceVc at h
  split at h
  case h_2 => cases h
  rename_i ti hti
  split at h
  · rename_i s hd
    split at h
    case h_2 => cases h
    obtain ⟨v, hv, hl⟩ := (One.bind (boundVc_one hi s.length s.length) fun h => One.pure (fun l => AV.str ((s.take h).drop l)) (boundVc_one lo 0 h)) K h
    exact ⟨v, hv, fun K' hk => by unfold sliceVc; simp only [hti, hd]; exact hl K' hk⟩
  · rename_i e a m c hd
    split at h
    case h_2 => cases h
    rename_i y hy
    split at h
    · cases h
    rename_i h0
    split at h
    · rename_i mm
      split at h
      case isFalse => cases h
      rename_i h1
      obtain ⟨v, hv, hl⟩ := (One.bind (boundVc_one (some mm) m (roomOf false σ a m c)) fun q => One.bind (boundVc_one hi m q) fun h => One.pure (fun l => AV.slice (shA a (l * y.size)) (h - l) (.k (q - l))) (boundVc_one lo 0 h)) K h
      exact ⟨v, hv, fun K' hk => by unfold sliceVc; simp only [hti, hd, hy]; rw [if_neg h0, if_pos h1]; exact hl K' hk⟩
    · cases lo with
      | none =>
        obtain ⟨v, hv, hl⟩ := One.pure (fun h => AV.slice a h c) (boundVc_one hi m (roomOf false σ a m c)) K h
        exact ⟨v, hv, fun K' hk => by unfold sliceVc; simp only [hti, hd, hy]; rw [if_neg h0]; exact hl K' hk⟩
      | some lo =>
        obtain ⟨v, hv, hl⟩ := (One.bind (boundVc_one hi m (roomOf false σ a m c)) fun h => One.pure (fun l => AV.slice (shA a (l * y.size)) (h - l) (shC c l)) (boundVc_one (some lo) 0 h)) K h
        exact ⟨v, hv, fun K' hk => by unfold sliceVc; simp only [hti, hd, hy]; rw [if_neg h0]; exact hl K' hk⟩
  · rename_i m e a hd
    split at h
    case h_2 => cases h
    rename_i y hy
    split at h
    · cases h
    rename_i h0
    obtain ⟨b, o, rfl, h⟩ := atP_some h
    obtain ⟨v, hv, hl⟩ := (One.bind (boundVc_one hi m m) fun h => One.pure (fun l => AV.slice (some (b, o + l * y.size)) (h - l) (.k (m - l))) (boundVc_one lo 0 h)) K h
    exact ⟨v, hv, fun K' hk => by unfold sliceVc; simp only [hti, hd, hy]; rw [if_neg h0]; exact hl K' hk⟩
  · cases h
theorem sliceVc_still (t : TypeId) (x : AV) (lo hi mx : Option AV) (σ σ' : AH) (K : AV → Prop) : sliceVc C false t x lo hi mx σ K = sliceVc C false t x lo hi mx σ' K := rfl
theorem maxVc_one (f : Int → Int → Int) (k : IntKind) : ∀ (xs : List AV) (a : Int), One (maxVc f k a xs)
  | [], a => fun K h => ⟨_, h, fun K' hk => hk⟩
  | .int _ b :: r, a => fun K h => maxVc_one f k r (f a b) K h
  | .any :: _, _ | .bool _ :: _, _ | .str _ :: _, _ | .ptr _ :: _, _ | .slice .. :: _, _ | .map _ :: _, _ | .func .. :: _, _ | .nilFunc :: _, _ | .iface .. :: _, _ | .nilIface :: _, _ | .agg _ :: _, _ | .tuple _ :: _, _ | .yield _ :: _, _ => fun K h => by cases h

/-! ### Loads -/
theorem ldK_again {σ : AH} {b o : Nat} {K : AV → Prop} {s : Sh} (h : ldK σ b o K s) : ∃ v, σ.cell b o = some v ∧ K v ∧ ∀ (σ' : AH) K', σ'.cell b o = some v → K' v → ldK σ' b o K' s := by
  cases s <;> simp only [ldK] at h ⊢
  · obtain ⟨n, h1, h⟩ := h; exact ⟨_, h1, h, fun σ' K' h2 hk => ⟨n, h2, hk⟩⟩
  · obtain ⟨n, h1, h⟩ := h; exact ⟨_, h1, h, fun σ' K' h2 hk => ⟨n, h2, hk⟩⟩
  · obtain ⟨n, h1, h⟩ := h; exact ⟨_, h1, h, fun σ' K' h2 hk => ⟨n, h2, hk⟩⟩
  · obtain ⟨n, h1, h⟩ := h; exact ⟨_, h1, h, fun σ' K' h2 hk => ⟨n, h2, hk⟩⟩
  · obtain ⟨a, n, c, h1, h⟩ := h; exact ⟨_, h1, h, fun σ' K' h2 hk => ⟨a, n, c, h2, hk⟩⟩
  · obtain ⟨n, h1, h⟩ := h; exact ⟨_, h1, h, fun σ' K' h2 hk => ⟨n, h2, hk⟩⟩
  · obtain ⟨v, h1, h⟩ := h; exact ⟨_, h1, h, fun σ' K' h2 hk => ⟨v, h2, hk⟩⟩
theorem ldsK_again {σ : AH} {b : Nat} : ∀ {ss : List Sh} {o : Nat} {K : List AV → Prop}, ldsK σ b o ss K → ∃ vs, K vs ∧ ∀ (σ' : AH) K', (∀ i, i < ss.length → σ'.cell b (o + i) = σ.cell b (o + i)) → K' vs → ldsK σ' b o ss K'
  | [], o, K, h => ⟨[], h, fun σ' K' _ hk => hk⟩
  | s :: ss, o, K, h => by
    simp only [ldsK] at h
    obtain ⟨v, hv, hK, hl⟩ := ldK_again h
    obtain ⟨vs, hvs, hl'⟩ := ldsK_again hK
    refine ⟨v :: vs, hvs, fun σ' K' hc hk => ?_⟩
    simp only [ldsK]
    refine hl σ' _ ((hc 0 (by simp)).trans hv) (hl' σ' _ (fun i hi => ?_) hk)
    have := hc (i + 1) (by simpa using hi)
    rwa [show o + (i + 1) = o + 1 + i from by omega] at this
end
end Go.Proofs.YthpngchngnaloaaGreatDoor.Vm
