/- The operations of the model do what the abstract machine asks: slices, append, copy. -/
import Derived.Test.YthpngchngnaloaaGreatDoorVmS2
import Derived.Lib.Strings
namespace Go.Proofs.YthpngchngnaloaaGreatDoor.Vm
open RowKit (Below)

section
variable {C : Cx} {G : Base} {ι : IM} {σ : AH} {w : World}

theorem boundVc_some {x : AV} {d most : Nat} {K : Nat → Prop} (h : boundVc (some x) d most K) : ∃ k i, x = .int k i ∧ 0 ≤ i ∧ i ≤ (most : Int) ∧ K i.toNat := by
  unfold boundVc at h
  split at h
  · rename_i e; cases e
  · rename_i k i e; cases e; exact ⟨k, i, rfl, h.1, h.2.1, h.2.2⟩
  · cases h

/-- Optional values. -/
def ORel (ι : IM) : Option AV → Option Value → Prop
  | none, none => True
  | some a, some v => VRel ι a v
  | _, _ => False

theorem run_sliceBound {P : Program} {k : IntKind} {i : Int} {y : Nat} {code : BoundsCode} (w : World) (h0 : 0 ≤ i) (h1 : i ≤ (y : Int)) : (Instr.sliceBound (.int k i) y code).run P w = .ok i.toNat w := by
  unfold Instr.sliceBound
  simp [asIntOf, h0, h1]

/-- Two bounds, without a third: what comes out. -/
theorem bounds2 {isS : Bool} {len cap room : Nat} {lo hi : Option AV} {lo' hi' : Option Value} {K : Nat → Nat → Prop} (hlo : ORel ι lo lo') (hhi : ORel ι hi hi')
    (h : boundVc hi len room fun h => boundVc lo 0 h fun l => K l h) (hlen : len ≤ cap) (hroom : room ≤ cap) :
    ∃ l h, K l h ∧ l ≤ h ∧ h ≤ cap ∧ (lo = none → l = 0) ∧ (h = len ∨ h ≤ room) ∧ ∀ (P : Program) (w : World), (Instr.sliceBounds isS len cap lo' hi' none).run P w = .ok (l, h, cap) w := by
  have hlow : ∀ hh, hh ≤ cap → (hh = len ∨ hh ≤ room) → boundVc lo 0 hh (fun l => K l hh) → ∃ l, K l hh ∧ l ≤ hh ∧ (lo = none → l = 0) ∧
      ∀ (P : Program) (w : World), (match lo' with
        | some v => Instr.sliceBound v hh .sliceB
        | none => pure 0 : Sem Nat).run P w = .ok l w := by
    intro hh hle hor h2
    cases lo with
    | none =>
      cases lo' with
      | some _ => cases hlo
      | none => exact ⟨0, h2, Nat.zero_le _, fun _ => rfl, fun P w => rfl⟩
    | some a =>
      cases lo' with
      | none => cases hlo
      | some v =>
        obtain ⟨k, i, rfl, h0, h1, h3⟩ := boundVc_some h2
        simp only [ORel, VRel] at hlo
        subst hlo
        exact ⟨i.toNat, h3, by omega, fun h => (by cases h), fun P w => run_sliceBound w h0 h1⟩
  cases hi with
  | none =>
    cases hi' with
    | some _ => cases hhi
    | none =>
      obtain ⟨l, h1, h2, h3, h4⟩ := hlow len hlen (.inl rfl) h
      refine ⟨l, len, h1, h2, hlen, h3, .inl rfl, fun P w => ?_⟩
      have h5 := h4 P w
      cases lo' <;> simp only [Sem.run_pure, Result.ok.injEq, and_true] at h5 <;> simp only [Instr.sliceBounds, Sem.run_bind, Sem.run_pure, Result.andThen_ok, Option.isSome_none, Bool.false_eq_true, if_false, h5]
  | some a =>
    cases hi' with
    | none => cases hhi
    | some v =>
      obtain ⟨k, i, rfl, h0, h1, h⟩ := boundVc_some h
      simp only [ORel, VRel] at hhi
      subst hhi
      obtain ⟨l, h2, h3, h4, h5⟩ := hlow i.toNat (by omega) (.inr (by omega)) h
      refine ⟨l, i.toNat, h2, h3, by omega, h4, .inr (by omega), fun P w => ?_⟩
      have h6 := h5 P w
      have h7 : ∀ code, (Instr.sliceBound (.int k i) cap code).run P w = .ok i.toNat w := fun code => run_sliceBound w h0 (by omega)
      cases lo' <;> simp only [Sem.run_pure, Result.ok.injEq, and_true] at h6 <;> simp only [Instr.sliceBounds, Sem.run_bind, Sem.run_pure, Result.andThen_ok, Option.isSome_none, Bool.false_eq_true, if_false, h7, h6]
theorem bounds3 {isS : Bool} {len cap room : Nat} {lo hi mx : Option AV} {lo' hi' mx' : Option Value} {K : Nat → Nat → Nat → Prop} (hlo : ORel ι lo lo') (hhi : ORel ι hi hi') (hmx : ORel ι mx mx') (hm : mx.isSome = true) (hh : hi.isSome = true)
    (h : boundVc mx len room fun m => boundVc hi len m fun h => boundVc lo 0 h fun l => K l h m) (hroom : room ≤ cap) :
    ∃ l h m, K l h m ∧ l ≤ h ∧ h ≤ m ∧ m ≤ cap ∧ m ≤ room ∧ ∀ (P : Program) (w : World), (Instr.sliceBounds isS len cap lo' hi' mx').run P w = .ok (l, h, m) w := by
  cases mx with
  | none => cases hm
  | some a =>
  cases mx' with
  | none => cases hmx
  | some v =>
  obtain ⟨k, i, rfl, h0, h1, h⟩ := boundVc_some h
  simp only [ORel, VRel] at hmx
  subst hmx
  cases hi with
  | none => cases hh
  | some b =>
  cases hi' with
  | none => cases hhi
  | some u =>
  obtain ⟨k', j, rfl, h2, h3, h⟩ := boundVc_some h
  simp only [ORel, VRel] at hhi
  subst hhi
  cases lo with
  | none =>
    cases lo' with
    | some _ => cases hlo
    | none =>
      refine ⟨0, j.toNat, i.toNat, h, Nat.zero_le _, by omega, by omega, by omega, fun P w => ?_⟩
      simp only [Instr.sliceBounds, Sem.run_bind, Sem.run_pure, Result.andThen_ok, run_sliceBound w h0 (show i ≤ (cap : Int) by omega), run_sliceBound w h2 h3]
  | some c =>
    cases lo' with
    | none => cases hlo
    | some x =>
      obtain ⟨k'', q, rfl, h4, h5, h⟩ := boundVc_some h
      simp only [ORel, VRel] at hlo
      subst hlo
      refine ⟨q.toNat, j.toNat, i.toNat, h, by omega, by omega, by omega, by omega, fun P w => ?_⟩
      simp only [Instr.sliceBounds, Sem.run_bind, Sem.run_pure, Result.andThen_ok, run_sliceBound w h0 (show i ≤ (cap : Int) by omega), run_sliceBound w h2 h3, run_sliceBound w h4 h5]

theorem room_le (hr : Rel G ι σ w) {wide : Bool} {a : Option (Nat × Nat)} {n : Nat} {c : Cp} {a' : Option Addr} {ĉ : Nat} (hx : VRel ι (.slice a n c) (.slice a' n ĉ)) : roomOf wide σ a n c ≤ ĉ := by
  obtain ⟨a1, c1, e, hn, _, hs⟩ := vrel_slice hx
  cases e
  unfold roomOf
  split
  case isFalse => exact hn
  split
  · rename_i bo c'
    obtain ⟨p, z, hp, _, _, hc⟩ := hs _ _ rfl
    simp only [capRel] at hc
    omega
  · split
    case h_2 => exact hn
    rename_i cs sz hk
    split
    case isFalse => exact hn
    rename_i hsz
    obtain ⟨p, z, hp, _, _, hc⟩ := hs _ _ rfl
    simp only [capRel] at hc
    obtain ⟨_, _, _, _, _, _, _, _, _, h7, h8⟩ := hr.cells hp hk
    have h9 := h7 rfl
    have h10 := h8 sz rfl
    rw [h9, ← hc, h10, Nat.add_sub_cancel_left, Nat.mul_div_cancel _ hsz]
    exact Nat.le_refl _
  · exact hn

theorem cut_rel {a : Option (Nat × Nat)} {n : Nat} {c : Cp} {a' : Option Addr} {ĉ : Nat} (hx : VRel ι (.slice a n c) (.slice a' n ĉ)) {l h m sz : Nat} {c' : Cp} (hl : l ≤ h) (hh : h ≤ m) (hm : m ≤ ĉ)
    (hc : (c' = .k (m - l)) ∨ (m = ĉ ∧ l = 0 ∧ c' = c) ∨ (m = ĉ ∧ c' = shC c l)) :
    VRel ι (.slice (shA a (l * sz)) (h - l) c') (.slice (if m = l then a' else a'.map (·.add (l * sz))) (h - l) (m - l)) := by
  obtain ⟨a1, c1, e, hn, h0, hs⟩ := vrel_slice hx
  cases e
  rcases a with _ | ⟨b, o⟩
  · obtain ⟨rfl, rfl, rfl, rfl⟩ := h0 rfl
    have hm0 : m = 0 := by omega
    have hl0 : l = 0 := by omega
    have hh0 : h = 0 := by omega
    subst hm0 hl0 hh0
    simp only [shA, VRel, if_true]
    refine ⟨trivial, ?_, trivial⟩
    rcases hc with rfl | ⟨_, _, rfl⟩ | ⟨_, rfl⟩ <;> rfl
  · obtain ⟨p, z, hp, rfl, hz, hcr⟩ := hs b o rfl
    simp only [shA, VRel]
    by_cases hml : m = l
    · refine ⟨p, z, m - l, hp, by rw [if_pos hml], by omega, fun h => by omega, ?_⟩
      rcases hc with rfl | ⟨h1, h2, rfl⟩ | ⟨h1, rfl⟩
      · rfl
      · subst h1 h2; simpa using hcr
      · subst h1
        cases c <;> simp only [shC, capRel] at hcr ⊢
        omega
    · refine ⟨p, z.add (l * sz), m - l, hp, by rw [if_neg hml]; rfl, by omega, fun _ => ?_, ?_⟩
      · rw [hz (by omega), addr_add, Nat.add_assoc]
      · rcases hc with rfl | ⟨h1, h2, rfl⟩ | ⟨h1, rfl⟩
        · rfl
        · subst h1 h2; simpa using hcr
        · subst h1
          cases c <;> simp only [shC, capRel] at hcr ⊢
          omega

theorem str_extract (s : List UInt8) (l h : Nat) : (⟨s.toArray⟩ : ByteArray).extract l h = ⟨((s.take h).drop l).toArray⟩ := by
  have := Lib.extract_data ⟨s.toArray⟩ l h
  rw [show ((s.take h).drop l) = (s.drop l).take (h - l) from by rw [List.drop_take]]
  cases hx : (⟨s.toArray⟩ : ByteArray).extract l h with
  | mk d =>
    rw [hx] at this
    simp only at this
    rw [← this]

theorem sliceVc_sound (hr : Rel G ι σ w) {wide : Bool} {t : TypeId} {x : AV} {x' : Value} {lo hi mx : Option AV} {lo' hi' mx' : Option Value} {K : AV → Prop} (h : sliceVc C wide t x lo hi mx σ K)
    (hx : VRel ι x x') (hlo : ORel ι lo lo') (hhi : ORel ι hi hi') (hmx : ORel ι mx mx') :
    ∃ v v', (∀ w, (Instr.sliceAt t x' lo' hi' mx').run C.P w = .ok v' w) ∧ VRel ι v v' ∧ K v := by
  unfold sliceVc at h
  split at h
  case h_2 => cases h
  rename_i ti hti
  obtain ⟨d, hd, htd, hdP⟩ := C.und hti
  split at h
  case h_4 => cases h
  · rename_i s hte
    obtain rfl := td_str (htd.trans hte)
    split at h
    case h_2 => cases h
    cases mx' with
    | some _ => cases hmx
    | none =>
    simp only [VRel] at hx
    subst hx
    obtain ⟨l, h', hK, h1, h2, _, _, hrun⟩ := bounds2 (isS := false) (K := fun l h => K (.str ((s.take h).drop l))) hlo hhi h (Nat.le_refl s.length) (Nat.le_refl s.length)
    refine ⟨_, .string ((⟨s.toArray⟩ : ByteArray).extract l h'), fun w => ?_, by simp only [VRel]; rw [str_extract], hK⟩
    have hsz : (⟨s.toArray⟩ : ByteArray).size = s.length := by simp [ByteArray.size]
    simp only [Instr.sliceAt, Instr.slice, Sem.run_bind, hd, Result.andThen_ok, hsz, Option.isSome_none, Bool.false_eq_true, if_false, Sem.run_pure, hrun]
  · rename_i e a n c hte
    obtain rfl := td_slice (htd.trans hte)
    split at h
    case h_2 => cases h
    rename_i y hy
    split at h
    case isTrue => cases h
    rename_i hys
    obtain ⟨a', ĉ, rfl, hn, h0, hs⟩ := vrel_slice hx
    have hroom := room_le (wide := wide) hr hx
    split at h
    · rename_i mv
      split at h
      case isFalse => cases h
      rename_i hhs
      obtain ⟨l, h', m, hK, h1, h2, h3, _, hrun⟩ := bounds3 (isS := true) (K := fun l h m => K (.slice (shA a (l * y.size)) (h - l) (.k (m - l)))) hlo hhi hmx rfl hhs h hroom
      refine ⟨_, _, fun w => ?_, cut_rel (sz := y.size) hx h1 h2 h3 (.inl rfl), hK⟩
      simp only [Instr.sliceAt, Instr.slice, Sem.run_bind, hd, Result.andThen_ok, hrun, C.size hy, Sem.run_pure]
    · cases mx' with
      | some _ => cases hmx
      | none =>
      obtain ⟨l, h', hK, h1, h2, h3, _, hrun⟩ := bounds2 (isS := true) (K := fun l h => (lo = none ∧ K (.slice a h c)) ∨ (K (.slice (shA a (l * y.size)) (h - l) (shC c l)))) hlo hhi (by
        unfold boundVc at h ⊢
        split at h
        · split at h
          · exact .inl ⟨rfl, h⟩
          · rename_i u
            simp only at h ⊢
            split at h
            · rename_i e; cases e
            · rename_i e; cases e; exact ⟨h.1, h.2.1, .inr h.2.2⟩
            · cases h
        · refine ⟨h.1, h.2.1, ?_⟩
          have h := h.2.2
          split at h
          · exact .inl ⟨rfl, h⟩
          · rename_i u
            simp only at h ⊢
            split at h
            · rename_i e; cases e
            · rename_i e; cases e; exact ⟨h.1, h.2.1, .inr h.2.2⟩
            · cases h
        · cases h) hn hroom
      rcases hK with ⟨hlo0, hK⟩ | hK
      · obtain rfl := h3 hlo0
        refine ⟨_, .slice (if ĉ = 0 then a' else a'.map (·.add (0 * y.size))) (h' - 0) (ĉ - 0), fun w => ?_, ?_, hK⟩
        · simp only [Instr.sliceAt, Instr.slice, Sem.run_bind, hd, Result.andThen_ok, hrun, C.size hy, Sem.run_pure]
        · have := cut_rel (sz := y.size) (c' := c) hx h1 h2 (Nat.le_refl ĉ) (.inr (.inl ⟨rfl, rfl, rfl⟩))
          have e : shA a (0 * y.size) = a := by rw [Nat.zero_mul]; cases a <;> rfl
          rw [e] at this
          simpa using this
      · refine ⟨_, _, fun w => ?_, cut_rel (sz := y.size) hx h1 h2 (Nat.le_refl ĉ) (.inr (.inr ⟨rfl, rfl⟩)), hK⟩
        simp only [Instr.sliceAt, Instr.slice, Sem.run_bind, hd, Result.andThen_ok, hrun, C.size hy, Sem.run_pure]
  · rename_i n e a hte
    obtain rfl := td_array (htd.trans hte)
    split at h
    case h_2 => cases h
    rename_i y hy
    cases mx' with
    | some _ => cases hmx
    | none =>
    split at h
    case isTrue => cases h
    rename_i hys
    obtain ⟨b, o, rfl, h⟩ := atP_some h
    obtain ⟨p, hp, rfl⟩ := vrel_ptr hx
    obtain ⟨l, h', hK, h1, h2, _, _, hrun⟩ := bounds2 (isS := false) (K := fun l h => K (.slice (some (b, o + l * y.size)) (h - l) (.k (n - l)))) hlo hhi h (Nat.le_refl n) (Nat.le_refl n)
    refine ⟨_, .slice (some (if n = l then ⟨p.blk, p.base + o, none⟩ else ⟨p.blk, p.base + o + l * y.size, none⟩)) (h' - l) (n - l), fun w => ?_, ?_, hK⟩
    · simp only [Instr.sliceAt, Instr.sureAddr, Sem.run_bind, hd, Result.andThen_ok, Sem.run_pure, hrun, C.size hy, addr_add]
    · simp only [VRel]
      exact ⟨p, _, n - l, hp, rfl, by omega, fun h => by rw [if_neg (by omega), Nat.add_assoc], rfl⟩
end
end Go.Proofs.YthpngchngnaloaaGreatDoor.Vm
