/- The abstract machine, carried out: maps, operations. -/
import Derived.Test.YthpngchngnaloaaGreatDoorVmX2
namespace Go.Proofs.YthpngchngnaloaaGreatDoor.Vm
variable {C : Cx}

/-! ### Maps -/
def keyX (C : Cx) (kt : TypeId) (k : AV) : Option KC :=
  match C.ti kt with
  | some ti =>
    match ti.d, k with
    | .int kd, .int _ _ => some (.one (.int kd))
    | .str, .str _ => some (.one .str)
    | .struct _, .agg cs => cond ti.plain (match eqS ti.sh cs cs true with | some _ => some (.many ti.sh) | none => none) none
    | _, _ => none
  | none => none
theorem keyX_ok {kt : TypeId} {k : AV} {c : KC} {K : KC → Prop} (h : keyX C kt k = some c) (hK : K c) : keyOk C kt k K := by
  unfold keyX at h
  unfold keyOk
  split at h
  case h_2 => cases h
  rename_i ti hti
  simp only [hti]
  split at h
  · rename_i hd; simp only [hd]; cases h; exact hK
  · rename_i hd; simp only [hd]; cases h; exact hK
  · rename_i hd
    simp only [hd]
    rw [Bool.cond_eq_ite] at h
    split at h
    case isFalse => cases h
    rename_i hp
    rw [if_pos hp]
    split at h
    case h_2 => cases h
    rename_i r hr
    cases h
    simp only [hr]
    exact hK
  · cases h
def mapTysX (C : Cx) (t : TypeId) : Option (TypeId × TI) :=
  match C.ti t with
  | some ti =>
    match ti.d with
    | .map k e => (match C.ti e with
      | some te => some (k, te)
      | none => none)
    | _ => none
  | none => none
theorem mapTysX_ok {t k : TypeId} {te : TI} {K : TypeId → TI → Prop} (h : mapTysX C t = some (k, te)) (hK : K k te) : mapTys C t K := by
  unfold mapTysX at h
  unfold mapTys
  split at h
  case h_2 => cases h
  rename_i ti hti
  simp only [hti]
  split at h
  case h_2 => cases h
  rename_i k' e hd
  simp only [hd]
  split at h
  case h_2 => cases h
  rename_i te' hte
  cases h
  simp only [hte]
  exact hK
/-- A map's entries, how keys are held against each other, what an element is, and where the key lies. -/
def mapX (C : Cx) (t : TypeId) (x k : AV) (σ : AH) : Option (TI × Nat × List (AV × AV × Nat) × Nat × Option (Nat × AV)) :=
  match mapTysX C t with
  | some (kt, te) =>
    match keyX C kt k with
    | some c =>
      match x with
      | .map (some r) =>
        match σ.get r with
        | some (.map es clock) => (match mapFind c k es 0 with
          | some res => some (te, r, es, clock, res)
          | none => none)
        | _ => none
      | _ => none
    | none => none
  | none => none
theorem mapX_ok {t : TypeId} {x k : AV} {σ : AH} {te : TI} {r : Nat} {es : List (AV × AV × Nat)} {clock : Nat} {res : Option (Nat × AV)} (h : mapX C t x k σ = some (te, r, es, clock, res)) :
    x = .map (some r) ∧ ∀ X : TypeId → TI → KC → Prop, (∀ kt c, σ.get r = some (.map es clock) → mapFind c k es 0 = some res → X kt te c) → mapTys C t fun kt te => keyOk C kt k fun c => X kt te c := by
  unfold mapX at h
  split at h
  case h_2 => cases h
  rename_i kt te' hmt
  split at h
  case h_2 => cases h
  rename_i c hc
  split at h
  case h_2 => cases h
  rename_i r'
  split at h
  case h_2 => cases h
  rename_i es' clock' hg
  split at h
  case h_2 => cases h
  rename_i res' hf
  cases h
  exact ⟨rfl, fun X hX => mapTysX_ok hmt (keyX_ok hc (hX kt c hg hf))⟩
def lookupX (C : Cx) (t : TypeId) (x k : AV) (ok : Bool) (σ : AH) : Option AV :=
  match x with
  | .map none =>
    (match mapTysX C t with
     | some (kt, te) => (match keyX C kt k with
       | some _ => some (if ok then .tuple [zeroAV te, .bool false] else zeroAV te)
       | none => none)
     | none => none)
  | _ => match mapX C t x k σ with
    | some (te, _, _, _, res) =>
      (match res with
       | some (_, v) => some (if ok then .tuple [v, .bool true] else v)
       | none => some (if ok then .tuple [zeroAV te, .bool false] else zeroAV te))
    | none => none
theorem lookupX_ok {t : TypeId} {x k v : AV} {ok : Bool} {σ : AH} {K : AV → Prop} (h : lookupX C t x k ok σ = some v) (hK : K v) : lookupVc C t x k ok σ K := by
  unfold lookupX at h
  split at h
  · split at h
    case h_2 => cases h
    rename_i kt te hmt
    split at h
    case h_2 => cases h
    rename_i c hc
    cases h
    exact mapTysX_ok hmt (keyX_ok hc hK)
  · split at h
    case h_2 => cases h
    rename_i te r es clock res hm
    obtain ⟨rfl, hX⟩ := mapX_ok hm
    refine hX (fun kt te sh => ∃ es clock, σ.get r = some (.map es clock) ∧ ∃ res, mapFind sh k es 0 = some res ∧ (match res with
       | some (_, v) => K (if ok then .tuple [v, .bool true] else v)
       | none => K (if ok then .tuple [zeroAV te, .bool false] else zeroAV te))) fun kt c hg hf => ⟨es, clock, hg, res, hf, ?_⟩
    split at h <;> (cases h; exact hK)
def mapPutX (C : Cx) (t : TypeId) (x k v : AV) (m : M) : Option M :=
  match mapX C t x k m.den with
  | some (_, r, es, clock, res) =>
    (match res with
     | some (i, _) => some (m.set r (.map (es.modify i fun e => (k, v, e.2.2)) clock))
     | none => some (m.set r (.map (es ++ [(k, v, clock)]) (clock + 1))))
  | none => none
theorem mapPutX_ok {t : TypeId} {x k v : AV} {m m' : M} {K : AH → Prop} (h : mapPutX C t x k v m = some m') (hK : K m'.den) : mapPutVc C t x k v m.den K := by
  unfold mapPutX at h
  split at h
  case h_2 => cases h
  rename_i te r es clock res hm
  obtain ⟨rfl, hX⟩ := mapX_ok hm
  refine hX (fun kt te sh => ∃ es clock, m.den.get r = some (.map es clock) ∧ ∃ res, mapFind sh k es 0 = some res ∧ (match res with
       | some (i, _) => K (m.den.set r (.map (es.modify i fun e => (k, v, e.2.2)) clock))
       | none => K (m.den.set r (.map (es ++ [(k, v, clock)]) (clock + 1))))) fun kt c hg hf => ⟨es, clock, hg, res, hf, ?_⟩
  split at h <;> (cases h; rw [M.set_den] at hK; exact hK)
def mapEntryX (C : Cx) (t : TypeId) (x k : AV) (m : M) : Option (AV × M) :=
  match mapX C t x k m.den with
  | some (te, r, es, clock, res) =>
    (match res with
     | some (i, v) => some (.tuple [v, .int .i64 (((es[i]?).map (·.2.2)).getD 0 : Nat)], m.set r (.map (es.modify i fun e => (k, e.2)) clock))
     | none => some (.tuple [zeroAV te, .int .i64 clock], m.set r (.map (es ++ [(k, zeroAV te, clock)]) (clock + 1))))
  | none => none
theorem mapEntryX_ok {t : TypeId} {x k v : AV} {m m' : M} {K : AV → AH → Prop} (h : mapEntryX C t x k m = some (v, m')) (hK : K v m'.den) : mapEntryVc C t x k m.den K := by
  unfold mapEntryX at h
  split at h
  case h_2 => cases h
  rename_i te r es clock res hm
  obtain ⟨rfl, hX⟩ := mapX_ok hm
  refine hX (fun kt te sh => ∃ es clock, m.den.get r = some (.map es clock) ∧ ∃ res, mapFind sh k es 0 = some res ∧ (match res with
       | some (i, v) => K (.tuple [v, .int .i64 (((es[i]?).map (·.2.2)).getD 0 : Nat)]) (m.den.set r (.map (es.modify i fun e => (k, e.2)) clock))
       | none => K (.tuple [zeroAV te, .int .i64 clock]) (m.den.set r (.map (es ++ [(k, zeroAV te, clock)]) (clock + 1))))) fun kt c hg hf => ⟨es, clock, hg, res, hf, ?_⟩
  split at h <;> (cases h; rw [M.set_den] at hK; exact hK)
def entryStoreX (x s v : AV) (m : M) : Option M :=
  match x, s with
  | .map (some r), .int _ s =>
    (match m.den.get r with
     | some (.map es clock) => (match es.findIdx? (fun e => (e.2.2 : Int) == s) with
       | some i => some (m.set r (.map (es.modify i fun e => (e.1, v, e.2.2)) clock))
       | none => none)
     | _ => none)
  | _, _ => none
theorem entryStoreX_ok {x s v : AV} {m m' : M} {K : AH → Prop} (h : entryStoreX x s v m = some m') (hK : K m'.den) : entryStoreVc x s v m.den K := by
  unfold entryStoreX at h
  split at h
  case h_2 => cases h
  split at h
  case h_2 => cases h
  rename_i es clock hg
  split at h
  case h_2 => cases h
  rename_i i hi
  cases h
  rw [M.set_den] at hK
  exact ⟨es, clock, hg, i, hi, hK⟩
def deleteX (C : Cx) (ts : List TypeId) (xs : List AV) (m : M) : Option (AV × M) :=
  match ts, xs with
  | t :: _, x :: k :: _ => (match mapX C t x k m.den with
    | some (_, r, es, clock, res) =>
      (match res with
       | some (i, _) => some (.tuple [], m.set r (.map (es.eraseIdx i) clock))
       | none => some (.tuple [], m))
    | none => none)
  | _, _ => none
theorem deleteX_ok {ts : List TypeId} {xs : List AV} {m m' : M} {v : AV} {K : AV → AH → Prop} (h : deleteX C ts xs m = some (v, m')) (hK : K v m'.den) : deleteVc C ts xs m.den K := by
  unfold deleteX at h
  split at h
  case h_2 => cases h
  rename_i t ts x k xs
  split at h
  case h_2 => cases h
  rename_i te r es clock res hm
  obtain ⟨rfl, hX⟩ := mapX_ok hm
  unfold deleteVc
  refine hX (fun kt te sh => ∃ es clock, m.den.get r = some (.map es clock) ∧ ∃ res, mapFind sh k es 0 = some res ∧ (match res with
       | some (i, _) => K (.tuple []) (m.den.set r (.map (es.eraseIdx i) clock))
       | none => K (.tuple []) m.den)) fun kt c hg hf => ⟨es, clock, hg, res, hf, ?_⟩
  split at h
  · cases h; rw [M.set_den] at hK; exact hK
  · cases h; exact hK

/-! ### Strings and maps gone through -/
def rangeX (C : Cx) (t : TypeId) (x : AV) (m : M) : Option (AV × M) :=
  match C.ti t, x with
  | some ti, .str s => (match ti.d with
    | .str => some (.ptr (some (m.next, 0)), m.alloc (.siter s 0))
    | _ => none)
  | some ti, .map q => (match ti.d with
    | .map _ _ => (match q with
      | none => some (.ptr (some (m.next, 0)), m.alloc (.miter none 0 [] 0))
      | some r => (match m.den.get r with
        | some (.map _ clock) => some (.ptr (some (m.next, 0)), m.alloc (.miter (some r) clock [] clock))
        | _ => none))
    | _ => none)
  | _, _ => none
theorem rangeX_ok {t : TypeId} {x v : AV} {m m' : M} {K : AV → AH → Prop} (h : rangeX C t x m = some (v, m')) (hK : K v m'.den) : rangeVc C t x m.den K := by
  unfold rangeX at h
  unfold rangeVc
  split at h
  case h_3 => cases h
  · rename_i ti s hti
    simp only [hti]
    split at h
    case h_2 => cases h
    rename_i hd
    rw [if_pos hd]
    cases h
    rw [M.alloc_den] at hK
    exact hK
  · rename_i ti q hti
    simp only [hti]
    split at h
    case h_2 => cases h
    rename_i hd
    simp only [hd]
    split at h
    · cases h
      rw [M.alloc_den] at hK
      exact hK
    · split at h
      case h_2 => cases h
      rename_i es clock hg
      cases h
      rw [M.alloc_den] at hK
      exact ⟨es, clock, hg, hK⟩
def nextX (x : AV) (isString : Bool) (m : M) : Option (List (AV × M)) :=
  match x, isString with
  | .ptr (some (r, 0)), true =>
    (match m.den.get r with
     | some (.siter s pos) => cond (Nat.blt pos s.length)
         (some [(.tuple [.bool true, .int .i64 pos, .int .i32 (Utf8.decode ⟨s.toArray⟩ pos).1], m.set r (.siter s (pos + (Utf8.decode ⟨s.toArray⟩ pos).2)))])
         (some [(.tuple [.bool false], m)])
     | _ => none)
  | .ptr (some (r, 0)), false =>
    (match m.den.get r with
     | some (.miter none _ _ _) => some [(.tuple [.bool false], m.kill r)]
     | some (.miter (some q) since seen last) =>
       (match m.den.get q with
        | some (.map es clock) => cond (Nat.beq clock since && Nat.beq last since && es.all fun e => decide (e.2.2 < since))
            (match leftA es seen with
             | [] => some [(.tuple [.bool false], m.kill r)]
             | l => some (l.map fun e => (.tuple [.bool true, e.1, e.2.1], m.set r (.miter (some q) since (seen ++ [e.2.2]) last)))) none
        | _ => none)
     | _ => none)
  | _, _ => none
theorem nextX_ok {x : AV} {b : Bool} {m : M} {l : List (AV × M)} {K : AV → AH → Prop} (h : nextX x b m = some l) (hK : ∀ v m', (v, m') ∈ l → K v m'.den) : nextVc x b m.den K := by
  unfold nextX at h
  unfold nextVc
  split at h
  case h_3 => cases h
  · rename_i r
    split at h
    case h_2 => cases h
    rename_i s pos hg
    refine ⟨s, pos, hg, ?_⟩
    rw [Bool.cond_eq_ite] at h
    split at h
    · rename_i hlt
      simp only [Nat.blt_eq] at hlt
      cases h
      rw [if_pos hlt]
      have := hK _ _ (List.mem_singleton.2 rfl)
      rwa [M.set_den] at this
    · rename_i hlt
      simp only [Nat.blt_eq] at hlt
      cases h
      rw [if_neg hlt]
      exact hK _ _ (List.mem_singleton.2 rfl)
  · rename_i r
    split at h
    case h_3 => cases h
    · rename_i since seen last hg
      cases h
      have := hK _ _ (List.mem_singleton.2 rfl)
      rw [M.kill_den] at this
      exact ⟨none, since, seen, last, hg, this⟩
    · rename_i q since seen last hg
      split at h
      case h_2 => cases h
      rename_i es clock hq
      rw [Bool.cond_eq_ite] at h
      split at h
      case isFalse => cases h
      rename_i hc
      simp only [Bool.and_eq_true, Nat.beq_eq] at hc
      obtain ⟨⟨rfl, rfl⟩, hall⟩ := hc
      refine ⟨some q, _, seen, _, hg, es, hq, rfl, hall, ?_⟩
      split at h
      · rename_i hl
        cases h
        simp only [hl]
        have := hK _ _ (List.mem_singleton.2 rfl)
        rwa [M.kill_den] at this
      · rename_i l' hl
        cases h
        split
        · rename_i h0; exact absurd h0 hl
        · intro e he
          have := hK _ _ (List.mem_map.2 ⟨e, he, rfl⟩)
          rwa [M.set_den] at this
def assertX (C : Cx) (x : AV) (t : TypeId) (ok : Bool) : Option AV :=
  match C.ti t, x with
  | some ti, .iface t' v => (match ti.d with
    | .iface => none
    | _ => cond (Nat.beq t' t) (some (if ok then .tuple [v, .bool true] else v)) (cond ok (some (.tuple [zeroAV ti, .bool false])) none))
  | some ti, .nilIface => (match ti.d with
    | .iface => none
    | _ => cond ok (some (.tuple [zeroAV ti, .bool false])) none)
  | _, _ => none
theorem assertX_ok {x v : AV} {t : TypeId} {ok : Bool} {K : AV → Prop} (h : assertX C x t ok = some v) (hK : K v) : assertVc C x t ok K := by
  unfold assertX at h
  unfold assertVc
  split at h
  · rename_i ti t' u hti
    simp only [hti]
    split at h
    · cases h
    rename_i hni
    split
    · exact absurd (by assumption) hni
    rw [cb] at h
    split at h
    · rename_i he
      cases h
      rw [if_pos he]; exact hK
    · rename_i he
      rw [if_neg he]
      rw [Bool.cond_eq_ite] at h
      split at h
      case isFalse => cases h
      rename_i ho
      cases h
      rw [if_pos ho]; exact hK
  · rename_i ti hti
    simp only [hti]
    split at h
    · cases h
    rename_i hni
    split
    · exact absurd (by assumption) hni
    rw [Bool.cond_eq_ite] at h
    split at h
    case isFalse => cases h
    rename_i ho
    cases h
    rw [if_pos ho]; exact hK
  · cases h
end Go.Proofs.YthpngchngnaloaaGreatDoor.Vm
