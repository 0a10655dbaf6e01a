/- marks.number, over the abstract machine: bytes, the last first, as a number. Conditions: none. -/
import Derived.Test.YthpngchngnaloaaGreatDoorHalves
namespace Go.Proofs.YthpngchngnaloaaGreatDoor
open Go.Proofs.YthpngchngnaloaaGreatDoor.Vm
set_option maxRecDepth 100000
theorem back0 (a : Option (Nat × Nat)) (n : Nat) (c : Cp) (σ : AH) (K : AV → AH → Prop) : (K (AV.func 283 [] [AV.ptr (some (σ.next, 0))]) (σ.alloc (Blk.cells [AV.slice a n c] (Own.exact 1)))) = (bodyVc vmR [] true Tryz.f263 (cdOf Tryz.f263 []) [AV.slice a n c] σ K) := by kernel_rfl
theorem number0 (a : Option (Nat × Nat)) (n : Nat) (c : Cp) (σ : AH) (K : AV → AH → Prop) : (∃ cs own,
  (σ.alloc (Blk.cells [AV.int IntKind.u64 0] (Own.exact 1))).get σ.next = some (Blk.cells cs own) ∧
    own.rw = true ∧
      1 ≤ cs.length ∧
        ACall vmR.P [] 263 [AV.slice a n c]
          ((σ.alloc (Blk.cells [AV.int IntKind.u64 0] (Own.exact 1))).set σ.next
            (Blk.cells (layL cs 0 [AV.int IntKind.u64 0]) own))
          fun v σ' =>
          codeVc vmR [] true 16 (cdOf Tryz.f221 [1, 1, 0, 1, 0])
            (AExit.inBlock 0
              (AExit.then (codeVc vmR [] true 16 (cdOf Tryz.f221 [1, 1, 1]) (retQ vmR Tryz.f221 K))
                (retQ vmR Tryz.f221 K)))
            (setFr
              (setFr
                (setFr
                  (setFr (setFr (initL [AV.slice a n c]) (some 2) (AV.int IntKind.u64 0)) (some 3)
                    (AV.ptr (some (σ.next, 0))))
                  none (AV.tuple []))
                (some 6) (AV.slice a n c))
              (some 7) v)
            σ') = (bodyVc vmR [] true Tryz.f221 (cdOf Tryz.f221 []) [AV.slice a n c] σ K) := by kernel_rfl
theorem number2 (g : Fr) (b : Nat) (i : Int) (x : Int) (σ : AH) (Q : AExit → Fr → AH → Prop) : (Q AExit.normal
  (setFr (setAll g [(3, AV.ptr (some (b, 0))), (8, AV.int IntKind.i64 i), (9, AV.int IntKind.u8 x)]) (some 5)
    (AV.int IntKind.u8 x))
  σ) = (codeVc vmR [] true 16 (cdOf Tryz.f221 [1, 1, 0, 1, 0, 0]) Q
  (setAll g [(3, AV.ptr (some (b, 0))), (8, AV.int IntKind.i64 i), (9, AV.int IntKind.u8 x)]) σ) := by kernel_rfl
theorem number3 (g : Fr) (b : Nat) (x : Int) (σ : AH) (Q : AExit → Fr → AH → Prop) : (∃ n,
  σ.cell b 0 = some (AV.int IntKind.u64 n) ∧
    ∃ cs own,
      σ.get b = some (Blk.cells cs own) ∧
        own.rw = true ∧
          1 ≤ cs.length ∧
            Q AExit.normal
              (setFr
                (setFr
                  (setFr
                    (setFr
                      (setFr
                        (setFr (setAll g [(3, AV.ptr (some (b, 0))), (5, AV.int IntKind.u8 x)]) (some 10)
                          (AV.int IntKind.u64 n))
                        (some 11) (AV.int IntKind.u64 (IntKind.u64.wrap (n * 2 ^ min (Int.toNat 8) IntKind.u64.bits))))
                      (some 12) (AV.int IntKind.u8 x))
                    (some 13) (AV.int IntKind.u64 (IntKind.u64.wrap x)))
                  (some 14)
                  (AV.int IntKind.u64
                    (bitsOf (fun _ => BitVec.or) IntKind.u64
                      (IntKind.u64.wrap (n * 2 ^ min (Int.toNat 8) IntKind.u64.bits)) (IntKind.u64.wrap x))))
                none (AV.tuple []))
              (σ.set b
                (Blk.cells
                  (layL cs 0
                    [AV.int IntKind.u64
                        (bitsOf (fun _ => BitVec.or) IntKind.u64
                          (IntKind.u64.wrap (n * 2 ^ min (Int.toNat 8) IntKind.u64.bits)) (IntKind.u64.wrap x))])
                  own))) = (codeVc vmR [] true 16 (cdOf Tryz.f221 [1, 1, 0, 1, 0, 1]) Q
  (setAll g [(3, AV.ptr (some (b, 0))), (5, AV.int IntKind.u8 x)]) σ) := by kernel_rfl
theorem number4 (g : Fr) (b : Nat) (σ : AH) (K : AV → AH → Prop) : (∃ n, σ.cell b 0 = some (AV.int IntKind.u64 n) ∧ K (AV.int IntKind.u64 n) σ) = (codeVc vmR [] true 16 (cdOf Tryz.f221 [1, 1, 1]) (retQ vmR Tryz.f221 K) (setAll g [(3, AV.ptr (some (b, 0)))]) σ) := by kernel_rfl
theorem backs0 (y : Nat) (b : Nat) (σ : AH) (K : AV → AH → Prop) : (∃ a n c,
  σ.cell b 0 = some (AV.slice a n c) ∧
    codeVc vmR [] true 19 (cdOf Tryz.f283 [1, 0, 0]).loop (AExit.inBlock 0 (retQ vmR Tryz.f283 K))
      (setFr
        (setFr
          (setFr (setFr (initL [AV.yield y, AV.ptr (some (b, 0))]) (some 4) (AV.slice a n c)) (some 5)
            (AV.int IntKind.i64 ↑n))
          (some 6) (AV.int IntKind.i64 (IntKind.i64.wrap (↑n - 1))))
        (some 3) (AV.int IntKind.i64 (IntKind.i64.wrap (↑n - 1))))
      σ) = (bodyVc vmR [] true Tryz.f283 (cdOf Tryz.f283 []) [AV.yield y, AV.ptr (some (b, 0))] σ K) := by kernel_rfl
theorem backs1 (g : Fr) (y : Nat) (b : Nat) (i : Int) (σ : AH) (Q : AExit → Fr → AH → Prop) : (bif decide (i ≥ 0) then
  ∃ a n c,
    σ.cell b 0 = some (AV.slice a n c) ∧
      0 ≤ i ∧
        i < ↑n ∧
          atP a fun b_1 o =>
            ∃ n_1,
              σ.cell b_1 (o + i.toNat * 1) = some (AV.int IntKind.u8 n_1) ∧
                AYield vmR.P [] y [AV.int IntKind.i64 i, AV.int IntKind.u8 n_1] σ fun v σ' =>
                  ∃ b_2,
                    v = AV.bool b_2 ∧
                      bif !b_2 then
                        Q AExit.ret
                          (setFr
                            (setFr
                              (setFr
                                (setFr
                                  (setFr
                                    (setFr
                                      (setFr
                                        (setFr
                                          (setFr
                                            (setFr
                                              (setAll g
                                                [(0, AV.yield y), (1, AV.ptr (some (b, 0))), (3, AV.int IntKind.i64 i)])
                                              (some 7) (AV.int IntKind.i64 i))
                                            (some 8) (AV.bool (decide (i ≥ 0))))
                                          (some 11) (AV.yield y))
                                        (some 12) (AV.int IntKind.i64 i))
                                      (some 13) (AV.slice a n c))
                                    (some 14) (AV.int IntKind.i64 i))
                                  (some 15) (AV.ptr (some (b_1, o + i.toNat * 1))))
                                (some 16) (AV.int IntKind.u8 n_1))
                              (some 17) (AV.bool b_2))
                            (some 18) (AV.bool !b_2))
                          σ'
                      else
                        Q AExit.normal
                          (setFr
                            (setFr
                              (setFr
                                (setFr
                                  (setFr
                                    (setFr
                                      (setFr
                                        (setFr
                                          (setFr
                                            (setFr
                                              (setFr
                                                (setFr
                                                  (setFr
                                                    (setAll g
                                                      [(0, AV.yield y), (1, AV.ptr (some (b, 0))),
                                                        (3, AV.int IntKind.i64 i)])
                                                    (some 7) (AV.int IntKind.i64 i))
                                                  (some 8) (AV.bool (decide (i ≥ 0))))
                                                (some 11) (AV.yield y))
                                              (some 12) (AV.int IntKind.i64 i))
                                            (some 13) (AV.slice a n c))
                                          (some 14) (AV.int IntKind.i64 i))
                                        (some 15) (AV.ptr (some (b_1, o + i.toNat * 1))))
                                      (some 16) (AV.int IntKind.u8 n_1))
                                    (some 17) (AV.bool b_2))
                                  (some 18) (AV.bool !b_2))
                                (some 9) (AV.int IntKind.i64 i))
                              (some 10) (AV.int IntKind.i64 (IntKind.i64.wrap (i - 1))))
                            (some 3) (AV.int IntKind.i64 (IntKind.i64.wrap (i - 1))))
                          σ'
else
  Q (AExit.exit 0)
    (setFr
      (setFr (setAll g [(0, AV.yield y), (1, AV.ptr (some (b, 0))), (3, AV.int IntKind.i64 i)]) (some 7)
        (AV.int IntKind.i64 i))
      (some 8) (AV.bool (decide (i ≥ 0))))
    σ) = (codeVc vmR [] true 19 (cdOf Tryz.f283 [1, 0, 0]) Q
  (setAll g [(0, AV.yield y), (1, AV.ptr (some (b, 0))), (3, AV.int IntKind.i64 i)]) σ) := by kernel_rfl

structure NumInv (σ0 : AH) (a : Option (Nat × Nat)) (n : Nat) (c : Cp) (frs : List AV) (acc : Int) (σ : AH) : Prop where
  next : σ.next = σ0.next + 3
  old : ∀ b, b < σ0.next → σ.get b = σ0.get b
  acc : σ.get σ0.next = some (.cells [.int .u64 acc] (.exact 1))
  box : σ.get (σ0.next + 1) = some (.cells [.slice a n c] (.exact 1))
  loop : σ.get (σ0.next + 2) = some (.loop .ready none frs #[8, 9] (cdOf Tryz.f221 [1, 1, 0, 1, 0, 0]) (cdOf Tryz.f221 [1, 1, 0, 1, 0, 1]))
theorem drop_cons {l : List UInt8} {i : Nat} {x : UInt8} (h : l[i]? = some x) : l.drop i = x :: l.drop (i + 1) := by
  obtain ⟨hlt, rfl⟩ := List.getElem?_eq_some_iff.1 h
  exact List.drop_eq_getElem_cons hlt
theorem backs_acall {σ0 σ : AH} {a : Option (Nat × Nat)} {n : Nat} {c : Cp} {frs : List AV} {l : List UInt8} (hl : bytesAt σ0 a n l) (hn : n < 2 ^ 62) (h16 : frs.length = 16) (h3 : frs[3]? = some (.ptr (some (σ0.next, 0))))
    (hi : NumInv σ0 a n c frs 0 σ) {K : AV → AH → Prop} (hK : ∀ v σ', NumInv σ0 a n c frs (numR l) σ' → K v σ') : ACall Tryz.prog [] 283 [.yield (σ0.next + 2), .ptr (some (σ0.next + 1, 0))] σ K := by
  refine ACall.of_body (C := vmR) (wide := true) Tryz.func283 rfl rfl ?_
  refine Eq.mp (backs0 (σ0.next + 2) (σ0.next + 1) σ K) ?_
  refine ⟨a, n, c, by unfold AH.cell; rw [hi.box]; rfl, ?_⟩
  have hw : IntKind.i64.wrap ((n : Int) - 1) = (n : Int) - 1 := wrap64_in (by omega) (by omega)
  refine loop_intro (fun k fr σ' => ∃ (g : Fr), k ≤ n ∧ fr = setAll g [(0, .yield (σ0.next + 2)), (1, .ptr (some (σ0.next + 1, 0))), (3, .int .i64 ((k : Int) - 1))] ∧ NumInv σ0 a n c frs (numR (l.drop k)) σ') n
    ⟨_, Nat.le_refl n, frame_eq ⟨rfl, rfl, by show AV.int _ (IntKind.i64.wrap ((n : Int) - 1)) = _; rw [hw], trivial⟩, by rw [List.drop_eq_nil_of_le (Nat.le_of_eq hl.1)]; exact hi⟩ ?_
  rintro r fr σ' ⟨g, hr, rfl, hv⟩
  refine Eq.mp (backs1 g _ _ _ _ _) ?_
  cases hge : decide (((r : Int) - 1) ≥ 0) with
  | false =>
    have h0 : r = 0 := by
      have : ¬ ((r : Int) - 1 ≥ 0) := by simpa using hge
      omega
    subst h0
    simp only [cond_false, AExit.then, AExit.inBlock, if_true]
    show K (resVal []) σ'
    exact hK _ _ hv
  | true =>
    simp only [decide_eq_true_eq] at hge
    obtain ⟨q, rfl⟩ : ∃ q, r = q + 1 := ⟨r - 1, by omega⟩
    have hq : ((q + 1 : Nat) : Int) - 1 = (q : Int) := by omega
    rw [hq]
    have hlt : q < l.length := by rw [hl.1]; omega
    obtain ⟨x, hx⟩ : ∃ x, l[q]? = some x := ⟨l[q], List.getElem?_eq_getElem hlt⟩
    obtain ⟨b, o, rfl, hb, hc⟩ := hl.2 q x hx
    refine ⟨some (b, o), n, c, by unfold AH.cell; rw [hv.box]; rfl, by omega, by omega, ?_⟩
    show ∃ n_1, _
    refine ⟨(x.toNat : Int), ?_, ?_⟩
    · have e1 : (q : Int).toNat * 1 = q := by simp
      rw [e1]
      unfold AH.cell
      rw [hv.old b hb]
      exact hc
    refine round_intro (C := vmR) (wide := true) hv.loop rfl (by kernel_rfl) (by kernel_rfl) ?_
    rw [h16]
    refine codeVc_on [(3, .ptr (some (σ0.next, 0))), (8, .int .i64 (q : Int)), (9, .int .u8 (x.toNat : Int))] ⟨?_, rfl, rfl, trivial⟩ (Eq.mp (number2 _ _ _ _ _ _) ?_)
    · show (match frs[3]? with | some v => v | none => AV.tuple []) = _
      rw [h3]
    refine asgQ_intro hv.loop ?_
    refine codeVc_on [(3, .ptr (some (σ0.next, 0))), (5, .int .u8 (x.toNat : Int))] ⟨rfl, rfl, trivial⟩ (Eq.mp (number3 _ _ _ _ _) ?_)
    have n1 : ¬ (σ0.next = σ0.next + 2) := by omega
    have n2 : ¬ (σ0.next + 1 = σ0.next + 2) := by omega
    have n3 : ¬ (σ0.next + 2 = σ0.next) := by omega
    have n4 : ¬ (σ0.next + 1 = σ0.next) := by omega
    refine ⟨numR (l.drop (q + 1)), ?_, [.int .u64 (numR (l.drop (q + 1)))], .exact 1, ?_, rfl, Nat.le_refl _, ?_⟩
    · unfold AH.cell
      rw [AH.set_get, if_neg n1, hv.acc]; rfl
    · rw [AH.set_get, if_neg n1, hv.acc]
    refine roundQ_intro (st := .busy) (pe := none) (frs := frs) (ps := #[8, 9]) (a' := cdOf Tryz.f221 [1, 1, 0, 1, 0, 0]) (b' := cdOf Tryz.f221 [1, 1, 0, 1, 0, 1]) ?_ ?_
    · rw [AH.set_get, if_neg n3, AH.set_get, if_pos rfl]
    refine ⟨true, rfl, ?_⟩
    simp only [Bool.not_true, cond_false, AExit.then]
    refine ⟨q, Nat.lt_succ_self q, _, by omega, frame_eq ⟨rfl, rfl, ?_, trivial⟩, ?_⟩
    · show AV.int _ (IntKind.i64.wrap ((q : Int) - 1)) = _
      rw [wrap64_in (by omega) (by omega)]
    · refine ⟨hv.next, fun b' hb' => ?_, ?_, ?_, ?_⟩
      · have m1 : ¬ (b' = σ0.next + 2) := by omega
        have m2 : ¬ (b' = σ0.next) := by omega
        rw [AH.set_get, if_neg m1, AH.set_get, if_neg m2, AH.set_get, if_neg m1]
        exact hv.old b' hb'
      · rw [AH.set_get, if_neg n1, AH.set_get, if_pos rfl, drop_cons hx]
        rfl
      · rw [AH.set_get, if_neg n2, AH.set_get, if_neg n4, AH.set_get, if_neg n2]
        exact hv.box
      · rw [AH.set_get, if_pos rfl]
theorem number_acall {a : Option (Nat × Nat)} {n : Nat} {c : Cp} {l : List UInt8} {σ : AH} (hl : bytesAt σ a n l) (hn : n < 2 ^ 62) {K : AV → AH → Prop} (hK : K (.int .u64 (numR l)) σ) : ACall Tryz.prog [] 221 [.slice a n c] σ K := by
  refine ACall.pure (v := .int .u64 (numR l)) rfl ?_ hK
  refine ACall.of_body (C := vmR) (wide := true) Tryz.func221 rfl rfl ?_
  refine Eq.mp (number0 a n c σ _) ?_
  refine ⟨[.int .u64 0], .exact 1, by simp, rfl, by simp, ?_⟩
  refine ACall.of_body (C := vmR) (wide := true) Tryz.func263 rfl rfl ?_
  refine Eq.mp (back0 a n c _ _) ?_
  simp only [AH.set_next, AH.alloc_next, layL, List.set]
  refine rangeFunc_intro (gid := 283) (first := []) (cap := [.ptr (some (σ.next + 1, 0))]) (a := cdOf Tryz.f221 [1, 1, 0, 1, 0, 0]) (b := cdOf Tryz.f221 [1, 1, 0, 1, 0, 1]) (g := .tmp 7) (ps := #[8, 9]) (by kernel_rfl) rfl (by kernel_rfl) ?_
  simp only [AH.set_next, AH.alloc_next, List.nil_append, List.cons_append]
  generalize hfr : (setFr (setFr (setFr (setFr (setFr (initL [AV.slice a n c]) (some 2) (AV.int IntKind.u64 0)) (some 3) (AV.ptr (some (σ.next, 0)))) Option.none (AV.tuple [])) (some 6) (AV.slice a n c)) (some 7) (AV.func 283 [] [AV.ptr (some (σ.next + 1, 0))])) = fr
  have hfr3 : fr 3 = .ptr (some (σ.next, 0)) := by rw [← hfr]; rfl
  have n1 : ¬ (σ.next = σ.next + 2) := by omega
  have n2 : ¬ (σ.next + 1 = σ.next + 2) := by omega
  have n3 : ¬ (σ.next + 1 = σ.next) := by omega
  have n4 : ¬ (σ.next = σ.next + 1) := by omega
  refine backs_acall (σ0 := σ) (c := c) hl hn (by simp) (frs := List.map fr (List.range 16)) (by rw [← hfr3]; rfl) ⟨rfl, fun b hb => ?_, ?_, ?_, ?_⟩ fun v σ' hv => ?_
  · have m1 : ¬ (b = σ.next + 2) := by omega
    have m2 : ¬ (b = σ.next + 1) := by omega
    have m3 : ¬ (b = σ.next) := by omega
    simp [m1, m2, m3]
  · simp [n1, n4]
  · simp [n2]
  · simp
  unfold afterLoop
  rw [hv.loop]
  show AExit.inBlock 0 _ _ _ _
  simp only [AExit.inBlock, AExit.then]
  refine codeVc_on [(3, .ptr (some (σ.next, 0)))] ⟨hfr3, trivial⟩ (Eq.mp (number4 _ _ _ _) ?_)
  refine ⟨numR l, ?_, rfl, ?_⟩
  · unfold AH.cell
    rw [AH.kill_get, if_neg n1, hv.acc]; rfl
  · refine ⟨by rw [AH.kill_next, hv.next]; omega, fun b hb => ?_⟩
    rw [AH.kill_get, if_neg (by omega)]
    exact hv.old b hb
end Go.Proofs.YthpngchngnaloaaGreatDoor
