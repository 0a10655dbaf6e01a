/- check.halves, over the abstract machine. Conditions: none. -/
import Derived.Test.YthpngchngnaloaaGreatDoorVmL
import Derived.Test.YthpngchngnaloaaGreatDoorVmM
import Derived.Test.YthpngchngnaloaaGreatDoorChecked
import Derived.KernelRfl
namespace Go.Proofs.YthpngchngnaloaaGreatDoor
open Go.Proofs.YthpngchngnaloaaGreatDoor.Vm
set_option maxRecDepth 100000
theorem mixedR : Tryz.prog.follows .mixedOrders = true := by kernel_rfl
noncomputable def vmR : Cx := cxR Tryz.prog mixedR
theorem halves0 (n : Int) (many : Int) (σ : AH) (K : AV → AH → Prop) : (codeVc vmR [] true 17 (cdOf Tryz.f218 [1, 0, 1, 0, 0]).loop
  (AExit.inBlock 0
    (AExit.then (codeVc vmR [] true 17 (cdOf Tryz.f218 [1, 1]) (retQ vmR Tryz.f218 K)) (retQ vmR Tryz.f218 K)))
  (setFr
    (setFr (setFr (initL [AV.int IntKind.u32 n, AV.int IntKind.i64 many]) (some 4) (AV.int IntKind.u32 0)) (some 5)
      (AV.int IntKind.i64 many))
    (some 6) (AV.int IntKind.i64 0))
  σ) = (bodyVc vmR [] true Tryz.f218 (cdOf Tryz.f218 []) [AV.int IntKind.u32 n, AV.int IntKind.i64 many] σ K) := by kernel_rfl
theorem halves1 (n : Int) (many : Int) (i : Int) (g : Fr) (σ : AH) (Q : AExit → Fr → AH → Prop) : (bif decide (i < many) then
  Q AExit.normal
    (setFr
      (setFr
        (setFr
          (setFr
            (setFr
              (setFr
                (setFr
                  (setFr
                    (setFr
                      (setFr
                        (setFr
                          (setAll g
                            [(0, AV.int IntKind.u32 n), (5, AV.int IntKind.i64 many), (6, AV.int IntKind.i64 i)])
                          (some 7) (AV.bool (decide (i < many))))
                        (some 8) (AV.int IntKind.u32 n))
                      (some 9) (AV.int IntKind.u32 (n.fdiv (2 ^ min (Int.toNat 1) IntKind.u32.bits))))
                    (some 10) (AV.int IntKind.u32 n))
                  (some 11) (AV.int IntKind.u32 (bitsOf (fun _ => BitVec.and) IntKind.u32 n 1)))
                (some 12) (AV.int IntKind.u32 (IntKind.u32.wrap (0 - bitsOf (fun _ => BitVec.and) IntKind.u32 n 1))))
              (some 13)
              (AV.int IntKind.u32
                (bitsOf (fun _ => BitVec.and) IntKind.u32 2197175160
                  (IntKind.u32.wrap (0 - bitsOf (fun _ => BitVec.and) IntKind.u32 n 1)))))
            (some 14)
            (AV.int IntKind.u32
              (bitsOf (fun _ => BitVec.xor) IntKind.u32 (n.fdiv (2 ^ min (Int.toNat 1) IntKind.u32.bits))
                (bitsOf (fun _ => BitVec.and) IntKind.u32 2197175160
                  (IntKind.u32.wrap (0 - bitsOf (fun _ => BitVec.and) IntKind.u32 n 1))))))
          (some 0)
          (AV.int IntKind.u32
            (bitsOf (fun _ => BitVec.xor) IntKind.u32 (n.fdiv (2 ^ min (Int.toNat 1) IntKind.u32.bits))
              (bitsOf (fun _ => BitVec.and) IntKind.u32 2197175160
                (IntKind.u32.wrap (0 - bitsOf (fun _ => BitVec.and) IntKind.u32 n 1))))))
        (some 15) (AV.int IntKind.i64 (IntKind.i64.wrap (i + 1))))
      (some 6) (AV.int IntKind.i64 (IntKind.i64.wrap (i + 1))))
    σ
else
  Q (AExit.exit 0)
    (setFr (setAll g [(0, AV.int IntKind.u32 n), (5, AV.int IntKind.i64 many), (6, AV.int IntKind.i64 i)]) (some 7)
      (AV.bool (decide (i < many))))
    σ) = (codeVc vmR [] true 17 (cdOf Tryz.f218 [1, 0, 1, 0, 0]) Q
  (setAll g [(0, AV.int IntKind.u32 n), (5, AV.int IntKind.i64 many), (6, AV.int IntKind.i64 i)]) σ) := by kernel_rfl
theorem halves2 (n : Int) (g : Fr) (σ : AH) (K : AV → AH → Prop) : (K (AV.int IntKind.u32 n) σ) = (codeVc vmR [] true 17 (cdOf Tryz.f218 [1, 1]) (retQ vmR Tryz.f218 K) (setAll g [(0, AV.int IntKind.u32 n)]) σ) := by kernel_rfl

theorem wrap_i64 {k : Nat} (h : k < 2 ^ 63) : IntKind.i64.wrap ((k : Int)) = k := by
  unfold IntKind.wrap
  simp [IntKind.signed, IntKind.bits] <;> omega
theorem halves_acall (n : Int) (k : Nat) (hk : k < 2 ^ 62) {σ : AH} {K : AV → AH → Prop} (hK : K (.int .u32 (halvesI k n)) σ) : ACall Tryz.prog [] 218 [.int .u32 n, .int .i64 k] σ K := by
  refine ACall.of_body (C := vmR) (wide := true) Tryz.func218 rfl rfl ?_
  refine Eq.mp (halves0 n k σ K) ?_
  refine loop_intro (fun j fr σ' => ∃ (i : Nat) (g : Fr), i + j = k ∧ fr = setAll g [(0, .int .u32 (halvesI i n)), (5, .int .i64 k), (6, .int .i64 i)] ∧ σ' = σ) k ⟨0, _, Nat.zero_add _, frame_eq ⟨rfl, rfl, rfl, trivial⟩, rfl⟩ ?_
  rintro j fr σ' ⟨i, g, hij, rfl, rfl⟩
  refine Eq.mp (halves1 _ _ _ g _ _) ?_
  cases hlt : decide ((i : Int) < k) with
  | true =>
    simp only [decide_eq_true_eq] at hlt
    refine ⟨j - 1, by omega, i + 1, _, by omega, frame_eq ⟨rfl, rfl, ?_, trivial⟩, rfl⟩
    show AV.int IntKind.i64 (IntKind.i64.wrap ((i : Int) + 1)) = AV.int .i64 ((i + 1 : Nat) : Int)
    rw [show (i : Int) + 1 = ((i + 1 : Nat) : Int) by omega, wrap_i64 (by omega)]
  | false =>
    have hik : i = k := by
      have : ¬ ((i : Int) < k) := by simpa using hlt
      omega
    subst hik
    simp only [cond_false, AExit.inBlock, if_true, AExit.then]
    exact codeVc_on [(0, .int .u32 (halvesI i n))] ⟨rfl, trivial⟩ (Eq.mp (halves2 _ _ _ _) hK)
end Go.Proofs.YthpngchngnaloaaGreatDoor
