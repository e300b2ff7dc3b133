import Derived.Test.YtjilebpcaemopaaGreatDoorAbsK
import Derived.Test.YtjilebpcaemopaaGreatDoorProg
import Derived.KernelRfl
set_option maxRecDepth 100000
set_option linter.unusedVariables false
namespace Go.Proofs.AtD
open Go Go.Abs

theorem mixed : Go.Proofs.Tryz.prog.follows .mixedOrders = true := by kernel_rfl

/-- enclave/enclaveref13.All -/
def F14 (t0 : AV) (σ : AHeap) (k kp : AV → AHeap → Prop) : Prop :=
  stepK (aBox t0 σ) fun t1 σ =>
  stepK (pureR σ (aLoad true 19 t1 σ)) fun t5 σ =>
  stepK (aBuildSlice 1 19 [.val (.int .u8 0), .val (.int .u8 0), .val (.int .i64 0), .val (.int .i64 0), .val (.string ByteArray.empty), .val (.string ByteArray.empty), .val (.string ByteArray.empty), .val (.int .i64 0), .val (.slice none 0 0), .val (.slice none 0 0), .val (.int .u8 0), .val (.int .i64 0), .val (.slice none 0 0), .val (.slice none 0 0), .val (.int .u8 0), .val (.int .i64 0), .val (.slice none 0 0), .val (.slice none 0 0), .val (.slice none 0 0)] [(0, t5)] σ) fun t6 σ =>
  seqW (fun fr σ => (
  k (Abs.look fr 3) σ
  )) (fun j1 => (
  stepK (pureR σ (aFieldAddr 18 t1)) fun t7 σ =>
  stepK (pureR σ (aLoad false 1 t7 σ)) fun t8 σ =>
  stepK (pureR σ (aLenK .slice t8 σ)) fun t9 σ =>
  loopW (fun fr σ again => (
  stepK (pureR σ (aBin .lss .prim (Abs.look fr 10) (Abs.look fr 9))) fun t11 σ =>
  condK t11 (
  stepK (pureR σ (aFieldAddr 18 (Abs.look fr 1))) fun t14 σ =>
  stepK (pureR σ (aLoad false 1 t14 σ)) fun t15 σ =>
  stepK (pureR σ (aIndexAddr 19 t15 (Abs.look fr 10) σ)) fun t17 σ =>
  stepK (pureR σ (aLoad true 19 t17 σ)) fun t18 σ =>
  Ev Go.Proofs.Tryz.prog 14 [t18] σ (fun t19 σ =>
  stepK (aAppend 19 280 (Abs.look fr 3) t19 σ) fun t20 σ =>
  stepK (pureR σ (aBin .add .prim (Abs.look fr 10) (.val (Go.Value.int Go.IntKind.i64 1)))) fun t21 σ =>
  again [(1, (Abs.look fr 1)), (3, t20), (9, (Abs.look fr 9)), (10, t21)] σ
  ) kp) (
  j1 [(3, (Abs.look fr 3))] σ
  )
  )) [(1, t1), (3, t6), (9, t9), (10, (.val (Go.Value.int Go.IntKind.i64 0)))] σ
  ))
def keep14 : List (Nat × List Nat) := [(0, [1]), (1, [1, 3]), (3008, [3]), (2, [1, 3, 9, 10]), (3, [1, 3, 9, 10, 11]), (4, [1, 3, 4, 9, 10]), (5, [1, 3, 9, 10]), (6, [1, 3, 9, 10]), (1003, [1, 3, 9, 10]), (7, [2])]
noncomputable def body14 : Code := (Go.Proofs.Tryz.f14).body.getD .skip
theorem F14_eq (t0 : AV) (σ : AHeap) (k kp : AV → AHeap → Prop) : aw Go.Proofs.Tryz.prog (keepOf keep14) body14 (retK Go.Proofs.Tryz.prog (Go.Proofs.Tryz.f14).results.toList k kp) (frameOf 0 [t0]) σ = F14 t0 σ k kp := by kernel_rfl
theorem F14_ev {t0 : AV} {σ : AHeap} {k kp : AV → AHeap → Prop} (h : F14 t0 σ k kp) : Ev Go.Proofs.Tryz.prog 14 [t0] σ k kp :=
  Ev_of_aw mixed Go.Proofs.Tryz.func14 (show (Go.Proofs.Tryz.f14).body = some body14 by kernel_rfl) (by kernel_rfl) (args := [t0]) (of_decide_eq_true (by kernel_rfl)) (keepOf keep14) (by kernel_rfl) (by rw [F14_eq]; exact h)

end Go.Proofs.AtD
