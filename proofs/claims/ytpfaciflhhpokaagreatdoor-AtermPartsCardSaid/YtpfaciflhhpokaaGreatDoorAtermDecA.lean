import Derived.Test.YtpfaciflhhpokaaGreatDoorAbsL
import Derived.Test.YtpfaciflhhpokaaGreatDoorProg
import Derived.KernelRfl
set_option maxRecDepth 100000
set_option linter.unusedVariables false
namespace Go.Proofs.AtD
open Go Go.Abs

theorem mixed : Go.Proofs.Tryz.prog.follows .mixedOrders = true := by kernel_rfl

/-- enclave/enclavelaw13.AtermErase -/
def F4 (t0 t1 : AV) (σ : AHeap) (k kp : AV → AHeap → Prop) : Prop :=
  stepK (aBox t0 σ) fun t2 σ =>
  stepK (pureR σ (aLoad true 19 t2 σ)) fun t7 σ =>
  Ev Go.Proofs.Tryz.prog 9 [t7] σ (fun t8 σ =>
  condK t8 (
  Ev Go.Proofs.Tryz.prog 10 [] σ (fun t9 σ =>
  k t9 σ
  ) kp) (
  stepK (pureR σ (aBuild [.val (.int .u8 0), .val (.int .u8 0), .val (.int .i64 0), .val (.int .i64 0), .val (.string ByteArray.empty), .val (.string ByteArray.empty), .val (.string ByteArray.empty)] [(0, 1, (.val (Go.Value.int Go.IntKind.u8 17)))])) fun t10 σ =>
  stepK (pureR σ (aLoad true 19 t2 σ)) fun t12 σ =>
  stepK (pureR σ (aBuildSl 1 19 [.val (.int .u8 0), .val (.int .u8 0), .val (.int .i64 0), .val (.int .i64 0), .val (.string ByteArray.empty), .val (.string ByteArray.empty), .val (.string ByteArray.empty), .val (.int .i64 0), .val (.slice none 0 0), .val (.slice none 0 0), .val (.int .u8 0), .val (.int .i64 0), .val (.slice none 0 0), .val (.slice none 0 0), .val (.int .u8 0), .val (.int .i64 0), .val (.slice none 0 0), .val (.slice none 0 0), .val (.slice none 0 0)] [(0, t12)])) fun t13 σ =>
  stepK (pureR σ (aBuild [.val (.int .u8 0), .val (.int .u8 0), .val (.int .i64 0), .val (.int .i64 0), .val (.string ByteArray.empty), .val (.string ByteArray.empty), .val (.string ByteArray.empty), .val (.int .i64 0), .val (.slice none 0 0), .val (.slice none 0 0), .val (.int .u8 0), .val (.int .i64 0), .val (.slice none 0 0), .val (.slice none 0 0), .val (.int .u8 0), .val (.int .i64 0), .val (.slice none 0 0), .val (.slice none 0 0), .val (.slice none 0 0)] [(0, 7, t10), (7, 1, t1), (18, 1, t13)])) fun t14 σ =>
  stepK (aAlloc [.val (.int .u8 0), .val (.int .u8 0), .val (.int .i64 0), .val (.int .i64 0), .val (.string ByteArray.empty), .val (.string ByteArray.empty), .val (.string ByteArray.empty), .val (.int .i64 0), .val (.slice none 0 0), .val (.slice none 0 0), .val (.int .u8 0), .val (.int .i64 0), .val (.slice none 0 0), .val (.slice none 0 0), .val (.int .u8 0), .val (.int .i64 0), .val (.slice none 0 0), .val (.slice none 0 0), .val (.slice none 0 0)] σ) fun t5 σ =>
  stepK (unitR (aStore 19 t5 t14 σ)) fun _ σ =>
  stepK (pureR σ (aLoad true 19 t2 σ)) fun t15 σ =>
  Ev Go.Proofs.Tryz.prog 13 [t15] σ (fun t16 σ =>
  stepK (aAlloc [.val (.int .u8 0), .val (.int .u8 0), .val (.int .i64 0), .val (.int .i64 0), .val (.string ByteArray.empty), .val (.string ByteArray.empty), .val (.string ByteArray.empty), .val (.slice none 0 0)] σ) fun t6 σ =>
  stepK (unitR (aStore 8 t6 t16 σ)) fun _ σ =>
  stepK (pureR σ (aLoad true 19 t2 σ)) fun t17 σ =>
  stepK (pureR σ (aLoad true 8 t6 σ)) fun t19 σ =>
  Ev Go.Proofs.Tryz.prog 15 [t17] σ (fun t18 σ =>
  (stepK (pureR σ (aLoad true 8 t6 σ)) (fun y θ => y = t19 ∧ θ = σ)) ∧ (
  Ev Go.Proofs.Tryz.prog 14 [t18, t19] σ (fun t20 σ =>
  gK t20 true (fun K => stepK (pureR σ (aLoad true 19 t5 σ)) K) (fun t22 σ =>
  gK t20 true (fun K => stepK (pureR σ (aLoad true 8 t6 σ)) K) (fun t24 σ =>
  gK t20 true (fun K => Ev Go.Proofs.Tryz.prog 15 [t22] σ K kp) (fun t23 σ =>
  (gK t20 true (fun K => stepK (pureR σ (aLoad true 8 t6 σ)) K) (fun y θ => y = t24 ∧ θ = σ) σ) ∧ (
  gK t20 true (fun K => Ev Go.Proofs.Tryz.prog 14 [t23, t24] σ K kp) (fun t25 σ =>
  stepK (pureR σ (aPick t20 t25 (.val (Go.Value.bool Bool.false)))) fun t26 σ =>
  gK t26 true (fun K => Ev Go.Proofs.Tryz.prog 10 [] σ K kp) (fun t28 σ =>
  stepK (pureR σ (aPick t26 t28 (.val (Go.Value.bool Bool.false)))) fun t29 σ =>
  k t29 σ
  ) σ) σ)) σ) σ) σ) kp)) kp) kp)) kp
def keep4 : List (Nat × List Nat) := [(0, [1, 2]), (1, [1, 2, 8]), (2, [4]), (3, [2, 5]), (4003, [1]), (4, [2, 5, 6]), (5, [4]), (2005, [0, 2, 1, 3, 4, 5, 7, 6, 8, 9, 10, 11, 12, 13]), (105001, [2]), (105006, [7])]
noncomputable def body4 : Code := (Go.Proofs.Tryz.f4).body.getD .skip
theorem F4_eq (t0 t1 : AV) (σ : AHeap) (k kp : AV → AHeap → Prop) : aw Go.Proofs.Tryz.prog (keepOf keep4) body4 (retK Go.Proofs.Tryz.prog (Go.Proofs.Tryz.f4).results.toList k kp) (frameOf 0 [t0, t1]) σ = F4 t0 t1 σ k kp := by kernel_rfl
theorem F4_ev {t0 t1 : AV} {σ : AHeap} {k kp : AV → AHeap → Prop} (h : F4 t0 t1 σ k kp) : Ev Go.Proofs.Tryz.prog 4 [t0, t1] σ k kp :=
  Ev_of_aw mixed Go.Proofs.Tryz.func4 (show (Go.Proofs.Tryz.f4).body = some body4 by kernel_rfl) (by kernel_rfl) (args := [t0, t1]) (of_decide_eq_true (by kernel_rfl)) (keepOf keep4) (by kernel_rfl) (by rw [F4_eq]; exact h)

/-- enclave/enclaveref13.Great -/
def F9 (t0 : AV) (σ : AHeap) (k kp : AV → AHeap → Prop) : Prop :=
  stepK (aBox t0 σ) fun t1 σ =>
  stepK (pureR σ (aLoad true 19 t1 σ)) fun t3 σ =>
  Ev Go.Proofs.Tryz.prog 28 [t3, (.val (Go.Value.int Go.IntKind.i64 400))] σ (fun t4 σ =>
  stepK (pureR σ (aBin .lss .prim t4 (.val (Go.Value.int Go.IntKind.i64 0)))) fun t5 σ =>
  k t5 σ) kp
def keep9 : List (Nat × List Nat) := [(0, [1]), (1, [2])]
noncomputable def body9 : Code := (Go.Proofs.Tryz.f9).body.getD .skip
theorem F9_eq (t0 : AV) (σ : AHeap) (k kp : AV → AHeap → Prop) : aw Go.Proofs.Tryz.prog (keepOf keep9) body9 (retK Go.Proofs.Tryz.prog (Go.Proofs.Tryz.f9).results.toList k kp) (frameOf 0 [t0]) σ = F9 t0 σ k kp := by kernel_rfl
theorem F9_ev {t0 : AV} {σ : AHeap} {k kp : AV → AHeap → Prop} (h : F9 t0 σ k kp) : Ev Go.Proofs.Tryz.prog 9 [t0] σ k kp :=
  Ev_of_aw mixed Go.Proofs.Tryz.func9 (show (Go.Proofs.Tryz.f9).body = some body9 by kernel_rfl) (by kernel_rfl) (args := [t0]) (of_decide_eq_true (by kernel_rfl)) (keepOf keep9) (by kernel_rfl) (by rw [F9_eq]; exact h)

/-- enclave/enclavelaw13.awake -/
def F10 (σ : AHeap) (k kp : AV → AHeap → Prop) : Prop :=
  stepK (pureR σ (aBuild [.val (.int .u8 0), .val (.int .u8 0), .val (.int .i64 0), .val (.int .i64 0), .val (.string ByteArray.empty), .val (.string ByteArray.empty), .val (.string ByteArray.empty)] [(0, 1, (.val (Go.Value.int Go.IntKind.u8 1)))])) fun t6 σ =>
  stepK (pureR σ (aBuild [.val (.int .u8 0), .val (.int .u8 0), .val (.int .i64 0), .val (.int .i64 0), .val (.string ByteArray.empty), .val (.string ByteArray.empty), .val (.string ByteArray.empty), .val (.int .i64 0), .val (.slice none 0 0), .val (.slice none 0 0), .val (.int .u8 0), .val (.int .i64 0), .val (.slice none 0 0), .val (.slice none 0 0), .val (.int .u8 0), .val (.int .i64 0), .val (.slice none 0 0), .val (.slice none 0 0), .val (.slice none 0 0)] [(0, 7, t6)])) fun t7 σ =>
  stepK (aAlloc [.val (.int .u8 0), .val (.int .u8 0), .val (.int .i64 0), .val (.int .i64 0), .val (.string ByteArray.empty), .val (.string ByteArray.empty), .val (.string ByteArray.empty), .val (.int .i64 0), .val (.slice none 0 0), .val (.slice none 0 0), .val (.int .u8 0), .val (.int .i64 0), .val (.slice none 0 0), .val (.slice none 0 0), .val (.int .u8 0), .val (.int .i64 0), .val (.slice none 0 0), .val (.slice none 0 0), .val (.slice none 0 0)] σ) fun t1 σ =>
  stepK (unitR (aStore 19 t1 t7 σ)) fun _ σ =>
  stepK (pureR σ (aBuild [.val (.int .u8 0), .val (.int .u8 0), .val (.int .i64 0), .val (.int .i64 0), .val (.string ByteArray.empty), .val (.string ByteArray.empty), .val (.string ByteArray.empty)] [(0, 1, (.val (Go.Value.int Go.IntKind.u8 3)))])) fun t8 σ =>
  stepK (pureR σ (aLoad true 19 t1 σ)) fun t9 σ =>
  stepK (pureR σ (aLoad true 19 t1 σ)) fun t10 σ =>
  stepK (pureR σ (aBuildSl 2 19 [.val (.int .u8 0), .val (.int .u8 0), .val (.int .i64 0), .val (.int .i64 0), .val (.string ByteArray.empty), .val (.string ByteArray.empty), .val (.string ByteArray.empty), .val (.int .i64 0), .val (.slice none 0 0), .val (.slice none 0 0), .val (.int .u8 0), .val (.int .i64 0), .val (.slice none 0 0), .val (.slice none 0 0), .val (.int .u8 0), .val (.int .i64 0), .val (.slice none 0 0), .val (.slice none 0 0), .val (.slice none 0 0)] [(0, t9), (1, t10)])) fun t11 σ =>
  stepK (pureR σ (aBuild [.val (.int .u8 0), .val (.int .u8 0), .val (.int .i64 0), .val (.int .i64 0), .val (.string ByteArray.empty), .val (.string ByteArray.empty), .val (.string ByteArray.empty), .val (.int .i64 0), .val (.slice none 0 0), .val (.slice none 0 0), .val (.int .u8 0), .val (.int .i64 0), .val (.slice none 0 0), .val (.slice none 0 0), .val (.int .u8 0), .val (.int .i64 0), .val (.slice none 0 0), .val (.slice none 0 0), .val (.slice none 0 0)] [(0, 7, t8), (7, 1, (.val (Go.Value.int Go.IntKind.i64 1))), (18, 1, t11)])) fun t12 σ =>
  stepK (aAlloc [.val (.int .u8 0), .val (.int .u8 0), .val (.int .i64 0), .val (.int .i64 0), .val (.string ByteArray.empty), .val (.string ByteArray.empty), .val (.string ByteArray.empty), .val (.int .i64 0), .val (.slice none 0 0), .val (.slice none 0 0), .val (.int .u8 0), .val (.int .i64 0), .val (.slice none 0 0), .val (.slice none 0 0), .val (.int .u8 0), .val (.int .i64 0), .val (.slice none 0 0), .val (.slice none 0 0), .val (.slice none 0 0)] σ) fun t2 σ =>
  stepK (unitR (aStore 19 t2 t12 σ)) fun _ σ =>
  stepK (pureR σ (aBuild [.val (.int .u8 0), .val (.int .u8 0), .val (.int .i64 0), .val (.int .i64 0), .val (.string ByteArray.empty), .val (.string ByteArray.empty), .val (.string ByteArray.empty)] [(0, 1, (.val (Go.Value.int Go.IntKind.u8 4)))])) fun t13 σ =>
  stepK (pureR σ (aLoad true 19 t2 σ)) fun t14 σ =>
  stepK (pureR σ (aBuildSl 1 19 [.val (.int .u8 0), .val (.int .u8 0), .val (.int .i64 0), .val (.int .i64 0), .val (.string ByteArray.empty), .val (.string ByteArray.empty), .val (.string ByteArray.empty), .val (.int .i64 0), .val (.slice none 0 0), .val (.slice none 0 0), .val (.int .u8 0), .val (.int .i64 0), .val (.slice none 0 0), .val (.slice none 0 0), .val (.int .u8 0), .val (.int .i64 0), .val (.slice none 0 0), .val (.slice none 0 0), .val (.slice none 0 0)] [(0, t14)])) fun t15 σ =>
  stepK (pureR σ (aBuild [.val (.int .u8 0), .val (.int .u8 0), .val (.int .i64 0), .val (.int .i64 0), .val (.string ByteArray.empty), .val (.string ByteArray.empty), .val (.string ByteArray.empty), .val (.int .i64 0), .val (.slice none 0 0), .val (.slice none 0 0), .val (.int .u8 0), .val (.int .i64 0), .val (.slice none 0 0), .val (.slice none 0 0), .val (.int .u8 0), .val (.int .i64 0), .val (.slice none 0 0), .val (.slice none 0 0), .val (.slice none 0 0)] [(0, 7, t13), (18, 1, t15)])) fun t16 σ =>
  stepK (aAlloc [.val (.int .u8 0), .val (.int .u8 0), .val (.int .i64 0), .val (.int .i64 0), .val (.string ByteArray.empty), .val (.string ByteArray.empty), .val (.string ByteArray.empty), .val (.int .i64 0), .val (.slice none 0 0), .val (.slice none 0 0), .val (.int .u8 0), .val (.int .i64 0), .val (.slice none 0 0), .val (.slice none 0 0), .val (.int .u8 0), .val (.int .i64 0), .val (.slice none 0 0), .val (.slice none 0 0), .val (.slice none 0 0)] σ) fun t3 σ =>
  stepK (unitR (aStore 19 t3 t16 σ)) fun _ σ =>
  stepK (pureR σ (aBuild [.val (.int .u8 0), .val (.int .u8 0), .val (.int .i64 0), .val (.int .i64 0), .val (.string ByteArray.empty), .val (.string ByteArray.empty), .val (.string ByteArray.empty)] [(0, 1, (.val (Go.Value.int Go.IntKind.u8 17)))])) fun t17 σ =>
  stepK (pureR σ (aLoad true 19 t3 σ)) fun t18 σ =>
  stepK (pureR σ (aBuildSl 1 19 [.val (.int .u8 0), .val (.int .u8 0), .val (.int .i64 0), .val (.int .i64 0), .val (.string ByteArray.empty), .val (.string ByteArray.empty), .val (.string ByteArray.empty), .val (.int .i64 0), .val (.slice none 0 0), .val (.slice none 0 0), .val (.int .u8 0), .val (.int .i64 0), .val (.slice none 0 0), .val (.slice none 0 0), .val (.int .u8 0), .val (.int .i64 0), .val (.slice none 0 0), .val (.slice none 0 0), .val (.slice none 0 0)] [(0, t18)])) fun t19 σ =>
  stepK (pureR σ (aBuild [.val (.int .u8 0), .val (.int .u8 0), .val (.int .i64 0), .val (.int .i64 0), .val (.string ByteArray.empty), .val (.string ByteArray.empty), .val (.string ByteArray.empty), .val (.int .i64 0), .val (.slice none 0 0), .val (.slice none 0 0), .val (.int .u8 0), .val (.int .i64 0), .val (.slice none 0 0), .val (.slice none 0 0), .val (.int .u8 0), .val (.int .i64 0), .val (.slice none 0 0), .val (.slice none 0 0), .val (.slice none 0 0)] [(0, 7, t17), (7, 1, (.val (Go.Value.int Go.IntKind.i64 1))), (18, 1, t19)])) fun t20 σ =>
  stepK (aAlloc [.val (.int .u8 0), .val (.int .u8 0), .val (.int .i64 0), .val (.int .i64 0), .val (.string ByteArray.empty), .val (.string ByteArray.empty), .val (.string ByteArray.empty), .val (.int .i64 0), .val (.slice none 0 0), .val (.slice none 0 0), .val (.int .u8 0), .val (.int .i64 0), .val (.slice none 0 0), .val (.slice none 0 0), .val (.int .u8 0), .val (.int .i64 0), .val (.slice none 0 0), .val (.slice none 0 0), .val (.slice none 0 0)] σ) fun t4 σ =>
  stepK (unitR (aStore 19 t4 t20 σ)) fun _ σ =>
  stepK (pureR σ (aLoad true 19 t4 σ)) fun t21 σ =>
  Ev Go.Proofs.Tryz.prog 15 [t21] σ (fun t22 σ =>
  stepK (aAlloc [.val (.int .u8 0), .val (.int .u8 0), .val (.int .i64 0), .val (.int .i64 0), .val (.string ByteArray.empty), .val (.string ByteArray.empty), .val (.string ByteArray.empty), .val (.slice none 0 0)] σ) fun t5 σ =>
  stepK (unitR (aStore 8 t5 t22 σ)) fun _ σ =>
  stepK (pureR σ (aLoad true 19 t4 σ)) fun t23 σ =>
  Ev Go.Proofs.Tryz.prog 11 [t23] σ (fun t24 σ =>
  gK t24 true (fun K => stepK (pureR σ (aLoad true 19 t4 σ)) K) (fun t26 σ =>
  gK t24 true (fun K => stepK (pureR σ (aBuildSl 1 19 [.val (.int .u8 0), .val (.int .u8 0), .val (.int .i64 0), .val (.int .i64 0), .val (.string ByteArray.empty), .val (.string ByteArray.empty), .val (.string ByteArray.empty), .val (.int .i64 0), .val (.slice none 0 0), .val (.slice none 0 0), .val (.int .u8 0), .val (.int .i64 0), .val (.slice none 0 0), .val (.slice none 0 0), .val (.int .u8 0), .val (.int .i64 0), .val (.slice none 0 0), .val (.slice none 0 0), .val (.slice none 0 0)] [(0, t26)])) K) (fun t27 σ =>
  gK t24 true (fun K => Ev Go.Proofs.Tryz.prog 21 [t27] σ K kp) (fun t28 σ =>
  gK t24 true (fun K => stepK (pureR σ (aBin .eql .prim t28 (.val (Go.Value.int Go.IntKind.i64 5)))) K) (fun t29 σ =>
  stepK (pureR σ (aPick t24 t29 (.val (Go.Value.bool Bool.false)))) fun t30 σ =>
  gK t30 true (fun K => stepK (pureR σ (aFieldAddr 0 t5)) K) (fun t32 σ =>
  gK t30 true (fun K => stepK (pureR σ (aFieldAddr 0 t32)) K) (fun t33 σ =>
  gK t30 true (fun K => stepK (pureR σ (aLoad false 1 t33 σ)) K) (fun t34 σ =>
  gK t30 true (fun K => stepK (pureR σ (aBin .eql .prim t34 (.val (Go.Value.int Go.IntKind.u8 4)))) K) (fun t35 σ =>
  stepK (pureR σ (aPick t30 t35 (.val (Go.Value.bool Bool.false)))) fun t36 σ =>
  gK t36 true (fun K => stepK (pureR σ (aFieldAddr 7 t5)) K) (fun t38 σ =>
  gK t36 true (fun K => stepK (pureR σ (aLoad false 1 t38 σ)) K) (fun t39 σ =>
  gK t36 true (fun K => stepK (pureR σ (aLenK .slice t39 σ)) K) (fun t40 σ =>
  gK t36 true (fun K => stepK (pureR σ (aBin .eql .prim t40 (.val (Go.Value.int Go.IntKind.i64 1)))) K) (fun t41 σ =>
  stepK (pureR σ (aPick t36 t41 (.val (Go.Value.bool Bool.false)))) fun t42 σ =>
  gK t42 true (fun K => stepK (pureR σ (aFieldAddr 7 t5)) K) (fun t44 σ =>
  gK t42 true (fun K => stepK (pureR σ (aLoad false 1 t44 σ)) K) (fun t45 σ =>
  gK t42 true (fun K => stepK (pureR σ (aIndexAddr 8 t45 (.val (Go.Value.int Go.IntKind.i64 0)) σ)) K) (fun t46 σ =>
  gK t42 true (fun K => stepK (pureR σ (aFieldAddr 0 t46)) K) (fun t47 σ =>
  gK t42 true (fun K => stepK (pureR σ (aFieldAddr 0 t47)) K) (fun t48 σ =>
  gK t42 true (fun K => stepK (pureR σ (aLoad false 1 t48 σ)) K) (fun t49 σ =>
  gK t42 true (fun K => stepK (pureR σ (aBin .eql .prim t49 (.val (Go.Value.int Go.IntKind.u8 3)))) K) (fun t50 σ =>
  stepK (pureR σ (aPick t42 t50 (.val (Go.Value.bool Bool.false)))) fun t51 σ =>
  k t51 σ) σ) σ) σ) σ) σ) σ) σ) σ) σ) σ) σ) σ) σ) σ) σ) σ) σ) σ) σ) kp) kp
def keep10 : List (Nat × List Nat) := [(0, []), (1, [1]), (2, [2]), (4002, [1]), (3, [3]), (4003, [1]), (4, [4]), (4004, [1]), (5, [4, 5]), (6, [0]), (4006, [1])]
noncomputable def body10 : Code := (Go.Proofs.Tryz.f10).body.getD .skip
theorem F10_eq (σ : AHeap) (k kp : AV → AHeap → Prop) : aw Go.Proofs.Tryz.prog (keepOf keep10) body10 (retK Go.Proofs.Tryz.prog (Go.Proofs.Tryz.f10).results.toList k kp) (frameOf 0 []) σ = F10 σ k kp := by kernel_rfl
theorem F10_ev {σ : AHeap} {k kp : AV → AHeap → Prop} (h : F10 σ k kp) : Ev Go.Proofs.Tryz.prog 10 [] σ k kp :=
  Ev_of_aw mixed Go.Proofs.Tryz.func10 (show (Go.Proofs.Tryz.f10).body = some body10 by kernel_rfl) (by kernel_rfl) (args := []) (of_decide_eq_true (by kernel_rfl)) (keepOf keep10) (by kernel_rfl) (by rw [F10_eq]; exact h)

/-- enclave/aterm.May -/
def F11 (t0 : AV) (σ : AHeap) (k kp : AV → AHeap → Prop) : Prop :=
  stepK (aBox t0 σ) fun t1 σ =>
  stepK (pureR σ (aLoad true 19 t1 σ)) fun t3 σ =>
  stepK (pureR σ (aBuildSl 1 19 [.val (.int .u8 0), .val (.int .u8 0), .val (.int .i64 0), .val (.int .i64 0), .val (.string ByteArray.empty), .val (.string ByteArray.empty), .val (.string ByteArray.empty), .val (.int .i64 0), .val (.slice none 0 0), .val (.slice none 0 0), .val (.int .u8 0), .val (.int .i64 0), .val (.slice none 0 0), .val (.slice none 0 0), .val (.int .u8 0), .val (.int .i64 0), .val (.slice none 0 0), .val (.slice none 0 0), .val (.slice none 0 0)] [(0, t3)])) fun t4 σ =>
  Ev Go.Proofs.Tryz.prog 21 [t4] σ (fun t5 σ =>
  stepK (pureR σ (aBin .leq .prim t5 (.val (Go.Value.int Go.IntKind.i64 40000)))) fun t6 σ =>
  gK t6 true (fun K => stepK (pureR σ (aLoad true 19 t1 σ)) K) (fun t8 σ =>
  gK t6 true (fun K => stepK (pureR σ (aBuildSl 1 19 [.val (.int .u8 0), .val (.int .u8 0), .val (.int .i64 0), .val (.int .i64 0), .val (.string ByteArray.empty), .val (.string ByteArray.empty), .val (.string ByteArray.empty), .val (.int .i64 0), .val (.slice none 0 0), .val (.slice none 0 0), .val (.int .u8 0), .val (.int .i64 0), .val (.slice none 0 0), .val (.slice none 0 0), .val (.int .u8 0), .val (.int .i64 0), .val (.slice none 0 0), .val (.slice none 0 0), .val (.slice none 0 0)] [(0, t8)])) K) (fun t9 σ =>
  gK t6 true (fun K => Ev Go.Proofs.Tryz.prog 29 [(.fn (.func 30) []), t9] σ K kp) (fun t10 σ =>
  stepK (pureR σ (aPick t6 t10 (.val (Go.Value.bool Bool.false)))) fun t11 σ =>
  k t11 σ) σ) σ) σ) kp
def keep11 : List (Nat × List Nat) := [(0, [1]), (1, [2]), (4001, [1])]
noncomputable def body11 : Code := (Go.Proofs.Tryz.f11).body.getD .skip
theorem F11_eq (t0 : AV) (σ : AHeap) (k kp : AV → AHeap → Prop) : aw Go.Proofs.Tryz.prog (keepOf keep11) body11 (retK Go.Proofs.Tryz.prog (Go.Proofs.Tryz.f11).results.toList k kp) (frameOf 0 [t0]) σ = F11 t0 σ k kp := by kernel_rfl
theorem F11_ev {t0 : AV} {σ : AHeap} {k kp : AV → AHeap → Prop} (h : F11 t0 σ k kp) : Ev Go.Proofs.Tryz.prog 11 [t0] σ k kp :=
  Ev_of_aw mixed Go.Proofs.Tryz.func11 (show (Go.Proofs.Tryz.f11).body = some body11 by kernel_rfl) (by kernel_rfl) (args := [t0]) (of_decide_eq_true (by kernel_rfl)) (keepOf keep11) (by kernel_rfl) (by rw [F11_eq]; exact h)

/-- enclave/enclaveref13.Erase -/
def F13 (t0 : AV) (σ : AHeap) (k kp : AV → AHeap → Prop) : Prop :=
  stepK (aBox t0 σ) fun t1 σ =>
  stepK (aAlloc [.val (.int .u8 0), .val (.int .u8 0), .val (.int .i64 0), .val (.int .i64 0), .val (.string ByteArray.empty), .val (.string ByteArray.empty), .val (.string ByteArray.empty), .val (.slice none 0 0)] σ) fun t2 σ =>
  stepK (pureR σ (aFieldAddr 0 t1)) fun t5 σ =>
  stepK (pureR σ (aFieldAddr 0 t5)) fun t6 σ =>
  stepK (pureR σ (aLoad false 1 t6 σ)) fun t7 σ =>
  stepK (pureR σ (aBin .eql .prim t7 (.val (Go.Value.int Go.IntKind.u8 17)))) fun t8 σ =>
  gK t8 true (fun K => stepK (pureR σ (aFieldAddr 18 t1)) K) (fun t10 σ =>
  gK t8 true (fun K => stepK (pureR σ (aLoad false 1 t10 σ)) K) (fun t11 σ =>
  gK t8 true (fun K => stepK (pureR σ (aLenK .slice t11 σ)) K) (fun t12 σ =>
  gK t8 true (fun K => stepK (pureR σ (aBin .gtr .prim t12 (.val (Go.Value.int Go.IntKind.i64 0)))) K) (fun t13 σ =>
  stepK (pureR σ (aPick t8 t13 (.val (Go.Value.bool Bool.false)))) fun t14 σ =>
  condK t14 (
  stepK (pureR σ (aFieldAddr 18 t1)) fun t15 σ =>
  stepK (pureR σ (aLoad false 1 t15 σ)) fun t16 σ =>
  stepK (pureR σ (aIndexAddr 19 t16 (.val (Go.Value.int Go.IntKind.i64 0)) σ)) fun t17 σ =>
  stepK (pureR σ (aLoad true 19 t17 σ)) fun t18 σ =>
  Ev Go.Proofs.Tryz.prog 13 [t18] σ (fun t19 σ =>
  stepK (unitR (aStore 8 t2 t19 σ)) fun _ σ =>
  stepV (aLoad true 8 t2 σ) fun r0 =>
  k r0 σ
  ) kp) (
  stepK (pureR σ (aFieldAddr 0 t1)) fun t20 σ =>
  stepK (pureR σ (aLoad true 7 t20 σ)) fun t21 σ =>
  stepK (pureR σ (aBuild [.val (.int .u8 0), .val (.int .u8 0), .val (.int .i64 0), .val (.int .i64 0), .val (.string ByteArray.empty), .val (.string ByteArray.empty), .val (.string ByteArray.empty), .val (.slice none 0 0)] [(0, 7, t21)])) fun t22 σ =>
  stepK (aAlloc [.val (.int .u8 0), .val (.int .u8 0), .val (.int .i64 0), .val (.int .i64 0), .val (.string ByteArray.empty), .val (.string ByteArray.empty), .val (.string ByteArray.empty), .val (.slice none 0 0)] σ) fun t3 σ =>
  stepK (unitR (aStore 8 t3 t22 σ)) fun _ σ =>
  seqW (fun fr σ => (
  seqW (fun fr σ => (
  stepK (pureR σ (aLoad true 8 (Abs.look fr 3) σ)) fun t47 σ =>
  stepK (unitR (aStore 8 (Abs.look fr 2) t47 σ)) fun _ σ =>
  stepV (aLoad true 8 (Abs.look fr 2) σ) fun r0 =>
  k r0 σ
  )) (fun j2 => (
  stepK (pureR σ (aFieldAddr 18 (Abs.look fr 1))) fun t29 σ =>
  stepK (pureR σ (aLoad false 1 t29 σ)) fun t30 σ =>
  stepK (pureR σ (aLenK .slice t30 σ)) fun t31 σ =>
  loopW (fun fr σ again => (
  stepK (pureR σ (aBin .lss .prim (Abs.look fr 32) (Abs.look fr 31))) fun t33 σ =>
  condK t33 (
  stepK (pureR σ (aFieldAddr 7 (Abs.look fr 3))) fun t35 σ =>
  stepK (pureR σ (aLoad false 1 t35 σ)) fun t36 σ =>
  stepK (pureR σ (aFieldAddr 18 (Abs.look fr 1))) fun t37 σ =>
  stepK (pureR σ (aLoad false 1 t37 σ)) fun t38 σ =>
  stepK (pureR σ (aIndexAddr 19 t38 (Abs.look fr 32) σ)) fun t40 σ =>
  stepK (pureR σ (aLoad true 19 t40 σ)) fun t41 σ =>
  Ev Go.Proofs.Tryz.prog 13 [t41] σ (fun t42 σ =>
  (stepK (pureR σ (aLoad false 1 t35 σ)) (fun y θ => y = t36 ∧ θ = σ)) ∧ (
  stepK (pureR σ (aBuildSl 1 8 [.val (.int .u8 0), .val (.int .u8 0), .val (.int .i64 0), .val (.int .i64 0), .val (.string ByteArray.empty), .val (.string ByteArray.empty), .val (.string ByteArray.empty), .val (.slice none 0 0)] [(0, t42)])) fun t43 σ =>
  stepK (aAppend 8 96 t36 t43 σ) fun t44 σ =>
  stepK (pureR σ (aFieldAddr 7 (Abs.look fr 3))) fun t45 σ =>
  stepK (unitR (aStore 1 t45 t44 σ)) fun _ σ =>
  stepK (pureR σ (aBin .add .prim (Abs.look fr 32) (.val (Go.Value.int Go.IntKind.i64 1)))) fun t46 σ =>
  again [(1, (Abs.look fr 1)), (2, (Abs.look fr 2)), (3, (Abs.look fr 3)), (31, (Abs.look fr 31)), (32, t46)] σ
  )) kp) (
  j2 [(2, (Abs.look fr 2)), (3, (Abs.look fr 3))] σ
  )
  )) [(1, (Abs.look fr 1)), (2, (Abs.look fr 2)), (3, (Abs.look fr 3)), (31, t31), (32, (.val (Go.Value.int Go.IntKind.i64 0)))] σ
  ))
  )) (fun j1 => (
  stepK (pureR σ (aFieldAddr 0 t1)) fun t23 σ =>
  stepK (pureR σ (aFieldAddr 0 t23)) fun t24 σ =>
  stepK (pureR σ (aLoad false 1 t24 σ)) fun t25 σ =>
  stepK (pureR σ (aBin .eql .prim t25 (.val (Go.Value.int Go.IntKind.u8 18)))) fun t26 σ =>
  condK t26 (
  stepK (pureR σ (aFieldAddr 0 t3)) fun t27 σ =>
  stepK (pureR σ (aFieldAddr 0 t27)) fun t28 σ =>
  stepK (unitR (aStore 1 t28 (.val (Go.Value.int Go.IntKind.u8 2)) σ)) fun _ σ =>
  j1 [(1, t1), (2, t2), (3, t3)] σ
  ) (
  j1 [(1, t1), (2, t2), (3, t3)] σ
  )
  ))
  )) σ) σ) σ) σ
def keep13 : List (Nat × List Nat) := [(0, [1, 2]), (1, [1, 2, 14]), (2, [2]), (3, [1, 2, 3]), (3007, [1, 2, 3]), (4, [1, 2, 3, 26]), (5, [1, 2, 3]), (3012, [2, 3]), (6, [1, 2, 3, 31, 32]), (7, [1, 2, 3, 31, 32, 33]), (8, [1, 2, 3, 4, 31, 32]), (9, [1, 2, 3, 31, 32]), (2009, [0, 1, 2, 3, 4, 5, 6, 7, 8, 9, 10, 11]), (109007, [1]), (10, [1, 2, 3, 31, 32]), (1007, [1, 2, 3, 31, 32]), (11, [2])]
noncomputable def body13 : Code := (Go.Proofs.Tryz.f13).body.getD .skip
theorem F13_eq (t0 : AV) (σ : AHeap) (k kp : AV → AHeap → Prop) : aw Go.Proofs.Tryz.prog (keepOf keep13) body13 (retK Go.Proofs.Tryz.prog (Go.Proofs.Tryz.f13).results.toList k kp) (frameOf 0 [t0]) σ = F13 t0 σ k kp := by kernel_rfl
theorem F13_ev {t0 : AV} {σ : AHeap} {k kp : AV → AHeap → Prop} (h : F13 t0 σ k kp) : Ev Go.Proofs.Tryz.prog 13 [t0] σ k kp :=
  Ev_of_aw mixed Go.Proofs.Tryz.func13 (show (Go.Proofs.Tryz.f13).body = some body13 by kernel_rfl) (by kernel_rfl) (args := [t0]) (of_decide_eq_true (by kernel_rfl)) (keepOf keep13) (by kernel_rfl) (by rw [F13_eq]; exact h)

/-- enclave/enclaveref05.Equal -/
def F14 (t0 t1 : AV) (σ : AHeap) (k kp : AV → AHeap → Prop) : Prop :=
  stepK (aBox t0 σ) fun t2 σ =>
  stepK (aBox t1 σ) fun t3 σ =>
  stepK (pureR σ (aLoad true 8 t2 σ)) fun t8 σ =>
  stepK (pureR σ (aLoad true 8 t3 σ)) fun t9 σ =>
  Ev Go.Proofs.Tryz.prog 32 [t8, t9] σ (fun t10 σ =>
  stepK (pureR σ (aNot t10)) fun t11 σ =>
  condK t11 (
  k (.val (Go.Value.bool Bool.false)) σ
  ) (
  stepK (pureR σ (aLoad true 8 t2 σ)) fun t12 σ =>
  stepK (pureR σ (aLoad true 8 t3 σ)) fun t14 σ =>
  Ev Go.Proofs.Tryz.prog 17 [t12] σ (fun t13 σ =>
  (stepK (pureR σ (aLoad true 8 t3 σ)) (fun y θ => y = t14 ∧ θ = σ)) ∧ (
  Ev Go.Proofs.Tryz.prog 17 [t14] σ (fun t15 σ =>
  seqW (fun fr σ => (
  k (.val (Go.Value.bool Bool.true)) σ
  )) (fun j1 => (
  stepK (pureR σ (aLenK .slice t13 σ)) fun t17 σ =>
  loopW (fun fr σ again => (
  stepK (pureR σ (aBin .lss .prim (Abs.look fr 18) (Abs.look fr 17))) fun t19 σ =>
  condK t19 (
  stepK (pureR σ (aIndexAddr 8 (Abs.look fr 5) (Abs.look fr 18) σ)) fun t23 σ =>
  stepK (pureR σ (aFieldAddr 0 t23)) fun t24 σ =>
  stepK (pureR σ (aFieldAddr 2 t24)) fun t25 σ =>
  stepK (pureR σ (aLoad false 1 t25 σ)) fun t26 σ =>
  stepK (pureR σ (aIndexAddr 8 (Abs.look fr 6) (Abs.look fr 18) σ)) fun t29 σ =>
  stepK (pureR σ (aFieldAddr 0 t29)) fun t30 σ =>
  stepK (pureR σ (aFieldAddr 2 t30)) fun t31 σ =>
  stepK (pureR σ (aLoad false 1 t31 σ)) fun t32 σ =>
  stepK (pureR σ (aBin .neq .prim t26 t32)) fun t33 σ =>
  condK t33 (
  k (.val (Go.Value.bool Bool.false)) σ
  ) (
  stepK (pureR σ (aBin .add .prim (Abs.look fr 18) (.val (Go.Value.int Go.IntKind.i64 1)))) fun t34 σ =>
  again [(5, (Abs.look fr 5)), (6, (Abs.look fr 6)), (17, (Abs.look fr 17)), (18, t34)] σ
  )
  ) (
  j1 [(0, .any)] σ
  )
  )) [(5, t13), (6, t15), (17, t17), (18, (.val (Go.Value.int Go.IntKind.i64 0)))] σ
  ))
  ) kp)) kp)) kp
def keep14 : List (Nat × List Nat) := [(0, [2, 3]), (1, [2, 3, 11]), (2, [4]), (3, [5, 6]), (2003, [0, 2, 1, 3, 4, 5]), (103001, [2]), (3011, [0]), (4, [5, 6, 17, 18]), (5, [5, 6, 17, 18, 19]), (6, [5, 6, 7, 17, 18]), (7, [5, 6, 17, 18, 33]), (2007, [0, 1, 2, 3, 4, 5, 6, 7, 8, 9, 10, 11, 12]), (8, [4]), (9, [5, 6, 17, 18]), (1005, [5, 6, 17, 18]), (10, [4])]
noncomputable def body14 : Code := (Go.Proofs.Tryz.f14).body.getD .skip
theorem F14_eq (t0 t1 : AV) (σ : AHeap) (k kp : AV → AHeap → Prop) : aw Go.Proofs.Tryz.prog (keepOf keep14) body14 (retK Go.Proofs.Tryz.prog (Go.Proofs.Tryz.f14).results.toList k kp) (frameOf 0 [t0, t1]) σ = F14 t0 t1 σ k kp := by kernel_rfl
theorem F14_ev {t0 t1 : AV} {σ : AHeap} {k kp : AV → AHeap → Prop} (h : F14 t0 t1 σ k kp) : Ev Go.Proofs.Tryz.prog 14 [t0, t1] σ k kp :=
  Ev_of_aw mixed Go.Proofs.Tryz.func14 (show (Go.Proofs.Tryz.f14).body = some body14 by kernel_rfl) (by kernel_rfl) (args := [t0, t1]) (of_decide_eq_true (by kernel_rfl)) (keepOf keep14) (by kernel_rfl) (by rw [F14_eq]; exact h)

/-- enclave/aterm.Erase -/
def F15 (t0 : AV) (σ : AHeap) (k kp : AV → AHeap → Prop) : Prop :=
  stepK (aBox t0 σ) fun t1 σ =>
  stepK (aAlloc [.val (.int .u8 0), .val (.int .u8 0), .val (.int .i64 0), .val (.int .i64 0), .val (.string ByteArray.empty), .val (.string ByteArray.empty), .val (.string ByteArray.empty), .val (.slice none 0 0)] σ) fun t2 σ =>
  stepK (pureR σ (aFieldAddr 0 t1)) fun t6 σ =>
  stepK (pureR σ (aFieldAddr 0 t6)) fun t7 σ =>
  stepK (pureR σ (aLoad false 1 t7 σ)) fun t8 σ =>
  stepK (pureR σ (aBin .eql .prim t8 (.val (Go.Value.int Go.IntKind.u8 17)))) fun t9 σ =>
  gK t9 true (fun K => stepK (pureR σ (aFieldAddr 18 t1)) K) (fun t11 σ =>
  gK t9 true (fun K => stepK (pureR σ (aLoad false 1 t11 σ)) K) (fun t12 σ =>
  gK t9 true (fun K => stepK (pureR σ (aLenK .slice t12 σ)) K) (fun t13 σ =>
  gK t9 true (fun K => stepK (pureR σ (aBin .gtr .prim t13 (.val (Go.Value.int Go.IntKind.i64 0)))) K) (fun t14 σ =>
  stepK (pureR σ (aPick t9 t14 (.val (Go.Value.bool Bool.false)))) fun t15 σ =>
  condK t15 (
  stepK (pureR σ (aFieldAddr 18 t1)) fun t16 σ =>
  stepK (pureR σ (aLoad false 1 t16 σ)) fun t17 σ =>
  stepK (pureR σ (aIndexAddr 19 t17 (.val (Go.Value.int Go.IntKind.i64 0)) σ)) fun t18 σ =>
  stepK (pureR σ (aLoad true 19 t18 σ)) fun t19 σ =>
  Ev Go.Proofs.Tryz.prog 15 [t19] σ (fun t20 σ =>
  stepK (unitR (aStore 8 t2 t20 σ)) fun _ σ =>
  stepV (aLoad true 8 t2 σ) fun r0 =>
  k r0 σ
  ) kp) (
  stepK (pureR σ (aFieldAddr 0 t1)) fun t21 σ =>
  stepK (pureR σ (aLoad true 7 t21 σ)) fun t22 σ =>
  stepK (pureR σ (aBuild [.val (.int .u8 0), .val (.int .u8 0), .val (.int .i64 0), .val (.int .i64 0), .val (.string ByteArray.empty), .val (.string ByteArray.empty), .val (.string ByteArray.empty), .val (.slice none 0 0)] [(0, 7, t22)])) fun t23 σ =>
  stepK (aAlloc [.val (.int .u8 0), .val (.int .u8 0), .val (.int .i64 0), .val (.int .i64 0), .val (.string ByteArray.empty), .val (.string ByteArray.empty), .val (.string ByteArray.empty), .val (.slice none 0 0)] σ) fun t3 σ =>
  stepK (unitR (aStore 8 t3 t23 σ)) fun _ σ =>
  seqW (fun fr σ => (
  seqW (fun fr σ => (
  stepK (pureR σ (aLoad true 8 (Abs.look fr 3) σ)) fun t45 σ =>
  stepK (unitR (aStore 8 (Abs.look fr 2) t45 σ)) fun _ σ =>
  stepV (aLoad true 8 (Abs.look fr 2) σ) fun r0 =>
  k r0 σ
  )) (fun j2 => (
  stepK (pureR σ (aFieldAddr 18 (Abs.look fr 1))) fun t30 σ =>
  stepK (pureR σ (aLoad false 1 t30 σ)) fun t31 σ =>
  stepK (pureR σ (aLenK .slice t31 σ)) fun t32 σ =>
  loopW (fun fr σ again => (
  stepK (pureR σ (aBin .lss .prim (Abs.look fr 33) (Abs.look fr 32))) fun t34 σ =>
  condK t34 (
  stepK (pureR σ (aIndexAddr 19 (Abs.look fr 31) (Abs.look fr 33) σ)) fun t35 σ =>
  stepK (pureR σ (aLoad true 19 t35 σ)) fun t36 σ =>
  stepK (aAlloc [.val (.int .u8 0), .val (.int .u8 0), .val (.int .i64 0), .val (.int .i64 0), .val (.string ByteArray.empty), .val (.string ByteArray.empty), .val (.string ByteArray.empty), .val (.int .i64 0), .val (.slice none 0 0), .val (.slice none 0 0), .val (.int .u8 0), .val (.int .i64 0), .val (.slice none 0 0), .val (.slice none 0 0), .val (.int .u8 0), .val (.int .i64 0), .val (.slice none 0 0), .val (.slice none 0 0), .val (.slice none 0 0)] σ) fun t5 σ =>
  stepK (unitR (aStore 19 t5 t36 σ)) fun _ σ =>
  stepK (pureR σ (aFieldAddr 7 (Abs.look fr 3))) fun t37 σ =>
  stepK (pureR σ (aLoad false 1 t37 σ)) fun t38 σ =>
  stepK (pureR σ (aLoad true 19 t5 σ)) fun t39 σ =>
  Ev Go.Proofs.Tryz.prog 15 [t39] σ (fun t40 σ =>
  (stepK (pureR σ (aLoad false 1 t37 σ)) (fun y θ => y = t38 ∧ θ = σ)) ∧ (
  stepK (pureR σ (aBuildSl 1 8 [.val (.int .u8 0), .val (.int .u8 0), .val (.int .i64 0), .val (.int .i64 0), .val (.string ByteArray.empty), .val (.string ByteArray.empty), .val (.string ByteArray.empty), .val (.slice none 0 0)] [(0, t40)])) fun t41 σ =>
  stepK (aAppend 8 96 t38 t41 σ) fun t42 σ =>
  stepK (pureR σ (aFieldAddr 7 (Abs.look fr 3))) fun t43 σ =>
  stepK (unitR (aStore 1 t43 t42 σ)) fun _ σ =>
  stepK (pureR σ (aBin .add .prim (Abs.look fr 33) (.val (Go.Value.int Go.IntKind.i64 1)))) fun t44 σ =>
  again [(2, (Abs.look fr 2)), (3, (Abs.look fr 3)), (31, (Abs.look fr 31)), (32, (Abs.look fr 32)), (33, t44)] σ
  )) kp) (
  j2 [(2, (Abs.look fr 2)), (3, (Abs.look fr 3))] σ
  )
  )) [(2, (Abs.look fr 2)), (3, (Abs.look fr 3)), (31, t31), (32, t32), (33, (.val (Go.Value.int Go.IntKind.i64 0)))] σ
  ))
  )) (fun j1 => (
  stepK (pureR σ (aFieldAddr 0 t1)) fun t24 σ =>
  stepK (pureR σ (aFieldAddr 0 t24)) fun t25 σ =>
  stepK (pureR σ (aLoad false 1 t25 σ)) fun t26 σ =>
  stepK (pureR σ (aBin .eql .prim t26 (.val (Go.Value.int Go.IntKind.u8 18)))) fun t27 σ =>
  condK t27 (
  stepK (pureR σ (aFieldAddr 0 t3)) fun t28 σ =>
  stepK (pureR σ (aFieldAddr 0 t28)) fun t29 σ =>
  stepK (unitR (aStore 1 t29 (.val (Go.Value.int Go.IntKind.u8 2)) σ)) fun _ σ =>
  j1 [(1, t1), (2, t2), (3, t3)] σ
  ) (
  j1 [(1, t1), (2, t2), (3, t3)] σ
  )
  ))
  )) σ) σ) σ) σ
def keep15 : List (Nat × List Nat) := [(0, [1, 2]), (1, [1, 2, 15]), (2, [2]), (3, [1, 2, 3]), (3007, [1, 2, 3]), (4, [1, 2, 3, 27]), (5, [1, 2, 3]), (3012, [2, 3]), (6, [2, 3, 31, 32, 33]), (7, [2, 3, 31, 32, 33, 34]), (8, [2, 3, 5, 31, 32, 33]), (9, [2, 3, 31, 32, 33]), (2009, [0, 1, 2, 3, 4, 5, 6, 7]), (109003, [1]), (10, [2, 3, 31, 32, 33]), (1007, [2, 3, 31, 32, 33]), (11, [2])]
noncomputable def body15 : Code := (Go.Proofs.Tryz.f15).body.getD .skip
theorem F15_eq (t0 : AV) (σ : AHeap) (k kp : AV → AHeap → Prop) : aw Go.Proofs.Tryz.prog (keepOf keep15) body15 (retK Go.Proofs.Tryz.prog (Go.Proofs.Tryz.f15).results.toList k kp) (frameOf 0 [t0]) σ = F15 t0 σ k kp := by kernel_rfl
theorem F15_ev {t0 : AV} {σ : AHeap} {k kp : AV → AHeap → Prop} (h : F15 t0 σ k kp) : Ev Go.Proofs.Tryz.prog 15 [t0] σ k kp :=
  Ev_of_aw mixed Go.Proofs.Tryz.func15 (show (Go.Proofs.Tryz.f15).body = some body15 by kernel_rfl) (by kernel_rfl) (args := [t0]) (of_decide_eq_true (by kernel_rfl)) (keepOf keep15) (by kernel_rfl) (by rw [F15_eq]; exact h)

/-- enclave/enclaveref04.All -/
def F17 (t0 : AV) (σ : AHeap) (k kp : AV → AHeap → Prop) : Prop :=
  stepK (aBox t0 σ) fun t1 σ =>
  stepK (pureR σ (aLoad true 8 t1 σ)) fun t5 σ =>
  stepK (aBuildSlice 1 8 [.val (.int .u8 0), .val (.int .u8 0), .val (.int .i64 0), .val (.int .i64 0), .val (.string ByteArray.empty), .val (.string ByteArray.empty), .val (.string ByteArray.empty), .val (.slice none 0 0)] [(0, t5)] σ) fun t6 σ =>
  seqW (fun fr σ => (
  k (Abs.look fr 3) σ
  )) (fun j1 => (
  stepK (pureR σ (aFieldAddr 7 t1)) fun t7 σ =>
  stepK (pureR σ (aLoad false 1 t7 σ)) fun t8 σ =>
  stepK (pureR σ (aLenK .slice t8 σ)) fun t9 σ =>
  loopW (fun fr σ again => (
  stepK (pureR σ (aBin .lss .prim (Abs.look fr 10) (Abs.look fr 9))) fun t11 σ =>
  condK t11 (
  stepK (pureR σ (aFieldAddr 7 (Abs.look fr 1))) fun t14 σ =>
  stepK (pureR σ (aLoad false 1 t14 σ)) fun t15 σ =>
  stepK (pureR σ (aIndexAddr 8 t15 (Abs.look fr 10) σ)) fun t17 σ =>
  stepK (pureR σ (aLoad true 8 t17 σ)) fun t18 σ =>
  Ev Go.Proofs.Tryz.prog 17 [t18] σ (fun t19 σ =>
  stepK (aAppend 8 96 (Abs.look fr 3) t19 σ) fun t20 σ =>
  stepK (pureR σ (aBin .add .prim (Abs.look fr 10) (.val (Go.Value.int Go.IntKind.i64 1)))) fun t21 σ =>
  again [(1, (Abs.look fr 1)), (3, t20), (9, (Abs.look fr 9)), (10, t21)] σ
  ) kp) (
  j1 [(3, (Abs.look fr 3))] σ
  )
  )) [(1, t1), (3, t6), (9, t9), (10, (.val (Go.Value.int Go.IntKind.i64 0)))] σ
  ))
def keep17 : List (Nat × List Nat) := [(0, [1]), (1, [1, 3]), (3008, [3]), (2, [1, 3, 9, 10]), (3, [1, 3, 9, 10, 11]), (4, [1, 3, 4, 9, 10]), (5, [1, 3, 9, 10]), (6, [1, 3, 9, 10]), (1003, [1, 3, 9, 10]), (7, [2])]
noncomputable def body17 : Code := (Go.Proofs.Tryz.f17).body.getD .skip
theorem F17_eq (t0 : AV) (σ : AHeap) (k kp : AV → AHeap → Prop) : aw Go.Proofs.Tryz.prog (keepOf keep17) body17 (retK Go.Proofs.Tryz.prog (Go.Proofs.Tryz.f17).results.toList k kp) (frameOf 0 [t0]) σ = F17 t0 σ k kp := by kernel_rfl
theorem F17_ev {t0 : AV} {σ : AHeap} {k kp : AV → AHeap → Prop} (h : F17 t0 σ k kp) : Ev Go.Proofs.Tryz.prog 17 [t0] σ k kp :=
  Ev_of_aw mixed Go.Proofs.Tryz.func17 (show (Go.Proofs.Tryz.f17).body = some body17 by kernel_rfl) (by kernel_rfl) (args := [t0]) (of_decide_eq_true (by kernel_rfl)) (keepOf keep17) (by kernel_rfl) (by rw [F17_eq]; exact h)

/-- enclave/aterm.Size -/
def F21 (t0 : AV) (σ : AHeap) (k kp : AV → AHeap → Prop) : Prop :=
  stepK (aAlloc [.val (.int .i64 0)] σ) fun t3 σ =>
  stepK (unitR (aStore 1 t3 (.val (Go.Value.int Go.IntKind.i64 0)) σ)) fun _ σ =>
  Ev Go.Proofs.Tryz.prog 29 [(.fn (.func 36) [t3]), t0] σ (fun t6 σ =>
  stepK (pureR σ (aLoad false 1 t3 σ)) fun t7 σ =>
  k t7 σ) kp
def keep21 : List (Nat × List Nat) := [(0, [0]), (1, [0, 3]), (2, [3]), (3, [2])]
noncomputable def body21 : Code := (Go.Proofs.Tryz.f21).body.getD .skip
theorem F21_eq (t0 : AV) (σ : AHeap) (k kp : AV → AHeap → Prop) : aw Go.Proofs.Tryz.prog (keepOf keep21) body21 (retK Go.Proofs.Tryz.prog (Go.Proofs.Tryz.f21).results.toList k kp) (frameOf 0 [t0]) σ = F21 t0 σ k kp := by kernel_rfl
theorem F21_ev {t0 : AV} {σ : AHeap} {k kp : AV → AHeap → Prop} (h : F21 t0 σ k kp) : Ev Go.Proofs.Tryz.prog 21 [t0] σ k kp :=
  Ev_of_aw mixed Go.Proofs.Tryz.func21 (show (Go.Proofs.Tryz.f21).body = some body21 by kernel_rfl) (by kernel_rfl) (args := [t0]) (of_decide_eq_true (by kernel_rfl)) (keepOf keep21) (by kernel_rfl) (by rw [F21_eq]; exact h)

/-- enclave/enclaveref13.left -/
def F28 (t0 t1 : AV) (σ : AHeap) (k kp : AV → AHeap → Prop) : Prop :=
  stepK (aBox t0 σ) fun t2 σ =>
  stepK (pureR σ (aBin .sub .prim t1 (.val (Go.Value.int Go.IntKind.i64 1)))) fun t7 σ =>
  stepK (pureR σ (aFieldAddr 0 t2)) fun t8 σ =>
  stepK (pureR σ (aFieldAddr 4 t8)) fun t9 σ =>
  stepK (pureR σ (aLoad false 1 t9 σ)) fun t10 σ =>
  stepK (pureR σ (aLenK .str t10 σ)) fun t11 σ =>
  stepK (pureR σ (aBin .gtr .prim t11 (.val (Go.Value.int Go.IntKind.i64 100)))) fun t12 σ =>
  gK t12 false (fun K => stepK (pureR σ (aFieldAddr 0 t2)) K) (fun t14 σ =>
  gK t12 false (fun K => stepK (pureR σ (aFieldAddr 5 t14)) K) (fun t15 σ =>
  gK t12 false (fun K => stepK (pureR σ (aLoad false 1 t15 σ)) K) (fun t16 σ =>
  gK t12 false (fun K => stepK (pureR σ (aLenK .str t16 σ)) K) (fun t17 σ =>
  gK t12 false (fun K => stepK (pureR σ (aBin .gtr .prim t17 (.val (Go.Value.int Go.IntKind.i64 100)))) K) (fun t18 σ =>
  stepK (pureR σ (aPick t12 (.val (Go.Value.bool Bool.true)) t18)) fun t19 σ =>
  gK t19 false (fun K => stepK (pureR σ (aFieldAddr 0 t2)) K) (fun t21 σ =>
  gK t19 false (fun K => stepK (pureR σ (aFieldAddr 6 t21)) K) (fun t22 σ =>
  gK t19 false (fun K => stepK (pureR σ (aLoad false 1 t22 σ)) K) (fun t23 σ =>
  gK t19 false (fun K => stepK (pureR σ (aLenK .str t23 σ)) K) (fun t24 σ =>
  gK t19 false (fun K => stepK (pureR σ (aBin .gtr .prim t24 (.val (Go.Value.int Go.IntKind.i64 100)))) K) (fun t25 σ =>
  stepK (pureR σ (aPick t19 (.val (Go.Value.bool Bool.true)) t25)) fun t26 σ =>
  gK t26 false (fun K => stepK (pureR σ (aFieldAddr 8 t2)) K) (fun t28 σ =>
  gK t26 false (fun K => stepK (pureR σ (aLoad false 1 t28 σ)) K) (fun t29 σ =>
  gK t26 false (fun K => stepK (pureR σ (aLenK .slice t29 σ)) K) (fun t30 σ =>
  gK t26 false (fun K => stepK (pureR σ (aBin .gtr .prim t30 (.val (Go.Value.int Go.IntKind.i64 50)))) K) (fun t31 σ =>
  stepK (pureR σ (aPick t26 (.val (Go.Value.bool Bool.true)) t31)) fun t32 σ =>
  gK t32 false (fun K => stepK (pureR σ (aFieldAddr 9 t2)) K) (fun t34 σ =>
  gK t32 false (fun K => stepK (pureR σ (aLoad false 1 t34 σ)) K) (fun t35 σ =>
  gK t32 false (fun K => Ev Go.Proofs.Tryz.prog 45 [t35] σ K kp) (fun t36 σ =>
  stepK (pureR σ (aPick t32 (.val (Go.Value.bool Bool.true)) t36)) fun t37 σ =>
  gK t37 false (fun K => stepK (pureR σ (aFieldAddr 10 t2)) K) (fun t39 σ =>
  gK t37 false (fun K => stepK (pureR σ (aLoad true 4 t39 σ)) K) (fun t40 σ =>
  gK t37 false (fun K => Ev Go.Proofs.Tryz.prog 46 [t40] σ K kp) (fun t41 σ =>
  stepK (pureR σ (aPick t37 (.val (Go.Value.bool Bool.true)) t41)) fun t42 σ =>
  gK t42 false (fun K => stepK (pureR σ (aFieldAddr 14 t2)) K) (fun t44 σ =>
  gK t42 false (fun K => stepK (pureR σ (aLoad true 4 t44 σ)) K) (fun t45 σ =>
  gK t42 false (fun K => Ev Go.Proofs.Tryz.prog 46 [t45] σ K kp) (fun t46 σ =>
  stepK (pureR σ (aPick t42 (.val (Go.Value.bool Bool.true)) t46)) fun t47 σ =>
  condK t47 (
  k (.val (Go.Value.int Go.IntKind.i64 (-1))) σ
  ) (
  seqW (fun fr σ => (
  k (Abs.look fr 1) σ
  )) (fun j1 => (
  loopW (fun fr σ again => (
  stepK (pureR σ (aFieldAddr 18 (Abs.look fr 2))) fun t49 σ =>
  stepK (pureR σ (aLoad false 1 t49 σ)) fun t50 σ =>
  stepK (pureR σ (aLenK .slice t50 σ)) fun t51 σ =>
  stepK (pureR σ (aBin .lss .prim (Abs.look fr 5) t51)) fun t52 σ =>
  gK t52 true (fun K => K (Abs.look fr 1) σ) (fun t54 σ =>
  gK t52 true (fun K => stepK (pureR σ (aBin .geq .prim t54 (.val (Go.Value.int Go.IntKind.i64 0)))) K) (fun t55 σ =>
  stepK (pureR σ (aPick t52 t55 (.val (Go.Value.bool Bool.false)))) fun t56 σ =>
  condK t56 (
  stepK (pureR σ (aFieldAddr 18 (Abs.look fr 2))) fun t59 σ =>
  stepK (pureR σ (aLoad false 1 t59 σ)) fun t60 σ =>
  stepK (pureR σ (aIndexAddr 19 t60 (Abs.look fr 5) σ)) fun t62 σ =>
  stepK (pureR σ (aLoad true 19 t62 σ)) fun t63 σ =>
  Ev Go.Proofs.Tryz.prog 28 [t63, (Abs.look fr 1)] σ (fun t65 σ =>
  stepK (pureR σ (aBin .add .prim (Abs.look fr 5) (.val (Go.Value.int Go.IntKind.i64 1)))) fun t58 σ =>
  again [(1, t65), (2, (Abs.look fr 2)), (5, t58)] σ
  ) kp) (
  j1 [(1, (Abs.look fr 1))] σ
  )
  ) σ) σ)) [(1, t7), (2, t2), (5, (.val (Go.Value.int Go.IntKind.i64 0)))] σ
  ))
  )) σ) σ) σ) σ) σ) σ) σ) σ) σ) σ) σ) σ) σ) σ) σ) σ) σ) σ) σ) σ) σ) σ) σ
def keep28 : List (Nat × List Nat) := [(0, [1, 2]), (1, [1, 2]), (2, [1, 2, 47]), (3, [4]), (3009, [1]), (4, [1, 2, 5]), (5, [1, 2, 5, 56]), (7, [1, 2, 5]), (6, [1, 2, 5]), (1005, [1, 2, 5]), (8, [4])]
noncomputable def body28 : Code := (Go.Proofs.Tryz.f28).body.getD .skip
theorem F28_eq (t0 t1 : AV) (σ : AHeap) (k kp : AV → AHeap → Prop) : aw Go.Proofs.Tryz.prog (keepOf keep28) body28 (retK Go.Proofs.Tryz.prog (Go.Proofs.Tryz.f28).results.toList k kp) (frameOf 0 [t0, t1]) σ = F28 t0 t1 σ k kp := by kernel_rfl
theorem F28_ev {t0 t1 : AV} {σ : AHeap} {k kp : AV → AHeap → Prop} (h : F28 t0 t1 σ k kp) : Ev Go.Proofs.Tryz.prog 28 [t0, t1] σ k kp :=
  Ev_of_aw mixed Go.Proofs.Tryz.func28 (show (Go.Proofs.Tryz.f28).body = some body28 by kernel_rfl) (by kernel_rfl) (args := [t0, t1]) (of_decide_eq_true (by kernel_rfl)) (keepOf keep28) (by kernel_rfl) (by rw [F28_eq]; exact h)

/-- enclave/aterm.each -/
def F29 (t0 t1 : AV) (σ : AHeap) (k kp : AV → AHeap → Prop) : Prop :=
  seqW (fun fr σ => (
  k (.val (Go.Value.bool Bool.true)) σ
  )) (fun j1 => (
  stepK (pureR σ (aLenK .slice t1 σ)) fun t8 σ =>
  loopW (fun fr σ again => (
  stepK (pureR σ (aBin .lss .prim (Abs.look fr 9) (Abs.look fr 8))) fun t10 σ =>
  condK t10 (
  stepK (pureR σ (aIndexAddr 19 (Abs.look fr 7) (Abs.look fr 9) σ)) fun t11 σ =>
  stepK (pureR σ (aLoad true 19 t11 σ)) fun t12 σ =>
  stepK (aAlloc [.val (.int .u8 0), .val (.int .u8 0), .val (.int .i64 0), .val (.int .i64 0), .val (.string ByteArray.empty), .val (.string ByteArray.empty), .val (.string ByteArray.empty), .val (.int .i64 0), .val (.slice none 0 0), .val (.slice none 0 0), .val (.int .u8 0), .val (.int .i64 0), .val (.slice none 0 0), .val (.slice none 0 0), .val (.int .u8 0), .val (.int .i64 0), .val (.slice none 0 0), .val (.slice none 0 0), .val (.slice none 0 0)] σ) fun t6 σ =>
  stepK (unitR (aStore 19 t6 t12 σ)) fun _ σ =>
  stepK (pureR σ (aLoad true 19 t6 σ)) fun t14 σ =>
  callK Go.Proofs.Tryz.prog (Abs.look fr 0) [t14] σ (fun t15 σ =>
  stepK (pureR σ (aNot t15)) fun t16 σ =>
  gK t16 false (fun K => K (Abs.look fr 0) σ) (fun t18 σ =>
  gK t16 false (fun K => stepK (pureR σ (aFieldAddr 18 t6)) K) (fun t19 σ =>
  gK t16 false (fun K => stepK (pureR σ (aLoad false 1 t19 σ)) K) (fun t20 σ =>
  gK t16 false (fun K => Ev Go.Proofs.Tryz.prog 29 [t18, t20] σ K kp) (fun t21 σ =>
  gK t16 false (fun K => stepK (pureR σ (aNot t21)) K) (fun t22 σ =>
  stepK (pureR σ (aPick t16 (.val (Go.Value.bool Bool.true)) t22)) fun t23 σ =>
  condK t23 (
  k (.val (Go.Value.bool Bool.false)) σ
  ) (
  stepK (pureR σ (aBin .add .prim (Abs.look fr 9) (.val (Go.Value.int Go.IntKind.i64 1)))) fun t24 σ =>
  again [(0, (Abs.look fr 0)), (7, (Abs.look fr 7)), (8, (Abs.look fr 8)), (9, t24)] σ
  )
  ) σ) σ) σ) σ) σ) kp) (
  j1 [(0, (Abs.look fr 0))] σ
  )
  )) [(0, t0), (7, t1), (8, t8), (9, (.val (Go.Value.int Go.IntKind.i64 0)))] σ
  ))
def keep29 : List (Nat × List Nat) := [(0, [0, 1]), (3008, [0]), (1, [0, 7, 8, 9]), (2, [0, 7, 8, 9, 10]), (3, [0, 6, 7, 8, 9]), (4, [0, 7, 8, 9, 23]), (5, [4]), (6, [0, 7, 8, 9]), (1002, [0, 7, 8, 9]), (7, [4])]
noncomputable def body29 : Code := (Go.Proofs.Tryz.f29).body.getD .skip
theorem F29_eq (t0 t1 : AV) (σ : AHeap) (k kp : AV → AHeap → Prop) : aw Go.Proofs.Tryz.prog (keepOf keep29) body29 (retK Go.Proofs.Tryz.prog (Go.Proofs.Tryz.f29).results.toList k kp) (frameOf 0 [t0, t1]) σ = F29 t0 t1 σ k kp := by kernel_rfl
theorem F29_ev {t0 t1 : AV} {σ : AHeap} {k kp : AV → AHeap → Prop} (h : F29 t0 t1 σ k kp) : Ev Go.Proofs.Tryz.prog 29 [t0, t1] σ k kp :=
  Ev_of_aw mixed Go.Proofs.Tryz.func29 (show (Go.Proofs.Tryz.f29).body = some body29 by kernel_rfl) (by kernel_rfl) (args := [t0, t1]) (of_decide_eq_true (by kernel_rfl)) (keepOf keep29) (by kernel_rfl) (by rw [F29_eq]; exact h)

/-- enclave/aterm.node -/
def F30 (t0 : AV) (σ : AHeap) (k kp : AV → AHeap → Prop) : Prop :=
  stepK (aBox t0 σ) fun t1 σ =>
  stepK (pureR σ (aFieldAddr 0 t1)) fun t4 σ =>
  stepK (pureR σ (aFieldAddr 0 t4)) fun t5 σ =>
  stepK (pureR σ (aLoad false 1 t5 σ)) fun t6 σ =>
  Ev Go.Proofs.Tryz.prog 47 [t6] σ (fun t7 σ =>
  stepK (aAlloc [.val (.bool false), .val (.bool false), .val (.bool false), .val (.bool false), .val (.bool false)] σ) fun t3 σ =>
  stepK (unitR (aStore 5 t3 t7 σ)) fun _ σ =>
  seqW (fun fr σ => (
  condK (Abs.look fr 8) (
  k (.val (Go.Value.bool Bool.false)) σ
  ) (
  seqW (fun fr σ => (
  condK (Abs.look fr 26) (
  k (.val (Go.Value.bool Bool.false)) σ
  ) (
  stepK (pureR σ (aFieldAddr 3 (Abs.look fr 3))) fun t44 σ =>
  stepK (pureR σ (aLoad false 1 t44 σ)) fun t45 σ =>
  stepK (pureR σ (aFieldAddr 10 (Abs.look fr 1))) fun t46 σ =>
  stepK (pureR σ (aLoad true 4 t46 σ)) fun t47 σ =>
  Ev Go.Proofs.Tryz.prog 52 [t45, t47] σ (fun t48 σ =>
  gK t48 true (fun K => stepK (pureR σ (aFieldAddr 4 (Abs.look fr 3))) K) (fun t50 σ =>
  gK t48 true (fun K => stepK (pureR σ (aLoad false 1 t50 σ)) K) (fun t51 σ =>
  gK t48 true (fun K => stepK (pureR σ (aFieldAddr 14 (Abs.look fr 1))) K) (fun t52 σ =>
  gK t48 true (fun K => stepK (pureR σ (aLoad true 4 t52 σ)) K) (fun t53 σ =>
  gK t48 true (fun K => Ev Go.Proofs.Tryz.prog 52 [t51, t53] σ K kp) (fun t54 σ =>
  stepK (pureR σ (aPick t48 t54 (.val (Go.Value.bool Bool.false)))) fun t55 σ =>
  k t55 σ
  ) σ) σ) σ) σ) σ) kp)
  )) (fun j2 => (
  stepK (pureR σ (aFieldAddr 2 (Abs.look fr 3))) fun t27 σ =>
  stepK (pureR σ (aLoad false 1 t27 σ)) fun t28 σ =>
  gK t28 true (fun K => stepK (pureR σ (aFieldAddr 9 (Abs.look fr 1))) K) (fun t30 σ =>
  gK t28 true (fun K => stepK (pureR σ (aLoad false 1 t30 σ)) K) (fun t31 σ =>
  gK t28 true (fun K => Ev Go.Proofs.Tryz.prog 51 [t31] σ K kp) (fun t32 σ =>
  gK t28 true (fun K => stepK (pureR σ (aNot t32)) K) (fun t33 σ =>
  stepK (pureR σ (aPick t28 t33 (.val (Go.Value.bool Bool.false)))) fun t34 σ =>
  condK t34 (
  j2 [(1, (Abs.look fr 1)), (3, (Abs.look fr 3)), (26, t34)] σ
  ) (
  stepK (pureR σ (aFieldAddr 2 (Abs.look fr 3))) fun t35 σ =>
  stepK (pureR σ (aLoad false 1 t35 σ)) fun t36 σ =>
  stepK (pureR σ (aNot t36)) fun t37 σ =>
  gK t37 true (fun K => stepK (pureR σ (aFieldAddr 9 (Abs.look fr 1))) K) (fun t39 σ =>
  gK t37 true (fun K => stepK (pureR σ (aLoad false 1 t39 σ)) K) (fun t40 σ =>
  gK t37 true (fun K => stepK (pureR σ (aLenK .slice t40 σ)) K) (fun t41 σ =>
  gK t37 true (fun K => stepK (pureR σ (aBin .gtr .prim t41 (.val (Go.Value.int Go.IntKind.i64 0)))) K) (fun t42 σ =>
  stepK (pureR σ (aPick t37 t42 (.val (Go.Value.bool Bool.false)))) fun t43 σ =>
  j2 [(1, (Abs.look fr 1)), (3, (Abs.look fr 3)), (26, t43)] σ
  ) σ) σ) σ) σ)
  ) σ) σ) σ) σ))
  )
  )) (fun j1 => (
  stepK (pureR σ (aLoad true 19 t1 σ)) fun t9 σ =>
  Ev Go.Proofs.Tryz.prog 48 [t9] σ (fun t10 σ =>
  stepK (pureR σ (aNot t10)) fun t11 σ =>
  condK t11 (
  j1 [(1, t1), (3, t3), (8, t11)] σ
  ) (
  stepK (pureR σ (aLoad true 19 t1 σ)) fun t12 σ =>
  stepK (pureR σ (aLoad true 5 t3 σ)) fun t13 σ =>
  Ev Go.Proofs.Tryz.prog 49 [t12, t13] σ (fun t14 σ =>
  stepK (pureR σ (aNot t14)) fun t15 σ =>
  condK t15 (
  j1 [(1, t1), (3, t3), (8, t15)] σ
  ) (
  stepK (pureR σ (aFieldAddr 0 t1)) fun t16 σ =>
  stepK (pureR σ (aFieldAddr 0 t16)) fun t17 σ =>
  stepK (pureR σ (aLoad false 1 t17 σ)) fun t18 σ =>
  stepK (pureR σ (aBin .eql .prim t18 (.val (Go.Value.int Go.IntKind.u8 13)))) fun t19 σ =>
  gK t19 true (fun K => stepK (pureR σ (aFieldAddr 8 t1)) K) (fun t21 σ =>
  gK t19 true (fun K => stepK (pureR σ (aLoad false 1 t21 σ)) K) (fun t22 σ =>
  gK t19 true (fun K => Ev Go.Proofs.Tryz.prog 50 [t22] σ K kp) (fun t23 σ =>
  gK t19 true (fun K => stepK (pureR σ (aNot t23)) K) (fun t24 σ =>
  stepK (pureR σ (aPick t19 t24 (.val (Go.Value.bool Bool.false)))) fun t25 σ =>
  j1 [(1, t1), (3, t3), (8, t25)] σ
  ) σ) σ) σ) σ)
  ) kp)
  ) kp))) kp
def keep30 : List (Nat × List Nat) := [(0, [1]), (1, [1, 3]), (3006, [1, 3, 8]), (2, [1, 3, 8]), (3, [1, 3, 8]), (4, [1, 3, 8]), (5, [2]), (3009, [1, 3, 26]), (6, [1, 3, 26]), (7, [1, 3, 26]), (8, [2]), (9, [2])]
noncomputable def body30 : Code := (Go.Proofs.Tryz.f30).body.getD .skip
theorem F30_eq (t0 : AV) (σ : AHeap) (k kp : AV → AHeap → Prop) : aw Go.Proofs.Tryz.prog (keepOf keep30) body30 (retK Go.Proofs.Tryz.prog (Go.Proofs.Tryz.f30).results.toList k kp) (frameOf 0 [t0]) σ = F30 t0 σ k kp := by kernel_rfl
theorem F30_ev {t0 : AV} {σ : AHeap} {k kp : AV → AHeap → Prop} (h : F30 t0 σ k kp) : Ev Go.Proofs.Tryz.prog 30 [t0] σ k kp :=
  Ev_of_aw mixed Go.Proofs.Tryz.func30 (show (Go.Proofs.Tryz.f30).body = some body30 by kernel_rfl) (by kernel_rfl) (args := [t0]) (of_decide_eq_true (by kernel_rfl)) (keepOf keep30) (by kernel_rfl) (by rw [F30_eq]; exact h)

/-- enclave/enclaveref04.Same -/
def F32 (t0 t1 : AV) (σ : AHeap) (k kp : AV → AHeap → Prop) : Prop :=
  stepK (aBox t0 σ) fun t2 σ =>
  stepK (aBox t1 σ) fun t3 σ =>
  stepK (pureR σ (aFieldAddr 0 t2)) fun t6 σ =>
  stepK (pureR σ (aFieldAddr 0 t6)) fun t7 σ =>
  stepK (pureR σ (aLoad false 1 t7 σ)) fun t8 σ =>
  stepK (pureR σ (aFieldAddr 0 t3)) fun t9 σ =>
  stepK (pureR σ (aFieldAddr 0 t9)) fun t10 σ =>
  stepK (pureR σ (aLoad false 1 t10 σ)) fun t11 σ =>
  stepK (pureR σ (aBin .neq .prim t8 t11)) fun t12 σ =>
  gK t12 false (fun K => stepK (pureR σ (aFieldAddr 0 t2)) K) (fun t14 σ =>
  gK t12 false (fun K => stepK (pureR σ (aFieldAddr 1 t14)) K) (fun t15 σ =>
  gK t12 false (fun K => stepK (pureR σ (aLoad false 1 t15 σ)) K) (fun t16 σ =>
  gK t12 false (fun K => stepK (pureR σ (aFieldAddr 0 t3)) K) (fun t17 σ =>
  gK t12 false (fun K => stepK (pureR σ (aFieldAddr 1 t17)) K) (fun t18 σ =>
  gK t12 false (fun K => stepK (pureR σ (aLoad false 1 t18 σ)) K) (fun t19 σ =>
  gK t12 false (fun K => stepK (pureR σ (aBin .neq .prim t16 t19)) K) (fun t20 σ =>
  stepK (pureR σ (aPick t12 (.val (Go.Value.bool Bool.true)) t20)) fun t21 σ =>
  gK t21 false (fun K => stepK (pureR σ (aFieldAddr 0 t2)) K) (fun t23 σ =>
  gK t21 false (fun K => stepK (pureR σ (aFieldAddr 3 t23)) K) (fun t24 σ =>
  gK t21 false (fun K => stepK (pureR σ (aLoad false 1 t24 σ)) K) (fun t25 σ =>
  gK t21 false (fun K => stepK (pureR σ (aFieldAddr 0 t3)) K) (fun t26 σ =>
  gK t21 false (fun K => stepK (pureR σ (aFieldAddr 3 t26)) K) (fun t27 σ =>
  gK t21 false (fun K => stepK (pureR σ (aLoad false 1 t27 σ)) K) (fun t28 σ =>
  gK t21 false (fun K => stepK (pureR σ (aBin .neq .prim t25 t28)) K) (fun t29 σ =>
  stepK (pureR σ (aPick t21 (.val (Go.Value.bool Bool.true)) t29)) fun t30 σ =>
  gK t30 false (fun K => stepK (pureR σ (aFieldAddr 0 t2)) K) (fun t32 σ =>
  gK t30 false (fun K => stepK (pureR σ (aFieldAddr 4 t32)) K) (fun t33 σ =>
  gK t30 false (fun K => stepK (pureR σ (aLoad false 1 t33 σ)) K) (fun t34 σ =>
  gK t30 false (fun K => stepK (pureR σ (aFieldAddr 0 t3)) K) (fun t35 σ =>
  gK t30 false (fun K => stepK (pureR σ (aFieldAddr 4 t35)) K) (fun t36 σ =>
  gK t30 false (fun K => stepK (pureR σ (aLoad false 1 t36 σ)) K) (fun t37 σ =>
  gK t30 false (fun K => stepK (pureR σ (aBin .neq .prim t34 t37)) K) (fun t38 σ =>
  stepK (pureR σ (aPick t30 (.val (Go.Value.bool Bool.true)) t38)) fun t39 σ =>
  gK t39 false (fun K => stepK (pureR σ (aFieldAddr 0 t2)) K) (fun t41 σ =>
  gK t39 false (fun K => stepK (pureR σ (aFieldAddr 5 t41)) K) (fun t42 σ =>
  gK t39 false (fun K => stepK (pureR σ (aLoad false 1 t42 σ)) K) (fun t43 σ =>
  gK t39 false (fun K => stepK (pureR σ (aFieldAddr 0 t3)) K) (fun t44 σ =>
  gK t39 false (fun K => stepK (pureR σ (aFieldAddr 5 t44)) K) (fun t45 σ =>
  gK t39 false (fun K => stepK (pureR σ (aLoad false 1 t45 σ)) K) (fun t46 σ =>
  gK t39 false (fun K => stepK (pureR σ (aBin .neq .prim t43 t46)) K) (fun t47 σ =>
  stepK (pureR σ (aPick t39 (.val (Go.Value.bool Bool.true)) t47)) fun t48 σ =>
  gK t48 false (fun K => stepK (pureR σ (aFieldAddr 0 t2)) K) (fun t50 σ =>
  gK t48 false (fun K => stepK (pureR σ (aFieldAddr 6 t50)) K) (fun t51 σ =>
  gK t48 false (fun K => stepK (pureR σ (aLoad false 1 t51 σ)) K) (fun t52 σ =>
  gK t48 false (fun K => stepK (pureR σ (aFieldAddr 0 t3)) K) (fun t53 σ =>
  gK t48 false (fun K => stepK (pureR σ (aFieldAddr 6 t53)) K) (fun t54 σ =>
  gK t48 false (fun K => stepK (pureR σ (aLoad false 1 t54 σ)) K) (fun t55 σ =>
  gK t48 false (fun K => stepK (pureR σ (aBin .neq .prim t52 t55)) K) (fun t56 σ =>
  stepK (pureR σ (aPick t48 (.val (Go.Value.bool Bool.true)) t56)) fun t57 σ =>
  gK t57 false (fun K => stepK (pureR σ (aFieldAddr 7 t2)) K) (fun t59 σ =>
  gK t57 false (fun K => stepK (pureR σ (aLoad false 1 t59 σ)) K) (fun t60 σ =>
  gK t57 false (fun K => stepK (pureR σ (aLenK .slice t60 σ)) K) (fun t61 σ =>
  gK t57 false (fun K => stepK (pureR σ (aFieldAddr 7 t3)) K) (fun t62 σ =>
  gK t57 false (fun K => stepK (pureR σ (aLoad false 1 t62 σ)) K) (fun t63 σ =>
  gK t57 false (fun K => stepK (pureR σ (aLenK .slice t63 σ)) K) (fun t64 σ =>
  gK t57 false (fun K => stepK (pureR σ (aBin .neq .prim t61 t64)) K) (fun t65 σ =>
  stepK (pureR σ (aPick t57 (.val (Go.Value.bool Bool.true)) t65)) fun t66 σ =>
  condK t66 (
  k (.val (Go.Value.bool Bool.false)) σ
  ) (
  seqW (fun fr σ => (
  k (.val (Go.Value.bool Bool.true)) σ
  )) (fun j1 => (
  stepK (pureR σ (aFieldAddr 7 t2)) fun t67 σ =>
  stepK (pureR σ (aLoad false 1 t67 σ)) fun t68 σ =>
  stepK (pureR σ (aLenK .slice t68 σ)) fun t69 σ =>
  loopW (fun fr σ again => (
  stepK (pureR σ (aBin .lss .prim (Abs.look fr 70) (Abs.look fr 69))) fun t71 σ =>
  condK t71 (
  stepK (pureR σ (aFieldAddr 7 (Abs.look fr 2))) fun t73 σ =>
  stepK (pureR σ (aLoad false 1 t73 σ)) fun t74 σ =>
  stepK (pureR σ (aIndexAddr 8 t74 (Abs.look fr 70) σ)) fun t76 σ =>
  stepK (pureR σ (aLoad true 8 t76 σ)) fun t77 σ =>
  stepK (pureR σ (aFieldAddr 7 (Abs.look fr 3))) fun t78 σ =>
  stepK (pureR σ (aLoad false 1 t78 σ)) fun t79 σ =>
  stepK (pureR σ (aIndexAddr 8 t79 (Abs.look fr 70) σ)) fun t81 σ =>
  stepK (pureR σ (aLoad true 8 t81 σ)) fun t82 σ =>
  Ev Go.Proofs.Tryz.prog 32 [t77, t82] σ (fun t83 σ =>
  stepK (pureR σ (aNot t83)) fun t84 σ =>
  condK t84 (
  k (.val (Go.Value.bool Bool.false)) σ
  ) (
  stepK (pureR σ (aBin .add .prim (Abs.look fr 70) (.val (Go.Value.int Go.IntKind.i64 1)))) fun t85 σ =>
  again [(2, (Abs.look fr 2)), (3, (Abs.look fr 3)), (69, (Abs.look fr 69)), (70, t85)] σ
  )
  ) kp) (
  j1 [(0, .any)] σ
  )
  )) [(2, t2), (3, t3), (69, t69), (70, (.val (Go.Value.int Go.IntKind.i64 0)))] σ
  ))
  )) σ) σ) σ) σ) σ) σ) σ) σ) σ) σ) σ) σ) σ) σ) σ) σ) σ) σ) σ) σ) σ) σ) σ) σ) σ) σ) σ) σ) σ) σ) σ) σ) σ) σ) σ) σ) σ) σ) σ) σ) σ) σ
def keep32 : List (Nat × List Nat) := [(0, [2, 3]), (1, [2, 3, 66]), (2, [4]), (3010, [0]), (3, [2, 3, 69, 70]), (4, [2, 3, 69, 70, 71]), (5, [2, 3, 5, 69, 70]), (6, [2, 3, 69, 70, 84]), (2006, [0, 1, 2, 3, 4, 5, 6, 7, 8, 9, 10, 11]), (7, [4]), (8, [2, 3, 69, 70]), (1004, [2, 3, 69, 70]), (9, [4])]
noncomputable def body32 : Code := (Go.Proofs.Tryz.f32).body.getD .skip
theorem F32_eq (t0 t1 : AV) (σ : AHeap) (k kp : AV → AHeap → Prop) : aw Go.Proofs.Tryz.prog (keepOf keep32) body32 (retK Go.Proofs.Tryz.prog (Go.Proofs.Tryz.f32).results.toList k kp) (frameOf 0 [t0, t1]) σ = F32 t0 t1 σ k kp := by kernel_rfl
theorem F32_ev {t0 t1 : AV} {σ : AHeap} {k kp : AV → AHeap → Prop} (h : F32 t0 t1 σ k kp) : Ev Go.Proofs.Tryz.prog 32 [t0, t1] σ k kp :=
  Ev_of_aw mixed Go.Proofs.Tryz.func32 (show (Go.Proofs.Tryz.f32).body = some body32 by kernel_rfl) (by kernel_rfl) (args := [t0, t1]) (of_decide_eq_true (by kernel_rfl)) (keepOf keep32) (by kernel_rfl) (by rw [F32_eq]; exact h)

/-- enclave/aterm.Size$1 -/
def F36 (t0 t1 : AV) (σ : AHeap) (k kp : AV → AHeap → Prop) : Prop :=
  stepK (aBox t0 σ) fun t2 σ =>
  stepK (pureR σ (aLoad false 1 t1 σ)) fun t4 σ =>
  stepK (pureR σ (aBin .add .prim t4 (.val (Go.Value.int Go.IntKind.i64 1)))) fun t5 σ =>
  stepK (unitR (aStore 1 t1 t5 σ)) fun _ σ =>
  k (.val (Go.Value.bool Bool.true)) σ
def keep36 : List (Nat × List Nat) := [(0, [1]), (1, []), (2, [3])]
noncomputable def body36 : Code := (Go.Proofs.Tryz.f36).body.getD .skip
theorem F36_eq (t0 t1 : AV) (σ : AHeap) (k kp : AV → AHeap → Prop) : aw Go.Proofs.Tryz.prog (keepOf keep36) body36 (retK Go.Proofs.Tryz.prog (Go.Proofs.Tryz.f36).results.toList k kp) (frameOf 0 [t0, t1]) σ = F36 t0 t1 σ k kp := by kernel_rfl
theorem F36_ev {t0 t1 : AV} {σ : AHeap} {k kp : AV → AHeap → Prop} (h : F36 t0 t1 σ k kp) : Ev Go.Proofs.Tryz.prog 36 [t0, t1] σ k kp :=
  Ev_of_aw mixed Go.Proofs.Tryz.func36 (show (Go.Proofs.Tryz.f36).body = some body36 by kernel_rfl) (by kernel_rfl) (args := [t0, t1]) (of_decide_eq_true (by kernel_rfl)) (keepOf keep36) (by kernel_rfl) (by rw [F36_eq]; exact h)

/-- enclave/enclaveref11.Great -/
def F45 (t0 : AV) (σ : AHeap) (k kp : AV → AHeap → Prop) : Prop :=
  stepK (pureR σ (aLenK .slice t0 σ)) fun t5 σ =>
  stepK (pureR σ (aBin .gtr .prim t5 (.val (Go.Value.int Go.IntKind.i64 100)))) fun t6 σ =>
  condK t6 (
  k (.val (Go.Value.bool Bool.true)) σ
  ) (
  seqW (fun fr σ => (
  k (.val (Go.Value.bool Bool.false)) σ
  )) (fun j1 => (
  stepK (pureR σ (aLenK .slice t0 σ)) fun t8 σ =>
  loopW (fun fr σ again => (
  stepK (pureR σ (aBin .lss .prim (Abs.look fr 9) (Abs.look fr 8))) fun t10 σ =>
  condK t10 (
  stepK (pureR σ (aIndexAddr 3 (Abs.look fr 0) (Abs.look fr 9) σ)) fun t14 σ =>
  stepK (pureR σ (aFieldAddr 2 t14)) fun t15 σ =>
  stepK (pureR σ (aLoad false 1 t15 σ)) fun t16 σ =>
  stepK (pureR σ (aLenK .str t16 σ)) fun t17 σ =>
  stepK (pureR σ (aBin .gtr .prim t17 (.val (Go.Value.int Go.IntKind.i64 100)))) fun t18 σ =>
  condK t18 (
  k (.val (Go.Value.bool Bool.true)) σ
  ) (
  stepK (pureR σ (aBin .add .prim (Abs.look fr 9) (.val (Go.Value.int Go.IntKind.i64 1)))) fun t19 σ =>
  again [(0, (Abs.look fr 0)), (8, (Abs.look fr 8)), (9, t19)] σ
  )
  ) (
  j1 [(0, (Abs.look fr 0))] σ
  )
  )) [(0, t0), (8, t8), (9, (.val (Go.Value.int Go.IntKind.i64 0)))] σ
  ))
  )
def keep45 : List (Nat × List Nat) := [(0, [0]), (1, [0, 6]), (2, [2]), (3010, [0]), (3, [0, 8, 9]), (4, [0, 8, 9, 10]), (5, [0, 3, 8, 9]), (6, [0, 8, 9, 18]), (7, [2]), (8, [0, 8, 9]), (1004, [0, 8, 9]), (9, [2])]
noncomputable def body45 : Code := (Go.Proofs.Tryz.f45).body.getD .skip
theorem F45_eq (t0 : AV) (σ : AHeap) (k kp : AV → AHeap → Prop) : aw Go.Proofs.Tryz.prog (keepOf keep45) body45 (retK Go.Proofs.Tryz.prog (Go.Proofs.Tryz.f45).results.toList k kp) (frameOf 0 [t0]) σ = F45 t0 σ k kp := by kernel_rfl
theorem F45_ev {t0 : AV} {σ : AHeap} {k kp : AV → AHeap → Prop} (h : F45 t0 σ k kp) : Ev Go.Proofs.Tryz.prog 45 [t0] σ k kp :=
  Ev_of_aw mixed Go.Proofs.Tryz.func45 (show (Go.Proofs.Tryz.f45).body = some body45 by kernel_rfl) (by kernel_rfl) (args := [t0]) (of_decide_eq_true (by kernel_rfl)) (keepOf keep45) (by kernel_rfl) (by rw [F45_eq]; exact h)

/-- enclave/enclaveref12.Great -/
def F46 (t0 : AV) (σ : AHeap) (k kp : AV → AHeap → Prop) : Prop :=
  stepK (aBox t0 σ) fun t1 σ =>
  stepK (pureR σ (aLoad true 4 t1 σ)) fun t3 σ =>
  Ev Go.Proofs.Tryz.prog 66 [t3, (.val (Go.Value.int Go.IntKind.i64 100))] σ (fun t4 σ =>
  stepK (pureR σ (aBin .lss .prim t4 (.val (Go.Value.int Go.IntKind.i64 0)))) fun t5 σ =>
  k t5 σ) kp
def keep46 : List (Nat × List Nat) := [(0, [1]), (1, [2])]
noncomputable def body46 : Code := (Go.Proofs.Tryz.f46).body.getD .skip
theorem F46_eq (t0 : AV) (σ : AHeap) (k kp : AV → AHeap → Prop) : aw Go.Proofs.Tryz.prog (keepOf keep46) body46 (retK Go.Proofs.Tryz.prog (Go.Proofs.Tryz.f46).results.toList k kp) (frameOf 0 [t0]) σ = F46 t0 σ k kp := by kernel_rfl
theorem F46_ev {t0 : AV} {σ : AHeap} {k kp : AV → AHeap → Prop} (h : F46 t0 σ k kp) : Ev Go.Proofs.Tryz.prog 46 [t0] σ k kp :=
  Ev_of_aw mixed Go.Proofs.Tryz.func46 (show (Go.Proofs.Tryz.f46).body = some body46 by kernel_rfl) (by kernel_rfl) (args := [t0]) (of_decide_eq_true (by kernel_rfl)) (keepOf keep46) (by kernel_rfl) (by rw [F46_eq]; exact h)

/-- enclave/aterm.of -/
def F47 (t0 : AV) (σ : AHeap) (k kp : AV → AHeap → Prop) : Prop :=
  stepK (aAlloc [.val (.bool false), .val (.bool false), .val (.bool false), .val (.bool false), .val (.bool false)] σ) fun t2 σ =>
  seqW (fun fr σ => (
  condK (Abs.look fr 4) (
  stepK (pureR σ (aBuild [.val (.bool false), .val (.bool false), .val (.bool false), .val (.bool false), .val (.bool false)] [(0, 1, (.val (Go.Value.bool Bool.true)))])) fun t8 σ =>
  stepK (unitR (aStore 5 (Abs.look fr 2) t8 σ)) fun _ σ =>
  stepV (aLoad true 5 (Abs.look fr 2) σ) fun r0 =>
  k r0 σ
  ) (
  stepK (pureR σ (aBin .eql .prim (Abs.look fr 3) (.val (Go.Value.int Go.IntKind.u8 11)))) fun t10 σ =>
  condK t10 (
  stepK (pureR σ (aBuild [.val (.bool false), .val (.bool false), .val (.bool false), .val (.bool false), .val (.bool false)] [(0, 1, (.val (Go.Value.bool Bool.true))), (2, 1, (.val (Go.Value.bool Bool.true))), (3, 1, (.val (Go.Value.bool Bool.true)))])) fun t11 σ =>
  stepK (unitR (aStore 5 (Abs.look fr 2) t11 σ)) fun _ σ =>
  stepV (aLoad true 5 (Abs.look fr 2) σ) fun r0 =>
  k r0 σ
  ) (
  stepK (pureR σ (aBin .eql .prim (Abs.look fr 3) (.val (Go.Value.int Go.IntKind.u8 13)))) fun t13 σ =>
  condK t13 (
  stepK (pureR σ (aBuild [.val (.bool false), .val (.bool false), .val (.bool false), .val (.bool false), .val (.bool false)] [(0, 1, (.val (Go.Value.bool Bool.true))), (1, 1, (.val (Go.Value.bool Bool.true))), (2, 1, (.val (Go.Value.bool Bool.true))), (3, 1, (.val (Go.Value.bool Bool.true))), (4, 1, (.val (Go.Value.bool Bool.true)))])) fun t14 σ =>
  stepK (unitR (aStore 5 (Abs.look fr 2) t14 σ)) fun _ σ =>
  stepV (aLoad true 5 (Abs.look fr 2) σ) fun r0 =>
  k r0 σ
  ) (
  stepK (pureR σ (aBin .eql .prim (Abs.look fr 3) (.val (Go.Value.int Go.IntKind.u8 15)))) fun t16 σ =>
  condK t16 (
  stepK (pureR σ (aBuild [.val (.bool false), .val (.bool false), .val (.bool false), .val (.bool false), .val (.bool false)] [(3, 1, (.val (Go.Value.bool Bool.true)))])) fun t17 σ =>
  stepK (unitR (aStore 5 (Abs.look fr 2) t17 σ)) fun _ σ =>
  stepV (aLoad true 5 (Abs.look fr 2) σ) fun r0 =>
  k r0 σ
  ) (
  stepK (pureR σ (aBin .eql .prim (Abs.look fr 3) (.val (Go.Value.int Go.IntKind.u8 18)))) fun t19 σ =>
  condK t19 (
  stepK (pureR σ (aBuild [.val (.bool false), .val (.bool false), .val (.bool false), .val (.bool false), .val (.bool false)] [(0, 1, (.val (Go.Value.bool Bool.true))), (1, 1, (.val (Go.Value.bool Bool.true))), (2, 1, (.val (Go.Value.bool Bool.true)))])) fun t20 σ =>
  stepK (unitR (aStore 5 (Abs.look fr 2) t20 σ)) fun _ σ =>
  stepV (aLoad true 5 (Abs.look fr 2) σ) fun r0 =>
  k r0 σ
  ) (
  stepK (pureR σ (aBuild [.val (.bool false), .val (.bool false), .val (.bool false), .val (.bool false), .val (.bool false)] [])) fun t21 σ =>
  stepK (unitR (aStore 5 (Abs.look fr 2) t21 σ)) fun _ σ =>
  stepV (aLoad true 5 (Abs.look fr 2) σ) fun r0 =>
  k r0 σ
  )
  )
  )
  )
  )
  )) (fun j1 => (
  stepK (pureR σ (aBin .eql .prim t0 (.val (Go.Value.int Go.IntKind.u8 3)))) fun t5 σ =>
  condK t5 (
  j1 [(2, t2), (3, t0), (4, t5)] σ
  ) (
  stepK (pureR σ (aBin .eql .prim t0 (.val (Go.Value.int Go.IntKind.u8 6)))) fun t6 σ =>
  condK t6 (
  j1 [(2, t2), (3, t0), (4, t6)] σ
  ) (
  stepK (pureR σ (aBin .eql .prim t0 (.val (Go.Value.int Go.IntKind.u8 17)))) fun t7 σ =>
  j1 [(2, t2), (3, t0), (4, t7)] σ
  )
  )
  ))
def keep47 : List (Nat × List Nat) := [(0, [0, 2]), (1, [2, 3]), (3006, [2, 3, 4]), (2, [2, 3, 4]), (3, [2, 3, 4]), (4, [2, 3, 4]), (5, [2]), (6, [2, 3, 9]), (7, [2]), (8, [2, 3, 12]), (9, [2]), (10, [2, 3, 15]), (11, [2]), (12, [2, 18]), (13, [2]), (14, [2])]
noncomputable def body47 : Code := (Go.Proofs.Tryz.f47).body.getD .skip
theorem F47_eq (t0 : AV) (σ : AHeap) (k kp : AV → AHeap → Prop) : aw Go.Proofs.Tryz.prog (keepOf keep47) body47 (retK Go.Proofs.Tryz.prog (Go.Proofs.Tryz.f47).results.toList k kp) (frameOf 0 [t0]) σ = F47 t0 σ k kp := by kernel_rfl
theorem F47_ev {t0 : AV} {σ : AHeap} {k kp : AV → AHeap → Prop} (h : F47 t0 σ k kp) : Ev Go.Proofs.Tryz.prog 47 [t0] σ k kp :=
  Ev_of_aw mixed Go.Proofs.Tryz.func47 (show (Go.Proofs.Tryz.f47).body = some body47 by kernel_rfl) (by kernel_rfl) (args := [t0]) (of_decide_eq_true (by kernel_rfl)) (keepOf keep47) (by kernel_rfl) (by rw [F47_eq]; exact h)

/-- enclave/aterm.headed -/
def F48 (t0 : AV) (σ : AHeap) (k kp : AV → AHeap → Prop) : Prop :=
  stepK (aBox t0 σ) fun t1 σ =>
  seqW (fun fr σ => (
  stepK (pureR σ (aFieldAddr 18 (Abs.look fr 1))) fun t31 σ =>
  stepK (pureR σ (aLoad false 1 t31 σ)) fun t32 σ =>
  stepK (pureR σ (aLenK .slice t32 σ)) fun t33 σ =>
  stepK (pureR σ (aBin .leq .prim t33 (.val (Go.Value.int Go.IntKind.i64 3)))) fun t34 σ =>
  gK t34 true (fun K => stepK (pureR σ (aLoad true 19 (Abs.look fr 1) σ)) K) (fun t36 σ =>
  gK t34 true (fun K => Ev Go.Proofs.Tryz.prog 68 [t36] σ K kp) (fun t37 σ =>
  gK t34 true (fun K => Ev Go.Proofs.Tryz.prog 67 [t37] σ K kp) (fun t38 σ =>
  stepK (pureR σ (aPick t34 t38 (.val (Go.Value.bool Bool.false)))) fun t39 σ =>
  k t39 σ
  ) σ) σ) σ)) (fun j1 => (
  stepK (pureR σ (aFieldAddr 0 t1)) fun t3 σ =>
  stepK (pureR σ (aFieldAddr 0 t3)) fun t4 σ =>
  stepK (pureR σ (aLoad false 1 t4 σ)) fun t5 σ =>
  stepK (pureR σ (aBin .eql .prim t5 (.val (Go.Value.int Go.IntKind.u8 17)))) fun t7 σ =>
  condK t7 (
  stepK (pureR σ (aFieldAddr 0 t1)) fun t8 σ =>
  stepK (pureR σ (aLoad true 7 t8 σ)) fun t9 σ =>
  stepK (pureR σ (aFieldAddr 0 t1)) fun t10 σ =>
  stepK (pureR σ (aFieldAddr 2 t10)) fun t11 σ =>
  stepK (pureR σ (aLoad false 1 t11 σ)) fun t12 σ =>
  stepK (pureR σ (aBuild [.val (.int .u8 0), .val (.int .u8 0), .val (.int .i64 0), .val (.int .i64 0), .val (.string ByteArray.empty), .val (.string ByteArray.empty), .val (.string ByteArray.empty)] [(0, 1, (.val (Go.Value.int Go.IntKind.u8 17))), (2, 1, t12)])) fun t13 σ =>
  stepK (pureR σ (aBin .eql (.agg [.i, .i, .i, .i, .s, .s, .s]) t9 t13)) fun t14 σ =>
  gK t14 true (fun K => stepK (pureR σ (aFieldAddr 0 t1)) K) (fun t16 σ =>
  gK t14 true (fun K => stepK (pureR σ (aFieldAddr 2 t16)) K) (fun t17 σ =>
  gK t14 true (fun K => stepK (pureR σ (aLoad false 1 t17 σ)) K) (fun t18 σ =>
  gK t14 true (fun K => stepK (pureR σ (aBin .geq .prim t18 (.val (Go.Value.int Go.IntKind.i64 0)))) K) (fun t19 σ =>
  stepK (pureR σ (aPick t14 t19 (.val (Go.Value.bool Bool.false)))) fun t20 σ =>
  gK t20 true (fun K => stepK (pureR σ (aFieldAddr 18 t1)) K) (fun t22 σ =>
  gK t20 true (fun K => stepK (pureR σ (aLoad false 1 t22 σ)) K) (fun t23 σ =>
  gK t20 true (fun K => stepK (pureR σ (aLenK .slice t23 σ)) K) (fun t24 σ =>
  gK t20 true (fun K => stepK (pureR σ (aBin .eql .prim t24 (.val (Go.Value.int Go.IntKind.i64 1)))) K) (fun t25 σ =>
  stepK (pureR σ (aPick t20 t25 (.val (Go.Value.bool Bool.false)))) fun t26 σ =>
  k t26 σ
  ) σ) σ) σ) σ) σ) σ) σ) σ) (
  stepK (pureR σ (aBin .eql .prim t5 (.val (Go.Value.int Go.IntKind.u8 18)))) fun t28 σ =>
  condK t28 (
  stepK (pureR σ (aFieldAddr 0 t1)) fun t29 σ =>
  stepK (pureR σ (aFieldAddr 0 t29)) fun t30 σ =>
  stepK (unitR (aStore 1 t30 (.val (Go.Value.int Go.IntKind.u8 2)) σ)) fun _ σ =>
  j1 [(1, t1)] σ
  ) (
  j1 [(1, t1)] σ
  )
  )
  ))
def keep48 : List (Nat × List Nat) := [(0, [1]), (3007, [1]), (1, [1, 5]), (2, [1, 5, 6]), (3, [2]), (4, [1, 27]), (5, [1]), (6, [2])]
noncomputable def body48 : Code := (Go.Proofs.Tryz.f48).body.getD .skip
theorem F48_eq (t0 : AV) (σ : AHeap) (k kp : AV → AHeap → Prop) : aw Go.Proofs.Tryz.prog (keepOf keep48) body48 (retK Go.Proofs.Tryz.prog (Go.Proofs.Tryz.f48).results.toList k kp) (frameOf 0 [t0]) σ = F48 t0 σ k kp := by kernel_rfl
theorem F48_ev {t0 : AV} {σ : AHeap} {k kp : AV → AHeap → Prop} (h : F48 t0 σ k kp) : Ev Go.Proofs.Tryz.prog 48 [t0] σ k kp :=
  Ev_of_aw mixed Go.Proofs.Tryz.func48 (show (Go.Proofs.Tryz.f48).body = some body48 by kernel_rfl) (by kernel_rfl) (args := [t0]) (of_decide_eq_true (by kernel_rfl)) (keepOf keep48) (by kernel_rfl) (by rw [F48_eq]; exact h)

/-- enclave/aterm.regions -/
def F49 (t0 t1 : AV) (σ : AHeap) (k kp : AV → AHeap → Prop) : Prop :=
  stepK (aBox t0 σ) fun t2 σ =>
  stepK (aBox t1 σ) fun t3 σ =>
  stepK (aAlloc [.val (.int .i64 0)] σ) fun t5 σ =>
  stepK (unitR (aStore 1 t5 (.val (Go.Value.int Go.IntKind.i64 0)) σ)) fun _ σ =>
  seqW (fun fr σ => (
  stepK (pureR σ (aFieldAddr 7 (Abs.look fr 2))) fun t11 σ =>
  stepK (pureR σ (aLoad false 1 t11 σ)) fun t12 σ =>
  stepK (pureR σ (aBin .lss .prim t12 (.val (Go.Value.int Go.IntKind.i64 0)))) fun t13 σ =>
  gK t13 false (fun K => stepK (pureR σ (aFieldAddr 0 (Abs.look fr 2))) K) (fun t15 σ =>
  gK t13 false (fun K => stepK (pureR σ (aFieldAddr 0 t15)) K) (fun t16 σ =>
  gK t13 false (fun K => stepK (pureR σ (aLoad false 1 t16 σ)) K) (fun t17 σ =>
  gK t13 false (fun K => stepK (pureR σ (aBin .eql .prim t17 (.val (Go.Value.int Go.IntKind.u8 17)))) K) (fun t18 σ =>
  gK t13 false (fun K => K t18 σ) (fun t19 σ =>
  gK t19 true (fun K => stepK (pureR σ (aFieldAddr 7 (Abs.look fr 2))) K) (fun t20 σ =>
  gK t19 true (fun K => stepK (pureR σ (aLoad false 1 t20 σ)) K) (fun t21 σ =>
  gK t19 true (fun K => stepK (pureR σ (aBin .lss .prim t21 (.val (Go.Value.int Go.IntKind.i64 1)))) K) (fun t22 σ =>
  gK t13 false (fun K => stepK (pureR σ (aPick t19 t22 (.val (Go.Value.bool Bool.false)))) K) (fun t23 σ =>
  stepK (pureR σ (aPick t13 (.val (Go.Value.bool Bool.true)) t23)) fun t24 σ =>
  stepK (pureR σ (aFieldAddr 0 (Abs.look fr 3))) fun t25 σ =>
  stepK (pureR σ (aLoad false 1 t25 σ)) fun t26 σ =>
  stepK (pureR σ (aNot t26)) fun t27 σ =>
  gK t27 true (fun K => stepK (pureR σ (aFieldAddr 7 (Abs.look fr 2))) K) (fun t29 σ =>
  gK t27 true (fun K => stepK (pureR σ (aLoad false 1 t29 σ)) K) (fun t30 σ =>
  gK t27 true (fun K => stepK (pureR σ (aBin .neq .prim t30 (.val (Go.Value.int Go.IntKind.i64 0)))) K) (fun t31 σ =>
  stepK (pureR σ (aPick t27 t31 (.val (Go.Value.bool Bool.false)))) fun t32 σ =>
  gK t32 false (fun K => K t24 σ) (fun t34 σ =>
  stepK (pureR σ (aPick t32 (.val (Go.Value.bool Bool.true)) t34)) fun t35 σ =>
  gK t35 false (fun K => stepK (pureR σ (aFieldAddr 1 (Abs.look fr 3))) K) (fun t37 σ =>
  gK t35 false (fun K => stepK (pureR σ (aLoad false 1 t37 σ)) K) (fun t38 σ =>
  gK t35 false (fun K => stepK (pureR σ (aNot t38)) K) (fun t39 σ =>
  gK t35 false (fun K => K t39 σ) (fun t40 σ =>
  gK t40 true (fun K => stepK (pureR σ (aFieldAddr 8 (Abs.look fr 2))) K) (fun t41 σ =>
  gK t40 true (fun K => stepK (pureR σ (aLoad false 1 t41 σ)) K) (fun t42 σ =>
  gK t40 true (fun K => stepK (pureR σ (aLenK .slice t42 σ)) K) (fun t43 σ =>
  gK t40 true (fun K => stepK (pureR σ (aBin .gtr .prim t43 (.val (Go.Value.int Go.IntKind.i64 0)))) K) (fun t44 σ =>
  gK t35 false (fun K => stepK (pureR σ (aPick t40 t44 (.val (Go.Value.bool Bool.false)))) K) (fun t45 σ =>
  stepK (pureR σ (aPick t35 (.val (Go.Value.bool Bool.true)) t45)) fun t46 σ =>
  condK t46 (
  k (.val (Go.Value.bool Bool.false)) σ
  ) (
  stepK (pureR σ (aFieldAddr 8 (Abs.look fr 2))) fun t47 σ =>
  stepK (pureR σ (aLoad false 1 t47 σ)) fun t48 σ =>
  Ev Go.Proofs.Tryz.prog 69 [t48, (.fn (.func 70) [(Abs.look fr 5)])] σ (fun t50 σ =>
  stepK (pureR σ (aNot t50)) fun t51 σ =>
  k t51 σ
  ) kp)
  ) σ) σ) σ) σ) σ) σ) σ) σ) σ) σ) σ) σ) σ) σ) σ) σ) σ) σ) σ) σ) σ) σ)) (fun j1 => (
  stepK (pureR σ (aFieldAddr 0 t2)) fun t7 σ =>
  stepK (pureR σ (aFieldAddr 0 t7)) fun t8 σ =>
  stepK (pureR σ (aLoad false 1 t8 σ)) fun t9 σ =>
  stepK (pureR σ (aBin .eql .prim t9 (.val (Go.Value.int Go.IntKind.u8 13)))) fun t10 σ =>
  condK t10 (
  stepK (unitR (aStore 1 t5 (.val (Go.Value.int Go.IntKind.i64 1)) σ)) fun _ σ =>
  j1 [(2, t2), (3, t3), (5, t5)] σ
  ) (
  j1 [(2, t2), (3, t3), (5, t5)] σ
  )
  ))
def keep49 : List (Nat × List Nat) := [(0, [2, 3]), (1, [2, 3, 5]), (3005, [2, 3, 5]), (2, [2, 3, 5, 10]), (3, [2, 3, 5]), (4, [2, 3, 5, 6]), (5, [2, 5, 46]), (6, [4]), (7, [4])]
noncomputable def body49 : Code := (Go.Proofs.Tryz.f49).body.getD .skip
theorem F49_eq (t0 t1 : AV) (σ : AHeap) (k kp : AV → AHeap → Prop) : aw Go.Proofs.Tryz.prog (keepOf keep49) body49 (retK Go.Proofs.Tryz.prog (Go.Proofs.Tryz.f49).results.toList k kp) (frameOf 0 [t0, t1]) σ = F49 t0 t1 σ k kp := by kernel_rfl
theorem F49_ev {t0 t1 : AV} {σ : AHeap} {k kp : AV → AHeap → Prop} (h : F49 t0 t1 σ k kp) : Ev Go.Proofs.Tryz.prog 49 [t0, t1] σ k kp :=
  Ev_of_aw mixed Go.Proofs.Tryz.func49 (show (Go.Proofs.Tryz.f49).body = some body49 by kernel_rfl) (by kernel_rfl) (args := [t0, t1]) (of_decide_eq_true (by kernel_rfl)) (keepOf keep49) (by kernel_rfl) (by rw [F49_eq]; exact h)

/-- enclave/effect.May -/
def F51 (t0 : AV) (σ : AHeap) (k kp : AV → AHeap → Prop) : Prop :=
  seqW (fun fr σ => (
  k (.val (Go.Value.bool Bool.true)) σ
  )) (fun j1 => (
  stepK (pureR σ (aLenK .slice t0 σ)) fun t6 σ =>
  loopW (fun fr σ again => (
  stepK (pureR σ (aBin .lss .prim (Abs.look fr 7) (Abs.look fr 6))) fun t8 σ =>
  condK t8 (
  stepK (pureR σ (aIndexAddr 3 (Abs.look fr 5) (Abs.look fr 7) σ)) fun t10 σ =>
  stepK (pureR σ (aLoad true 3 t10 σ)) fun t11 σ =>
  stepK (aAlloc [.val (.int .u8 0), .val (.int .i64 0), .val (.string ByteArray.empty)] σ) fun t4 σ =>
  stepK (unitR (aStore 3 t4 t11 σ)) fun _ σ =>
  stepK (pureR σ (aLoad true 3 t4 σ)) fun t12 σ =>
  Ev Go.Proofs.Tryz.prog 74 [t12] σ (fun t13 σ =>
  stepK (pureR σ (aNot t13)) fun t14 σ =>
  gK t14 false (fun K => K (Abs.look fr 7) σ) (fun t16 σ =>
  gK t14 false (fun K => stepK (pureR σ (aBin .gtr .prim t16 (.val (Go.Value.int Go.IntKind.i64 0)))) K) (fun t17 σ =>
  gK t14 false (fun K => K t17 σ) (fun t18 σ =>
  gK t18 true (fun K => K (Abs.look fr 0) σ) (fun t19 σ =>
  gK t18 true (fun K => K (Abs.look fr 7) σ) (fun t20 σ =>
  gK t18 true (fun K => stepK (pureR σ (aBin .sub .prim t20 (.val (Go.Value.int Go.IntKind.i64 1)))) K) (fun t21 σ =>
  gK t18 true (fun K => stepK (pureR σ (aIndexAddr 3 t19 t21 σ)) K) (fun t22 σ =>
  gK t18 true (fun K => stepK (pureR σ (aLoad true 3 t22 σ)) K) (fun t23 σ =>
  gK t18 true (fun K => stepK (pureR σ (aLoad true 3 t4 σ)) K) (fun t24 σ =>
  gK t18 true (fun K => Ev Go.Proofs.Tryz.prog 75 [t23, t24] σ K kp) (fun t25 σ =>
  gK t18 true (fun K => stepK (pureR σ (aBin .geq .prim t25 (.val (Go.Value.int Go.IntKind.i64 0)))) K) (fun t26 σ =>
  gK t14 false (fun K => stepK (pureR σ (aPick t18 t26 (.val (Go.Value.bool Bool.false)))) K) (fun t27 σ =>
  stepK (pureR σ (aPick t14 (.val (Go.Value.bool Bool.true)) t27)) fun t28 σ =>
  condK t28 (
  k (.val (Go.Value.bool Bool.false)) σ
  ) (
  stepK (pureR σ (aBin .add .prim (Abs.look fr 7) (.val (Go.Value.int Go.IntKind.i64 1)))) fun t29 σ =>
  again [(0, (Abs.look fr 0)), (5, (Abs.look fr 5)), (6, (Abs.look fr 6)), (7, t29)] σ
  )
  ) σ) σ) σ) σ) σ) σ) σ) σ) σ) σ) σ) σ) kp) (
  j1 [(0, (Abs.look fr 0))] σ
  )
  )) [(0, t0), (5, t0), (6, t6), (7, (.val (Go.Value.int Go.IntKind.i64 0)))] σ
  ))
def keep51 : List (Nat × List Nat) := [(0, [0]), (3008, [0]), (1, [0, 5, 6, 7]), (2, [0, 5, 6, 7, 8]), (3, [0, 3, 4, 5, 6, 7]), (4, [0, 5, 6, 7, 28]), (2004, [0, 1, 2, 3, 4, 5, 6, 7, 8, 9, 10, 11, 12, 13, 14, 15, 16]), (5, [2]), (6, [0, 5, 6, 7]), (1002, [0, 5, 6, 7]), (7, [2])]
noncomputable def body51 : Code := (Go.Proofs.Tryz.f51).body.getD .skip
theorem F51_eq (t0 : AV) (σ : AHeap) (k kp : AV → AHeap → Prop) : aw Go.Proofs.Tryz.prog (keepOf keep51) body51 (retK Go.Proofs.Tryz.prog (Go.Proofs.Tryz.f51).results.toList k kp) (frameOf 0 [t0]) σ = F51 t0 σ k kp := by kernel_rfl
theorem F51_ev {t0 : AV} {σ : AHeap} {k kp : AV → AHeap → Prop} (h : F51 t0 σ k kp) : Ev Go.Proofs.Tryz.prog 51 [t0] σ k kp :=
  Ev_of_aw mixed Go.Proofs.Tryz.func51 (show (Go.Proofs.Tryz.f51).body = some body51 by kernel_rfl) (by kernel_rfl) (args := [t0]) (of_decide_eq_true (by kernel_rfl)) (keepOf keep51) (by kernel_rfl) (by rw [F51_eq]; exact h)

/-- enclave/aterm.fits -/
def F52 (t0 t1 : AV) (σ : AHeap) (k kp : AV → AHeap → Prop) : Prop :=
  stepK (aBox t1 σ) fun t3 σ =>
  condK t0 (
  stepK (pureR σ (aLoad true 4 t3 σ)) fun t6 σ =>
  stepK (pureR σ (aBuildSl 1 4 [.val (.int .u8 0), .val (.int .i64 0), .val (.slice none 0 0), .val (.slice none 0 0)] [(0, t6)])) fun t7 σ =>
  Ev Go.Proofs.Tryz.prog 76 [t7] σ (fun t8 σ =>
  k t8 σ
  ) kp) (
  stepK (pureR σ (aFieldAddr 0 t3)) fun t9 σ =>
  stepK (pureR σ (aLoad false 1 t9 σ)) fun t10 σ =>
  stepK (pureR σ (aBin .eql .prim t10 (.val (Go.Value.int Go.IntKind.u8 0)))) fun t11 σ =>
  gK t11 true (fun K => stepK (pureR σ (aFieldAddr 1 t3)) K) (fun t13 σ =>
  gK t11 true (fun K => stepK (pureR σ (aLoad false 1 t13 σ)) K) (fun t14 σ =>
  gK t11 true (fun K => stepK (pureR σ (aBin .eql .prim t14 (.val (Go.Value.int Go.IntKind.i64 0)))) K) (fun t15 σ =>
  stepK (pureR σ (aPick t11 t15 (.val (Go.Value.bool Bool.false)))) fun t16 σ =>
  gK t16 true (fun K => stepK (pureR σ (aFieldAddr 2 t3)) K) (fun t18 σ =>
  gK t16 true (fun K => stepK (pureR σ (aLoad false 1 t18 σ)) K) (fun t19 σ =>
  gK t16 true (fun K => stepK (pureR σ (aLenK .slice t19 σ)) K) (fun t20 σ =>
  gK t16 true (fun K => stepK (pureR σ (aFieldAddr 3 t3)) K) (fun t21 σ =>
  gK t16 true (fun K => stepK (pureR σ (aLoad false 1 t21 σ)) K) (fun t22 σ =>
  gK t16 true (fun K => stepK (pureR σ (aLenK .slice t22 σ)) K) (fun t23 σ =>
  gK t16 true (fun K => stepK (pureR σ (aBin .add .prim t20 t23)) K) (fun t24 σ =>
  gK t16 true (fun K => stepK (pureR σ (aBin .eql .prim t24 (.val (Go.Value.int Go.IntKind.i64 0)))) K) (fun t25 σ =>
  stepK (pureR σ (aPick t16 t25 (.val (Go.Value.bool Bool.false)))) fun t26 σ =>
  k t26 σ
  ) σ) σ) σ) σ) σ) σ) σ) σ) σ) σ) σ)
def keep52 : List (Nat × List Nat) := [(0, [0, 3]), (1, [3, 5]), (2, [4]), (4002, [1]), (3, [4])]
noncomputable def body52 : Code := (Go.Proofs.Tryz.f52).body.getD .skip
theorem F52_eq (t0 t1 : AV) (σ : AHeap) (k kp : AV → AHeap → Prop) : aw Go.Proofs.Tryz.prog (keepOf keep52) body52 (retK Go.Proofs.Tryz.prog (Go.Proofs.Tryz.f52).results.toList k kp) (frameOf 0 [t0, t1]) σ = F52 t0 t1 σ k kp := by kernel_rfl
theorem F52_ev {t0 t1 : AV} {σ : AHeap} {k kp : AV → AHeap → Prop} (h : F52 t0 t1 σ k kp) : Ev Go.Proofs.Tryz.prog 52 [t0, t1] σ k kp :=
  Ev_of_aw mixed Go.Proofs.Tryz.func52 (show (Go.Proofs.Tryz.f52).body = some body52 by kernel_rfl) (by kernel_rfl) (args := [t0, t1]) (of_decide_eq_true (by kernel_rfl)) (keepOf keep52) (by kernel_rfl) (by rw [F52_eq]; exact h)

/-- enclave/enclaveref12.left -/
def F66 (t0 t1 : AV) (σ : AHeap) (k kp : AV → AHeap → Prop) : Prop :=
  stepK (aBox t0 σ) fun t2 σ =>
  stepK (pureR σ (aBin .sub .prim t1 (.val (Go.Value.int Go.IntKind.i64 1)))) fun t7 σ =>
  stepK (pureR σ (aFieldAddr 2 t2)) fun t8 σ =>
  stepK (pureR σ (aLoad false 1 t8 σ)) fun t9 σ =>
  Ev Go.Proofs.Tryz.prog 45 [t9] σ (fun t10 σ =>
  condK t10 (
  k (.val (Go.Value.int Go.IntKind.i64 (-1))) σ
  ) (
  seqW (fun fr σ => (
  k (Abs.look fr 1) σ
  )) (fun j1 => (
  loopW (fun fr σ again => (
  stepK (pureR σ (aFieldAddr 3 (Abs.look fr 2))) fun t12 σ =>
  stepK (pureR σ (aLoad false 1 t12 σ)) fun t13 σ =>
  stepK (pureR σ (aLenK .slice t13 σ)) fun t14 σ =>
  stepK (pureR σ (aBin .lss .prim (Abs.look fr 5) t14)) fun t15 σ =>
  gK t15 true (fun K => K (Abs.look fr 1) σ) (fun t17 σ =>
  gK t15 true (fun K => stepK (pureR σ (aBin .geq .prim t17 (.val (Go.Value.int Go.IntKind.i64 0)))) K) (fun t18 σ =>
  stepK (pureR σ (aPick t15 t18 (.val (Go.Value.bool Bool.false)))) fun t19 σ =>
  condK t19 (
  stepK (pureR σ (aFieldAddr 3 (Abs.look fr 2))) fun t22 σ =>
  stepK (pureR σ (aLoad false 1 t22 σ)) fun t23 σ =>
  stepK (pureR σ (aIndexAddr 4 t23 (Abs.look fr 5) σ)) fun t25 σ =>
  stepK (pureR σ (aLoad true 4 t25 σ)) fun t26 σ =>
  Ev Go.Proofs.Tryz.prog 66 [t26, (Abs.look fr 1)] σ (fun t28 σ =>
  stepK (pureR σ (aBin .add .prim (Abs.look fr 5) (.val (Go.Value.int Go.IntKind.i64 1)))) fun t21 σ =>
  again [(1, t28), (2, (Abs.look fr 2)), (5, t21)] σ
  ) kp) (
  j1 [(1, (Abs.look fr 1))] σ
  )
  ) σ) σ)) [(1, t7), (2, t2), (5, (.val (Go.Value.int Go.IntKind.i64 0)))] σ
  ))
  )) kp
def keep66 : List (Nat × List Nat) := [(0, [1, 2]), (1, [1, 2]), (2, [1, 2, 10]), (3, [4]), (3009, [1]), (4, [1, 2, 5]), (5, [1, 2, 5, 19]), (7, [1, 2, 5]), (6, [1, 2, 5]), (1005, [1, 2, 5]), (8, [4])]
noncomputable def body66 : Code := (Go.Proofs.Tryz.f66).body.getD .skip
theorem F66_eq (t0 t1 : AV) (σ : AHeap) (k kp : AV → AHeap → Prop) : aw Go.Proofs.Tryz.prog (keepOf keep66) body66 (retK Go.Proofs.Tryz.prog (Go.Proofs.Tryz.f66).results.toList k kp) (frameOf 0 [t0, t1]) σ = F66 t0 t1 σ k kp := by kernel_rfl
theorem F66_ev {t0 t1 : AV} {σ : AHeap} {k kp : AV → AHeap → Prop} (h : F66 t0 t1 σ k kp) : Ev Go.Proofs.Tryz.prog 66 [t0, t1] σ k kp :=
  Ev_of_aw mixed Go.Proofs.Tryz.func66 (show (Go.Proofs.Tryz.f66).body = some body66 by kernel_rfl) (by kernel_rfl) (args := [t0, t1]) (of_decide_eq_true (by kernel_rfl)) (keepOf keep66) (by kernel_rfl) (by rw [F66_eq]; exact h)

/-- enclave/term.May -/
def F67 (t0 : AV) (σ : AHeap) (k kp : AV → AHeap → Prop) : Prop :=
  stepK (aBox t0 σ) fun t1 σ =>
  stepK (pureR σ (aLoad true 8 t1 σ)) fun t3 σ =>
  stepK (pureR σ (aBuildSl 1 8 [.val (.int .u8 0), .val (.int .u8 0), .val (.int .i64 0), .val (.int .i64 0), .val (.string ByteArray.empty), .val (.string ByteArray.empty), .val (.string ByteArray.empty), .val (.slice none 0 0)] [(0, t3)])) fun t4 σ =>
  Ev Go.Proofs.Tryz.prog 83 [t4] σ (fun t5 σ =>
  stepK (pureR σ (aBin .leq .prim t5 (.val (Go.Value.int Go.IntKind.i64 4000)))) fun t6 σ =>
  gK t6 true (fun K => stepK (pureR σ (aLoad true 8 t1 σ)) K) (fun t8 σ =>
  gK t6 true (fun K => stepK (pureR σ (aBuildSl 1 8 [.val (.int .u8 0), .val (.int .u8 0), .val (.int .i64 0), .val (.int .i64 0), .val (.string ByteArray.empty), .val (.string ByteArray.empty), .val (.string ByteArray.empty), .val (.slice none 0 0)] [(0, t8)])) K) (fun t9 σ =>
  gK t6 true (fun K => Ev Go.Proofs.Tryz.prog 84 [(.fn (.func 85) []), t9] σ K kp) (fun t10 σ =>
  stepK (pureR σ (aPick t6 t10 (.val (Go.Value.bool Bool.false)))) fun t11 σ =>
  k t11 σ) σ) σ) σ) kp
def keep67 : List (Nat × List Nat) := [(0, [1]), (1, [2]), (4001, [1])]
noncomputable def body67 : Code := (Go.Proofs.Tryz.f67).body.getD .skip
theorem F67_eq (t0 : AV) (σ : AHeap) (k kp : AV → AHeap → Prop) : aw Go.Proofs.Tryz.prog (keepOf keep67) body67 (retK Go.Proofs.Tryz.prog (Go.Proofs.Tryz.f67).results.toList k kp) (frameOf 0 [t0]) σ = F67 t0 σ k kp := by kernel_rfl
theorem F67_ev {t0 : AV} {σ : AHeap} {k kp : AV → AHeap → Prop} (h : F67 t0 σ k kp) : Ev Go.Proofs.Tryz.prog 67 [t0] σ k kp :=
  Ev_of_aw mixed Go.Proofs.Tryz.func67 (show (Go.Proofs.Tryz.f67).body = some body67 by kernel_rfl) (by kernel_rfl) (args := [t0]) (of_decide_eq_true (by kernel_rfl)) (keepOf keep67) (by kernel_rfl) (by rw [F67_eq]; exact h)

/-- enclave/aterm.stub -/
def F68 (t0 : AV) (σ : AHeap) (k kp : AV → AHeap → Prop) : Prop :=
  stepK (aBox t0 σ) fun t1 σ =>
  stepK (aAlloc [.val (.int .u8 0), .val (.int .u8 0), .val (.int .i64 0), .val (.int .i64 0), .val (.string ByteArray.empty), .val (.string ByteArray.empty), .val (.string ByteArray.empty), .val (.slice none 0 0)] σ) fun t2 σ =>
  stepK (pureR σ (aFieldAddr 0 t1)) fun t4 σ =>
  stepK (pureR σ (aLoad true 7 t4 σ)) fun t5 σ =>
  stepK (pureR σ (aBuild [.val (.int .u8 0), .val (.int .u8 0), .val (.int .i64 0), .val (.int .i64 0), .val (.string ByteArray.empty), .val (.string ByteArray.empty), .val (.string ByteArray.empty), .val (.slice none 0 0)] [(0, 7, t5)])) fun t6 σ =>
  stepK (aAlloc [.val (.int .u8 0), .val (.int .u8 0), .val (.int .i64 0), .val (.int .i64 0), .val (.string ByteArray.empty), .val (.string ByteArray.empty), .val (.string ByteArray.empty), .val (.slice none 0 0)] σ) fun t3 σ =>
  stepK (unitR (aStore 8 t3 t6 σ)) fun _ σ =>
  seqW (fun fr σ => (
  stepK (pureR σ (aLoad true 8 (Abs.look fr 3) σ)) fun t20 σ =>
  stepK (unitR (aStore 8 (Abs.look fr 2) t20 σ)) fun _ σ =>
  stepV (aLoad true 8 (Abs.look fr 2) σ) fun r0 =>
  k r0 σ
  )) (fun j1 => (
  stepK (pureR σ (aFieldAddr 18 t1)) fun t7 σ =>
  stepK (pureR σ (aLoad false 1 t7 σ)) fun t8 σ =>
  stepK (pureR σ (aLenK .slice t8 σ)) fun t9 σ =>
  loopW (fun fr σ again => (
  stepK (pureR σ (aBin .lss .prim (Abs.look fr 10) (Abs.look fr 9))) fun t11 σ =>
  condK t11 (
  stepK (pureR σ (aFieldAddr 7 (Abs.look fr 3))) fun t12 σ =>
  stepK (pureR σ (aLoad false 1 t12 σ)) fun t13 σ =>
  stepK (pureR σ (aBuild [.val (.int .u8 0), .val (.int .u8 0), .val (.int .i64 0), .val (.int .i64 0), .val (.string ByteArray.empty), .val (.string ByteArray.empty), .val (.string ByteArray.empty)] [(0, 1, (.val (Go.Value.int Go.IntKind.u8 1)))])) fun t14 σ =>
  stepK (pureR σ (aBuild [.val (.int .u8 0), .val (.int .u8 0), .val (.int .i64 0), .val (.int .i64 0), .val (.string ByteArray.empty), .val (.string ByteArray.empty), .val (.string ByteArray.empty), .val (.slice none 0 0)] [(0, 7, t14)])) fun t15 σ =>
  stepK (pureR σ (aBuildSl 1 8 [.val (.int .u8 0), .val (.int .u8 0), .val (.int .i64 0), .val (.int .i64 0), .val (.string ByteArray.empty), .val (.string ByteArray.empty), .val (.string ByteArray.empty), .val (.slice none 0 0)] [(0, t15)])) fun t16 σ =>
  stepK (aAppend 8 96 t13 t16 σ) fun t17 σ =>
  stepK (pureR σ (aFieldAddr 7 (Abs.look fr 3))) fun t18 σ =>
  stepK (unitR (aStore 1 t18 t17 σ)) fun _ σ =>
  stepK (pureR σ (aBin .add .prim (Abs.look fr 10) (.val (Go.Value.int Go.IntKind.i64 1)))) fun t19 σ =>
  again [(2, (Abs.look fr 2)), (3, (Abs.look fr 3)), (9, (Abs.look fr 9)), (10, t19)] σ
  ) (
  j1 [(2, (Abs.look fr 2)), (3, (Abs.look fr 3))] σ
  )
  )) [(2, t2), (3, t3), (9, t9), (10, (.val (Go.Value.int Go.IntKind.i64 0)))] σ
  ))
def keep68 : List (Nat × List Nat) := [(0, [1, 2]), (1, [1, 2, 3]), (3007, [2, 3]), (2, [2, 3, 9, 10]), (3, [2, 3, 9, 10, 11]), (4, [2, 3, 9, 10]), (4004, [1]), (5, [2, 3, 9, 10]), (1003, [2, 3, 9, 10]), (6, [2])]
noncomputable def body68 : Code := (Go.Proofs.Tryz.f68).body.getD .skip
theorem F68_eq (t0 : AV) (σ : AHeap) (k kp : AV → AHeap → Prop) : aw Go.Proofs.Tryz.prog (keepOf keep68) body68 (retK Go.Proofs.Tryz.prog (Go.Proofs.Tryz.f68).results.toList k kp) (frameOf 0 [t0]) σ = F68 t0 σ k kp := by kernel_rfl
theorem F68_ev {t0 : AV} {σ : AHeap} {k kp : AV → AHeap → Prop} (h : F68 t0 σ k kp) : Ev Go.Proofs.Tryz.prog 68 [t0] σ k kp :=
  Ev_of_aw mixed Go.Proofs.Tryz.func68 (show (Go.Proofs.Tryz.f68).body = some body68 by kernel_rfl) (by kernel_rfl) (args := [t0]) (of_decide_eq_true (by kernel_rfl)) (keepOf keep68) (by kernel_rfl) (by rw [F68_eq]; exact h)

/-- slices.ContainsFunc[[]int,int] -/
def F69 (t0 t1 : AV) (σ : AHeap) (k kp : AV → AHeap → Prop) : Prop :=
  Ev Go.Proofs.Tryz.prog 86 [t0, t1] σ (fun t7 σ =>
  stepK (pureR σ (aBin .geq .prim t7 (.val (Go.Value.int Go.IntKind.i64 0)))) fun t8 σ =>
  k t8 σ) kp
def keep69 : List (Nat × List Nat) := [(0, [0, 1]), (1, [4])]
noncomputable def body69 : Code := (Go.Proofs.Tryz.f69).body.getD .skip
theorem F69_eq (t0 t1 : AV) (σ : AHeap) (k kp : AV → AHeap → Prop) : aw Go.Proofs.Tryz.prog (keepOf keep69) body69 (retK Go.Proofs.Tryz.prog (Go.Proofs.Tryz.f69).results.toList k kp) (frameOf 0 [t0, t1]) σ = F69 t0 t1 σ k kp := by kernel_rfl
theorem F69_ev {t0 t1 : AV} {σ : AHeap} {k kp : AV → AHeap → Prop} (h : F69 t0 t1 σ k kp) : Ev Go.Proofs.Tryz.prog 69 [t0, t1] σ k kp :=
  Ev_of_aw mixed Go.Proofs.Tryz.func69 (show (Go.Proofs.Tryz.f69).body = some body69 by kernel_rfl) (by kernel_rfl) (args := [t0, t1]) (of_decide_eq_true (by kernel_rfl)) (keepOf keep69) (by kernel_rfl) (by rw [F69_eq]; exact h)

/-- enclave/aterm.regions$1 -/
def F70 (t0 t1 : AV) (σ : AHeap) (k kp : AV → AHeap → Prop) : Prop :=
  stepK (pureR σ (aLoad false 1 t1 σ)) fun t5 σ =>
  stepK (pureR σ (aBin .lss .prim t0 t5)) fun t6 σ =>
  k t6 σ
def keep70 : List (Nat × List Nat) := [(0, [0, 1]), (1, [3])]
noncomputable def body70 : Code := (Go.Proofs.Tryz.f70).body.getD .skip
theorem F70_eq (t0 t1 : AV) (σ : AHeap) (k kp : AV → AHeap → Prop) : aw Go.Proofs.Tryz.prog (keepOf keep70) body70 (retK Go.Proofs.Tryz.prog (Go.Proofs.Tryz.f70).results.toList k kp) (frameOf 0 [t0, t1]) σ = F70 t0 t1 σ k kp := by kernel_rfl
theorem F70_ev {t0 t1 : AV} {σ : AHeap} {k kp : AV → AHeap → Prop} (h : F70 t0 t1 σ k kp) : Ev Go.Proofs.Tryz.prog 70 [t0, t1] σ k kp :=
  Ev_of_aw mixed Go.Proofs.Tryz.func70 (show (Go.Proofs.Tryz.f70).body = some body70 by kernel_rfl) (by kernel_rfl) (args := [t0, t1]) (of_decide_eq_true (by kernel_rfl)) (keepOf keep70) (by kernel_rfl) (by rw [F70_eq]; exact h)

/-- enclave/term.Size -/
def F83 (t0 : AV) (σ : AHeap) (k kp : AV → AHeap → Prop) : Prop :=
  stepK (aAlloc [.val (.int .i64 0)] σ) fun t3 σ =>
  stepK (unitR (aStore 1 t3 (.val (Go.Value.int Go.IntKind.i64 0)) σ)) fun _ σ =>
  Ev Go.Proofs.Tryz.prog 84 [(.fn (.func 102) [t3]), t0] σ (fun t6 σ =>
  stepK (pureR σ (aLoad false 1 t3 σ)) fun t7 σ =>
  k t7 σ) kp
def keep83 : List (Nat × List Nat) := [(0, [0]), (1, [0, 3]), (2, [3]), (3, [2])]
noncomputable def body83 : Code := (Go.Proofs.Tryz.f83).body.getD .skip
theorem F83_eq (t0 : AV) (σ : AHeap) (k kp : AV → AHeap → Prop) : aw Go.Proofs.Tryz.prog (keepOf keep83) body83 (retK Go.Proofs.Tryz.prog (Go.Proofs.Tryz.f83).results.toList k kp) (frameOf 0 [t0]) σ = F83 t0 σ k kp := by kernel_rfl
theorem F83_ev {t0 : AV} {σ : AHeap} {k kp : AV → AHeap → Prop} (h : F83 t0 σ k kp) : Ev Go.Proofs.Tryz.prog 83 [t0] σ k kp :=
  Ev_of_aw mixed Go.Proofs.Tryz.func83 (show (Go.Proofs.Tryz.f83).body = some body83 by kernel_rfl) (by kernel_rfl) (args := [t0]) (of_decide_eq_true (by kernel_rfl)) (keepOf keep83) (by kernel_rfl) (by rw [F83_eq]; exact h)

/-- enclave/term.each -/
def F84 (t0 t1 : AV) (σ : AHeap) (k kp : AV → AHeap → Prop) : Prop :=
  seqW (fun fr σ => (
  k (.val (Go.Value.bool Bool.true)) σ
  )) (fun j1 => (
  stepK (pureR σ (aLenK .slice t1 σ)) fun t8 σ =>
  loopW (fun fr σ again => (
  stepK (pureR σ (aBin .lss .prim (Abs.look fr 9) (Abs.look fr 8))) fun t10 σ =>
  condK t10 (
  stepK (pureR σ (aIndexAddr 8 (Abs.look fr 7) (Abs.look fr 9) σ)) fun t11 σ =>
  stepK (pureR σ (aLoad true 8 t11 σ)) fun t12 σ =>
  stepK (aAlloc [.val (.int .u8 0), .val (.int .u8 0), .val (.int .i64 0), .val (.int .i64 0), .val (.string ByteArray.empty), .val (.string ByteArray.empty), .val (.string ByteArray.empty), .val (.slice none 0 0)] σ) fun t6 σ =>
  stepK (unitR (aStore 8 t6 t12 σ)) fun _ σ =>
  stepK (pureR σ (aLoad true 8 t6 σ)) fun t14 σ =>
  callK Go.Proofs.Tryz.prog (Abs.look fr 0) [t14] σ (fun t15 σ =>
  stepK (pureR σ (aNot t15)) fun t16 σ =>
  gK t16 false (fun K => K (Abs.look fr 0) σ) (fun t18 σ =>
  gK t16 false (fun K => stepK (pureR σ (aFieldAddr 7 t6)) K) (fun t19 σ =>
  gK t16 false (fun K => stepK (pureR σ (aLoad false 1 t19 σ)) K) (fun t20 σ =>
  gK t16 false (fun K => Ev Go.Proofs.Tryz.prog 84 [t18, t20] σ K kp) (fun t21 σ =>
  gK t16 false (fun K => stepK (pureR σ (aNot t21)) K) (fun t22 σ =>
  stepK (pureR σ (aPick t16 (.val (Go.Value.bool Bool.true)) t22)) fun t23 σ =>
  condK t23 (
  k (.val (Go.Value.bool Bool.false)) σ
  ) (
  stepK (pureR σ (aBin .add .prim (Abs.look fr 9) (.val (Go.Value.int Go.IntKind.i64 1)))) fun t24 σ =>
  again [(0, (Abs.look fr 0)), (7, (Abs.look fr 7)), (8, (Abs.look fr 8)), (9, t24)] σ
  )
  ) σ) σ) σ) σ) σ) kp) (
  j1 [(0, (Abs.look fr 0))] σ
  )
  )) [(0, t0), (7, t1), (8, t8), (9, (.val (Go.Value.int Go.IntKind.i64 0)))] σ
  ))
def keep84 : List (Nat × List Nat) := [(0, [0, 1]), (3008, [0]), (1, [0, 7, 8, 9]), (2, [0, 7, 8, 9, 10]), (3, [0, 6, 7, 8, 9]), (4, [0, 7, 8, 9, 23]), (5, [4]), (6, [0, 7, 8, 9]), (1002, [0, 7, 8, 9]), (7, [4])]
noncomputable def body84 : Code := (Go.Proofs.Tryz.f84).body.getD .skip
theorem F84_eq (t0 t1 : AV) (σ : AHeap) (k kp : AV → AHeap → Prop) : aw Go.Proofs.Tryz.prog (keepOf keep84) body84 (retK Go.Proofs.Tryz.prog (Go.Proofs.Tryz.f84).results.toList k kp) (frameOf 0 [t0, t1]) σ = F84 t0 t1 σ k kp := by kernel_rfl
theorem F84_ev {t0 t1 : AV} {σ : AHeap} {k kp : AV → AHeap → Prop} (h : F84 t0 t1 σ k kp) : Ev Go.Proofs.Tryz.prog 84 [t0, t1] σ k kp :=
  Ev_of_aw mixed Go.Proofs.Tryz.func84 (show (Go.Proofs.Tryz.f84).body = some body84 by kernel_rfl) (by kernel_rfl) (args := [t0, t1]) (of_decide_eq_true (by kernel_rfl)) (keepOf keep84) (by kernel_rfl) (by rw [F84_eq]; exact h)

/-- enclave/term.node -/
def F85 (t0 : AV) (σ : AHeap) (k kp : AV → AHeap → Prop) : Prop :=
  stepK (aBox t0 σ) fun t1 σ =>
  Ev Go.Proofs.Tryz.prog 103 [] σ (fun t6 σ =>
  stepK (pureR σ (aFieldAddr 0 t1)) fun t7 σ =>
  stepK (pureR σ (aFieldAddr 0 t7)) fun t8 σ =>
  stepK (pureR σ (aLoad false 1 t8 σ)) fun t9 σ =>
  stepK (pureR σ (aBin .lss .prim t9 (.val (Go.Value.int Go.IntKind.u8 1)))) fun t10 σ =>
  gK t10 false (fun K => stepK (pureR σ (aFieldAddr 0 t1)) K) (fun t12 σ =>
  gK t10 false (fun K => stepK (pureR σ (aFieldAddr 0 t12)) K) (fun t13 σ =>
  gK t10 false (fun K => stepK (pureR σ (aLoad false 1 t13 σ)) K) (fun t14 σ =>
  gK t10 false (fun K => stepK (pureR σ (aConv (.int .i64) t14)) K) (fun t15 σ =>
  gK t10 false (fun K => K t6 σ) (fun t16 σ =>
  gK t10 false (fun K => stepK (pureR σ (aLenK .slice t16 σ)) K) (fun t17 σ =>
  gK t10 false (fun K => stepK (pureR σ (aBin .gtr .prim t15 t17)) K) (fun t18 σ =>
  stepK (pureR σ (aPick t10 (.val (Go.Value.bool Bool.true)) t18)) fun t19 σ =>
  gK t19 false (fun K => stepK (pureR σ (aFieldAddr 0 t1)) K) (fun t21 σ =>
  gK t19 false (fun K => stepK (pureR σ (aFieldAddr 2 t21)) K) (fun t22 σ =>
  gK t19 false (fun K => stepK (pureR σ (aLoad false 1 t22 σ)) K) (fun t23 σ =>
  gK t19 false (fun K => stepK (pureR σ (aBin .lss .prim t23 (.val (Go.Value.int Go.IntKind.i64 0)))) K) (fun t24 σ =>
  stepK (pureR σ (aPick t19 (.val (Go.Value.bool Bool.true)) t24)) fun t25 σ =>
  condK t25 (
  k (.val (Go.Value.bool Bool.false)) σ
  ) (
  stepK (pureR σ (aFieldAddr 0 t1)) fun t27 σ =>
  stepK (pureR σ (aFieldAddr 0 t27)) fun t28 σ =>
  stepK (pureR σ (aLoad false 1 t28 σ)) fun t29 σ =>
  stepK (pureR σ (aBin .sub .prim t29 (.val (Go.Value.int Go.IntKind.u8 1)))) fun t30 σ =>
  stepK (pureR σ (aIndexAddr 2 t6 t30 σ)) fun t31 σ =>
  stepK (pureR σ (aLoad true 2 t31 σ)) fun t32 σ =>
  stepK (aAlloc [.val (.int .i64 0), .val (.string ByteArray.empty)] σ) fun t4 σ =>
  stepK (unitR (aStore 2 t4 t32 σ)) fun _ σ =>
  stepK (pureR σ (aFieldAddr 0 t1)) fun t33 σ =>
  stepK (pureR σ (aFieldAddr 1 t33)) fun t34 σ =>
  stepK (pureR σ (aLoad false 1 t34 σ)) fun t35 σ =>
  stepK (pureR σ (aBin .geq .prim t35 (.val (Go.Value.int Go.IntKind.u8 1)))) fun t36 σ =>
  gK t36 true (fun K => stepK (pureR σ (aFieldAddr 0 t1)) K) (fun t38 σ =>
  gK t36 true (fun K => stepK (pureR σ (aFieldAddr 1 t38)) K) (fun t39 σ =>
  gK t36 true (fun K => stepK (pureR σ (aLoad false 1 t39 σ)) K) (fun t40 σ =>
  gK t36 true (fun K => stepK (pureR σ (aBin .leq .prim t40 (.val (Go.Value.int Go.IntKind.u8 5)))) K) (fun t41 σ =>
  stepK (pureR σ (aPick t36 t41 (.val (Go.Value.bool Bool.false)))) fun t42 σ =>
  seqW (fun fr σ => (
  condK (Abs.look fr 43) (
  k (.val (Go.Value.bool Bool.false)) σ
  ) (
  stepK (pureR σ (aFieldAddr 0 (Abs.look fr 1))) fun t68 σ =>
  stepK (pureR σ (aFieldAddr 3 t68)) fun t69 σ =>
  stepK (pureR σ (aLoad false 1 t69 σ)) fun t70 σ =>
  stepK (pureR σ (aBin .lss .prim t70 (.val (Go.Value.int Go.IntKind.i64 0)))) fun t71 σ =>
  gK t71 false (fun K => stepK (pureR σ (aFieldAddr 0 (Abs.look fr 1))) K) (fun t73 σ =>
  gK t71 false (fun K => stepK (pureR σ (aFieldAddr 3 t73)) K) (fun t74 σ =>
  gK t71 false (fun K => stepK (pureR σ (aLoad false 1 t74 σ)) K) (fun t75 σ =>
  gK t71 false (fun K => stepK (pureR σ (aBin .gtr .prim t75 (.val (Go.Value.int Go.IntKind.i64 2147483647)))) K) (fun t76 σ =>
  stepK (pureR σ (aPick t71 (.val (Go.Value.bool Bool.true)) t76)) fun t77 σ =>
  gK t77 false (fun K => stepK (pureR σ (aLoad true 2 (Abs.look fr 4) σ)) K) (fun t79 σ =>
  gK t77 false (fun K => Ev Go.Proofs.Tryz.prog 104 [t79, (.val (Go.Value.int Go.IntKind.u8 110))] σ K kp) (fun t80 σ =>
  gK t77 false (fun K => stepK (pureR σ (aNot t80)) K) (fun t81 σ =>
  gK t77 false (fun K => K t81 σ) (fun t82 σ =>
  gK t82 true (fun K => stepK (pureR σ (aFieldAddr 0 (Abs.look fr 1))) K) (fun t83 σ =>
  gK t82 true (fun K => stepK (pureR σ (aFieldAddr 3 t83)) K) (fun t84 σ =>
  gK t82 true (fun K => stepK (pureR σ (aLoad false 1 t84 σ)) K) (fun t85 σ =>
  gK t82 true (fun K => stepK (pureR σ (aBin .neq .prim t85 (.val (Go.Value.int Go.IntKind.i64 0)))) K) (fun t86 σ =>
  gK t77 false (fun K => stepK (pureR σ (aPick t82 t86 (.val (Go.Value.bool Bool.false)))) K) (fun t87 σ =>
  stepK (pureR σ (aPick t77 (.val (Go.Value.bool Bool.true)) t87)) fun t88 σ =>
  condK t88 (
  k (.val (Go.Value.bool Bool.false)) σ
  ) (
  stepK (pureR σ (aLoad true 2 (Abs.look fr 4) σ)) fun t89 σ =>
  stepK (pureR σ (aFieldAddr 0 (Abs.look fr 1))) fun t90 σ =>
  stepK (pureR σ (aFieldAddr 4 t90)) fun t91 σ =>
  stepK (pureR σ (aLoad false 1 t91 σ)) fun t92 σ =>
  Ev Go.Proofs.Tryz.prog 105 [t89, (.val (Go.Value.int Go.IntKind.u8 109)), t92, (.fn (.func 106) [])] σ (fun t93 σ =>
  gK t93 true (fun K => stepK (pureR σ (aLoad true 2 (Abs.look fr 4) σ)) K) (fun t95 σ =>
  gK t93 true (fun K => stepK (pureR σ (aFieldAddr 0 (Abs.look fr 1))) K) (fun t96 σ =>
  gK t93 true (fun K => stepK (pureR σ (aFieldAddr 5 t96)) K) (fun t97 σ =>
  gK t93 true (fun K => stepK (pureR σ (aLoad false 1 t97 σ)) K) (fun t98 σ =>
  gK t93 true (fun K => Ev Go.Proofs.Tryz.prog 105 [t95, (.val (Go.Value.int Go.IntKind.u8 97)), t98, (.fn (.func 106) [])] σ K kp) (fun t99 σ =>
  stepK (pureR σ (aPick t93 t99 (.val (Go.Value.bool Bool.false)))) fun t100 σ =>
  gK t100 true (fun K => stepK (pureR σ (aLoad true 2 (Abs.look fr 4) σ)) K) (fun t102 σ =>
  gK t100 true (fun K => stepK (pureR σ (aFieldAddr 0 (Abs.look fr 1))) K) (fun t103 σ =>
  gK t100 true (fun K => stepK (pureR σ (aFieldAddr 6 t103)) K) (fun t104 σ =>
  gK t100 true (fun K => stepK (pureR σ (aLoad false 1 t104 σ)) K) (fun t105 σ =>
  gK t100 true (fun K => Ev Go.Proofs.Tryz.prog 105 [t102, (.val (Go.Value.int Go.IntKind.u8 101)), t105, (.fn (.func 90) [])] σ K kp) (fun t106 σ =>
  stepK (pureR σ (aPick t100 t106 (.val (Go.Value.bool Bool.false)))) fun t107 σ =>
  k t107 σ
  ) σ) σ) σ) σ) σ) σ) σ) σ) σ) σ) kp)
  ) σ) σ) σ) σ) σ) σ) σ) σ) σ) σ) σ) σ) σ)
  )) (fun j1 => (
  stepK (pureR σ (aFieldAddr 7 t1)) fun t44 σ =>
  stepK (pureR σ (aLoad false 1 t44 σ)) fun t45 σ =>
  stepK (pureR σ (aLenK .slice t45 σ)) fun t46 σ =>
  stepK (pureR σ (aFieldAddr 0 t4)) fun t47 σ =>
  stepK (pureR σ (aLoad false 1 t47 σ)) fun t48 σ =>
  stepK (pureR σ (aBin .neq .prim t46 t48)) fun t49 σ =>
  condK t49 (
  j1 [(1, t1), (4, t4), (43, t49)] σ
  ) (
  stepK (pureR σ (aLoad true 2 t4 σ)) fun t50 σ =>
  Ev Go.Proofs.Tryz.prog 104 [t50, (.val (Go.Value.int Go.IntKind.u8 111))] σ (fun t51 σ =>
  gK t51 true (fun K => K t42 σ) (fun t53 σ =>
  gK t51 true (fun K => stepK (pureR σ (aNot t53)) K) (fun t54 σ =>
  stepK (pureR σ (aPick t51 t54 (.val (Go.Value.bool Bool.false)))) fun t55 σ =>
  gK t55 false (fun K => stepK (pureR σ (aLoad true 2 t4 σ)) K) (fun t57 σ =>
  gK t55 false (fun K => Ev Go.Proofs.Tryz.prog 104 [t57, (.val (Go.Value.int Go.IntKind.u8 111))] σ K kp) (fun t58 σ =>
  gK t55 false (fun K => stepK (pureR σ (aNot t58)) K) (fun t59 σ =>
  gK t55 false (fun K => K t59 σ) (fun t60 σ =>
  gK t60 true (fun K => stepK (pureR σ (aFieldAddr 0 t1)) K) (fun t61 σ =>
  gK t60 true (fun K => stepK (pureR σ (aFieldAddr 1 t61)) K) (fun t62 σ =>
  gK t60 true (fun K => stepK (pureR σ (aLoad false 1 t62 σ)) K) (fun t63 σ =>
  gK t60 true (fun K => stepK (pureR σ (aBin .neq .prim t63 (.val (Go.Value.int Go.IntKind.u8 0)))) K) (fun t64 σ =>
  gK t55 false (fun K => stepK (pureR σ (aPick t60 t64 (.val (Go.Value.bool Bool.false)))) K) (fun t65 σ =>
  stepK (pureR σ (aPick t55 (.val (Go.Value.bool Bool.true)) t65)) fun t66 σ =>
  j1 [(1, t1), (4, t4), (43, t66)] σ
  ) σ) σ) σ) σ) σ) σ) σ) σ) σ) σ) σ) kp)
  ))
  ) σ) σ) σ) σ)) σ) σ) σ) σ) σ) σ) σ) σ) σ) σ) σ) kp
def keep85 : List (Nat × List Nat) := [(0, [1]), (1, [1, 3]), (2, [1, 3, 25]), (3, [2]), (4, [1, 4]), (5, [1, 4, 5]), (3009, [1, 4, 43]), (6, [1, 4, 5, 43]), (7, [1, 4, 43]), (8, [2]), (9, [1, 4, 67]), (10, [2]), (11, [2])]
noncomputable def body85 : Code := (Go.Proofs.Tryz.f85).body.getD .skip
theorem F85_eq (t0 : AV) (σ : AHeap) (k kp : AV → AHeap → Prop) : aw Go.Proofs.Tryz.prog (keepOf keep85) body85 (retK Go.Proofs.Tryz.prog (Go.Proofs.Tryz.f85).results.toList k kp) (frameOf 0 [t0]) σ = F85 t0 σ k kp := by kernel_rfl
theorem F85_ev {t0 : AV} {σ : AHeap} {k kp : AV → AHeap → Prop} (h : F85 t0 σ k kp) : Ev Go.Proofs.Tryz.prog 85 [t0] σ k kp :=
  Ev_of_aw mixed Go.Proofs.Tryz.func85 (show (Go.Proofs.Tryz.f85).body = some body85 by kernel_rfl) (by kernel_rfl) (args := [t0]) (of_decide_eq_true (by kernel_rfl)) (keepOf keep85) (by kernel_rfl) (by rw [F85_eq]; exact h)

/-- slices.IndexFunc[[]int,int] -/
def F86 (t0 t1 : AV) (σ : AHeap) (k kp : AV → AHeap → Prop) : Prop :=
  seqW (fun fr σ => (
  k (.val (Go.Value.int Go.IntKind.i64 (-1))) σ
  )) (fun j1 => (
  stepK (pureR σ (aLenK .slice t0 σ)) fun t7 σ =>
  loopW (fun fr σ again => (
  stepK (pureR σ (aBin .lss .prim (Abs.look fr 8) (Abs.look fr 7))) fun t9 σ =>
  condK t9 (
  stepK (pureR σ (aIndexAddr 1 (Abs.look fr 0) (Abs.look fr 8) σ)) fun t14 σ =>
  stepK (pureR σ (aLoad false 1 t14 σ)) fun t15 σ =>
  callK Go.Proofs.Tryz.prog (Abs.look fr 1) [t15] σ (fun t16 σ =>
  condK t16 (
  k (Abs.look fr 8) σ
  ) (
  stepK (pureR σ (aBin .add .prim (Abs.look fr 8) (.val (Go.Value.int Go.IntKind.i64 1)))) fun t18 σ =>
  again [(0, (Abs.look fr 0)), (1, (Abs.look fr 1)), (7, (Abs.look fr 7)), (8, t18)] σ
  )
  ) kp) (
  j1 [(0, (Abs.look fr 0))] σ
  )
  )) [(0, t0), (1, t1), (7, t7), (8, (.val (Go.Value.int Go.IntKind.i64 0)))] σ
  ))
def keep86 : List (Nat × List Nat) := [(0, [0, 1]), (3008, [0]), (1, [0, 1, 7, 8]), (2, [0, 1, 7, 8, 9]), (3, [0, 1, 5, 7, 8]), (4, [0, 1, 5, 7, 8, 16]), (5, [4]), (6, [0, 1, 7, 8]), (1002, [0, 1, 7, 8]), (7, [4])]
noncomputable def body86 : Code := (Go.Proofs.Tryz.f86).body.getD .skip
theorem F86_eq (t0 t1 : AV) (σ : AHeap) (k kp : AV → AHeap → Prop) : aw Go.Proofs.Tryz.prog (keepOf keep86) body86 (retK Go.Proofs.Tryz.prog (Go.Proofs.Tryz.f86).results.toList k kp) (frameOf 0 [t0, t1]) σ = F86 t0 t1 σ k kp := by kernel_rfl
theorem F86_ev {t0 t1 : AV} {σ : AHeap} {k kp : AV → AHeap → Prop} (h : F86 t0 t1 σ k kp) : Ev Go.Proofs.Tryz.prog 86 [t0, t1] σ k kp :=
  Ev_of_aw mixed Go.Proofs.Tryz.func86 (show (Go.Proofs.Tryz.f86).body = some body86 by kernel_rfl) (by kernel_rfl) (args := [t0, t1]) (of_decide_eq_true (by kernel_rfl)) (keepOf keep86) (by kernel_rfl) (by rw [F86_eq]; exact h)

/-- enclave/term.Size$1 -/
def F102 (t0 t1 : AV) (σ : AHeap) (k kp : AV → AHeap → Prop) : Prop :=
  stepK (aBox t0 σ) fun t2 σ =>
  stepK (pureR σ (aLoad false 1 t1 σ)) fun t4 σ =>
  stepK (pureR σ (aBin .add .prim t4 (.val (Go.Value.int Go.IntKind.i64 1)))) fun t5 σ =>
  stepK (unitR (aStore 1 t1 t5 σ)) fun _ σ =>
  k (.val (Go.Value.bool Bool.true)) σ
def keep102 : List (Nat × List Nat) := [(0, [1]), (1, []), (2, [3])]
noncomputable def body102 : Code := (Go.Proofs.Tryz.f102).body.getD .skip
theorem F102_eq (t0 t1 : AV) (σ : AHeap) (k kp : AV → AHeap → Prop) : aw Go.Proofs.Tryz.prog (keepOf keep102) body102 (retK Go.Proofs.Tryz.prog (Go.Proofs.Tryz.f102).results.toList k kp) (frameOf 0 [t0, t1]) σ = F102 t0 t1 σ k kp := by kernel_rfl
theorem F102_ev {t0 t1 : AV} {σ : AHeap} {k kp : AV → AHeap → Prop} (h : F102 t0 t1 σ k kp) : Ev Go.Proofs.Tryz.prog 102 [t0, t1] σ k kp :=
  Ev_of_aw mixed Go.Proofs.Tryz.func102 (show (Go.Proofs.Tryz.f102).body = some body102 by kernel_rfl) (by kernel_rfl) (args := [t0, t1]) (of_decide_eq_true (by kernel_rfl)) (keepOf keep102) (by kernel_rfl) (by rw [F102_eq]; exact h)

/-- enclave/term.shapes -/
def F103 (σ : AHeap) (k kp : AV → AHeap → Prop) : Prop :=
  stepK (pureR σ (aBuild [.val (.int .i64 0), .val (.string ByteArray.empty)] [(0, 1, (.val (Go.Value.int Go.IntKind.i64 0))), (1, 1, (.val (Go.Value.string { data := #[110] })))])) fun t1 σ =>
  stepK (pureR σ (aBuild [.val (.int .i64 0), .val (.string ByteArray.empty)] [(0, 1, (.val (Go.Value.int Go.IntKind.i64 0))), (1, 1, (.val (Go.Value.string { data := #[109] })))])) fun t2 σ =>
  stepK (pureR σ (aBuild [.val (.int .i64 0), .val (.string ByteArray.empty)] [(0, 1, (.val (Go.Value.int Go.IntKind.i64 2))), (1, 1, (.val (Go.Value.string { data := #[] })))])) fun t3 σ =>
  stepK (pureR σ (aBuild [.val (.int .i64 0), .val (.string ByteArray.empty)] [(0, 1, (.val (Go.Value.int Go.IntKind.i64 1))), (1, 1, (.val (Go.Value.string { data := #[] })))])) fun t4 σ =>
  stepK (pureR σ (aBuild [.val (.int .i64 0), .val (.string ByteArray.empty)] [(0, 1, (.val (Go.Value.int Go.IntKind.i64 1))), (1, 1, (.val (Go.Value.string { data := #[] })))])) fun t5 σ =>
  stepK (pureR σ (aBuild [.val (.int .i64 0), .val (.string ByteArray.empty)] [(0, 1, (.val (Go.Value.int Go.IntKind.i64 1))), (1, 1, (.val (Go.Value.string { data := #[] })))])) fun t6 σ =>
  stepK (pureR σ (aBuild [.val (.int .i64 0), .val (.string ByteArray.empty)] [(0, 1, (.val (Go.Value.int Go.IntKind.i64 1))), (1, 1, (.val (Go.Value.string { data := #[] })))])) fun t7 σ =>
  stepK (pureR σ (aBuild [.val (.int .i64 0), .val (.string ByteArray.empty)] [(0, 1, (.val (Go.Value.int Go.IntKind.i64 2))), (1, 1, (.val (Go.Value.string { data := #[] })))])) fun t8 σ =>
  stepK (pureR σ (aBuild [.val (.int .i64 0), .val (.string ByteArray.empty)] [(0, 1, (.val (Go.Value.int Go.IntKind.i64 2))), (1, 1, (.val (Go.Value.string { data := #[111] })))])) fun t9 σ =>
  stepK (pureR σ (aBuild [.val (.int .i64 0), .val (.string ByteArray.empty)] [(0, 1, (.val (Go.Value.int Go.IntKind.i64 2))), (1, 1, (.val (Go.Value.string { data := #[] })))])) fun t10 σ =>
  stepK (pureR σ (aBuild [.val (.int .i64 0), .val (.string ByteArray.empty)] [(0, 1, (.val (Go.Value.int Go.IntKind.i64 1))), (1, 1, (.val (Go.Value.string { data := #[97] })))])) fun t11 σ =>
  stepK (pureR σ (aBuild [.val (.int .i64 0), .val (.string ByteArray.empty)] [(0, 1, (.val (Go.Value.int Go.IntKind.i64 2))), (1, 1, (.val (Go.Value.string { data := #[109] })))])) fun t12 σ =>
  stepK (pureR σ (aBuild [.val (.int .i64 0), .val (.string ByteArray.empty)] [(0, 1, (.val (Go.Value.int Go.IntKind.i64 2))), (1, 1, (.val (Go.Value.string { data := #[109, 97] })))])) fun t13 σ =>
  stepK (pureR σ (aBuild [.val (.int .i64 0), .val (.string ByteArray.empty)] [(0, 1, (.val (Go.Value.int Go.IntKind.i64 3))), (1, 1, (.val (Go.Value.string { data := #[] })))])) fun t14 σ =>
  stepK (pureR σ (aBuild [.val (.int .i64 0), .val (.string ByteArray.empty)] [(0, 1, (.val (Go.Value.int Go.IntKind.i64 1))), (1, 1, (.val (Go.Value.string { data := #[101] })))])) fun t15 σ =>
  stepK (pureR σ (aBuild [.val (.int .i64 0), .val (.string ByteArray.empty)] [(0, 1, (.val (Go.Value.int Go.IntKind.i64 2))), (1, 1, (.val (Go.Value.string { data := #[101, 97] })))])) fun t16 σ =>
  stepK (pureR σ (aBuildSl 16 2 [.val (.int .i64 0), .val (.string ByteArray.empty)] [(0, t1), (1, t2), (2, t3), (3, t4), (4, t5), (5, t6), (6, t7), (7, t8), (8, t9), (9, t10), (10, t11), (11, t12), (12, t13), (13, t14), (14, t15), (15, t16)])) fun t17 σ =>
  k t17 σ
def keep103 : List (Nat × List Nat) := [(0, []), (1, [0]), (4001, [1])]
noncomputable def body103 : Code := (Go.Proofs.Tryz.f103).body.getD .skip
theorem F103_eq (σ : AHeap) (k kp : AV → AHeap → Prop) : aw Go.Proofs.Tryz.prog (keepOf keep103) body103 (retK Go.Proofs.Tryz.prog (Go.Proofs.Tryz.f103).results.toList k kp) (frameOf 0 []) σ = F103 σ k kp := by kernel_rfl
theorem F103_ev {σ : AHeap} {k kp : AV → AHeap → Prop} (h : F103 σ k kp) : Ev Go.Proofs.Tryz.prog 103 [] σ k kp :=
  Ev_of_aw mixed Go.Proofs.Tryz.func103 (show (Go.Proofs.Tryz.f103).body = some body103 by kernel_rfl) (by kernel_rfl) (args := []) (of_decide_eq_true (by kernel_rfl)) (keepOf keep103) (by kernel_rfl) (by rw [F103_eq]; exact h)

/-- (enclave/term.shape).has -/
def F104 (t0 t1 : AV) (σ : AHeap) (k kp : AV → AHeap → Prop) : Prop :=
  stepK (aBox t0 σ) fun t2 σ =>
  stepK (pureR σ (aFieldAddr 1 t2)) fun t5 σ =>
  stepK (pureR σ (aLoad false 1 t5 σ)) fun t6 σ =>
  stepK (pureR σ (aConv .bytes t6)) fun t7 σ =>
  Ev Go.Proofs.Tryz.prog 117 [t7, t1] σ (fun t9 σ =>
  k t9 σ) kp
def keep104 : List (Nat × List Nat) := [(0, [1, 2]), (1, [4])]
noncomputable def body104 : Code := (Go.Proofs.Tryz.f104).body.getD .skip
theorem F104_eq (t0 t1 : AV) (σ : AHeap) (k kp : AV → AHeap → Prop) : aw Go.Proofs.Tryz.prog (keepOf keep104) body104 (retK Go.Proofs.Tryz.prog (Go.Proofs.Tryz.f104).results.toList k kp) (frameOf 0 [t0, t1]) σ = F104 t0 t1 σ k kp := by kernel_rfl
theorem F104_ev {t0 t1 : AV} {σ : AHeap} {k kp : AV → AHeap → Prop} (h : F104 t0 t1 σ k kp) : Ev Go.Proofs.Tryz.prog 104 [t0, t1] σ k kp :=
  Ev_of_aw mixed Go.Proofs.Tryz.func104 (show (Go.Proofs.Tryz.f104).body = some body104 by kernel_rfl) (by kernel_rfl) (args := [t0, t1]) (of_decide_eq_true (by kernel_rfl)) (keepOf keep104) (by kernel_rfl) (by rw [F104_eq]; exact h)

/-- (enclave/term.shape).field -/
def F105 (t0 t1 t2 t3 : AV) (σ : AHeap) (k kp : AV → AHeap → Prop) : Prop :=
  stepK (aBox t0 σ) fun t4 σ =>
  stepK (pureR σ (aLoad true 2 t4 σ)) fun t9 σ =>
  Ev Go.Proofs.Tryz.prog 104 [t9, t1] σ (fun t11 σ =>
  stepK (pureR σ (aNot t11)) fun t12 σ =>
  condK t12 (
  stepK (pureR σ (aBin .eql .prim t2 (.val (Go.Value.string { data := #[] })))) fun t14 σ =>
  k t14 σ
  ) (
  stepK (pureR σ (aBuildSl 1 1 [.val (.string ByteArray.empty)] [(0, t2)])) fun t17 σ =>
  callK Go.Proofs.Tryz.prog t3 [t17] σ (fun t18 σ =>
  k t18 σ
  ) kp)) kp
def keep105 : List (Nat × List Nat) := [(0, [1, 2, 3, 4]), (1, [2, 3, 12]), (2, [8]), (3, [8]), (4003, [1])]
noncomputable def body105 : Code := (Go.Proofs.Tryz.f105).body.getD .skip
theorem F105_eq (t0 t1 t2 t3 : AV) (σ : AHeap) (k kp : AV → AHeap → Prop) : aw Go.Proofs.Tryz.prog (keepOf keep105) body105 (retK Go.Proofs.Tryz.prog (Go.Proofs.Tryz.f105).results.toList k kp) (frameOf 0 [t0, t1, t2, t3]) σ = F105 t0 t1 t2 t3 σ k kp := by kernel_rfl
theorem F105_ev {t0 t1 t2 t3 : AV} {σ : AHeap} {k kp : AV → AHeap → Prop} (h : F105 t0 t1 t2 t3 σ k kp) : Ev Go.Proofs.Tryz.prog 105 [t0, t1, t2, t3] σ k kp :=
  Ev_of_aw mixed Go.Proofs.Tryz.func105 (show (Go.Proofs.Tryz.f105).body = some body105 by kernel_rfl) (by kernel_rfl) (args := [t0, t1, t2, t3]) (of_decide_eq_true (by kernel_rfl)) (keepOf keep105) (by kernel_rfl) (by rw [F105_eq]; exact h)

/-- slices.Contains[[]byte,byte] -/
def F117 (t0 t1 : AV) (σ : AHeap) (k kp : AV → AHeap → Prop) : Prop :=
  Ev Go.Proofs.Tryz.prog 135 [t0, t1] σ (fun t7 σ =>
  stepK (pureR σ (aBin .geq .prim t7 (.val (Go.Value.int Go.IntKind.i64 0)))) fun t8 σ =>
  k t8 σ) kp
def keep117 : List (Nat × List Nat) := [(0, [0, 1]), (1, [4])]
noncomputable def body117 : Code := (Go.Proofs.Tryz.f117).body.getD .skip
theorem F117_eq (t0 t1 : AV) (σ : AHeap) (k kp : AV → AHeap → Prop) : aw Go.Proofs.Tryz.prog (keepOf keep117) body117 (retK Go.Proofs.Tryz.prog (Go.Proofs.Tryz.f117).results.toList k kp) (frameOf 0 [t0, t1]) σ = F117 t0 t1 σ k kp := by kernel_rfl
theorem F117_ev {t0 t1 : AV} {σ : AHeap} {k kp : AV → AHeap → Prop} (h : F117 t0 t1 σ k kp) : Ev Go.Proofs.Tryz.prog 117 [t0, t1] σ k kp :=
  Ev_of_aw mixed Go.Proofs.Tryz.func117 (show (Go.Proofs.Tryz.f117).body = some body117 by kernel_rfl) (by kernel_rfl) (args := [t0, t1]) (of_decide_eq_true (by kernel_rfl)) (keepOf keep117) (by kernel_rfl) (by rw [F117_eq]; exact h)

/-- slices.Index[[]byte,byte] -/
def F135 (t0 t1 : AV) (σ : AHeap) (k kp : AV → AHeap → Prop) : Prop :=
  seqW (fun fr σ => (
  k (.val (Go.Value.int Go.IntKind.i64 (-1))) σ
  )) (fun j1 => (
  stepK (pureR σ (aLenK .slice t0 σ)) fun t7 σ =>
  loopW (fun fr σ again => (
  stepK (pureR σ (aBin .lss .prim (Abs.look fr 8) (Abs.look fr 7))) fun t9 σ =>
  condK t9 (
  stepK (pureR σ (aIndexAddr 1 (Abs.look fr 0) (Abs.look fr 8) σ)) fun t14 σ =>
  stepK (pureR σ (aLoad false 1 t14 σ)) fun t15 σ =>
  stepK (pureR σ (aBin .eql .prim (Abs.look fr 1) t15)) fun t16 σ =>
  condK t16 (
  k (Abs.look fr 8) σ
  ) (
  stepK (pureR σ (aBin .add .prim (Abs.look fr 8) (.val (Go.Value.int Go.IntKind.i64 1)))) fun t18 σ =>
  again [(0, (Abs.look fr 0)), (1, (Abs.look fr 1)), (7, (Abs.look fr 7)), (8, t18)] σ
  )
  ) (
  j1 [(0, (Abs.look fr 0))] σ
  )
  )) [(0, t0), (1, t1), (7, t7), (8, (.val (Go.Value.int Go.IntKind.i64 0)))] σ
  ))
def keep135 : List (Nat × List Nat) := [(0, [0, 1]), (3008, [0]), (1, [0, 1, 7, 8]), (2, [0, 1, 7, 8, 9]), (3, [0, 1, 5, 7, 8]), (4, [0, 1, 5, 7, 8, 16]), (5, [4]), (6, [0, 1, 7, 8]), (1002, [0, 1, 7, 8]), (7, [4])]
noncomputable def body135 : Code := (Go.Proofs.Tryz.f135).body.getD .skip
theorem F135_eq (t0 t1 : AV) (σ : AHeap) (k kp : AV → AHeap → Prop) : aw Go.Proofs.Tryz.prog (keepOf keep135) body135 (retK Go.Proofs.Tryz.prog (Go.Proofs.Tryz.f135).results.toList k kp) (frameOf 0 [t0, t1]) σ = F135 t0 t1 σ k kp := by kernel_rfl
theorem F135_ev {t0 t1 : AV} {σ : AHeap} {k kp : AV → AHeap → Prop} (h : F135 t0 t1 σ k kp) : Ev Go.Proofs.Tryz.prog 135 [t0, t1] σ k kp :=
  Ev_of_aw mixed Go.Proofs.Tryz.func135 (show (Go.Proofs.Tryz.f135).body = some body135 by kernel_rfl) (by kernel_rfl) (args := [t0, t1]) (of_decide_eq_true (by kernel_rfl)) (keepOf keep135) (by kernel_rfl) (by rw [F135_eq]; exact h)

end Go.Proofs.AtD
