import Derived.Test.YtjilebpcaemopaaGreatDoorAbsK
import Derived.Test.YtjilebpcaemopaaGreatDoorProg
import Derived.KernelRfl
set_option maxRecDepth 100000
set_option linter.unusedVariables false
namespace Go.Proofs.MacD
open Go Go.Abs

theorem mixedL : Go.Proofs.Tryz.prog.follows .mixedOrders = true := by kernel_rfl

/-- enclave/enclavelaw20.MachineLeaves -/
def F6 (t0 t1 t2 : AV) (σ : AHeap) (k kp : AV → AHeap → Prop) : Prop :=
  stepK (aBox t0 σ) fun t3 σ =>
  stepK (aBox t2 σ) fun t5 σ =>
  stepK (pureR σ (aLoad true 19 t3 σ)) fun t10 σ =>
  Ev Go.Proofs.Tryz.prog 10 [t10] σ (fun t11 σ =>
  gK t11 false (fun K => K t1 σ) (fun t13 σ =>
  gK t11 false (fun K => stepK (pureR σ (aBin .gtr .prim t13 (.val (Go.Value.int Go.IntKind.i64 2000)))) K) (fun t14 σ =>
  stepK (pureR σ (aPick t11 (.val (Go.Value.bool Bool.true)) t14)) fun t15 σ =>
  condK t15 (
  Ev Go.Proofs.Tryz.prog 11 [] σ (fun t16 σ =>
  k t16 σ
  ) kp) (
  stepK (pureR σ (aLoad true 19 t3 σ)) fun t18 σ =>
  stepK (pureR σ (aLoad true 2 t5 σ)) fun t20 σ =>
  Ev Go.Proofs.Tryz.prog 12 [t18, t1, t20] σ (fun t21 σ =>
  stepK (pureR σ (aExtract 0 t21)) fun t22 σ =>
  stepK (pureR σ (aExtract 1 t21)) fun t23 σ =>
  stepK (aAlloc [.val (.int .u8 0), .val (.bool false), .val (.int .i64 0), .val (.string ByteArray.empty), .val (.int .i64 0), .val (.int .i64 0), .val (.int .i64 0), .val (.int .i64 0)] σ) fun t7 σ =>
  stepK (unitR (aStore 8 t7 t22 σ)) fun _ σ =>
  stepK (pureR σ (aBin .neq .prim t23 (.val (Go.Value.int Go.IntKind.i64 0)))) fun t25 σ =>
  condK t25 (
  stepK (pureR σ (aFieldAddr 5 t7)) fun t26 σ =>
  stepK (pureR σ (aLoad false 1 t26 σ)) fun t27 σ =>
  stepK (pureR σ (aBin .eql .prim t27 (.val (Go.Value.int Go.IntKind.i64 0)))) fun t28 σ =>
  gK t28 true (fun K => stepK (pureR σ (aFieldAddr 4 t7)) K) (fun t30 σ =>
  gK t28 true (fun K => stepK (pureR σ (aLoad false 1 t30 σ)) K) (fun t31 σ =>
  gK t28 true (fun K => stepK (pureR σ (aBin .eql .prim t31 (.val (Go.Value.int Go.IntKind.i64 0)))) K) (fun t32 σ =>
  stepK (pureR σ (aPick t28 t32 (.val (Go.Value.bool Bool.false)))) fun t33 σ =>
  gK t33 true (fun K => Ev Go.Proofs.Tryz.prog 11 [] σ K kp) (fun t35 σ =>
  stepK (pureR σ (aPick t33 t35 (.val (Go.Value.bool Bool.false)))) fun t36 σ =>
  k t36 σ
  ) σ) σ) σ) σ) (
  stepK (pureR σ (aFieldAddr 0 t7)) fun t37 σ =>
  stepK (pureR σ (aFieldAddr 0 t37)) fun t38 σ =>
  stepK (pureR σ (aLoad false 1 t38 σ)) fun t39 σ =>
  stepK (pureR σ (aBin .eql .prim t39 (.val (Go.Value.int Go.IntKind.u8 1)))) fun t40 σ =>
  gK t40 false (fun K => stepK (pureR σ (aFieldAddr 0 t7)) K) (fun t42 σ =>
  gK t40 false (fun K => stepK (pureR σ (aFieldAddr 0 t42)) K) (fun t43 σ =>
  gK t40 false (fun K => stepK (pureR σ (aLoad false 1 t43 σ)) K) (fun t44 σ =>
  gK t40 false (fun K => stepK (pureR σ (aBin .eql .prim t44 (.val (Go.Value.int Go.IntKind.u8 2)))) K) (fun t45 σ =>
  stepK (pureR σ (aPick t40 (.val (Go.Value.bool Bool.true)) t45)) fun t46 σ =>
  gK t46 true (fun K => stepK (pureR σ (aFieldAddr 5 t7)) K) (fun t49 σ =>
  gK t46 true (fun K => stepK (pureR σ (aLoad false 1 t49 σ)) K) (fun t50 σ =>
  gK t46 true (fun K => stepK (pureR σ (aBin .neq .prim t50 (.val (Go.Value.int Go.IntKind.i64 1)))) K) (fun t51 σ =>
  stepK (pureR σ (aPick t46 t51 (.val (Go.Value.bool Bool.false)))) fun t52 σ =>
  gK t52 false (fun K => stepK (pureR σ (aFieldAddr 4 t7)) K) (fun t54 σ =>
  gK t52 false (fun K => stepK (pureR σ (aLoad false 1 t54 σ)) K) (fun t55 σ =>
  gK t52 false (fun K => K t1 σ) (fun t56 σ =>
  gK t52 false (fun K => stepK (pureR σ (aMax t56 (.val (Go.Value.int Go.IntKind.i64 0)))) K) (fun t57 σ =>
  gK t52 false (fun K => stepK (pureR σ (aBin .gtr .prim t55 t57)) K) (fun t58 σ =>
  stepK (pureR σ (aPick t52 (.val (Go.Value.bool Bool.true)) t58)) fun t59 σ =>
  condK t59 (
  k (.val (Go.Value.bool Bool.false)) σ
  ) (
  stepK (pureR σ (aFieldAddr 5 t7)) fun t60 σ =>
  stepK (pureR σ (aLoad false 1 t60 σ)) fun t61 σ =>
  stepK (pureR σ (aBin .geq .prim t61 (.val (Go.Value.int Go.IntKind.i64 1)))) fun t62 σ =>
  gK t62 true (fun K => stepK (pureR σ (aFieldAddr 5 t7)) K) (fun t64 σ =>
  gK t62 true (fun K => stepK (pureR σ (aLoad false 1 t64 σ)) K) (fun t65 σ =>
  gK t62 true (fun K => stepK (pureR σ (aFieldAddr 0 t5)) K) (fun t66 σ =>
  gK t62 true (fun K => stepK (pureR σ (aLoad false 1 t66 σ)) K) (fun t67 σ =>
  gK t62 true (fun K => stepK (pureR σ (aMax (.val (Go.Value.int Go.IntKind.i64 1)) t67)) K) (fun t68 σ =>
  gK t62 true (fun K => stepK (pureR σ (aBin .leq .prim t65 t68)) K) (fun t69 σ =>
  stepK (pureR σ (aPick t62 t69 (.val (Go.Value.bool Bool.false)))) fun t70 σ =>
  gK t70 true (fun K => stepK (pureR σ (aFieldAddr 6 t7)) K) (fun t72 σ =>
  gK t70 true (fun K => stepK (pureR σ (aLoad false 1 t72 σ)) K) (fun t73 σ =>
  gK t70 true (fun K => stepK (pureR σ (aFieldAddr 7 t7)) K) (fun t74 σ =>
  gK t70 true (fun K => stepK (pureR σ (aLoad false 1 t74 σ)) K) (fun t75 σ =>
  gK t70 true (fun K => stepK (pureR σ (aBin .leq .prim t73 t75)) K) (fun t76 σ =>
  stepK (pureR σ (aPick t70 t76 (.val (Go.Value.bool Bool.false)))) fun t77 σ =>
  gK t77 true (fun K => stepK (pureR σ (aFieldAddr 7 t7)) K) (fun t79 σ =>
  gK t77 true (fun K => stepK (pureR σ (aLoad false 1 t79 σ)) K) (fun t80 σ =>
  gK t77 true (fun K => stepK (pureR σ (aFieldAddr 1 t5)) K) (fun t81 σ =>
  gK t77 true (fun K => stepK (pureR σ (aLoad false 1 t81 σ)) K) (fun t82 σ =>
  gK t77 true (fun K => stepK (pureR σ (aMax (.val (Go.Value.int Go.IntKind.i64 0)) t82)) K) (fun t83 σ =>
  gK t77 true (fun K => stepK (pureR σ (aBin .leq .prim t80 t83)) K) (fun t84 σ =>
  stepK (pureR σ (aPick t77 t84 (.val (Go.Value.bool Bool.false)))) fun t85 σ =>
  gK t85 true (fun K => Ev Go.Proofs.Tryz.prog 11 [] σ K kp) (fun t87 σ =>
  stepK (pureR σ (aPick t85 t87 (.val (Go.Value.bool Bool.false)))) fun t88 σ =>
  k t88 σ
  ) σ) σ) σ) σ) σ) σ) σ) σ) σ) σ) σ) σ) σ) σ) σ) σ) σ) σ)
  ) σ) σ) σ) σ) σ) σ) σ) σ) σ) σ) σ) σ)
  ) kp)) σ) σ) kp
def keep6 : List (Nat × List Nat) := [(0, [1, 3, 5]), (1, [1, 3, 5, 15]), (2, [6]), (3, [1, 5, 7, 8]), (4, [1, 5, 7, 25]), (5, [6]), (6, [1, 5, 7, 9]), (7, [5, 7, 59]), (8, [6]), (9, [6])]
noncomputable def body6 : Code := (Go.Proofs.Tryz.f6).body.getD .skip
theorem F6_eq (t0 t1 t2 : AV) (σ : AHeap) (k kp : AV → AHeap → Prop) : aw Go.Proofs.Tryz.prog (keepOf keep6) body6 (retK Go.Proofs.Tryz.prog (Go.Proofs.Tryz.f6).results.toList k kp) (frameOf 0 [t0, t1, t2]) σ = F6 t0 t1 t2 σ k kp := by kernel_rfl
theorem F6_ev {t0 t1 t2 : AV} {σ : AHeap} {k kp : AV → AHeap → Prop} (h : F6 t0 t1 t2 σ k kp) : Ev Go.Proofs.Tryz.prog 6 [t0, t1, t2] σ k kp :=
  Ev_of_aw mixedL Go.Proofs.Tryz.func6 (show (Go.Proofs.Tryz.f6).body = some body6 by kernel_rfl) (by kernel_rfl) (args := [t0, t1, t2]) (of_decide_eq_true (by kernel_rfl)) (keepOf keep6) (by kernel_rfl) (by rw [F6_eq]; exact h)

/-- enclave/enclavelaw20.awake -/
def F11 (σ : AHeap) (k kp : AV → AHeap → Prop) : Prop :=
  stepK (pureR σ (aBuild [.val (.int .u8 0), .val (.int .u8 0), .val (.int .i64 0), .val (.int .i64 0), .val (.string ByteArray.empty), .val (.string ByteArray.empty), .val (.string ByteArray.empty)] [(0, 1, (.val (Go.Value.int Go.IntKind.u8 3)))])) fun t5 σ =>
  callK Go.Proofs.Tryz.prog (.fn (.func 23) []) [(.val (Go.Value.int Go.IntKind.i64 3))] σ (fun t7 σ =>
  callK Go.Proofs.Tryz.prog (.fn (.func 23) []) [(.val (Go.Value.int Go.IntKind.i64 4))] σ (fun t9 σ =>
  stepK (pureR σ (aBuildSl 2 19 [.val (.int .u8 0), .val (.int .u8 0), .val (.int .i64 0), .val (.int .i64 0), .val (.string ByteArray.empty), .val (.string ByteArray.empty), .val (.string ByteArray.empty), .val (.int .i64 0), .val (.slice none 0 0), .val (.slice none 0 0), .val (.int .u8 0), .val (.int .i64 0), .val (.slice none 0 0), .val (.slice none 0 0), .val (.int .u8 0), .val (.int .i64 0), .val (.slice none 0 0), .val (.slice none 0 0), .val (.slice none 0 0)] [(0, t7), (1, t9)])) fun t10 σ =>
  stepK (pureR σ (aBuild [.val (.int .u8 0), .val (.int .u8 0), .val (.int .i64 0), .val (.int .i64 0), .val (.string ByteArray.empty), .val (.string ByteArray.empty), .val (.string ByteArray.empty), .val (.int .i64 0), .val (.slice none 0 0), .val (.slice none 0 0), .val (.int .u8 0), .val (.int .i64 0), .val (.slice none 0 0), .val (.slice none 0 0), .val (.int .u8 0), .val (.int .i64 0), .val (.slice none 0 0), .val (.slice none 0 0), .val (.slice none 0 0)] [(0, 7, t5), (18, 1, t10)])) fun t11 σ =>
  stepK (aAlloc [.val (.int .u8 0), .val (.int .u8 0), .val (.int .i64 0), .val (.int .i64 0), .val (.string ByteArray.empty), .val (.string ByteArray.empty), .val (.string ByteArray.empty), .val (.int .i64 0), .val (.slice none 0 0), .val (.slice none 0 0), .val (.int .u8 0), .val (.int .i64 0), .val (.slice none 0 0), .val (.slice none 0 0), .val (.int .u8 0), .val (.int .i64 0), .val (.slice none 0 0), .val (.slice none 0 0), .val (.slice none 0 0)] σ) fun t2 σ =>
  stepK (unitR (aStore 19 t2 t11 σ)) fun _ σ =>
  stepK (pureR σ (aBuild [.val (.int .u8 0), .val (.int .u8 0), .val (.int .i64 0), .val (.int .i64 0), .val (.string ByteArray.empty), .val (.string ByteArray.empty), .val (.string ByteArray.empty)] [(0, 1, (.val (Go.Value.int Go.IntKind.u8 4)))])) fun t13 σ =>
  stepK (pureR σ (aLoad true 19 t2 σ)) fun t14 σ =>
  stepK (pureR σ (aBuildSl 1 19 [.val (.int .u8 0), .val (.int .u8 0), .val (.int .i64 0), .val (.int .i64 0), .val (.string ByteArray.empty), .val (.string ByteArray.empty), .val (.string ByteArray.empty), .val (.int .i64 0), .val (.slice none 0 0), .val (.slice none 0 0), .val (.int .u8 0), .val (.int .i64 0), .val (.slice none 0 0), .val (.slice none 0 0), .val (.int .u8 0), .val (.int .i64 0), .val (.slice none 0 0), .val (.slice none 0 0), .val (.slice none 0 0)] [(0, t14)])) fun t15 σ =>
  stepK (pureR σ (aBuild [.val (.int .u8 0), .val (.int .u8 0), .val (.int .i64 0), .val (.int .i64 0), .val (.string ByteArray.empty), .val (.string ByteArray.empty), .val (.string ByteArray.empty), .val (.int .i64 0), .val (.slice none 0 0), .val (.slice none 0 0), .val (.int .u8 0), .val (.int .i64 0), .val (.slice none 0 0), .val (.slice none 0 0), .val (.int .u8 0), .val (.int .i64 0), .val (.slice none 0 0), .val (.slice none 0 0), .val (.slice none 0 0)] [(0, 7, t13), (18, 1, t15)])) fun t16 σ =>
  stepK (pureR σ (aBuild [.val (.int .i64 0), .val (.int .i64 0)] [(0, 1, (.val (Go.Value.int Go.IntKind.i64 1))), (1, 1, (.val (Go.Value.int Go.IntKind.i64 1)))])) fun t17 σ =>
  Ev Go.Proofs.Tryz.prog 12 [t16, (.val (Go.Value.int Go.IntKind.i64 9)), t17] σ (fun t18 σ =>
  stepK (pureR σ (aExtract 0 t18)) fun t19 σ =>
  stepK (pureR σ (aExtract 1 t18)) fun t20 σ =>
  stepK (aAlloc [.val (.int .u8 0), .val (.bool false), .val (.int .i64 0), .val (.string ByteArray.empty), .val (.int .i64 0), .val (.int .i64 0), .val (.int .i64 0), .val (.int .i64 0)] σ) fun t3 σ =>
  stepK (unitR (aStore 8 t3 t19 σ)) fun _ σ =>
  stepK (pureR σ (aBin .eql .prim t20 (.val (Go.Value.int Go.IntKind.i64 0)))) fun t22 σ =>
  gK t22 true (fun K => stepK (pureR σ (aFieldAddr 0 t3)) K) (fun t24 σ =>
  gK t22 true (fun K => stepK (pureR σ (aLoad true 4 t24 σ)) K) (fun t25 σ =>
  gK t22 true (fun K => stepK (pureR σ (aBuild [.val (.int .u8 0), .val (.bool false), .val (.int .i64 0), .val (.string ByteArray.empty)] [(0, 1, (.val (Go.Value.int Go.IntKind.u8 1))), (1, 1, (.val (Go.Value.bool Bool.true))), (2, 1, (.val (Go.Value.int Go.IntKind.i64 3)))])) K) (fun t26 σ =>
  gK t22 true (fun K => stepK (pureR σ (aBin .eql (.agg [.i, .b, .i, .s]) t25 t26)) K) (fun t27 σ =>
  stepK (pureR σ (aPick t22 t27 (.val (Go.Value.bool Bool.false)))) fun t28 σ =>
  gK t28 true (fun K => stepK (pureR σ (aFieldAddr 4 t3)) K) (fun t30 σ =>
  gK t28 true (fun K => stepK (pureR σ (aLoad false 1 t30 σ)) K) (fun t31 σ =>
  gK t28 true (fun K => stepK (pureR σ (aBin .eql .prim t31 (.val (Go.Value.int Go.IntKind.i64 4)))) K) (fun t32 σ =>
  stepK (pureR σ (aPick t28 t32 (.val (Go.Value.bool Bool.false)))) fun t33 σ =>
  gK t33 true (fun K => stepK (pureR σ (aFieldAddr 6 t3)) K) (fun t35 σ =>
  gK t33 true (fun K => stepK (pureR σ (aLoad false 1 t35 σ)) K) (fun t36 σ =>
  gK t33 true (fun K => stepK (pureR σ (aBin .eql .prim t36 (.val (Go.Value.int Go.IntKind.i64 1)))) K) (fun t37 σ =>
  stepK (pureR σ (aPick t33 t37 (.val (Go.Value.bool Bool.false)))) fun t38 σ =>
  gK t38 true (fun K => stepK (pureR σ (aFieldAddr 5 t3)) K) (fun t40 σ =>
  gK t38 true (fun K => stepK (pureR σ (aLoad false 1 t40 σ)) K) (fun t41 σ =>
  gK t38 true (fun K => stepK (pureR σ (aBin .eql .prim t41 (.val (Go.Value.int Go.IntKind.i64 1)))) K) (fun t42 σ =>
  stepK (pureR σ (aPick t38 t42 (.val (Go.Value.bool Bool.false)))) fun t43 σ =>
  k t43 σ) σ) σ) σ) σ) σ) σ) σ) σ) σ) σ) σ) σ) σ) kp) kp) kp
def keep11 : List (Nat × List Nat) := [(0, []), (1, [1]), (2, [2]), (4002, [1]), (3, [3, 4]), (4003, [1]), (4, [0])]
noncomputable def body11 : Code := (Go.Proofs.Tryz.f11).body.getD .skip
theorem F11_eq (σ : AHeap) (k kp : AV → AHeap → Prop) : aw Go.Proofs.Tryz.prog (keepOf keep11) body11 (retK Go.Proofs.Tryz.prog (Go.Proofs.Tryz.f11).results.toList k kp) (frameOf 0 []) σ = F11 σ k kp := by kernel_rfl
theorem F11_ev {σ : AHeap} {k kp : AV → AHeap → Prop} (h : F11 σ k kp) : Ev Go.Proofs.Tryz.prog 11 [] σ k kp :=
  Ev_of_aw mixedL Go.Proofs.Tryz.func11 (show (Go.Proofs.Tryz.f11).body = some body11 by kernel_rfl) (by kernel_rfl) (args := []) (of_decide_eq_true (by kernel_rfl)) (keepOf keep11) (by kernel_rfl) (by rw [F11_eq]; exact h)

end Go.Proofs.MacD
