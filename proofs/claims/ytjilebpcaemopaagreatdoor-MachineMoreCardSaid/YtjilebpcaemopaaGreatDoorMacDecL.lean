import Derived.Test.YtjilebpcaemopaaGreatDoorAbsK
import Derived.Test.YtjilebpcaemopaaGreatDoorProg
import Derived.KernelRfl
set_option maxRecDepth 100000
set_option linter.unusedVariables false
namespace Go.Proofs.MacD
open Go Go.Abs

theorem mixedL : Go.Proofs.Tryz.prog.follows .mixedOrders = true := by kernel_rfl

/-- enclave/enclavelaw20.MachineMore -/
def F7 (t0 t1 t2 t3 t4 t5 : AV) (σ : AHeap) (k kp : AV → AHeap → Prop) : Prop :=
  stepK (aBox t0 σ) fun t6 σ =>
  stepK (aBox t3 σ) fun t9 σ =>
  stepK (pureR σ (aLoad true 19 t6 σ)) fun t19 σ =>
  Ev Go.Proofs.Tryz.prog 10 [t19] σ (fun t20 σ =>
  gK t20 false (fun K => K t1 σ) (fun t22 σ =>
  gK t20 false (fun K => stepK (pureR σ (aBin .gtr .prim t22 (.val (Go.Value.int Go.IntKind.i64 2000)))) K) (fun t23 σ =>
  stepK (pureR σ (aPick t20 (.val (Go.Value.bool Bool.true)) t23)) fun t24 σ =>
  gK t24 false (fun K => stepK (pureR σ (aFieldAddr 0 t9)) K) (fun t26 σ =>
  gK t24 false (fun K => stepK (pureR σ (aLoad false 1 t26 σ)) K) (fun t27 σ =>
  gK t24 false (fun K => stepK (pureR σ (aBin .gtr .prim t27 (.val (Go.Value.int Go.IntKind.i64 1048576)))) K) (fun t28 σ =>
  stepK (pureR σ (aPick t24 (.val (Go.Value.bool Bool.true)) t28)) fun t29 σ =>
  gK t29 false (fun K => stepK (pureR σ (aFieldAddr 1 t9)) K) (fun t31 σ =>
  gK t29 false (fun K => stepK (pureR σ (aLoad false 1 t31 σ)) K) (fun t32 σ =>
  gK t29 false (fun K => stepK (pureR σ (aBin .gtr .prim t32 (.val (Go.Value.int Go.IntKind.i64 4194304)))) K) (fun t33 σ =>
  stepK (pureR σ (aPick t29 (.val (Go.Value.bool Bool.true)) t33)) fun t34 σ =>
  gK t34 false (fun K => stepK (pureR σ (aFieldAddr 0 t9)) K) (fun t36 σ =>
  gK t34 false (fun K => stepK (pureR σ (aLoad false 1 t36 σ)) K) (fun t37 σ =>
  gK t34 false (fun K => stepK (pureR σ (aBin .lss .prim t37 (.val (Go.Value.int Go.IntKind.i64 1)))) K) (fun t38 σ =>
  stepK (pureR σ (aPick t34 (.val (Go.Value.bool Bool.true)) t38)) fun t39 σ =>
  gK t39 false (fun K => stepK (pureR σ (aFieldAddr 1 t9)) K) (fun t41 σ =>
  gK t39 false (fun K => stepK (pureR σ (aLoad false 1 t41 σ)) K) (fun t42 σ =>
  gK t39 false (fun K => stepK (pureR σ (aBin .lss .prim t42 (.val (Go.Value.int Go.IntKind.i64 0)))) K) (fun t43 σ =>
  stepK (pureR σ (aPick t39 (.val (Go.Value.bool Bool.true)) t43)) fun t44 σ =>
  gK t44 false (fun K => K t1 σ) (fun t46 σ =>
  gK t44 false (fun K => stepK (pureR σ (aBin .lss .prim t46 (.val (Go.Value.int Go.IntKind.i64 0)))) K) (fun t47 σ =>
  stepK (pureR σ (aPick t44 (.val (Go.Value.bool Bool.true)) t47)) fun t48 σ =>
  condK t48 (
  Ev Go.Proofs.Tryz.prog 11 [] σ (fun t49 σ =>
  k t49 σ
  ) kp) (
  stepK (pureR σ (aLoad true 19 t6 σ)) fun t51 σ =>
  stepK (pureR σ (aLoad true 2 t9 σ)) fun t53 σ =>
  Ev Go.Proofs.Tryz.prog 12 [t51, t1, t53] σ (fun t54 σ =>
  stepK (pureR σ (aExtract 0 t54)) fun t55 σ =>
  stepK (pureR σ (aExtract 1 t54)) fun t56 σ =>
  stepK (aAlloc [.val (.int .u8 0), .val (.bool false), .val (.int .i64 0), .val (.string ByteArray.empty), .val (.int .i64 0), .val (.int .i64 0), .val (.int .i64 0), .val (.int .i64 0)] σ) fun t13 σ =>
  stepK (unitR (aStore 8 t13 t55 σ)) fun _ σ =>
  stepK (pureR σ (aBin .neq .prim t56 (.val (Go.Value.int Go.IntKind.i64 0)))) fun t58 σ =>
  condK t58 (
  Ev Go.Proofs.Tryz.prog 11 [] σ (fun t59 σ =>
  k t59 σ
  ) kp) (
  stepK (pureR σ (aLoad true 19 t6 σ)) fun t61 σ =>
  stepK (pureR σ (aConv (.int .i64) t2)) fun t64 σ =>
  stepK (pureR σ (aBin .add .prim t1 t64)) fun t65 σ =>
  stepK (pureR σ (aLoad true 2 t9 σ)) fun t66 σ =>
  Ev Go.Proofs.Tryz.prog 12 [t61, t65, t66] σ (fun t67 σ =>
  stepK (pureR σ (aExtract 0 t67)) fun t68 σ =>
  stepK (pureR σ (aExtract 1 t67)) fun t69 σ =>
  stepK (aAlloc [.val (.int .u8 0), .val (.bool false), .val (.int .i64 0), .val (.string ByteArray.empty), .val (.int .i64 0), .val (.int .i64 0), .val (.int .i64 0), .val (.int .i64 0)] σ) fun t15 σ =>
  stepK (unitR (aStore 8 t15 t68 σ)) fun _ σ =>
  stepK (pureR σ (aLoad true 19 t6 σ)) fun t71 σ =>
  stepK (pureR σ (aFieldAddr 0 t9)) fun t73 σ =>
  stepK (pureR σ (aLoad false 1 t73 σ)) fun t74 σ =>
  stepK (pureR σ (aConv (.int .i64) t4)) fun t76 σ =>
  stepK (pureR σ (aBin .add .prim t74 t76)) fun t77 σ =>
  stepK (pureR σ (aFieldAddr 1 t9)) fun t78 σ =>
  stepK (pureR σ (aLoad false 1 t78 σ)) fun t79 σ =>
  stepK (pureR σ (aConv (.int .i64) t5)) fun t81 σ =>
  stepK (pureR σ (aBin .add .prim t79 t81)) fun t82 σ =>
  stepK (pureR σ (aBuild [.val (.int .i64 0), .val (.int .i64 0)] [(0, 1, t77), (1, 1, t82)])) fun t83 σ =>
  Ev Go.Proofs.Tryz.prog 12 [t71, t1, t83] σ (fun t84 σ =>
  stepK (pureR σ (aExtract 0 t84)) fun t85 σ =>
  stepK (pureR σ (aExtract 1 t84)) fun t86 σ =>
  stepK (aAlloc [.val (.int .u8 0), .val (.bool false), .val (.int .i64 0), .val (.string ByteArray.empty), .val (.int .i64 0), .val (.int .i64 0), .val (.int .i64 0), .val (.int .i64 0)] σ) fun t17 σ =>
  stepK (unitR (aStore 8 t17 t85 σ)) fun _ σ =>
  stepK (pureR σ (aBin .neq .prim t69 (.val (Go.Value.int Go.IntKind.i64 0)))) fun t88 σ =>
  gK t88 false (fun K => K t86 σ) (fun t90 σ =>
  gK t88 false (fun K => stepK (pureR σ (aBin .neq .prim t90 (.val (Go.Value.int Go.IntKind.i64 0)))) K) (fun t91 σ =>
  stepK (pureR σ (aPick t88 (.val (Go.Value.bool Bool.true)) t91)) fun t92 σ =>
  condK t92 (
  k (.val (Go.Value.bool Bool.false)) σ
  ) (
  stepK (pureR σ (aFieldAddr 0 t13)) fun t93 σ =>
  stepK (pureR σ (aFieldAddr 0 t93)) fun t94 σ =>
  stepK (pureR σ (aLoad false 1 t94 σ)) fun t95 σ =>
  stepK (pureR σ (aBin .eql .prim t95 (.val (Go.Value.int Go.IntKind.u8 3)))) fun t96 σ =>
  gK t96 false (fun K => stepK (pureR σ (aLoad true 8 t15 σ)) K) (fun t98 σ =>
  gK t96 false (fun K => stepK (pureR σ (aLoad true 8 t13 σ)) K) (fun t99 σ =>
  gK t96 false (fun K => stepK (pureR σ (aBin .eql (.agg [.i, .b, .i, .s, .i, .i, .i, .i]) t98 t99)) K) (fun t100 σ =>
  stepK (pureR σ (aPick t96 (.val (Go.Value.bool Bool.true)) t100)) fun t101 σ =>
  gK t101 true (fun K => stepK (pureR σ (aFieldAddr 0 t13)) K) (fun t103 σ =>
  gK t101 true (fun K => stepK (pureR σ (aFieldAddr 0 t103)) K) (fun t104 σ =>
  gK t101 true (fun K => stepK (pureR σ (aLoad false 1 t104 σ)) K) (fun t105 σ =>
  gK t101 true (fun K => stepK (pureR σ (aBin .eql .prim t105 (.val (Go.Value.int Go.IntKind.u8 4)))) K) (fun t106 σ =>
  gK t101 true (fun K => K t106 σ) (fun t107 σ =>
  gK t107 false (fun K => stepK (pureR σ (aLoad true 8 t17 σ)) K) (fun t108 σ =>
  gK t107 false (fun K => stepK (pureR σ (aLoad true 8 t13 σ)) K) (fun t109 σ =>
  gK t107 false (fun K => stepK (pureR σ (aBin .eql (.agg [.i, .b, .i, .s, .i, .i, .i, .i]) t108 t109)) K) (fun t110 σ =>
  gK t101 true (fun K => stepK (pureR σ (aPick t107 (.val (Go.Value.bool Bool.true)) t110)) K) (fun t111 σ =>
  stepK (pureR σ (aPick t101 t111 (.val (Go.Value.bool Bool.false)))) fun t112 σ =>
  gK t112 true (fun K => Ev Go.Proofs.Tryz.prog 11 [] σ K kp) (fun t114 σ =>
  stepK (pureR σ (aPick t112 t114 (.val (Go.Value.bool Bool.false)))) fun t115 σ =>
  k t115 σ
  ) σ) σ) σ) σ) σ) σ) σ) σ) σ) σ) σ) σ) σ)
  ) σ) σ) kp) kp)
  ) kp)) σ) σ) σ) σ) σ) σ) σ) σ) σ) σ) σ) σ) σ) σ) σ) σ) kp
def keep7 : List (Nat × List Nat) := [(0, [1, 2, 4, 5, 6, 9]), (1, [1, 2, 4, 5, 6, 9, 48]), (2, [12]), (3, [1, 2, 4, 5, 6, 9, 13, 14]), (4, [1, 2, 4, 5, 6, 9, 13, 58]), (5, [12]), (6, [1, 4, 5, 6, 9, 13, 15, 16]), (7, [13, 15, 16, 17, 18]), (8, [13, 15, 17, 92]), (9, [12]), (10, [12])]
noncomputable def body7 : Code := (Go.Proofs.Tryz.f7).body.getD .skip
theorem F7_eq (t0 t1 t2 t3 t4 t5 : AV) (σ : AHeap) (k kp : AV → AHeap → Prop) : aw Go.Proofs.Tryz.prog (keepOf keep7) body7 (retK Go.Proofs.Tryz.prog (Go.Proofs.Tryz.f7).results.toList k kp) (frameOf 0 [t0, t1, t2, t3, t4, t5]) σ = F7 t0 t1 t2 t3 t4 t5 σ k kp := by kernel_rfl
theorem F7_ev {t0 t1 t2 t3 t4 t5 : AV} {σ : AHeap} {k kp : AV → AHeap → Prop} (h : F7 t0 t1 t2 t3 t4 t5 σ k kp) : Ev Go.Proofs.Tryz.prog 7 [t0, t1, t2, t3, t4, t5] σ k kp :=
  Ev_of_aw mixedL Go.Proofs.Tryz.func7 (show (Go.Proofs.Tryz.f7).body = some body7 by kernel_rfl) (by kernel_rfl) (args := [t0, t1, t2, t3, t4, t5]) (of_decide_eq_true (by kernel_rfl)) (keepOf keep7) (by kernel_rfl) (by rw [F7_eq]; exact h)

/-- enclave/enclavelaw20.awake -/
def F11 (σ : AHeap) (k kp : AV → AHeap → Prop) : Prop :=
  stepK (pureR σ (aBuild [.val (.int .u8 0), .val (.int .u8 0), .val (.int .i64 0), .val (.int .i64 0), .val (.string ByteArray.empty), .val (.string ByteArray.empty), .val (.string ByteArray.empty)] [(0, 1, (.val (Go.Value.int Go.IntKind.u8 3)))])) fun t5 σ =>
  callK Go.Proofs.Tryz.prog (.fn (.func 23) []) [(.val (Go.Value.int Go.IntKind.i64 3))] σ (fun t7 σ =>
  callK Go.Proofs.Tryz.prog (.fn (.func 23) []) [(.val (Go.Value.int Go.IntKind.i64 4))] σ (fun t9 σ =>
  stepK (pureR σ (aBuildSl 2 19 [.val (.int .u8 0), .val (.int .u8 0), .val (.int .i64 0), .val (.int .i64 0), .val (.string ByteArray.empty), .val (.string ByteArray.empty), .val (.string ByteArray.empty), .val (.int .i64 0), .val (.slice none 0 0), .val (.slice none 0 0), .val (.int .u8 0), .val (.int .i64 0), .val (.slice none 0 0), .val (.slice none 0 0), .val (.int .u8 0), .val (.int .i64 0), .val (.slice none 0 0), .val (.slice none 0 0), .val (.slice none 0 0)] [(0, t7), (1, t9)])) fun t10 σ =>
  stepK (pureR σ (aBuild [.val (.int .u8 0), .val (.int .u8 0), .val (.int .i64 0), .val (.int .i64 0), .val (.string ByteArray.empty), .val (.string ByteArray.empty), .val (.string ByteArray.empty), .val (.int .i64 0), .val (.slice none 0 0), .val (.slice none 0 0), .val (.int .u8 0), .val (.int .i64 0), .val (.slice none 0 0), .val (.slice none 0 0), .val (.int .u8 0), .val (.int .i64 0), .val (.slice none 0 0), .val (.slice none 0 0), .val (.slice none 0 0)] [(0, 7, t5), (18, 1, t10)])) fun t11 σ =>
  stepK (aAlloc [.val (.int .u8 0), .val (.int .u8 0), .val (.int .i64 0), .val (.int .i64 0), .val (.string ByteArray.empty), .val (.string ByteArray.empty), .val (.string ByteArray.empty), .val (.int .i64 0), .val (.slice none 0 0), .val (.slice none 0 0), .val (.int .u8 0), .val (.int .i64 0), .val (.slice none 0 0), .val (.slice none 0 0), .val (.int .u8 0), .val (.int .i64 0), .val (.slice none 0 0), .val (.slice none 0 0), .val (.slice none 0 0)] σ) fun t2 σ =>
  stepK (unitR (aStore 19 t2 t11 σ)) fun _ σ =>
  stepK (pureR σ (aBuild [.val (.int .u8 0), .val (.int .u8 0), .val (.int .i64 0), .val (.int .i64 0), .val (.string ByteArray.empty), .val (.string ByteArray.empty), .val (.string ByteArray.empty)] [(0, 1, (.val (Go.Value.int Go.IntKind.u8 4)))])) fun t13 σ =>
  stepK (pureR σ (aLoad true 19 t2 σ)) fun t14 σ =>
  stepK (pureR σ (aBuildSl 1 19 [.val (.int .u8 0), .val (.int .u8 0), .val (.int .i64 0), .val (.int .i64 0), .val (.string ByteArray.empty), .val (.string ByteArray.empty), .val (.string ByteArray.empty), .val (.int .i64 0), .val (.slice none 0 0), .val (.slice none 0 0), .val (.int .u8 0), .val (.int .i64 0), .val (.slice none 0 0), .val (.slice none 0 0), .val (.int .u8 0), .val (.int .i64 0), .val (.slice none 0 0), .val (.slice none 0 0), .val (.slice none 0 0)] [(0, t14)])) fun t15 σ =>
  stepK (pureR σ (aBuild [.val (.int .u8 0), .val (.int .u8 0), .val (.int .i64 0), .val (.int .i64 0), .val (.string ByteArray.empty), .val (.string ByteArray.empty), .val (.string ByteArray.empty), .val (.int .i64 0), .val (.slice none 0 0), .val (.slice none 0 0), .val (.int .u8 0), .val (.int .i64 0), .val (.slice none 0 0), .val (.slice none 0 0), .val (.int .u8 0), .val (.int .i64 0), .val (.slice none 0 0), .val (.slice none 0 0), .val (.slice none 0 0)] [(0, 7, t13), (18, 1, t15)])) fun t16 σ =>
  stepK (pureR σ (aBuild [.val (.int .i64 0), .val (.int .i64 0)] [(0, 1, (.val (Go.Value.int Go.IntKind.i64 1))), (1, 1, (.val (Go.Value.int Go.IntKind.i64 1)))])) fun t17 σ =>
  Ev Go.Proofs.Tryz.prog 12 [t16, (.val (Go.Value.int Go.IntKind.i64 9)), t17] σ (fun t18 σ =>
  stepK (pureR σ (aExtract 0 t18)) fun t19 σ =>
  stepK (pureR σ (aExtract 1 t18)) fun t20 σ =>
  stepK (aAlloc [.val (.int .u8 0), .val (.bool false), .val (.int .i64 0), .val (.string ByteArray.empty), .val (.int .i64 0), .val (.int .i64 0), .val (.int .i64 0), .val (.int .i64 0)] σ) fun t3 σ =>
  stepK (unitR (aStore 8 t3 t19 σ)) fun _ σ =>
  stepK (pureR σ (aBin .eql .prim t20 (.val (Go.Value.int Go.IntKind.i64 0)))) fun t22 σ =>
  gK t22 true (fun K => stepK (pureR σ (aFieldAddr 0 t3)) K) (fun t24 σ =>
  gK t22 true (fun K => stepK (pureR σ (aLoad true 4 t24 σ)) K) (fun t25 σ =>
  gK t22 true (fun K => stepK (pureR σ (aBuild [.val (.int .u8 0), .val (.bool false), .val (.int .i64 0), .val (.string ByteArray.empty)] [(0, 1, (.val (Go.Value.int Go.IntKind.u8 1))), (1, 1, (.val (Go.Value.bool Bool.true))), (2, 1, (.val (Go.Value.int Go.IntKind.i64 3)))])) K) (fun t26 σ =>
  gK t22 true (fun K => stepK (pureR σ (aBin .eql (.agg [.i, .b, .i, .s]) t25 t26)) K) (fun t27 σ =>
  stepK (pureR σ (aPick t22 t27 (.val (Go.Value.bool Bool.false)))) fun t28 σ =>
  gK t28 true (fun K => stepK (pureR σ (aFieldAddr 4 t3)) K) (fun t30 σ =>
  gK t28 true (fun K => stepK (pureR σ (aLoad false 1 t30 σ)) K) (fun t31 σ =>
  gK t28 true (fun K => stepK (pureR σ (aBin .eql .prim t31 (.val (Go.Value.int Go.IntKind.i64 4)))) K) (fun t32 σ =>
  stepK (pureR σ (aPick t28 t32 (.val (Go.Value.bool Bool.false)))) fun t33 σ =>
  gK t33 true (fun K => stepK (pureR σ (aFieldAddr 6 t3)) K) (fun t35 σ =>
  gK t33 true (fun K => stepK (pureR σ (aLoad false 1 t35 σ)) K) (fun t36 σ =>
  gK t33 true (fun K => stepK (pureR σ (aBin .eql .prim t36 (.val (Go.Value.int Go.IntKind.i64 1)))) K) (fun t37 σ =>
  stepK (pureR σ (aPick t33 t37 (.val (Go.Value.bool Bool.false)))) fun t38 σ =>
  gK t38 true (fun K => stepK (pureR σ (aFieldAddr 5 t3)) K) (fun t40 σ =>
  gK t38 true (fun K => stepK (pureR σ (aLoad false 1 t40 σ)) K) (fun t41 σ =>
  gK t38 true (fun K => stepK (pureR σ (aBin .eql .prim t41 (.val (Go.Value.int Go.IntKind.i64 1)))) K) (fun t42 σ =>
  stepK (pureR σ (aPick t38 t42 (.val (Go.Value.bool Bool.false)))) fun t43 σ =>
  k t43 σ) σ) σ) σ) σ) σ) σ) σ) σ) σ) σ) σ) σ) σ) kp) kp) kp
def keep11 : List (Nat × List Nat) := [(0, []), (1, [1]), (2, [2]), (4002, [1]), (3, [3, 4]), (4003, [1]), (4, [0])]
noncomputable def body11 : Code := (Go.Proofs.Tryz.f11).body.getD .skip
theorem F11_eq (σ : AHeap) (k kp : AV → AHeap → Prop) : aw Go.Proofs.Tryz.prog (keepOf keep11) body11 (retK Go.Proofs.Tryz.prog (Go.Proofs.Tryz.f11).results.toList k kp) (frameOf 0 []) σ = F11 σ k kp := by kernel_rfl
theorem F11_ev {σ : AHeap} {k kp : AV → AHeap → Prop} (h : F11 σ k kp) : Ev Go.Proofs.Tryz.prog 11 [] σ k kp :=
  Ev_of_aw mixedL Go.Proofs.Tryz.func11 (show (Go.Proofs.Tryz.f11).body = some body11 by kernel_rfl) (by kernel_rfl) (args := []) (of_decide_eq_true (by kernel_rfl)) (keepOf keep11) (by kernel_rfl) (by rw [F11_eq]; exact h)

end Go.Proofs.MacD
