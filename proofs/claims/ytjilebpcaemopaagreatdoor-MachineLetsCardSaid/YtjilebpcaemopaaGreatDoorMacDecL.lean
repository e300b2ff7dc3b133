import Derived.Test.YtjilebpcaemopaaGreatDoorAbsK
import Derived.Test.YtjilebpcaemopaaGreatDoorProg
import Derived.KernelRfl
set_option maxRecDepth 100000
set_option linter.unusedVariables false
namespace Go.Proofs.MacD
open Go Go.Abs

theorem mixedL : Go.Proofs.Tryz.prog.follows .mixedOrders = true := by kernel_rfl

/-- enclave/enclavelaw20.MachineLets -/
def F4 (t0 t1 t2 : AV) (σ : AHeap) (k kp : AV → AHeap → Prop) : Prop :=
  stepK (aBox t0 σ) fun t3 σ =>
  stepK (aBox t2 σ) fun t5 σ =>
  stepK (pureR σ (aLoad true 19 t3 σ)) fun t13 σ =>
  Ev Go.Proofs.Tryz.prog 10 [t13] σ (fun t14 σ =>
  gK t14 false (fun K => stepK (pureR σ (aLoad true 19 t3 σ)) K) (fun t16 σ =>
  gK t14 false (fun K => Ev Go.Proofs.Tryz.prog 14 [t16] σ K kp) (fun t17 σ =>
  gK t14 false (fun K => stepK (pureR σ (aLenK .slice t17 σ)) K) (fun t18 σ =>
  gK t14 false (fun K => stepK (pureR σ (aBin .gtr .prim t18 (.val (Go.Value.int Go.IntKind.i64 140)))) K) (fun t19 σ =>
  stepK (pureR σ (aPick t14 (.val (Go.Value.bool Bool.true)) t19)) fun t20 σ =>
  gK t20 false (fun K => K t1 σ) (fun t22 σ =>
  gK t20 false (fun K => stepK (pureR σ (aBin .gtr .prim t22 (.val (Go.Value.int Go.IntKind.i64 500)))) K) (fun t23 σ =>
  stepK (pureR σ (aPick t20 (.val (Go.Value.bool Bool.true)) t23)) fun t24 σ =>
  gK t24 false (fun K => K t1 σ) (fun t26 σ =>
  gK t24 false (fun K => stepK (pureR σ (aBin .lss .prim t26 (.val (Go.Value.int Go.IntKind.i64 0)))) K) (fun t27 σ =>
  stepK (pureR σ (aPick t24 (.val (Go.Value.bool Bool.true)) t27)) fun t28 σ =>
  gK t28 false (fun K => stepK (pureR σ (aLoad true 19 t3 σ)) K) (fun t30 σ =>
  gK t28 false (fun K => Ev Go.Proofs.Tryz.prog 15 [t30] σ K kp) (fun t31 σ =>
  gK t28 false (fun K => stepK (pureR σ (aNot t31)) K) (fun t32 σ =>
  stepK (pureR σ (aPick t28 (.val (Go.Value.bool Bool.true)) t32)) fun t33 σ =>
  condK t33 (
  Ev Go.Proofs.Tryz.prog 11 [] σ (fun t34 σ =>
  k t34 σ
  ) kp) (
  stepK (pureR σ (aLoad true 19 t3 σ)) fun t36 σ =>
  stepK (pureR σ (aLoad true 2 t5 σ)) fun t38 σ =>
  Ev Go.Proofs.Tryz.prog 12 [t36, t1, t38] σ (fun t39 σ =>
  stepK (pureR σ (aExtract 0 t39)) fun t40 σ =>
  stepK (pureR σ (aExtract 1 t39)) fun t41 σ =>
  stepK (aAlloc [.val (.int .u8 0), .val (.bool false), .val (.int .i64 0), .val (.string ByteArray.empty), .val (.int .i64 0), .val (.int .i64 0), .val (.int .i64 0), .val (.int .i64 0)] σ) fun t7 σ =>
  stepK (unitR (aStore 8 t7 t40 σ)) fun _ σ =>
  stepK (pureR σ (aBuild [.val (.int .u8 0), .val (.int .u8 0), .val (.int .i64 0), .val (.int .i64 0), .val (.string ByteArray.empty), .val (.string ByteArray.empty), .val (.string ByteArray.empty)] [(0, 1, (.val (Go.Value.int Go.IntKind.u8 2))), (4, 1, (.val (Go.Value.string { data := #[120] })))])) fun t42 σ =>
  stepK (pureR σ (aBuild [.val (.int .u8 0), .val (.int .u8 0), .val (.int .i64 0), .val (.int .i64 0), .val (.string ByteArray.empty), .val (.string ByteArray.empty), .val (.string ByteArray.empty), .val (.int .i64 0), .val (.slice none 0 0), .val (.slice none 0 0), .val (.int .u8 0), .val (.int .i64 0), .val (.slice none 0 0), .val (.slice none 0 0), .val (.int .u8 0), .val (.int .i64 0), .val (.slice none 0 0), .val (.slice none 0 0), .val (.slice none 0 0)] [(0, 7, t42)])) fun t43 σ =>
  stepK (aAlloc [.val (.int .u8 0), .val (.int .u8 0), .val (.int .i64 0), .val (.int .i64 0), .val (.string ByteArray.empty), .val (.string ByteArray.empty), .val (.string ByteArray.empty), .val (.int .i64 0), .val (.slice none 0 0), .val (.slice none 0 0), .val (.int .u8 0), .val (.int .i64 0), .val (.slice none 0 0), .val (.slice none 0 0), .val (.int .u8 0), .val (.int .i64 0), .val (.slice none 0 0), .val (.slice none 0 0), .val (.slice none 0 0)] σ) fun t9 σ =>
  stepK (unitR (aStore 19 t9 t43 σ)) fun _ σ =>
  stepK (pureR σ (aBuild [.val (.int .u8 0), .val (.int .u8 0), .val (.int .i64 0), .val (.int .i64 0), .val (.string ByteArray.empty), .val (.string ByteArray.empty), .val (.string ByteArray.empty)] [(0, 1, (.val (Go.Value.int Go.IntKind.u8 12))), (4, 1, (.val (Go.Value.string { data := #[120] })))])) fun t45 σ =>
  stepK (pureR σ (aLoad true 19 t3 σ)) fun t46 σ =>
  stepK (pureR σ (aLoad true 19 t9 σ)) fun t47 σ =>
  stepK (pureR σ (aBuildSl 2 19 [.val (.int .u8 0), .val (.int .u8 0), .val (.int .i64 0), .val (.int .i64 0), .val (.string ByteArray.empty), .val (.string ByteArray.empty), .val (.string ByteArray.empty), .val (.int .i64 0), .val (.slice none 0 0), .val (.slice none 0 0), .val (.int .u8 0), .val (.int .i64 0), .val (.slice none 0 0), .val (.slice none 0 0), .val (.int .u8 0), .val (.int .i64 0), .val (.slice none 0 0), .val (.slice none 0 0), .val (.slice none 0 0)] [(0, t46), (1, t47)])) fun t48 σ =>
  stepK (pureR σ (aBuild [.val (.int .u8 0), .val (.int .u8 0), .val (.int .i64 0), .val (.int .i64 0), .val (.string ByteArray.empty), .val (.string ByteArray.empty), .val (.string ByteArray.empty), .val (.int .i64 0), .val (.slice none 0 0), .val (.slice none 0 0), .val (.int .u8 0), .val (.int .i64 0), .val (.slice none 0 0), .val (.slice none 0 0), .val (.int .u8 0), .val (.int .i64 0), .val (.slice none 0 0), .val (.slice none 0 0), .val (.slice none 0 0)] [(0, 7, t45), (18, 1, t48)])) fun t49 σ =>
  stepK (pureR σ (aBin .add .prim t1 (.val (Go.Value.int Go.IntKind.i64 2)))) fun t51 σ =>
  stepK (pureR σ (aLoad true 2 t5 σ)) fun t52 σ =>
  Ev Go.Proofs.Tryz.prog 12 [t49, t51, t52] σ (fun t53 σ =>
  stepK (pureR σ (aExtract 0 t53)) fun t54 σ =>
  stepK (pureR σ (aExtract 1 t53)) fun t55 σ =>
  stepK (aAlloc [.val (.int .u8 0), .val (.bool false), .val (.int .i64 0), .val (.string ByteArray.empty), .val (.int .i64 0), .val (.int .i64 0), .val (.int .i64 0), .val (.int .i64 0)] σ) fun t10 σ =>
  stepK (unitR (aStore 8 t10 t54 σ)) fun _ σ =>
  stepK (pureR σ (aBin .neq .prim t41 (.val (Go.Value.int Go.IntKind.i64 0)))) fun t57 σ =>
  gK t57 false (fun K => K t55 σ) (fun t59 σ =>
  gK t57 false (fun K => stepK (pureR σ (aBin .neq .prim t59 (.val (Go.Value.int Go.IntKind.i64 0)))) K) (fun t60 σ =>
  stepK (pureR σ (aPick t57 (.val (Go.Value.bool Bool.true)) t60)) fun t61 σ =>
  condK t61 (
  k (.val (Go.Value.bool Bool.false)) σ
  ) (
  stepK (pureR σ (aFieldAddr 0 t7)) fun t62 σ =>
  stepK (pureR σ (aFieldAddr 0 t62)) fun t63 σ =>
  stepK (pureR σ (aLoad false 1 t63 σ)) fun t64 σ =>
  stepK (pureR σ (aBin .eql .prim t64 (.val (Go.Value.int Go.IntKind.u8 3)))) fun t65 σ =>
  condK t65 (
  Ev Go.Proofs.Tryz.prog 11 [] σ (fun t66 σ =>
  k t66 σ
  ) kp) (
  seqW (fun fr σ => (
  stepK (pureR σ (aFieldAddr 0 (Abs.look fr 10))) fun t71 σ =>
  stepK (pureR σ (aLoad true 4 t71 σ)) fun t72 σ =>
  stepK (pureR σ (aFieldAddr 0 (Abs.look fr 7))) fun t73 σ =>
  stepK (pureR σ (aLoad true 4 t73 σ)) fun t74 σ =>
  stepK (pureR σ (aBin .eql (.agg [.i, .b, .i, .s]) t72 t74)) fun t75 σ =>
  gK t75 true (fun K => stepK (pureR σ (aFieldAddr 4 (Abs.look fr 10))) K) (fun t77 σ =>
  gK t75 true (fun K => stepK (pureR σ (aLoad false 1 t77 σ)) K) (fun t78 σ =>
  gK t75 true (fun K => stepK (pureR σ (aFieldAddr 4 (Abs.look fr 7))) K) (fun t79 σ =>
  gK t75 true (fun K => stepK (pureR σ (aLoad false 1 t79 σ)) K) (fun t80 σ =>
  gK t75 true (fun K => K (Abs.look fr 12) σ) (fun t81 σ =>
  gK t75 true (fun K => stepK (pureR σ (aBin .add .prim t80 t81)) K) (fun t82 σ =>
  gK t75 true (fun K => stepK (pureR σ (aBin .eql .prim t78 t82)) K) (fun t83 σ =>
  stepK (pureR σ (aPick t75 t83 (.val (Go.Value.bool Bool.false)))) fun t84 σ =>
  gK t84 true (fun K => stepK (pureR σ (aFieldAddr 7 (Abs.look fr 10))) K) (fun t86 σ =>
  gK t84 true (fun K => stepK (pureR σ (aLoad false 1 t86 σ)) K) (fun t87 σ =>
  gK t84 true (fun K => stepK (pureR σ (aFieldAddr 7 (Abs.look fr 7))) K) (fun t88 σ =>
  gK t84 true (fun K => stepK (pureR σ (aLoad false 1 t88 σ)) K) (fun t89 σ =>
  gK t84 true (fun K => stepK (pureR σ (aBin .eql .prim t87 t89)) K) (fun t90 σ =>
  stepK (pureR σ (aPick t84 t90 (.val (Go.Value.bool Bool.false)))) fun t91 σ =>
  gK t91 true (fun K => stepK (pureR σ (aFieldAddr 6 (Abs.look fr 10))) K) (fun t93 σ =>
  gK t91 true (fun K => stepK (pureR σ (aLoad false 1 t93 σ)) K) (fun t94 σ =>
  gK t91 true (fun K => stepK (pureR σ (aFieldAddr 6 (Abs.look fr 7))) K) (fun t95 σ =>
  gK t91 true (fun K => stepK (pureR σ (aLoad false 1 t95 σ)) K) (fun t96 σ =>
  gK t91 true (fun K => stepK (pureR σ (aBin .eql .prim t94 t96)) K) (fun t97 σ =>
  stepK (pureR σ (aPick t91 t97 (.val (Go.Value.bool Bool.false)))) fun t98 σ =>
  gK t98 true (fun K => stepK (pureR σ (aFieldAddr 5 (Abs.look fr 10))) K) (fun t100 σ =>
  gK t98 true (fun K => stepK (pureR σ (aLoad false 1 t100 σ)) K) (fun t101 σ =>
  gK t98 true (fun K => stepK (pureR σ (aFieldAddr 5 (Abs.look fr 7))) K) (fun t102 σ =>
  gK t98 true (fun K => stepK (pureR σ (aLoad false 1 t102 σ)) K) (fun t103 σ =>
  gK t98 true (fun K => stepK (pureR σ (aBin .eql .prim t101 t103)) K) (fun t104 σ =>
  stepK (pureR σ (aPick t98 t104 (.val (Go.Value.bool Bool.false)))) fun t105 σ =>
  gK t105 true (fun K => Ev Go.Proofs.Tryz.prog 11 [] σ K kp) (fun t107 σ =>
  stepK (pureR σ (aPick t105 t107 (.val (Go.Value.bool Bool.false)))) fun t108 σ =>
  k t108 σ
  ) σ) σ) σ) σ) σ) σ) σ) σ) σ) σ) σ) σ) σ) σ) σ) σ) σ) σ) σ) σ) σ) σ) σ)) (fun j1 => (
  stepK (pureR σ (aFieldAddr 0 t7)) fun t67 σ =>
  stepK (pureR σ (aFieldAddr 0 t67)) fun t68 σ =>
  stepK (pureR σ (aLoad false 1 t68 σ)) fun t69 σ =>
  stepK (pureR σ (aBin .eql .prim t69 (.val (Go.Value.int Go.IntKind.u8 1)))) fun t70 σ =>
  condK t70 (
  j1 [(7, t7), (10, t10), (12, (.val (Go.Value.int Go.IntKind.i64 2)))] σ
  ) (
  j1 [(7, t7), (10, t10), (12, (.val (Go.Value.int Go.IntKind.i64 1)))] σ
  )
  ))
  )
  )
  ) σ) σ) kp) kp)) σ) σ) σ) σ) σ) σ) σ) σ) σ) σ) σ) kp
def keep4 : List (Nat × List Nat) := [(0, [1, 3, 5]), (1, [1, 3, 5, 33]), (2, [6]), (3, [1, 3, 5, 7, 8]), (4, [1, 3, 5, 7, 8, 9]), (5, [7, 8, 10, 11]), (4005, [1]), (6, [7, 10, 61]), (7, [6]), (8, [7, 10, 65]), (9, [6]), (10, [7, 10, 12]), (3014, [7, 10, 12]), (11, [7, 10, 12, 70]), (12, [7, 10, 12]), (13, [6])]
noncomputable def body4 : Code := (Go.Proofs.Tryz.f4).body.getD .skip
theorem F4_eq (t0 t1 t2 : AV) (σ : AHeap) (k kp : AV → AHeap → Prop) : aw Go.Proofs.Tryz.prog (keepOf keep4) body4 (retK Go.Proofs.Tryz.prog (Go.Proofs.Tryz.f4).results.toList k kp) (frameOf 0 [t0, t1, t2]) σ = F4 t0 t1 t2 σ k kp := by kernel_rfl
theorem F4_ev {t0 t1 t2 : AV} {σ : AHeap} {k kp : AV → AHeap → Prop} (h : F4 t0 t1 t2 σ k kp) : Ev Go.Proofs.Tryz.prog 4 [t0, t1, t2] σ k kp :=
  Ev_of_aw mixedL Go.Proofs.Tryz.func4 (show (Go.Proofs.Tryz.f4).body = some body4 by kernel_rfl) (by kernel_rfl) (args := [t0, t1, t2]) (of_decide_eq_true (by kernel_rfl)) (keepOf keep4) (by kernel_rfl) (by rw [F4_eq]; exact h)

/-- enclave/enclavelaw20.awake -/
def F11 (σ : AHeap) (k kp : AV → AHeap → Prop) : Prop :=
  stepK (pureR σ (aBuild [.val (.int .u8 0), .val (.int .u8 0), .val (.int .i64 0), .val (.int .i64 0), .val (.string ByteArray.empty), .val (.string ByteArray.empty), .val (.string ByteArray.empty)] [(0, 1, (.val (Go.Value.int Go.IntKind.u8 3)))])) fun t5 σ =>
  callK Go.Proofs.Tryz.prog (.fn (.func 23) []) [(.val (Go.Value.int Go.IntKind.i64 3))] σ (fun t7 σ =>
  callK Go.Proofs.Tryz.prog (.fn (.func 23) []) [(.val (Go.Value.int Go.IntKind.i64 4))] σ (fun t9 σ =>
  stepK (pureR σ (aBuildSl 2 19 [.val (.int .u8 0), .val (.int .u8 0), .val (.int .i64 0), .val (.int .i64 0), .val (.string ByteArray.empty), .val (.string ByteArray.empty), .val (.string ByteArray.empty), .val (.int .i64 0), .val (.slice none 0 0), .val (.slice none 0 0), .val (.int .u8 0), .val (.int .i64 0), .val (.slice none 0 0), .val (.slice none 0 0), .val (.int .u8 0), .val (.int .i64 0), .val (.slice none 0 0), .val (.slice none 0 0), .val (.slice none 0 0)] [(0, t7), (1, t9)])) fun t10 σ =>
  stepK (pureR σ (aBuild [.val (.int .u8 0), .val (.int .u8 0), .val (.int .i64 0), .val (.int .i64 0), .val (.string ByteArray.empty), .val (.string ByteArray.empty), .val (.string ByteArray.empty), .val (.int .i64 0), .val (.slice none 0 0), .val (.slice none 0 0), .val (.int .u8 0), .val (.int .i64 0), .val (.slice none 0 0), .val (.slice none 0 0), .val (.int .u8 0), .val (.int .i64 0), .val (.slice none 0 0), .val (.slice none 0 0), .val (.slice none 0 0)] [(0, 7, t5), (18, 1, t10)])) fun t11 σ =>
  stepK (aAlloc [.val (.int .u8 0), .val (.int .u8 0), .val (.int .i64 0), .val (.int .i64 0), .val (.string ByteArray.empty), .val (.string ByteArray.empty), .val (.string ByteArray.empty), .val (.int .i64 0), .val (.slice none 0 0), .val (.slice none 0 0), .val (.int .u8 0), .val (.int .i64 0), .val (.slice none 0 0), .val (.slice none 0 0), .val (.int .u8 0), .val (.int .i64 0), .val (.slice none 0 0), .val (.slice none 0 0), .val (.slice none 0 0)] σ) fun t2 σ =>
  stepK (unitR (aStore 19 t2 t11 σ)) fun _ σ =>
  stepK (pureR σ (aBuild [.val (.int .u8 0), .val (.int .u8 0), .val (.int .i64 0), .val (.int .i64 0), .val (.string ByteArray.empty), .val (.string ByteArray.empty), .val (.string ByteArray.empty)] [(0, 1, (.val (Go.Value.int Go.IntKind.u8 4)))])) fun t13 σ =>
  stepK (pureR σ (aLoad true 19 t2 σ)) fun t14 σ =>
  stepK (pureR σ (aBuildSl 1 19 [.val (.int .u8 0), .val (.int .u8 0), .val (.int .i64 0), .val (.int .i64 0), .val (.string ByteArray.empty), .val (.string ByteArray.empty), .val (.string ByteArray.empty), .val (.int .i64 0), .val (.slice none 0 0), .val (.slice none 0 0), .val (.int .u8 0), .val (.int .i64 0), .val (.slice none 0 0), .val (.slice none 0 0), .val (.int .u8 0), .val (.int .i64 0), .val (.slice none 0 0), .val (.slice none 0 0), .val (.slice none 0 0)] [(0, t14)])) fun t15 σ =>
  stepK (pureR σ (aBuild [.val (.int .u8 0), .val (.int .u8 0), .val (.int .i64 0), .val (.int .i64 0), .val (.string ByteArray.empty), .val (.string ByteArray.empty), .val (.string ByteArray.empty), .val (.int .i64 0), .val (.slice none 0 0), .val (.slice none 0 0), .val (.int .u8 0), .val (.int .i64 0), .val (.slice none 0 0), .val (.slice none 0 0), .val (.int .u8 0), .val (.int .i64 0), .val (.slice none 0 0), .val (.slice none 0 0), .val (.slice none 0 0)] [(0, 7, t13), (18, 1, t15)])) fun t16 σ =>
  stepK (pureR σ (aBuild [.val (.int .i64 0), .val (.int .i64 0)] [(0, 1, (.val (Go.Value.int Go.IntKind.i64 1))), (1, 1, (.val (Go.Value.int Go.IntKind.i64 1)))])) fun t17 σ =>
  Ev Go.Proofs.Tryz.prog 12 [t16, (.val (Go.Value.int Go.IntKind.i64 9)), t17] σ (fun t18 σ =>
  stepK (pureR σ (aExtract 0 t18)) fun t19 σ =>
  stepK (pureR σ (aExtract 1 t18)) fun t20 σ =>
  stepK (aAlloc [.val (.int .u8 0), .val (.bool false), .val (.int .i64 0), .val (.string ByteArray.empty), .val (.int .i64 0), .val (.int .i64 0), .val (.int .i64 0), .val (.int .i64 0)] σ) fun t3 σ =>
  stepK (unitR (aStore 8 t3 t19 σ)) fun _ σ =>
  stepK (pureR σ (aBin .eql .prim t20 (.val (Go.Value.int Go.IntKind.i64 0)))) fun t22 σ =>
  gK t22 true (fun K => stepK (pureR σ (aFieldAddr 0 t3)) K) (fun t24 σ =>
  gK t22 true (fun K => stepK (pureR σ (aLoad true 4 t24 σ)) K) (fun t25 σ =>
  gK t22 true (fun K => stepK (pureR σ (aBuild [.val (.int .u8 0), .val (.bool false), .val (.int .i64 0), .val (.string ByteArray.empty)] [(0, 1, (.val (Go.Value.int Go.IntKind.u8 1))), (1, 1, (.val (Go.Value.bool Bool.true))), (2, 1, (.val (Go.Value.int Go.IntKind.i64 3)))])) K) (fun t26 σ =>
  gK t22 true (fun K => stepK (pureR σ (aBin .eql (.agg [.i, .b, .i, .s]) t25 t26)) K) (fun t27 σ =>
  stepK (pureR σ (aPick t22 t27 (.val (Go.Value.bool Bool.false)))) fun t28 σ =>
  gK t28 true (fun K => stepK (pureR σ (aFieldAddr 4 t3)) K) (fun t30 σ =>
  gK t28 true (fun K => stepK (pureR σ (aLoad false 1 t30 σ)) K) (fun t31 σ =>
  gK t28 true (fun K => stepK (pureR σ (aBin .eql .prim t31 (.val (Go.Value.int Go.IntKind.i64 4)))) K) (fun t32 σ =>
  stepK (pureR σ (aPick t28 t32 (.val (Go.Value.bool Bool.false)))) fun t33 σ =>
  gK t33 true (fun K => stepK (pureR σ (aFieldAddr 6 t3)) K) (fun t35 σ =>
  gK t33 true (fun K => stepK (pureR σ (aLoad false 1 t35 σ)) K) (fun t36 σ =>
  gK t33 true (fun K => stepK (pureR σ (aBin .eql .prim t36 (.val (Go.Value.int Go.IntKind.i64 1)))) K) (fun t37 σ =>
  stepK (pureR σ (aPick t33 t37 (.val (Go.Value.bool Bool.false)))) fun t38 σ =>
  gK t38 true (fun K => stepK (pureR σ (aFieldAddr 5 t3)) K) (fun t40 σ =>
  gK t38 true (fun K => stepK (pureR σ (aLoad false 1 t40 σ)) K) (fun t41 σ =>
  gK t38 true (fun K => stepK (pureR σ (aBin .eql .prim t41 (.val (Go.Value.int Go.IntKind.i64 1)))) K) (fun t42 σ =>
  stepK (pureR σ (aPick t38 t42 (.val (Go.Value.bool Bool.false)))) fun t43 σ =>
  k t43 σ) σ) σ) σ) σ) σ) σ) σ) σ) σ) σ) σ) σ) σ) kp) kp) kp
def keep11 : List (Nat × List Nat) := [(0, []), (1, [1]), (2, [2]), (4002, [1]), (3, [3, 4]), (4003, [1]), (4, [0])]
noncomputable def body11 : Code := (Go.Proofs.Tryz.f11).body.getD .skip
theorem F11_eq (σ : AHeap) (k kp : AV → AHeap → Prop) : aw Go.Proofs.Tryz.prog (keepOf keep11) body11 (retK Go.Proofs.Tryz.prog (Go.Proofs.Tryz.f11).results.toList k kp) (frameOf 0 []) σ = F11 σ k kp := by kernel_rfl
theorem F11_ev {σ : AHeap} {k kp : AV → AHeap → Prop} (h : F11 σ k kp) : Ev Go.Proofs.Tryz.prog 11 [] σ k kp :=
  Ev_of_aw mixedL Go.Proofs.Tryz.func11 (show (Go.Proofs.Tryz.f11).body = some body11 by kernel_rfl) (by kernel_rfl) (args := []) (of_decide_eq_true (by kernel_rfl)) (keepOf keep11) (by kernel_rfl) (by rw [F11_eq]; exact h)

end Go.Proofs.MacD
