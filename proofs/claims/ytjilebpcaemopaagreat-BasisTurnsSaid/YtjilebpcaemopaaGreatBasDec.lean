import Derived.Test.YtjilebpcaemopaaGreatAbsL
import Derived.Test.YtjilebpcaemopaaGreatProg
import Derived.KernelRfl
set_option maxRecDepth 100000
set_option linter.unusedVariables false
namespace Go.Proofs.BasD
open Go Go.Abs

theorem mixed : Go.Proofs.Tryz.prog.follows .mixedOrders = true := by kernel_rfl

/-- enclave/enclavelaw16.BasisTurns -/
def F3 (t0 t1 t2 : AV) (σ : AHeap) (k kp : AV → AHeap → Prop) : Prop :=
  stepK (pureR σ (aBin .gtr .prim t0 (.val (Go.Value.int Go.IntKind.u8 10)))) fun t18 σ =>
  gK t18 false (fun K => K t1 σ) (fun t20 σ =>
  gK t18 false (fun K => stepK (pureR σ (aLenK .slice t20 σ)) K) (fun t21 σ =>
  gK t18 false (fun K => stepK (pureR σ (aBin .gtr .prim t21 (.val (Go.Value.int Go.IntKind.i64 40)))) K) (fun t22 σ =>
  stepK (pureR σ (aPick t18 (.val (Go.Value.bool Bool.true)) t22)) fun t23 σ =>
  gK t23 false (fun K => K t2 σ) (fun t25 σ =>
  gK t23 false (fun K => stepK (pureR σ (aLenK .slice t25 σ)) K) (fun t26 σ =>
  gK t23 false (fun K => stepK (pureR σ (aBin .gtr .prim t26 (.val (Go.Value.int Go.IntKind.i64 20)))) K) (fun t27 σ =>
  stepK (pureR σ (aPick t23 (.val (Go.Value.bool Bool.true)) t27)) fun t28 σ =>
  condK t28 (
  Ev Go.Proofs.Tryz.prog 8 [] σ (fun t29 σ =>
  k t29 σ
  ) kp) (
  Ev Go.Proofs.Tryz.prog 9 [] σ (fun t30 σ =>
  Ev Go.Proofs.Tryz.prog 9 [] σ (fun t31 σ =>
  seqW (fun fr σ => (
  seqW (fun fr σ => (
  stepK (pureR σ (aBuild [.val (.int .i64 0), .val (.int .i64 0), .val (.slice none 0 0), .val (.slice none 0 0), .val (.slice none 0 0)] [])) fun t66 σ =>
  stepK (aAlloc [.val (.int .i64 0), .val (.int .i64 0), .val (.slice none 0 0), .val (.slice none 0 0), .val (.slice none 0 0)] σ) fun t11 σ =>
  stepK (unitR (aStore 5 t11 t66 σ)) fun _ σ =>
  seqW (fun fr σ => (
  Ev Go.Proofs.Tryz.prog 14 [(Abs.look fr 7), (Abs.look fr 2)] σ (fun t94 σ =>
  stepK (pureR σ (aExtract 0 t94)) fun t95 σ =>
  stepK (pureR σ (aExtract 1 t94)) fun t96 σ =>
  Ev Go.Proofs.Tryz.prog 14 [(Abs.look fr 8), (Abs.look fr 2)] σ (fun t100 σ =>
  stepK (pureR σ (aExtract 0 t100)) fun t101 σ =>
  stepK (pureR σ (aExtract 1 t100)) fun t102 σ =>
  Ev Go.Proofs.Tryz.prog 15 [t95, t101] σ (fun t105 σ =>
  gK t105 true (fun K => K t96 σ) (fun t107 σ =>
  gK t105 true (fun K => K t102 σ) (fun t108 σ =>
  gK t105 true (fun K => Ev Go.Proofs.Tryz.prog 16 [t107, t108] σ K kp) (fun t109 σ =>
  stepK (pureR σ (aPick t105 t109 (.val (Go.Value.bool Bool.false)))) fun t110 σ =>
  gK t110 true (fun K => Ev Go.Proofs.Tryz.prog 8 [] σ K kp) (fun t112 σ =>
  stepK (pureR σ (aPick t110 t112 (.val (Go.Value.bool Bool.false)))) fun t113 σ =>
  k t113 σ
  ) σ) σ) σ) σ) kp) kp) kp)) (fun j3 => (
  loopW (fun fr σ again => (
  stepK (pureR σ (aLenK .slice (Abs.look fr 1) σ)) fun t69 σ =>
  stepK (pureR σ (aBin .lss .prim (Abs.look fr 12) t69)) fun t70 σ =>
  condK t70 (
  stepK (pureR σ (aLoad true 5 (Abs.look fr 11) σ)) fun t74 σ =>
  stepK (pureR σ (aIndexAddr 4 (Abs.look fr 1) (Abs.look fr 12) σ)) fun t77 σ =>
  stepK (pureR σ (aLoad true 4 t77 σ)) fun t78 σ =>
  Ev Go.Proofs.Tryz.prog 13 [(Abs.look fr 7), t74, t78] σ (fun t79 σ =>
  stepK (pureR σ (aLoad true 5 (Abs.look fr 11) σ)) fun t81 σ =>
  stepK (pureR σ (aLenK .slice (Abs.look fr 1) σ)) fun t84 σ =>
  stepK (pureR σ (aBin .sub .prim t84 (.val (Go.Value.int Go.IntKind.i64 1)))) fun t85 σ =>
  stepK (pureR σ (aBin .sub .prim t85 (Abs.look fr 12))) fun t87 σ =>
  stepK (pureR σ (aIndexAddr 4 (Abs.look fr 1) t87 σ)) fun t88 σ =>
  stepK (pureR σ (aLoad true 4 t88 σ)) fun t89 σ =>
  Ev Go.Proofs.Tryz.prog 13 [(Abs.look fr 8), t81, t89] σ (fun t90 σ =>
  stepK (pureR σ (aBin .add .prim (Abs.look fr 12) (.val (Go.Value.int Go.IntKind.i64 1)))) fun t72 σ =>
  again [(1, (Abs.look fr 1)), (2, (Abs.look fr 2)), (7, (Abs.look fr 7)), (8, (Abs.look fr 8)), (11, (Abs.look fr 11)), (12, t72)] σ
  ) kp) kp) (
  j3 [(2, (Abs.look fr 2)), (7, (Abs.look fr 7)), (8, (Abs.look fr 8))] σ
  )
  )) [(1, (Abs.look fr 1)), (2, (Abs.look fr 2)), (7, (Abs.look fr 7)), (8, (Abs.look fr 8)), (11, t11), (12, (.val (Go.Value.int Go.IntKind.i64 0)))] σ
  ))
  )) (fun j2 => (
  loopW (fun fr σ again => (
  stepK (pureR σ (aLenK .slice (Abs.look fr 1) σ)) fun t48 σ =>
  stepK (pureR σ (aBin .lss .prim (Abs.look fr 10) t48)) fun t49 σ =>
  condK t49 (
  stepK (pureR σ (aIndexAddr 4 (Abs.look fr 1) (Abs.look fr 10) σ)) fun t54 σ =>
  stepK (pureR σ (aLoad true 4 t54 σ)) fun t55 σ =>
  Ev Go.Proofs.Tryz.prog 12 [t55] σ (fun t56 σ =>
  gK t56 false (fun K => K (Abs.look fr 1) σ) (fun t58 σ =>
  gK t56 false (fun K => K (Abs.look fr 10) σ) (fun t59 σ =>
  gK t56 false (fun K => stepK (pureR σ (aIndexAddr 4 t58 t59 σ)) K) (fun t60 σ =>
  gK t56 false (fun K => stepK (pureR σ (aFieldAddr 0 t60)) K) (fun t61 σ =>
  gK t56 false (fun K => stepK (pureR σ (aLoad false 1 t61 σ)) K) (fun t62 σ =>
  gK t56 false (fun K => stepK (pureR σ (aBin .lss .prim t62 (.val (Go.Value.int Go.IntKind.i64 2)))) K) (fun t63 σ =>
  stepK (pureR σ (aPick t56 (.val (Go.Value.bool Bool.true)) t63)) fun t64 σ =>
  condK t64 (
  Ev Go.Proofs.Tryz.prog 8 [] σ (fun t65 σ =>
  k t65 σ
  ) kp) (
  stepK (pureR σ (aBin .add .prim (Abs.look fr 10) (.val (Go.Value.int Go.IntKind.i64 1)))) fun t51 σ =>
  again [(1, (Abs.look fr 1)), (2, (Abs.look fr 2)), (7, (Abs.look fr 7)), (8, (Abs.look fr 8)), (10, t51)] σ
  )
  ) σ) σ) σ) σ) σ) σ) kp) (
  j2 [(1, (Abs.look fr 1)), (2, (Abs.look fr 2)), (7, (Abs.look fr 7)), (8, (Abs.look fr 8))] σ
  )
  )) [(1, (Abs.look fr 1)), (2, (Abs.look fr 2)), (7, (Abs.look fr 7)), (8, (Abs.look fr 8)), (10, (.val (Go.Value.int Go.IntKind.i64 0)))] σ
  ))
  )) (fun j1 => (
  loopW (fun fr σ again => (
  stepK (pureR σ (aConv (.int .i64) (Abs.look fr 0))) fun t34 σ =>
  stepK (pureR σ (aBin .lss .prim (Abs.look fr 9) t34)) fun t35 σ =>
  condK t35 (
  Ev Go.Proofs.Tryz.prog 10 [(Abs.look fr 7)] σ (fun t39 σ =>
  Ev Go.Proofs.Tryz.prog 11 [(Abs.look fr 7)] σ (fun t41 σ =>
  Ev Go.Proofs.Tryz.prog 10 [(Abs.look fr 8)] σ (fun t43 σ =>
  Ev Go.Proofs.Tryz.prog 11 [(Abs.look fr 8)] σ (fun t45 σ =>
  stepK (pureR σ (aBin .add .prim (Abs.look fr 9) (.val (Go.Value.int Go.IntKind.i64 1)))) fun t37 σ =>
  again [(0, (Abs.look fr 0)), (1, (Abs.look fr 1)), (2, (Abs.look fr 2)), (7, (Abs.look fr 7)), (8, (Abs.look fr 8)), (9, t37)] σ
  ) kp) kp) kp) kp) (
  j1 [(1, (Abs.look fr 1)), (2, (Abs.look fr 2)), (7, (Abs.look fr 7)), (8, (Abs.look fr 8))] σ
  )
  )) [(0, t0), (1, t1), (2, t2), (7, t30), (8, t31), (9, (.val (Go.Value.int Go.IntKind.i64 0)))] σ
  ))
  ) kp) kp)) σ) σ) σ) σ) σ) σ
def keep3 : List (Nat × List Nat) := [(0, [0, 1, 2]), (1, [0, 1, 2, 28]), (2, [6]), (3, [0, 1, 2, 7, 8]), (3012, [1, 2, 7, 8]), (4, [0, 1, 2, 7, 8, 9]), (5, [0, 1, 2, 7, 8, 9, 35]), (7, [0, 1, 2, 7, 8, 9]), (8, [0, 1, 2, 7, 8, 9]), (9, [0, 1, 2, 7, 8, 9]), (10, [0, 1, 2, 7, 8, 9]), (6, [0, 1, 2, 7, 8, 9]), (1005, [0, 1, 2, 7, 8, 9]), (3017, [1, 2, 7, 8]), (11, [1, 2, 7, 8, 10]), (12, [1, 2, 7, 8, 10, 49]), (14, [1, 2, 7, 8, 10, 64]), (15, [6]), (13, [1, 2, 7, 8, 10]), (1012, [1, 2, 7, 8, 10]), (16, [1, 2, 7, 8, 11]), (3023, [2, 7, 8]), (17, [1, 2, 7, 8, 11, 12]), (18, [1, 2, 7, 8, 11, 12, 70]), (20, [1, 2, 7, 8, 11, 12]), (2020, [0, 1, 2, 3, 4, 5, 6]), (21, [1, 2, 7, 8, 11, 12]), (2021, [0, 1, 2, 3, 4, 5, 6, 7, 8, 9, 10]), (19, [1, 2, 7, 8, 11, 12]), (1018, [1, 2, 7, 8, 11, 12]), (22, [2, 8, 13, 14]), (23, [13, 14, 15, 16]), (24, [6])]
noncomputable def body3 : Code := (Go.Proofs.Tryz.f3).body.getD .skip
theorem F3_eq (t0 t1 t2 : AV) (σ : AHeap) (k kp : AV → AHeap → Prop) : aw Go.Proofs.Tryz.prog (keepOf keep3) body3 (retK Go.Proofs.Tryz.prog (Go.Proofs.Tryz.f3).results.toList k kp) (frameOf 0 [t0, t1, t2]) σ = F3 t0 t1 t2 σ k kp := by kernel_rfl
theorem F3_ev {t0 t1 t2 : AV} {σ : AHeap} {k kp : AV → AHeap → Prop} (h : F3 t0 t1 t2 σ k kp) : Ev Go.Proofs.Tryz.prog 3 [t0, t1, t2] σ k kp :=
  Ev_of_aw mixed Go.Proofs.Tryz.func3 (show (Go.Proofs.Tryz.f3).body = some body3 by kernel_rfl) (by kernel_rfl) (args := [t0, t1, t2]) (of_decide_eq_true (by kernel_rfl)) (keepOf keep3) (by kernel_rfl) (by rw [F3_eq]; exact h)

/-- enclave/enclavelaw16.BasisComes -/
def F4 (t0 t1 : AV) (σ : AHeap) (k kp : AV → AHeap → Prop) : Prop :=
  stepK (pureR σ (aLenK .slice t0 σ)) fun t19 σ =>
  stepK (pureR σ (aBin .gtr .prim t19 (.val (Go.Value.int Go.IntKind.i64 60)))) fun t20 σ =>
  gK t20 false (fun K => K t1 σ) (fun t22 σ =>
  gK t20 false (fun K => stepK (pureR σ (aLenK .slice t22 σ)) K) (fun t23 σ =>
  gK t20 false (fun K => stepK (pureR σ (aBin .gtr .prim t23 (.val (Go.Value.int Go.IntKind.i64 20)))) K) (fun t24 σ =>
  stepK (pureR σ (aPick t20 (.val (Go.Value.bool Bool.true)) t24)) fun t25 σ =>
  condK t25 (
  Ev Go.Proofs.Tryz.prog 8 [] σ (fun t26 σ =>
  k t26 σ
  ) kp) (
  Ev Go.Proofs.Tryz.prog 9 [] σ (fun t27 σ =>
  stepK (pureR σ (aBuild [.val (.int .i64 0), .val (.int .i64 0), .val (.slice none 0 0), .val (.slice none 0 0), .val (.slice none 0 0)] [])) fun t28 σ =>
  stepK (aAlloc [.val (.int .i64 0), .val (.int .i64 0), .val (.slice none 0 0), .val (.slice none 0 0), .val (.slice none 0 0)] σ) fun t6 σ =>
  stepK (unitR (aStore 5 t6 t28 σ)) fun _ σ =>
  seqW (fun fr σ => (
  Ev Go.Proofs.Tryz.prog 14 [(Abs.look fr 5), (Abs.look fr 1)] σ (fun t55 σ =>
  stepK (pureR σ (aExtract 0 t55)) fun t56 σ =>
  stepK (pureR σ (aExtract 1 t55)) fun t57 σ =>
  seqW (fun fr σ => (
  Ev Go.Proofs.Tryz.prog 8 [] σ (fun t128 σ =>
  k t128 σ
  ) kp)) (fun j2 => (
  loopW (fun fr σ again => (
  stepK (pureR σ (aLenK .slice (Abs.look fr 11) σ)) fun t60 σ =>
  stepK (pureR σ (aBin .lss .prim (Abs.look fr 12) t60)) fun t61 σ =>
  condK t61 (
  seqW (fun fr σ => (
  stepK (pureR σ (aBin .add .prim (Abs.look fr 12) (.val (Go.Value.int Go.IntKind.i64 1)))) fun t63 σ =>
  again [(5, (Abs.look fr 5)), (10, (Abs.look fr 10)), (11, (Abs.look fr 11)), (12, t63)] σ
  )) (fun j3 => (
  stepK (pureR σ (aIndexAddr 1 (Abs.look fr 11) (Abs.look fr 12) σ)) fun t68 σ =>
  stepK (pureR σ (aLoad false 1 t68 σ)) fun t69 σ =>
  stepK (aBuildSlice 1 1 [.val (.int .i64 0)] [(0, t69)] σ) fun t70 σ =>
  Ev Go.Proofs.Tryz.prog 14 [(Abs.look fr 5), t70] σ (fun t71 σ =>
  stepK (pureR σ (aExtract 0 t71)) fun t72 σ =>
  stepK (pureR σ (aExtract 1 t71)) fun t73 σ =>
  stepK (pureR σ (aIndexAddr 1 (Abs.look fr 11) (Abs.look fr 12) σ)) fun t78 σ =>
  stepK (pureR σ (aLoad false 1 t78 σ)) fun t79 σ =>
  Ev Go.Proofs.Tryz.prog 17 [(Abs.look fr 5), t79] σ (fun t80 σ =>
  stepK (pureR σ (aExtract 0 t80)) fun t81 σ =>
  stepK (pureR σ (aExtract 1 t80)) fun t82 σ =>
  stepK (pureR σ (aIndexAddr 1 (Abs.look fr 11) (Abs.look fr 12) σ)) fun t86 σ =>
  stepK (pureR σ (aLoad false 1 t86 σ)) fun t87 σ =>
  stepK (pureR σ (aIndexAddr 1 (Abs.look fr 11) (Abs.look fr 12) σ)) fun t91 σ =>
  stepK (pureR σ (aLoad false 1 t91 σ)) fun t92 σ =>
  Ev Go.Proofs.Tryz.prog 18 [(Abs.look fr 5), t87] σ (fun t88 σ =>
  (stepK (pureR σ (aIndexAddr 1 (Abs.look fr 11) (Abs.look fr 12) σ)) (fun y θ => y = t91 ∧ θ = σ)) ∧ (
  (stepK (pureR σ (aLoad false 1 t91 σ)) (fun y θ => y = t92 ∧ θ = σ)) ∧ (
  stepK (pureR σ (aBin .neq .prim t88 t92)) fun t93 σ =>
  gK t93 false (fun K => K t72 σ) (fun t95 σ =>
  gK t93 false (fun K => K (Abs.look fr 10) σ) (fun t96 σ =>
  gK t93 false (fun K => Ev Go.Proofs.Tryz.prog 19 [t95, t96] σ K kp) (fun t97 σ =>
  gK t93 false (fun K => stepK (pureR σ (aNot t97)) K) (fun t98 σ =>
  stepK (pureR σ (aPick t93 (.val (Go.Value.bool Bool.true)) t98)) fun t99 σ =>
  gK t99 false (fun K => K t81 σ) (fun t101 σ =>
  gK t99 false (fun K => K t72 σ) (fun t102 σ =>
  gK t99 false (fun K => Ev Go.Proofs.Tryz.prog 19 [t101, t102] σ K kp) (fun t103 σ =>
  gK t99 false (fun K => stepK (pureR σ (aNot t103)) K) (fun t104 σ =>
  stepK (pureR σ (aPick t99 (.val (Go.Value.bool Bool.true)) t104)) fun t105 σ =>
  gK t105 false (fun K => K t73 σ) (fun t107 σ =>
  gK t105 false (fun K => K (Abs.look fr 11) σ) (fun t108 σ =>
  gK t105 false (fun K => K (Abs.look fr 12) σ) (fun t109 σ =>
  gK t105 false (fun K => stepK (pureR σ (aIndexAddr 1 t108 t109 σ)) K) (fun t110 σ =>
  gK t105 false (fun K => stepK (pureR σ (aLoad false 1 t110 σ)) K) (fun t111 σ =>
  gK t105 false (fun K => Ev Go.Proofs.Tryz.prog 20 [t107, t111] σ K kp) (fun t112 σ =>
  gK t105 false (fun K => stepK (pureR σ (aNot t112)) K) (fun t113 σ =>
  stepK (pureR σ (aPick t105 (.val (Go.Value.bool Bool.true)) t113)) fun t114 σ =>
  condK t114 (
  k (.val (Go.Value.bool Bool.false)) σ
  ) (
  loopW (fun fr σ again => (
  stepK (pureR σ (aLenK .slice (Abs.look fr 14) σ)) fun t117 σ =>
  stepK (pureR σ (aBin .lss .prim (Abs.look fr 17) t117)) fun t118 σ =>
  condK t118 (
  stepK (pureR σ (aIndexAddr 1 (Abs.look fr 14) (Abs.look fr 17) σ)) fun t124 σ =>
  stepK (pureR σ (aLoad false 1 t124 σ)) fun t125 σ =>
  Ev Go.Proofs.Tryz.prog 20 [(Abs.look fr 11), t125] σ (fun t126 σ =>
  stepK (pureR σ (aNot t126)) fun t127 σ =>
  condK t127 (
  k (.val (Go.Value.bool Bool.false)) σ
  ) (
  stepK (pureR σ (aBin .add .prim (Abs.look fr 17) (.val (Go.Value.int Go.IntKind.i64 1)))) fun t120 σ =>
  again [(5, (Abs.look fr 5)), (10, (Abs.look fr 10)), (11, (Abs.look fr 11)), (12, (Abs.look fr 12)), (14, (Abs.look fr 14)), (17, t120)] σ
  )
  ) kp) (
  j3 [(5, (Abs.look fr 5)), (10, (Abs.look fr 10)), (11, (Abs.look fr 11)), (12, (Abs.look fr 12))] σ
  )
  )) [(5, (Abs.look fr 5)), (10, (Abs.look fr 10)), (11, (Abs.look fr 11)), (12, (Abs.look fr 12)), (14, t73), (17, (.val (Go.Value.int Go.IntKind.i64 0)))] σ
  )
  ) σ) σ) σ) σ) σ) σ) σ) σ) σ) σ) σ) σ) σ) σ) σ))) kp) kp) kp))
  ) (
  j2 [(0, .any)] σ
  )
  )) [(5, (Abs.look fr 5)), (10, t56), (11, t57), (12, (.val (Go.Value.int Go.IntKind.i64 0)))] σ
  ))
  ) kp)) (fun j1 => (
  loopW (fun fr σ again => (
  stepK (pureR σ (aLenK .slice (Abs.look fr 0) σ)) fun t31 σ =>
  stepK (pureR σ (aBin .lss .prim (Abs.look fr 7) t31)) fun t32 σ =>
  condK t32 (
  stepK (pureR σ (aIndexAddr 4 (Abs.look fr 0) (Abs.look fr 7) σ)) fun t37 σ =>
  stepK (pureR σ (aLoad true 4 t37 σ)) fun t38 σ =>
  Ev Go.Proofs.Tryz.prog 12 [t38] σ (fun t39 σ =>
  condK t39 (
  Ev Go.Proofs.Tryz.prog 8 [] σ (fun t40 σ =>
  k t40 σ
  ) kp) (
  seqW (fun fr σ => (
  stepK (pureR σ (aLoad true 5 (Abs.look fr 9) σ)) fun t51 σ =>
  stepK (unitR (aStore 5 (Abs.look fr 6) t51 σ)) fun _ σ =>
  stepK (pureR σ (aBin .add .prim (Abs.look fr 7) (.val (Go.Value.int Go.IntKind.i64 1)))) fun t34 σ =>
  again [(0, (Abs.look fr 0)), (1, (Abs.look fr 1)), (5, (Abs.look fr 5)), (6, (Abs.look fr 6)), (7, t34)] σ
  )) (fun j4 => (
  (
  stepK (pureR σ (aLoad true 5 (Abs.look fr 6) σ)) fun t43 σ =>
  stepK (pureR σ (aIndexAddr 4 (Abs.look fr 0) (Abs.look fr 7) σ)) fun t46 σ =>
  stepK (pureR σ (aLoad true 4 t46 σ)) fun t47 σ =>
  Ev Go.Proofs.Tryz.prog 13 [(Abs.look fr 5), t43, t47] σ (fun t48 σ =>
  stepK (pureR σ (aExtract 0 t48)) fun t49 σ =>
  stepK (pureR σ (aExtract 1 t48)) fun t50 σ =>
  stepK (aAlloc [.val (.int .i64 0), .val (.int .i64 0), .val (.slice none 0 0), .val (.slice none 0 0), .val (.slice none 0 0)] σ) fun t9 σ =>
  (stepK (pureR σ (aLoad true 5 (Abs.look fr 6) σ)) (fun y θ => y = t43 ∧ θ = σ)) ∧ (
  (stepK (pureR σ (aIndexAddr 4 (Abs.look fr 0) (Abs.look fr 7) σ)) (fun y θ => y = t46 ∧ θ = σ)) ∧ (
  (stepK (pureR σ (aLoad true 4 t46 σ)) (fun y θ => y = t47 ∧ θ = σ)) ∧ (
  stepK (unitR (aStore 5 t9 t50 σ)) fun _ σ =>
  j4 [(0, (Abs.look fr 0)), (1, (Abs.look fr 1)), (5, (Abs.look fr 5)), (6, (Abs.look fr 6)), (7, (Abs.look fr 7)), (9, t9)] σ
  )))) kp) ∧ (
  stepK (pureR σ (aLoad true 5 (Abs.look fr 6) σ)) fun t43 σ =>
  stepK (pureR σ (aIndexAddr 4 (Abs.look fr 0) (Abs.look fr 7) σ)) fun t46 σ =>
  stepK (pureR σ (aLoad true 4 t46 σ)) fun t47 σ =>
  stepK (aAlloc [.val (.int .i64 0), .val (.int .i64 0), .val (.slice none 0 0), .val (.slice none 0 0), .val (.slice none 0 0)] σ) fun t9 σ =>
  (stepK (pureR σ (aLoad true 5 (Abs.look fr 6) σ)) (fun y θ => y = t43 ∧ θ = σ)) ∧ (
  (stepK (pureR σ (aIndexAddr 4 (Abs.look fr 0) (Abs.look fr 7) σ)) (fun y θ => y = t46 ∧ θ = σ)) ∧ (
  (stepK (pureR σ (aLoad true 4 t46 σ)) (fun y θ => y = t47 ∧ θ = σ)) ∧ (
  Ev Go.Proofs.Tryz.prog 13 [(Abs.look fr 5), t43, t47] σ (fun t48 σ =>
  stepK (pureR σ (aExtract 0 t48)) fun t49 σ =>
  stepK (pureR σ (aExtract 1 t48)) fun t50 σ =>
  stepK (unitR (aStore 5 t9 t50 σ)) fun _ σ =>
  j4 [(0, (Abs.look fr 0)), (1, (Abs.look fr 1)), (5, (Abs.look fr 5)), (6, (Abs.look fr 6)), (7, (Abs.look fr 7)), (9, t9)] σ
  ) kp))))))
  )
  ) kp) (
  j1 [(1, (Abs.look fr 1)), (5, (Abs.look fr 5))] σ
  )
  )) [(0, t0), (1, t1), (5, t27), (6, t6), (7, (.val (Go.Value.int Go.IntKind.i64 0)))] σ
  ))
  ) kp)) σ) σ) σ
def keep4 : List (Nat × List Nat) := [(0, [0, 1]), (1, [0, 1, 25]), (2, [4]), (3, [0, 1, 5, 6]), (3012, [1, 5]), (4, [0, 1, 5, 6, 7]), (5, [0, 1, 5, 6, 7, 32]), (7, [0, 1, 5, 6, 7, 39]), (8, [4]), (3011, [0, 1, 5, 6, 7, 9]), (9, [0, 1, 5, 6, 7, 9]), (2009, [0, 1, 2, 3, 4, 5, 6, 7, 8, 9, 10, 11, 12]), (109010, [1, 4, 5]), (60009, [1]), (19000009, [0, 1, 2, 3, 4, 5, 10, 6, 7, 8, 9, 11, 12]), (10009010, [1, 4, 5]), (10, [0, 1, 5, 6, 7]), (6, [0, 1, 5, 6, 7]), (1005, [0, 1, 5, 6, 7]), (11, [5, 10, 11]), (3025, [0]), (12, [5, 10, 11, 12]), (13, [5, 10, 11, 12, 61]), (3015, [5, 10, 11, 12]), (15, [5, 10, 11, 12, 13, 14]), (16, [5, 10, 11, 12, 13, 14, 15]), (17, [5, 10, 11, 12, 14, 114]), (2017, [0, 1, 2, 3, 4, 6, 7, 8, 9, 5, 10, 11, 12, 13, 14, 15, 16, 17, 18, 19, 20, 21, 22, 23, 24, 25, 26, 27, 28, 29, 30, 31]), (117005, [8, 9]), (18, [4]), (19, [5, 10, 11, 12, 14, 17]), (20, [5, 10, 11, 12, 14, 17, 118]), (22, [5, 10, 11, 12, 14, 17, 127]), (23, [4]), (21, [5, 10, 11, 12, 14, 17]), (1020, [5, 10, 11, 12, 14, 17]), (14, [5, 10, 11, 12]), (1013, [5, 10, 11, 12]), (24, [4])]
noncomputable def body4 : Code := (Go.Proofs.Tryz.f4).body.getD .skip
theorem F4_eq (t0 t1 : AV) (σ : AHeap) (k kp : AV → AHeap → Prop) : aw Go.Proofs.Tryz.prog (keepOf keep4) body4 (retK Go.Proofs.Tryz.prog (Go.Proofs.Tryz.f4).results.toList k kp) (frameOf 0 [t0, t1]) σ = F4 t0 t1 σ k kp := by kernel_rfl
theorem F4_ev {t0 t1 : AV} {σ : AHeap} {k kp : AV → AHeap → Prop} (h : F4 t0 t1 σ k kp) : Ev Go.Proofs.Tryz.prog 4 [t0, t1] σ k kp :=
  Ev_of_aw mixed Go.Proofs.Tryz.func4 (show (Go.Proofs.Tryz.f4).body = some body4 by kernel_rfl) (by kernel_rfl) (args := [t0, t1]) (of_decide_eq_true (by kernel_rfl)) (keepOf keep4) (by kernel_rfl) (by rw [F4_eq]; exact h)

/-- enclave/enclavelaw16.BasisPlays -/
def F5 (t0 t1 t2 t3 : AV) (σ : AHeap) (k kp : AV → AHeap → Prop) : Prop :=
  stepK (pureR σ (aLenK .slice t0 σ)) fun t15 σ =>
  stepK (pureR σ (aBin .gtr .prim t15 (.val (Go.Value.int Go.IntKind.i64 60)))) fun t16 σ =>
  gK t16 false (fun K => K t3 σ) (fun t18 σ =>
  gK t16 false (fun K => stepK (pureR σ (aLenK .slice t18 σ)) K) (fun t19 σ =>
  gK t16 false (fun K => stepK (pureR σ (aBin .gtr .prim t19 (.val (Go.Value.int Go.IntKind.i64 20)))) K) (fun t20 σ =>
  stepK (pureR σ (aPick t16 (.val (Go.Value.bool Bool.true)) t20)) fun t21 σ =>
  condK t21 (
  Ev Go.Proofs.Tryz.prog 8 [] σ (fun t22 σ =>
  k t22 σ
  ) kp) (
  Ev Go.Proofs.Tryz.prog 9 [] σ (fun t23 σ =>
  stepK (pureR σ (aBuild [.val (.int .i64 0), .val (.int .i64 0), .val (.slice none 0 0), .val (.slice none 0 0), .val (.slice none 0 0)] [])) fun t24 σ =>
  stepK (aAlloc [.val (.int .i64 0), .val (.int .i64 0), .val (.slice none 0 0), .val (.slice none 0 0), .val (.slice none 0 0)] σ) fun t10 σ =>
  stepK (unitR (aStore 5 t10 t24 σ)) fun _ σ =>
  seqW (fun fr σ => (
  stepK (pureR σ (aLoad true 5 (Abs.look fr 10) σ)) fun t65 σ =>
  Ev Go.Proofs.Tryz.prog 21 [(Abs.look fr 9), t65, (Abs.look fr 1), (Abs.look fr 2), (Abs.look fr 3)] σ (fun t69 σ =>
  gK t69 true (fun K => Ev Go.Proofs.Tryz.prog 8 [] σ K kp) (fun t71 σ =>
  stepK (pureR σ (aPick t69 t71 (.val (Go.Value.bool Bool.false)))) fun t72 σ =>
  k t72 σ
  ) σ) kp)) (fun j1 => (
  loopW (fun fr σ again => (
  stepK (pureR σ (aLenK .slice (Abs.look fr 0) σ)) fun t27 σ =>
  stepK (pureR σ (aBin .lss .prim (Abs.look fr 11) t27)) fun t28 σ =>
  condK t28 (
  stepK (pureR σ (aIndexAddr 4 (Abs.look fr 0) (Abs.look fr 11) σ)) fun t33 σ =>
  stepK (pureR σ (aLoad true 4 t33 σ)) fun t34 σ =>
  Ev Go.Proofs.Tryz.prog 12 [t34] σ (fun t35 σ =>
  condK t35 (
  Ev Go.Proofs.Tryz.prog 8 [] σ (fun t36 σ =>
  k t36 σ
  ) kp) (
  seqW (fun fr σ => (
  stepK (pureR σ (aLoad true 5 (Abs.look fr 13) σ)) fun t47 σ =>
  stepK (unitR (aStore 5 (Abs.look fr 10) t47 σ)) fun _ σ =>
  stepK (pureR σ (aNot (Abs.look fr 12))) fun t49 σ =>
  gK t49 false (fun K => K (Abs.look fr 11) σ) (fun t51 σ =>
  gK t49 false (fun K => stepK (pureR σ (aBin .rem .prim t51 (.val (Go.Value.int Go.IntKind.i64 4)))) K) (fun t52 σ =>
  gK t49 false (fun K => stepK (pureR σ (aBin .eql .prim t52 (.val (Go.Value.int Go.IntKind.i64 0)))) K) (fun t53 σ =>
  gK t49 false (fun K => K t53 σ) (fun t54 σ =>
  gK t54 true (fun K => K (Abs.look fr 9) σ) (fun t55 σ =>
  gK t54 true (fun K => stepK (pureR σ (aLoad true 5 (Abs.look fr 10) σ)) K) (fun t56 σ =>
  gK t54 true (fun K => K (Abs.look fr 1) σ) (fun t57 σ =>
  gK t54 true (fun K => K (Abs.look fr 2) σ) (fun t58 σ =>
  gK t54 true (fun K => K (Abs.look fr 3) σ) (fun t59 σ =>
  gK t54 true (fun K => Ev Go.Proofs.Tryz.prog 21 [t55, t56, t57, t58, t59] σ K kp) (fun t60 σ =>
  gK t54 true (fun K => stepK (pureR σ (aNot t60)) K) (fun t61 σ =>
  gK t49 false (fun K => stepK (pureR σ (aPick t54 t61 (.val (Go.Value.bool Bool.false)))) K) (fun t62 σ =>
  stepK (pureR σ (aPick t49 (.val (Go.Value.bool Bool.true)) t62)) fun t63 σ =>
  condK t63 (
  k (.val (Go.Value.bool Bool.false)) σ
  ) (
  stepK (pureR σ (aBin .add .prim (Abs.look fr 11) (.val (Go.Value.int Go.IntKind.i64 1)))) fun t30 σ =>
  again [(0, (Abs.look fr 0)), (1, (Abs.look fr 1)), (2, (Abs.look fr 2)), (3, (Abs.look fr 3)), (9, (Abs.look fr 9)), (10, (Abs.look fr 10)), (11, t30)] σ
  )
  ) σ) σ) σ) σ) σ) σ) σ) σ) σ) σ) σ) σ)) (fun j2 => (
  (
  stepK (pureR σ (aLoad true 5 (Abs.look fr 10) σ)) fun t39 σ =>
  stepK (pureR σ (aIndexAddr 4 (Abs.look fr 0) (Abs.look fr 11) σ)) fun t42 σ =>
  stepK (pureR σ (aLoad true 4 t42 σ)) fun t43 σ =>
  Ev Go.Proofs.Tryz.prog 13 [(Abs.look fr 9), t39, t43] σ (fun t44 σ =>
  stepK (pureR σ (aExtract 0 t44)) fun t45 σ =>
  stepK (pureR σ (aExtract 1 t44)) fun t46 σ =>
  stepK (aAlloc [.val (.int .i64 0), .val (.int .i64 0), .val (.slice none 0 0), .val (.slice none 0 0), .val (.slice none 0 0)] σ) fun t13 σ =>
  (stepK (pureR σ (aLoad true 5 (Abs.look fr 10) σ)) (fun y θ => y = t39 ∧ θ = σ)) ∧ (
  (stepK (pureR σ (aIndexAddr 4 (Abs.look fr 0) (Abs.look fr 11) σ)) (fun y θ => y = t42 ∧ θ = σ)) ∧ (
  (stepK (pureR σ (aLoad true 4 t42 σ)) (fun y θ => y = t43 ∧ θ = σ)) ∧ (
  stepK (unitR (aStore 5 t13 t46 σ)) fun _ σ =>
  j2 [(0, (Abs.look fr 0)), (1, (Abs.look fr 1)), (2, (Abs.look fr 2)), (3, (Abs.look fr 3)), (9, (Abs.look fr 9)), (10, (Abs.look fr 10)), (11, (Abs.look fr 11)), (12, t45), (13, t13)] σ
  )))) kp) ∧ (
  stepK (pureR σ (aLoad true 5 (Abs.look fr 10) σ)) fun t39 σ =>
  stepK (pureR σ (aIndexAddr 4 (Abs.look fr 0) (Abs.look fr 11) σ)) fun t42 σ =>
  stepK (pureR σ (aLoad true 4 t42 σ)) fun t43 σ =>
  stepK (aAlloc [.val (.int .i64 0), .val (.int .i64 0), .val (.slice none 0 0), .val (.slice none 0 0), .val (.slice none 0 0)] σ) fun t13 σ =>
  (stepK (pureR σ (aLoad true 5 (Abs.look fr 10) σ)) (fun y θ => y = t39 ∧ θ = σ)) ∧ (
  (stepK (pureR σ (aIndexAddr 4 (Abs.look fr 0) (Abs.look fr 11) σ)) (fun y θ => y = t42 ∧ θ = σ)) ∧ (
  (stepK (pureR σ (aLoad true 4 t42 σ)) (fun y θ => y = t43 ∧ θ = σ)) ∧ (
  Ev Go.Proofs.Tryz.prog 13 [(Abs.look fr 9), t39, t43] σ (fun t44 σ =>
  stepK (pureR σ (aExtract 0 t44)) fun t45 σ =>
  stepK (pureR σ (aExtract 1 t44)) fun t46 σ =>
  stepK (unitR (aStore 5 t13 t46 σ)) fun _ σ =>
  j2 [(0, (Abs.look fr 0)), (1, (Abs.look fr 1)), (2, (Abs.look fr 2)), (3, (Abs.look fr 3)), (9, (Abs.look fr 9)), (10, (Abs.look fr 10)), (11, (Abs.look fr 11)), (12, t45), (13, t13)] σ
  ) kp))))))
  )
  ) kp) (
  j1 [(1, (Abs.look fr 1)), (2, (Abs.look fr 2)), (3, (Abs.look fr 3)), (9, (Abs.look fr 9)), (10, (Abs.look fr 10))] σ
  )
  )) [(0, t0), (1, t1), (2, t2), (3, t3), (9, t23), (10, t10), (11, (.val (Go.Value.int Go.IntKind.i64 0)))] σ
  ))
  ) kp)) σ) σ) σ
def keep5 : List (Nat × List Nat) := [(0, [0, 1, 2, 3]), (1, [0, 1, 2, 3, 21]), (2, [8]), (3, [0, 1, 2, 3, 9, 10]), (3014, [1, 2, 3, 9, 10]), (4, [0, 1, 2, 3, 9, 10, 11]), (5, [0, 1, 2, 3, 9, 10, 11, 28]), (7, [0, 1, 2, 3, 9, 10, 11, 35]), (8, [8]), (3011, [0, 1, 2, 3, 9, 10, 11, 12, 13]), (9, [0, 1, 2, 3, 9, 10, 11, 12, 13]), (2009, [0, 1, 2, 3, 4, 5, 6, 7, 8, 9, 10, 11, 12]), (109010, [1, 4, 5]), (60009, [1]), (19000009, [0, 1, 2, 3, 4, 5, 10, 6, 7, 8, 9, 11, 12]), (10009010, [1, 4, 5]), (10, [0, 1, 2, 3, 9, 10, 11, 12]), (11, [0, 1, 2, 3, 9, 10, 11, 63]), (12, [8]), (6, [0, 1, 2, 3, 9, 10, 11]), (1005, [0, 1, 2, 3, 9, 10, 11]), (13, [8])]
noncomputable def body5 : Code := (Go.Proofs.Tryz.f5).body.getD .skip
theorem F5_eq (t0 t1 t2 t3 : AV) (σ : AHeap) (k kp : AV → AHeap → Prop) : aw Go.Proofs.Tryz.prog (keepOf keep5) body5 (retK Go.Proofs.Tryz.prog (Go.Proofs.Tryz.f5).results.toList k kp) (frameOf 0 [t0, t1, t2, t3]) σ = F5 t0 t1 t2 t3 σ k kp := by kernel_rfl
theorem F5_ev {t0 t1 t2 t3 : AV} {σ : AHeap} {k kp : AV → AHeap → Prop} (h : F5 t0 t1 t2 t3 σ k kp) : Ev Go.Proofs.Tryz.prog 5 [t0, t1, t2, t3] σ k kp :=
  Ev_of_aw mixed Go.Proofs.Tryz.func5 (show (Go.Proofs.Tryz.f5).body = some body5 by kernel_rfl) (by kernel_rfl) (args := [t0, t1, t2, t3]) (of_decide_eq_true (by kernel_rfl)) (keepOf keep5) (by kernel_rfl) (by rw [F5_eq]; exact h)

/-- enclave/enclavelaw16.BasisCopies -/
def F6 (t0 t1 t2 t3 : AV) (σ : AHeap) (k kp : AV → AHeap → Prop) : Prop :=
  stepK (pureR σ (aLenK .slice t0 σ)) fun t23 σ =>
  stepK (pureR σ (aBin .gtr .prim t23 (.val (Go.Value.int Go.IntKind.i64 40)))) fun t24 σ =>
  gK t24 false (fun K => K t1 σ) (fun t26 σ =>
  gK t24 false (fun K => stepK (pureR σ (aLenK .slice t26 σ)) K) (fun t27 σ =>
  gK t24 false (fun K => stepK (pureR σ (aBin .gtr .prim t27 (.val (Go.Value.int Go.IntKind.i64 40)))) K) (fun t28 σ =>
  stepK (pureR σ (aPick t24 (.val (Go.Value.bool Bool.true)) t28)) fun t29 σ =>
  gK t29 false (fun K => K t2 σ) (fun t31 σ =>
  gK t29 false (fun K => stepK (pureR σ (aLenK .slice t31 σ)) K) (fun t32 σ =>
  gK t29 false (fun K => stepK (pureR σ (aBin .gtr .prim t32 (.val (Go.Value.int Go.IntKind.i64 40)))) K) (fun t33 σ =>
  stepK (pureR σ (aPick t29 (.val (Go.Value.bool Bool.true)) t33)) fun t34 σ =>
  condK t34 (
  Ev Go.Proofs.Tryz.prog 8 [] σ (fun t35 σ =>
  k t35 σ
  ) kp) (
  Ev Go.Proofs.Tryz.prog 9 [] σ (fun t36 σ =>
  stepK (pureR σ (aBuild [.val (.int .i64 0), .val (.int .i64 0), .val (.slice none 0 0), .val (.slice none 0 0), .val (.slice none 0 0)] [])) fun t37 σ =>
  stepK (aAlloc [.val (.int .i64 0), .val (.int .i64 0), .val (.slice none 0 0), .val (.slice none 0 0), .val (.slice none 0 0)] σ) fun t10 σ =>
  stepK (unitR (aStore 5 t10 t37 σ)) fun _ σ =>
  seqW (fun fr σ => (
  seqW (fun fr σ => (
  seqW (fun fr σ => (
  seqW (fun fr σ => (
  stepK (pureR σ (aLoad true 5 (Abs.look fr 10) σ)) fun t111 σ =>
  stepK (aBuildSlice 2 1 [.val (.int .i64 0)] [(0, (Abs.look fr 3)), (1, (.val (Go.Value.int Go.IntKind.i64 0)))] σ) fun t115 σ =>
  Ev Go.Proofs.Tryz.prog 21 [(Abs.look fr 9), t111, (Abs.look fr 3), (Abs.look fr 3), t115] σ (fun t116 σ =>
  gK t116 true (fun K => K (Abs.look fr 14) σ) (fun t118 σ =>
  gK t116 true (fun K => stepK (pureR σ (aLoad true 5 (Abs.look fr 15) σ)) K) (fun t119 σ =>
  gK t116 true (fun K => K (Abs.look fr 3) σ) (fun t120 σ =>
  gK t116 true (fun K => K (Abs.look fr 3) σ) (fun t121 σ =>
  gK t116 true (fun K => K (Abs.look fr 3) σ) (fun t122 σ =>
  gK t116 true (fun K => stepK (aBuildSlice 2 1 [.val (.int .i64 0)] [(0, t122), (1, (.val (Go.Value.int Go.IntKind.i64 0)))] σ) K) (fun t123 σ =>
  gK t116 true (fun K => Ev Go.Proofs.Tryz.prog 21 [t118, t119, t120, t121, t123] σ K kp) (fun t124 σ =>
  stepK (pureR σ (aPick t116 t124 (.val (Go.Value.bool Bool.false)))) fun t125 σ =>
  gK t125 true (fun K => Ev Go.Proofs.Tryz.prog 8 [] σ K kp) (fun t127 σ =>
  stepK (pureR σ (aPick t125 t127 (.val (Go.Value.bool Bool.false)))) fun t128 σ =>
  k t128 σ
  ) σ) σ) σ) σ) σ) σ) σ) σ) kp)) (fun j4 => (
  loopW (fun fr σ again => (
  stepK (pureR σ (aLenK .slice (Abs.look fr 2) σ)) fun t89 σ =>
  stepK (pureR σ (aBin .lss .prim (Abs.look fr 19) t89)) fun t90 σ =>
  condK t90 (
  stepK (pureR σ (aIndexAddr 4 (Abs.look fr 2) (Abs.look fr 19) σ)) fun t95 σ =>
  stepK (pureR σ (aLoad true 4 t95 σ)) fun t96 σ =>
  Ev Go.Proofs.Tryz.prog 12 [t96] σ (fun t97 σ =>
  condK t97 (
  Ev Go.Proofs.Tryz.prog 8 [] σ (fun t98 σ =>
  k t98 σ
  ) kp) (
  seqW (fun fr σ => (
  stepK (pureR σ (aLoad true 5 (Abs.look fr 21) σ)) fun t109 σ =>
  stepK (unitR (aStore 5 (Abs.look fr 15) t109 σ)) fun _ σ =>
  stepK (pureR σ (aBin .add .prim (Abs.look fr 19) (.val (Go.Value.int Go.IntKind.i64 1)))) fun t92 σ =>
  again [(2, (Abs.look fr 2)), (3, (Abs.look fr 3)), (9, (Abs.look fr 9)), (10, (Abs.look fr 10)), (14, (Abs.look fr 14)), (15, (Abs.look fr 15)), (19, t92)] σ
  )) (fun j5 => (
  (
  stepK (pureR σ (aLoad true 5 (Abs.look fr 15) σ)) fun t101 σ =>
  stepK (pureR σ (aIndexAddr 4 (Abs.look fr 2) (Abs.look fr 19) σ)) fun t104 σ =>
  stepK (pureR σ (aLoad true 4 t104 σ)) fun t105 σ =>
  Ev Go.Proofs.Tryz.prog 13 [(Abs.look fr 14), t101, t105] σ (fun t106 σ =>
  stepK (pureR σ (aExtract 0 t106)) fun t107 σ =>
  stepK (pureR σ (aExtract 1 t106)) fun t108 σ =>
  stepK (aAlloc [.val (.int .i64 0), .val (.int .i64 0), .val (.slice none 0 0), .val (.slice none 0 0), .val (.slice none 0 0)] σ) fun t21 σ =>
  (stepK (pureR σ (aLoad true 5 (Abs.look fr 15) σ)) (fun y θ => y = t101 ∧ θ = σ)) ∧ (
  (stepK (pureR σ (aIndexAddr 4 (Abs.look fr 2) (Abs.look fr 19) σ)) (fun y θ => y = t104 ∧ θ = σ)) ∧ (
  (stepK (pureR σ (aLoad true 4 t104 σ)) (fun y θ => y = t105 ∧ θ = σ)) ∧ (
  stepK (unitR (aStore 5 t21 t108 σ)) fun _ σ =>
  j5 [(2, (Abs.look fr 2)), (3, (Abs.look fr 3)), (9, (Abs.look fr 9)), (10, (Abs.look fr 10)), (14, (Abs.look fr 14)), (15, (Abs.look fr 15)), (19, (Abs.look fr 19)), (21, t21)] σ
  )))) kp) ∧ (
  stepK (pureR σ (aLoad true 5 (Abs.look fr 15) σ)) fun t101 σ =>
  stepK (pureR σ (aIndexAddr 4 (Abs.look fr 2) (Abs.look fr 19) σ)) fun t104 σ =>
  stepK (pureR σ (aLoad true 4 t104 σ)) fun t105 σ =>
  stepK (aAlloc [.val (.int .i64 0), .val (.int .i64 0), .val (.slice none 0 0), .val (.slice none 0 0), .val (.slice none 0 0)] σ) fun t21 σ =>
  (stepK (pureR σ (aLoad true 5 (Abs.look fr 15) σ)) (fun y θ => y = t101 ∧ θ = σ)) ∧ (
  (stepK (pureR σ (aIndexAddr 4 (Abs.look fr 2) (Abs.look fr 19) σ)) (fun y θ => y = t104 ∧ θ = σ)) ∧ (
  (stepK (pureR σ (aLoad true 4 t104 σ)) (fun y θ => y = t105 ∧ θ = σ)) ∧ (
  Ev Go.Proofs.Tryz.prog 13 [(Abs.look fr 14), t101, t105] σ (fun t106 σ =>
  stepK (pureR σ (aExtract 0 t106)) fun t107 σ =>
  stepK (pureR σ (aExtract 1 t106)) fun t108 σ =>
  stepK (unitR (aStore 5 t21 t108 σ)) fun _ σ =>
  j5 [(2, (Abs.look fr 2)), (3, (Abs.look fr 3)), (9, (Abs.look fr 9)), (10, (Abs.look fr 10)), (14, (Abs.look fr 14)), (15, (Abs.look fr 15)), (19, (Abs.look fr 19)), (21, t21)] σ
  ) kp))))))
  )
  ) kp) (
  j4 [(3, (Abs.look fr 3)), (9, (Abs.look fr 9)), (10, (Abs.look fr 10)), (14, (Abs.look fr 14)), (15, (Abs.look fr 15))] σ
  )
  )) [(2, (Abs.look fr 2)), (3, (Abs.look fr 3)), (9, (Abs.look fr 9)), (10, (Abs.look fr 10)), (14, (Abs.look fr 14)), (15, (Abs.look fr 15)), (19, (.val (Go.Value.int Go.IntKind.i64 0)))] σ
  ))
  )) (fun j3 => (
  loopW (fun fr σ again => (
  stepK (pureR σ (aLenK .slice (Abs.look fr 1) σ)) fun t66 σ =>
  stepK (pureR σ (aBin .lss .prim (Abs.look fr 16) t66)) fun t67 σ =>
  condK t67 (
  stepK (pureR σ (aIndexAddr 4 (Abs.look fr 1) (Abs.look fr 16) σ)) fun t72 σ =>
  stepK (pureR σ (aLoad true 4 t72 σ)) fun t73 σ =>
  Ev Go.Proofs.Tryz.prog 12 [t73] σ (fun t74 σ =>
  condK t74 (
  Ev Go.Proofs.Tryz.prog 8 [] σ (fun t75 σ =>
  k t75 σ
  ) kp) (
  seqW (fun fr σ => (
  stepK (pureR σ (aLoad true 5 (Abs.look fr 18) σ)) fun t86 σ =>
  stepK (unitR (aStore 5 (Abs.look fr 10) t86 σ)) fun _ σ =>
  stepK (pureR σ (aBin .add .prim (Abs.look fr 16) (.val (Go.Value.int Go.IntKind.i64 1)))) fun t69 σ =>
  again [(1, (Abs.look fr 1)), (2, (Abs.look fr 2)), (3, (Abs.look fr 3)), (9, (Abs.look fr 9)), (10, (Abs.look fr 10)), (14, (Abs.look fr 14)), (15, (Abs.look fr 15)), (16, t69)] σ
  )) (fun j6 => (
  (
  stepK (pureR σ (aLoad true 5 (Abs.look fr 10) σ)) fun t78 σ =>
  stepK (pureR σ (aIndexAddr 4 (Abs.look fr 1) (Abs.look fr 16) σ)) fun t81 σ =>
  stepK (pureR σ (aLoad true 4 t81 σ)) fun t82 σ =>
  Ev Go.Proofs.Tryz.prog 13 [(Abs.look fr 9), t78, t82] σ (fun t83 σ =>
  stepK (pureR σ (aExtract 0 t83)) fun t84 σ =>
  stepK (pureR σ (aExtract 1 t83)) fun t85 σ =>
  stepK (aAlloc [.val (.int .i64 0), .val (.int .i64 0), .val (.slice none 0 0), .val (.slice none 0 0), .val (.slice none 0 0)] σ) fun t18 σ =>
  (stepK (pureR σ (aLoad true 5 (Abs.look fr 10) σ)) (fun y θ => y = t78 ∧ θ = σ)) ∧ (
  (stepK (pureR σ (aIndexAddr 4 (Abs.look fr 1) (Abs.look fr 16) σ)) (fun y θ => y = t81 ∧ θ = σ)) ∧ (
  (stepK (pureR σ (aLoad true 4 t81 σ)) (fun y θ => y = t82 ∧ θ = σ)) ∧ (
  stepK (unitR (aStore 5 t18 t85 σ)) fun _ σ =>
  j6 [(1, (Abs.look fr 1)), (2, (Abs.look fr 2)), (3, (Abs.look fr 3)), (9, (Abs.look fr 9)), (10, (Abs.look fr 10)), (14, (Abs.look fr 14)), (15, (Abs.look fr 15)), (16, (Abs.look fr 16)), (18, t18)] σ
  )))) kp) ∧ (
  stepK (pureR σ (aLoad true 5 (Abs.look fr 10) σ)) fun t78 σ =>
  stepK (pureR σ (aIndexAddr 4 (Abs.look fr 1) (Abs.look fr 16) σ)) fun t81 σ =>
  stepK (pureR σ (aLoad true 4 t81 σ)) fun t82 σ =>
  stepK (aAlloc [.val (.int .i64 0), .val (.int .i64 0), .val (.slice none 0 0), .val (.slice none 0 0), .val (.slice none 0 0)] σ) fun t18 σ =>
  (stepK (pureR σ (aLoad true 5 (Abs.look fr 10) σ)) (fun y θ => y = t78 ∧ θ = σ)) ∧ (
  (stepK (pureR σ (aIndexAddr 4 (Abs.look fr 1) (Abs.look fr 16) σ)) (fun y θ => y = t81 ∧ θ = σ)) ∧ (
  (stepK (pureR σ (aLoad true 4 t81 σ)) (fun y θ => y = t82 ∧ θ = σ)) ∧ (
  Ev Go.Proofs.Tryz.prog 13 [(Abs.look fr 9), t78, t82] σ (fun t83 σ =>
  stepK (pureR σ (aExtract 0 t83)) fun t84 σ =>
  stepK (pureR σ (aExtract 1 t83)) fun t85 σ =>
  stepK (unitR (aStore 5 t18 t85 σ)) fun _ σ =>
  j6 [(1, (Abs.look fr 1)), (2, (Abs.look fr 2)), (3, (Abs.look fr 3)), (9, (Abs.look fr 9)), (10, (Abs.look fr 10)), (14, (Abs.look fr 14)), (15, (Abs.look fr 15)), (16, (Abs.look fr 16)), (18, t18)] σ
  ) kp))))))
  )
  ) kp) (
  j3 [(2, (Abs.look fr 2)), (3, (Abs.look fr 3)), (9, (Abs.look fr 9)), (10, (Abs.look fr 10)), (14, (Abs.look fr 14)), (15, (Abs.look fr 15))] σ
  )
  )) [(1, (Abs.look fr 1)), (2, (Abs.look fr 2)), (3, (Abs.look fr 3)), (9, (Abs.look fr 9)), (10, (Abs.look fr 10)), (14, (Abs.look fr 14)), (15, (Abs.look fr 15)), (16, (.val (Go.Value.int Go.IntKind.i64 0)))] σ
  ))
  )) (fun j2 => (
  (
  stepK (pureR σ (aLoad true 5 (Abs.look fr 10) σ)) fun t63 σ =>
  Ev Go.Proofs.Tryz.prog 22 [(Abs.look fr 9)] σ (fun t62 σ =>
  (stepK (pureR σ (aLoad true 5 (Abs.look fr 10) σ)) (fun y θ => y = t63 ∧ θ = σ)) ∧ (
  stepK (aAlloc [.val (.int .i64 0), .val (.int .i64 0), .val (.slice none 0 0), .val (.slice none 0 0), .val (.slice none 0 0)] σ) fun t15 σ =>
  (stepK (pureR σ (aLoad true 5 (Abs.look fr 10) σ)) (fun y θ => y = t63 ∧ θ = σ)) ∧ (
  stepK (unitR (aStore 5 t15 t63 σ)) fun _ σ =>
  j2 [(1, (Abs.look fr 1)), (2, (Abs.look fr 2)), (3, (Abs.look fr 3)), (9, (Abs.look fr 9)), (10, (Abs.look fr 10)), (14, t62), (15, t15)] σ
  ))) kp) ∧ (
  stepK (pureR σ (aLoad true 5 (Abs.look fr 10) σ)) fun t63 σ =>
  stepK (aAlloc [.val (.int .i64 0), .val (.int .i64 0), .val (.slice none 0 0), .val (.slice none 0 0), .val (.slice none 0 0)] σ) fun t15 σ =>
  (stepK (pureR σ (aLoad true 5 (Abs.look fr 10) σ)) (fun y θ => y = t63 ∧ θ = σ)) ∧ (
  Ev Go.Proofs.Tryz.prog 22 [(Abs.look fr 9)] σ (fun t62 σ =>
  (stepK (pureR σ (aLoad true 5 (Abs.look fr 10) σ)) (fun y θ => y = t63 ∧ θ = σ)) ∧ (
  stepK (unitR (aStore 5 t15 t63 σ)) fun _ σ =>
  j2 [(1, (Abs.look fr 1)), (2, (Abs.look fr 2)), (3, (Abs.look fr 3)), (9, (Abs.look fr 9)), (10, (Abs.look fr 10)), (14, t62), (15, t15)] σ
  )) kp))))
  )) (fun j1 => (
  loopW (fun fr σ again => (
  stepK (pureR σ (aLenK .slice (Abs.look fr 0) σ)) fun t40 σ =>
  stepK (pureR σ (aBin .lss .prim (Abs.look fr 11) t40)) fun t41 σ =>
  condK t41 (
  stepK (pureR σ (aIndexAddr 4 (Abs.look fr 0) (Abs.look fr 11) σ)) fun t46 σ =>
  stepK (pureR σ (aLoad true 4 t46 σ)) fun t47 σ =>
  Ev Go.Proofs.Tryz.prog 12 [t47] σ (fun t48 σ =>
  condK t48 (
  Ev Go.Proofs.Tryz.prog 8 [] σ (fun t49 σ =>
  k t49 σ
  ) kp) (
  seqW (fun fr σ => (
  stepK (pureR σ (aLoad true 5 (Abs.look fr 13) σ)) fun t60 σ =>
  stepK (unitR (aStore 5 (Abs.look fr 10) t60 σ)) fun _ σ =>
  stepK (pureR σ (aBin .add .prim (Abs.look fr 11) (.val (Go.Value.int Go.IntKind.i64 1)))) fun t43 σ =>
  again [(0, (Abs.look fr 0)), (1, (Abs.look fr 1)), (2, (Abs.look fr 2)), (3, (Abs.look fr 3)), (9, (Abs.look fr 9)), (10, (Abs.look fr 10)), (11, t43)] σ
  )) (fun j7 => (
  (
  stepK (pureR σ (aLoad true 5 (Abs.look fr 10) σ)) fun t52 σ =>
  stepK (pureR σ (aIndexAddr 4 (Abs.look fr 0) (Abs.look fr 11) σ)) fun t55 σ =>
  stepK (pureR σ (aLoad true 4 t55 σ)) fun t56 σ =>
  Ev Go.Proofs.Tryz.prog 13 [(Abs.look fr 9), t52, t56] σ (fun t57 σ =>
  stepK (pureR σ (aExtract 0 t57)) fun t58 σ =>
  stepK (pureR σ (aExtract 1 t57)) fun t59 σ =>
  stepK (aAlloc [.val (.int .i64 0), .val (.int .i64 0), .val (.slice none 0 0), .val (.slice none 0 0), .val (.slice none 0 0)] σ) fun t13 σ =>
  (stepK (pureR σ (aLoad true 5 (Abs.look fr 10) σ)) (fun y θ => y = t52 ∧ θ = σ)) ∧ (
  (stepK (pureR σ (aIndexAddr 4 (Abs.look fr 0) (Abs.look fr 11) σ)) (fun y θ => y = t55 ∧ θ = σ)) ∧ (
  (stepK (pureR σ (aLoad true 4 t55 σ)) (fun y θ => y = t56 ∧ θ = σ)) ∧ (
  stepK (unitR (aStore 5 t13 t59 σ)) fun _ σ =>
  j7 [(0, (Abs.look fr 0)), (1, (Abs.look fr 1)), (2, (Abs.look fr 2)), (3, (Abs.look fr 3)), (9, (Abs.look fr 9)), (10, (Abs.look fr 10)), (11, (Abs.look fr 11)), (13, t13)] σ
  )))) kp) ∧ (
  stepK (pureR σ (aLoad true 5 (Abs.look fr 10) σ)) fun t52 σ =>
  stepK (pureR σ (aIndexAddr 4 (Abs.look fr 0) (Abs.look fr 11) σ)) fun t55 σ =>
  stepK (pureR σ (aLoad true 4 t55 σ)) fun t56 σ =>
  stepK (aAlloc [.val (.int .i64 0), .val (.int .i64 0), .val (.slice none 0 0), .val (.slice none 0 0), .val (.slice none 0 0)] σ) fun t13 σ =>
  (stepK (pureR σ (aLoad true 5 (Abs.look fr 10) σ)) (fun y θ => y = t52 ∧ θ = σ)) ∧ (
  (stepK (pureR σ (aIndexAddr 4 (Abs.look fr 0) (Abs.look fr 11) σ)) (fun y θ => y = t55 ∧ θ = σ)) ∧ (
  (stepK (pureR σ (aLoad true 4 t55 σ)) (fun y θ => y = t56 ∧ θ = σ)) ∧ (
  Ev Go.Proofs.Tryz.prog 13 [(Abs.look fr 9), t52, t56] σ (fun t57 σ =>
  stepK (pureR σ (aExtract 0 t57)) fun t58 σ =>
  stepK (pureR σ (aExtract 1 t57)) fun t59 σ =>
  stepK (unitR (aStore 5 t13 t59 σ)) fun _ σ =>
  j7 [(0, (Abs.look fr 0)), (1, (Abs.look fr 1)), (2, (Abs.look fr 2)), (3, (Abs.look fr 3)), (9, (Abs.look fr 9)), (10, (Abs.look fr 10)), (11, (Abs.look fr 11)), (13, t13)] σ
  ) kp))))))
  )
  ) kp) (
  j1 [(1, (Abs.look fr 1)), (2, (Abs.look fr 2)), (3, (Abs.look fr 3)), (9, (Abs.look fr 9)), (10, (Abs.look fr 10))] σ
  )
  )) [(0, t0), (1, t1), (2, t2), (3, t3), (9, t36), (10, t10), (11, (.val (Go.Value.int Go.IntKind.i64 0)))] σ
  ))
  ) kp)) σ) σ) σ) σ) σ) σ
def keep6 : List (Nat × List Nat) := [(0, [0, 1, 2, 3]), (1, [0, 1, 2, 3, 34]), (2, [8]), (3, [0, 1, 2, 3, 9, 10]), (3012, [1, 2, 3, 9, 10]), (4, [0, 1, 2, 3, 9, 10, 11]), (5, [0, 1, 2, 3, 9, 10, 11, 41]), (7, [0, 1, 2, 3, 9, 10, 11, 48]), (8, [8]), (3011, [0, 1, 2, 3, 9, 10, 11, 13]), (9, [0, 1, 2, 3, 9, 10, 11, 13]), (2009, [0, 1, 2, 3, 4, 5, 6, 7, 8, 9, 10, 11, 12]), (109010, [1, 4, 5]), (60009, [1]), (19000009, [0, 1, 2, 3, 4, 5, 10, 6, 7, 8, 9, 11, 12]), (10009010, [1, 4, 5]), (10, [0, 1, 2, 3, 9, 10, 11]), (6, [0, 1, 2, 3, 9, 10, 11]), (1005, [0, 1, 2, 3, 9, 10, 11]), (3013, [1, 2, 3, 9, 10, 14, 15]), (11, [1, 2, 3, 9, 10, 14, 15]), (2011, [0, 2, 1, 3, 4, 5]), (111001, [2]), (111003, [2]), (60011, [1]), (19000011, [0, 2, 3, 1, 4, 5]), (10011001, [2]), (10011003, [2]), (3020, [2, 3, 9, 10, 14, 15]), (12, [1, 2, 3, 9, 10, 14, 15, 16]), (13, [1, 2, 3, 9, 10, 14, 15, 16, 67]), (15, [1, 2, 3, 9, 10, 14, 15, 16, 74]), (16, [8]), (3019, [1, 2, 3, 9, 10, 14, 15, 16, 18]), (17, [1, 2, 3, 9, 10, 14, 15, 16, 18]), (2017, [0, 1, 2, 3, 4, 5, 6, 7, 8, 9, 10, 11, 12]), (117010, [1, 4, 5]), (60017, [1]), (19000017, [0, 1, 2, 3, 4, 5, 10, 6, 7, 8, 9, 11, 12]), (10017010, [1, 4, 5]), (18, [1, 2, 3, 9, 10, 14, 15, 16]), (14, [1, 2, 3, 9, 10, 14, 15, 16]), (1013, [1, 2, 3, 9, 10, 14, 15, 16]), (3027, [3, 9, 10, 14, 15]), (19, [2, 3, 9, 10, 14, 15, 19]), (20, [2, 3, 9, 10, 14, 15, 19, 90]), (22, [2, 3, 9, 10, 14, 15, 19, 97]), (23, [8]), (3026, [2, 3, 9, 10, 14, 15, 19, 21]), (24, [2, 3, 9, 10, 14, 15, 19, 21]), (2024, [0, 1, 2, 3, 4, 5, 6, 7, 8, 9, 10, 11, 12]), (124010, [1, 4, 5]), (60024, [1]), (19000024, [0, 1, 2, 3, 4, 5, 10, 6, 7, 8, 9, 11, 12]), (10024010, [1, 4, 5]), (25, [2, 3, 9, 10, 14, 15, 19]), (21, [2, 3, 9, 10, 14, 15, 19]), (1020, [2, 3, 9, 10, 14, 15, 19]), (26, [8])]
noncomputable def body6 : Code := (Go.Proofs.Tryz.f6).body.getD .skip
theorem F6_eq (t0 t1 t2 t3 : AV) (σ : AHeap) (k kp : AV → AHeap → Prop) : aw Go.Proofs.Tryz.prog (keepOf keep6) body6 (retK Go.Proofs.Tryz.prog (Go.Proofs.Tryz.f6).results.toList k kp) (frameOf 0 [t0, t1, t2, t3]) σ = F6 t0 t1 t2 t3 σ k kp := by kernel_rfl
theorem F6_ev {t0 t1 t2 t3 : AV} {σ : AHeap} {k kp : AV → AHeap → Prop} (h : F6 t0 t1 t2 t3 σ k kp) : Ev Go.Proofs.Tryz.prog 6 [t0, t1, t2, t3] σ k kp :=
  Ev_of_aw mixed Go.Proofs.Tryz.func6 (show (Go.Proofs.Tryz.f6).body = some body6 by kernel_rfl) (by kernel_rfl) (args := [t0, t1, t2, t3]) (of_decide_eq_true (by kernel_rfl)) (keepOf keep6) (by kernel_rfl) (by rw [F6_eq]; exact h)

/-- enclave/enclavelaw16.BasisNil -/
def F7 (t0 t1 : AV) (σ : AHeap) (k kp : AV → AHeap → Prop) : Prop :=
  stepK (pureR σ (aLenK .slice t1 σ)) fun t14 σ =>
  stepK (pureR σ (aBin .gtr .prim t14 (.val (Go.Value.int Go.IntKind.i64 20)))) fun t15 σ =>
  condK t15 (
  Ev Go.Proofs.Tryz.prog 8 [] σ (fun t16 σ =>
  k t16 σ
  ) kp) (
  Ev Go.Proofs.Tryz.prog 23 [(.val (Go.Value.pointer Option.none))] σ (fun t19 σ =>
  stepK (pureR σ (aExtract 0 t19)) fun t20 σ =>
  stepK (pureR σ (aExtract 1 t19)) fun t21 σ =>
  Ev Go.Proofs.Tryz.prog 17 [(.val (Go.Value.pointer Option.none)), t0] σ (fun t25 σ =>
  stepK (pureR σ (aExtract 0 t25)) fun t26 σ =>
  stepK (pureR σ (aExtract 1 t25)) fun t27 σ =>
  Ev Go.Proofs.Tryz.prog 14 [(.val (Go.Value.pointer Option.none)), t1] σ (fun t31 σ =>
  stepK (pureR σ (aExtract 0 t31)) fun t32 σ =>
  stepK (pureR σ (aExtract 1 t31)) fun t33 σ =>
  stepK (pureR σ (aLenK .slice t1 σ)) fun t35 σ =>
  stepK (pureR σ (aBin .eql .prim t35 (.val (Go.Value.int Go.IntKind.i64 0)))) fun t36 σ =>
  Ev Go.Proofs.Tryz.prog 10 [(.val (Go.Value.pointer Option.none))] σ (fun t38 σ =>
  stepK (pureR σ (aBin .eql .prim t38 (.val (Go.Value.int Go.IntKind.i64 (-1))))) fun t39 σ =>
  gK t39 true (fun K => K (.val (Go.Value.pointer Option.none)) σ) (fun t41 σ =>
  gK t39 true (fun K => Ev Go.Proofs.Tryz.prog 11 [t41] σ K kp) (fun t42 σ =>
  gK t39 true (fun K => stepK (pureR σ (aBin .eql .prim t42 (.val (Go.Value.int Go.IntKind.i64 (-1))))) K) (fun t43 σ =>
  stepK (pureR σ (aPick t39 t43 (.val (Go.Value.bool Bool.false)))) fun t44 σ =>
  gK t44 true (fun K => K t20 σ) (fun t46 σ =>
  gK t44 true (fun K => K t21 σ) (fun t47 σ =>
  gK t44 true (fun K => stepK (pureR σ (aBin .add .prim t46 t47)) K) (fun t48 σ =>
  gK t44 true (fun K => stepK (pureR σ (aBin .eql .prim t48 (.val (Go.Value.int Go.IntKind.i64 0)))) K) (fun t49 σ =>
  stepK (pureR σ (aPick t44 t49 (.val (Go.Value.bool Bool.false)))) fun t50 σ =>
  gK t50 true (fun K => K (.val (Go.Value.pointer Option.none)) σ) (fun t52 σ =>
  gK t50 true (fun K => K t0 σ) (fun t53 σ =>
  gK t50 true (fun K => Ev Go.Proofs.Tryz.prog 24 [t52, t53] σ K kp) (fun t54 σ =>
  gK t50 true (fun K => stepK (pureR σ (aBin .eql .prim t54 (.val (Go.Value.int Go.IntKind.i64 (-1))))) K) (fun t55 σ =>
  stepK (pureR σ (aPick t50 t55 (.val (Go.Value.bool Bool.false)))) fun t56 σ =>
  gK t56 true (fun K => K (.val (Go.Value.pointer Option.none)) σ) (fun t58 σ =>
  gK t56 true (fun K => K t0 σ) (fun t59 σ =>
  gK t56 true (fun K => Ev Go.Proofs.Tryz.prog 18 [t58, t59] σ K kp) (fun t60 σ =>
  gK t56 true (fun K => stepK (pureR σ (aBin .eql .prim t60 (.val (Go.Value.int Go.IntKind.i64 (-1))))) K) (fun t61 σ =>
  stepK (pureR σ (aPick t56 t61 (.val (Go.Value.bool Bool.false)))) fun t62 σ =>
  gK t62 true (fun K => K (.val (Go.Value.pointer Option.none)) σ) (fun t64 σ =>
  gK t62 true (fun K => K t1 σ) (fun t65 σ =>
  gK t62 true (fun K => Ev Go.Proofs.Tryz.prog 25 [t64, t65] σ K kp) (fun t66 σ =>
  gK t62 true (fun K => K t36 σ) (fun t67 σ =>
  gK t62 true (fun K => stepK (pureR σ (aBin .eql .bool t66 t67)) K) (fun t68 σ =>
  stepK (pureR σ (aPick t62 t68 (.val (Go.Value.bool Bool.false)))) fun t69 σ =>
  gK t69 true (fun K => K (.val (Go.Value.pointer Option.none)) σ) (fun t71 σ =>
  gK t69 true (fun K => K t1 σ) (fun t72 σ =>
  gK t69 true (fun K => Ev Go.Proofs.Tryz.prog 26 [t71, t72] σ K kp) (fun t73 σ =>
  gK t69 true (fun K => K t36 σ) (fun t74 σ =>
  gK t69 true (fun K => stepK (pureR σ (aBin .eql .bool t73 t74)) K) (fun t75 σ =>
  stepK (pureR σ (aPick t69 t75 (.val (Go.Value.bool Bool.false)))) fun t76 σ =>
  gK t76 true (fun K => K (.val (Go.Value.pointer Option.none)) σ) (fun t78 σ =>
  gK t76 true (fun K => K t0 σ) (fun t79 σ =>
  gK t76 true (fun K => Ev Go.Proofs.Tryz.prog 27 [t78, t79, (.val (Go.Value.slice Option.none 0 0)), (.val (Go.Value.slice Option.none 0 0))] σ K kp) (fun t80 σ =>
  gK t76 true (fun K => stepK (pureR σ (aNot t80)) K) (fun t81 σ =>
  stepK (pureR σ (aPick t76 t81 (.val (Go.Value.bool Bool.false)))) fun t82 σ =>
  gK t82 true (fun K => K t26 σ) (fun t84 σ =>
  gK t82 true (fun K => stepK (pureR σ (aLenK .slice t84 σ)) K) (fun t85 σ =>
  gK t82 true (fun K => K t27 σ) (fun t86 σ =>
  gK t82 true (fun K => stepK (pureR σ (aLenK .slice t86 σ)) K) (fun t87 σ =>
  gK t82 true (fun K => stepK (pureR σ (aBin .add .prim t85 t87)) K) (fun t88 σ =>
  gK t82 true (fun K => K t32 σ) (fun t89 σ =>
  gK t82 true (fun K => stepK (pureR σ (aLenK .slice t89 σ)) K) (fun t90 σ =>
  gK t82 true (fun K => stepK (pureR σ (aBin .add .prim t88 t90)) K) (fun t91 σ =>
  gK t82 true (fun K => K t33 σ) (fun t92 σ =>
  gK t82 true (fun K => stepK (pureR σ (aLenK .slice t92 σ)) K) (fun t93 σ =>
  gK t82 true (fun K => stepK (pureR σ (aBin .add .prim t91 t93)) K) (fun t94 σ =>
  gK t82 true (fun K => stepK (pureR σ (aBin .eql .prim t94 (.val (Go.Value.int Go.IntKind.i64 0)))) K) (fun t95 σ =>
  stepK (pureR σ (aPick t82 t95 (.val (Go.Value.bool Bool.false)))) fun t96 σ =>
  gK t96 true (fun K => K (.val (Go.Value.pointer Option.none)) σ) (fun t98 σ =>
  gK t96 true (fun K => Ev Go.Proofs.Tryz.prog 22 [t98] σ K kp) (fun t99 σ =>
  gK t96 true (fun K => stepK (pureR σ (aBin .eql .ptr t99 (.val (Go.Value.pointer Option.none)))) K) (fun t100 σ =>
  stepK (pureR σ (aPick t96 t100 (.val (Go.Value.bool Bool.false)))) fun t101 σ =>
  gK t101 true (fun K => Ev Go.Proofs.Tryz.prog 8 [] σ K kp) (fun t103 σ =>
  stepK (pureR σ (aPick t101 t103 (.val (Go.Value.bool Bool.false)))) fun t104 σ =>
  k t104 σ
  ) σ) σ) σ) σ) σ) σ) σ) σ) σ) σ) σ) σ) σ) σ) σ) σ) σ) σ) σ) σ) σ) σ) σ) σ) σ) σ) σ) σ) σ) σ) σ) σ) σ) σ) σ) σ) σ) σ) σ) σ) σ) σ) σ) σ) σ) kp) kp) kp) kp)
def keep7 : List (Nat × List Nat) := [(0, [0, 1]), (1, [0, 1, 15]), (2, [4]), (3, [0, 1, 5]), (4, [0, 1, 5, 6, 7]), (5, [0, 1, 5, 6, 7, 8, 9]), (6, [0, 1, 5, 6, 7, 8, 9, 10, 11]), (7, [0, 1, 5, 6, 7, 8, 9, 10, 11, 12]), (8, [4])]
noncomputable def body7 : Code := (Go.Proofs.Tryz.f7).body.getD .skip
theorem F7_eq (t0 t1 : AV) (σ : AHeap) (k kp : AV → AHeap → Prop) : aw Go.Proofs.Tryz.prog (keepOf keep7) body7 (retK Go.Proofs.Tryz.prog (Go.Proofs.Tryz.f7).results.toList k kp) (frameOf 0 [t0, t1]) σ = F7 t0 t1 σ k kp := by kernel_rfl
theorem F7_ev {t0 t1 : AV} {σ : AHeap} {k kp : AV → AHeap → Prop} (h : F7 t0 t1 σ k kp) : Ev Go.Proofs.Tryz.prog 7 [t0, t1] σ k kp :=
  Ev_of_aw mixed Go.Proofs.Tryz.func7 (show (Go.Proofs.Tryz.f7).body = some body7 by kernel_rfl) (by kernel_rfl) (args := [t0, t1]) (of_decide_eq_true (by kernel_rfl)) (keepOf keep7) (by kernel_rfl) (by rw [F7_eq]; exact h)

/-- enclave/enclavelaw16.awake -/
def F8 (σ : AHeap) (k kp : AV → AHeap → Prop) : Prop :=
  Ev Go.Proofs.Tryz.prog 9 [] σ (fun t5 σ =>
  Ev Go.Proofs.Tryz.prog 10 [t5] σ (fun t7 σ =>
  Ev Go.Proofs.Tryz.prog 10 [t5] σ (fun t9 σ =>
  Ev Go.Proofs.Tryz.prog 10 [t5] σ (fun t11 σ =>
  Ev Go.Proofs.Tryz.prog 11 [t5] σ (fun t13 σ =>
  Ev Go.Proofs.Tryz.prog 11 [t5] σ (fun t15 σ =>
  Ev Go.Proofs.Tryz.prog 28 [(.val (Go.Value.int Go.IntKind.i64 0))] σ (fun t17 σ =>
  stepK (aBuildSlice 1 3 [.val (.int .u8 0), .val (.int .i64 0), .val (.string ByteArray.empty)] [(0, t17)] σ) fun t18 σ =>
  stepK (aBuildSlice 1 1 [.val (.int .i64 0)] [(0, (.val (Go.Value.int Go.IntKind.i64 1)))] σ) fun t19 σ =>
  Ev Go.Proofs.Tryz.prog 27 [t5, (.val (Go.Value.int Go.IntKind.i64 0)), t18, t19] σ (fun t20 σ =>
  gK t20 true (fun K => K t5 σ) (fun t22 σ =>
  gK t20 true (fun K => Ev Go.Proofs.Tryz.prog 29 [(.val (Go.Value.int Go.IntKind.i64 2))] σ K kp) (fun t23 σ =>
  gK t20 true (fun K => stepK (aBuildSlice 1 3 [.val (.int .u8 0), .val (.int .i64 0), .val (.string ByteArray.empty)] [(0, t23)] σ) K) (fun t24 σ =>
  gK t20 true (fun K => Ev Go.Proofs.Tryz.prog 27 [t22, (.val (Go.Value.int Go.IntKind.i64 1)), t24, (.val (Go.Value.slice Option.none 0 0))] σ K kp) (fun t25 σ =>
  stepK (pureR σ (aPick t20 t25 (.val (Go.Value.bool Bool.false)))) fun t26 σ =>
  stepK (aBuildSlice 1 1 [.val (.int .i64 0)] [(0, (.val (Go.Value.int Go.IntKind.i64 0)))] σ) fun t29 σ =>
  Ev Go.Proofs.Tryz.prog 14 [t5, t29] σ (fun t30 σ =>
  stepK (pureR σ (aExtract 0 t30)) fun t31 σ =>
  stepK (pureR σ (aExtract 1 t30)) fun t32 σ =>
  gK t26 true (fun K => K t31 σ) (fun t35 σ =>
  gK t26 true (fun K => Ev Go.Proofs.Tryz.prog 28 [(.val (Go.Value.int Go.IntKind.i64 0))] σ K kp) (fun t36 σ =>
  gK t26 true (fun K => Ev Go.Proofs.Tryz.prog 29 [(.val (Go.Value.int Go.IntKind.i64 2))] σ K kp) (fun t37 σ =>
  gK t26 true (fun K => stepK (aBuildSlice 2 3 [.val (.int .u8 0), .val (.int .i64 0), .val (.string ByteArray.empty)] [(0, t36), (1, t37)] σ) K) (fun t38 σ =>
  gK t26 true (fun K => Ev Go.Proofs.Tryz.prog 15 [t35, t38] σ K kp) (fun t39 σ =>
  stepK (pureR σ (aPick t26 t39 (.val (Go.Value.bool Bool.false)))) fun t40 σ =>
  gK t40 true (fun K => K t32 σ) (fun t42 σ =>
  gK t40 true (fun K => stepK (aBuildSlice 2 1 [.val (.int .i64 0)] [(0, (.val (Go.Value.int Go.IntKind.i64 0))), (1, (.val (Go.Value.int Go.IntKind.i64 1)))] σ) K) (fun t43 σ =>
  gK t40 true (fun K => Ev Go.Proofs.Tryz.prog 16 [t42, t43] σ K kp) (fun t44 σ =>
  stepK (pureR σ (aPick t40 t44 (.val (Go.Value.bool Bool.false)))) fun t45 σ =>
  k t45 σ) σ) σ) σ) σ) σ) σ) σ) σ) kp) σ) σ) σ) σ) kp) kp) kp) kp) kp) kp) kp) kp
def keep8 : List (Nat × List Nat) := [(0, []), (1, [1]), (2, [1]), (3, [1]), (4, [1]), (5, [1]), (6, [1]), (7, [1, 2]), (8, [2, 3, 4]), (9, [0])]
noncomputable def body8 : Code := (Go.Proofs.Tryz.f8).body.getD .skip
theorem F8_eq (σ : AHeap) (k kp : AV → AHeap → Prop) : aw Go.Proofs.Tryz.prog (keepOf keep8) body8 (retK Go.Proofs.Tryz.prog (Go.Proofs.Tryz.f8).results.toList k kp) (frameOf 0 []) σ = F8 σ k kp := by kernel_rfl
theorem F8_ev {σ : AHeap} {k kp : AV → AHeap → Prop} (h : F8 σ k kp) : Ev Go.Proofs.Tryz.prog 8 [] σ k kp :=
  Ev_of_aw mixed Go.Proofs.Tryz.func8 (show (Go.Proofs.Tryz.f8).body = some body8 by kernel_rfl) (by kernel_rfl) (args := []) (of_decide_eq_true (by kernel_rfl)) (keepOf keep8) (by kernel_rfl) (by rw [F8_eq]; exact h)

/-- enclave/basis.New -/
def F9 (σ : AHeap) (k kp : AV → AHeap → Prop) : Prop :=
  stepK (pureR σ (aBuild [.val (.slice none 0 0), .val (.slice none 0 0), .val (.slice none 0 0)] [])) fun t1 σ =>
  stepK (aBox t1 σ) fun t2 σ =>
  k t2 σ
def keep9 : List (Nat × List Nat) := [(0, []), (1, [0])]
noncomputable def body9 : Code := (Go.Proofs.Tryz.f9).body.getD .skip
theorem F9_eq (σ : AHeap) (k kp : AV → AHeap → Prop) : aw Go.Proofs.Tryz.prog (keepOf keep9) body9 (retK Go.Proofs.Tryz.prog (Go.Proofs.Tryz.f9).results.toList k kp) (frameOf 0 []) σ = F9 σ k kp := by kernel_rfl
theorem F9_ev {σ : AHeap} {k kp : AV → AHeap → Prop} (h : F9 σ k kp) : Ev Go.Proofs.Tryz.prog 9 [] σ k kp :=
  Ev_of_aw mixed Go.Proofs.Tryz.func9 (show (Go.Proofs.Tryz.f9).body = some body9 by kernel_rfl) (by kernel_rfl) (args := []) (of_decide_eq_true (by kernel_rfl)) (keepOf keep9) (by kernel_rfl) (by rw [F9_eq]; exact h)

/-- (*enclave/basis.Basis).Region -/
def F10 (t0 : AV) (σ : AHeap) (k kp : AV → AHeap → Prop) : Prop :=
  stepK (pureR σ (aBin .eql .ptr t0 (.val (Go.Value.pointer Option.none)))) fun t4 σ =>
  condK t4 (
  k (.val (Go.Value.int Go.IntKind.i64 (-1))) σ
  ) (
  stepK (pureR σ (aNilCheck t0)) fun t6 σ =>
  stepK (pureR σ (aFieldAddr 0 t6)) fun t7 σ =>
  Ev Go.Proofs.Tryz.prog 30 [t7] σ (fun t8 σ =>
  k t8 σ
  ) kp)
def keep10 : List (Nat × List Nat) := [(0, [0]), (1, [0, 4]), (2, [2]), (3, [2])]
noncomputable def body10 : Code := (Go.Proofs.Tryz.f10).body.getD .skip
theorem F10_eq (t0 : AV) (σ : AHeap) (k kp : AV → AHeap → Prop) : aw Go.Proofs.Tryz.prog (keepOf keep10) body10 (retK Go.Proofs.Tryz.prog (Go.Proofs.Tryz.f10).results.toList k kp) (frameOf 0 [t0]) σ = F10 t0 σ k kp := by kernel_rfl
theorem F10_ev {t0 : AV} {σ : AHeap} {k kp : AV → AHeap → Prop} (h : F10 t0 σ k kp) : Ev Go.Proofs.Tryz.prog 10 [t0] σ k kp :=
  Ev_of_aw mixed Go.Proofs.Tryz.func10 (show (Go.Proofs.Tryz.f10).body = some body10 by kernel_rfl) (by kernel_rfl) (args := [t0]) (of_decide_eq_true (by kernel_rfl)) (keepOf keep10) (by kernel_rfl) (by rw [F10_eq]; exact h)

/-- (*enclave/basis.Basis).Var -/
def F11 (t0 : AV) (σ : AHeap) (k kp : AV → AHeap → Prop) : Prop :=
  stepK (pureR σ (aBin .eql .ptr t0 (.val (Go.Value.pointer Option.none)))) fun t4 σ =>
  condK t4 (
  k (.val (Go.Value.int Go.IntKind.i64 (-1))) σ
  ) (
  stepK (pureR σ (aNilCheck t0)) fun t7 σ =>
  stepK (pureR σ (aFieldAddr 2 t7)) fun t8 σ =>
  stepK (pureR σ (aLoad false 1 t8 σ)) fun t9 σ =>
  stepK (pureR σ (aBuild [.val (.slice none 0 0), .val (.slice none 0 0)] [])) fun t10 σ =>
  stepK (aBuildSlice 1 2 [.val (.slice none 0 0), .val (.slice none 0 0)] [(0, t10)] σ) fun t11 σ =>
  stepK (aAppend 2 48 t9 t11 σ) fun t12 σ =>
  stepK (pureR σ (aNilCheck t0)) fun t13 σ =>
  stepK (pureR σ (aFieldAddr 2 t13)) fun t14 σ =>
  stepK (unitR (aStore 1 t14 t12 σ)) fun _ σ =>
  stepK (pureR σ (aNilCheck t0)) fun t16 σ =>
  stepK (pureR σ (aFieldAddr 1 t16)) fun t17 σ =>
  Ev Go.Proofs.Tryz.prog 30 [t17] σ (fun t18 σ =>
  k t18 σ
  ) kp)
def keep11 : List (Nat × List Nat) := [(0, [0]), (1, [0, 4]), (2, [2]), (3, [0]), (4, [2])]
noncomputable def body11 : Code := (Go.Proofs.Tryz.f11).body.getD .skip
theorem F11_eq (t0 : AV) (σ : AHeap) (k kp : AV → AHeap → Prop) : aw Go.Proofs.Tryz.prog (keepOf keep11) body11 (retK Go.Proofs.Tryz.prog (Go.Proofs.Tryz.f11).results.toList k kp) (frameOf 0 [t0]) σ = F11 t0 σ k kp := by kernel_rfl
theorem F11_ev {t0 : AV} {σ : AHeap} {k kp : AV → AHeap → Prop} (h : F11 t0 σ k kp) : Ev Go.Proofs.Tryz.prog 11 [t0] σ k kp :=
  Ev_of_aw mixed Go.Proofs.Tryz.func11 (show (Go.Proofs.Tryz.f11).body = some body11 by kernel_rfl) (by kernel_rfl) (args := [t0]) (of_decide_eq_true (by kernel_rfl)) (keepOf keep11) (by kernel_rfl) (by rw [F11_eq]; exact h)

/-- enclave/enclavelaw16.great -/
def F12 (t0 : AV) (σ : AHeap) (k kp : AV → AHeap → Prop) : Prop :=
  stepK (aBox t0 σ) fun t1 σ =>
  stepK (pureR σ (aFieldAddr 2 t1)) fun t3 σ =>
  stepK (pureR σ (aLoad false 1 t3 σ)) fun t4 σ =>
  stepK (pureR σ (aLenK .slice t4 σ)) fun t5 σ =>
  stepK (pureR σ (aBin .gtr .prim t5 (.val (Go.Value.int Go.IntKind.i64 20)))) fun t6 σ =>
  gK t6 false (fun K => stepK (pureR σ (aFieldAddr 3 t1)) K) (fun t8 σ =>
  gK t6 false (fun K => stepK (pureR σ (aLoad false 1 t8 σ)) K) (fun t9 σ =>
  gK t6 false (fun K => stepK (pureR σ (aLenK .slice t9 σ)) K) (fun t10 σ =>
  gK t6 false (fun K => stepK (pureR σ (aBin .gtr .prim t10 (.val (Go.Value.int Go.IntKind.i64 20)))) K) (fun t11 σ =>
  stepK (pureR σ (aPick t6 (.val (Go.Value.bool Bool.true)) t11)) fun t12 σ =>
  gK t12 false (fun K => stepK (pureR σ (aFieldAddr 3 t1)) K) (fun t14 σ =>
  gK t12 false (fun K => stepK (pureR σ (aLoad false 1 t14 σ)) K) (fun t15 σ =>
  gK t12 false (fun K => Ev Go.Proofs.Tryz.prog 31 [t15] σ K kp) (fun t16 σ =>
  stepK (pureR σ (aPick t12 (.val (Go.Value.bool Bool.true)) t16)) fun t17 σ =>
  k t17 σ) σ) σ) σ) σ) σ) σ) σ
def keep12 : List (Nat × List Nat) := [(0, [1]), (1, [2])]
noncomputable def body12 : Code := (Go.Proofs.Tryz.f12).body.getD .skip
theorem F12_eq (t0 : AV) (σ : AHeap) (k kp : AV → AHeap → Prop) : aw Go.Proofs.Tryz.prog (keepOf keep12) body12 (retK Go.Proofs.Tryz.prog (Go.Proofs.Tryz.f12).results.toList k kp) (frameOf 0 [t0]) σ = F12 t0 σ k kp := by kernel_rfl
theorem F12_ev {t0 : AV} {σ : AHeap} {k kp : AV → AHeap → Prop} (h : F12 t0 σ k kp) : Ev Go.Proofs.Tryz.prog 12 [t0] σ k kp :=
  Ev_of_aw mixed Go.Proofs.Tryz.func12 (show (Go.Proofs.Tryz.f12).body = some body12 by kernel_rfl) (by kernel_rfl) (args := [t0]) (of_decide_eq_true (by kernel_rfl)) (keepOf keep12) (by kernel_rfl) (by rw [F12_eq]; exact h)

/-- enclave/enclavelaw16.does -/
def F13 (t0 t1 t2 : AV) (σ : AHeap) (k kp : AV → AHeap → Prop) : Prop :=
  stepK (aBox t1 σ) fun t4 σ =>
  stepK (aBox t2 σ) fun t5 σ =>
  stepK (aAlloc [.val (.int .i64 0), .val (.int .i64 0), .val (.slice none 0 0), .val (.slice none 0 0), .val (.slice none 0 0)] σ) fun t7 σ =>
  stepK (pureR σ (aFieldAddr 0 t5)) fun t17 σ =>
  stepK (pureR σ (aLoad false 1 t17 σ)) fun t18 σ =>
  stepK (pureR σ (aBin .eql .prim t18 (.val (Go.Value.int Go.IntKind.i64 0)))) fun t20 σ =>
  condK t20 (
  stepK (pureR σ (aFieldAddr 0 t4)) fun t21 σ =>
  stepK (pureR σ (aLoad false 1 t21 σ)) fun t22 σ =>
  stepK (pureR σ (aBin .add .prim t22 (.val (Go.Value.int Go.IntKind.i64 1)))) fun t23 σ =>
  stepK (pureR σ (aFieldAddr 0 t4)) fun t24 σ =>
  stepK (unitR (aStore 1 t24 t23 σ)) fun _ σ =>
  stepK (pureR σ (aFieldAddr 0 t4)) fun t27 σ =>
  stepK (pureR σ (aLoad false 1 t27 σ)) fun t28 σ =>
  stepK (pureR σ (aBin .sub .prim t28 (.val (Go.Value.int Go.IntKind.i64 1)))) fun t29 σ =>
  stepK (pureR σ (aLoad true 5 t4 σ)) fun t31 σ =>
  Ev Go.Proofs.Tryz.prog 10 [t0] σ (fun t26 σ =>
  (stepK (pureR σ (aLoad false 1 t27 σ)) (fun y θ => y = t28 ∧ θ = σ)) ∧ (
  (stepK (pureR σ (aLoad true 5 t4 σ)) (fun y θ => y = t31 ∧ θ = σ)) ∧ (
  stepK (pureR σ (aBin .eql .prim t26 t29)) fun t30 σ =>
  stepK (unitR (aStore 5 t7 t31 σ)) fun _ σ =>
  stepV (aLoad true 5 t7 σ) fun r0 =>
  k (.tup [t30, r0]) σ
  ))) kp) (
  stepK (pureR σ (aBin .eql .prim t18 (.val (Go.Value.int Go.IntKind.i64 1)))) fun t33 σ =>
  condK t33 (
  stepK (pureR σ (aFieldAddr 1 t4)) fun t34 σ =>
  stepK (pureR σ (aLoad false 1 t34 σ)) fun t35 σ =>
  stepK (pureR σ (aBin .add .prim t35 (.val (Go.Value.int Go.IntKind.i64 1)))) fun t36 σ =>
  stepK (pureR σ (aFieldAddr 1 t4)) fun t37 σ =>
  stepK (unitR (aStore 1 t37 t36 σ)) fun _ σ =>
  stepK (pureR σ (aFieldAddr 1 t4)) fun t40 σ =>
  stepK (pureR σ (aLoad false 1 t40 σ)) fun t41 σ =>
  stepK (pureR σ (aBin .sub .prim t41 (.val (Go.Value.int Go.IntKind.i64 1)))) fun t42 σ =>
  stepK (pureR σ (aLoad true 5 t4 σ)) fun t44 σ =>
  Ev Go.Proofs.Tryz.prog 11 [t0] σ (fun t39 σ =>
  (stepK (pureR σ (aLoad false 1 t40 σ)) (fun y θ => y = t41 ∧ θ = σ)) ∧ (
  (stepK (pureR σ (aLoad true 5 t4 σ)) (fun y θ => y = t44 ∧ θ = σ)) ∧ (
  stepK (pureR σ (aBin .eql .prim t39 t42)) fun t43 σ =>
  stepK (unitR (aStore 5 t7 t44 σ)) fun _ σ =>
  stepV (aLoad true 5 t7 σ) fun r0 =>
  k (.tup [t43, r0]) σ
  ))) kp) (
  stepK (pureR σ (aBin .eql .prim t18 (.val (Go.Value.int Go.IntKind.i64 2)))) fun t46 σ =>
  condK t46 (
  stepK (pureR σ (aLoad true 5 t4 σ)) fun t48 σ =>
  stepK (pureR σ (aFieldAddr 2 t5)) fun t49 σ =>
  stepK (pureR σ (aLoad false 1 t49 σ)) fun t50 σ =>
  Ev Go.Proofs.Tryz.prog 32 [t48, t50] σ (fun t51 σ =>
  stepK (pureR σ (aExtract 0 t51)) fun t52 σ =>
  stepK (pureR σ (aExtract 1 t51)) fun t53 σ =>
  stepK (aAlloc [.val (.int .i64 0), .val (.int .i64 0), .val (.slice none 0 0), .val (.slice none 0 0), .val (.slice none 0 0)] σ) fun t8 σ =>
  stepK (unitR (aStore 5 t8 t52 σ)) fun _ σ =>
  stepK (pureR σ (aFieldAddr 2 t5)) fun t55 σ =>
  stepK (pureR σ (aLoad false 1 t55 σ)) fun t56 σ =>
  stepK (pureR σ (aLoad true 5 t8 σ)) fun t60 σ =>
  Ev Go.Proofs.Tryz.prog 25 [t0, t56] σ (fun t57 σ =>
  (stepK (pureR σ (aLoad true 5 t8 σ)) (fun y θ => y = t60 ∧ θ = σ)) ∧ (
  stepK (pureR σ (aBin .eql .bool t57 t53)) fun t59 σ =>
  stepK (unitR (aStore 5 t7 t60 σ)) fun _ σ =>
  stepV (aLoad true 5 t7 σ) fun r0 =>
  k (.tup [t59, r0]) σ
  )) kp) kp) (
  stepK (pureR σ (aBin .eql .prim t18 (.val (Go.Value.int Go.IntKind.i64 3)))) fun t62 σ =>
  condK t62 (
  stepK (pureR σ (aLoad true 5 t4 σ)) fun t64 σ =>
  stepK (pureR σ (aFieldAddr 2 t5)) fun t65 σ =>
  stepK (pureR σ (aLoad false 1 t65 σ)) fun t66 σ =>
  Ev Go.Proofs.Tryz.prog 33 [t64, t66] σ (fun t67 σ =>
  stepK (pureR σ (aExtract 0 t67)) fun t68 σ =>
  stepK (pureR σ (aExtract 1 t67)) fun t69 σ =>
  stepK (aAlloc [.val (.int .i64 0), .val (.int .i64 0), .val (.slice none 0 0), .val (.slice none 0 0), .val (.slice none 0 0)] σ) fun t10 σ =>
  stepK (unitR (aStore 5 t10 t68 σ)) fun _ σ =>
  stepK (pureR σ (aFieldAddr 2 t5)) fun t71 σ =>
  stepK (pureR σ (aLoad false 1 t71 σ)) fun t72 σ =>
  stepK (pureR σ (aLoad true 5 t10 σ)) fun t76 σ =>
  Ev Go.Proofs.Tryz.prog 26 [t0, t72] σ (fun t73 σ =>
  (stepK (pureR σ (aLoad true 5 t10 σ)) (fun y θ => y = t76 ∧ θ = σ)) ∧ (
  stepK (pureR σ (aBin .eql .bool t73 t69)) fun t75 σ =>
  stepK (unitR (aStore 5 t7 t76 σ)) fun _ σ =>
  stepV (aLoad true 5 t7 σ) fun r0 =>
  k (.tup [t75, r0]) σ
  )) kp) kp) (
  stepK (aBuildSlice 0 3 [.val (.int .u8 0), .val (.int .i64 0), .val (.string ByteArray.empty)] [] σ) fun t77 σ =>
  stepK (pureR σ (aFieldAddr 3 t5)) fun t78 σ =>
  stepK (pureR σ (aLoad false 1 t78 σ)) fun t79 σ =>
  stepK (aAppend 3 32 t77 t79 σ) fun t80 σ =>
  stepK (pureR σ (aLoad true 5 t4 σ)) fun t82 σ =>
  stepK (pureR σ (aFieldAddr 1 t5)) fun t83 σ =>
  stepK (pureR σ (aLoad false 1 t83 σ)) fun t84 σ =>
  stepK (pureR σ (aFieldAddr 3 t5)) fun t85 σ =>
  stepK (pureR σ (aLoad false 1 t85 σ)) fun t86 σ =>
  stepK (pureR σ (aFieldAddr 2 t5)) fun t87 σ =>
  stepK (pureR σ (aLoad false 1 t87 σ)) fun t88 σ =>
  Ev Go.Proofs.Tryz.prog 34 [t82, t84, t86, t88] σ (fun t89 σ =>
  stepK (pureR σ (aExtract 0 t89)) fun t90 σ =>
  stepK (pureR σ (aExtract 1 t89)) fun t91 σ =>
  stepK (aAlloc [.val (.int .i64 0), .val (.int .i64 0), .val (.slice none 0 0), .val (.slice none 0 0), .val (.slice none 0 0)] σ) fun t13 σ =>
  stepK (unitR (aStore 5 t13 t90 σ)) fun _ σ =>
  stepK (pureR σ (aFieldAddr 1 t5)) fun t93 σ =>
  stepK (pureR σ (aLoad false 1 t93 σ)) fun t94 σ =>
  stepK (pureR σ (aFieldAddr 2 t5)) fun t96 σ =>
  stepK (pureR σ (aLoad false 1 t96 σ)) fun t97 σ =>
  Ev Go.Proofs.Tryz.prog 27 [t0, t94, t80, t97] σ (fun t98 σ =>
  stepK (pureR σ (aBin .eql .bool t98 t91)) fun t100 σ =>
  seqW (fun fr σ => (
  stepK (pureR σ (aLoad true 5 (Abs.look fr 13) σ)) fun t112 σ =>
  stepK (unitR (aStore 5 (Abs.look fr 7) t112 σ)) fun _ σ =>
  stepV (aLoad true 5 (Abs.look fr 7) σ) fun r0 =>
  k (.tup [(Abs.look fr 15), r0]) σ
  )) (fun j1 => (
  loopW (fun fr σ again => (
  stepK (pureR σ (aLenK .slice (Abs.look fr 12) σ)) fun t103 σ =>
  stepK (pureR σ (aBin .lss .prim (Abs.look fr 16) t103)) fun t104 σ =>
  condK t104 (
  stepK (pureR σ (aIndexAddr 3 (Abs.look fr 12) (Abs.look fr 16) σ)) fun t109 σ =>
  stepK (pureR σ (aFieldAddr 1 t109)) fun t110 σ =>
  stepK (unitR (aStore 1 t110 (.val (Go.Value.int Go.IntKind.i64 0)) σ)) fun _ σ =>
  stepK (pureR σ (aBin .add .prim (Abs.look fr 16) (.val (Go.Value.int Go.IntKind.i64 1)))) fun t106 σ =>
  again [(7, (Abs.look fr 7)), (12, (Abs.look fr 12)), (13, (Abs.look fr 13)), (15, (Abs.look fr 15)), (16, t106)] σ
  ) (
  j1 [(7, (Abs.look fr 7)), (13, (Abs.look fr 13)), (15, (Abs.look fr 15))] σ
  )
  )) [(7, t7), (12, t80), (13, t13), (15, t100), (16, (.val (Go.Value.int Go.IntKind.i64 0)))] σ
  ))
  ) kp) kp)
  )
  )
  )
def keep13 : List (Nat × List Nat) := [(0, [0, 4, 5, 7]), (1, [0, 4, 5, 7, 18]), (2, [0, 4, 5, 7, 18, 19]), (3, [0, 4, 7]), (4, [6, 7]), (2004, [0, 2, 3, 4, 6, 1, 5, 7, 8]), (104001, [3, 6]), (5, [0, 4, 5, 7, 18, 32]), (6, [0, 4, 7]), (7, [6, 7]), (2007, [0, 2, 3, 4, 6, 1, 5, 7, 8]), (107001, [3, 6]), (8, [0, 4, 5, 7, 18, 45]), (9, [0, 5, 7, 8, 9]), (10, [6, 7]), (2010, [0, 1, 2, 4, 6, 3, 5, 7, 8]), (110003, [6]), (11, [0, 4, 5, 7, 61]), (12, [0, 5, 7, 10, 11]), (13, [6, 7]), (2013, [0, 1, 2, 4, 6, 3, 5, 7, 8]), (113003, [6]), (14, [0, 4, 5, 7, 12]), (15, [0, 5, 7, 12, 13, 14]), (16, [7, 12, 13, 15]), (3022, [7, 13, 15]), (17, [7, 12, 13, 15, 16]), (18, [7, 12, 13, 15, 16, 104]), (20, [7, 12, 13, 15, 16]), (19, [7, 12, 13, 15, 16]), (1018, [7, 12, 13, 15, 16]), (21, [6, 7]), (2021, [0, 1, 2, 3])]
noncomputable def body13 : Code := (Go.Proofs.Tryz.f13).body.getD .skip
theorem F13_eq (t0 t1 t2 : AV) (σ : AHeap) (k kp : AV → AHeap → Prop) : aw Go.Proofs.Tryz.prog (keepOf keep13) body13 (retK Go.Proofs.Tryz.prog (Go.Proofs.Tryz.f13).results.toList k kp) (frameOf 0 [t0, t1, t2]) σ = F13 t0 t1 t2 σ k kp := by kernel_rfl
theorem F13_ev {t0 t1 t2 : AV} {σ : AHeap} {k kp : AV → AHeap → Prop} (h : F13 t0 t1 t2 σ k kp) : Ev Go.Proofs.Tryz.prog 13 [t0, t1, t2] σ k kp :=
  Ev_of_aw mixed Go.Proofs.Tryz.func13 (show (Go.Proofs.Tryz.f13).body = some body13 by kernel_rfl) (by kernel_rfl) (args := [t0, t1, t2]) (of_decide_eq_true (by kernel_rfl)) (keepOf keep13) (by kernel_rfl) (by rw [F13_eq]; exact h)

/-- (*enclave/basis.Basis).Comes -/
def F14 (t0 t1 : AV) (σ : AHeap) (k kp : AV → AHeap → Prop) : Prop :=
  stepK (pureR σ (aBin .eql .ptr t0 (.val (Go.Value.pointer Option.none)))) fun t14 σ =>
  condK t14 (
  k (.tup [(.val (Go.Value.slice Option.none 0 0)), (.val (Go.Value.slice Option.none 0 0))]) σ
  ) (
  stepK (pureR σ (aNilCheck t0)) fun t16 σ =>
  stepK (pureR σ (aFieldAddr 1 t16)) fun t17 σ =>
  Ev Go.Proofs.Tryz.prog 35 [t17, t1] σ (fun t19 σ =>
  seqW (fun fr σ => (
  stepK (pureR σ (aNilCheck (Abs.look fr 0))) fun t56 σ =>
  stepK (pureR σ (aFieldAddr 1 t56)) fun t57 σ =>
  Ev Go.Proofs.Tryz.prog 37 [(Abs.look fr 7)] σ (fun t54 σ =>
  Ev Go.Proofs.Tryz.prog 35 [t57, (Abs.look fr 6)] σ (fun t59 σ =>
  k (.tup [t54, t59]) σ
  ) kp) kp)) (fun j1 => (
  loopW (fun fr σ again => (
  stepK (pureR σ (aLenK .slice (Abs.look fr 6) σ)) fun t22 σ =>
  stepK (pureR σ (aBin .lss .prim (Abs.look fr 8) t22)) fun t23 σ =>
  condK t23 (
  seqW (fun fr σ => (
  stepK (pureR σ (aBin .add .prim (Abs.look fr 8) (.val (Go.Value.int Go.IntKind.i64 1)))) fun t25 σ =>
  again [(0, (Abs.look fr 0)), (6, (Abs.look fr 6)), (7, (Abs.look fr 7)), (8, t25)] σ
  )) (fun j2 => (
  stepK (pureR σ (aIndexAddr 1 (Abs.look fr 6) (Abs.look fr 8) σ)) fun t30 σ =>
  stepK (pureR σ (aLoad false 1 t30 σ)) fun t31 σ =>
  Ev Go.Proofs.Tryz.prog 17 [(Abs.look fr 0), t31] σ (fun t32 σ =>
  stepK (pureR σ (aExtract 0 t32)) fun t33 σ =>
  stepK (pureR σ (aExtract 1 t32)) fun t34 σ =>
  stepK (aAppend 3 32 (Abs.look fr 7) t33 σ) fun t37 σ =>
  stepK (pureR σ (aLenK .slice t34 σ)) fun t39 σ =>
  loopW (fun fr σ again => (
  stepK (pureR σ (aBin .lss .prim (Abs.look fr 40) (Abs.look fr 39))) fun t41 σ =>
  condK t41 (
  seqW (fun fr σ => (
  stepK (pureR σ (aBin .add .prim (Abs.look fr 40) (.val (Go.Value.int Go.IntKind.i64 1)))) fun t52 σ =>
  again [(0, (Abs.look fr 0)), (6, (Abs.look fr 6)), (7, (Abs.look fr 7)), (8, (Abs.look fr 8)), (38, (Abs.look fr 38)), (39, (Abs.look fr 39)), (40, t52)] σ
  )) (fun j3 => (
  stepK (pureR σ (aIndexAddr 1 (Abs.look fr 38) (Abs.look fr 40) σ)) fun t42 σ =>
  stepK (pureR σ (aLoad false 1 t42 σ)) fun t43 σ =>
  Ev Go.Proofs.Tryz.prog 36 [(Abs.look fr 6), t43] σ (fun t46 σ =>
  stepK (pureR σ (aNot t46)) fun t47 σ =>
  condK t47 (
  stepK (aBuildSlice 1 1 [.val (.int .i64 0)] [(0, t43)] σ) fun t50 σ =>
  stepK (aAppend 1 8 (Abs.look fr 6) t50 σ) fun t51 σ =>
  j3 [(0, (Abs.look fr 0)), (6, t51), (7, (Abs.look fr 7)), (8, (Abs.look fr 8)), (38, (Abs.look fr 38)), (39, (Abs.look fr 39)), (40, (Abs.look fr 40))] σ
  ) (
  j3 [(0, (Abs.look fr 0)), (6, (Abs.look fr 6)), (7, (Abs.look fr 7)), (8, (Abs.look fr 8)), (38, (Abs.look fr 38)), (39, (Abs.look fr 39)), (40, (Abs.look fr 40))] σ
  )
  ) kp))
  ) (
  j2 [(0, (Abs.look fr 0)), (6, (Abs.look fr 6)), (7, (Abs.look fr 7)), (8, (Abs.look fr 8))] σ
  )
  )) [(0, (Abs.look fr 0)), (6, (Abs.look fr 6)), (7, t37), (8, (Abs.look fr 8)), (38, t34), (39, t39), (40, (.val (Go.Value.int Go.IntKind.i64 0)))] σ
  ) kp))
  ) (
  j1 [(0, (Abs.look fr 0)), (6, (Abs.look fr 6)), (7, (Abs.look fr 7))] σ
  )
  )) [(0, t0), (6, t19), (7, (.val (Go.Value.slice Option.none 0 0))), (8, (.val (Go.Value.int Go.IntKind.i64 0)))] σ
  ))
  ) kp)
def keep14 : List (Nat × List Nat) := [(0, [0, 1]), (1, [0, 1, 14]), (2, [4, 5]), (3, [0, 6]), (4, [0, 6, 7]), (3017, [0, 6, 7]), (5, [0, 6, 7, 8]), (6, [0, 6, 7, 8, 23]), (3008, [0, 6, 7, 8]), (8, [0, 6, 7, 8, 9, 10]), (9, [0, 6, 7, 8, 10]), (10, [0, 6, 7, 8, 38, 39, 40]), (11, [0, 6, 7, 8, 38, 39, 40, 41]), (3016, [0, 6, 7, 8, 38, 39, 40]), (12, [0, 6, 7, 8, 12, 38, 39, 40]), (13, [0, 6, 7, 8, 12, 38, 39, 40, 47]), (14, [0, 6, 7, 8, 38, 39, 40]), (15, [0, 6, 7, 8, 38, 39, 40]), (1011, [0, 6, 7, 8, 38, 39, 40]), (7, [0, 6, 7, 8]), (1006, [0, 6, 7, 8]), (16, [4, 5]), (2016, [0, 2, 3, 4, 5, 1, 6, 7, 8])]
noncomputable def body14 : Code := (Go.Proofs.Tryz.f14).body.getD .skip
theorem F14_eq (t0 t1 : AV) (σ : AHeap) (k kp : AV → AHeap → Prop) : aw Go.Proofs.Tryz.prog (keepOf keep14) body14 (retK Go.Proofs.Tryz.prog (Go.Proofs.Tryz.f14).results.toList k kp) (frameOf 0 [t0, t1]) σ = F14 t0 t1 σ k kp := by kernel_rfl
theorem F14_ev {t0 t1 : AV} {σ : AHeap} {k kp : AV → AHeap → Prop} (h : F14 t0 t1 σ k kp) : Ev Go.Proofs.Tryz.prog 14 [t0, t1] σ k kp :=
  Ev_of_aw mixed Go.Proofs.Tryz.func14 (show (Go.Proofs.Tryz.f14).body = some body14 by kernel_rfl) (by kernel_rfl) (args := [t0, t1]) (of_decide_eq_true (by kernel_rfl)) (keepOf keep14) (by kernel_rfl) (by rw [F14_eq]; exact h)

/-- enclave/enclaveref11.Equal -/
def F15 (t0 t1 : AV) (σ : AHeap) (k kp : AV → AHeap → Prop) : Prop :=
  stepK (pureR σ (aLenK .slice t0 σ)) fun t7 σ =>
  stepK (pureR σ (aLenK .slice t1 σ)) fun t9 σ =>
  stepK (pureR σ (aBin .neq .prim t7 t9)) fun t10 σ =>
  condK t10 (
  k (.val (Go.Value.bool Bool.false)) σ
  ) (
  seqW (fun fr σ => (
  k (.val (Go.Value.bool Bool.true)) σ
  )) (fun j1 => (
  stepK (pureR σ (aLenK .slice t0 σ)) fun t12 σ =>
  loopW (fun fr σ again => (
  stepK (pureR σ (aBin .lss .prim (Abs.look fr 13) (Abs.look fr 12))) fun t14 σ =>
  condK t14 (
  stepK (pureR σ (aIndexAddr 3 (Abs.look fr 0) (Abs.look fr 13) σ)) fun t18 σ =>
  stepK (pureR σ (aLoad true 3 t18 σ)) fun t19 σ =>
  stepK (pureR σ (aIndexAddr 3 (Abs.look fr 1) (Abs.look fr 13) σ)) fun t22 σ =>
  stepK (pureR σ (aLoad true 3 t22 σ)) fun t23 σ =>
  stepK (pureR σ (aBin .neq (.agg [.i, .i, .s]) t19 t23)) fun t24 σ =>
  condK t24 (
  k (.val (Go.Value.bool Bool.false)) σ
  ) (
  stepK (pureR σ (aBin .add .prim (Abs.look fr 13) (.val (Go.Value.int Go.IntKind.i64 1)))) fun t25 σ =>
  again [(0, (Abs.look fr 0)), (1, (Abs.look fr 1)), (12, (Abs.look fr 12)), (13, t25)] σ
  )
  ) (
  j1 [(0, (Abs.look fr 0))] σ
  )
  )) [(0, t0), (1, t1), (12, t12), (13, (.val (Go.Value.int Go.IntKind.i64 0)))] σ
  ))
  )
def keep15 : List (Nat × List Nat) := [(0, [0, 1]), (1, [0, 1, 10]), (2, [4]), (3010, [0]), (3, [0, 1, 12, 13]), (4, [0, 1, 12, 13, 14]), (5, [0, 1, 5, 12, 13]), (6, [0, 1, 12, 13, 24]), (2006, [0, 1, 2, 3, 4, 5, 6, 7, 8]), (7, [4]), (8, [0, 1, 12, 13]), (1004, [0, 1, 12, 13]), (9, [4])]
noncomputable def body15 : Code := (Go.Proofs.Tryz.f15).body.getD .skip
theorem F15_eq (t0 t1 : AV) (σ : AHeap) (k kp : AV → AHeap → Prop) : aw Go.Proofs.Tryz.prog (keepOf keep15) body15 (retK Go.Proofs.Tryz.prog (Go.Proofs.Tryz.f15).results.toList k kp) (frameOf 0 [t0, t1]) σ = F15 t0 t1 σ k kp := by kernel_rfl
theorem F15_ev {t0 t1 : AV} {σ : AHeap} {k kp : AV → AHeap → Prop} (h : F15 t0 t1 σ k kp) : Ev Go.Proofs.Tryz.prog 15 [t0, t1] σ k kp :=
  Ev_of_aw mixed Go.Proofs.Tryz.func15 (show (Go.Proofs.Tryz.f15).body = some body15 by kernel_rfl) (by kernel_rfl) (args := [t0, t1]) (of_decide_eq_true (by kernel_rfl)) (keepOf keep15) (by kernel_rfl) (by rw [F15_eq]; exact h)

/-- enclave/enclaveref11.EqualInts -/
def F16 (t0 t1 : AV) (σ : AHeap) (k kp : AV → AHeap → Prop) : Prop :=
  stepK (pureR σ (aLenK .slice t0 σ)) fun t7 σ =>
  stepK (pureR σ (aLenK .slice t1 σ)) fun t9 σ =>
  stepK (pureR σ (aBin .neq .prim t7 t9)) fun t10 σ =>
  condK t10 (
  k (.val (Go.Value.bool Bool.false)) σ
  ) (
  seqW (fun fr σ => (
  k (.val (Go.Value.bool Bool.true)) σ
  )) (fun j1 => (
  stepK (pureR σ (aLenK .slice t0 σ)) fun t12 σ =>
  loopW (fun fr σ again => (
  stepK (pureR σ (aBin .lss .prim (Abs.look fr 13) (Abs.look fr 12))) fun t14 σ =>
  condK t14 (
  stepK (pureR σ (aIndexAddr 1 (Abs.look fr 0) (Abs.look fr 13) σ)) fun t18 σ =>
  stepK (pureR σ (aLoad false 1 t18 σ)) fun t19 σ =>
  stepK (pureR σ (aIndexAddr 1 (Abs.look fr 1) (Abs.look fr 13) σ)) fun t22 σ =>
  stepK (pureR σ (aLoad false 1 t22 σ)) fun t23 σ =>
  stepK (pureR σ (aBin .neq .prim t19 t23)) fun t24 σ =>
  condK t24 (
  k (.val (Go.Value.bool Bool.false)) σ
  ) (
  stepK (pureR σ (aBin .add .prim (Abs.look fr 13) (.val (Go.Value.int Go.IntKind.i64 1)))) fun t25 σ =>
  again [(0, (Abs.look fr 0)), (1, (Abs.look fr 1)), (12, (Abs.look fr 12)), (13, t25)] σ
  )
  ) (
  j1 [(0, (Abs.look fr 0))] σ
  )
  )) [(0, t0), (1, t1), (12, t12), (13, (.val (Go.Value.int Go.IntKind.i64 0)))] σ
  ))
  )
def keep16 : List (Nat × List Nat) := [(0, [0, 1]), (1, [0, 1, 10]), (2, [4]), (3010, [0]), (3, [0, 1, 12, 13]), (4, [0, 1, 12, 13, 14]), (5, [0, 1, 5, 12, 13]), (6, [0, 1, 12, 13, 24]), (2006, [0, 1, 2, 3, 4, 5, 6, 7, 8]), (7, [4]), (8, [0, 1, 12, 13]), (1004, [0, 1, 12, 13]), (9, [4])]
noncomputable def body16 : Code := (Go.Proofs.Tryz.f16).body.getD .skip
theorem F16_eq (t0 t1 : AV) (σ : AHeap) (k kp : AV → AHeap → Prop) : aw Go.Proofs.Tryz.prog (keepOf keep16) body16 (retK Go.Proofs.Tryz.prog (Go.Proofs.Tryz.f16).results.toList k kp) (frameOf 0 [t0, t1]) σ = F16 t0 t1 σ k kp := by kernel_rfl
theorem F16_ev {t0 t1 : AV} {σ : AHeap} {k kp : AV → AHeap → Prop} (h : F16 t0 t1 σ k kp) : Ev Go.Proofs.Tryz.prog 16 [t0, t1] σ k kp :=
  Ev_of_aw mixed Go.Proofs.Tryz.func16 (show (Go.Proofs.Tryz.f16).body = some body16 by kernel_rfl) (by kernel_rfl) (args := [t0, t1]) (of_decide_eq_true (by kernel_rfl)) (keepOf keep16) (by kernel_rfl) (by rw [F16_eq]; exact h)

/-- (*enclave/basis.Basis).Has -/
def F17 (t0 t1 : AV) (σ : AHeap) (k kp : AV → AHeap → Prop) : Prop :=
  stepK (pureR σ (aBin .eql .ptr t0 (.val (Go.Value.pointer Option.none)))) fun t8 σ =>
  gK t8 false (fun K => K t0 σ) (fun t10 σ =>
  gK t8 false (fun K => stepK (pureR σ (aNilCheck t10)) K) (fun t11 σ =>
  gK t8 false (fun K => stepK (pureR σ (aFieldAddr 1 t11)) K) (fun t12 σ =>
  gK t8 false (fun K => K t1 σ) (fun t13 σ =>
  gK t8 false (fun K => stepK (aBuildSlice 1 1 [.val (.int .i64 0)] [(0, t13)] σ) K) (fun t14 σ =>
  gK t8 false (fun K => Ev Go.Proofs.Tryz.prog 38 [t12, t14] σ K kp) (fun t15 σ =>
  gK t8 false (fun K => stepK (pureR σ (aNot t15)) K) (fun t16 σ =>
  stepK (pureR σ (aPick t8 (.val (Go.Value.bool Bool.true)) t16)) fun t17 σ =>
  condK t17 (
  k (.tup [(.val (Go.Value.slice Option.none 0 0)), (.val (Go.Value.slice Option.none 0 0))]) σ
  ) (
  seqW (fun fr σ => (
  stepK (pureR σ (aFieldAddr 0 (Abs.look fr 6))) fun t30 σ =>
  stepK (pureR σ (aLoad false 1 t30 σ)) fun t31 σ =>
  stepK (pureR σ (aNilCheck (Abs.look fr 0))) fun t34 σ =>
  stepK (pureR σ (aFieldAddr 1 t34)) fun t35 σ =>
  stepK (pureR σ (aFieldAddr 1 (Abs.look fr 6))) fun t36 σ =>
  stepK (pureR σ (aLoad false 1 t36 σ)) fun t37 σ =>
  Ev Go.Proofs.Tryz.prog 40 [(Abs.look fr 0), t31] σ (fun t32 σ =>
  (stepK (pureR σ (aLoad false 1 t36 σ)) (fun y θ => y = t37 ∧ θ = σ)) ∧ (
  Ev Go.Proofs.Tryz.prog 35 [t35, t37] σ (fun t38 σ =>
  k (.tup [t32, t38]) σ
  ) kp)) kp)) (fun j1 => (
  (
  stepK (pureR σ (aNilCheck t0)) fun t19 σ =>
  stepK (pureR σ (aFieldAddr 2 t19)) fun t20 σ =>
  stepK (pureR σ (aLoad false 1 t20 σ)) fun t21 σ =>
  stepK (pureR σ (aNilCheck t0)) fun t23 σ =>
  stepK (pureR σ (aFieldAddr 1 t23)) fun t24 σ =>
  Ev Go.Proofs.Tryz.prog 39 [t24, t1] σ (fun t26 σ =>
  (stepK (pureR σ (aLoad false 1 t20 σ)) (fun y θ => y = t21 ∧ θ = σ)) ∧ (
  stepK (pureR σ (aIndexAddr 2 t21 t26 σ)) fun t27 σ =>
  stepK (pureR σ (aLoad true 2 t27 σ)) fun t28 σ =>
  stepK (aAlloc [.val (.slice none 0 0), .val (.slice none 0 0)] σ) fun t6 σ =>
  (stepK (pureR σ (aLoad false 1 t20 σ)) (fun y θ => y = t21 ∧ θ = σ)) ∧ (
  (stepK (pureR σ (aIndexAddr 2 t21 t26 σ)) (fun y θ => y = t27 ∧ θ = σ)) ∧ (
  (stepK (pureR σ (aLoad true 2 t27 σ)) (fun y θ => y = t28 ∧ θ = σ)) ∧ (
  stepK (unitR (aStore 2 t6 t28 σ)) fun _ σ =>
  j1 [(0, t0), (6, t6)] σ
  ))))) kp) ∧ (
  stepK (pureR σ (aNilCheck t0)) fun t19 σ =>
  stepK (pureR σ (aFieldAddr 2 t19)) fun t20 σ =>
  stepK (pureR σ (aLoad false 1 t20 σ)) fun t21 σ =>
  stepK (pureR σ (aNilCheck t0)) fun t23 σ =>
  stepK (pureR σ (aFieldAddr 1 t23)) fun t24 σ =>
  stepK (aAlloc [.val (.slice none 0 0), .val (.slice none 0 0)] σ) fun t6 σ =>
  (stepK (pureR σ (aLoad false 1 t20 σ)) (fun y θ => y = t21 ∧ θ = σ)) ∧ (
  Ev Go.Proofs.Tryz.prog 39 [t24, t1] σ (fun t26 σ =>
  (stepK (pureR σ (aLoad false 1 t20 σ)) (fun y θ => y = t21 ∧ θ = σ)) ∧ (
  stepK (pureR σ (aIndexAddr 2 t21 t26 σ)) fun t27 σ =>
  stepK (pureR σ (aLoad true 2 t27 σ)) fun t28 σ =>
  stepK (unitR (aStore 2 t6 t28 σ)) fun _ σ =>
  j1 [(0, t0), (6, t6)] σ
  )) kp))))
  )) σ) σ) σ) σ) σ) σ) σ
def keep17 : List (Nat × List Nat) := [(0, [0, 1]), (1, [0, 1, 17]), (2, [4, 5]), (3005, [0, 6]), (3, [0, 6]), (2003, [0, 1, 2, 3, 4, 5, 6, 7, 8, 9, 10, 11, 12]), (103008, [3]), (103011, [3, 9, 10]), (60003, [1]), (19000003, [0, 1, 2, 3, 4, 5, 6, 7, 11, 8, 9, 10, 12]), (10003008, [3]), (10003011, [3]), (4, [4, 5]), (2004, [0, 1, 2, 4, 5, 6, 7, 8, 3, 9, 10, 11]), (104003, [8])]
noncomputable def body17 : Code := (Go.Proofs.Tryz.f17).body.getD .skip
theorem F17_eq (t0 t1 : AV) (σ : AHeap) (k kp : AV → AHeap → Prop) : aw Go.Proofs.Tryz.prog (keepOf keep17) body17 (retK Go.Proofs.Tryz.prog (Go.Proofs.Tryz.f17).results.toList k kp) (frameOf 0 [t0, t1]) σ = F17 t0 t1 σ k kp := by kernel_rfl
theorem F17_ev {t0 t1 : AV} {σ : AHeap} {k kp : AV → AHeap → Prop} (h : F17 t0 t1 σ k kp) : Ev Go.Proofs.Tryz.prog 17 [t0, t1] σ k kp :=
  Ev_of_aw mixed Go.Proofs.Tryz.func17 (show (Go.Proofs.Tryz.f17).body = some body17 by kernel_rfl) (by kernel_rfl) (args := [t0, t1]) (of_decide_eq_true (by kernel_rfl)) (keepOf keep17) (by kernel_rfl) (by rw [F17_eq]; exact h)

/-- (*enclave/basis.Basis).VarName -/
def F18 (t0 t1 : AV) (σ : AHeap) (k kp : AV → AHeap → Prop) : Prop :=
  stepK (pureR σ (aBin .eql .ptr t0 (.val (Go.Value.pointer Option.none)))) fun t6 σ =>
  condK t6 (
  k (.val (Go.Value.int Go.IntKind.i64 (-1))) σ
  ) (
  stepK (pureR σ (aNilCheck t0)) fun t8 σ =>
  stepK (pureR σ (aFieldAddr 1 t8)) fun t9 σ =>
  Ev Go.Proofs.Tryz.prog 39 [t9, t1] σ (fun t11 σ =>
  k t11 σ
  ) kp)
def keep18 : List (Nat × List Nat) := [(0, [0, 1]), (1, [0, 1, 6]), (2, [4]), (3, [4])]
noncomputable def body18 : Code := (Go.Proofs.Tryz.f18).body.getD .skip
theorem F18_eq (t0 t1 : AV) (σ : AHeap) (k kp : AV → AHeap → Prop) : aw Go.Proofs.Tryz.prog (keepOf keep18) body18 (retK Go.Proofs.Tryz.prog (Go.Proofs.Tryz.f18).results.toList k kp) (frameOf 0 [t0, t1]) σ = F18 t0 t1 σ k kp := by kernel_rfl
theorem F18_ev {t0 t1 : AV} {σ : AHeap} {k kp : AV → AHeap → Prop} (h : F18 t0 t1 σ k kp) : Ev Go.Proofs.Tryz.prog 18 [t0, t1] σ k kp :=
  Ev_of_aw mixed Go.Proofs.Tryz.func18 (show (Go.Proofs.Tryz.f18).body = some body18 by kernel_rfl) (by kernel_rfl) (args := [t0, t1]) (of_decide_eq_true (by kernel_rfl)) (keepOf keep18) (by kernel_rfl) (by rw [F18_eq]; exact h)

/-- enclave/enclaveref11.Within -/
def F19 (t0 t1 : AV) (σ : AHeap) (k kp : AV → AHeap → Prop) : Prop :=
  seqW (fun fr σ => (
  k (.val (Go.Value.bool Bool.true)) σ
  )) (fun j1 => (
  stepK (pureR σ (aLenK .slice t0 σ)) fun t7 σ =>
  loopW (fun fr σ again => (
  stepK (pureR σ (aBin .lss .prim (Abs.look fr 8) (Abs.look fr 7))) fun t9 σ =>
  condK t9 (
  stepK (pureR σ (aIndexAddr 3 (Abs.look fr 0) (Abs.look fr 8) σ)) fun t13 σ =>
  stepK (pureR σ (aLoad true 3 t13 σ)) fun t14 σ =>
  Ev Go.Proofs.Tryz.prog 41 [t14] σ (fun t15 σ =>
  gK t15 true (fun K => K (Abs.look fr 1) σ) (fun t17 σ =>
  gK t15 true (fun K => K (Abs.look fr 0) σ) (fun t18 σ =>
  gK t15 true (fun K => K (Abs.look fr 8) σ) (fun t19 σ =>
  gK t15 true (fun K => stepK (pureR σ (aIndexAddr 3 t18 t19 σ)) K) (fun t20 σ =>
  gK t15 true (fun K => stepK (pureR σ (aLoad true 3 t20 σ)) K) (fun t21 σ =>
  gK t15 true (fun K => Ev Go.Proofs.Tryz.prog 42 [t17, t21] σ K kp) (fun t22 σ =>
  gK t15 true (fun K => stepK (pureR σ (aNot t22)) K) (fun t23 σ =>
  stepK (pureR σ (aPick t15 t23 (.val (Go.Value.bool Bool.false)))) fun t24 σ =>
  condK t24 (
  k (.val (Go.Value.bool Bool.false)) σ
  ) (
  stepK (pureR σ (aBin .add .prim (Abs.look fr 8) (.val (Go.Value.int Go.IntKind.i64 1)))) fun t25 σ =>
  again [(0, (Abs.look fr 0)), (1, (Abs.look fr 1)), (7, (Abs.look fr 7)), (8, t25)] σ
  )
  ) σ) σ) σ) σ) σ) σ) σ) kp) (
  j1 [(0, (Abs.look fr 0))] σ
  )
  )) [(0, t0), (1, t1), (7, t7), (8, (.val (Go.Value.int Go.IntKind.i64 0)))] σ
  ))
def keep19 : List (Nat × List Nat) := [(0, [0, 1]), (3008, [0]), (1, [0, 1, 7, 8]), (2, [0, 1, 7, 8, 9]), (3, [0, 1, 5, 7, 8]), (4, [0, 1, 7, 8, 24]), (5, [4]), (6, [0, 1, 7, 8]), (1002, [0, 1, 7, 8]), (7, [4])]
noncomputable def body19 : Code := (Go.Proofs.Tryz.f19).body.getD .skip
theorem F19_eq (t0 t1 : AV) (σ : AHeap) (k kp : AV → AHeap → Prop) : aw Go.Proofs.Tryz.prog (keepOf keep19) body19 (retK Go.Proofs.Tryz.prog (Go.Proofs.Tryz.f19).results.toList k kp) (frameOf 0 [t0, t1]) σ = F19 t0 t1 σ k kp := by kernel_rfl
theorem F19_ev {t0 t1 : AV} {σ : AHeap} {k kp : AV → AHeap → Prop} (h : F19 t0 t1 σ k kp) : Ev Go.Proofs.Tryz.prog 19 [t0, t1] σ k kp :=
  Ev_of_aw mixed Go.Proofs.Tryz.func19 (show (Go.Proofs.Tryz.f19).body = some body19 by kernel_rfl) (by kernel_rfl) (args := [t0, t1]) (of_decide_eq_true (by kernel_rfl)) (keepOf keep19) (by kernel_rfl) (by rw [F19_eq]; exact h)

/-- enclave/enclaveref11.Ints -/
def F20 (t0 t1 : AV) (σ : AHeap) (k kp : AV → AHeap → Prop) : Prop :=
  seqW (fun fr σ => (
  k (.val (Go.Value.bool Bool.false)) σ
  )) (fun j1 => (
  stepK (pureR σ (aLenK .slice t0 σ)) fun t7 σ =>
  loopW (fun fr σ again => (
  stepK (pureR σ (aBin .lss .prim (Abs.look fr 8) (Abs.look fr 7))) fun t9 σ =>
  condK t9 (
  stepK (pureR σ (aIndexAddr 1 (Abs.look fr 0) (Abs.look fr 8) σ)) fun t13 σ =>
  stepK (pureR σ (aLoad false 1 t13 σ)) fun t14 σ =>
  stepK (pureR σ (aBin .eql .prim t14 (Abs.look fr 1))) fun t16 σ =>
  condK t16 (
  k (.val (Go.Value.bool Bool.true)) σ
  ) (
  stepK (pureR σ (aBin .add .prim (Abs.look fr 8) (.val (Go.Value.int Go.IntKind.i64 1)))) fun t17 σ =>
  again [(0, (Abs.look fr 0)), (1, (Abs.look fr 1)), (7, (Abs.look fr 7)), (8, t17)] σ
  )
  ) (
  j1 [(0, (Abs.look fr 0))] σ
  )
  )) [(0, t0), (1, t1), (7, t7), (8, (.val (Go.Value.int Go.IntKind.i64 0)))] σ
  ))
def keep20 : List (Nat × List Nat) := [(0, [0, 1]), (3008, [0]), (1, [0, 1, 7, 8]), (2, [0, 1, 7, 8, 9]), (3, [0, 1, 5, 7, 8]), (4, [0, 1, 7, 8, 16]), (5, [4]), (6, [0, 1, 7, 8]), (1002, [0, 1, 7, 8]), (7, [4])]
noncomputable def body20 : Code := (Go.Proofs.Tryz.f20).body.getD .skip
theorem F20_eq (t0 t1 : AV) (σ : AHeap) (k kp : AV → AHeap → Prop) : aw Go.Proofs.Tryz.prog (keepOf keep20) body20 (retK Go.Proofs.Tryz.prog (Go.Proofs.Tryz.f20).results.toList k kp) (frameOf 0 [t0, t1]) σ = F20 t0 t1 σ k kp := by kernel_rfl
theorem F20_ev {t0 t1 : AV} {σ : AHeap} {k kp : AV → AHeap → Prop} (h : F20 t0 t1 σ k kp) : Ev Go.Proofs.Tryz.prog 20 [t0, t1] σ k kp :=
  Ev_of_aw mixed Go.Proofs.Tryz.func20 (show (Go.Proofs.Tryz.f20).body = some body20 by kernel_rfl) (by kernel_rfl) (args := [t0, t1]) (of_decide_eq_true (by kernel_rfl)) (keepOf keep20) (by kernel_rfl) (by rw [F20_eq]; exact h)

/-- enclave/enclavelaw16.agrees -/
def F21 (t0 t1 t2 t3 t4 : AV) (σ : AHeap) (k kp : AV → AHeap → Prop) : Prop :=
  stepK (aBox t1 σ) fun t6 σ =>
  Ev Go.Proofs.Tryz.prog 17 [t0, t3] σ (fun t24 σ =>
  stepK (pureR σ (aExtract 0 t24)) fun t25 σ =>
  stepK (pureR σ (aExtract 1 t24)) fun t26 σ =>
  stepK (pureR σ (aLoad true 5 t6 σ)) fun t28 σ =>
  Ev Go.Proofs.Tryz.prog 43 [t28, t3] σ (fun t30 σ =>
  stepK (pureR σ (aExtract 0 t30)) fun t31 σ =>
  stepK (pureR σ (aExtract 1 t30)) fun t32 σ =>
  Ev Go.Proofs.Tryz.prog 14 [t0, t4] σ (fun t36 σ =>
  stepK (pureR σ (aExtract 0 t36)) fun t37 σ =>
  stepK (pureR σ (aExtract 1 t36)) fun t38 σ =>
  stepK (pureR σ (aLoad true 5 t6 σ)) fun t40 σ =>
  Ev Go.Proofs.Tryz.prog 44 [t40, t4] σ (fun t42 σ =>
  stepK (pureR σ (aExtract 0 t42)) fun t43 σ =>
  stepK (pureR σ (aExtract 1 t42)) fun t44 σ =>
  Ev Go.Proofs.Tryz.prog 23 [t0] σ (fun t47 σ =>
  stepK (pureR σ (aExtract 0 t47)) fun t48 σ =>
  stepK (pureR σ (aExtract 1 t47)) fun t49 σ =>
  stepK (pureR σ (aFieldAddr 0 t6)) fun t51 σ =>
  stepK (pureR σ (aLoad false 1 t51 σ)) fun t52 σ =>
  stepK (pureR σ (aBin .neq .prim t48 t52)) fun t53 σ =>
  gK t53 false (fun K => K t49 σ) (fun t55 σ =>
  gK t53 false (fun K => stepK (pureR σ (aFieldAddr 1 t6)) K) (fun t56 σ =>
  gK t53 false (fun K => stepK (pureR σ (aLoad false 1 t56 σ)) K) (fun t57 σ =>
  gK t53 false (fun K => stepK (pureR σ (aBin .neq .prim t55 t57)) K) (fun t58 σ =>
  stepK (pureR σ (aPick t53 (.val (Go.Value.bool Bool.true)) t58)) fun t59 σ =>
  gK t59 false (fun K => K t0 σ) (fun t61 σ =>
  gK t59 false (fun K => K t2 σ) (fun t62 σ =>
  gK t59 false (fun K => stepK (pureR σ (aLoad true 5 t6 σ)) K) (fun t64 σ =>
  gK t59 false (fun K => K t2 σ) (fun t65 σ =>
  gK t59 false (fun K => Ev Go.Proofs.Tryz.prog 24 [t61, t62] σ K kp) (fun t63 σ =>
  (gK t59 false (fun K => stepK (pureR σ (aLoad true 5 t6 σ)) K) (fun y θ => y = t64 ∧ θ = σ) σ) ∧ (
  gK t59 false (fun K => Ev Go.Proofs.Tryz.prog 45 [t64, t65] σ K kp) (fun t66 σ =>
  gK t59 false (fun K => stepK (pureR σ (aBin .neq .prim t63 t66)) K) (fun t67 σ =>
  stepK (pureR σ (aPick t59 (.val (Go.Value.bool Bool.true)) t67)) fun t68 σ =>
  gK t68 false (fun K => K t0 σ) (fun t70 σ =>
  gK t68 false (fun K => K t3 σ) (fun t71 σ =>
  gK t68 false (fun K => stepK (pureR σ (aLoad true 5 t6 σ)) K) (fun t73 σ =>
  gK t68 false (fun K => K t3 σ) (fun t74 σ =>
  gK t68 false (fun K => Ev Go.Proofs.Tryz.prog 18 [t70, t71] σ K kp) (fun t72 σ =>
  (gK t68 false (fun K => stepK (pureR σ (aLoad true 5 t6 σ)) K) (fun y θ => y = t73 ∧ θ = σ) σ) ∧ (
  gK t68 false (fun K => Ev Go.Proofs.Tryz.prog 46 [t73, t74] σ K kp) (fun t75 σ =>
  gK t68 false (fun K => stepK (pureR σ (aBin .neq .prim t72 t75)) K) (fun t76 σ =>
  stepK (pureR σ (aPick t68 (.val (Go.Value.bool Bool.true)) t76)) fun t77 σ =>
  condK t77 (
  k (.val (Go.Value.bool Bool.false)) σ
  ) (
  Ev Go.Proofs.Tryz.prog 15 [t25, t31] σ (fun t80 σ =>
  gK t80 true (fun K => K t26 σ) (fun t82 σ =>
  gK t80 true (fun K => K t32 σ) (fun t83 σ =>
  gK t80 true (fun K => Ev Go.Proofs.Tryz.prog 16 [t82, t83] σ K kp) (fun t84 σ =>
  stepK (pureR σ (aPick t80 t84 (.val (Go.Value.bool Bool.false)))) fun t85 σ =>
  gK t85 true (fun K => K t37 σ) (fun t87 σ =>
  gK t85 true (fun K => K t43 σ) (fun t88 σ =>
  gK t85 true (fun K => Ev Go.Proofs.Tryz.prog 15 [t87, t88] σ K kp) (fun t89 σ =>
  stepK (pureR σ (aPick t85 t89 (.val (Go.Value.bool Bool.false)))) fun t90 σ =>
  gK t90 true (fun K => K t38 σ) (fun t92 σ =>
  gK t90 true (fun K => K t44 σ) (fun t93 σ =>
  gK t90 true (fun K => Ev Go.Proofs.Tryz.prog 16 [t92, t93] σ K kp) (fun t94 σ =>
  stepK (pureR σ (aPick t90 t94 (.val (Go.Value.bool Bool.false)))) fun t95 σ =>
  k t95 σ
  ) σ) σ) σ) σ) σ) σ) σ) σ) σ) kp)) σ) σ)) σ) σ) σ) σ) σ) σ) σ)) σ) σ) σ) σ) σ) σ) σ) σ) σ) kp) kp) kp) kp) kp
def keep21 : List (Nat × List Nat) := [(0, [0, 2, 3, 4, 6]), (1, [0, 2, 3, 4, 6, 11, 12]), (2, [0, 2, 3, 4, 6, 11, 12, 13, 14]), (3, [0, 2, 3, 4, 6, 11, 12, 13, 14, 15, 16]), (4, [0, 2, 3, 6, 11, 12, 13, 14, 15, 16, 17, 18]), (5, [0, 2, 3, 6, 11, 12, 13, 14, 15, 16, 17, 18, 19, 20]), (6, [11, 12, 13, 14, 15, 16, 17, 18, 77]), (2006, [0, 1, 2, 3, 4, 5, 6, 7, 8, 9, 10, 11, 12, 14, 15, 13, 16, 17, 18, 19, 20, 21, 23, 24, 22, 25, 26, 27]), (106013, [14]), (106022, [23]), (7, [10]), (8, [10])]
noncomputable def body21 : Code := (Go.Proofs.Tryz.f21).body.getD .skip
theorem F21_eq (t0 t1 t2 t3 t4 : AV) (σ : AHeap) (k kp : AV → AHeap → Prop) : aw Go.Proofs.Tryz.prog (keepOf keep21) body21 (retK Go.Proofs.Tryz.prog (Go.Proofs.Tryz.f21).results.toList k kp) (frameOf 0 [t0, t1, t2, t3, t4]) σ = F21 t0 t1 t2 t3 t4 σ k kp := by kernel_rfl
theorem F21_ev {t0 t1 t2 t3 t4 : AV} {σ : AHeap} {k kp : AV → AHeap → Prop} (h : F21 t0 t1 t2 t3 t4 σ k kp) : Ev Go.Proofs.Tryz.prog 21 [t0, t1, t2, t3, t4] σ k kp :=
  Ev_of_aw mixed Go.Proofs.Tryz.func21 (show (Go.Proofs.Tryz.f21).body = some body21 by kernel_rfl) (by kernel_rfl) (args := [t0, t1, t2, t3, t4]) (of_decide_eq_true (by kernel_rfl)) (keepOf keep21) (by kernel_rfl) (by rw [F21_eq]; exact h)

/-- (*enclave/basis.Basis).Copy -/
def F22 (t0 : AV) (σ : AHeap) (k kp : AV → AHeap → Prop) : Prop :=
  stepK (pureR σ (aBin .eql .ptr t0 (.val (Go.Value.pointer Option.none)))) fun t4 σ =>
  condK t4 (
  k (.val (Go.Value.pointer Option.none)) σ
  ) (
  stepK (pureR σ (aNilCheck t0)) fun t6 σ =>
  stepK (pureR σ (aFieldAddr 0 t6)) fun t7 σ =>
  stepK (pureR σ (aFieldAddr 0 t7)) fun t8 σ =>
  stepK (pureR σ (aLoad false 1 t8 σ)) fun t9 σ =>
  stepK (pureR σ (aNilCheck t0)) fun t13 σ =>
  stepK (pureR σ (aFieldAddr 1 t13)) fun t14 σ =>
  stepK (pureR σ (aFieldAddr 0 t14)) fun t15 σ =>
  stepK (pureR σ (aLoad false 1 t15 σ)) fun t16 σ =>
  stepK (pureR σ (aNilCheck t0)) fun t20 σ =>
  stepK (pureR σ (aFieldAddr 2 t20)) fun t21 σ =>
  stepK (pureR σ (aLoad false 1 t21 σ)) fun t22 σ =>
  Ev Go.Proofs.Tryz.prog 47 [t9] σ (fun t10 σ =>
  (stepK (pureR σ (aLoad false 1 t15 σ)) (fun y θ => y = t16 ∧ θ = σ)) ∧ (
  (stepK (pureR σ (aLoad false 1 t21 σ)) (fun y θ => y = t22 ∧ θ = σ)) ∧ (
  stepK (pureR σ (aBuild [.val (.slice none 0 0)] [(0, 1, t10)])) fun t11 σ =>
  Ev Go.Proofs.Tryz.prog 47 [t16] σ (fun t17 σ =>
  (stepK (pureR σ (aLoad false 1 t21 σ)) (fun y θ => y = t22 ∧ θ = σ)) ∧ (
  stepK (pureR σ (aBuild [.val (.slice none 0 0)] [(0, 1, t17)])) fun t18 σ =>
  Ev Go.Proofs.Tryz.prog 48 [t22] σ (fun t23 σ =>
  stepK (pureR σ (aBuild [.val (.slice none 0 0), .val (.slice none 0 0), .val (.slice none 0 0)] [(0, 1, t11), (1, 1, t18), (2, 1, t23)])) fun t24 σ =>
  stepK (aBox t24 σ) fun t25 σ =>
  k t25 σ
  ) kp)) kp))) kp)
def keep22 : List (Nat × List Nat) := [(0, [0]), (1, [0, 4]), (2, [2]), (3, [2]), (2003, [0, 1, 2, 3, 4, 7, 8, 9, 10, 11, 14, 15, 16, 17, 5, 6, 12, 13, 18, 19, 20, 21]), (103005, [11, 17]), (103012, [17])]
noncomputable def body22 : Code := (Go.Proofs.Tryz.f22).body.getD .skip
theorem F22_eq (t0 : AV) (σ : AHeap) (k kp : AV → AHeap → Prop) : aw Go.Proofs.Tryz.prog (keepOf keep22) body22 (retK Go.Proofs.Tryz.prog (Go.Proofs.Tryz.f22).results.toList k kp) (frameOf 0 [t0]) σ = F22 t0 σ k kp := by kernel_rfl
theorem F22_ev {t0 : AV} {σ : AHeap} {k kp : AV → AHeap → Prop} (h : F22 t0 σ k kp) : Ev Go.Proofs.Tryz.prog 22 [t0] σ k kp :=
  Ev_of_aw mixed Go.Proofs.Tryz.func22 (show (Go.Proofs.Tryz.f22).body = some body22 by kernel_rfl) (by kernel_rfl) (args := [t0]) (of_decide_eq_true (by kernel_rfl)) (keepOf keep22) (by kernel_rfl) (by rw [F22_eq]; exact h)

/-- (*enclave/basis.Basis).Count -/
def F23 (t0 : AV) (σ : AHeap) (k kp : AV → AHeap → Prop) : Prop :=
  stepK (pureR σ (aBin .eql .ptr t0 (.val (Go.Value.pointer Option.none)))) fun t5 σ =>
  condK t5 (
  k (.tup [(.val (Go.Value.int Go.IntKind.i64 0)), (.val (Go.Value.int Go.IntKind.i64 0))]) σ
  ) (
  stepK (pureR σ (aNilCheck t0)) fun t7 σ =>
  stepK (pureR σ (aFieldAddr 0 t7)) fun t8 σ =>
  stepK (pureR σ (aFieldAddr 0 t8)) fun t9 σ =>
  stepK (pureR σ (aLoad false 1 t9 σ)) fun t10 σ =>
  stepK (pureR σ (aLenK .slice t10 σ)) fun t11 σ =>
  stepK (pureR σ (aNilCheck t0)) fun t13 σ =>
  stepK (pureR σ (aFieldAddr 1 t13)) fun t14 σ =>
  stepK (pureR σ (aFieldAddr 0 t14)) fun t15 σ =>
  stepK (pureR σ (aLoad false 1 t15 σ)) fun t16 σ =>
  stepK (pureR σ (aLenK .slice t16 σ)) fun t17 σ =>
  k (.tup [t11, t17]) σ
  )
def keep23 : List (Nat × List Nat) := [(0, [0]), (1, [0, 5]), (2, [2, 3]), (3, [2, 3]), (2003, [0, 1, 2, 3, 4, 5, 6, 7, 8, 9, 10, 11, 12, 13])]
noncomputable def body23 : Code := (Go.Proofs.Tryz.f23).body.getD .skip
theorem F23_eq (t0 : AV) (σ : AHeap) (k kp : AV → AHeap → Prop) : aw Go.Proofs.Tryz.prog (keepOf keep23) body23 (retK Go.Proofs.Tryz.prog (Go.Proofs.Tryz.f23).results.toList k kp) (frameOf 0 [t0]) σ = F23 t0 σ k kp := by kernel_rfl
theorem F23_ev {t0 : AV} {σ : AHeap} {k kp : AV → AHeap → Prop} (h : F23 t0 σ k kp) : Ev Go.Proofs.Tryz.prog 23 [t0] σ k kp :=
  Ev_of_aw mixed Go.Proofs.Tryz.func23 (show (Go.Proofs.Tryz.f23).body = some body23 by kernel_rfl) (by kernel_rfl) (args := [t0]) (of_decide_eq_true (by kernel_rfl)) (keepOf keep23) (by kernel_rfl) (by rw [F23_eq]; exact h)

/-- (*enclave/basis.Basis).Name -/
def F24 (t0 t1 : AV) (σ : AHeap) (k kp : AV → AHeap → Prop) : Prop :=
  stepK (pureR σ (aBin .eql .ptr t0 (.val (Go.Value.pointer Option.none)))) fun t6 σ =>
  condK t6 (
  k (.val (Go.Value.int Go.IntKind.i64 (-1))) σ
  ) (
  stepK (pureR σ (aNilCheck t0)) fun t8 σ =>
  stepK (pureR σ (aFieldAddr 0 t8)) fun t9 σ =>
  Ev Go.Proofs.Tryz.prog 39 [t9, t1] σ (fun t11 σ =>
  k t11 σ
  ) kp)
def keep24 : List (Nat × List Nat) := [(0, [0, 1]), (1, [0, 1, 6]), (2, [4]), (3, [4])]
noncomputable def body24 : Code := (Go.Proofs.Tryz.f24).body.getD .skip
theorem F24_eq (t0 t1 : AV) (σ : AHeap) (k kp : AV → AHeap → Prop) : aw Go.Proofs.Tryz.prog (keepOf keep24) body24 (retK Go.Proofs.Tryz.prog (Go.Proofs.Tryz.f24).results.toList k kp) (frameOf 0 [t0, t1]) σ = F24 t0 t1 σ k kp := by kernel_rfl
theorem F24_ev {t0 t1 : AV} {σ : AHeap} {k kp : AV → AHeap → Prop} (h : F24 t0 t1 σ k kp) : Ev Go.Proofs.Tryz.prog 24 [t0, t1] σ k kp :=
  Ev_of_aw mixed Go.Proofs.Tryz.func24 (show (Go.Proofs.Tryz.f24).body = some body24 by kernel_rfl) (by kernel_rfl) (args := [t0, t1]) (of_decide_eq_true (by kernel_rfl)) (keepOf keep24) (by kernel_rfl) (by rw [F24_eq]; exact h)

/-- (*enclave/basis.Basis).Join -/
def F25 (t0 t1 : AV) (σ : AHeap) (k kp : AV → AHeap → Prop) : Prop :=
  stepK (pureR σ (aBin .eql .ptr t0 (.val (Go.Value.pointer Option.none)))) fun t8 σ =>
  gK t8 false (fun K => K t0 σ) (fun t10 σ =>
  gK t8 false (fun K => stepK (pureR σ (aNilCheck t10)) K) (fun t11 σ =>
  gK t8 false (fun K => stepK (pureR σ (aFieldAddr 0 t11)) K) (fun t12 σ =>
  gK t8 false (fun K => K t1 σ) (fun t13 σ =>
  gK t8 false (fun K => Ev Go.Proofs.Tryz.prog 38 [t12, t13] σ K kp) (fun t14 σ =>
  gK t8 false (fun K => stepK (pureR σ (aNot t14)) K) (fun t15 σ =>
  stepK (pureR σ (aPick t8 (.val (Go.Value.bool Bool.true)) t15)) fun t16 σ =>
  condK t16 (
  stepK (pureR σ (aLenK .slice t1 σ)) fun t18 σ =>
  stepK (pureR σ (aBin .eql .prim t18 (.val (Go.Value.int Go.IntKind.i64 0)))) fun t19 σ =>
  k t19 σ
  ) (
  seqW (fun fr σ => (
  k (.val (Go.Value.bool Bool.true)) σ
  )) (fun j1 => (
  stepK (pureR σ (aLenK .slice t1 σ)) fun t21 σ =>
  loopW (fun fr σ again => (
  stepK (pureR σ (aBin .lss .prim (Abs.look fr 22) (Abs.look fr 21))) fun t23 σ =>
  condK t23 (
  stepK (pureR σ (aIndexAddr 1 (Abs.look fr 20) (Abs.look fr 22) σ)) fun t24 σ =>
  stepK (pureR σ (aLoad false 1 t24 σ)) fun t25 σ =>
  stepK (pureR σ (aNilCheck (Abs.look fr 0))) fun t27 σ =>
  stepK (pureR σ (aFieldAddr 0 t27)) fun t28 σ =>
  stepK (pureR σ (aIndexAddr 1 (Abs.look fr 1) (.val (Go.Value.int Go.IntKind.i64 0)) σ)) fun t30 σ =>
  stepK (pureR σ (aLoad false 1 t30 σ)) fun t31 σ =>
  Ev Go.Proofs.Tryz.prog 49 [t28, t31, t25] σ (fun t33 σ =>
  stepK (pureR σ (aBin .add .prim (Abs.look fr 22) (.val (Go.Value.int Go.IntKind.i64 1)))) fun t34 σ =>
  again [(0, (Abs.look fr 0)), (1, (Abs.look fr 1)), (20, (Abs.look fr 20)), (21, (Abs.look fr 21)), (22, t34)] σ
  ) kp) (
  j1 [(0, (Abs.look fr 0))] σ
  )
  )) [(0, t0), (1, t1), (20, t1), (21, t21), (22, (.val (Go.Value.int Go.IntKind.i64 0)))] σ
  ))
  )) σ) σ) σ) σ) σ) σ
def keep25 : List (Nat × List Nat) := [(0, [0, 1]), (1, [0, 1, 16]), (2, [4]), (3009, [0]), (3, [0, 1, 20, 21, 22]), (4, [0, 1, 20, 21, 22, 23]), (5, [0, 1, 6, 20, 21, 22]), (6, [0, 1, 20, 21, 22]), (2006, [0, 1, 2, 3, 4, 5, 6, 7]), (7, [0, 1, 20, 21, 22]), (1004, [0, 1, 20, 21, 22]), (8, [4])]
noncomputable def body25 : Code := (Go.Proofs.Tryz.f25).body.getD .skip
theorem F25_eq (t0 t1 : AV) (σ : AHeap) (k kp : AV → AHeap → Prop) : aw Go.Proofs.Tryz.prog (keepOf keep25) body25 (retK Go.Proofs.Tryz.prog (Go.Proofs.Tryz.f25).results.toList k kp) (frameOf 0 [t0, t1]) σ = F25 t0 t1 σ k kp := by kernel_rfl
theorem F25_ev {t0 t1 : AV} {σ : AHeap} {k kp : AV → AHeap → Prop} (h : F25 t0 t1 σ k kp) : Ev Go.Proofs.Tryz.prog 25 [t0, t1] σ k kp :=
  Ev_of_aw mixed Go.Proofs.Tryz.func25 (show (Go.Proofs.Tryz.f25).body = some body25 by kernel_rfl) (by kernel_rfl) (args := [t0, t1]) (of_decide_eq_true (by kernel_rfl)) (keepOf keep25) (by kernel_rfl) (by rw [F25_eq]; exact h)

/-- (*enclave/basis.Basis).JoinVars -/
def F26 (t0 t1 : AV) (σ : AHeap) (k kp : AV → AHeap → Prop) : Prop :=
  stepK (pureR σ (aBin .eql .ptr t0 (.val (Go.Value.pointer Option.none)))) fun t12 σ =>
  gK t12 false (fun K => K t0 σ) (fun t14 σ =>
  gK t12 false (fun K => stepK (pureR σ (aNilCheck t14)) K) (fun t15 σ =>
  gK t12 false (fun K => stepK (pureR σ (aFieldAddr 1 t15)) K) (fun t16 σ =>
  gK t12 false (fun K => K t1 σ) (fun t17 σ =>
  gK t12 false (fun K => Ev Go.Proofs.Tryz.prog 38 [t16, t17] σ K kp) (fun t18 σ =>
  gK t12 false (fun K => stepK (pureR σ (aNot t18)) K) (fun t19 σ =>
  stepK (pureR σ (aPick t12 (.val (Go.Value.bool Bool.true)) t19)) fun t20 σ =>
  condK t20 (
  stepK (pureR σ (aLenK .slice t1 σ)) fun t22 σ =>
  stepK (pureR σ (aBin .eql .prim t22 (.val (Go.Value.int Go.IntKind.i64 0)))) fun t23 σ =>
  k t23 σ
  ) (
  seqW (fun fr σ => (
  k (.val (Go.Value.bool Bool.true)) σ
  )) (fun j1 => (
  stepK (pureR σ (aLenK .slice t1 σ)) fun t25 σ =>
  loopW (fun fr σ again => (
  stepK (pureR σ (aBin .lss .prim (Abs.look fr 26) (Abs.look fr 25))) fun t27 σ =>
  condK t27 (
  seqW (fun fr σ => (
  stepK (pureR σ (aBin .add .prim (Abs.look fr 26) (.val (Go.Value.int Go.IntKind.i64 1)))) fun t93 σ =>
  again [(0, (Abs.look fr 0)), (1, (Abs.look fr 1)), (24, (Abs.look fr 24)), (25, (Abs.look fr 25)), (26, t93)] σ
  )) (fun j2 => (
  stepK (pureR σ (aIndexAddr 1 (Abs.look fr 24) (Abs.look fr 26) σ)) fun t28 σ =>
  stepK (pureR σ (aLoad false 1 t28 σ)) fun t29 σ =>
  stepK (pureR σ (aNilCheck (Abs.look fr 0))) fun t31 σ =>
  stepK (pureR σ (aFieldAddr 1 t31)) fun t32 σ =>
  stepK (pureR σ (aIndexAddr 1 (Abs.look fr 1) (.val (Go.Value.int Go.IntKind.i64 0)) σ)) fun t34 σ =>
  stepK (pureR σ (aLoad false 1 t34 σ)) fun t35 σ =>
  stepK (pureR σ (aNilCheck (Abs.look fr 0))) fun t38 σ =>
  stepK (pureR σ (aFieldAddr 1 t38)) fun t39 σ =>
  Ev Go.Proofs.Tryz.prog 39 [t32, t35] σ (fun t36 σ =>
  Ev Go.Proofs.Tryz.prog 39 [t39, t29] σ (fun t41 σ =>
  stepK (pureR σ (aBin .eql .prim t36 t41)) fun t44 σ =>
  condK t44 (
  j2 [(0, (Abs.look fr 0)), (1, (Abs.look fr 1)), (24, (Abs.look fr 24)), (25, (Abs.look fr 25)), (26, (Abs.look fr 26))] σ
  ) (
  stepK (pureR σ (aNilCheck (Abs.look fr 0))) fun t46 σ =>
  stepK (pureR σ (aFieldAddr 1 t46)) fun t47 σ =>
  Ev Go.Proofs.Tryz.prog 49 [t47, t36, t41] σ (fun t50 σ =>
  stepK (pureR σ (aNilCheck (Abs.look fr 0))) fun t52 σ =>
  stepK (pureR σ (aFieldAddr 2 t52)) fun t53 σ =>
  stepK (pureR σ (aLoad false 1 t53 σ)) fun t54 σ =>
  stepK (pureR σ (aMin t36 t41)) fun t57 σ =>
  stepK (pureR σ (aIndexAddr 2 t54 t57 σ)) fun t58 σ =>
  stepK (pureR σ (aNilCheck (Abs.look fr 0))) fun t60 σ =>
  stepK (pureR σ (aFieldAddr 2 t60)) fun t61 σ =>
  stepK (pureR σ (aLoad false 1 t61 σ)) fun t62 σ =>
  stepK (pureR σ (aMax t36 t41)) fun t65 σ =>
  stepK (pureR σ (aIndexAddr 2 t62 t65 σ)) fun t66 σ =>
  stepK (pureR σ (aNilCheck t58)) fun t69 σ =>
  stepK (pureR σ (aFieldAddr 0 t69)) fun t70 σ =>
  stepK (pureR σ (aLoad false 1 t70 σ)) fun t71 σ =>
  stepK (pureR σ (aNilCheck t66)) fun t74 σ =>
  stepK (pureR σ (aFieldAddr 0 t74)) fun t75 σ =>
  stepK (pureR σ (aLoad false 1 t75 σ)) fun t76 σ =>
  Ev Go.Proofs.Tryz.prog 50 [t71] σ (fun t72 σ =>
  (stepK (pureR σ (aLoad false 1 t75 σ)) (fun y θ => y = t76 ∧ θ = σ)) ∧ (
  stepK (aAppend 3 32 t72 t76 σ) fun t77 σ =>
  stepK (pureR σ (aNilCheck t58)) fun t78 σ =>
  stepK (pureR σ (aFieldAddr 0 t78)) fun t79 σ =>
  stepK (unitR (aStore 1 t79 t77 σ)) fun _ σ =>
  stepK (pureR σ (aNilCheck t58)) fun t82 σ =>
  stepK (pureR σ (aFieldAddr 1 t82)) fun t83 σ =>
  stepK (pureR σ (aLoad false 1 t83 σ)) fun t84 σ =>
  stepK (pureR σ (aNilCheck t66)) fun t87 σ =>
  stepK (pureR σ (aFieldAddr 1 t87)) fun t88 σ =>
  stepK (pureR σ (aLoad false 1 t88 σ)) fun t89 σ =>
  Ev Go.Proofs.Tryz.prog 51 [t84] σ (fun t85 σ =>
  (stepK (pureR σ (aLoad false 1 t88 σ)) (fun y θ => y = t89 ∧ θ = σ)) ∧ (
  stepK (aAppend 1 8 t85 t89 σ) fun t90 σ =>
  stepK (pureR σ (aNilCheck t58)) fun t91 σ =>
  stepK (pureR σ (aFieldAddr 1 t91)) fun t92 σ =>
  stepK (unitR (aStore 1 t92 t90 σ)) fun _ σ =>
  j2 [(0, (Abs.look fr 0)), (1, (Abs.look fr 1)), (24, (Abs.look fr 24)), (25, (Abs.look fr 25)), (26, (Abs.look fr 26))] σ
  )) kp)) kp) kp)
  ) kp) kp))
  ) (
  j1 [(0, (Abs.look fr 0))] σ
  )
  )) [(0, t0), (1, t1), (24, t1), (25, t25), (26, (.val (Go.Value.int Go.IntKind.i64 0)))] σ
  ))
  )) σ) σ) σ) σ) σ) σ
def keep26 : List (Nat × List Nat) := [(0, [0, 1]), (1, [0, 1, 20]), (2, [4]), (3014, [0]), (3, [0, 1, 24, 25, 26]), (4, [0, 1, 24, 25, 26, 27]), (3013, [0, 1, 24, 25, 26]), (5, [0, 1, 6, 24, 25, 26]), (6, [0, 1, 7, 8, 24, 25, 26]), (2006, [0, 1, 2, 3, 4, 5, 7, 8, 9, 10, 6, 11, 12, 13]), (7, [0, 1, 7, 8, 24, 25, 26, 44]), (8, [0, 1, 7, 8, 24, 25, 26]), (9, [0, 1, 9, 10, 24, 25, 26]), (2009, [0, 1, 2, 3, 4, 5, 6, 7, 8, 9, 10, 11, 12, 13, 14, 15, 16, 17]), (10, [0, 1, 9, 10, 24, 25, 26]), (2010, [0, 1, 2, 3, 4, 6, 7, 8, 9, 5, 10, 11, 12, 13]), (110005, [9]), (11, [0, 1, 24, 25, 26]), (2011, [0, 1, 2, 3, 4, 6, 7, 8, 9, 5, 10, 11, 12, 13]), (111005, [9]), (12, [0, 1, 24, 25, 26]), (1004, [0, 1, 24, 25, 26]), (13, [4])]
noncomputable def body26 : Code := (Go.Proofs.Tryz.f26).body.getD .skip
theorem F26_eq (t0 t1 : AV) (σ : AHeap) (k kp : AV → AHeap → Prop) : aw Go.Proofs.Tryz.prog (keepOf keep26) body26 (retK Go.Proofs.Tryz.prog (Go.Proofs.Tryz.f26).results.toList k kp) (frameOf 0 [t0, t1]) σ = F26 t0 t1 σ k kp := by kernel_rfl
theorem F26_ev {t0 t1 : AV} {σ : AHeap} {k kp : AV → AHeap → Prop} (h : F26 t0 t1 σ k kp) : Ev Go.Proofs.Tryz.prog 26 [t0, t1] σ k kp :=
  Ev_of_aw mixed Go.Proofs.Tryz.func26 (show (Go.Proofs.Tryz.f26).body = some body26 by kernel_rfl) (by kernel_rfl) (args := [t0, t1]) (of_decide_eq_true (by kernel_rfl)) (keepOf keep26) (by kernel_rfl) (by rw [F26_eq]; exact h)

/-- (*enclave/basis.Basis).Add -/
def F27 (t0 t1 t2 t3 : AV) (σ : AHeap) (k kp : AV → AHeap → Prop) : Prop :=
  stepK (pureR σ (aBin .eql .ptr t0 (.val (Go.Value.pointer Option.none)))) fun t11 σ =>
  gK t11 false (fun K => K t0 σ) (fun t13 σ =>
  gK t11 false (fun K => stepK (pureR σ (aNilCheck t13)) K) (fun t14 σ =>
  gK t11 false (fun K => stepK (pureR σ (aFieldAddr 1 t14)) K) (fun t15 σ =>
  gK t11 false (fun K => K t1 σ) (fun t16 σ =>
  gK t11 false (fun K => stepK (pureR σ (aBuildSl 1 1 [.val (.int .i64 0)] [(0, t16)])) K) (fun t17 σ =>
  gK t11 false (fun K => Ev Go.Proofs.Tryz.prog 38 [t15, t17] σ K kp) (fun t18 σ =>
  gK t11 false (fun K => stepK (pureR σ (aNot t18)) K) (fun t19 σ =>
  stepK (pureR σ (aPick t11 (.val (Go.Value.bool Bool.true)) t19)) fun t20 σ =>
  gK t20 false (fun K => K t0 σ) (fun t22 σ =>
  gK t20 false (fun K => stepK (pureR σ (aNilCheck t22)) K) (fun t23 σ =>
  gK t20 false (fun K => stepK (pureR σ (aFieldAddr 1 t23)) K) (fun t24 σ =>
  gK t20 false (fun K => K t3 σ) (fun t25 σ =>
  gK t20 false (fun K => Ev Go.Proofs.Tryz.prog 38 [t24, t25] σ K kp) (fun t26 σ =>
  gK t20 false (fun K => stepK (pureR σ (aNot t26)) K) (fun t27 σ =>
  stepK (pureR σ (aPick t20 (.val (Go.Value.bool Bool.true)) t27)) fun t28 σ =>
  gK t28 false (fun K => K t2 σ) (fun t30 σ =>
  gK t28 false (fun K => Ev Go.Proofs.Tryz.prog 52 [t30] σ K kp) (fun t31 σ =>
  gK t28 false (fun K => stepK (pureR σ (aNot t31)) K) (fun t32 σ =>
  stepK (pureR σ (aPick t28 (.val (Go.Value.bool Bool.true)) t32)) fun t33 σ =>
  gK t33 false (fun K => K t0 σ) (fun t35 σ =>
  gK t33 false (fun K => stepK (pureR σ (aNilCheck t35)) K) (fun t36 σ =>
  gK t33 false (fun K => stepK (pureR σ (aFieldAddr 0 t36)) K) (fun t37 σ =>
  gK t33 false (fun K => K t2 σ) (fun t38 σ =>
  gK t33 false (fun K => stepK (pureR σ (aBuildSl 1 1 [.val (.slice none 0 0)] [(0, t38)])) K) (fun t39 σ =>
  gK t33 false (fun K => Ev Go.Proofs.Tryz.prog 53 [t39] σ K kp) (fun t40 σ =>
  gK t33 false (fun K => Ev Go.Proofs.Tryz.prog 38 [t37, t40] σ K kp) (fun t41 σ =>
  gK t33 false (fun K => stepK (pureR σ (aNot t41)) K) (fun t42 σ =>
  stepK (pureR σ (aPick t33 (.val (Go.Value.bool Bool.true)) t42)) fun t43 σ =>
  condK t43 (
  k (.val (Go.Value.bool Bool.false)) σ
  ) (
  stepK (pureR σ (aNilCheck t0)) fun t45 σ =>
  stepK (pureR σ (aFieldAddr 2 t45)) fun t46 σ =>
  stepK (pureR σ (aLoad false 1 t46 σ)) fun t47 σ =>
  stepK (pureR σ (aNilCheck t0)) fun t49 σ =>
  stepK (pureR σ (aFieldAddr 1 t49)) fun t50 σ =>
  Ev Go.Proofs.Tryz.prog 39 [t50, t1] σ (fun t52 σ =>
  (stepK (pureR σ (aLoad false 1 t46 σ)) (fun y θ => y = t47 ∧ θ = σ)) ∧ (
  stepK (pureR σ (aIndexAddr 2 t47 t52 σ)) fun t53 σ =>
  stepK (pureR σ (aNilCheck t53)) fun t56 σ =>
  stepK (pureR σ (aFieldAddr 0 t56)) fun t57 σ =>
  stepK (pureR σ (aLoad false 1 t57 σ)) fun t58 σ =>
  Ev Go.Proofs.Tryz.prog 50 [t58] σ (fun t59 σ =>
  stepK (aAppend 3 32 t59 t2 σ) fun t61 σ =>
  stepK (pureR σ (aNilCheck t53)) fun t62 σ =>
  stepK (pureR σ (aFieldAddr 0 t62)) fun t63 σ =>
  stepK (unitR (aStore 1 t63 t61 σ)) fun _ σ =>
  stepK (pureR σ (aNilCheck t53)) fun t66 σ =>
  stepK (pureR σ (aFieldAddr 1 t66)) fun t67 σ =>
  stepK (pureR σ (aLoad false 1 t67 σ)) fun t68 σ =>
  Ev Go.Proofs.Tryz.prog 51 [t68] σ (fun t69 σ =>
  stepK (aAppend 1 8 t69 t3 σ) fun t71 σ =>
  stepK (pureR σ (aNilCheck t53)) fun t72 σ =>
  stepK (pureR σ (aFieldAddr 1 t72)) fun t73 σ =>
  stepK (unitR (aStore 1 t73 t71 σ)) fun _ σ =>
  k (.val (Go.Value.bool Bool.true)) σ
  ) kp) kp)) kp)) σ) σ) σ) σ) σ) σ) σ) σ) σ) σ) σ) σ) σ) σ) σ) σ) σ) σ) σ) σ) σ) σ) σ) σ
def keep27 : List (Nat × List Nat) := [(0, [0, 1, 2, 3]), (1, [0, 1, 2, 3, 43]), (2001, [0, 1, 2, 3, 4, 5, 6, 7, 8, 9, 10, 11, 12, 13, 14, 15, 16, 17, 18, 19, 20, 21, 22, 23, 24, 25, 26, 27, 28, 29, 30, 31, 32, 33]), (2, [8]), (3, [2, 3, 9]), (2003, [0, 1, 2, 3, 4, 5, 6, 7, 8, 9, 10]), (103008, [3]), (4, [3, 9]), (5, []), (6, [8])]
noncomputable def body27 : Code := (Go.Proofs.Tryz.f27).body.getD .skip
theorem F27_eq (t0 t1 t2 t3 : AV) (σ : AHeap) (k kp : AV → AHeap → Prop) : aw Go.Proofs.Tryz.prog (keepOf keep27) body27 (retK Go.Proofs.Tryz.prog (Go.Proofs.Tryz.f27).results.toList k kp) (frameOf 0 [t0, t1, t2, t3]) σ = F27 t0 t1 t2 t3 σ k kp := by kernel_rfl
theorem F27_ev {t0 t1 t2 t3 : AV} {σ : AHeap} {k kp : AV → AHeap → Prop} (h : F27 t0 t1 t2 t3 σ k kp) : Ev Go.Proofs.Tryz.prog 27 [t0, t1, t2, t3] σ k kp :=
  Ev_of_aw mixed Go.Proofs.Tryz.func27 (show (Go.Proofs.Tryz.f27).body = some body27 by kernel_rfl) (by kernel_rfl) (args := [t0, t1, t2, t3]) (of_decide_eq_true (by kernel_rfl)) (keepOf keep27) (by kernel_rfl) (by rw [F27_eq]; exact h)

/-- enclave/enclavelaw16.get -/
def F28 (t0 : AV) (σ : AHeap) (k kp : AV → AHeap → Prop) : Prop :=
  stepK (aAlloc [.val (.int .u8 0), .val (.int .i64 0), .val (.string ByteArray.empty)] σ) fun t2 σ =>
  stepK (pureR σ (aBuild [.val (.int .u8 0), .val (.int .i64 0), .val (.string ByteArray.empty)] [(0, 1, (.val (Go.Value.int Go.IntKind.u8 1))), (1, 1, t0)])) fun t4 σ =>
  stepK (unitR (aStore 3 t2 t4 σ)) fun _ σ =>
  stepV (aLoad true 3 t2 σ) fun r0 =>
  k r0 σ
def keep28 : List (Nat × List Nat) := [(0, [0, 2]), (1, [2])]
noncomputable def body28 : Code := (Go.Proofs.Tryz.f28).body.getD .skip
theorem F28_eq (t0 : AV) (σ : AHeap) (k kp : AV → AHeap → Prop) : aw Go.Proofs.Tryz.prog (keepOf keep28) body28 (retK Go.Proofs.Tryz.prog (Go.Proofs.Tryz.f28).results.toList k kp) (frameOf 0 [t0]) σ = F28 t0 σ k kp := by kernel_rfl
theorem F28_ev {t0 : AV} {σ : AHeap} {k kp : AV → AHeap → Prop} (h : F28 t0 σ k kp) : Ev Go.Proofs.Tryz.prog 28 [t0] σ k kp :=
  Ev_of_aw mixed Go.Proofs.Tryz.func28 (show (Go.Proofs.Tryz.f28).body = some body28 by kernel_rfl) (by kernel_rfl) (args := [t0]) (of_decide_eq_true (by kernel_rfl)) (keepOf keep28) (by kernel_rfl) (by rw [F28_eq]; exact h)

/-- enclave/enclavelaw16.put -/
def F29 (t0 : AV) (σ : AHeap) (k kp : AV → AHeap → Prop) : Prop :=
  stepK (aAlloc [.val (.int .u8 0), .val (.int .i64 0), .val (.string ByteArray.empty)] σ) fun t2 σ =>
  stepK (pureR σ (aBuild [.val (.int .u8 0), .val (.int .i64 0), .val (.string ByteArray.empty)] [(0, 1, (.val (Go.Value.int Go.IntKind.u8 2))), (1, 1, t0)])) fun t4 σ =>
  stepK (unitR (aStore 3 t2 t4 σ)) fun _ σ =>
  stepV (aLoad true 3 t2 σ) fun r0 =>
  k r0 σ
def keep29 : List (Nat × List Nat) := [(0, [0, 2]), (1, [2])]
noncomputable def body29 : Code := (Go.Proofs.Tryz.f29).body.getD .skip
theorem F29_eq (t0 : AV) (σ : AHeap) (k kp : AV → AHeap → Prop) : aw Go.Proofs.Tryz.prog (keepOf keep29) body29 (retK Go.Proofs.Tryz.prog (Go.Proofs.Tryz.f29).results.toList k kp) (frameOf 0 [t0]) σ = F29 t0 σ k kp := by kernel_rfl
theorem F29_ev {t0 : AV} {σ : AHeap} {k kp : AV → AHeap → Prop} (h : F29 t0 σ k kp) : Ev Go.Proofs.Tryz.prog 29 [t0] σ k kp :=
  Ev_of_aw mixed Go.Proofs.Tryz.func29 (show (Go.Proofs.Tryz.f29).body = some body29 by kernel_rfl) (by kernel_rfl) (args := [t0]) (of_decide_eq_true (by kernel_rfl)) (keepOf keep29) (by kernel_rfl) (by rw [F29_eq]; exact h)

/-- (*enclave/basis.forest).grow -/
def F30 (t0 : AV) (σ : AHeap) (k kp : AV → AHeap → Prop) : Prop :=
  stepK (pureR σ (aNilCheck t0)) fun t5 σ =>
  stepK (pureR σ (aFieldAddr 0 t5)) fun t6 σ =>
  stepK (pureR σ (aLoad false 1 t6 σ)) fun t7 σ =>
  stepK (pureR σ (aNilCheck t0)) fun t9 σ =>
  stepK (pureR σ (aFieldAddr 0 t9)) fun t10 σ =>
  stepK (pureR σ (aLoad false 1 t10 σ)) fun t11 σ =>
  stepK (pureR σ (aLenK .slice t11 σ)) fun t12 σ =>
  stepK (pureR σ (aBuildSl 1 1 [.val (.int .i64 0)] [(0, t12)])) fun t13 σ =>
  stepK (aAppend 1 8 t7 t13 σ) fun t14 σ =>
  stepK (pureR σ (aNilCheck t0)) fun t15 σ =>
  stepK (pureR σ (aFieldAddr 0 t15)) fun t16 σ =>
  stepK (unitR (aStore 1 t16 t14 σ)) fun _ σ =>
  stepK (pureR σ (aNilCheck t0)) fun t18 σ =>
  stepK (pureR σ (aFieldAddr 0 t18)) fun t19 σ =>
  stepK (pureR σ (aLoad false 1 t19 σ)) fun t20 σ =>
  stepK (pureR σ (aLenK .slice t20 σ)) fun t21 σ =>
  stepK (pureR σ (aBin .sub .prim t21 (.val (Go.Value.int Go.IntKind.i64 1)))) fun t22 σ =>
  k t22 σ
def keep30 : List (Nat × List Nat) := [(0, [0]), (1, [0]), (2001, [0, 1, 2, 3, 4, 5, 6, 7, 8, 9, 10, 11, 12, 13, 14]), (2, [2])]
noncomputable def body30 : Code := (Go.Proofs.Tryz.f30).body.getD .skip
theorem F30_eq (t0 : AV) (σ : AHeap) (k kp : AV → AHeap → Prop) : aw Go.Proofs.Tryz.prog (keepOf keep30) body30 (retK Go.Proofs.Tryz.prog (Go.Proofs.Tryz.f30).results.toList k kp) (frameOf 0 [t0]) σ = F30 t0 σ k kp := by kernel_rfl
theorem F30_ev {t0 : AV} {σ : AHeap} {k kp : AV → AHeap → Prop} (h : F30 t0 σ k kp) : Ev Go.Proofs.Tryz.prog 30 [t0] σ k kp :=
  Ev_of_aw mixed Go.Proofs.Tryz.func30 (show (Go.Proofs.Tryz.f30).body = some body30 by kernel_rfl) (by kernel_rfl) (args := [t0]) (of_decide_eq_true (by kernel_rfl)) (keepOf keep30) (by kernel_rfl) (by rw [F30_eq]; exact h)

/-- enclave/enclaveref11.Great -/
def F31 (t0 : AV) (σ : AHeap) (k kp : AV → AHeap → Prop) : Prop :=
  stepK (pureR σ (aLenK .slice t0 σ)) fun t5 σ =>
  stepK (pureR σ (aBin .gtr .prim t5 (.val (Go.Value.int Go.IntKind.i64 100)))) fun t6 σ =>
  condK t6 (
  k (.val (Go.Value.bool Bool.true)) σ
  ) (
  seqW (fun fr σ => (
  k (.val (Go.Value.bool Bool.false)) σ
  )) (fun j1 => (
  stepK (pureR σ (aLenK .slice t0 σ)) fun t8 σ =>
  loopW (fun fr σ again => (
  stepK (pureR σ (aBin .lss .prim (Abs.look fr 9) (Abs.look fr 8))) fun t10 σ =>
  condK t10 (
  stepK (pureR σ (aIndexAddr 3 (Abs.look fr 0) (Abs.look fr 9) σ)) fun t14 σ =>
  stepK (pureR σ (aFieldAddr 2 t14)) fun t15 σ =>
  stepK (pureR σ (aLoad false 1 t15 σ)) fun t16 σ =>
  stepK (pureR σ (aLenK .str t16 σ)) fun t17 σ =>
  stepK (pureR σ (aBin .gtr .prim t17 (.val (Go.Value.int Go.IntKind.i64 100)))) fun t18 σ =>
  condK t18 (
  k (.val (Go.Value.bool Bool.true)) σ
  ) (
  stepK (pureR σ (aBin .add .prim (Abs.look fr 9) (.val (Go.Value.int Go.IntKind.i64 1)))) fun t19 σ =>
  again [(0, (Abs.look fr 0)), (8, (Abs.look fr 8)), (9, t19)] σ
  )
  ) (
  j1 [(0, (Abs.look fr 0))] σ
  )
  )) [(0, t0), (8, t8), (9, (.val (Go.Value.int Go.IntKind.i64 0)))] σ
  ))
  )
def keep31 : List (Nat × List Nat) := [(0, [0]), (1, [0, 6]), (2, [2]), (3010, [0]), (3, [0, 8, 9]), (4, [0, 8, 9, 10]), (5, [0, 3, 8, 9]), (6, [0, 8, 9, 18]), (7, [2]), (8, [0, 8, 9]), (1004, [0, 8, 9]), (9, [2])]
noncomputable def body31 : Code := (Go.Proofs.Tryz.f31).body.getD .skip
theorem F31_eq (t0 : AV) (σ : AHeap) (k kp : AV → AHeap → Prop) : aw Go.Proofs.Tryz.prog (keepOf keep31) body31 (retK Go.Proofs.Tryz.prog (Go.Proofs.Tryz.f31).results.toList k kp) (frameOf 0 [t0]) σ = F31 t0 σ k kp := by kernel_rfl
theorem F31_ev {t0 : AV} {σ : AHeap} {k kp : AV → AHeap → Prop} (h : F31 t0 σ k kp) : Ev Go.Proofs.Tryz.prog 31 [t0] σ k kp :=
  Ev_of_aw mixed Go.Proofs.Tryz.func31 (show (Go.Proofs.Tryz.f31).body = some body31 by kernel_rfl) (by kernel_rfl) (args := [t0]) (of_decide_eq_true (by kernel_rfl)) (keepOf keep31) (by kernel_rfl) (by rw [F31_eq]; exact h)

/-- (enclave/enclaveref16.B).Join -/
def F32 (t0 t1 : AV) (σ : AHeap) (k kp : AV → AHeap → Prop) : Prop :=
  stepK (aBox t0 σ) fun t2 σ =>
  stepK (aAlloc [.val (.int .i64 0), .val (.int .i64 0), .val (.slice none 0 0), .val (.slice none 0 0), .val (.slice none 0 0)] σ) fun t4 σ =>
  stepK (pureR σ (aFieldAddr 0 t2)) fun t8 σ =>
  stepK (pureR σ (aLoad false 1 t8 σ)) fun t9 σ =>
  Ev Go.Proofs.Tryz.prog 54 [t1, t9] σ (fun t10 σ =>
  stepK (pureR σ (aNot t10)) fun t11 σ =>
  condK t11 (
  stepK (pureR σ (aLoad true 5 t2 σ)) fun t12 σ =>
  stepK (unitR (aStore 5 t4 t12 σ)) fun _ σ =>
  stepV (aLoad true 5 t4 σ) fun r0 =>
  k (.tup [r0, (.val (Go.Value.bool Bool.false))]) σ
  ) (
  seqW (fun fr σ => (
  stepK (pureR σ (aLoad true 5 (Abs.look fr 2) σ)) fun t34 σ =>
  stepK (unitR (aStore 5 (Abs.look fr 4) t34 σ)) fun _ σ =>
  stepV (aLoad true 5 (Abs.look fr 4) σ) fun r0 =>
  k (.tup [r0, (.val (Go.Value.bool Bool.true))]) σ
  )) (fun j1 => (
  stepK (pureR σ (aLenK .slice t1 σ)) fun t14 σ =>
  loopW (fun fr σ again => (
  stepK (pureR σ (aBin .lss .prim (Abs.look fr 15) (Abs.look fr 14))) fun t16 σ =>
  condK t16 (
  stepK (pureR σ (aBuildSl 0 2 [.val (.int .i64 0), .val (.int .i64 0)] [])) fun t18 σ =>
  stepK (pureR σ (aFieldAddr 2 (Abs.look fr 2))) fun t19 σ =>
  stepK (pureR σ (aLoad false 1 t19 σ)) fun t20 σ =>
  stepK (pureR σ (aIndexAddr 1 (Abs.look fr 1) (.val (Go.Value.int Go.IntKind.i64 0)) σ)) fun t23 σ =>
  stepK (pureR σ (aLoad false 1 t23 σ)) fun t24 σ =>
  stepK (pureR σ (aIndexAddr 1 (Abs.look fr 1) (Abs.look fr 15) σ)) fun t27 σ =>
  stepK (pureR σ (aLoad false 1 t27 σ)) fun t28 σ =>
  stepK (pureR σ (aBuild [.val (.int .i64 0), .val (.int .i64 0)] [(0, 1, t24), (1, 1, t28)])) fun t29 σ =>
  stepK (pureR σ (aBuildSl 1 2 [.val (.int .i64 0), .val (.int .i64 0)] [(0, t29)])) fun t30 σ =>
  stepK (aAppend 2 16 t18 t20 σ) fun t21 σ =>
  (stepK (pureR σ (aIndexAddr 1 (Abs.look fr 1) (.val (Go.Value.int Go.IntKind.i64 0)) σ)) (fun y θ => y = t23 ∧ θ = σ)) ∧ (
  (stepK (pureR σ (aLoad false 1 t23 σ)) (fun y θ => y = t24 ∧ θ = σ)) ∧ (
  (stepK (pureR σ (aIndexAddr 1 (Abs.look fr 1) (Abs.look fr 15) σ)) (fun y θ => y = t27 ∧ θ = σ)) ∧ (
  (stepK (pureR σ (aLoad false 1 t27 σ)) (fun y θ => y = t28 ∧ θ = σ)) ∧ (
  stepK (aAppend 2 16 t21 t30 σ) fun t31 σ =>
  stepK (pureR σ (aFieldAddr 2 (Abs.look fr 2))) fun t32 σ =>
  stepK (unitR (aStore 1 t32 t31 σ)) fun _ σ =>
  stepK (pureR σ (aBin .add .prim (Abs.look fr 15) (.val (Go.Value.int Go.IntKind.i64 1)))) fun t33 σ =>
  again [(1, (Abs.look fr 1)), (2, (Abs.look fr 2)), (4, (Abs.look fr 4)), (14, (Abs.look fr 14)), (15, t33)] σ
  ))))) (
  j1 [(2, (Abs.look fr 2)), (4, (Abs.look fr 4))] σ
  )
  )) [(1, t1), (2, t2), (4, t4), (14, t14), (15, (.val (Go.Value.int Go.IntKind.i64 0)))] σ
  ))
  )) kp
def keep32 : List (Nat × List Nat) := [(0, [1, 2, 4]), (1, [1, 2, 4, 11]), (2, [4, 5]), (3009, [2, 4]), (3, [1, 2, 4, 14, 15]), (4, [1, 2, 4, 14, 15, 16]), (5, [1, 2, 4, 6, 14, 15]), (6, [1, 2, 4, 14, 15]), (2006, [0, 1, 2, 4, 5, 6, 7, 8, 9, 10, 11, 12, 3, 13, 14, 15]), (106003, [5, 6, 9, 10]), (7, [1, 2, 4, 14, 15]), (1004, [1, 2, 4, 14, 15]), (8, [4, 5])]
noncomputable def body32 : Code := (Go.Proofs.Tryz.f32).body.getD .skip
theorem F32_eq (t0 t1 : AV) (σ : AHeap) (k kp : AV → AHeap → Prop) : aw Go.Proofs.Tryz.prog (keepOf keep32) body32 (retK Go.Proofs.Tryz.prog (Go.Proofs.Tryz.f32).results.toList k kp) (frameOf 0 [t0, t1]) σ = F32 t0 t1 σ k kp := by kernel_rfl
theorem F32_ev {t0 t1 : AV} {σ : AHeap} {k kp : AV → AHeap → Prop} (h : F32 t0 t1 σ k kp) : Ev Go.Proofs.Tryz.prog 32 [t0, t1] σ k kp :=
  Ev_of_aw mixed Go.Proofs.Tryz.func32 (show (Go.Proofs.Tryz.f32).body = some body32 by kernel_rfl) (by kernel_rfl) (args := [t0, t1]) (of_decide_eq_true (by kernel_rfl)) (keepOf keep32) (by kernel_rfl) (by rw [F32_eq]; exact h)

/-- (enclave/enclaveref16.B).JoinVars -/
def F33 (t0 t1 : AV) (σ : AHeap) (k kp : AV → AHeap → Prop) : Prop :=
  stepK (aBox t0 σ) fun t2 σ =>
  stepK (aAlloc [.val (.int .i64 0), .val (.int .i64 0), .val (.slice none 0 0), .val (.slice none 0 0), .val (.slice none 0 0)] σ) fun t4 σ =>
  stepK (pureR σ (aFieldAddr 1 t2)) fun t8 σ =>
  stepK (pureR σ (aLoad false 1 t8 σ)) fun t9 σ =>
  Ev Go.Proofs.Tryz.prog 54 [t1, t9] σ (fun t10 σ =>
  stepK (pureR σ (aNot t10)) fun t11 σ =>
  condK t11 (
  stepK (pureR σ (aLoad true 5 t2 σ)) fun t12 σ =>
  stepK (unitR (aStore 5 t4 t12 σ)) fun _ σ =>
  stepV (aLoad true 5 t4 σ) fun r0 =>
  k (.tup [r0, (.val (Go.Value.bool Bool.false))]) σ
  ) (
  seqW (fun fr σ => (
  stepK (pureR σ (aLoad true 5 (Abs.look fr 2) σ)) fun t34 σ =>
  stepK (unitR (aStore 5 (Abs.look fr 4) t34 σ)) fun _ σ =>
  stepV (aLoad true 5 (Abs.look fr 4) σ) fun r0 =>
  k (.tup [r0, (.val (Go.Value.bool Bool.true))]) σ
  )) (fun j1 => (
  stepK (pureR σ (aLenK .slice t1 σ)) fun t14 σ =>
  loopW (fun fr σ again => (
  stepK (pureR σ (aBin .lss .prim (Abs.look fr 15) (Abs.look fr 14))) fun t16 σ =>
  condK t16 (
  stepK (pureR σ (aBuildSl 0 2 [.val (.int .i64 0), .val (.int .i64 0)] [])) fun t18 σ =>
  stepK (pureR σ (aFieldAddr 3 (Abs.look fr 2))) fun t19 σ =>
  stepK (pureR σ (aLoad false 1 t19 σ)) fun t20 σ =>
  stepK (pureR σ (aIndexAddr 1 (Abs.look fr 1) (.val (Go.Value.int Go.IntKind.i64 0)) σ)) fun t23 σ =>
  stepK (pureR σ (aLoad false 1 t23 σ)) fun t24 σ =>
  stepK (pureR σ (aIndexAddr 1 (Abs.look fr 1) (Abs.look fr 15) σ)) fun t27 σ =>
  stepK (pureR σ (aLoad false 1 t27 σ)) fun t28 σ =>
  stepK (pureR σ (aBuild [.val (.int .i64 0), .val (.int .i64 0)] [(0, 1, t24), (1, 1, t28)])) fun t29 σ =>
  stepK (pureR σ (aBuildSl 1 2 [.val (.int .i64 0), .val (.int .i64 0)] [(0, t29)])) fun t30 σ =>
  stepK (aAppend 2 16 t18 t20 σ) fun t21 σ =>
  (stepK (pureR σ (aIndexAddr 1 (Abs.look fr 1) (.val (Go.Value.int Go.IntKind.i64 0)) σ)) (fun y θ => y = t23 ∧ θ = σ)) ∧ (
  (stepK (pureR σ (aLoad false 1 t23 σ)) (fun y θ => y = t24 ∧ θ = σ)) ∧ (
  (stepK (pureR σ (aIndexAddr 1 (Abs.look fr 1) (Abs.look fr 15) σ)) (fun y θ => y = t27 ∧ θ = σ)) ∧ (
  (stepK (pureR σ (aLoad false 1 t27 σ)) (fun y θ => y = t28 ∧ θ = σ)) ∧ (
  stepK (aAppend 2 16 t21 t30 σ) fun t31 σ =>
  stepK (pureR σ (aFieldAddr 3 (Abs.look fr 2))) fun t32 σ =>
  stepK (unitR (aStore 1 t32 t31 σ)) fun _ σ =>
  stepK (pureR σ (aBin .add .prim (Abs.look fr 15) (.val (Go.Value.int Go.IntKind.i64 1)))) fun t33 σ =>
  again [(1, (Abs.look fr 1)), (2, (Abs.look fr 2)), (4, (Abs.look fr 4)), (14, (Abs.look fr 14)), (15, t33)] σ
  ))))) (
  j1 [(2, (Abs.look fr 2)), (4, (Abs.look fr 4))] σ
  )
  )) [(1, t1), (2, t2), (4, t4), (14, t14), (15, (.val (Go.Value.int Go.IntKind.i64 0)))] σ
  ))
  )) kp
def keep33 : List (Nat × List Nat) := [(0, [1, 2, 4]), (1, [1, 2, 4, 11]), (2, [4, 5]), (3009, [2, 4]), (3, [1, 2, 4, 14, 15]), (4, [1, 2, 4, 14, 15, 16]), (5, [1, 2, 4, 6, 14, 15]), (6, [1, 2, 4, 14, 15]), (2006, [0, 1, 2, 4, 5, 6, 7, 8, 9, 10, 11, 12, 3, 13, 14, 15]), (106003, [5, 6, 9, 10]), (7, [1, 2, 4, 14, 15]), (1004, [1, 2, 4, 14, 15]), (8, [4, 5])]
noncomputable def body33 : Code := (Go.Proofs.Tryz.f33).body.getD .skip
theorem F33_eq (t0 t1 : AV) (σ : AHeap) (k kp : AV → AHeap → Prop) : aw Go.Proofs.Tryz.prog (keepOf keep33) body33 (retK Go.Proofs.Tryz.prog (Go.Proofs.Tryz.f33).results.toList k kp) (frameOf 0 [t0, t1]) σ = F33 t0 t1 σ k kp := by kernel_rfl
theorem F33_ev {t0 t1 : AV} {σ : AHeap} {k kp : AV → AHeap → Prop} (h : F33 t0 t1 σ k kp) : Ev Go.Proofs.Tryz.prog 33 [t0, t1] σ k kp :=
  Ev_of_aw mixed Go.Proofs.Tryz.func33 (show (Go.Proofs.Tryz.f33).body = some body33 by kernel_rfl) (by kernel_rfl) (args := [t0, t1]) (of_decide_eq_true (by kernel_rfl)) (keepOf keep33) (by kernel_rfl) (by rw [F33_eq]; exact h)

/-- (enclave/enclaveref16.B).Add -/
def F34 (t0 t1 t2 t3 : AV) (σ : AHeap) (k kp : AV → AHeap → Prop) : Prop :=
  stepK (aBox t0 σ) fun t4 σ =>
  stepK (aAlloc [.val (.int .i64 0), .val (.int .i64 0), .val (.slice none 0 0), .val (.slice none 0 0), .val (.slice none 0 0)] σ) fun t8 σ =>
  seqW (fun fr σ => (
  stepK (aBuildSlice 1 1 [.val (.int .i64 0)] [(0, (Abs.look fr 1))] σ) fun t43 σ =>
  stepK (pureR σ (aFieldAddr 1 (Abs.look fr 4))) fun t44 σ =>
  stepK (pureR σ (aLoad false 1 t44 σ)) fun t45 σ =>
  Ev Go.Proofs.Tryz.prog 54 [t43, t45] σ (fun t46 σ =>
  stepK (pureR σ (aNot t46)) fun t47 σ =>
  gK t47 false (fun K => K (Abs.look fr 3) σ) (fun t49 σ =>
  gK t47 false (fun K => stepK (pureR σ (aFieldAddr 1 (Abs.look fr 4))) K) (fun t50 σ =>
  gK t47 false (fun K => stepK (pureR σ (aLoad false 1 t50 σ)) K) (fun t51 σ =>
  gK t47 false (fun K => Ev Go.Proofs.Tryz.prog 54 [t49, t51] σ K kp) (fun t52 σ =>
  gK t47 false (fun K => stepK (pureR σ (aNot t52)) K) (fun t53 σ =>
  stepK (pureR σ (aPick t47 (.val (Go.Value.bool Bool.true)) t53)) fun t54 σ =>
  condK t54 (
  stepK (pureR σ (aLoad true 5 (Abs.look fr 4) σ)) fun t55 σ =>
  stepK (unitR (aStore 5 (Abs.look fr 8) t55 σ)) fun _ σ =>
  stepV (aLoad true 5 (Abs.look fr 8) σ) fun r0 =>
  k (.tup [r0, (.val (Go.Value.bool Bool.false))]) σ
  ) (
  stepK (aBuildSlice 0 3 [.val (.int .i64 0), .val (.slice none 0 0), .val (.slice none 0 0)] [] σ) fun t56 σ =>
  stepK (pureR σ (aFieldAddr 4 (Abs.look fr 4))) fun t57 σ =>
  stepK (pureR σ (aLoad false 1 t57 σ)) fun t58 σ =>
  stepK (aAppend 3 56 t56 t58 σ) fun t59 σ =>
  stepK (pureR σ (aBuild [.val (.int .i64 0), .val (.slice none 0 0), .val (.slice none 0 0)] [(0, 1, (Abs.look fr 1)), (1, 1, (Abs.look fr 2)), (2, 1, (Abs.look fr 3))])) fun t63 σ =>
  stepK (aBuildSlice 1 3 [.val (.int .i64 0), .val (.slice none 0 0), .val (.slice none 0 0)] [(0, t63)] σ) fun t64 σ =>
  stepK (aAppend 3 56 t59 t64 σ) fun t65 σ =>
  stepK (pureR σ (aFieldAddr 4 (Abs.look fr 4))) fun t66 σ =>
  stepK (unitR (aStore 1 t66 t65 σ)) fun _ σ =>
  stepK (pureR σ (aLoad true 5 (Abs.look fr 4) σ)) fun t67 σ =>
  stepK (unitR (aStore 5 (Abs.look fr 8) t67 σ)) fun _ σ =>
  stepV (aLoad true 5 (Abs.look fr 8) σ) fun r0 =>
  k (.tup [r0, (.val (Go.Value.bool Bool.true))]) σ
  )
  ) σ) σ) σ) σ) σ) kp)) (fun j1 => (
  stepK (pureR σ (aLenK .slice t2 σ)) fun t12 σ =>
  loopW (fun fr σ again => (
  stepK (pureR σ (aBin .lss .prim (Abs.look fr 13) (Abs.look fr 12))) fun t14 σ =>
  condK t14 (
  stepK (pureR σ (aIndexAddr 3 (Abs.look fr 2) (Abs.look fr 13) σ)) fun t18 σ =>
  stepK (pureR σ (aLoad true 3 t18 σ)) fun t19 σ =>
  Ev Go.Proofs.Tryz.prog 41 [t19] σ (fun t20 σ =>
  stepK (pureR σ (aNot t20)) fun t21 σ =>
  gK t21 false (fun K => K (Abs.look fr 2) σ) (fun t23 σ =>
  gK t21 false (fun K => K (Abs.look fr 13) σ) (fun t24 σ =>
  gK t21 false (fun K => stepK (pureR σ (aIndexAddr 3 t23 t24 σ)) K) (fun t25 σ =>
  gK t21 false (fun K => stepK (pureR σ (aFieldAddr 0 t25)) K) (fun t26 σ =>
  gK t21 false (fun K => stepK (pureR σ (aLoad false 1 t26 σ)) K) (fun t27 σ =>
  gK t21 false (fun K => stepK (pureR σ (aBin .neq .prim t27 (.val (Go.Value.int Go.IntKind.u8 3)))) K) (fun t28 σ =>
  gK t21 false (fun K => K t28 σ) (fun t29 σ =>
  gK t29 true (fun K => K (Abs.look fr 2) σ) (fun t30 σ =>
  gK t29 true (fun K => K (Abs.look fr 13) σ) (fun t31 σ =>
  gK t29 true (fun K => stepK (pureR σ (aIndexAddr 3 t30 t31 σ)) K) (fun t32 σ =>
  gK t29 true (fun K => stepK (pureR σ (aFieldAddr 1 t32)) K) (fun t33 σ =>
  gK t29 true (fun K => stepK (pureR σ (aLoad false 1 t33 σ)) K) (fun t34 σ =>
  gK t29 true (fun K => stepK (pureR σ (aFieldAddr 0 (Abs.look fr 4))) K) (fun t35 σ =>
  gK t29 true (fun K => stepK (pureR σ (aLoad false 1 t35 σ)) K) (fun t36 σ =>
  gK t29 true (fun K => stepK (pureR σ (aBin .geq .prim t34 t36)) K) (fun t37 σ =>
  gK t21 false (fun K => stepK (pureR σ (aPick t29 t37 (.val (Go.Value.bool Bool.false)))) K) (fun t38 σ =>
  stepK (pureR σ (aPick t21 (.val (Go.Value.bool Bool.true)) t38)) fun t39 σ =>
  condK t39 (
  stepK (pureR σ (aLoad true 5 (Abs.look fr 4) σ)) fun t40 σ =>
  stepK (unitR (aStore 5 (Abs.look fr 8) t40 σ)) fun _ σ =>
  stepV (aLoad true 5 (Abs.look fr 8) σ) fun r0 =>
  k (.tup [r0, (.val (Go.Value.bool Bool.false))]) σ
  ) (
  stepK (pureR σ (aBin .add .prim (Abs.look fr 13) (.val (Go.Value.int Go.IntKind.i64 1)))) fun t41 σ =>
  again [(1, (Abs.look fr 1)), (2, (Abs.look fr 2)), (3, (Abs.look fr 3)), (4, (Abs.look fr 4)), (8, (Abs.look fr 8)), (12, (Abs.look fr 12)), (13, t41)] σ
  )
  ) σ) σ) σ) σ) σ) σ) σ) σ) σ) σ) σ) σ) σ) σ) σ) σ) kp) (
  j1 [(1, (Abs.look fr 1)), (2, (Abs.look fr 2)), (3, (Abs.look fr 3)), (4, (Abs.look fr 4)), (8, (Abs.look fr 8))] σ
  )
  )) [(1, t1), (2, t2), (3, t3), (4, t4), (8, t8), (12, t12), (13, (.val (Go.Value.int Go.IntKind.i64 0)))] σ
  ))
def keep34 : List (Nat × List Nat) := [(0, [1, 2, 3, 4, 8]), (3008, [1, 2, 3, 4, 8]), (1, [1, 2, 3, 4, 8, 12, 13]), (2, [1, 2, 3, 4, 8, 12, 13, 14]), (3, [1, 2, 3, 4, 8, 10, 12, 13]), (4, [1, 2, 3, 4, 8, 12, 13, 39]), (2004, [0, 1, 2, 3, 4, 5, 6, 7, 8, 9, 10, 11, 12, 13, 14, 15, 16, 17, 18, 19, 20, 21, 22, 23]), (5, [8, 9]), (6, [1, 2, 3, 4, 8, 12, 13]), (1002, [1, 2, 3, 4, 8, 12, 13]), (7, [1, 2, 3, 4, 8, 54]), (8, [8, 9]), (9, [4, 8]), (10, [8, 9])]
noncomputable def body34 : Code := (Go.Proofs.Tryz.f34).body.getD .skip
theorem F34_eq (t0 t1 t2 t3 : AV) (σ : AHeap) (k kp : AV → AHeap → Prop) : aw Go.Proofs.Tryz.prog (keepOf keep34) body34 (retK Go.Proofs.Tryz.prog (Go.Proofs.Tryz.f34).results.toList k kp) (frameOf 0 [t0, t1, t2, t3]) σ = F34 t0 t1 t2 t3 σ k kp := by kernel_rfl
theorem F34_ev {t0 t1 t2 t3 : AV} {σ : AHeap} {k kp : AV → AHeap → Prop} (h : F34 t0 t1 t2 t3 σ k kp) : Ev Go.Proofs.Tryz.prog 34 [t0, t1, t2, t3] σ k kp :=
  Ev_of_aw mixed Go.Proofs.Tryz.func34 (show (Go.Proofs.Tryz.f34).body = some body34 by kernel_rfl) (by kernel_rfl) (args := [t0, t1, t2, t3]) (of_decide_eq_true (by kernel_rfl)) (keepOf keep34) (by kernel_rfl) (by rw [F34_eq]; exact h)

/-- (*enclave/basis.forest).names -/
def F35 (t0 t1 : AV) (σ : AHeap) (k kp : AV → AHeap → Prop) : Prop :=
  seqW (fun fr σ => (
  Ev Go.Proofs.Tryz.prog 55 [(Abs.look fr 5)] σ (fun t26 σ =>
  Ev Go.Proofs.Tryz.prog 56 [(Abs.look fr 5)] σ (fun t28 σ =>
  k t28 σ
  ) kp) kp)) (fun j1 => (
  stepK (pureR σ (aLenK .slice t1 σ)) fun t9 σ =>
  loopW (fun fr σ again => (
  stepK (pureR σ (aBin .lss .prim (Abs.look fr 10) (Abs.look fr 9))) fun t11 σ =>
  condK t11 (
  seqW (fun fr σ => (
  stepK (pureR σ (aBin .add .prim (Abs.look fr 10) (.val (Go.Value.int Go.IntKind.i64 1)))) fun t24 σ =>
  again [(0, (Abs.look fr 0)), (5, (Abs.look fr 5)), (8, (Abs.look fr 8)), (9, (Abs.look fr 9)), (10, t24)] σ
  )) (fun j2 => (
  stepK (pureR σ (aIndexAddr 1 (Abs.look fr 8) (Abs.look fr 10) σ)) fun t12 σ =>
  stepK (pureR σ (aLoad false 1 t12 σ)) fun t13 σ =>
  stepK (aBuildSlice 1 1 [.val (.int .i64 0)] [(0, t13)] σ) fun t16 σ =>
  Ev Go.Proofs.Tryz.prog 38 [(Abs.look fr 0), t16] σ (fun t17 σ =>
  condK t17 (
  Ev Go.Proofs.Tryz.prog 39 [(Abs.look fr 0), t13] σ (fun t21 σ =>
  stepK (aBuildSlice 1 1 [.val (.int .i64 0)] [(0, t21)] σ) fun t22 σ =>
  stepK (aAppend 1 8 (Abs.look fr 5) t22 σ) fun t23 σ =>
  j2 [(0, (Abs.look fr 0)), (5, t23), (8, (Abs.look fr 8)), (9, (Abs.look fr 9)), (10, (Abs.look fr 10))] σ
  ) kp) (
  j2 [(0, (Abs.look fr 0)), (5, (Abs.look fr 5)), (8, (Abs.look fr 8)), (9, (Abs.look fr 9)), (10, (Abs.look fr 10))] σ
  )
  ) kp))
  ) (
  j1 [(5, (Abs.look fr 5))] σ
  )
  )) [(0, t0), (5, (.val (Go.Value.slice Option.none 0 0))), (8, t1), (9, t9), (10, (.val (Go.Value.int Go.IntKind.i64 0)))] σ
  ))
def keep35 : List (Nat × List Nat) := [(0, [0, 1]), (1, [0, 1, 5]), (3009, [5]), (2, [0, 5, 8, 9, 10]), (3, [0, 5, 8, 9, 10, 11]), (3008, [0, 5, 8, 9, 10]), (4, [0, 5, 7, 8, 9, 10]), (5, [0, 5, 7, 8, 9, 10, 17]), (6, [0, 5, 8, 9, 10]), (7, [0, 5, 8, 9, 10]), (1003, [0, 5, 8, 9, 10]), (8, [5]), (9, [4])]
noncomputable def body35 : Code := (Go.Proofs.Tryz.f35).body.getD .skip
theorem F35_eq (t0 t1 : AV) (σ : AHeap) (k kp : AV → AHeap → Prop) : aw Go.Proofs.Tryz.prog (keepOf keep35) body35 (retK Go.Proofs.Tryz.prog (Go.Proofs.Tryz.f35).results.toList k kp) (frameOf 0 [t0, t1]) σ = F35 t0 t1 σ k kp := by kernel_rfl
theorem F35_ev {t0 t1 : AV} {σ : AHeap} {k kp : AV → AHeap → Prop} (h : F35 t0 t1 σ k kp) : Ev Go.Proofs.Tryz.prog 35 [t0, t1] σ k kp :=
  Ev_of_aw mixed Go.Proofs.Tryz.func35 (show (Go.Proofs.Tryz.f35).body = some body35 by kernel_rfl) (by kernel_rfl) (args := [t0, t1]) (of_decide_eq_true (by kernel_rfl)) (keepOf keep35) (by kernel_rfl) (by rw [F35_eq]; exact h)

/-- slices.Contains[[]int,int] -/
def F36 (t0 t1 : AV) (σ : AHeap) (k kp : AV → AHeap → Prop) : Prop :=
  Ev Go.Proofs.Tryz.prog 57 [t0, t1] σ (fun t7 σ =>
  stepK (pureR σ (aBin .geq .prim t7 (.val (Go.Value.int Go.IntKind.i64 0)))) fun t8 σ =>
  k t8 σ) kp
def keep36 : List (Nat × List Nat) := [(0, [0, 1]), (1, [4])]
noncomputable def body36 : Code := (Go.Proofs.Tryz.f36).body.getD .skip
theorem F36_eq (t0 t1 : AV) (σ : AHeap) (k kp : AV → AHeap → Prop) : aw Go.Proofs.Tryz.prog (keepOf keep36) body36 (retK Go.Proofs.Tryz.prog (Go.Proofs.Tryz.f36).results.toList k kp) (frameOf 0 [t0, t1]) σ = F36 t0 t1 σ k kp := by kernel_rfl
theorem F36_ev {t0 t1 : AV} {σ : AHeap} {k kp : AV → AHeap → Prop} (h : F36 t0 t1 σ k kp) : Ev Go.Proofs.Tryz.prog 36 [t0, t1] σ k kp :=
  Ev_of_aw mixed Go.Proofs.Tryz.func36 (show (Go.Proofs.Tryz.f36).body = some body36 by kernel_rfl) (by kernel_rfl) (args := [t0, t1]) (of_decide_eq_true (by kernel_rfl)) (keepOf keep36) (by kernel_rfl) (by rw [F36_eq]; exact h)

/-- enclave/effect.Of -/
def F37 (t0 : AV) (σ : AHeap) (k kp : AV → AHeap → Prop) : Prop :=
  seqW (fun fr σ => (
  Ev Go.Proofs.Tryz.prog 59 [(Abs.look fr 3), (.fn (.func 60) [])] σ (fun t20 σ =>
  Ev Go.Proofs.Tryz.prog 61 [(Abs.look fr 3)] σ (fun t22 σ =>
  k t22 σ
  ) kp) kp)) (fun j1 => (
  stepK (pureR σ (aLenK .slice t0 σ)) fun t7 σ =>
  loopW (fun fr σ again => (
  stepK (pureR σ (aBin .lss .prim (Abs.look fr 8) (Abs.look fr 7))) fun t9 σ =>
  condK t9 (
  seqW (fun fr σ => (
  stepK (pureR σ (aBin .add .prim (Abs.look fr 8) (.val (Go.Value.int Go.IntKind.i64 1)))) fun t18 σ =>
  again [(3, (Abs.look fr 3)), (6, (Abs.look fr 6)), (7, (Abs.look fr 7)), (8, t18)] σ
  )) (fun j2 => (
  stepK (pureR σ (aIndexAddr 3 (Abs.look fr 6) (Abs.look fr 8) σ)) fun t10 σ =>
  stepK (pureR σ (aLoad true 3 t10 σ)) fun t11 σ =>
  stepK (aAlloc [.val (.int .u8 0), .val (.int .i64 0), .val (.string ByteArray.empty)] σ) fun t5 σ =>
  stepK (unitR (aStore 3 t5 t11 σ)) fun _ σ =>
  stepK (pureR σ (aLoad true 3 t5 σ)) fun t12 σ =>
  Ev Go.Proofs.Tryz.prog 58 [t12] σ (fun t13 σ =>
  condK t13 (
  stepK (pureR σ (aLoad true 3 t5 σ)) fun t15 σ =>
  stepK (aBuildSlice 1 3 [.val (.int .u8 0), .val (.int .i64 0), .val (.string ByteArray.empty)] [(0, t15)] σ) fun t16 σ =>
  stepK (aAppend 3 32 (Abs.look fr 3) t16 σ) fun t17 σ =>
  j2 [(3, t17), (6, (Abs.look fr 6)), (7, (Abs.look fr 7)), (8, (Abs.look fr 8))] σ
  ) (
  j2 [(3, (Abs.look fr 3)), (6, (Abs.look fr 6)), (7, (Abs.look fr 7)), (8, (Abs.look fr 8))] σ
  )
  ) kp))
  ) (
  j1 [(3, (Abs.look fr 3))] σ
  )
  )) [(3, (.val (Go.Value.slice Option.none 0 0))), (6, t0), (7, t7), (8, (.val (Go.Value.int Go.IntKind.i64 0)))] σ
  ))
def keep37 : List (Nat × List Nat) := [(0, [0]), (1, [0, 3]), (3009, [3]), (2, [3, 6, 7, 8]), (3, [3, 6, 7, 8, 9]), (3008, [3, 6, 7, 8]), (4, [3, 5, 6, 7, 8]), (5, [3, 5, 6, 7, 8, 13]), (6, [3, 6, 7, 8]), (7, [3, 6, 7, 8]), (1003, [3, 6, 7, 8]), (8, [3]), (9, [2])]
noncomputable def body37 : Code := (Go.Proofs.Tryz.f37).body.getD .skip
theorem F37_eq (t0 : AV) (σ : AHeap) (k kp : AV → AHeap → Prop) : aw Go.Proofs.Tryz.prog (keepOf keep37) body37 (retK Go.Proofs.Tryz.prog (Go.Proofs.Tryz.f37).results.toList k kp) (frameOf 0 [t0]) σ = F37 t0 σ k kp := by kernel_rfl
theorem F37_ev {t0 : AV} {σ : AHeap} {k kp : AV → AHeap → Prop} (h : F37 t0 σ k kp) : Ev Go.Proofs.Tryz.prog 37 [t0] σ k kp :=
  Ev_of_aw mixed Go.Proofs.Tryz.func37 (show (Go.Proofs.Tryz.f37).body = some body37 by kernel_rfl) (by kernel_rfl) (args := [t0]) (of_decide_eq_true (by kernel_rfl)) (keepOf keep37) (by kernel_rfl) (by rw [F37_eq]; exact h)

/-- (*enclave/basis.forest).there -/
def F38 (t0 t1 : AV) (σ : AHeap) (k kp : AV → AHeap → Prop) : Prop :=
  stepK (aBox t0 σ) fun t2 σ =>
  Ev Go.Proofs.Tryz.prog 62 [t1, (.fn (.func 63) [t2])] σ (fun t7 σ =>
  stepK (pureR σ (aNot t7)) fun t8 σ =>
  k t8 σ) kp
def keep38 : List (Nat × List Nat) := [(0, [1, 2]), (1, [4])]
noncomputable def body38 : Code := (Go.Proofs.Tryz.f38).body.getD .skip
theorem F38_eq (t0 t1 : AV) (σ : AHeap) (k kp : AV → AHeap → Prop) : aw Go.Proofs.Tryz.prog (keepOf keep38) body38 (retK Go.Proofs.Tryz.prog (Go.Proofs.Tryz.f38).results.toList k kp) (frameOf 0 [t0, t1]) σ = F38 t0 t1 σ k kp := by kernel_rfl
theorem F38_ev {t0 t1 : AV} {σ : AHeap} {k kp : AV → AHeap → Prop} (h : F38 t0 t1 σ k kp) : Ev Go.Proofs.Tryz.prog 38 [t0, t1] σ k kp :=
  Ev_of_aw mixed Go.Proofs.Tryz.func38 (show (Go.Proofs.Tryz.f38).body = some body38 by kernel_rfl) (by kernel_rfl) (args := [t0, t1]) (of_decide_eq_true (by kernel_rfl)) (keepOf keep38) (by kernel_rfl) (by rw [F38_eq]; exact h)

/-- (*enclave/basis.forest).name -/
def F39 (t0 t1 : AV) (σ : AHeap) (k kp : AV → AHeap → Prop) : Prop :=
  stepK (aBuildSlice 1 1 [.val (.int .i64 0)] [(0, t1)] σ) fun t7 σ =>
  Ev Go.Proofs.Tryz.prog 38 [t0, t7] σ (fun t8 σ =>
  stepK (pureR σ (aNot t8)) fun t9 σ =>
  condK t9 (
  k (.val (Go.Value.int Go.IntKind.i64 (-1))) σ
  ) (
  seqW (fun fr σ => (
  k (Abs.look fr 1) σ
  )) (fun j1 => (
  loopW (fun fr σ again => (
  stepK (pureR σ (aNilCheck (Abs.look fr 0))) fun t11 σ =>
  stepK (pureR σ (aFieldAddr 0 t11)) fun t12 σ =>
  stepK (pureR σ (aLoad false 1 t12 σ)) fun t13 σ =>
  stepK (pureR σ (aIndexAddr 1 t13 (Abs.look fr 1) σ)) fun t15 σ =>
  stepK (pureR σ (aLoad false 1 t15 σ)) fun t16 σ =>
  stepK (pureR σ (aBin .neq .prim t16 (Abs.look fr 1))) fun t18 σ =>
  condK t18 (
  stepK (pureR σ (aNilCheck (Abs.look fr 0))) fun t20 σ =>
  stepK (pureR σ (aFieldAddr 0 t20)) fun t21 σ =>
  stepK (pureR σ (aLoad false 1 t21 σ)) fun t22 σ =>
  stepK (pureR σ (aIndexAddr 1 t22 (Abs.look fr 1) σ)) fun t24 σ =>
  stepK (pureR σ (aLoad false 1 t24 σ)) fun t25 σ =>
  again [(0, (Abs.look fr 0)), (1, t25)] σ
  ) (
  j1 [(1, (Abs.look fr 1))] σ
  )
  )) [(0, t0), (1, t1)] σ
  ))
  )) kp
def keep39 : List (Nat × List Nat) := [(0, [0, 1]), (1, [0, 1, 9]), (2, [4]), (3006, [1]), (3, [0, 1, 18]), (4, [0, 1]), (1003, [0, 1]), (5, [4])]
noncomputable def body39 : Code := (Go.Proofs.Tryz.f39).body.getD .skip
theorem F39_eq (t0 t1 : AV) (σ : AHeap) (k kp : AV → AHeap → Prop) : aw Go.Proofs.Tryz.prog (keepOf keep39) body39 (retK Go.Proofs.Tryz.prog (Go.Proofs.Tryz.f39).results.toList k kp) (frameOf 0 [t0, t1]) σ = F39 t0 t1 σ k kp := by kernel_rfl
theorem F39_ev {t0 t1 : AV} {σ : AHeap} {k kp : AV → AHeap → Prop} (h : F39 t0 t1 σ k kp) : Ev Go.Proofs.Tryz.prog 39 [t0, t1] σ k kp :=
  Ev_of_aw mixed Go.Proofs.Tryz.func39 (show (Go.Proofs.Tryz.f39).body = some body39 by kernel_rfl) (by kernel_rfl) (args := [t0, t1]) (of_decide_eq_true (by kernel_rfl)) (keepOf keep39) (by kernel_rfl) (by rw [F39_eq]; exact h)

/-- (*enclave/basis.Basis).named -/
def F40 (t0 t1 : AV) (σ : AHeap) (k kp : AV → AHeap → Prop) : Prop :=
  seqW (fun fr σ => (
  Ev Go.Proofs.Tryz.prog 37 [(Abs.look fr 5)] σ (fun t30 σ =>
  k t30 σ
  ) kp)) (fun j1 => (
  stepK (pureR σ (aLenK .slice t1 σ)) fun t9 σ =>
  loopW (fun fr σ again => (
  stepK (pureR σ (aBin .lss .prim (Abs.look fr 10) (Abs.look fr 9))) fun t11 σ =>
  condK t11 (
  stepK (pureR σ (aIndexAddr 3 (Abs.look fr 8) (Abs.look fr 10) σ)) fun t12 σ =>
  stepK (pureR σ (aLoad true 3 t12 σ)) fun t13 σ =>
  stepK (aAlloc [.val (.int .u8 0), .val (.int .i64 0), .val (.string ByteArray.empty)] σ) fun t7 σ =>
  stepK (unitR (aStore 3 t7 t13 σ)) fun _ σ =>
  seqW (fun fr σ => (
  stepK (pureR σ (aLoad true 3 (Abs.look fr 7) σ)) fun t25 σ =>
  stepK (aBuildSlice 1 3 [.val (.int .u8 0), .val (.int .i64 0), .val (.string ByteArray.empty)] [(0, t25)] σ) fun t26 σ =>
  stepK (aAppend 3 32 (Abs.look fr 5) t26 σ) fun t27 σ =>
  stepK (pureR σ (aBin .add .prim (Abs.look fr 10) (.val (Go.Value.int Go.IntKind.i64 1)))) fun t28 σ =>
  again [(0, (Abs.look fr 0)), (5, t27), (8, (Abs.look fr 8)), (9, (Abs.look fr 9)), (10, t28)] σ
  )) (fun j2 => (
  stepK (pureR σ (aFieldAddr 0 t7)) fun t14 σ =>
  stepK (pureR σ (aLoad false 1 t14 σ)) fun t15 σ =>
  stepK (pureR σ (aBin .neq .prim t15 (.val (Go.Value.int Go.IntKind.u8 3)))) fun t16 σ =>
  condK t16 (
  stepK (pureR σ (aNilCheck (Abs.look fr 0))) fun t18 σ =>
  stepK (pureR σ (aFieldAddr 0 t18)) fun t19 σ =>
  stepK (pureR σ (aFieldAddr 1 t7)) fun t20 σ =>
  stepK (pureR σ (aLoad false 1 t20 σ)) fun t21 σ =>
  Ev Go.Proofs.Tryz.prog 39 [t19, t21] σ (fun t22 σ =>
  stepK (pureR σ (aFieldAddr 1 t7)) fun t23 σ =>
  stepK (unitR (aStore 1 t23 t22 σ)) fun _ σ =>
  j2 [(0, (Abs.look fr 0)), (5, (Abs.look fr 5)), (7, t7), (8, (Abs.look fr 8)), (9, (Abs.look fr 9)), (10, (Abs.look fr 10))] σ
  ) kp) (
  j2 [(0, (Abs.look fr 0)), (5, (Abs.look fr 5)), (7, t7), (8, (Abs.look fr 8)), (9, (Abs.look fr 9)), (10, (Abs.look fr 10))] σ
  )
  ))
  ) (
  j1 [(5, (Abs.look fr 5))] σ
  )
  )) [(0, t0), (5, (.val (Go.Value.slice Option.none 0 0))), (8, t1), (9, t9), (10, (.val (Go.Value.int Go.IntKind.i64 0)))] σ
  ))
def keep40 : List (Nat × List Nat) := [(0, [0, 1]), (1, [0, 1, 5]), (3010, [5]), (2, [0, 5, 8, 9, 10]), (3, [0, 5, 8, 9, 10, 11]), (4, [0, 5, 7, 8, 9, 10]), (3008, [0, 5, 7, 8, 9, 10]), (5, [0, 5, 7, 8, 9, 10, 16]), (6, [0, 5, 7, 8, 9, 10]), (2006, [0, 1, 2, 3, 4, 5, 6, 7]), (7, [0, 5, 8, 9, 10]), (8, [0, 5, 8, 9, 10]), (1003, [0, 5, 8, 9, 10]), (9, [4])]
noncomputable def body40 : Code := (Go.Proofs.Tryz.f40).body.getD .skip
theorem F40_eq (t0 t1 : AV) (σ : AHeap) (k kp : AV → AHeap → Prop) : aw Go.Proofs.Tryz.prog (keepOf keep40) body40 (retK Go.Proofs.Tryz.prog (Go.Proofs.Tryz.f40).results.toList k kp) (frameOf 0 [t0, t1]) σ = F40 t0 t1 σ k kp := by kernel_rfl
theorem F40_ev {t0 t1 : AV} {σ : AHeap} {k kp : AV → AHeap → Prop} (h : F40 t0 t1 σ k kp) : Ev Go.Proofs.Tryz.prog 40 [t0, t1] σ k kp :=
  Ev_of_aw mixed Go.Proofs.Tryz.func40 (show (Go.Proofs.Tryz.f40).body = some body40 by kernel_rfl) (by kernel_rfl) (args := [t0, t1]) (of_decide_eq_true (by kernel_rfl)) (keepOf keep40) (by kernel_rfl) (by rw [F40_eq]; exact h)

/-- enclave/enclaveref11.Atom -/
def F41 (t0 : AV) (σ : AHeap) (k kp : AV → AHeap → Prop) : Prop :=
  stepK (aBox t0 σ) fun t1 σ =>
  stepK (pureR σ (aFieldAddr 0 t1)) fun t3 σ =>
  stepK (pureR σ (aLoad false 1 t3 σ)) fun t4 σ =>
  stepK (pureR σ (aBin .eql .prim t4 (.val (Go.Value.int Go.IntKind.u8 3)))) fun t5 σ =>
  condK t5 (
  stepK (pureR σ (aFieldAddr 1 t1)) fun t6 σ =>
  stepK (pureR σ (aLoad false 1 t6 σ)) fun t7 σ =>
  stepK (pureR σ (aBin .eql .prim t7 (.val (Go.Value.int Go.IntKind.i64 0)))) fun t8 σ =>
  gK t8 true (fun K => stepK (pureR σ (aFieldAddr 2 t1)) K) (fun t10 σ =>
  gK t8 true (fun K => stepK (pureR σ (aLoad false 1 t10 σ)) K) (fun t11 σ =>
  gK t8 true (fun K => Ev Go.Proofs.Tryz.prog 64 [t11] σ K kp) (fun t12 σ =>
  stepK (pureR σ (aPick t8 t12 (.val (Go.Value.bool Bool.false)))) fun t13 σ =>
  k t13 σ
  ) σ) σ) σ) (
  stepK (pureR σ (aFieldAddr 0 t1)) fun t14 σ =>
  stepK (pureR σ (aLoad false 1 t14 σ)) fun t15 σ =>
  stepK (pureR σ (aBin .eql .prim t15 (.val (Go.Value.int Go.IntKind.u8 1)))) fun t16 σ =>
  gK t16 false (fun K => stepK (pureR σ (aFieldAddr 0 t1)) K) (fun t18 σ =>
  gK t16 false (fun K => stepK (pureR σ (aLoad false 1 t18 σ)) K) (fun t19 σ =>
  gK t16 false (fun K => stepK (pureR σ (aBin .eql .prim t19 (.val (Go.Value.int Go.IntKind.u8 2)))) K) (fun t20 σ =>
  stepK (pureR σ (aPick t16 (.val (Go.Value.bool Bool.true)) t20)) fun t21 σ =>
  gK t21 true (fun K => stepK (pureR σ (aFieldAddr 1 t1)) K) (fun t23 σ =>
  gK t21 true (fun K => stepK (pureR σ (aLoad false 1 t23 σ)) K) (fun t24 σ =>
  gK t21 true (fun K => stepK (pureR σ (aBin .geq .prim t24 (.val (Go.Value.int Go.IntKind.i64 0)))) K) (fun t25 σ =>
  stepK (pureR σ (aPick t21 t25 (.val (Go.Value.bool Bool.false)))) fun t26 σ =>
  gK t26 true (fun K => stepK (pureR σ (aFieldAddr 2 t1)) K) (fun t28 σ =>
  gK t26 true (fun K => stepK (pureR σ (aLoad false 1 t28 σ)) K) (fun t29 σ =>
  gK t26 true (fun K => stepK (pureR σ (aBin .eql .prim t29 (.val (Go.Value.string { data := #[] })))) K) (fun t30 σ =>
  stepK (pureR σ (aPick t26 t30 (.val (Go.Value.bool Bool.false)))) fun t31 σ =>
  k t31 σ
  ) σ) σ) σ) σ) σ) σ) σ) σ) σ)
def keep41 : List (Nat × List Nat) := [(0, [1]), (1, [1, 5]), (2, [2]), (3, [2])]
noncomputable def body41 : Code := (Go.Proofs.Tryz.f41).body.getD .skip
theorem F41_eq (t0 : AV) (σ : AHeap) (k kp : AV → AHeap → Prop) : aw Go.Proofs.Tryz.prog (keepOf keep41) body41 (retK Go.Proofs.Tryz.prog (Go.Proofs.Tryz.f41).results.toList k kp) (frameOf 0 [t0]) σ = F41 t0 σ k kp := by kernel_rfl
theorem F41_ev {t0 : AV} {σ : AHeap} {k kp : AV → AHeap → Prop} (h : F41 t0 σ k kp) : Ev Go.Proofs.Tryz.prog 41 [t0] σ k kp :=
  Ev_of_aw mixed Go.Proofs.Tryz.func41 (show (Go.Proofs.Tryz.f41).body = some body41 by kernel_rfl) (by kernel_rfl) (args := [t0]) (of_decide_eq_true (by kernel_rfl)) (keepOf keep41) (by kernel_rfl) (by rw [F41_eq]; exact h)

/-- enclave/enclaveref11.In -/
def F42 (t0 t1 : AV) (σ : AHeap) (k kp : AV → AHeap → Prop) : Prop :=
  stepK (aBox t1 σ) fun t3 σ =>
  seqW (fun fr σ => (
  k (.val (Go.Value.bool Bool.false)) σ
  )) (fun j1 => (
  stepK (pureR σ (aLenK .slice t0 σ)) fun t7 σ =>
  loopW (fun fr σ again => (
  stepK (pureR σ (aBin .lss .prim (Abs.look fr 8) (Abs.look fr 7))) fun t9 σ =>
  condK t9 (
  stepK (pureR σ (aIndexAddr 3 (Abs.look fr 0) (Abs.look fr 8) σ)) fun t13 σ =>
  stepK (pureR σ (aLoad true 3 t13 σ)) fun t14 σ =>
  stepK (pureR σ (aLoad true 3 (Abs.look fr 3) σ)) fun t15 σ =>
  stepK (pureR σ (aBin .eql (.agg [.i, .i, .s]) t14 t15)) fun t16 σ =>
  condK t16 (
  k (.val (Go.Value.bool Bool.true)) σ
  ) (
  stepK (pureR σ (aBin .add .prim (Abs.look fr 8) (.val (Go.Value.int Go.IntKind.i64 1)))) fun t17 σ =>
  again [(0, (Abs.look fr 0)), (3, (Abs.look fr 3)), (7, (Abs.look fr 7)), (8, t17)] σ
  )
  ) (
  j1 [(0, (Abs.look fr 0))] σ
  )
  )) [(0, t0), (3, t3), (7, t7), (8, (.val (Go.Value.int Go.IntKind.i64 0)))] σ
  ))
def keep42 : List (Nat × List Nat) := [(0, [0, 3]), (3008, [0]), (1, [0, 3, 7, 8]), (2, [0, 3, 7, 8, 9]), (3, [0, 3, 5, 7, 8]), (4, [0, 3, 7, 8, 16]), (2004, [0, 1, 2, 3, 4, 5]), (5, [4]), (6, [0, 3, 7, 8]), (1002, [0, 3, 7, 8]), (7, [4])]
noncomputable def body42 : Code := (Go.Proofs.Tryz.f42).body.getD .skip
theorem F42_eq (t0 t1 : AV) (σ : AHeap) (k kp : AV → AHeap → Prop) : aw Go.Proofs.Tryz.prog (keepOf keep42) body42 (retK Go.Proofs.Tryz.prog (Go.Proofs.Tryz.f42).results.toList k kp) (frameOf 0 [t0, t1]) σ = F42 t0 t1 σ k kp := by kernel_rfl
theorem F42_ev {t0 t1 : AV} {σ : AHeap} {k kp : AV → AHeap → Prop} (h : F42 t0 t1 σ k kp) : Ev Go.Proofs.Tryz.prog 42 [t0, t1] σ k kp :=
  Ev_of_aw mixed Go.Proofs.Tryz.func42 (show (Go.Proofs.Tryz.f42).body = some body42 by kernel_rfl) (by kernel_rfl) (args := [t0, t1]) (of_decide_eq_true (by kernel_rfl)) (keepOf keep42) (by kernel_rfl) (by rw [F42_eq]; exact h)

/-- (enclave/enclaveref16.B).Has -/
def F43 (t0 t1 : AV) (σ : AHeap) (k kp : AV → AHeap → Prop) : Prop :=
  stepK (aBox t0 σ) fun t2 σ =>
  stepK (aBuildSlice 0 3 [.val (.int .u8 0), .val (.int .i64 0), .val (.string ByteArray.empty)] [] σ) fun t13 σ =>
  stepK (aBuildSlice 0 1 [.val (.int .i64 0)] [] σ) fun t14 σ =>
  stepK (pureR σ (aLoad true 5 t2 σ)) fun t15 σ =>
  Ev Go.Proofs.Tryz.prog 46 [t15, t1] σ (fun t17 σ =>
  seqW (fun fr σ => (
  Ev Go.Proofs.Tryz.prog 66 [(Abs.look fr 6)] σ (fun t96 σ =>
  k (.tup [t96, (Abs.look fr 7)]) σ
  ) kp)) (fun j1 => (
  stepK (pureR σ (aFieldAddr 4 t2)) fun t18 σ =>
  stepK (pureR σ (aLoad false 1 t18 σ)) fun t19 σ =>
  stepK (pureR σ (aLenK .slice t19 σ)) fun t20 σ =>
  loopW (fun fr σ again => (
  stepK (pureR σ (aBin .lss .prim (Abs.look fr 21) (Abs.look fr 20))) fun t22 σ =>
  condK t22 (
  seqW (fun fr σ => (
  stepK (pureR σ (aBin .add .prim (Abs.look fr 21) (.val (Go.Value.int Go.IntKind.i64 1)))) fun t94 σ =>
  again [(2, (Abs.look fr 2)), (6, (Abs.look fr 6)), (7, (Abs.look fr 7)), (8, (Abs.look fr 8)), (20, (Abs.look fr 20)), (21, t94)] σ
  )) (fun j2 => (
  stepK (pureR σ (aBin .lss .prim (Abs.look fr 8) (.val (Go.Value.int Go.IntKind.i64 0)))) fun t25 σ =>
  gK t25 false (fun K => stepK (pureR σ (aLoad true 5 (Abs.look fr 2) σ)) K) (fun t27 σ =>
  gK t25 false (fun K => stepK (pureR σ (aFieldAddr 4 (Abs.look fr 2))) K) (fun t28 σ =>
  gK t25 false (fun K => stepK (pureR σ (aLoad false 1 t28 σ)) K) (fun t29 σ =>
  gK t25 false (fun K => K (Abs.look fr 21) σ) (fun t30 σ =>
  gK t25 false (fun K => stepK (pureR σ (aIndexAddr 3 t29 t30 σ)) K) (fun t31 σ =>
  gK t25 false (fun K => stepK (pureR σ (aFieldAddr 0 t31)) K) (fun t32 σ =>
  gK t25 false (fun K => stepK (pureR σ (aLoad false 1 t32 σ)) K) (fun t33 σ =>
  gK t25 false (fun K => K (Abs.look fr 8) σ) (fun t35 σ =>
  gK t25 false (fun K => Ev Go.Proofs.Tryz.prog 46 [t27, t33] σ K kp) (fun t34 σ =>
  gK t25 false (fun K => stepK (pureR σ (aBin .neq .prim t34 t35)) K) (fun t36 σ =>
  stepK (pureR σ (aPick t25 (.val (Go.Value.bool Bool.true)) t36)) fun t37 σ =>
  condK t37 (
  j2 [(2, (Abs.look fr 2)), (6, (Abs.look fr 6)), (7, (Abs.look fr 7)), (8, (Abs.look fr 8)), (20, (Abs.look fr 20)), (21, (Abs.look fr 21))] σ
  ) (
  seqW (fun fr σ => (
  stepK (pureR σ (aFieldAddr 4 (Abs.look fr 2))) fun t70 σ =>
  stepK (pureR σ (aLoad false 1 t70 σ)) fun t71 σ =>
  stepK (pureR σ (aIndexAddr 3 t71 (Abs.look fr 9) σ)) fun t73 σ =>
  stepK (pureR σ (aFieldAddr 2 t73)) fun t74 σ =>
  stepK (pureR σ (aLoad false 1 t74 σ)) fun t75 σ =>
  stepK (pureR σ (aLenK .slice t75 σ)) fun t76 σ =>
  loopW (fun fr σ again => (
  stepK (pureR σ (aBin .lss .prim (Abs.look fr 77) (Abs.look fr 76))) fun t78 σ =>
  condK t78 (
  stepK (pureR σ (aLoad true 5 (Abs.look fr 2) σ)) fun t81 σ =>
  stepK (pureR σ (aFieldAddr 4 (Abs.look fr 2))) fun t82 σ =>
  stepK (pureR σ (aLoad false 1 t82 σ)) fun t83 σ =>
  stepK (pureR σ (aIndexAddr 3 t83 (Abs.look fr 9) σ)) fun t85 σ =>
  stepK (pureR σ (aFieldAddr 2 t85)) fun t86 σ =>
  stepK (pureR σ (aLoad false 1 t86 σ)) fun t87 σ =>
  stepK (pureR σ (aIndexAddr 1 t87 (Abs.look fr 77) σ)) fun t89 σ =>
  stepK (pureR σ (aLoad false 1 t89 σ)) fun t90 σ =>
  Ev Go.Proofs.Tryz.prog 46 [t81, t90] σ (fun t91 σ =>
  Ev Go.Proofs.Tryz.prog 65 [(Abs.look fr 7), t91] σ (fun t92 σ =>
  stepK (pureR σ (aBin .add .prim (Abs.look fr 77) (.val (Go.Value.int Go.IntKind.i64 1)))) fun t93 σ =>
  again [(2, (Abs.look fr 2)), (6, (Abs.look fr 6)), (7, t92), (8, (Abs.look fr 8)), (9, (Abs.look fr 9)), (20, (Abs.look fr 20)), (21, (Abs.look fr 21)), (76, (Abs.look fr 76)), (77, t93)] σ
  ) kp) kp) (
  j2 [(2, (Abs.look fr 2)), (6, (Abs.look fr 6)), (7, (Abs.look fr 7)), (8, (Abs.look fr 8)), (20, (Abs.look fr 20)), (21, (Abs.look fr 21))] σ
  )
  )) [(2, (Abs.look fr 2)), (6, (Abs.look fr 6)), (7, (Abs.look fr 7)), (8, (Abs.look fr 8)), (9, (Abs.look fr 9)), (20, (Abs.look fr 20)), (21, (Abs.look fr 21)), (76, t76), (77, (.val (Go.Value.int Go.IntKind.i64 0)))] σ
  )) (fun j3 => (
  stepK (pureR σ (aFieldAddr 4 (Abs.look fr 2))) fun t38 σ =>
  stepK (pureR σ (aLoad false 1 t38 σ)) fun t39 σ =>
  stepK (pureR σ (aIndexAddr 3 t39 (Abs.look fr 21) σ)) fun t41 σ =>
  stepK (pureR σ (aFieldAddr 1 t41)) fun t42 σ =>
  stepK (pureR σ (aLoad false 1 t42 σ)) fun t43 σ =>
  stepK (pureR σ (aLenK .slice t43 σ)) fun t44 σ =>
  loopW (fun fr σ again => (
  stepK (pureR σ (aBin .lss .prim (Abs.look fr 45) (Abs.look fr 44))) fun t46 σ =>
  condK t46 (
  stepK (pureR σ (aFieldAddr 4 (Abs.look fr 2))) fun t48 σ =>
  stepK (pureR σ (aLoad false 1 t48 σ)) fun t49 σ =>
  stepK (pureR σ (aIndexAddr 3 t49 (Abs.look fr 9) σ)) fun t51 σ =>
  stepK (pureR σ (aFieldAddr 1 t51)) fun t52 σ =>
  stepK (pureR σ (aLoad false 1 t52 σ)) fun t53 σ =>
  stepK (pureR σ (aIndexAddr 3 t53 (Abs.look fr 45) σ)) fun t55 σ =>
  stepK (pureR σ (aLoad true 3 t55 σ)) fun t56 σ =>
  stepK (aAlloc [.val (.int .u8 0), .val (.int .i64 0), .val (.string ByteArray.empty)] σ) fun t11 σ =>
  stepK (unitR (aStore 3 t11 t56 σ)) fun _ σ =>
  seqW (fun fr σ => (
  stepK (pureR σ (aLoad true 3 (Abs.look fr 11) σ)) fun t66 σ =>
  stepK (aBuildSlice 1 3 [.val (.int .u8 0), .val (.int .i64 0), .val (.string ByteArray.empty)] [(0, t66)] σ) fun t67 σ =>
  stepK (aAppend 3 32 (Abs.look fr 6) t67 σ) fun t68 σ =>
  stepK (pureR σ (aBin .add .prim (Abs.look fr 45) (.val (Go.Value.int Go.IntKind.i64 1)))) fun t69 σ =>
  again [(2, (Abs.look fr 2)), (6, t68), (7, (Abs.look fr 7)), (8, (Abs.look fr 8)), (9, (Abs.look fr 9)), (20, (Abs.look fr 20)), (21, (Abs.look fr 21)), (44, (Abs.look fr 44)), (45, t69)] σ
  )) (fun j4 => (
  stepK (pureR σ (aFieldAddr 0 t11)) fun t57 σ =>
  stepK (pureR σ (aLoad false 1 t57 σ)) fun t58 σ =>
  stepK (pureR σ (aBin .neq .prim t58 (.val (Go.Value.int Go.IntKind.u8 3)))) fun t59 σ =>
  condK t59 (
  stepK (pureR σ (aLoad true 5 (Abs.look fr 2) σ)) fun t60 σ =>
  stepK (pureR σ (aFieldAddr 1 t11)) fun t61 σ =>
  stepK (pureR σ (aLoad false 1 t61 σ)) fun t62 σ =>
  Ev Go.Proofs.Tryz.prog 45 [t60, t62] σ (fun t63 σ =>
  stepK (pureR σ (aFieldAddr 1 t11)) fun t64 σ =>
  stepK (unitR (aStore 1 t64 t63 σ)) fun _ σ =>
  j4 [(2, (Abs.look fr 2)), (6, (Abs.look fr 6)), (7, (Abs.look fr 7)), (8, (Abs.look fr 8)), (9, (Abs.look fr 9)), (11, t11), (20, (Abs.look fr 20)), (21, (Abs.look fr 21)), (44, (Abs.look fr 44)), (45, (Abs.look fr 45))] σ
  ) kp) (
  j4 [(2, (Abs.look fr 2)), (6, (Abs.look fr 6)), (7, (Abs.look fr 7)), (8, (Abs.look fr 8)), (9, (Abs.look fr 9)), (11, t11), (20, (Abs.look fr 20)), (21, (Abs.look fr 21)), (44, (Abs.look fr 44)), (45, (Abs.look fr 45))] σ
  )
  ))
  ) (
  j3 [(2, (Abs.look fr 2)), (6, (Abs.look fr 6)), (7, (Abs.look fr 7)), (8, (Abs.look fr 8)), (9, (Abs.look fr 9)), (20, (Abs.look fr 20)), (21, (Abs.look fr 21))] σ
  )
  )) [(2, (Abs.look fr 2)), (6, (Abs.look fr 6)), (7, (Abs.look fr 7)), (8, (Abs.look fr 8)), (9, (Abs.look fr 21)), (20, (Abs.look fr 20)), (21, (Abs.look fr 21)), (44, t44), (45, (.val (Go.Value.int Go.IntKind.i64 0)))] σ
  ))
  )
  ) σ) σ) σ) σ) σ) σ) σ) σ) σ) σ))
  ) (
  j1 [(6, (Abs.look fr 6)), (7, (Abs.look fr 7))] σ
  )
  )) [(2, t2), (6, t13), (7, t14), (8, t17), (20, t20), (21, (.val (Go.Value.int Go.IntKind.i64 0)))] σ
  ))) kp
def keep43 : List (Nat × List Nat) := [(0, [1, 2]), (1, [1, 2, 6, 7]), (2, [2, 6, 7, 8]), (3022, [6, 7]), (3, [2, 6, 7, 8, 20, 21]), (4, [2, 6, 7, 8, 20, 21, 22]), (3021, [2, 6, 7, 8, 20, 21]), (5, [2, 6, 7, 8, 9, 20, 21]), (6, [2, 6, 7, 8, 9, 20, 21, 37]), (2006, [0, 1, 2, 3, 4, 5, 6, 7, 8, 9, 11, 10, 12, 13]), (3016, [2, 6, 7, 8, 9, 20, 21]), (7, [2, 6, 7, 8, 9, 20, 21, 44, 45]), (8, [2, 6, 7, 8, 9, 20, 21, 44, 45, 46]), (9, [2, 6, 7, 8, 9, 10, 20, 21, 44, 45]), (10, [2, 6, 7, 8, 9, 11, 20, 21, 44, 45]), (3014, [2, 6, 7, 8, 9, 11, 20, 21, 44, 45]), (11, [2, 6, 7, 8, 9, 11, 20, 21, 44, 45, 59]), (12, [2, 6, 7, 8, 9, 11, 20, 21, 44, 45]), (13, [2, 6, 7, 8, 9, 20, 21, 44, 45]), (14, [2, 6, 7, 8, 9, 20, 21, 44, 45]), (1008, [2, 6, 7, 8, 9, 20, 21, 44, 45]), (15, [2, 6, 7, 8, 9, 20, 21, 76, 77]), (16, [2, 6, 7, 8, 9, 20, 21, 76, 77, 78]), (17, [2, 6, 7, 8, 9, 12, 20, 21, 76, 77]), (18, [2, 6, 7, 8, 9, 20, 21, 76, 77]), (2018, [0, 1, 2, 3, 4, 5, 6, 7, 8, 9, 10, 11, 12, 13]), (19, [2, 6, 7, 8, 9, 20, 21, 76, 77]), (1016, [2, 6, 7, 8, 9, 20, 21, 76, 77]), (20, [2, 6, 7, 8, 20, 21]), (1004, [2, 6, 7, 8, 20, 21]), (21, [4, 5])]
noncomputable def body43 : Code := (Go.Proofs.Tryz.f43).body.getD .skip
theorem F43_eq (t0 t1 : AV) (σ : AHeap) (k kp : AV → AHeap → Prop) : aw Go.Proofs.Tryz.prog (keepOf keep43) body43 (retK Go.Proofs.Tryz.prog (Go.Proofs.Tryz.f43).results.toList k kp) (frameOf 0 [t0, t1]) σ = F43 t0 t1 σ k kp := by kernel_rfl
theorem F43_ev {t0 t1 : AV} {σ : AHeap} {k kp : AV → AHeap → Prop} (h : F43 t0 t1 σ k kp) : Ev Go.Proofs.Tryz.prog 43 [t0, t1] σ k kp :=
  Ev_of_aw mixed Go.Proofs.Tryz.func43 (show (Go.Proofs.Tryz.f43).body = some body43 by kernel_rfl) (by kernel_rfl) (args := [t0, t1]) (of_decide_eq_true (by kernel_rfl)) (keepOf keep43) (by kernel_rfl) (by rw [F43_eq]; exact h)

/-- (enclave/enclaveref16.B).Comes -/
def F44 (t0 t1 : AV) (σ : AHeap) (k kp : AV → AHeap → Prop) : Prop :=
  stepK (aBox t0 σ) fun t2 σ =>
  stepK (aBuildSlice 0 3 [.val (.int .u8 0), .val (.int .i64 0), .val (.string ByteArray.empty)] [] σ) fun t16 σ =>
  stepK (aBuildSlice 0 1 [.val (.int .i64 0)] [] σ) fun t17 σ =>
  seqW (fun fr σ => (
  seqW (fun fr σ => (
  k (.tup [(Abs.look fr 6), (Abs.look fr 7)]) σ
  )) (fun j2 => (
  loopW (fun fr σ again => (
  condK (Abs.look fr 10) (
  stepK (pureR σ (aLenK .slice (Abs.look fr 7) σ)) fun t37 σ =>
  seqW (fun fr σ => (
  stepK (pureR σ (aLenK .slice (Abs.look fr 7) σ)) fun t70 σ =>
  stepK (pureR σ (aBin .gtr .prim t70 (Abs.look fr 11))) fun t72 σ =>
  again [(2, (Abs.look fr 2)), (6, (Abs.look fr 6)), (7, (Abs.look fr 7)), (10, t72)] σ
  )) (fun j3 => (
  stepK (pureR σ (aLenK .slice (Abs.look fr 7) σ)) fun t39 σ =>
  loopW (fun fr σ again => (
  stepK (pureR σ (aBin .lss .prim (Abs.look fr 40) (Abs.look fr 39))) fun t41 σ =>
  condK t41 (
  seqW (fun fr σ => (
  stepK (pureR σ (aBin .add .prim (Abs.look fr 40) (.val (Go.Value.int Go.IntKind.i64 1)))) fun t68 σ =>
  again [(2, (Abs.look fr 2)), (6, (Abs.look fr 6)), (7, (Abs.look fr 7)), (11, (Abs.look fr 11)), (39, (Abs.look fr 39)), (40, t68)] σ
  )) (fun j4 => (
  stepK (pureR σ (aLoad true 5 (Abs.look fr 2) σ)) fun t44 σ =>
  stepK (pureR σ (aIndexAddr 1 (Abs.look fr 7) (Abs.look fr 40) σ)) fun t47 σ =>
  stepK (pureR σ (aLoad false 1 t47 σ)) fun t48 σ =>
  Ev Go.Proofs.Tryz.prog 43 [t44, t48] σ (fun t49 σ =>
  stepK (pureR σ (aExtract 0 t49)) fun t50 σ =>
  stepK (pureR σ (aExtract 1 t49)) fun t51 σ =>
  stepK (aBuildSlice 2 1 [.val (.slice none 0 0)] [(0, (Abs.look fr 6)), (1, t50)] σ) fun t54 σ =>
  Ev Go.Proofs.Tryz.prog 67 [t54] σ (fun t55 σ =>
  stepK (pureR σ (aLenK .slice t51 σ)) fun t57 σ =>
  loopW (fun fr σ again => (
  stepK (pureR σ (aBin .lss .prim (Abs.look fr 58) (Abs.look fr 57))) fun t59 σ =>
  condK t59 (
  stepK (pureR σ (aIndexAddr 1 (Abs.look fr 14) (Abs.look fr 58) σ)) fun t64 σ =>
  stepK (pureR σ (aLoad false 1 t64 σ)) fun t65 σ =>
  Ev Go.Proofs.Tryz.prog 65 [(Abs.look fr 7), t65] σ (fun t66 σ =>
  stepK (pureR σ (aBin .add .prim (Abs.look fr 58) (.val (Go.Value.int Go.IntKind.i64 1)))) fun t67 σ =>
  again [(2, (Abs.look fr 2)), (6, (Abs.look fr 6)), (7, t66), (11, (Abs.look fr 11)), (14, (Abs.look fr 14)), (39, (Abs.look fr 39)), (40, (Abs.look fr 40)), (57, (Abs.look fr 57)), (58, t67)] σ
  ) kp) (
  j4 [(2, (Abs.look fr 2)), (6, (Abs.look fr 6)), (7, (Abs.look fr 7)), (11, (Abs.look fr 11)), (39, (Abs.look fr 39)), (40, (Abs.look fr 40))] σ
  )
  )) [(2, (Abs.look fr 2)), (6, t55), (7, (Abs.look fr 7)), (11, (Abs.look fr 11)), (14, t51), (39, (Abs.look fr 39)), (40, (Abs.look fr 40)), (57, t57), (58, (.val (Go.Value.int Go.IntKind.i64 0)))] σ
  ) kp) kp))
  ) (
  j3 [(2, (Abs.look fr 2)), (6, (Abs.look fr 6)), (7, (Abs.look fr 7)), (11, (Abs.look fr 11))] σ
  )
  )) [(2, (Abs.look fr 2)), (6, (Abs.look fr 6)), (7, (Abs.look fr 7)), (11, t37), (39, t39), (40, (.val (Go.Value.int Go.IntKind.i64 0)))] σ
  ))
  ) (
  j2 [(6, (Abs.look fr 6)), (7, (Abs.look fr 7))] σ
  )
  )) [(2, (Abs.look fr 2)), (6, (Abs.look fr 6)), (7, (Abs.look fr 7)), (10, (.val (Go.Value.bool Bool.true)))] σ
  ))
  )) (fun j1 => (
  stepK (pureR σ (aLenK .slice t1 σ)) fun t19 σ =>
  loopW (fun fr σ again => (
  stepK (pureR σ (aBin .lss .prim (Abs.look fr 20) (Abs.look fr 19))) fun t21 σ =>
  condK t21 (
  seqW (fun fr σ => (
  stepK (pureR σ (aBin .add .prim (Abs.look fr 20) (.val (Go.Value.int Go.IntKind.i64 1)))) fun t34 σ =>
  again [(1, (Abs.look fr 1)), (2, (Abs.look fr 2)), (6, (Abs.look fr 6)), (7, (Abs.look fr 7)), (19, (Abs.look fr 19)), (20, t34)] σ
  )) (fun j5 => (
  stepK (pureR σ (aLoad true 5 (Abs.look fr 2) σ)) fun t23 σ =>
  stepK (pureR σ (aIndexAddr 1 (Abs.look fr 1) (Abs.look fr 20) σ)) fun t26 σ =>
  stepK (pureR σ (aLoad false 1 t26 σ)) fun t27 σ =>
  Ev Go.Proofs.Tryz.prog 46 [t23, t27] σ (fun t28 σ =>
  stepK (pureR σ (aBin .geq .prim t28 (.val (Go.Value.int Go.IntKind.i64 0)))) fun t30 σ =>
  condK t30 (
  Ev Go.Proofs.Tryz.prog 65 [(Abs.look fr 7), t28] σ (fun t33 σ =>
  j5 [(1, (Abs.look fr 1)), (2, (Abs.look fr 2)), (6, (Abs.look fr 6)), (7, t33), (19, (Abs.look fr 19)), (20, (Abs.look fr 20))] σ
  ) kp) (
  j5 [(1, (Abs.look fr 1)), (2, (Abs.look fr 2)), (6, (Abs.look fr 6)), (7, (Abs.look fr 7)), (19, (Abs.look fr 19)), (20, (Abs.look fr 20))] σ
  )
  ) kp))
  ) (
  j1 [(2, (Abs.look fr 2)), (6, (Abs.look fr 6)), (7, (Abs.look fr 7))] σ
  )
  )) [(1, t1), (2, t2), (6, t16), (7, t17), (19, t19), (20, (.val (Go.Value.int Go.IntKind.i64 0)))] σ
  ))
def keep44 : List (Nat × List Nat) := [(0, [1, 2]), (1, [1, 2, 6, 7]), (3010, [2, 6, 7]), (2, [1, 2, 6, 7, 19, 20]), (3, [1, 2, 6, 7, 19, 20, 21]), (3009, [1, 2, 6, 7, 19, 20]), (4, [1, 2, 6, 7, 8, 19, 20]), (5, [1, 2, 6, 7, 9, 19, 20]), (2005, [0, 1, 2, 3, 4, 5, 6]), (6, [1, 2, 6, 7, 9, 19, 20, 30]), (7, [1, 2, 6, 7, 19, 20]), (8, [1, 2, 6, 7, 19, 20]), (1003, [1, 2, 6, 7, 19, 20]), (9, [2, 6, 7, 10]), (3025, [6, 7]), (10, [2, 6, 7, 35]), (11, [2, 6, 7, 11]), (3024, [2, 6, 7, 11]), (12, [2, 6, 7, 11, 39, 40]), (13, [2, 6, 7, 11, 39, 40, 41]), (3023, [2, 6, 7, 11, 39, 40]), (14, [2, 6, 7, 11, 12, 39, 40]), (15, [2, 6, 7, 11, 13, 14, 39, 40]), (2015, [0, 1, 2, 3, 4, 5, 6, 7, 8, 9, 10]), (16, [2, 6, 7, 11, 14, 39, 40]), (17, [2, 6, 7, 11, 14, 39, 40, 57, 58]), (18, [2, 6, 7, 11, 14, 39, 40, 57, 58, 59]), (19, [2, 6, 7, 11, 14, 15, 39, 40, 57, 58]), (20, [2, 6, 7, 11, 14, 39, 40, 57, 58]), (21, [2, 6, 7, 11, 14, 39, 40, 57, 58]), (1018, [2, 6, 7, 11, 14, 39, 40, 57, 58]), (22, [2, 6, 7, 11, 39, 40]), (1013, [2, 6, 7, 11, 39, 40]), (23, [2, 6, 7, 10]), (1010, [2, 6, 7, 10]), (24, [4, 5])]
noncomputable def body44 : Code := (Go.Proofs.Tryz.f44).body.getD .skip
theorem F44_eq (t0 t1 : AV) (σ : AHeap) (k kp : AV → AHeap → Prop) : aw Go.Proofs.Tryz.prog (keepOf keep44) body44 (retK Go.Proofs.Tryz.prog (Go.Proofs.Tryz.f44).results.toList k kp) (frameOf 0 [t0, t1]) σ = F44 t0 t1 σ k kp := by kernel_rfl
theorem F44_ev {t0 t1 : AV} {σ : AHeap} {k kp : AV → AHeap → Prop} (h : F44 t0 t1 σ k kp) : Ev Go.Proofs.Tryz.prog 44 [t0, t1] σ k kp :=
  Ev_of_aw mixed Go.Proofs.Tryz.func44 (show (Go.Proofs.Tryz.f44).body = some body44 by kernel_rfl) (by kernel_rfl) (args := [t0, t1]) (of_decide_eq_true (by kernel_rfl)) (keepOf keep44) (by kernel_rfl) (by rw [F44_eq]; exact h)

/-- (enclave/enclaveref16.B).Name -/
def F45 (t0 t1 : AV) (σ : AHeap) (k kp : AV → AHeap → Prop) : Prop :=
  stepK (aBox t0 σ) fun t2 σ =>
  stepK (pureR σ (aFieldAddr 0 t2)) fun t6 σ =>
  stepK (pureR σ (aLoad false 1 t6 σ)) fun t7 σ =>
  stepK (pureR σ (aFieldAddr 2 t2)) fun t8 σ =>
  stepK (pureR σ (aLoad false 1 t8 σ)) fun t9 σ =>
  Ev Go.Proofs.Tryz.prog 68 [t1, t7, t9] σ (fun t10 σ =>
  k t10 σ) kp
def keep45 : List (Nat × List Nat) := [(0, [1, 2]), (1, [4])]
noncomputable def body45 : Code := (Go.Proofs.Tryz.f45).body.getD .skip
theorem F45_eq (t0 t1 : AV) (σ : AHeap) (k kp : AV → AHeap → Prop) : aw Go.Proofs.Tryz.prog (keepOf keep45) body45 (retK Go.Proofs.Tryz.prog (Go.Proofs.Tryz.f45).results.toList k kp) (frameOf 0 [t0, t1]) σ = F45 t0 t1 σ k kp := by kernel_rfl
theorem F45_ev {t0 t1 : AV} {σ : AHeap} {k kp : AV → AHeap → Prop} (h : F45 t0 t1 σ k kp) : Ev Go.Proofs.Tryz.prog 45 [t0, t1] σ k kp :=
  Ev_of_aw mixed Go.Proofs.Tryz.func45 (show (Go.Proofs.Tryz.f45).body = some body45 by kernel_rfl) (by kernel_rfl) (args := [t0, t1]) (of_decide_eq_true (by kernel_rfl)) (keepOf keep45) (by kernel_rfl) (by rw [F45_eq]; exact h)

/-- (enclave/enclaveref16.B).VarName -/
def F46 (t0 t1 : AV) (σ : AHeap) (k kp : AV → AHeap → Prop) : Prop :=
  stepK (aBox t0 σ) fun t2 σ =>
  stepK (pureR σ (aFieldAddr 1 t2)) fun t6 σ =>
  stepK (pureR σ (aLoad false 1 t6 σ)) fun t7 σ =>
  stepK (pureR σ (aFieldAddr 3 t2)) fun t8 σ =>
  stepK (pureR σ (aLoad false 1 t8 σ)) fun t9 σ =>
  Ev Go.Proofs.Tryz.prog 68 [t1, t7, t9] σ (fun t10 σ =>
  k t10 σ) kp
def keep46 : List (Nat × List Nat) := [(0, [1, 2]), (1, [4])]
noncomputable def body46 : Code := (Go.Proofs.Tryz.f46).body.getD .skip
theorem F46_eq (t0 t1 : AV) (σ : AHeap) (k kp : AV → AHeap → Prop) : aw Go.Proofs.Tryz.prog (keepOf keep46) body46 (retK Go.Proofs.Tryz.prog (Go.Proofs.Tryz.f46).results.toList k kp) (frameOf 0 [t0, t1]) σ = F46 t0 t1 σ k kp := by kernel_rfl
theorem F46_ev {t0 t1 : AV} {σ : AHeap} {k kp : AV → AHeap → Prop} (h : F46 t0 t1 σ k kp) : Ev Go.Proofs.Tryz.prog 46 [t0, t1] σ k kp :=
  Ev_of_aw mixed Go.Proofs.Tryz.func46 (show (Go.Proofs.Tryz.f46).body = some body46 by kernel_rfl) (by kernel_rfl) (args := [t0, t1]) (of_decide_eq_true (by kernel_rfl)) (keepOf keep46) (by kernel_rfl) (by rw [F46_eq]; exact h)

/-- slices.Clone[[]int,int] -/
def F47 (t0 : AV) (σ : AHeap) (k kp : AV → AHeap → Prop) : Prop :=
  stepK (pureR σ (aBin .eql .slice t0 (.val (Go.Value.slice Option.none 0 0)))) fun t4 σ =>
  condK t4 (
  k (.val (Go.Value.slice Option.none 0 0)) σ
  ) (
  stepK (aBuildSlice 0 1 [.val (.int .i64 0)] [] σ) fun t5 σ =>
  stepK (aAppend 1 8 t5 t0 σ) fun t7 σ =>
  k t7 σ
  )
def keep47 : List (Nat × List Nat) := [(0, [0]), (1, [0, 4]), (2, [2]), (3, [2])]
noncomputable def body47 : Code := (Go.Proofs.Tryz.f47).body.getD .skip
theorem F47_eq (t0 : AV) (σ : AHeap) (k kp : AV → AHeap → Prop) : aw Go.Proofs.Tryz.prog (keepOf keep47) body47 (retK Go.Proofs.Tryz.prog (Go.Proofs.Tryz.f47).results.toList k kp) (frameOf 0 [t0]) σ = F47 t0 σ k kp := by kernel_rfl
theorem F47_ev {t0 : AV} {σ : AHeap} {k kp : AV → AHeap → Prop} (h : F47 t0 σ k kp) : Ev Go.Proofs.Tryz.prog 47 [t0] σ k kp :=
  Ev_of_aw mixed Go.Proofs.Tryz.func47 (show (Go.Proofs.Tryz.f47).body = some body47 by kernel_rfl) (by kernel_rfl) (args := [t0]) (of_decide_eq_true (by kernel_rfl)) (keepOf keep47) (by kernel_rfl) (by rw [F47_eq]; exact h)

/-- slices.Clone[[]enclave/basis.has,enclave/basis.has] -/
def F48 (t0 : AV) (σ : AHeap) (k kp : AV → AHeap → Prop) : Prop :=
  stepK (pureR σ (aBin .eql .slice t0 (.val (Go.Value.slice Option.none 0 0)))) fun t4 σ =>
  condK t4 (
  k (.val (Go.Value.slice Option.none 0 0)) σ
  ) (
  stepK (aBuildSlice 0 2 [.val (.slice none 0 0), .val (.slice none 0 0)] [] σ) fun t5 σ =>
  stepK (aAppend 2 48 t5 t0 σ) fun t7 σ =>
  k t7 σ
  )
def keep48 : List (Nat × List Nat) := [(0, [0]), (1, [0, 4]), (2, [2]), (3, [2])]
noncomputable def body48 : Code := (Go.Proofs.Tryz.f48).body.getD .skip
theorem F48_eq (t0 : AV) (σ : AHeap) (k kp : AV → AHeap → Prop) : aw Go.Proofs.Tryz.prog (keepOf keep48) body48 (retK Go.Proofs.Tryz.prog (Go.Proofs.Tryz.f48).results.toList k kp) (frameOf 0 [t0]) σ = F48 t0 σ k kp := by kernel_rfl
theorem F48_ev {t0 : AV} {σ : AHeap} {k kp : AV → AHeap → Prop} (h : F48 t0 σ k kp) : Ev Go.Proofs.Tryz.prog 48 [t0] σ k kp :=
  Ev_of_aw mixed Go.Proofs.Tryz.func48 (show (Go.Proofs.Tryz.f48).body = some body48 by kernel_rfl) (by kernel_rfl) (args := [t0]) (of_decide_eq_true (by kernel_rfl)) (keepOf keep48) (by kernel_rfl) (by rw [F48_eq]; exact h)

/-- (*enclave/basis.forest).join -/
def F49 (t0 t1 t2 : AV) (σ : AHeap) (k kp : AV → AHeap → Prop) : Prop :=
  Ev Go.Proofs.Tryz.prog 39 [t0, t1] σ (fun t8 σ =>
  Ev Go.Proofs.Tryz.prog 39 [t0, t2] σ (fun t11 σ =>
  stepK (pureR σ (aNilCheck t0)) fun t13 σ =>
  stepK (pureR σ (aFieldAddr 0 t13)) fun t14 σ =>
  stepK (pureR σ (aLoad false 1 t14 σ)) fun t15 σ =>
  stepK (pureR σ (aMax t8 t11)) fun t18 σ =>
  stepK (pureR σ (aMin t8 t11)) fun t21 σ =>
  stepK (pureR σ (aIndexAddr 1 t15 t18 σ)) fun t22 σ =>
  stepK (unitR (aStore 1 t22 t21 σ)) fun _ σ =>
  k (.tup []) σ) kp) kp
def keep49 : List (Nat × List Nat) := [(0, [0, 1, 2]), (1, [])]
noncomputable def body49 : Code := (Go.Proofs.Tryz.f49).body.getD .skip
theorem F49_eq (t0 t1 t2 : AV) (σ : AHeap) (k kp : AV → AHeap → Prop) : aw Go.Proofs.Tryz.prog (keepOf keep49) body49 (retK Go.Proofs.Tryz.prog (Go.Proofs.Tryz.f49).results.toList k kp) (frameOf 0 [t0, t1, t2]) σ = F49 t0 t1 t2 σ k kp := by kernel_rfl
theorem F49_ev {t0 t1 t2 : AV} {σ : AHeap} {k kp : AV → AHeap → Prop} (h : F49 t0 t1 t2 σ k kp) : Ev Go.Proofs.Tryz.prog 49 [t0, t1, t2] σ k kp :=
  Ev_of_aw mixed Go.Proofs.Tryz.func49 (show (Go.Proofs.Tryz.f49).body = some body49 by kernel_rfl) (by kernel_rfl) (args := [t0, t1, t2]) (of_decide_eq_true (by kernel_rfl)) (keepOf keep49) (by kernel_rfl) (by rw [F49_eq]; exact h)

/-- slices.Clip[[]enclave/api.Atom,enclave/api.Atom] -/
def F50 (t0 : AV) (σ : AHeap) (k kp : AV → AHeap → Prop) : Prop :=
  stepK (pureR σ (aLenK .slice t0 σ)) fun t5 σ =>
  stepK (pureR σ (aLenK .slice t0 σ)) fun t7 σ =>
  stepK (pureR σ (aSlice 3 t0 none (some t5) (some t7))) fun t8 σ =>
  k t8 σ
def keep50 : List (Nat × List Nat) := [(0, [0]), (1, [2])]
noncomputable def body50 : Code := (Go.Proofs.Tryz.f50).body.getD .skip
theorem F50_eq (t0 : AV) (σ : AHeap) (k kp : AV → AHeap → Prop) : aw Go.Proofs.Tryz.prog (keepOf keep50) body50 (retK Go.Proofs.Tryz.prog (Go.Proofs.Tryz.f50).results.toList k kp) (frameOf 0 [t0]) σ = F50 t0 σ k kp := by kernel_rfl
theorem F50_ev {t0 : AV} {σ : AHeap} {k kp : AV → AHeap → Prop} (h : F50 t0 σ k kp) : Ev Go.Proofs.Tryz.prog 50 [t0] σ k kp :=
  Ev_of_aw mixed Go.Proofs.Tryz.func50 (show (Go.Proofs.Tryz.f50).body = some body50 by kernel_rfl) (by kernel_rfl) (args := [t0]) (of_decide_eq_true (by kernel_rfl)) (keepOf keep50) (by kernel_rfl) (by rw [F50_eq]; exact h)

/-- slices.Clip[[]int,int] -/
def F51 (t0 : AV) (σ : AHeap) (k kp : AV → AHeap → Prop) : Prop :=
  stepK (pureR σ (aLenK .slice t0 σ)) fun t5 σ =>
  stepK (pureR σ (aLenK .slice t0 σ)) fun t7 σ =>
  stepK (pureR σ (aSlice 1 t0 none (some t5) (some t7))) fun t8 σ =>
  k t8 σ
def keep51 : List (Nat × List Nat) := [(0, [0]), (1, [2])]
noncomputable def body51 : Code := (Go.Proofs.Tryz.f51).body.getD .skip
theorem F51_eq (t0 : AV) (σ : AHeap) (k kp : AV → AHeap → Prop) : aw Go.Proofs.Tryz.prog (keepOf keep51) body51 (retK Go.Proofs.Tryz.prog (Go.Proofs.Tryz.f51).results.toList k kp) (frameOf 0 [t0]) σ = F51 t0 σ k kp := by kernel_rfl
theorem F51_ev {t0 : AV} {σ : AHeap} {k kp : AV → AHeap → Prop} (h : F51 t0 σ k kp) : Ev Go.Proofs.Tryz.prog 51 [t0] σ k kp :=
  Ev_of_aw mixed Go.Proofs.Tryz.func51 (show (Go.Proofs.Tryz.f51).body = some body51 by kernel_rfl) (by kernel_rfl) (args := [t0]) (of_decide_eq_true (by kernel_rfl)) (keepOf keep51) (by kernel_rfl) (by rw [F51_eq]; exact h)

/-- enclave/effect.Atom -/
def F52 (t0 : AV) (σ : AHeap) (k kp : AV → AHeap → Prop) : Prop :=
  Ev Go.Proofs.Tryz.prog 69 [t0, (.fn (.func 70) [])] σ (fun t4 σ =>
  stepK (pureR σ (aNot t4)) fun t5 σ =>
  k t5 σ) kp
def keep52 : List (Nat × List Nat) := [(0, [0]), (1, [2])]
noncomputable def body52 : Code := (Go.Proofs.Tryz.f52).body.getD .skip
theorem F52_eq (t0 : AV) (σ : AHeap) (k kp : AV → AHeap → Prop) : aw Go.Proofs.Tryz.prog (keepOf keep52) body52 (retK Go.Proofs.Tryz.prog (Go.Proofs.Tryz.f52).results.toList k kp) (frameOf 0 [t0]) σ = F52 t0 σ k kp := by kernel_rfl
theorem F52_ev {t0 : AV} {σ : AHeap} {k kp : AV → AHeap → Prop} (h : F52 t0 σ k kp) : Ev Go.Proofs.Tryz.prog 52 [t0] σ k kp :=
  Ev_of_aw mixed Go.Proofs.Tryz.func52 (show (Go.Proofs.Tryz.f52).body = some body52 by kernel_rfl) (by kernel_rfl) (args := [t0]) (of_decide_eq_true (by kernel_rfl)) (keepOf keep52) (by kernel_rfl) (by rw [F52_eq]; exact h)

/-- enclave/effect.Rhos -/
def F53 (t0 : AV) (σ : AHeap) (k kp : AV → AHeap → Prop) : Prop :=
  seqW (fun fr σ => (
  Ev Go.Proofs.Tryz.prog 55 [(Abs.look fr 3)] σ (fun t23 σ =>
  Ev Go.Proofs.Tryz.prog 56 [(Abs.look fr 3)] σ (fun t25 σ =>
  k t25 σ
  ) kp) kp)) (fun j1 => (
  Ev Go.Proofs.Tryz.prog 71 [t0] σ (fun t7 σ =>
  stepK (pureR σ (aLenK .slice t7 σ)) fun t8 σ =>
  loopW (fun fr σ again => (
  stepK (pureR σ (aBin .lss .prim (Abs.look fr 9) (Abs.look fr 8))) fun t10 σ =>
  condK t10 (
  seqW (fun fr σ => (
  stepK (pureR σ (aBin .add .prim (Abs.look fr 9) (.val (Go.Value.int Go.IntKind.i64 1)))) fun t21 σ =>
  again [(3, (Abs.look fr 3)), (7, (Abs.look fr 7)), (8, (Abs.look fr 8)), (9, t21)] σ
  )) (fun j2 => (
  stepK (pureR σ (aIndexAddr 3 (Abs.look fr 7) (Abs.look fr 9) σ)) fun t11 σ =>
  stepK (pureR σ (aLoad true 3 t11 σ)) fun t12 σ =>
  stepK (aAlloc [.val (.int .u8 0), .val (.int .i64 0), .val (.string ByteArray.empty)] σ) fun t5 σ =>
  stepK (unitR (aStore 3 t5 t12 σ)) fun _ σ =>
  stepK (pureR σ (aFieldAddr 0 t5)) fun t13 σ =>
  stepK (pureR σ (aLoad false 1 t13 σ)) fun t14 σ =>
  stepK (pureR σ (aBin .neq .prim t14 (.val (Go.Value.int Go.IntKind.u8 3)))) fun t15 σ =>
  condK t15 (
  stepK (pureR σ (aFieldAddr 1 t5)) fun t17 σ =>
  stepK (pureR σ (aLoad false 1 t17 σ)) fun t18 σ =>
  stepK (aBuildSlice 1 1 [.val (.int .i64 0)] [(0, t18)] σ) fun t19 σ =>
  stepK (aAppend 1 8 (Abs.look fr 3) t19 σ) fun t20 σ =>
  j2 [(3, t20), (7, (Abs.look fr 7)), (8, (Abs.look fr 8)), (9, (Abs.look fr 9))] σ
  ) (
  j2 [(3, (Abs.look fr 3)), (7, (Abs.look fr 7)), (8, (Abs.look fr 8)), (9, (Abs.look fr 9))] σ
  )
  ))
  ) (
  j1 [(3, (Abs.look fr 3))] σ
  )
  )) [(3, (.val (Go.Value.slice Option.none 0 0))), (7, t7), (8, t8), (9, (.val (Go.Value.int Go.IntKind.i64 0)))] σ
  ) kp))
def keep53 : List (Nat × List Nat) := [(0, [0]), (1, [0, 3]), (3009, [3]), (2, [3, 7, 8, 9]), (3, [3, 7, 8, 9, 10]), (3008, [3, 7, 8, 9]), (4, [3, 5, 7, 8, 9]), (5, [3, 5, 7, 8, 9, 15]), (6, [3, 7, 8, 9]), (7, [3, 7, 8, 9]), (1003, [3, 7, 8, 9]), (8, [3]), (9, [2])]
noncomputable def body53 : Code := (Go.Proofs.Tryz.f53).body.getD .skip
theorem F53_eq (t0 : AV) (σ : AHeap) (k kp : AV → AHeap → Prop) : aw Go.Proofs.Tryz.prog (keepOf keep53) body53 (retK Go.Proofs.Tryz.prog (Go.Proofs.Tryz.f53).results.toList k kp) (frameOf 0 [t0]) σ = F53 t0 σ k kp := by kernel_rfl
theorem F53_ev {t0 : AV} {σ : AHeap} {k kp : AV → AHeap → Prop} (h : F53 t0 σ k kp) : Ev Go.Proofs.Tryz.prog 53 [t0] σ k kp :=
  Ev_of_aw mixed Go.Proofs.Tryz.func53 (show (Go.Proofs.Tryz.f53).body = some body53 by kernel_rfl) (by kernel_rfl) (args := [t0]) (of_decide_eq_true (by kernel_rfl)) (keepOf keep53) (by kernel_rfl) (by rw [F53_eq]; exact h)

/-- enclave/enclaveref16.there -/
def F54 (t0 t1 : AV) (σ : AHeap) (k kp : AV → AHeap → Prop) : Prop :=
  seqW (fun fr σ => (
  k (.val (Go.Value.bool Bool.true)) σ
  )) (fun j1 => (
  stepK (pureR σ (aLenK .slice t0 σ)) fun t7 σ =>
  loopW (fun fr σ again => (
  stepK (pureR σ (aBin .lss .prim (Abs.look fr 8) (Abs.look fr 7))) fun t9 σ =>
  condK t9 (
  stepK (pureR σ (aIndexAddr 1 (Abs.look fr 0) (Abs.look fr 8) σ)) fun t13 σ =>
  stepK (pureR σ (aLoad false 1 t13 σ)) fun t14 σ =>
  stepK (pureR σ (aBin .lss .prim t14 (.val (Go.Value.int Go.IntKind.i64 0)))) fun t15 σ =>
  gK t15 false (fun K => K (Abs.look fr 0) σ) (fun t17 σ =>
  gK t15 false (fun K => K (Abs.look fr 8) σ) (fun t18 σ =>
  gK t15 false (fun K => stepK (pureR σ (aIndexAddr 1 t17 t18 σ)) K) (fun t19 σ =>
  gK t15 false (fun K => stepK (pureR σ (aLoad false 1 t19 σ)) K) (fun t20 σ =>
  gK t15 false (fun K => K (Abs.look fr 1) σ) (fun t21 σ =>
  gK t15 false (fun K => stepK (pureR σ (aBin .geq .prim t20 t21)) K) (fun t22 σ =>
  stepK (pureR σ (aPick t15 (.val (Go.Value.bool Bool.true)) t22)) fun t23 σ =>
  condK t23 (
  k (.val (Go.Value.bool Bool.false)) σ
  ) (
  stepK (pureR σ (aBin .add .prim (Abs.look fr 8) (.val (Go.Value.int Go.IntKind.i64 1)))) fun t24 σ =>
  again [(0, (Abs.look fr 0)), (1, (Abs.look fr 1)), (7, (Abs.look fr 7)), (8, t24)] σ
  )
  ) σ) σ) σ) σ) σ) σ) (
  j1 [(0, (Abs.look fr 0))] σ
  )
  )) [(0, t0), (1, t1), (7, t7), (8, (.val (Go.Value.int Go.IntKind.i64 0)))] σ
  ))
def keep54 : List (Nat × List Nat) := [(0, [0, 1]), (3008, [0]), (1, [0, 1, 7, 8]), (2, [0, 1, 7, 8, 9]), (3, [0, 1, 5, 7, 8]), (4, [0, 1, 7, 8, 23]), (5, [4]), (6, [0, 1, 7, 8]), (1002, [0, 1, 7, 8]), (7, [4])]
noncomputable def body54 : Code := (Go.Proofs.Tryz.f54).body.getD .skip
theorem F54_eq (t0 t1 : AV) (σ : AHeap) (k kp : AV → AHeap → Prop) : aw Go.Proofs.Tryz.prog (keepOf keep54) body54 (retK Go.Proofs.Tryz.prog (Go.Proofs.Tryz.f54).results.toList k kp) (frameOf 0 [t0, t1]) σ = F54 t0 t1 σ k kp := by kernel_rfl
theorem F54_ev {t0 t1 : AV} {σ : AHeap} {k kp : AV → AHeap → Prop} (h : F54 t0 t1 σ k kp) : Ev Go.Proofs.Tryz.prog 54 [t0, t1] σ k kp :=
  Ev_of_aw mixed Go.Proofs.Tryz.func54 (show (Go.Proofs.Tryz.f54).body = some body54 by kernel_rfl) (by kernel_rfl) (args := [t0, t1]) (of_decide_eq_true (by kernel_rfl)) (keepOf keep54) (by kernel_rfl) (by rw [F54_eq]; exact h)

/-- slices.Index[[]int,int] -/
def F57 (t0 t1 : AV) (σ : AHeap) (k kp : AV → AHeap → Prop) : Prop :=
  seqW (fun fr σ => (
  k (.val (Go.Value.int Go.IntKind.i64 (-1))) σ
  )) (fun j1 => (
  stepK (pureR σ (aLenK .slice t0 σ)) fun t7 σ =>
  loopW (fun fr σ again => (
  stepK (pureR σ (aBin .lss .prim (Abs.look fr 8) (Abs.look fr 7))) fun t9 σ =>
  condK t9 (
  stepK (pureR σ (aIndexAddr 1 (Abs.look fr 0) (Abs.look fr 8) σ)) fun t14 σ =>
  stepK (pureR σ (aLoad false 1 t14 σ)) fun t15 σ =>
  stepK (pureR σ (aBin .eql .prim (Abs.look fr 1) t15)) fun t16 σ =>
  condK t16 (
  k (Abs.look fr 8) σ
  ) (
  stepK (pureR σ (aBin .add .prim (Abs.look fr 8) (.val (Go.Value.int Go.IntKind.i64 1)))) fun t18 σ =>
  again [(0, (Abs.look fr 0)), (1, (Abs.look fr 1)), (7, (Abs.look fr 7)), (8, t18)] σ
  )
  ) (
  j1 [(0, (Abs.look fr 0))] σ
  )
  )) [(0, t0), (1, t1), (7, t7), (8, (.val (Go.Value.int Go.IntKind.i64 0)))] σ
  ))
def keep57 : List (Nat × List Nat) := [(0, [0, 1]), (3008, [0]), (1, [0, 1, 7, 8]), (2, [0, 1, 7, 8, 9]), (3, [0, 1, 5, 7, 8]), (4, [0, 1, 5, 7, 8, 16]), (5, [4]), (6, [0, 1, 7, 8]), (1002, [0, 1, 7, 8]), (7, [4])]
noncomputable def body57 : Code := (Go.Proofs.Tryz.f57).body.getD .skip
theorem F57_eq (t0 t1 : AV) (σ : AHeap) (k kp : AV → AHeap → Prop) : aw Go.Proofs.Tryz.prog (keepOf keep57) body57 (retK Go.Proofs.Tryz.prog (Go.Proofs.Tryz.f57).results.toList k kp) (frameOf 0 [t0, t1]) σ = F57 t0 t1 σ k kp := by kernel_rfl
theorem F57_ev {t0 t1 : AV} {σ : AHeap} {k kp : AV → AHeap → Prop} (h : F57 t0 t1 σ k kp) : Ev Go.Proofs.Tryz.prog 57 [t0, t1] σ k kp :=
  Ev_of_aw mixed Go.Proofs.Tryz.func57 (show (Go.Proofs.Tryz.f57).body = some body57 by kernel_rfl) (by kernel_rfl) (args := [t0, t1]) (of_decide_eq_true (by kernel_rfl)) (keepOf keep57) (by kernel_rfl) (by rw [F57_eq]; exact h)

/-- enclave/effect.atom -/
def F58 (t0 : AV) (σ : AHeap) (k kp : AV → AHeap → Prop) : Prop :=
  stepK (aBox t0 σ) fun t1 σ =>
  stepK (pureR σ (aFieldAddr 0 t1)) fun t3 σ =>
  stepK (pureR σ (aLoad false 1 t3 σ)) fun t4 σ =>
  seqW (fun fr σ => (
  condK (Abs.look fr 5) (
  stepK (pureR σ (aFieldAddr 1 (Abs.look fr 1))) fun t8 σ =>
  stepK (pureR σ (aLoad false 1 t8 σ)) fun t9 σ =>
  stepK (pureR σ (aBin .geq .prim t9 (.val (Go.Value.int Go.IntKind.i64 0)))) fun t10 σ =>
  gK t10 true (fun K => stepK (pureR σ (aFieldAddr 2 (Abs.look fr 1))) K) (fun t12 σ =>
  gK t10 true (fun K => stepK (pureR σ (aLoad false 1 t12 σ)) K) (fun t13 σ =>
  gK t10 true (fun K => stepK (pureR σ (aBin .eql .prim t13 (.val (Go.Value.string { data := #[] })))) K) (fun t14 σ =>
  stepK (pureR σ (aPick t10 t14 (.val (Go.Value.bool Bool.false)))) fun t15 σ =>
  k t15 σ
  ) σ) σ) σ) (
  stepK (pureR σ (aBin .eql .prim (Abs.look fr 4) (.val (Go.Value.int Go.IntKind.u8 3)))) fun t17 σ =>
  condK t17 (
  stepK (pureR σ (aFieldAddr 1 (Abs.look fr 1))) fun t18 σ =>
  stepK (pureR σ (aLoad false 1 t18 σ)) fun t19 σ =>
  stepK (pureR σ (aBin .eql .prim t19 (.val (Go.Value.int Go.IntKind.i64 0)))) fun t20 σ =>
  gK t20 true (fun K => stepK (pureR σ (aFieldAddr 2 (Abs.look fr 1))) K) (fun t22 σ =>
  gK t20 true (fun K => stepK (pureR σ (aLoad false 1 t22 σ)) K) (fun t23 σ =>
  gK t20 true (fun K => stepK (pureR σ (aBuildSl 1 1 [.val (.string ByteArray.empty)] [(0, t23)])) K) (fun t24 σ =>
  gK t20 true (fun K => Ev Go.Proofs.Tryz.prog 74 [t24] σ K kp) (fun t25 σ =>
  stepK (pureR σ (aPick t20 t25 (.val (Go.Value.bool Bool.false)))) fun t26 σ =>
  k t26 σ
  ) σ) σ) σ) σ) (
  k (.val (Go.Value.bool Bool.false)) σ
  )
  )
  )) (fun j1 => (
  stepK (pureR σ (aBin .eql .prim t4 (.val (Go.Value.int Go.IntKind.u8 1)))) fun t6 σ =>
  condK t6 (
  j1 [(1, t1), (4, t4), (5, t6)] σ
  ) (
  stepK (pureR σ (aBin .eql .prim t4 (.val (Go.Value.int Go.IntKind.u8 2)))) fun t7 σ =>
  j1 [(1, t1), (4, t4), (5, t7)] σ
  )
  ))
def keep58 : List (Nat × List Nat) := [(0, [1]), (1, [1, 4]), (3005, [1, 4, 5]), (2, [1, 4, 5]), (3, [1, 4, 5]), (4, [2]), (5, [1, 16]), (6, [2]), (4006, [1]), (7, [2])]
noncomputable def body58 : Code := (Go.Proofs.Tryz.f58).body.getD .skip
theorem F58_eq (t0 : AV) (σ : AHeap) (k kp : AV → AHeap → Prop) : aw Go.Proofs.Tryz.prog (keepOf keep58) body58 (retK Go.Proofs.Tryz.prog (Go.Proofs.Tryz.f58).results.toList k kp) (frameOf 0 [t0]) σ = F58 t0 σ k kp := by kernel_rfl
theorem F58_ev {t0 : AV} {σ : AHeap} {k kp : AV → AHeap → Prop} (h : F58 t0 σ k kp) : Ev Go.Proofs.Tryz.prog 58 [t0] σ k kp :=
  Ev_of_aw mixed Go.Proofs.Tryz.func58 (show (Go.Proofs.Tryz.f58).body = some body58 by kernel_rfl) (by kernel_rfl) (args := [t0]) (of_decide_eq_true (by kernel_rfl)) (keepOf keep58) (by kernel_rfl) (by rw [F58_eq]; exact h)

/-- enclave/effect.compare -/
def F60 (t0 t1 : AV) (σ : AHeap) (k kp : AV → AHeap → Prop) : Prop :=
  stepK (aBox t0 σ) fun t2 σ =>
  stepK (aBox t1 σ) fun t3 σ =>
  stepK (pureR σ (aFieldAddr 0 t2)) fun t5 σ =>
  stepK (pureR σ (aLoad false 1 t5 σ)) fun t6 σ =>
  stepK (pureR σ (aFieldAddr 0 t3)) fun t7 σ =>
  stepK (pureR σ (aLoad false 1 t7 σ)) fun t8 σ =>
  stepK (pureR σ (aFieldAddr 1 t2)) fun t10 σ =>
  stepK (pureR σ (aLoad false 1 t10 σ)) fun t11 σ =>
  stepK (pureR σ (aFieldAddr 1 t3)) fun t12 σ =>
  stepK (pureR σ (aLoad false 1 t12 σ)) fun t13 σ =>
  stepK (pureR σ (aFieldAddr 2 t2)) fun t15 σ =>
  stepK (pureR σ (aLoad false 1 t15 σ)) fun t16 σ =>
  stepK (pureR σ (aFieldAddr 2 t3)) fun t17 σ =>
  stepK (pureR σ (aLoad false 1 t17 σ)) fun t18 σ =>
  Ev Go.Proofs.Tryz.prog 77 [t6, t8] σ (fun t9 σ =>
  (stepK (pureR σ (aLoad false 1 t10 σ)) (fun y θ => y = t11 ∧ θ = σ)) ∧ (
  (stepK (pureR σ (aLoad false 1 t12 σ)) (fun y θ => y = t13 ∧ θ = σ)) ∧ (
  (stepK (pureR σ (aLoad false 1 t15 σ)) (fun y θ => y = t16 ∧ θ = σ)) ∧ (
  (stepK (pureR σ (aLoad false 1 t17 σ)) (fun y θ => y = t18 ∧ θ = σ)) ∧ (
  Ev Go.Proofs.Tryz.prog 78 [t11, t13] σ (fun t14 σ =>
  (stepK (pureR σ (aLoad false 1 t15 σ)) (fun y θ => y = t16 ∧ θ = σ)) ∧ (
  (stepK (pureR σ (aLoad false 1 t17 σ)) (fun y θ => y = t18 ∧ θ = σ)) ∧ (
  Ev Go.Proofs.Tryz.prog 79 [t16, t18] σ (fun t19 σ =>
  stepK (pureR σ (aBuildSl 3 1 [.val (.int .i64 0)] [(0, t9), (1, t14), (2, t19)])) fun t20 σ =>
  Ev Go.Proofs.Tryz.prog 76 [t20] σ (fun t21 σ =>
  k t21 σ) kp) kp))) kp))))) kp
def keep60 : List (Nat × List Nat) := [(0, [2, 3]), (1, [4]), (2001, [0, 1, 2, 3, 5, 6, 7, 8, 10, 11, 12, 13, 4, 9, 14, 15, 16, 17]), (101004, [6, 8, 11, 13]), (101009, [11, 13])]
noncomputable def body60 : Code := (Go.Proofs.Tryz.f60).body.getD .skip
theorem F60_eq (t0 t1 : AV) (σ : AHeap) (k kp : AV → AHeap → Prop) : aw Go.Proofs.Tryz.prog (keepOf keep60) body60 (retK Go.Proofs.Tryz.prog (Go.Proofs.Tryz.f60).results.toList k kp) (frameOf 0 [t0, t1]) σ = F60 t0 t1 σ k kp := by kernel_rfl
theorem F60_ev {t0 t1 : AV} {σ : AHeap} {k kp : AV → AHeap → Prop} (h : F60 t0 t1 σ k kp) : Ev Go.Proofs.Tryz.prog 60 [t0, t1] σ k kp :=
  Ev_of_aw mixed Go.Proofs.Tryz.func60 (show (Go.Proofs.Tryz.f60).body = some body60 by kernel_rfl) (by kernel_rfl) (args := [t0, t1]) (of_decide_eq_true (by kernel_rfl)) (keepOf keep60) (by kernel_rfl) (by rw [F60_eq]; exact h)

/-- slices.Compact[[]enclave/api.Atom,enclave/api.Atom] -/
def F61 (t0 : AV) (σ : AHeap) (k kp : AV → AHeap → Prop) : Prop :=
  stepK (pureR σ (aLenK .slice t0 σ)) fun t7 σ =>
  stepK (pureR σ (aBin .lss .prim t7 (.val (Go.Value.int Go.IntKind.i64 2)))) fun t8 σ =>
  condK t8 (
  k t0 σ
  ) (
  seqW (fun fr σ => (
  k (Abs.look fr 0) σ
  )) (fun j1 => (
  loopW (fun fr σ again => (
  stepK (pureR σ (aLenK .slice (Abs.look fr 0) σ)) fun t12 σ =>
  stepK (pureR σ (aBin .lss .prim (Abs.look fr 3) t12)) fun t13 σ =>
  condK t13 (
  seqW (fun fr σ => (
  stepK (pureR σ (aBin .add .prim (Abs.look fr 3) (.val (Go.Value.int Go.IntKind.i64 1)))) fun t15 σ =>
  again [(0, (Abs.look fr 0)), (3, t15)] σ
  )) (fun j2 => (
  stepK (pureR σ (aIndexAddr 3 (Abs.look fr 0) (Abs.look fr 3) σ)) fun t18 σ =>
  stepK (pureR σ (aLoad true 3 t18 σ)) fun t19 σ =>
  stepK (pureR σ (aBin .sub .prim (Abs.look fr 3) (.val (Go.Value.int Go.IntKind.i64 1)))) fun t22 σ =>
  stepK (pureR σ (aIndexAddr 3 (Abs.look fr 0) t22 σ)) fun t23 σ =>
  stepK (pureR σ (aLoad true 3 t23 σ)) fun t24 σ =>
  stepK (pureR σ (aBin .eql (.agg [.i, .i, .s]) t19 t24)) fun t25 σ =>
  condK t25 (
  stepK (pureR σ (aSlice 3 (Abs.look fr 0) (some (Abs.look fr 3)) none none)) fun t28 σ =>
  seqW (fun fr σ => (
  stepK (pureR σ (aSlice 3 (Abs.look fr 0) (some (Abs.look fr 3)) none none)) fun t56 σ =>
  stepK ((aClear 3 [.val (.int .u8 0), .val (.int .i64 0), .val (.string ByteArray.empty)] t56 σ).map fun σ => (.val (.tuple #[]), σ)) fun _ σ =>
  stepK (pureR σ (aSlice 3 (Abs.look fr 0) none (some (Abs.look fr 3)) none)) fun t59 σ =>
  k t59 σ
  )) (fun j3 => (
  loopW (fun fr σ again => (
  stepK (pureR σ (aLenK .slice (Abs.look fr 4) σ)) fun t31 σ =>
  stepK (pureR σ (aBin .lss .prim (Abs.look fr 5) t31)) fun t32 σ =>
  condK t32 (
  seqW (fun fr σ => (
  stepK (pureR σ (aBin .add .prim (Abs.look fr 5) (.val (Go.Value.int Go.IntKind.i64 1)))) fun t34 σ =>
  again [(0, (Abs.look fr 0)), (3, (Abs.look fr 3)), (4, (Abs.look fr 4)), (5, t34)] σ
  )) (fun j4 => (
  stepK (pureR σ (aIndexAddr 3 (Abs.look fr 4) (Abs.look fr 5) σ)) fun t37 σ =>
  stepK (pureR σ (aLoad true 3 t37 σ)) fun t38 σ =>
  stepK (pureR σ (aBin .sub .prim (Abs.look fr 5) (.val (Go.Value.int Go.IntKind.i64 1)))) fun t41 σ =>
  stepK (pureR σ (aIndexAddr 3 (Abs.look fr 4) t41 σ)) fun t42 σ =>
  stepK (pureR σ (aLoad true 3 t42 σ)) fun t43 σ =>
  stepK (pureR σ (aBin .neq (.agg [.i, .i, .s]) t38 t43)) fun t44 σ =>
  condK t44 (
  stepK (pureR σ (aIndexAddr 3 (Abs.look fr 4) (Abs.look fr 5) σ)) fun t49 σ =>
  stepK (pureR σ (aLoad true 3 t49 σ)) fun t50 σ =>
  stepK (pureR σ (aIndexAddr 3 (Abs.look fr 0) (Abs.look fr 3) σ)) fun t51 σ =>
  stepK (unitR (aStore 3 t51 t50 σ)) fun _ σ =>
  stepK (pureR σ (aBin .add .prim (Abs.look fr 3) (.val (Go.Value.int Go.IntKind.i64 1)))) fun t53 σ =>
  j4 [(0, (Abs.look fr 0)), (3, t53), (4, (Abs.look fr 4)), (5, (Abs.look fr 5))] σ
  ) (
  j4 [(0, (Abs.look fr 0)), (3, (Abs.look fr 3)), (4, (Abs.look fr 4)), (5, (Abs.look fr 5))] σ
  )
  ))
  ) (
  j3 [(0, (Abs.look fr 0)), (3, (Abs.look fr 3))] σ
  )
  )) [(0, (Abs.look fr 0)), (3, (Abs.look fr 3)), (4, t28), (5, (.val (Go.Value.int Go.IntKind.i64 1)))] σ
  ))
  ) (
  j2 [(0, (Abs.look fr 0)), (3, (Abs.look fr 3))] σ
  )
  ))
  ) (
  j1 [(0, (Abs.look fr 0))] σ
  )
  )) [(0, t0), (3, (.val (Go.Value.int Go.IntKind.i64 1)))] σ
  ))
  )
def keep61 : List (Nat × List Nat) := [(0, [0]), (1, [0, 8]), (2, [2]), (3017, [0]), (3, [0, 3]), (4, [0, 3, 13]), (3006, [0, 3]), (6, [0, 3, 25]), (2006, [0, 1, 2, 3, 4, 5, 6, 7, 8, 9]), (7, [0, 3, 4]), (3015, [0, 3]), (8, [0, 3, 4, 5]), (9, [0, 3, 4, 5, 32]), (3011, [0, 3, 4, 5]), (11, [0, 3, 4, 5, 44]), (2011, [0, 1, 2, 3, 4, 5, 6, 7, 8, 9]), (12, [0, 3, 4, 5]), (13, [0, 3, 4, 5]), (10, [0, 3, 4, 5]), (1009, [0, 3, 4, 5]), (14, [0, 3]), (15, [2]), (5, [0, 3]), (1004, [0, 3]), (16, [2])]
noncomputable def body61 : Code := (Go.Proofs.Tryz.f61).body.getD .skip
theorem F61_eq (t0 : AV) (σ : AHeap) (k kp : AV → AHeap → Prop) : aw Go.Proofs.Tryz.prog (keepOf keep61) body61 (retK Go.Proofs.Tryz.prog (Go.Proofs.Tryz.f61).results.toList k kp) (frameOf 0 [t0]) σ = F61 t0 σ k kp := by kernel_rfl
theorem F61_ev {t0 : AV} {σ : AHeap} {k kp : AV → AHeap → Prop} (h : F61 t0 σ k kp) : Ev Go.Proofs.Tryz.prog 61 [t0] σ k kp :=
  Ev_of_aw mixed Go.Proofs.Tryz.func61 (show (Go.Proofs.Tryz.f61).body = some body61 by kernel_rfl) (by kernel_rfl) (args := [t0]) (of_decide_eq_true (by kernel_rfl)) (keepOf keep61) (by kernel_rfl) (by rw [F61_eq]; exact h)

/-- slices.ContainsFunc[[]int,int] -/
def F62 (t0 t1 : AV) (σ : AHeap) (k kp : AV → AHeap → Prop) : Prop :=
  Ev Go.Proofs.Tryz.prog 80 [t0, t1] σ (fun t7 σ =>
  stepK (pureR σ (aBin .geq .prim t7 (.val (Go.Value.int Go.IntKind.i64 0)))) fun t8 σ =>
  k t8 σ) kp
def keep62 : List (Nat × List Nat) := [(0, [0, 1]), (1, [4])]
noncomputable def body62 : Code := (Go.Proofs.Tryz.f62).body.getD .skip
theorem F62_eq (t0 t1 : AV) (σ : AHeap) (k kp : AV → AHeap → Prop) : aw Go.Proofs.Tryz.prog (keepOf keep62) body62 (retK Go.Proofs.Tryz.prog (Go.Proofs.Tryz.f62).results.toList k kp) (frameOf 0 [t0, t1]) σ = F62 t0 t1 σ k kp := by kernel_rfl
theorem F62_ev {t0 t1 : AV} {σ : AHeap} {k kp : AV → AHeap → Prop} (h : F62 t0 t1 σ k kp) : Ev Go.Proofs.Tryz.prog 62 [t0, t1] σ k kp :=
  Ev_of_aw mixed Go.Proofs.Tryz.func62 (show (Go.Proofs.Tryz.f62).body = some body62 by kernel_rfl) (by kernel_rfl) (args := [t0, t1]) (of_decide_eq_true (by kernel_rfl)) (keepOf keep62) (by kernel_rfl) (by rw [F62_eq]; exact h)

/-- (*enclave/basis.forest).there$1 -/
def F63 (t0 t1 : AV) (σ : AHeap) (k kp : AV → AHeap → Prop) : Prop :=
  stepK (pureR σ (aBin .lss .prim t0 (.val (Go.Value.int Go.IntKind.i64 0)))) fun t5 σ =>
  gK t5 false (fun K => K t0 σ) (fun t7 σ =>
  gK t5 false (fun K => stepK (pureR σ (aLoad false 1 t1 σ)) K) (fun t8 σ =>
  gK t5 false (fun K => stepK (pureR σ (aNilCheck t8)) K) (fun t9 σ =>
  gK t5 false (fun K => stepK (pureR σ (aFieldAddr 0 t9)) K) (fun t10 σ =>
  gK t5 false (fun K => stepK (pureR σ (aLoad false 1 t10 σ)) K) (fun t11 σ =>
  gK t5 false (fun K => stepK (pureR σ (aLenK .slice t11 σ)) K) (fun t12 σ =>
  gK t5 false (fun K => stepK (pureR σ (aBin .geq .prim t7 t12)) K) (fun t13 σ =>
  stepK (pureR σ (aPick t5 (.val (Go.Value.bool Bool.true)) t13)) fun t14 σ =>
  k t14 σ) σ) σ) σ) σ) σ) σ) σ
def keep63 : List (Nat × List Nat) := [(0, [0, 1]), (1, [3])]
noncomputable def body63 : Code := (Go.Proofs.Tryz.f63).body.getD .skip
theorem F63_eq (t0 t1 : AV) (σ : AHeap) (k kp : AV → AHeap → Prop) : aw Go.Proofs.Tryz.prog (keepOf keep63) body63 (retK Go.Proofs.Tryz.prog (Go.Proofs.Tryz.f63).results.toList k kp) (frameOf 0 [t0, t1]) σ = F63 t0 t1 σ k kp := by kernel_rfl
theorem F63_ev {t0 t1 : AV} {σ : AHeap} {k kp : AV → AHeap → Prop} (h : F63 t0 t1 σ k kp) : Ev Go.Proofs.Tryz.prog 63 [t0, t1] σ k kp :=
  Ev_of_aw mixed Go.Proofs.Tryz.func63 (show (Go.Proofs.Tryz.f63).body = some body63 by kernel_rfl) (by kernel_rfl) (args := [t0, t1]) (of_decide_eq_true (by kernel_rfl)) (keepOf keep63) (by kernel_rfl) (by rw [F63_eq]; exact h)

/-- enclave/enclaveref02.Exn -/
def F64 (t0 : AV) (σ : AHeap) (k kp : AV → AHeap → Prop) : Prop :=
  Ev Go.Proofs.Tryz.prog 81 [t0, (.val (Go.Value.int Go.IntKind.u8 4))] σ (fun t4 σ =>
  k t4 σ) kp
def keep64 : List (Nat × List Nat) := [(0, [0]), (1, [2])]
noncomputable def body64 : Code := (Go.Proofs.Tryz.f64).body.getD .skip
theorem F64_eq (t0 : AV) (σ : AHeap) (k kp : AV → AHeap → Prop) : aw Go.Proofs.Tryz.prog (keepOf keep64) body64 (retK Go.Proofs.Tryz.prog (Go.Proofs.Tryz.f64).results.toList k kp) (frameOf 0 [t0]) σ = F64 t0 σ k kp := by kernel_rfl
theorem F64_ev {t0 : AV} {σ : AHeap} {k kp : AV → AHeap → Prop} (h : F64 t0 σ k kp) : Ev Go.Proofs.Tryz.prog 64 [t0] σ k kp :=
  Ev_of_aw mixed Go.Proofs.Tryz.func64 (show (Go.Proofs.Tryz.f64).body = some body64 by kernel_rfl) (by kernel_rfl) (args := [t0]) (of_decide_eq_true (by kernel_rfl)) (keepOf keep64) (by kernel_rfl) (by rw [F64_eq]; exact h)

/-- enclave/enclaveref11.PutInt -/
def F65 (t0 t1 : AV) (σ : AHeap) (k kp : AV → AHeap → Prop) : Prop :=
  Ev Go.Proofs.Tryz.prog 20 [t0, t1] σ (fun t10 σ =>
  condK t10 (
  k t0 σ
  ) (
  stepK (aBuildSlice 0 1 [.val (.int .i64 0)] [] σ) fun t12 σ =>
  seqW (fun fr σ => (
  seqW (fun fr σ => (
  k (Abs.look fr 5) σ
  )) (fun j2 => (
  stepK (pureR σ (aNot (Abs.look fr 6))) fun t41 σ =>
  condK t41 (
  stepK (aBuildSlice 1 1 [.val (.int .i64 0)] [(0, (Abs.look fr 1))] σ) fun t44 σ =>
  stepK (aAppend 1 8 (Abs.look fr 5) t44 σ) fun t45 σ =>
  j2 [(5, t45)] σ
  ) (
  j2 [(5, (Abs.look fr 5))] σ
  )
  ))
  )) (fun j1 => (
  stepK (pureR σ (aLenK .slice t0 σ)) fun t14 σ =>
  loopW (fun fr σ again => (
  stepK (pureR σ (aBin .lss .prim (Abs.look fr 15) (Abs.look fr 14))) fun t16 σ =>
  condK t16 (
  seqW (fun fr σ => (
  stepK (pureR σ (aIndexAddr 1 (Abs.look fr 0) (Abs.look fr 7) σ)) fun t35 σ =>
  stepK (pureR σ (aLoad false 1 t35 σ)) fun t36 σ =>
  stepK (aBuildSlice 1 1 [.val (.int .i64 0)] [(0, t36)] σ) fun t37 σ =>
  stepK (aAppend 1 8 (Abs.look fr 5) t37 σ) fun t38 σ =>
  stepK (pureR σ (aBin .add .prim (Abs.look fr 15) (.val (Go.Value.int Go.IntKind.i64 1)))) fun t39 σ =>
  again [(0, (Abs.look fr 0)), (1, (Abs.look fr 1)), (5, t38), (6, (Abs.look fr 6)), (14, (Abs.look fr 14)), (15, t39)] σ
  )) (fun j3 => (
  stepK (pureR σ (aNot (Abs.look fr 6))) fun t19 σ =>
  gK t19 true (fun K => K (Abs.look fr 1) σ) (fun t21 σ =>
  gK t19 true (fun K => K (Abs.look fr 0) σ) (fun t22 σ =>
  gK t19 true (fun K => K (Abs.look fr 15) σ) (fun t23 σ =>
  gK t19 true (fun K => stepK (pureR σ (aIndexAddr 1 t22 t23 σ)) K) (fun t24 σ =>
  gK t19 true (fun K => stepK (pureR σ (aLoad false 1 t24 σ)) K) (fun t25 σ =>
  gK t19 true (fun K => stepK (pureR σ (aBin .lss .prim t21 t25)) K) (fun t26 σ =>
  stepK (pureR σ (aPick t19 t26 (.val (Go.Value.bool Bool.false)))) fun t27 σ =>
  condK t27 (
  stepK (aBuildSlice 1 1 [.val (.int .i64 0)] [(0, (Abs.look fr 1))] σ) fun t30 σ =>
  stepK (aAppend 1 8 (Abs.look fr 5) t30 σ) fun t31 σ =>
  j3 [(0, (Abs.look fr 0)), (1, (Abs.look fr 1)), (5, t31), (6, (.val (Go.Value.bool Bool.true))), (7, (Abs.look fr 15)), (14, (Abs.look fr 14)), (15, (Abs.look fr 15))] σ
  ) (
  j3 [(0, (Abs.look fr 0)), (1, (Abs.look fr 1)), (5, (Abs.look fr 5)), (6, (Abs.look fr 6)), (7, (Abs.look fr 15)), (14, (Abs.look fr 14)), (15, (Abs.look fr 15))] σ
  )
  ) σ) σ) σ) σ) σ) σ))
  ) (
  j1 [(1, (Abs.look fr 1)), (5, (Abs.look fr 5)), (6, (Abs.look fr 6))] σ
  )
  )) [(0, t0), (1, t1), (5, t12), (6, (.val (Go.Value.bool Bool.false))), (14, t14), (15, (.val (Go.Value.int Go.IntKind.i64 0)))] σ
  ))
  )) kp
def keep65 : List (Nat × List Nat) := [(0, [0, 1]), (1, [0, 1, 10]), (2, [4]), (3, [0, 1, 5]), (4, [0, 1, 5, 6]), (3014, [1, 5, 6]), (5, [0, 1, 5, 6, 14, 15]), (6, [0, 1, 5, 6, 14, 15, 16]), (7, [0, 1, 5, 6, 7, 14, 15]), (3012, [0, 1, 5, 6, 7, 14, 15]), (8, [0, 1, 5, 6, 7, 14, 15, 27]), (9, [0, 1, 5, 7, 14, 15]), (10, [0, 1, 5, 6, 7, 14, 15]), (11, [0, 1, 5, 6, 14, 15]), (12, [0, 1, 5, 6, 14, 15]), (1006, [0, 1, 5, 6, 14, 15]), (3016, [5]), (13, [1, 5, 41]), (14, [5]), (15, [4])]
noncomputable def body65 : Code := (Go.Proofs.Tryz.f65).body.getD .skip
theorem F65_eq (t0 t1 : AV) (σ : AHeap) (k kp : AV → AHeap → Prop) : aw Go.Proofs.Tryz.prog (keepOf keep65) body65 (retK Go.Proofs.Tryz.prog (Go.Proofs.Tryz.f65).results.toList k kp) (frameOf 0 [t0, t1]) σ = F65 t0 t1 σ k kp := by kernel_rfl
theorem F65_ev {t0 t1 : AV} {σ : AHeap} {k kp : AV → AHeap → Prop} (h : F65 t0 t1 σ k kp) : Ev Go.Proofs.Tryz.prog 65 [t0, t1] σ k kp :=
  Ev_of_aw mixed Go.Proofs.Tryz.func65 (show (Go.Proofs.Tryz.f65).body = some body65 by kernel_rfl) (by kernel_rfl) (args := [t0, t1]) (of_decide_eq_true (by kernel_rfl)) (keepOf keep65) (by kernel_rfl) (by rw [F65_eq]; exact h)

/-- enclave/enclaveref11.Of -/
def F66 (t0 : AV) (σ : AHeap) (k kp : AV → AHeap → Prop) : Prop :=
  stepK (aBuildSlice 0 3 [.val (.int .u8 0), .val (.int .i64 0), .val (.string ByteArray.empty)] [] σ) fun t5 σ =>
  seqW (fun fr σ => (
  k (Abs.look fr 3) σ
  )) (fun j1 => (
  stepK (pureR σ (aLenK .slice t0 σ)) fun t7 σ =>
  loopW (fun fr σ again => (
  stepK (pureR σ (aBin .lss .prim (Abs.look fr 8) (Abs.look fr 7))) fun t9 σ =>
  condK t9 (
  stepK (pureR σ (aIndexAddr 3 (Abs.look fr 0) (Abs.look fr 8) σ)) fun t14 σ =>
  stepK (pureR σ (aLoad true 3 t14 σ)) fun t15 σ =>
  Ev Go.Proofs.Tryz.prog 82 [(Abs.look fr 3), t15] σ (fun t16 σ =>
  stepK (pureR σ (aBin .add .prim (Abs.look fr 8) (.val (Go.Value.int Go.IntKind.i64 1)))) fun t17 σ =>
  again [(0, (Abs.look fr 0)), (3, t16), (7, (Abs.look fr 7)), (8, t17)] σ
  ) kp) (
  j1 [(3, (Abs.look fr 3))] σ
  )
  )) [(0, t0), (3, t5), (7, t7), (8, (.val (Go.Value.int Go.IntKind.i64 0)))] σ
  ))
def keep66 : List (Nat × List Nat) := [(0, [0]), (1, [0, 3]), (3008, [3]), (2, [0, 3, 7, 8]), (3, [0, 3, 7, 8, 9]), (4, [0, 3, 4, 7, 8]), (5, [0, 3, 7, 8]), (6, [0, 3, 7, 8]), (1003, [0, 3, 7, 8]), (7, [2])]
noncomputable def body66 : Code := (Go.Proofs.Tryz.f66).body.getD .skip
theorem F66_eq (t0 : AV) (σ : AHeap) (k kp : AV → AHeap → Prop) : aw Go.Proofs.Tryz.prog (keepOf keep66) body66 (retK Go.Proofs.Tryz.prog (Go.Proofs.Tryz.f66).results.toList k kp) (frameOf 0 [t0]) σ = F66 t0 σ k kp := by kernel_rfl
theorem F66_ev {t0 : AV} {σ : AHeap} {k kp : AV → AHeap → Prop} (h : F66 t0 σ k kp) : Ev Go.Proofs.Tryz.prog 66 [t0] σ k kp :=
  Ev_of_aw mixed Go.Proofs.Tryz.func66 (show (Go.Proofs.Tryz.f66).body = some body66 by kernel_rfl) (by kernel_rfl) (args := [t0]) (of_decide_eq_true (by kernel_rfl)) (keepOf keep66) (by kernel_rfl) (by rw [F66_eq]; exact h)

/-- enclave/enclaveref11.Union -/
def F67 (t0 : AV) (σ : AHeap) (k kp : AV → AHeap → Prop) : Prop :=
  stepK (aBuildSlice 0 3 [.val (.int .u8 0), .val (.int .i64 0), .val (.string ByteArray.empty)] [] σ) fun t6 σ =>
  seqW (fun fr σ => (
  k (Abs.look fr 3) σ
  )) (fun j1 => (
  stepK (pureR σ (aLenK .slice t0 σ)) fun t8 σ =>
  loopW (fun fr σ again => (
  stepK (pureR σ (aBin .lss .prim (Abs.look fr 9) (Abs.look fr 8))) fun t10 σ =>
  condK t10 (
  seqW (fun fr σ => (
  stepK (pureR σ (aBin .add .prim (Abs.look fr 9) (.val (Go.Value.int Go.IntKind.i64 1)))) fun t30 σ =>
  again [(0, (Abs.look fr 0)), (3, (Abs.look fr 3)), (8, (Abs.look fr 8)), (9, t30)] σ
  )) (fun j2 => (
  stepK (pureR σ (aIndexAddr 1 (Abs.look fr 0) (Abs.look fr 9) σ)) fun t14 σ =>
  stepK (pureR σ (aLoad false 1 t14 σ)) fun t15 σ =>
  stepK (pureR σ (aLenK .slice t15 σ)) fun t16 σ =>
  loopW (fun fr σ again => (
  stepK (pureR σ (aBin .lss .prim (Abs.look fr 17) (Abs.look fr 16))) fun t18 σ =>
  condK t18 (
  stepK (pureR σ (aIndexAddr 1 (Abs.look fr 0) (Abs.look fr 4) σ)) fun t23 σ =>
  stepK (pureR σ (aLoad false 1 t23 σ)) fun t24 σ =>
  stepK (pureR σ (aIndexAddr 3 t24 (Abs.look fr 17) σ)) fun t26 σ =>
  stepK (pureR σ (aLoad true 3 t26 σ)) fun t27 σ =>
  Ev Go.Proofs.Tryz.prog 82 [(Abs.look fr 3), t27] σ (fun t28 σ =>
  stepK (pureR σ (aBin .add .prim (Abs.look fr 17) (.val (Go.Value.int Go.IntKind.i64 1)))) fun t29 σ =>
  again [(0, (Abs.look fr 0)), (3, t28), (4, (Abs.look fr 4)), (8, (Abs.look fr 8)), (9, (Abs.look fr 9)), (16, (Abs.look fr 16)), (17, t29)] σ
  ) kp) (
  j2 [(0, (Abs.look fr 0)), (3, (Abs.look fr 3)), (8, (Abs.look fr 8)), (9, (Abs.look fr 9))] σ
  )
  )) [(0, (Abs.look fr 0)), (3, (Abs.look fr 3)), (4, (Abs.look fr 9)), (8, (Abs.look fr 8)), (9, (Abs.look fr 9)), (16, t16), (17, (.val (Go.Value.int Go.IntKind.i64 0)))] σ
  ))
  ) (
  j1 [(3, (Abs.look fr 3))] σ
  )
  )) [(0, t0), (3, t6), (8, t8), (9, (.val (Go.Value.int Go.IntKind.i64 0)))] σ
  ))
def keep67 : List (Nat × List Nat) := [(0, [0]), (1, [0, 3]), (3012, [3]), (2, [0, 3, 8, 9]), (3, [0, 3, 8, 9, 10]), (3011, [0, 3, 8, 9]), (4, [0, 3, 4, 8, 9]), (5, [0, 3, 4, 8, 9, 16, 17]), (6, [0, 3, 4, 8, 9, 16, 17, 18]), (7, [0, 3, 4, 5, 8, 9, 16, 17]), (8, [0, 3, 4, 8, 9, 16, 17]), (9, [0, 3, 4, 8, 9, 16, 17]), (1006, [0, 3, 4, 8, 9, 16, 17]), (10, [0, 3, 8, 9]), (1003, [0, 3, 8, 9]), (11, [2])]
noncomputable def body67 : Code := (Go.Proofs.Tryz.f67).body.getD .skip
theorem F67_eq (t0 : AV) (σ : AHeap) (k kp : AV → AHeap → Prop) : aw Go.Proofs.Tryz.prog (keepOf keep67) body67 (retK Go.Proofs.Tryz.prog (Go.Proofs.Tryz.f67).results.toList k kp) (frameOf 0 [t0]) σ = F67 t0 σ k kp := by kernel_rfl
theorem F67_ev {t0 : AV} {σ : AHeap} {k kp : AV → AHeap → Prop} (h : F67 t0 σ k kp) : Ev Go.Proofs.Tryz.prog 67 [t0] σ k kp :=
  Ev_of_aw mixed Go.Proofs.Tryz.func67 (show (Go.Proofs.Tryz.f67).body = some body67 by kernel_rfl) (by kernel_rfl) (args := [t0]) (of_decide_eq_true (by kernel_rfl)) (keepOf keep67) (by kernel_rfl) (by rw [F67_eq]; exact h)

/-- enclave/enclaveref16.name -/
def F68 (t0 t1 t2 : AV) (σ : AHeap) (k kp : AV → AHeap → Prop) : Prop :=
  stepK (pureR σ (aBin .lss .prim t0 (.val (Go.Value.int Go.IntKind.i64 0)))) fun t12 σ =>
  gK t12 false (fun K => K t0 σ) (fun t14 σ =>
  gK t12 false (fun K => K t1 σ) (fun t15 σ =>
  gK t12 false (fun K => stepK (pureR σ (aBin .geq .prim t14 t15)) K) (fun t16 σ =>
  stepK (pureR σ (aPick t12 (.val (Go.Value.bool Bool.true)) t16)) fun t17 σ =>
  condK t17 (
  k (.val (Go.Value.int Go.IntKind.i64 (-1))) σ
  ) (
  stepK (aBuildSlice 1 1 [.val (.int .i64 0)] [(0, t0)] σ) fun t19 σ =>
  seqW (fun fr σ => (
  k (Abs.look fr 8) σ
  )) (fun j1 => (
  loopW (fun fr σ again => (
  stepK (pureR σ (aLenK .slice (Abs.look fr 7) σ)) fun t23 σ =>
  stepK (pureR σ (aBin .lss .prim (Abs.look fr 9) t23)) fun t24 σ =>
  condK t24 (
  seqW (fun fr σ => (
  stepK (pureR σ (aBin .add .prim (Abs.look fr 9) (.val (Go.Value.int Go.IntKind.i64 1)))) fun t26 σ =>
  again [(2, (Abs.look fr 2)), (7, (Abs.look fr 7)), (8, (Abs.look fr 8)), (9, t26)] σ
  )) (fun j2 => (
  seqW (fun fr σ => (
  stepK (pureR σ (aLenK .slice (Abs.look fr 2) σ)) fun t38 σ =>
  loopW (fun fr σ again => (
  stepK (pureR σ (aBin .lss .prim (Abs.look fr 39) (Abs.look fr 38))) fun t40 σ =>
  condK t40 (
  seqW (fun fr σ => (
  stepK (pureR σ (aBin .add .prim (Abs.look fr 39) (.val (Go.Value.int Go.IntKind.i64 1)))) fun t98 σ =>
  again [(2, (Abs.look fr 2)), (7, (Abs.look fr 7)), (8, (Abs.look fr 8)), (9, (Abs.look fr 9)), (38, (Abs.look fr 38)), (39, t98)] σ
  )) (fun j4 => (
  seqW (fun fr σ => (
  stepK (pureR σ (aIndexAddr 2 (Abs.look fr 2) (Abs.look fr 10) σ)) fun t72 σ =>
  stepK (pureR σ (aFieldAddr 1 t72)) fun t73 σ =>
  stepK (pureR σ (aLoad false 1 t73 σ)) fun t74 σ =>
  stepK (pureR σ (aIndexAddr 1 (Abs.look fr 7) (Abs.look fr 9) σ)) fun t77 σ =>
  stepK (pureR σ (aLoad false 1 t77 σ)) fun t78 σ =>
  stepK (pureR σ (aBin .eql .prim t74 t78)) fun t79 σ =>
  gK t79 true (fun K => K (Abs.look fr 7) σ) (fun t81 σ =>
  gK t79 true (fun K => K (Abs.look fr 2) σ) (fun t82 σ =>
  gK t79 true (fun K => K (Abs.look fr 10) σ) (fun t83 σ =>
  gK t79 true (fun K => stepK (pureR σ (aIndexAddr 2 t82 t83 σ)) K) (fun t84 σ =>
  gK t79 true (fun K => stepK (pureR σ (aFieldAddr 0 t84)) K) (fun t85 σ =>
  gK t79 true (fun K => stepK (pureR σ (aLoad false 1 t85 σ)) K) (fun t86 σ =>
  gK t79 true (fun K => Ev Go.Proofs.Tryz.prog 20 [t81, t86] σ K kp) (fun t87 σ =>
  gK t79 true (fun K => stepK (pureR σ (aNot t87)) K) (fun t88 σ =>
  stepK (pureR σ (aPick t79 t88 (.val (Go.Value.bool Bool.false)))) fun t89 σ =>
  condK t89 (
  stepK (pureR σ (aIndexAddr 2 (Abs.look fr 2) (Abs.look fr 10) σ)) fun t93 σ =>
  stepK (pureR σ (aFieldAddr 0 t93)) fun t94 σ =>
  stepK (pureR σ (aLoad false 1 t94 σ)) fun t95 σ =>
  stepK (aBuildSlice 1 1 [.val (.int .i64 0)] [(0, t95)] σ) fun t96 σ =>
  stepK (aAppend 1 8 (Abs.look fr 7) t96 σ) fun t97 σ =>
  j4 [(2, (Abs.look fr 2)), (7, t97), (8, (Abs.look fr 8)), (9, (Abs.look fr 9)), (38, (Abs.look fr 38)), (39, (Abs.look fr 39))] σ
  ) (
  j4 [(2, (Abs.look fr 2)), (7, (Abs.look fr 7)), (8, (Abs.look fr 8)), (9, (Abs.look fr 9)), (38, (Abs.look fr 38)), (39, (Abs.look fr 39))] σ
  )
  ) σ) σ) σ) σ) σ) σ) σ) σ)) (fun j5 => (
  stepK (pureR σ (aIndexAddr 2 (Abs.look fr 2) (Abs.look fr 39) σ)) fun t44 σ =>
  stepK (pureR σ (aFieldAddr 0 t44)) fun t45 σ =>
  stepK (pureR σ (aLoad false 1 t45 σ)) fun t46 σ =>
  stepK (pureR σ (aIndexAddr 1 (Abs.look fr 7) (Abs.look fr 9) σ)) fun t49 σ =>
  stepK (pureR σ (aLoad false 1 t49 σ)) fun t50 σ =>
  stepK (pureR σ (aBin .eql .prim t46 t50)) fun t51 σ =>
  gK t51 true (fun K => K (Abs.look fr 7) σ) (fun t53 σ =>
  gK t51 true (fun K => K (Abs.look fr 2) σ) (fun t54 σ =>
  gK t51 true (fun K => K (Abs.look fr 39) σ) (fun t55 σ =>
  gK t51 true (fun K => stepK (pureR σ (aIndexAddr 2 t54 t55 σ)) K) (fun t56 σ =>
  gK t51 true (fun K => stepK (pureR σ (aFieldAddr 1 t56)) K) (fun t57 σ =>
  gK t51 true (fun K => stepK (pureR σ (aLoad false 1 t57 σ)) K) (fun t58 σ =>
  gK t51 true (fun K => Ev Go.Proofs.Tryz.prog 20 [t53, t58] σ K kp) (fun t59 σ =>
  gK t51 true (fun K => stepK (pureR σ (aNot t59)) K) (fun t60 σ =>
  stepK (pureR σ (aPick t51 t60 (.val (Go.Value.bool Bool.false)))) fun t61 σ =>
  condK t61 (
  stepK (pureR σ (aIndexAddr 2 (Abs.look fr 2) (Abs.look fr 39) σ)) fun t65 σ =>
  stepK (pureR σ (aFieldAddr 1 t65)) fun t66 σ =>
  stepK (pureR σ (aLoad false 1 t66 σ)) fun t67 σ =>
  stepK (aBuildSlice 1 1 [.val (.int .i64 0)] [(0, t67)] σ) fun t68 σ =>
  stepK (aAppend 1 8 (Abs.look fr 7) t68 σ) fun t69 σ =>
  j5 [(2, (Abs.look fr 2)), (7, t69), (8, (Abs.look fr 8)), (9, (Abs.look fr 9)), (10, (Abs.look fr 39)), (38, (Abs.look fr 38)), (39, (Abs.look fr 39))] σ
  ) (
  j5 [(2, (Abs.look fr 2)), (7, (Abs.look fr 7)), (8, (Abs.look fr 8)), (9, (Abs.look fr 9)), (10, (Abs.look fr 39)), (38, (Abs.look fr 38)), (39, (Abs.look fr 39))] σ
  )
  ) σ) σ) σ) σ) σ) σ) σ) σ))
  ))
  ) (
  j2 [(2, (Abs.look fr 2)), (7, (Abs.look fr 7)), (8, (Abs.look fr 8)), (9, (Abs.look fr 9))] σ
  )
  )) [(2, (Abs.look fr 2)), (7, (Abs.look fr 7)), (8, (Abs.look fr 8)), (9, (Abs.look fr 9)), (38, t38), (39, (.val (Go.Value.int Go.IntKind.i64 0)))] σ
  )) (fun j3 => (
  stepK (pureR σ (aIndexAddr 1 (Abs.look fr 7) (Abs.look fr 9) σ)) fun t29 σ =>
  stepK (pureR σ (aLoad false 1 t29 σ)) fun t30 σ =>
  stepK (pureR σ (aBin .lss .prim t30 (Abs.look fr 8))) fun t32 σ =>
  condK t32 (
  stepK (pureR σ (aIndexAddr 1 (Abs.look fr 7) (Abs.look fr 9) σ)) fun t35 σ =>
  stepK (pureR σ (aLoad false 1 t35 σ)) fun t36 σ =>
  j3 [(2, (Abs.look fr 2)), (7, (Abs.look fr 7)), (8, t36), (9, (Abs.look fr 9))] σ
  ) (
  j3 [(2, (Abs.look fr 2)), (7, (Abs.look fr 7)), (8, (Abs.look fr 8)), (9, (Abs.look fr 9))] σ
  )
  ))
  ))
  ) (
  j1 [(8, (Abs.look fr 8))] σ
  )
  )) [(2, t2), (7, t19), (8, t0), (9, (.val (Go.Value.int Go.IntKind.i64 0)))] σ
  ))
  )) σ) σ) σ
def keep68 : List (Nat × List Nat) := [(0, [0, 1, 2]), (1, [0, 2, 17]), (2, [6]), (3, [0, 2, 7]), (4, [2, 7, 8]), (3019, [8]), (5, [2, 7, 8, 9]), (6, [2, 7, 8, 9, 24]), (3008, [2, 7, 8, 9]), (3011, [2, 7, 8, 9]), (8, [2, 7, 8, 9, 32]), (9, [2, 7, 8, 9]), (10, [2, 7, 8, 9, 38, 39]), (11, [2, 7, 8, 9, 38, 39, 40]), (3018, [2, 7, 8, 9, 38, 39]), (12, [2, 7, 8, 9, 10, 38, 39]), (3016, [2, 7, 8, 9, 10, 38, 39]), (13, [2, 7, 8, 9, 10, 38, 39, 61]), (2013, [0, 1, 2, 3, 4, 5, 6, 7, 8, 9, 10, 11, 12, 13, 14, 15, 16, 17, 18, 19]), (14, [2, 7, 8, 9, 10, 38, 39]), (15, [2, 7, 8, 9, 10, 38, 39, 89]), (2015, [0, 1, 2, 3, 4, 5, 6, 7, 8, 9, 10, 11, 12, 13, 14, 15, 16, 17, 18, 19]), (16, [2, 7, 8, 9, 38, 39]), (17, [2, 7, 8, 9, 38, 39]), (1011, [2, 7, 8, 9, 38, 39]), (7, [2, 7, 8, 9]), (1006, [2, 7, 8, 9]), (18, [6])]
noncomputable def body68 : Code := (Go.Proofs.Tryz.f68).body.getD .skip
theorem F68_eq (t0 t1 t2 : AV) (σ : AHeap) (k kp : AV → AHeap → Prop) : aw Go.Proofs.Tryz.prog (keepOf keep68) body68 (retK Go.Proofs.Tryz.prog (Go.Proofs.Tryz.f68).results.toList k kp) (frameOf 0 [t0, t1, t2]) σ = F68 t0 t1 t2 σ k kp := by kernel_rfl
theorem F68_ev {t0 t1 t2 : AV} {σ : AHeap} {k kp : AV → AHeap → Prop} (h : F68 t0 t1 t2 σ k kp) : Ev Go.Proofs.Tryz.prog 68 [t0, t1, t2] σ k kp :=
  Ev_of_aw mixed Go.Proofs.Tryz.func68 (show (Go.Proofs.Tryz.f68).body = some body68 by kernel_rfl) (by kernel_rfl) (args := [t0, t1, t2]) (of_decide_eq_true (by kernel_rfl)) (keepOf keep68) (by kernel_rfl) (by rw [F68_eq]; exact h)

/-- slices.ContainsFunc[[]enclave/api.Atom,enclave/api.Atom] -/
def F69 (t0 t1 : AV) (σ : AHeap) (k kp : AV → AHeap → Prop) : Prop :=
  Ev Go.Proofs.Tryz.prog 83 [t0, t1] σ (fun t7 σ =>
  stepK (pureR σ (aBin .geq .prim t7 (.val (Go.Value.int Go.IntKind.i64 0)))) fun t8 σ =>
  k t8 σ) kp
def keep69 : List (Nat × List Nat) := [(0, [0, 1]), (1, [4])]
noncomputable def body69 : Code := (Go.Proofs.Tryz.f69).body.getD .skip
theorem F69_eq (t0 t1 : AV) (σ : AHeap) (k kp : AV → AHeap → Prop) : aw Go.Proofs.Tryz.prog (keepOf keep69) body69 (retK Go.Proofs.Tryz.prog (Go.Proofs.Tryz.f69).results.toList k kp) (frameOf 0 [t0, t1]) σ = F69 t0 t1 σ k kp := by kernel_rfl
theorem F69_ev {t0 t1 : AV} {σ : AHeap} {k kp : AV → AHeap → Prop} (h : F69 t0 t1 σ k kp) : Ev Go.Proofs.Tryz.prog 69 [t0, t1] σ k kp :=
  Ev_of_aw mixed Go.Proofs.Tryz.func69 (show (Go.Proofs.Tryz.f69).body = some body69 by kernel_rfl) (by kernel_rfl) (args := [t0, t1]) (of_decide_eq_true (by kernel_rfl)) (keepOf keep69) (by kernel_rfl) (by rw [F69_eq]; exact h)

/-- enclave/effect.Atom$1 -/
def F70 (t0 : AV) (σ : AHeap) (k kp : AV → AHeap → Prop) : Prop :=
  stepK (aBox t0 σ) fun t1 σ =>
  stepK (pureR σ (aLoad true 3 t1 σ)) fun t3 σ =>
  Ev Go.Proofs.Tryz.prog 58 [t3] σ (fun t4 σ =>
  stepK (pureR σ (aNot t4)) fun t5 σ =>
  k t5 σ) kp
def keep70 : List (Nat × List Nat) := [(0, [1]), (1, [2])]
noncomputable def body70 : Code := (Go.Proofs.Tryz.f70).body.getD .skip
theorem F70_eq (t0 : AV) (σ : AHeap) (k kp : AV → AHeap → Prop) : aw Go.Proofs.Tryz.prog (keepOf keep70) body70 (retK Go.Proofs.Tryz.prog (Go.Proofs.Tryz.f70).results.toList k kp) (frameOf 0 [t0]) σ = F70 t0 σ k kp := by kernel_rfl
theorem F70_ev {t0 : AV} {σ : AHeap} {k kp : AV → AHeap → Prop} (h : F70 t0 σ k kp) : Ev Go.Proofs.Tryz.prog 70 [t0] σ k kp :=
  Ev_of_aw mixed Go.Proofs.Tryz.func70 (show (Go.Proofs.Tryz.f70).body = some body70 by kernel_rfl) (by kernel_rfl) (args := [t0]) (of_decide_eq_true (by kernel_rfl)) (keepOf keep70) (by kernel_rfl) (by rw [F70_eq]; exact h)

/-- enclave/effect.Union -/
def F71 (t0 : AV) (σ : AHeap) (k kp : AV → AHeap → Prop) : Prop :=
  Ev Go.Proofs.Tryz.prog 84 [t0] σ (fun t4 σ =>
  Ev Go.Proofs.Tryz.prog 37 [t4] σ (fun t5 σ =>
  k t5 σ) kp) kp
def keep71 : List (Nat × List Nat) := [(0, [0]), (1, [2])]
noncomputable def body71 : Code := (Go.Proofs.Tryz.f71).body.getD .skip
theorem F71_eq (t0 : AV) (σ : AHeap) (k kp : AV → AHeap → Prop) : aw Go.Proofs.Tryz.prog (keepOf keep71) body71 (retK Go.Proofs.Tryz.prog (Go.Proofs.Tryz.f71).results.toList k kp) (frameOf 0 [t0]) σ = F71 t0 σ k kp := by kernel_rfl
theorem F71_ev {t0 : AV} {σ : AHeap} {k kp : AV → AHeap → Prop} (h : F71 t0 σ k kp) : Ev Go.Proofs.Tryz.prog 71 [t0] σ k kp :=
  Ev_of_aw mixed Go.Proofs.Tryz.func71 (show (Go.Proofs.Tryz.f71).body = some body71 by kernel_rfl) (by kernel_rfl) (args := [t0]) (of_decide_eq_true (by kernel_rfl)) (keepOf keep71) (by kernel_rfl) (by rw [F71_eq]; exact h)

/-- enclave/words.Exn -/
def F74 (t0 : AV) (σ : AHeap) (k kp : AV → AHeap → Prop) : Prop :=
  Ev Go.Proofs.Tryz.prog 96 [(.fn (.func 97) []), t0] σ (fun t4 σ =>
  k t4 σ) kp
def keep74 : List (Nat × List Nat) := [(0, [0]), (1, [2])]
noncomputable def body74 : Code := (Go.Proofs.Tryz.f74).body.getD .skip
theorem F74_eq (t0 : AV) (σ : AHeap) (k kp : AV → AHeap → Prop) : aw Go.Proofs.Tryz.prog (keepOf keep74) body74 (retK Go.Proofs.Tryz.prog (Go.Proofs.Tryz.f74).results.toList k kp) (frameOf 0 [t0]) σ = F74 t0 σ k kp := by kernel_rfl
theorem F74_ev {t0 : AV} {σ : AHeap} {k kp : AV → AHeap → Prop} (h : F74 t0 σ k kp) : Ev Go.Proofs.Tryz.prog 74 [t0] σ k kp :=
  Ev_of_aw mixed Go.Proofs.Tryz.func74 (show (Go.Proofs.Tryz.f74).body = some body74 by kernel_rfl) (by kernel_rfl) (args := [t0]) (of_decide_eq_true (by kernel_rfl)) (keepOf keep74) (by kernel_rfl) (by rw [F74_eq]; exact h)

/-- cmp.Or[int] -/
def F76 (t0 : AV) (σ : AHeap) (k kp : AV → AHeap → Prop) : Prop :=
  seqW (fun fr σ => (
  k (Abs.look fr 3) σ
  )) (fun j1 => (
  stepK (pureR σ (aLenK .slice t0 σ)) fun t7 σ =>
  loopW (fun fr σ again => (
  stepK (pureR σ (aBin .lss .prim (Abs.look fr 8) (Abs.look fr 7))) fun t9 σ =>
  condK t9 (
  stepK (pureR σ (aIndexAddr 1 (Abs.look fr 6) (Abs.look fr 8) σ)) fun t10 σ =>
  stepK (pureR σ (aLoad false 1 t10 σ)) fun t11 σ =>
  stepK (pureR σ (aBin .neq .prim t11 (Abs.look fr 3))) fun t14 σ =>
  condK t14 (
  k t11 σ
  ) (
  stepK (pureR σ (aBin .add .prim (Abs.look fr 8) (.val (Go.Value.int Go.IntKind.i64 1)))) fun t16 σ =>
  again [(3, (Abs.look fr 3)), (6, (Abs.look fr 6)), (7, (Abs.look fr 7)), (8, t16)] σ
  )
  ) (
  j1 [(3, (Abs.look fr 3))] σ
  )
  )) [(3, (.val (Go.Value.int Go.IntKind.i64 0))), (6, t0), (7, t7), (8, (.val (Go.Value.int Go.IntKind.i64 0)))] σ
  ))
def keep76 : List (Nat × List Nat) := [(0, [0]), (1, [0, 3]), (3009, [3]), (2, [3, 6, 7, 8]), (3, [3, 6, 7, 8, 9]), (4, [3, 5, 6, 7, 8]), (5, [3, 5, 6, 7, 8, 14]), (6, [2]), (7, [3, 6, 7, 8]), (1003, [3, 6, 7, 8]), (8, [2])]
noncomputable def body76 : Code := (Go.Proofs.Tryz.f76).body.getD .skip
theorem F76_eq (t0 : AV) (σ : AHeap) (k kp : AV → AHeap → Prop) : aw Go.Proofs.Tryz.prog (keepOf keep76) body76 (retK Go.Proofs.Tryz.prog (Go.Proofs.Tryz.f76).results.toList k kp) (frameOf 0 [t0]) σ = F76 t0 σ k kp := by kernel_rfl
theorem F76_ev {t0 : AV} {σ : AHeap} {k kp : AV → AHeap → Prop} (h : F76 t0 σ k kp) : Ev Go.Proofs.Tryz.prog 76 [t0] σ k kp :=
  Ev_of_aw mixed Go.Proofs.Tryz.func76 (show (Go.Proofs.Tryz.f76).body = some body76 by kernel_rfl) (by kernel_rfl) (args := [t0]) (of_decide_eq_true (by kernel_rfl)) (keepOf keep76) (by kernel_rfl) (by rw [F76_eq]; exact h)

/-- cmp.Compare[uint8] -/
def F77 (t0 t1 : AV) (σ : AHeap) (k kp : AV → AHeap → Prop) : Prop :=
  Ev Go.Proofs.Tryz.prog 107 [t0] σ (fun t8 σ =>
  Ev Go.Proofs.Tryz.prog 107 [t1] σ (fun t10 σ =>
  condK t8 (
  condK t10 (
  k (.val (Go.Value.int Go.IntKind.i64 0)) σ
  ) (
  k (.val (Go.Value.int Go.IntKind.i64 (-1))) σ
  )
  ) (
  condK t10 (
  k (.val (Go.Value.int Go.IntKind.i64 1)) σ
  ) (
  stepK (pureR σ (aBin .lss .prim t0 t1)) fun t16 σ =>
  condK t16 (
  k (.val (Go.Value.int Go.IntKind.i64 (-1))) σ
  ) (
  stepK (pureR σ (aBin .gtr .prim t0 t1)) fun t19 σ =>
  condK t19 (
  k (.val (Go.Value.int Go.IntKind.i64 1)) σ
  ) (
  k (.val (Go.Value.int Go.IntKind.i64 0)) σ
  )
  )
  )
  )) kp) kp
def keep77 : List (Nat × List Nat) := [(0, [0, 1]), (1, [0, 1, 5]), (2, [0, 1, 5, 6]), (3, [0, 1, 6, 11]), (4, [12]), (5, [4]), (6, [4]), (7, [0, 1, 13]), (8, [4]), (9, [0, 1, 16]), (10, [4]), (11, [19]), (12, [4]), (13, [4])]
noncomputable def body77 : Code := (Go.Proofs.Tryz.f77).body.getD .skip
theorem F77_eq (t0 t1 : AV) (σ : AHeap) (k kp : AV → AHeap → Prop) : aw Go.Proofs.Tryz.prog (keepOf keep77) body77 (retK Go.Proofs.Tryz.prog (Go.Proofs.Tryz.f77).results.toList k kp) (frameOf 0 [t0, t1]) σ = F77 t0 t1 σ k kp := by kernel_rfl
theorem F77_ev {t0 t1 : AV} {σ : AHeap} {k kp : AV → AHeap → Prop} (h : F77 t0 t1 σ k kp) : Ev Go.Proofs.Tryz.prog 77 [t0, t1] σ k kp :=
  Ev_of_aw mixed Go.Proofs.Tryz.func77 (show (Go.Proofs.Tryz.f77).body = some body77 by kernel_rfl) (by kernel_rfl) (args := [t0, t1]) (of_decide_eq_true (by kernel_rfl)) (keepOf keep77) (by kernel_rfl) (by rw [F77_eq]; exact h)

/-- cmp.Compare[int] -/
def F78 (t0 t1 : AV) (σ : AHeap) (k kp : AV → AHeap → Prop) : Prop :=
  Ev Go.Proofs.Tryz.prog 108 [t0] σ (fun t8 σ =>
  Ev Go.Proofs.Tryz.prog 108 [t1] σ (fun t10 σ =>
  condK t8 (
  condK t10 (
  k (.val (Go.Value.int Go.IntKind.i64 0)) σ
  ) (
  k (.val (Go.Value.int Go.IntKind.i64 (-1))) σ
  )
  ) (
  condK t10 (
  k (.val (Go.Value.int Go.IntKind.i64 1)) σ
  ) (
  stepK (pureR σ (aBin .lss .prim t0 t1)) fun t16 σ =>
  condK t16 (
  k (.val (Go.Value.int Go.IntKind.i64 (-1))) σ
  ) (
  stepK (pureR σ (aBin .gtr .prim t0 t1)) fun t19 σ =>
  condK t19 (
  k (.val (Go.Value.int Go.IntKind.i64 1)) σ
  ) (
  k (.val (Go.Value.int Go.IntKind.i64 0)) σ
  )
  )
  )
  )) kp) kp
def keep78 : List (Nat × List Nat) := [(0, [0, 1]), (1, [0, 1, 5]), (2, [0, 1, 5, 6]), (3, [0, 1, 6, 11]), (4, [12]), (5, [4]), (6, [4]), (7, [0, 1, 13]), (8, [4]), (9, [0, 1, 16]), (10, [4]), (11, [19]), (12, [4]), (13, [4])]
noncomputable def body78 : Code := (Go.Proofs.Tryz.f78).body.getD .skip
theorem F78_eq (t0 t1 : AV) (σ : AHeap) (k kp : AV → AHeap → Prop) : aw Go.Proofs.Tryz.prog (keepOf keep78) body78 (retK Go.Proofs.Tryz.prog (Go.Proofs.Tryz.f78).results.toList k kp) (frameOf 0 [t0, t1]) σ = F78 t0 t1 σ k kp := by kernel_rfl
theorem F78_ev {t0 t1 : AV} {σ : AHeap} {k kp : AV → AHeap → Prop} (h : F78 t0 t1 σ k kp) : Ev Go.Proofs.Tryz.prog 78 [t0, t1] σ k kp :=
  Ev_of_aw mixed Go.Proofs.Tryz.func78 (show (Go.Proofs.Tryz.f78).body = some body78 by kernel_rfl) (by kernel_rfl) (args := [t0, t1]) (of_decide_eq_true (by kernel_rfl)) (keepOf keep78) (by kernel_rfl) (by rw [F78_eq]; exact h)

/-- cmp.Compare[string] -/
def F79 (t0 t1 : AV) (σ : AHeap) (k kp : AV → AHeap → Prop) : Prop :=
  Ev Go.Proofs.Tryz.prog 109 [t0] σ (fun t8 σ =>
  Ev Go.Proofs.Tryz.prog 109 [t1] σ (fun t10 σ =>
  condK t8 (
  condK t10 (
  k (.val (Go.Value.int Go.IntKind.i64 0)) σ
  ) (
  k (.val (Go.Value.int Go.IntKind.i64 (-1))) σ
  )
  ) (
  condK t10 (
  k (.val (Go.Value.int Go.IntKind.i64 1)) σ
  ) (
  stepK (pureR σ (aBin .lss .prim t0 t1)) fun t16 σ =>
  condK t16 (
  k (.val (Go.Value.int Go.IntKind.i64 (-1))) σ
  ) (
  stepK (pureR σ (aBin .gtr .prim t0 t1)) fun t19 σ =>
  condK t19 (
  k (.val (Go.Value.int Go.IntKind.i64 1)) σ
  ) (
  k (.val (Go.Value.int Go.IntKind.i64 0)) σ
  )
  )
  )
  )) kp) kp
def keep79 : List (Nat × List Nat) := [(0, [0, 1]), (1, [0, 1, 5]), (2, [0, 1, 5, 6]), (3, [0, 1, 6, 11]), (4, [12]), (5, [4]), (6, [4]), (7, [0, 1, 13]), (8, [4]), (9, [0, 1, 16]), (10, [4]), (11, [19]), (12, [4]), (13, [4])]
noncomputable def body79 : Code := (Go.Proofs.Tryz.f79).body.getD .skip
theorem F79_eq (t0 t1 : AV) (σ : AHeap) (k kp : AV → AHeap → Prop) : aw Go.Proofs.Tryz.prog (keepOf keep79) body79 (retK Go.Proofs.Tryz.prog (Go.Proofs.Tryz.f79).results.toList k kp) (frameOf 0 [t0, t1]) σ = F79 t0 t1 σ k kp := by kernel_rfl
theorem F79_ev {t0 t1 : AV} {σ : AHeap} {k kp : AV → AHeap → Prop} (h : F79 t0 t1 σ k kp) : Ev Go.Proofs.Tryz.prog 79 [t0, t1] σ k kp :=
  Ev_of_aw mixed Go.Proofs.Tryz.func79 (show (Go.Proofs.Tryz.f79).body = some body79 by kernel_rfl) (by kernel_rfl) (args := [t0, t1]) (of_decide_eq_true (by kernel_rfl)) (keepOf keep79) (by kernel_rfl) (by rw [F79_eq]; exact h)

/-- slices.IndexFunc[[]int,int] -/
def F80 (t0 t1 : AV) (σ : AHeap) (k kp : AV → AHeap → Prop) : Prop :=
  seqW (fun fr σ => (
  k (.val (Go.Value.int Go.IntKind.i64 (-1))) σ
  )) (fun j1 => (
  stepK (pureR σ (aLenK .slice t0 σ)) fun t7 σ =>
  loopW (fun fr σ again => (
  stepK (pureR σ (aBin .lss .prim (Abs.look fr 8) (Abs.look fr 7))) fun t9 σ =>
  condK t9 (
  stepK (pureR σ (aIndexAddr 1 (Abs.look fr 0) (Abs.look fr 8) σ)) fun t14 σ =>
  stepK (pureR σ (aLoad false 1 t14 σ)) fun t15 σ =>
  callK Go.Proofs.Tryz.prog (Abs.look fr 1) [t15] σ (fun t16 σ =>
  condK t16 (
  k (Abs.look fr 8) σ
  ) (
  stepK (pureR σ (aBin .add .prim (Abs.look fr 8) (.val (Go.Value.int Go.IntKind.i64 1)))) fun t18 σ =>
  again [(0, (Abs.look fr 0)), (1, (Abs.look fr 1)), (7, (Abs.look fr 7)), (8, t18)] σ
  )
  ) kp) (
  j1 [(0, (Abs.look fr 0))] σ
  )
  )) [(0, t0), (1, t1), (7, t7), (8, (.val (Go.Value.int Go.IntKind.i64 0)))] σ
  ))
def keep80 : List (Nat × List Nat) := [(0, [0, 1]), (3008, [0]), (1, [0, 1, 7, 8]), (2, [0, 1, 7, 8, 9]), (3, [0, 1, 5, 7, 8]), (4, [0, 1, 5, 7, 8, 16]), (5, [4]), (6, [0, 1, 7, 8]), (1002, [0, 1, 7, 8]), (7, [4])]
noncomputable def body80 : Code := (Go.Proofs.Tryz.f80).body.getD .skip
theorem F80_eq (t0 t1 : AV) (σ : AHeap) (k kp : AV → AHeap → Prop) : aw Go.Proofs.Tryz.prog (keepOf keep80) body80 (retK Go.Proofs.Tryz.prog (Go.Proofs.Tryz.f80).results.toList k kp) (frameOf 0 [t0, t1]) σ = F80 t0 t1 σ k kp := by kernel_rfl
theorem F80_ev {t0 t1 : AV} {σ : AHeap} {k kp : AV → AHeap → Prop} (h : F80 t0 t1 σ k kp) : Ev Go.Proofs.Tryz.prog 80 [t0, t1] σ k kp :=
  Ev_of_aw mixed Go.Proofs.Tryz.func80 (show (Go.Proofs.Tryz.f80).body = some body80 by kernel_rfl) (by kernel_rfl) (args := [t0, t1]) (of_decide_eq_true (by kernel_rfl)) (keepOf keep80) (by kernel_rfl) (by rw [F80_eq]; exact h)

/-- enclave/enclaveref02.shape -/
def F81 (t0 t1 : AV) (σ : AHeap) (k kp : AV → AHeap → Prop) : Prop :=
  stepK (pureR σ (aLenK .str t0 σ)) fun t8 σ =>
  stepK (pureR σ (aBin .eql .prim t8 (.val (Go.Value.int Go.IntKind.i64 0)))) fun t9 σ =>
  gK t9 false (fun K => K t0 σ) (fun t11 σ =>
  gK t9 false (fun K => stepK (pureR σ (aLenK .str t11 σ)) K) (fun t12 σ =>
  gK t9 false (fun K => stepK (pureR σ (aBin .gtr .prim t12 (.val (Go.Value.int Go.IntKind.i64 16)))) K) (fun t13 σ =>
  stepK (pureR σ (aPick t9 (.val (Go.Value.bool Bool.true)) t13)) fun t14 σ =>
  gK t14 false (fun K => K t0 σ) (fun t16 σ =>
  gK t14 false (fun K => stepK (pureR σ (aIndexStr t16 (.val (Go.Value.int Go.IntKind.i64 0)))) K) (fun t17 σ =>
  gK t14 false (fun K => Ev Go.Proofs.Tryz.prog 110 [t17] σ K kp) (fun t18 σ =>
  gK t14 false (fun K => K t1 σ) (fun t19 σ =>
  gK t14 false (fun K => stepK (pureR σ (aBin .neq .prim t18 t19)) K) (fun t20 σ =>
  stepK (pureR σ (aPick t14 (.val (Go.Value.bool Bool.true)) t20)) fun t21 σ =>
  condK t21 (
  k (.val (Go.Value.bool Bool.false)) σ
  ) (
  seqW (fun fr σ => (
  k (.val (Go.Value.bool Bool.true)) σ
  )) (fun j1 => (
  loopW (fun fr σ again => (
  stepK (pureR σ (aLenK .str (Abs.look fr 0) σ)) fun t24 σ =>
  stepK (pureR σ (aBin .lss .prim (Abs.look fr 5) t24)) fun t25 σ =>
  condK t25 (
  stepK (pureR σ (aIndexStr (Abs.look fr 0) (Abs.look fr 5))) fun t30 σ =>
  Ev Go.Proofs.Tryz.prog 110 [t30] σ (fun t31 σ =>
  stepK (pureR σ (aBin .lss .prim t31 (.val (Go.Value.int Go.IntKind.u8 2)))) fun t33 σ =>
  gK t33 false (fun K => K t31 σ) (fun t35 σ =>
  gK t33 false (fun K => stepK (pureR σ (aBin .gtr .prim t35 (.val (Go.Value.int Go.IntKind.u8 4)))) K) (fun t36 σ =>
  stepK (pureR σ (aPick t33 (.val (Go.Value.bool Bool.true)) t36)) fun t37 σ =>
  condK t37 (
  k (.val (Go.Value.bool Bool.false)) σ
  ) (
  stepK (pureR σ (aBin .add .prim (Abs.look fr 5) (.val (Go.Value.int Go.IntKind.i64 1)))) fun t27 σ =>
  again [(0, (Abs.look fr 0)), (5, t27)] σ
  )
  ) σ) σ) kp) (
  j1 [(0, (Abs.look fr 0))] σ
  )
  )) [(0, t0), (5, (.val (Go.Value.int Go.IntKind.i64 0)))] σ
  ))
  )) σ) σ) σ) σ) σ) σ) σ) σ
def keep81 : List (Nat × List Nat) := [(0, [0, 1]), (1, [0, 21]), (2, [4]), (3010, [0]), (3, [0, 5]), (4, [0, 5, 25]), (6, [0, 5, 6]), (7, [0, 5, 37]), (8, [4]), (5, [0, 5]), (1004, [0, 5]), (9, [4])]
noncomputable def body81 : Code := (Go.Proofs.Tryz.f81).body.getD .skip
theorem F81_eq (t0 t1 : AV) (σ : AHeap) (k kp : AV → AHeap → Prop) : aw Go.Proofs.Tryz.prog (keepOf keep81) body81 (retK Go.Proofs.Tryz.prog (Go.Proofs.Tryz.f81).results.toList k kp) (frameOf 0 [t0, t1]) σ = F81 t0 t1 σ k kp := by kernel_rfl
theorem F81_ev {t0 t1 : AV} {σ : AHeap} {k kp : AV → AHeap → Prop} (h : F81 t0 t1 σ k kp) : Ev Go.Proofs.Tryz.prog 81 [t0, t1] σ k kp :=
  Ev_of_aw mixed Go.Proofs.Tryz.func81 (show (Go.Proofs.Tryz.f81).body = some body81 by kernel_rfl) (by kernel_rfl) (args := [t0, t1]) (of_decide_eq_true (by kernel_rfl)) (keepOf keep81) (by kernel_rfl) (by rw [F81_eq]; exact h)

/-- enclave/enclaveref11.put -/
def F82 (t0 t1 : AV) (σ : AHeap) (k kp : AV → AHeap → Prop) : Prop :=
  stepK (aBox t1 σ) fun t3 σ =>
  stepK (pureR σ (aLoad true 3 t3 σ)) fun t8 σ =>
  Ev Go.Proofs.Tryz.prog 41 [t8] σ (fun t9 σ =>
  stepK (pureR σ (aNot t9)) fun t10 σ =>
  gK t10 false (fun K => K t0 σ) (fun t12 σ =>
  gK t10 false (fun K => stepK (pureR σ (aLoad true 3 t3 σ)) K) (fun t13 σ =>
  gK t10 false (fun K => Ev Go.Proofs.Tryz.prog 42 [t12, t13] σ K kp) (fun t14 σ =>
  stepK (pureR σ (aPick t10 (.val (Go.Value.bool Bool.true)) t14)) fun t15 σ =>
  condK t15 (
  k t0 σ
  ) (
  stepK (aBuildSlice 0 3 [.val (.int .u8 0), .val (.int .i64 0), .val (.string ByteArray.empty)] [] σ) fun t17 σ =>
  seqW (fun fr σ => (
  seqW (fun fr σ => (
  k (Abs.look fr 5) σ
  )) (fun j2 => (
  stepK (pureR σ (aNot (Abs.look fr 6))) fun t46 σ =>
  condK t46 (
  stepK (pureR σ (aLoad true 3 (Abs.look fr 3) σ)) fun t48 σ =>
  stepK (aBuildSlice 1 3 [.val (.int .u8 0), .val (.int .i64 0), .val (.string ByteArray.empty)] [(0, t48)] σ) fun t49 σ =>
  stepK (aAppend 3 32 (Abs.look fr 5) t49 σ) fun t50 σ =>
  j2 [(5, t50)] σ
  ) (
  j2 [(5, (Abs.look fr 5))] σ
  )
  ))
  )) (fun j1 => (
  stepK (pureR σ (aLenK .slice t0 σ)) fun t19 σ =>
  loopW (fun fr σ again => (
  stepK (pureR σ (aBin .lss .prim (Abs.look fr 20) (Abs.look fr 19))) fun t21 σ =>
  condK t21 (
  seqW (fun fr σ => (
  stepK (pureR σ (aIndexAddr 3 (Abs.look fr 0) (Abs.look fr 7) σ)) fun t40 σ =>
  stepK (pureR σ (aLoad true 3 t40 σ)) fun t41 σ =>
  stepK (aBuildSlice 1 3 [.val (.int .u8 0), .val (.int .i64 0), .val (.string ByteArray.empty)] [(0, t41)] σ) fun t42 σ =>
  stepK (aAppend 3 32 (Abs.look fr 5) t42 σ) fun t43 σ =>
  stepK (pureR σ (aBin .add .prim (Abs.look fr 20) (.val (Go.Value.int Go.IntKind.i64 1)))) fun t44 σ =>
  again [(0, (Abs.look fr 0)), (3, (Abs.look fr 3)), (5, t43), (6, (Abs.look fr 6)), (19, (Abs.look fr 19)), (20, t44)] σ
  )) (fun j3 => (
  stepK (pureR σ (aNot (Abs.look fr 6))) fun t24 σ =>
  gK t24 true (fun K => stepK (pureR σ (aLoad true 3 (Abs.look fr 3) σ)) K) (fun t26 σ =>
  gK t24 true (fun K => K (Abs.look fr 0) σ) (fun t27 σ =>
  gK t24 true (fun K => K (Abs.look fr 20) σ) (fun t28 σ =>
  gK t24 true (fun K => stepK (pureR σ (aIndexAddr 3 t27 t28 σ)) K) (fun t29 σ =>
  gK t24 true (fun K => stepK (pureR σ (aLoad true 3 t29 σ)) K) (fun t30 σ =>
  gK t24 true (fun K => Ev Go.Proofs.Tryz.prog 111 [t26, t30] σ K kp) (fun t31 σ =>
  stepK (pureR σ (aPick t24 t31 (.val (Go.Value.bool Bool.false)))) fun t32 σ =>
  condK t32 (
  stepK (pureR σ (aLoad true 3 (Abs.look fr 3) σ)) fun t34 σ =>
  stepK (aBuildSlice 1 3 [.val (.int .u8 0), .val (.int .i64 0), .val (.string ByteArray.empty)] [(0, t34)] σ) fun t35 σ =>
  stepK (aAppend 3 32 (Abs.look fr 5) t35 σ) fun t36 σ =>
  j3 [(0, (Abs.look fr 0)), (3, (Abs.look fr 3)), (5, t36), (6, (.val (Go.Value.bool Bool.true))), (7, (Abs.look fr 20)), (19, (Abs.look fr 19)), (20, (Abs.look fr 20))] σ
  ) (
  j3 [(0, (Abs.look fr 0)), (3, (Abs.look fr 3)), (5, (Abs.look fr 5)), (6, (Abs.look fr 6)), (7, (Abs.look fr 20)), (19, (Abs.look fr 19)), (20, (Abs.look fr 20))] σ
  )
  ) σ) σ) σ) σ) σ) σ))
  ) (
  j1 [(3, (Abs.look fr 3)), (5, (Abs.look fr 5)), (6, (Abs.look fr 6))] σ
  )
  )) [(0, t0), (3, t3), (5, t17), (6, (.val (Go.Value.bool Bool.false))), (19, t19), (20, (.val (Go.Value.int Go.IntKind.i64 0)))] σ
  ))
  )) σ) σ) σ) kp
def keep82 : List (Nat × List Nat) := [(0, [0, 3]), (1, [0, 3, 15]), (2, [4]), (3, [0, 3, 5]), (4, [0, 3, 5, 6]), (3014, [3, 5, 6]), (5, [0, 3, 5, 6, 19, 20]), (6, [0, 3, 5, 6, 19, 20, 21]), (7, [0, 3, 5, 6, 7, 19, 20]), (3012, [0, 3, 5, 6, 7, 19, 20]), (8, [0, 3, 5, 6, 7, 19, 20, 32]), (2008, [0, 1, 2, 3, 4, 5, 6, 7, 8, 9]), (9, [0, 3, 5, 7, 19, 20]), (10, [0, 3, 5, 6, 7, 19, 20]), (11, [0, 3, 5, 6, 19, 20]), (12, [0, 3, 5, 6, 19, 20]), (1006, [0, 3, 5, 6, 19, 20]), (3016, [5]), (13, [3, 5, 46]), (14, [5]), (15, [4])]
noncomputable def body82 : Code := (Go.Proofs.Tryz.f82).body.getD .skip
theorem F82_eq (t0 t1 : AV) (σ : AHeap) (k kp : AV → AHeap → Prop) : aw Go.Proofs.Tryz.prog (keepOf keep82) body82 (retK Go.Proofs.Tryz.prog (Go.Proofs.Tryz.f82).results.toList k kp) (frameOf 0 [t0, t1]) σ = F82 t0 t1 σ k kp := by kernel_rfl
theorem F82_ev {t0 t1 : AV} {σ : AHeap} {k kp : AV → AHeap → Prop} (h : F82 t0 t1 σ k kp) : Ev Go.Proofs.Tryz.prog 82 [t0, t1] σ k kp :=
  Ev_of_aw mixed Go.Proofs.Tryz.func82 (show (Go.Proofs.Tryz.f82).body = some body82 by kernel_rfl) (by kernel_rfl) (args := [t0, t1]) (of_decide_eq_true (by kernel_rfl)) (keepOf keep82) (by kernel_rfl) (by rw [F82_eq]; exact h)

/-- slices.IndexFunc[[]enclave/api.Atom,enclave/api.Atom] -/
def F83 (t0 t1 : AV) (σ : AHeap) (k kp : AV → AHeap → Prop) : Prop :=
  seqW (fun fr σ => (
  k (.val (Go.Value.int Go.IntKind.i64 (-1))) σ
  )) (fun j1 => (
  stepK (pureR σ (aLenK .slice t0 σ)) fun t7 σ =>
  loopW (fun fr σ again => (
  stepK (pureR σ (aBin .lss .prim (Abs.look fr 8) (Abs.look fr 7))) fun t9 σ =>
  condK t9 (
  stepK (pureR σ (aIndexAddr 3 (Abs.look fr 0) (Abs.look fr 8) σ)) fun t14 σ =>
  stepK (pureR σ (aLoad true 3 t14 σ)) fun t15 σ =>
  callK Go.Proofs.Tryz.prog (Abs.look fr 1) [t15] σ (fun t16 σ =>
  condK t16 (
  k (Abs.look fr 8) σ
  ) (
  stepK (pureR σ (aBin .add .prim (Abs.look fr 8) (.val (Go.Value.int Go.IntKind.i64 1)))) fun t18 σ =>
  again [(0, (Abs.look fr 0)), (1, (Abs.look fr 1)), (7, (Abs.look fr 7)), (8, t18)] σ
  )
  ) kp) (
  j1 [(0, (Abs.look fr 0))] σ
  )
  )) [(0, t0), (1, t1), (7, t7), (8, (.val (Go.Value.int Go.IntKind.i64 0)))] σ
  ))
def keep83 : List (Nat × List Nat) := [(0, [0, 1]), (3008, [0]), (1, [0, 1, 7, 8]), (2, [0, 1, 7, 8, 9]), (3, [0, 1, 5, 7, 8]), (4, [0, 1, 5, 7, 8, 16]), (5, [4]), (6, [0, 1, 7, 8]), (1002, [0, 1, 7, 8]), (7, [4])]
noncomputable def body83 : Code := (Go.Proofs.Tryz.f83).body.getD .skip
theorem F83_eq (t0 t1 : AV) (σ : AHeap) (k kp : AV → AHeap → Prop) : aw Go.Proofs.Tryz.prog (keepOf keep83) body83 (retK Go.Proofs.Tryz.prog (Go.Proofs.Tryz.f83).results.toList k kp) (frameOf 0 [t0, t1]) σ = F83 t0 t1 σ k kp := by kernel_rfl
theorem F83_ev {t0 t1 : AV} {σ : AHeap} {k kp : AV → AHeap → Prop} (h : F83 t0 t1 σ k kp) : Ev Go.Proofs.Tryz.prog 83 [t0, t1] σ k kp :=
  Ev_of_aw mixed Go.Proofs.Tryz.func83 (show (Go.Proofs.Tryz.f83).body = some body83 by kernel_rfl) (by kernel_rfl) (args := [t0, t1]) (of_decide_eq_true (by kernel_rfl)) (keepOf keep83) (by kernel_rfl) (by rw [F83_eq]; exact h)

/-- slices.Concat[[]enclave/api.Atom,enclave/api.Atom] -/
def F84 (t0 : AV) (σ : AHeap) (k kp : AV → AHeap → Prop) : Prop :=
  seqW (fun fr σ => (
  Ev Go.Proofs.Tryz.prog 112 [(.val (Go.Value.slice Option.none 0 0)), (Abs.look fr 3)] σ (fun t24 σ =>
  seqW (fun fr σ => (
  k (Abs.look fr 6) σ
  )) (fun j2 => (
  stepK (pureR σ (aLenK .slice (Abs.look fr 0) σ)) fun t26 σ =>
  loopW (fun fr σ again => (
  stepK (pureR σ (aBin .lss .prim (Abs.look fr 27) (Abs.look fr 26))) fun t28 σ =>
  condK t28 (
  stepK (pureR σ (aIndexAddr 1 (Abs.look fr 25) (Abs.look fr 27) σ)) fun t29 σ =>
  stepK (pureR σ (aLoad false 1 t29 σ)) fun t30 σ =>
  stepK (aAppend 3 32 (Abs.look fr 6) t30 σ) fun t33 σ =>
  stepK (pureR σ (aBin .add .prim (Abs.look fr 27) (.val (Go.Value.int Go.IntKind.i64 1)))) fun t34 σ =>
  again [(6, t33), (25, (Abs.look fr 25)), (26, (Abs.look fr 26)), (27, t34)] σ
  ) (
  j2 [(6, (Abs.look fr 6))] σ
  )
  )) [(6, t24), (25, (Abs.look fr 0)), (26, t26), (27, (.val (Go.Value.int Go.IntKind.i64 0)))] σ
  ))
  ) kp)) (fun j1 => (
  stepK (pureR σ (aLenK .slice t0 σ)) fun t10 σ =>
  loopW (fun fr σ again => (
  stepK (pureR σ (aBin .lss .prim (Abs.look fr 11) (Abs.look fr 10))) fun t12 σ =>
  condK t12 (
  seqW (fun fr σ => (
  stepK (pureR σ (aBin .add .prim (Abs.look fr 11) (.val (Go.Value.int Go.IntKind.i64 1)))) fun t22 σ =>
  again [(0, (Abs.look fr 0)), (3, (Abs.look fr 3)), (9, (Abs.look fr 9)), (10, (Abs.look fr 10)), (11, t22)] σ
  )) (fun j3 => (
  stepK (pureR σ (aIndexAddr 1 (Abs.look fr 9) (Abs.look fr 11) σ)) fun t13 σ =>
  stepK (pureR σ (aLoad false 1 t13 σ)) fun t14 σ =>
  stepK (pureR σ (aLenK .slice t14 σ)) fun t17 σ =>
  stepK (pureR σ (aBin .add .prim (Abs.look fr 3) t17)) fun t18 σ =>
  stepK (pureR σ (aBin .lss .prim t18 (.val (Go.Value.int Go.IntKind.i64 0)))) fun t20 σ =>
  condK t20 (
  stepK (some (.iface 9 (.val (Go.Value.string { data := #[108, 101, 110, 32, 111, 117, 116, 32, 111, 102, 32, 114, 97, 110, 103, 101] })), σ)) fun t21 σ =>
  panicK t21 σ kp
  ) (
  j3 [(0, (Abs.look fr 0)), (3, t18), (9, (Abs.look fr 9)), (10, (Abs.look fr 10)), (11, (Abs.look fr 11))] σ
  )
  ))
  ) (
  j1 [(0, (Abs.look fr 0)), (3, (Abs.look fr 3))] σ
  )
  )) [(0, t0), (3, (.val (Go.Value.int Go.IntKind.i64 0))), (9, t0), (10, t10), (11, (.val (Go.Value.int Go.IntKind.i64 0)))] σ
  ))
def keep84 : List (Nat × List Nat) := [(0, [0]), (1, [0, 3]), (3010, [0, 3]), (2, [0, 3, 9, 10, 11]), (3, [0, 3, 9, 10, 11, 12]), (3009, [0, 3, 9, 10, 11]), (4, [0, 3, 5, 9, 10, 11]), (5, [0, 3, 9, 10, 11]), (6, [0, 3, 9, 10, 11, 20]), (7, [0, 3, 9, 10, 11]), (8, [0, 3, 9, 10, 11]), (1003, [0, 3, 9, 10, 11]), (9, [0, 6]), (3016, [6]), (10, [6, 25, 26, 27]), (11, [6, 25, 26, 27, 28]), (12, [6, 8, 25, 26, 27]), (13, [6, 25, 26, 27]), (14, [6, 25, 26, 27]), (1011, [6, 25, 26, 27]), (15, [2])]
noncomputable def body84 : Code := (Go.Proofs.Tryz.f84).body.getD .skip
theorem F84_eq (t0 : AV) (σ : AHeap) (k kp : AV → AHeap → Prop) : aw Go.Proofs.Tryz.prog (keepOf keep84) body84 (retK Go.Proofs.Tryz.prog (Go.Proofs.Tryz.f84).results.toList k kp) (frameOf 0 [t0]) σ = F84 t0 σ k kp := by kernel_rfl
theorem F84_ev {t0 : AV} {σ : AHeap} {k kp : AV → AHeap → Prop} (h : F84 t0 σ k kp) : Ev Go.Proofs.Tryz.prog 84 [t0] σ k kp :=
  Ev_of_aw mixed Go.Proofs.Tryz.func84 (show (Go.Proofs.Tryz.f84).body = some body84 by kernel_rfl) (by kernel_rfl) (args := [t0]) (of_decide_eq_true (by kernel_rfl)) (keepOf keep84) (by kernel_rfl) (by rw [F84_eq]; exact h)

/-- enclave/words.all -/
def F96 (t0 t1 : AV) (σ : AHeap) (k kp : AV → AHeap → Prop) : Prop :=
  stepK (aBox t0 σ) fun t2 σ =>
  Ev Go.Proofs.Tryz.prog 118 [t1, (.fn (.func 119) [t2])] σ (fun t7 σ =>
  stepK (pureR σ (aNot t7)) fun t8 σ =>
  k t8 σ) kp
def keep96 : List (Nat × List Nat) := [(0, [1, 2]), (1, [4])]
noncomputable def body96 : Code := (Go.Proofs.Tryz.f96).body.getD .skip
theorem F96_eq (t0 t1 : AV) (σ : AHeap) (k kp : AV → AHeap → Prop) : aw Go.Proofs.Tryz.prog (keepOf keep96) body96 (retK Go.Proofs.Tryz.prog (Go.Proofs.Tryz.f96).results.toList k kp) (frameOf 0 [t0, t1]) σ = F96 t0 t1 σ k kp := by kernel_rfl
theorem F96_ev {t0 t1 : AV} {σ : AHeap} {k kp : AV → AHeap → Prop} (h : F96 t0 t1 σ k kp) : Ev Go.Proofs.Tryz.prog 96 [t0, t1] σ k kp :=
  Ev_of_aw mixed Go.Proofs.Tryz.func96 (show (Go.Proofs.Tryz.f96).body = some body96 by kernel_rfl) (by kernel_rfl) (args := [t0, t1]) (of_decide_eq_true (by kernel_rfl)) (keepOf keep96) (by kernel_rfl) (by rw [F96_eq]; exact h)

/-- enclave/words.Exn$1 -/
def F97 (t0 : AV) (σ : AHeap) (k kp : AV → AHeap → Prop) : Prop :=
  Ev Go.Proofs.Tryz.prog 98 [t0, (.val (Go.Value.int Go.IntKind.u8 4))] σ (fun t4 σ =>
  k t4 σ) kp
def keep97 : List (Nat × List Nat) := [(0, [0]), (1, [2])]
noncomputable def body97 : Code := (Go.Proofs.Tryz.f97).body.getD .skip
theorem F97_eq (t0 : AV) (σ : AHeap) (k kp : AV → AHeap → Prop) : aw Go.Proofs.Tryz.prog (keepOf keep97) body97 (retK Go.Proofs.Tryz.prog (Go.Proofs.Tryz.f97).results.toList k kp) (frameOf 0 [t0]) σ = F97 t0 σ k kp := by kernel_rfl
theorem F97_ev {t0 : AV} {σ : AHeap} {k kp : AV → AHeap → Prop} (h : F97 t0 σ k kp) : Ev Go.Proofs.Tryz.prog 97 [t0] σ k kp :=
  Ev_of_aw mixed Go.Proofs.Tryz.func97 (show (Go.Proofs.Tryz.f97).body = some body97 by kernel_rfl) (by kernel_rfl) (args := [t0]) (of_decide_eq_true (by kernel_rfl)) (keepOf keep97) (by kernel_rfl) (by rw [F97_eq]; exact h)

/-- enclave/words.shaped -/
def F98 (t0 t1 : AV) (σ : AHeap) (k kp : AV → AHeap → Prop) : Prop :=
  stepK (pureR σ (aBin .eql .prim t0 (.val (Go.Value.string { data := #[] })))) fun t6 σ =>
  gK t6 false (fun K => K t0 σ) (fun t8 σ =>
  gK t6 false (fun K => stepK (pureR σ (aLenK .str t8 σ)) K) (fun t9 σ =>
  gK t6 false (fun K => stepK (pureR σ (aBin .gtr .prim t9 (.val (Go.Value.int Go.IntKind.i64 16)))) K) (fun t10 σ =>
  stepK (pureR σ (aPick t6 (.val (Go.Value.bool Bool.true)) t10)) fun t11 σ =>
  gK t11 false (fun K => K t0 σ) (fun t13 σ =>
  gK t11 false (fun K => stepK (pureR σ (aIndexStr t13 (.val (Go.Value.int Go.IntKind.i64 0)))) K) (fun t14 σ =>
  gK t11 false (fun K => Ev Go.Proofs.Tryz.prog 120 [t14] σ K kp) (fun t15 σ =>
  gK t11 false (fun K => K t1 σ) (fun t16 σ =>
  gK t11 false (fun K => stepK (pureR σ (aBin .neq .prim t15 t16)) K) (fun t17 σ =>
  stepK (pureR σ (aPick t11 (.val (Go.Value.bool Bool.true)) t17)) fun t18 σ =>
  condK t18 (
  k (.val (Go.Value.bool Bool.false)) σ
  ) (
  stepK (pureR σ (aConv .bytes t0)) fun t20 σ =>
  stepK (pureR σ (aBuildSl 3 1 [.val (.int .u8 0)] [(0, (.val (Go.Value.int Go.IntKind.u8 3))), (1, (.val (Go.Value.int Go.IntKind.u8 4))), (2, (.val (Go.Value.int Go.IntKind.u8 2)))])) fun t21 σ =>
  Ev Go.Proofs.Tryz.prog 121 [t20, (.val (Go.Value.int Go.IntKind.i64 0)), t21] σ (fun t22 σ =>
  stepK (pureR σ (aLenK .str t0 σ)) fun t24 σ =>
  stepK (pureR σ (aBin .eql .prim t22 t24)) fun t25 σ =>
  k t25 σ
  ) kp)) σ) σ) σ) σ) σ) σ) σ) σ
def keep98 : List (Nat × List Nat) := [(0, [0, 1]), (1, [0, 18]), (2, [4]), (3, [4]), (4003, [1])]
noncomputable def body98 : Code := (Go.Proofs.Tryz.f98).body.getD .skip
theorem F98_eq (t0 t1 : AV) (σ : AHeap) (k kp : AV → AHeap → Prop) : aw Go.Proofs.Tryz.prog (keepOf keep98) body98 (retK Go.Proofs.Tryz.prog (Go.Proofs.Tryz.f98).results.toList k kp) (frameOf 0 [t0, t1]) σ = F98 t0 t1 σ k kp := by kernel_rfl
theorem F98_ev {t0 t1 : AV} {σ : AHeap} {k kp : AV → AHeap → Prop} (h : F98 t0 t1 σ k kp) : Ev Go.Proofs.Tryz.prog 98 [t0, t1] σ k kp :=
  Ev_of_aw mixed Go.Proofs.Tryz.func98 (show (Go.Proofs.Tryz.f98).body = some body98 by kernel_rfl) (by kernel_rfl) (args := [t0, t1]) (of_decide_eq_true (by kernel_rfl)) (keepOf keep98) (by kernel_rfl) (by rw [F98_eq]; exact h)

/-- cmp.isNaN[uint8] -/
def F107 (t0 : AV) (σ : AHeap) (k kp : AV → AHeap → Prop) : Prop :=
  stepK (pureR σ (aBin .neq .prim t0 t0)) fun t5 σ =>
  k t5 σ
def keep107 : List (Nat × List Nat) := [(0, [0]), (1, [2])]
noncomputable def body107 : Code := (Go.Proofs.Tryz.f107).body.getD .skip
theorem F107_eq (t0 : AV) (σ : AHeap) (k kp : AV → AHeap → Prop) : aw Go.Proofs.Tryz.prog (keepOf keep107) body107 (retK Go.Proofs.Tryz.prog (Go.Proofs.Tryz.f107).results.toList k kp) (frameOf 0 [t0]) σ = F107 t0 σ k kp := by kernel_rfl
theorem F107_ev {t0 : AV} {σ : AHeap} {k kp : AV → AHeap → Prop} (h : F107 t0 σ k kp) : Ev Go.Proofs.Tryz.prog 107 [t0] σ k kp :=
  Ev_of_aw mixed Go.Proofs.Tryz.func107 (show (Go.Proofs.Tryz.f107).body = some body107 by kernel_rfl) (by kernel_rfl) (args := [t0]) (of_decide_eq_true (by kernel_rfl)) (keepOf keep107) (by kernel_rfl) (by rw [F107_eq]; exact h)

/-- cmp.isNaN[int] -/
def F108 (t0 : AV) (σ : AHeap) (k kp : AV → AHeap → Prop) : Prop :=
  stepK (pureR σ (aBin .neq .prim t0 t0)) fun t5 σ =>
  k t5 σ
def keep108 : List (Nat × List Nat) := [(0, [0]), (1, [2])]
noncomputable def body108 : Code := (Go.Proofs.Tryz.f108).body.getD .skip
theorem F108_eq (t0 : AV) (σ : AHeap) (k kp : AV → AHeap → Prop) : aw Go.Proofs.Tryz.prog (keepOf keep108) body108 (retK Go.Proofs.Tryz.prog (Go.Proofs.Tryz.f108).results.toList k kp) (frameOf 0 [t0]) σ = F108 t0 σ k kp := by kernel_rfl
theorem F108_ev {t0 : AV} {σ : AHeap} {k kp : AV → AHeap → Prop} (h : F108 t0 σ k kp) : Ev Go.Proofs.Tryz.prog 108 [t0] σ k kp :=
  Ev_of_aw mixed Go.Proofs.Tryz.func108 (show (Go.Proofs.Tryz.f108).body = some body108 by kernel_rfl) (by kernel_rfl) (args := [t0]) (of_decide_eq_true (by kernel_rfl)) (keepOf keep108) (by kernel_rfl) (by rw [F108_eq]; exact h)

/-- cmp.isNaN[string] -/
def F109 (t0 : AV) (σ : AHeap) (k kp : AV → AHeap → Prop) : Prop :=
  stepK (pureR σ (aBin .neq .prim t0 t0)) fun t5 σ =>
  k t5 σ
def keep109 : List (Nat × List Nat) := [(0, [0]), (1, [2])]
noncomputable def body109 : Code := (Go.Proofs.Tryz.f109).body.getD .skip
theorem F109_eq (t0 : AV) (σ : AHeap) (k kp : AV → AHeap → Prop) : aw Go.Proofs.Tryz.prog (keepOf keep109) body109 (retK Go.Proofs.Tryz.prog (Go.Proofs.Tryz.f109).results.toList k kp) (frameOf 0 [t0]) σ = F109 t0 σ k kp := by kernel_rfl
theorem F109_ev {t0 : AV} {σ : AHeap} {k kp : AV → AHeap → Prop} (h : F109 t0 σ k kp) : Ev Go.Proofs.Tryz.prog 109 [t0] σ k kp :=
  Ev_of_aw mixed Go.Proofs.Tryz.func109 (show (Go.Proofs.Tryz.f109).body = some body109 by kernel_rfl) (by kernel_rfl) (args := [t0]) (of_decide_eq_true (by kernel_rfl)) (keepOf keep109) (by kernel_rfl) (by rw [F109_eq]; exact h)

/-- enclave/enclaveref01.Class -/
def F110 (t0 : AV) (σ : AHeap) (k kp : AV → AHeap → Prop) : Prop :=
  stepK (pureR σ (aBin .eql .prim t0 (.val (Go.Value.int Go.IntKind.u8 32)))) fun t6 σ =>
  gK t6 false (fun K => K t0 σ) (fun t8 σ =>
  gK t6 false (fun K => stepK (pureR σ (aBin .eql .prim t8 (.val (Go.Value.int Go.IntKind.u8 9)))) K) (fun t9 σ =>
  stepK (pureR σ (aPick t6 (.val (Go.Value.bool Bool.true)) t9)) fun t10 σ =>
  gK t10 false (fun K => K t0 σ) (fun t12 σ =>
  gK t10 false (fun K => stepK (pureR σ (aBin .eql .prim t12 (.val (Go.Value.int Go.IntKind.u8 10)))) K) (fun t13 σ =>
  stepK (pureR σ (aPick t10 (.val (Go.Value.bool Bool.true)) t13)) fun t14 σ =>
  condK t14 (
  k (.val (Go.Value.int Go.IntKind.u8 1)) σ
  ) (
  stepK (pureR σ (aBin .geq .prim t0 (.val (Go.Value.int Go.IntKind.u8 48)))) fun t16 σ =>
  gK t16 true (fun K => K t0 σ) (fun t18 σ =>
  gK t16 true (fun K => stepK (pureR σ (aBin .leq .prim t18 (.val (Go.Value.int Go.IntKind.u8 57)))) K) (fun t19 σ =>
  stepK (pureR σ (aPick t16 t19 (.val (Go.Value.bool Bool.false)))) fun t20 σ =>
  condK t20 (
  k (.val (Go.Value.int Go.IntKind.u8 2)) σ
  ) (
  stepK (pureR σ (aBin .geq .prim t0 (.val (Go.Value.int Go.IntKind.u8 97)))) fun t22 σ =>
  gK t22 true (fun K => K t0 σ) (fun t24 σ =>
  gK t22 true (fun K => stepK (pureR σ (aBin .leq .prim t24 (.val (Go.Value.int Go.IntKind.u8 122)))) K) (fun t25 σ =>
  stepK (pureR σ (aPick t22 t25 (.val (Go.Value.bool Bool.false)))) fun t26 σ =>
  condK t26 (
  k (.val (Go.Value.int Go.IntKind.u8 3)) σ
  ) (
  stepK (pureR σ (aBin .geq .prim t0 (.val (Go.Value.int Go.IntKind.u8 65)))) fun t28 σ =>
  gK t28 true (fun K => K t0 σ) (fun t30 σ =>
  gK t28 true (fun K => stepK (pureR σ (aBin .leq .prim t30 (.val (Go.Value.int Go.IntKind.u8 90)))) K) (fun t31 σ =>
  stepK (pureR σ (aPick t28 t31 (.val (Go.Value.bool Bool.false)))) fun t32 σ =>
  condK t32 (
  k (.val (Go.Value.int Go.IntKind.u8 4)) σ
  ) (
  stepK (pureR σ (aBuildSl 12 1 [.val (.int .u8 0)] [(0, (.val (Go.Value.int Go.IntKind.u8 40))), (1, (.val (Go.Value.int Go.IntKind.u8 41))), (2, (.val (Go.Value.int Go.IntKind.u8 44))), (3, (.val (Go.Value.int Go.IntKind.u8 33))), (4, (.val (Go.Value.int Go.IntKind.u8 58))), (5, (.val (Go.Value.int Go.IntKind.u8 61))), (6, (.val (Go.Value.int Go.IntKind.u8 62))), (7, (.val (Go.Value.int Go.IntKind.u8 43))), (8, (.val (Go.Value.int Go.IntKind.u8 45))), (9, (.val (Go.Value.int Go.IntKind.u8 42))), (10, (.val (Go.Value.int Go.IntKind.u8 60))), (11, (.val (Go.Value.int Go.IntKind.u8 59)))])) fun t33 σ =>
  seqW (fun fr σ => (
  k (.val (Go.Value.int Go.IntKind.u8 0)) σ
  )) (fun j1 => (
  stepK (pureR σ (aLenK .slice t33 σ)) fun t35 σ =>
  loopW (fun fr σ again => (
  stepK (pureR σ (aBin .lss .prim (Abs.look fr 36) (Abs.look fr 35))) fun t37 σ =>
  condK t37 (
  stepK (pureR σ (aIndexAddr 1 (Abs.look fr 3) (Abs.look fr 36) σ)) fun t41 σ =>
  stepK (pureR σ (aLoad false 1 t41 σ)) fun t42 σ =>
  stepK (pureR σ (aBin .eql .prim t42 (Abs.look fr 0))) fun t44 σ =>
  condK t44 (
  k (.val (Go.Value.int Go.IntKind.u8 5)) σ
  ) (
  stepK (pureR σ (aBin .add .prim (Abs.look fr 36) (.val (Go.Value.int Go.IntKind.i64 1)))) fun t45 σ =>
  again [(0, (Abs.look fr 0)), (3, (Abs.look fr 3)), (35, (Abs.look fr 35)), (36, t45)] σ
  )
  ) (
  j1 [(0, (Abs.look fr 0))] σ
  )
  )) [(0, t0), (3, t33), (35, t35), (36, (.val (Go.Value.int Go.IntKind.i64 0)))] σ
  ))
  )
  ) σ) σ)
  ) σ) σ)
  ) σ) σ)) σ) σ) σ) σ
def keep110 : List (Nat × List Nat) := [(0, [0]), (1, [0, 14]), (2, [2]), (3, [0, 20]), (4, [2]), (5, [0, 26]), (6, [2]), (7, [0, 32]), (8, [2]), (9, [0, 3]), (4009, [1]), (3017, [0]), (10, [0, 3, 35, 36]), (11, [0, 3, 35, 36, 37]), (12, [0, 3, 4, 35, 36]), (13, [0, 3, 35, 36, 44]), (14, [2]), (15, [0, 3, 35, 36]), (1011, [0, 3, 35, 36]), (16, [2])]
noncomputable def body110 : Code := (Go.Proofs.Tryz.f110).body.getD .skip
theorem F110_eq (t0 : AV) (σ : AHeap) (k kp : AV → AHeap → Prop) : aw Go.Proofs.Tryz.prog (keepOf keep110) body110 (retK Go.Proofs.Tryz.prog (Go.Proofs.Tryz.f110).results.toList k kp) (frameOf 0 [t0]) σ = F110 t0 σ k kp := by kernel_rfl
theorem F110_ev {t0 : AV} {σ : AHeap} {k kp : AV → AHeap → Prop} (h : F110 t0 σ k kp) : Ev Go.Proofs.Tryz.prog 110 [t0] σ k kp :=
  Ev_of_aw mixed Go.Proofs.Tryz.func110 (show (Go.Proofs.Tryz.f110).body = some body110 by kernel_rfl) (by kernel_rfl) (args := [t0]) (of_decide_eq_true (by kernel_rfl)) (keepOf keep110) (by kernel_rfl) (by rw [F110_eq]; exact h)

/-- enclave/enclaveref11.Less -/
def F111 (t0 t1 : AV) (σ : AHeap) (k kp : AV → AHeap → Prop) : Prop :=
  stepK (aBox t0 σ) fun t2 σ =>
  stepK (aBox t1 σ) fun t3 σ =>
  stepK (pureR σ (aFieldAddr 0 t2)) fun t5 σ =>
  stepK (pureR σ (aLoad false 1 t5 σ)) fun t6 σ =>
  stepK (pureR σ (aFieldAddr 0 t3)) fun t7 σ =>
  stepK (pureR σ (aLoad false 1 t7 σ)) fun t8 σ =>
  stepK (pureR σ (aBin .neq .prim t6 t8)) fun t9 σ =>
  condK t9 (
  stepK (pureR σ (aFieldAddr 0 t2)) fun t10 σ =>
  stepK (pureR σ (aLoad false 1 t10 σ)) fun t11 σ =>
  stepK (pureR σ (aFieldAddr 0 t3)) fun t12 σ =>
  stepK (pureR σ (aLoad false 1 t12 σ)) fun t13 σ =>
  stepK (pureR σ (aBin .lss .prim t11 t13)) fun t14 σ =>
  k t14 σ
  ) (
  stepK (pureR σ (aFieldAddr 1 t2)) fun t15 σ =>
  stepK (pureR σ (aLoad false 1 t15 σ)) fun t16 σ =>
  stepK (pureR σ (aFieldAddr 1 t3)) fun t17 σ =>
  stepK (pureR σ (aLoad false 1 t17 σ)) fun t18 σ =>
  stepK (pureR σ (aBin .neq .prim t16 t18)) fun t19 σ =>
  condK t19 (
  stepK (pureR σ (aFieldAddr 1 t2)) fun t20 σ =>
  stepK (pureR σ (aLoad false 1 t20 σ)) fun t21 σ =>
  stepK (pureR σ (aFieldAddr 1 t3)) fun t22 σ =>
  stepK (pureR σ (aLoad false 1 t22 σ)) fun t23 σ =>
  stepK (pureR σ (aBin .lss .prim t21 t23)) fun t24 σ =>
  k t24 σ
  ) (
  stepK (pureR σ (aFieldAddr 2 t2)) fun t25 σ =>
  stepK (pureR σ (aLoad false 1 t25 σ)) fun t26 σ =>
  stepK (pureR σ (aFieldAddr 2 t3)) fun t27 σ =>
  stepK (pureR σ (aLoad false 1 t27 σ)) fun t28 σ =>
  stepK (pureR σ (aBin .lss .prim t26 t28)) fun t29 σ =>
  k t29 σ
  )
  )
def keep111 : List (Nat × List Nat) := [(0, [2, 3]), (1, [2, 3, 9]), (2, [4]), (3, [2, 3, 19]), (4, [4]), (5, [4])]
noncomputable def body111 : Code := (Go.Proofs.Tryz.f111).body.getD .skip
theorem F111_eq (t0 t1 : AV) (σ : AHeap) (k kp : AV → AHeap → Prop) : aw Go.Proofs.Tryz.prog (keepOf keep111) body111 (retK Go.Proofs.Tryz.prog (Go.Proofs.Tryz.f111).results.toList k kp) (frameOf 0 [t0, t1]) σ = F111 t0 t1 σ k kp := by kernel_rfl
theorem F111_ev {t0 t1 : AV} {σ : AHeap} {k kp : AV → AHeap → Prop} (h : F111 t0 t1 σ k kp) : Ev Go.Proofs.Tryz.prog 111 [t0, t1] σ k kp :=
  Ev_of_aw mixed Go.Proofs.Tryz.func111 (show (Go.Proofs.Tryz.f111).body = some body111 by kernel_rfl) (by kernel_rfl) (args := [t0, t1]) (of_decide_eq_true (by kernel_rfl)) (keepOf keep111) (by kernel_rfl) (by rw [F111_eq]; exact h)

/-- slices.Grow[[]enclave/api.Atom,enclave/api.Atom] -/
def F112 (t0 t1 : AV) (σ : AHeap) (k kp : AV → AHeap → Prop) : Prop :=
  seqW (fun fr σ => (
  seqW (fun fr σ => (
  k (Abs.look fr 0) σ
  )) (fun j2 => (
  stepK (aCap0 (Abs.look fr 0) σ) fun t10 σ =>
  stepK (pureR σ (aLenK .slice (Abs.look fr 0) σ)) fun t12 σ =>
  stepK (pureR σ (aBin .sub .prim t10 t12)) fun t13 σ =>
  stepK (pureR σ (aBin .sub .prim (Abs.look fr 1) t13)) fun t14 σ =>
  stepK (pureR σ (aBin .gtr .prim t14 (.val (Go.Value.int Go.IntKind.i64 0)))) fun t16 σ =>
  condK t16 (
  stepK (aCap0 (Abs.look fr 0) σ) fun t19 σ =>
  stepK (pureR σ (aSlice 3 (Abs.look fr 0) none (some t19) none)) fun t20 σ =>
  stepK (aAppendZ 3 32 [.val (.int .u8 0), .val (.int .i64 0), .val (.string ByteArray.empty)] t20 t14 σ) fun t22 σ =>
  stepK (pureR σ (aLenK .slice (Abs.look fr 0) σ)) fun t24 σ =>
  stepK (pureR σ (aSlice 3 t22 none (some t24) none)) fun t25 σ =>
  j2 [(0, t25)] σ
  ) (
  j2 [(0, (Abs.look fr 0))] σ
  )
  ))
  )) (fun j1 => (
  stepK (pureR σ (aBin .lss .prim t1 (.val (Go.Value.int Go.IntKind.i64 0)))) fun t6 σ =>
  condK t6 (
  stepK (some (.iface 9 (.val (Go.Value.string { data := #[99, 97, 110, 110, 111, 116, 32, 98, 101, 32, 110, 101, 103, 97, 116, 105, 118, 101] })), σ)) fun t7 σ =>
  panicK t7 σ kp
  ) (
  j1 [(0, t0), (1, t1)] σ
  )
  ))
def keep112 : List (Nat × List Nat) := [(0, [0, 1]), (3004, [0, 1]), (1, [0, 1, 6]), (2, [0, 1]), (3007, [0]), (3, [0, 1]), (4, [0, 1, 16]), (5, [0]), (6, [4])]
noncomputable def body112 : Code := (Go.Proofs.Tryz.f112).body.getD .skip
theorem F112_eq (t0 t1 : AV) (σ : AHeap) (k kp : AV → AHeap → Prop) : aw Go.Proofs.Tryz.prog (keepOf keep112) body112 (retK Go.Proofs.Tryz.prog (Go.Proofs.Tryz.f112).results.toList k kp) (frameOf 0 [t0, t1]) σ = F112 t0 t1 σ k kp := by kernel_rfl
theorem F112_ev {t0 t1 : AV} {σ : AHeap} {k kp : AV → AHeap → Prop} (h : F112 t0 t1 σ k kp) : Ev Go.Proofs.Tryz.prog 112 [t0, t1] σ k kp :=
  Ev_of_aw mixed Go.Proofs.Tryz.func112 (show (Go.Proofs.Tryz.f112).body = some body112 by kernel_rfl) (by kernel_rfl) (args := [t0, t1]) (of_decide_eq_true (by kernel_rfl)) (keepOf keep112) (by kernel_rfl) (by rw [F112_eq]; exact h)

/-- slices.ContainsFunc[[]string,string] -/
def F118 (t0 t1 : AV) (σ : AHeap) (k kp : AV → AHeap → Prop) : Prop :=
  Ev Go.Proofs.Tryz.prog 126 [t0, t1] σ (fun t7 σ =>
  stepK (pureR σ (aBin .geq .prim t7 (.val (Go.Value.int Go.IntKind.i64 0)))) fun t8 σ =>
  k t8 σ) kp
def keep118 : List (Nat × List Nat) := [(0, [0, 1]), (1, [4])]
noncomputable def body118 : Code := (Go.Proofs.Tryz.f118).body.getD .skip
theorem F118_eq (t0 t1 : AV) (σ : AHeap) (k kp : AV → AHeap → Prop) : aw Go.Proofs.Tryz.prog (keepOf keep118) body118 (retK Go.Proofs.Tryz.prog (Go.Proofs.Tryz.f118).results.toList k kp) (frameOf 0 [t0, t1]) σ = F118 t0 t1 σ k kp := by kernel_rfl
theorem F118_ev {t0 t1 : AV} {σ : AHeap} {k kp : AV → AHeap → Prop} (h : F118 t0 t1 σ k kp) : Ev Go.Proofs.Tryz.prog 118 [t0, t1] σ k kp :=
  Ev_of_aw mixed Go.Proofs.Tryz.func118 (show (Go.Proofs.Tryz.f118).body = some body118 by kernel_rfl) (by kernel_rfl) (args := [t0, t1]) (of_decide_eq_true (by kernel_rfl)) (keepOf keep118) (by kernel_rfl) (by rw [F118_eq]; exact h)

/-- enclave/words.all$1 -/
def F119 (t0 t1 : AV) (σ : AHeap) (k kp : AV → AHeap → Prop) : Prop :=
  stepK (pureR σ (aLoad false 1 t1 σ)) fun t4 σ =>
  callK Go.Proofs.Tryz.prog t4 [t0] σ (fun t6 σ =>
  stepK (pureR σ (aNot t6)) fun t7 σ =>
  k t7 σ) kp
def keep119 : List (Nat × List Nat) := [(0, [0, 1]), (1, [3])]
noncomputable def body119 : Code := (Go.Proofs.Tryz.f119).body.getD .skip
theorem F119_eq (t0 t1 : AV) (σ : AHeap) (k kp : AV → AHeap → Prop) : aw Go.Proofs.Tryz.prog (keepOf keep119) body119 (retK Go.Proofs.Tryz.prog (Go.Proofs.Tryz.f119).results.toList k kp) (frameOf 0 [t0, t1]) σ = F119 t0 t1 σ k kp := by kernel_rfl
theorem F119_ev {t0 t1 : AV} {σ : AHeap} {k kp : AV → AHeap → Prop} (h : F119 t0 t1 σ k kp) : Ev Go.Proofs.Tryz.prog 119 [t0, t1] σ k kp :=
  Ev_of_aw mixed Go.Proofs.Tryz.func119 (show (Go.Proofs.Tryz.f119).body = some body119 by kernel_rfl) (by kernel_rfl) (args := [t0, t1]) (of_decide_eq_true (by kernel_rfl)) (keepOf keep119) (by kernel_rfl) (by rw [F119_eq]; exact h)

/-- enclave/chars.Class -/
def F120 (t0 : AV) (σ : AHeap) (k kp : AV → AHeap → Prop) : Prop :=
  Ev Go.Proofs.Tryz.prog 127 [(.val (Go.Value.string { data := #[32, 9, 10] })), t0] σ (fun t5 σ =>
  stepK (pureR σ (aBin .geq .prim t5 (.val (Go.Value.int Go.IntKind.i64 0)))) fun t6 σ =>
  condK t6 (
  k (.val (Go.Value.int Go.IntKind.u8 1)) σ
  ) (
  stepK (pureR σ (aBin .geq .prim t0 (.val (Go.Value.int Go.IntKind.u8 48)))) fun t9 σ =>
  gK t9 true (fun K => K t0 σ) (fun t11 σ =>
  gK t9 true (fun K => stepK (pureR σ (aBin .leq .prim t11 (.val (Go.Value.int Go.IntKind.u8 57)))) K) (fun t12 σ =>
  stepK (pureR σ (aPick t9 t12 (.val (Go.Value.bool Bool.false)))) fun t13 σ =>
  condK t13 (
  k (.val (Go.Value.int Go.IntKind.u8 2)) σ
  ) (
  stepK (pureR σ (aBin .geq .prim t0 (.val (Go.Value.int Go.IntKind.u8 97)))) fun t16 σ =>
  gK t16 true (fun K => K t0 σ) (fun t18 σ =>
  gK t16 true (fun K => stepK (pureR σ (aBin .leq .prim t18 (.val (Go.Value.int Go.IntKind.u8 122)))) K) (fun t19 σ =>
  stepK (pureR σ (aPick t16 t19 (.val (Go.Value.bool Bool.false)))) fun t20 σ =>
  condK t20 (
  k (.val (Go.Value.int Go.IntKind.u8 3)) σ
  ) (
  stepK (pureR σ (aBin .geq .prim t0 (.val (Go.Value.int Go.IntKind.u8 65)))) fun t23 σ =>
  gK t23 true (fun K => K t0 σ) (fun t25 σ =>
  gK t23 true (fun K => stepK (pureR σ (aBin .leq .prim t25 (.val (Go.Value.int Go.IntKind.u8 90)))) K) (fun t26 σ =>
  stepK (pureR σ (aPick t23 t26 (.val (Go.Value.bool Bool.false)))) fun t27 σ =>
  condK t27 (
  k (.val (Go.Value.int Go.IntKind.u8 4)) σ
  ) (
  Ev Go.Proofs.Tryz.prog 127 [(.val (Go.Value.string { data := #[40, 41, 44, 33, 58, 61, 62, 43, 45, 42, 60, 59] })), t0] σ (fun t30 σ =>
  stepK (pureR σ (aBin .geq .prim t30 (.val (Go.Value.int Go.IntKind.i64 0)))) fun t31 σ =>
  condK t31 (
  k (.val (Go.Value.int Go.IntKind.u8 5)) σ
  ) (
  k (.val (Go.Value.int Go.IntKind.u8 0)) σ
  )
  ) kp)
  ) σ) σ)
  ) σ) σ)
  ) σ) σ)) kp
def keep120 : List (Nat × List Nat) := [(0, [0]), (1, [0, 3]), (2, [2]), (3, [0, 7]), (4, [2]), (5, [0, 14]), (6, [2]), (7, [0, 21]), (8, [2]), (9, [28]), (10, [2]), (11, [2])]
noncomputable def body120 : Code := (Go.Proofs.Tryz.f120).body.getD .skip
theorem F120_eq (t0 : AV) (σ : AHeap) (k kp : AV → AHeap → Prop) : aw Go.Proofs.Tryz.prog (keepOf keep120) body120 (retK Go.Proofs.Tryz.prog (Go.Proofs.Tryz.f120).results.toList k kp) (frameOf 0 [t0]) σ = F120 t0 σ k kp := by kernel_rfl
theorem F120_ev {t0 : AV} {σ : AHeap} {k kp : AV → AHeap → Prop} (h : F120 t0 σ k kp) : Ev Go.Proofs.Tryz.prog 120 [t0] σ k kp :=
  Ev_of_aw mixed Go.Proofs.Tryz.func120 (show (Go.Proofs.Tryz.f120).body = some body120 by kernel_rfl) (by kernel_rfl) (args := [t0]) (of_decide_eq_true (by kernel_rfl)) (keepOf keep120) (by kernel_rfl) (by rw [F120_eq]; exact h)

/-- enclave/chars.Span -/
def F121 (t0 t1 t2 : AV) (σ : AHeap) (k kp : AV → AHeap → Prop) : Prop :=
  stepK (aBox t2 σ) fun t5 σ =>
  stepK (pureR σ (aBin .lss .prim t1 (.val (Go.Value.int Go.IntKind.i64 0)))) fun t9 σ =>
  gK t9 false (fun K => K t1 σ) (fun t11 σ =>
  gK t9 false (fun K => K t0 σ) (fun t12 σ =>
  gK t9 false (fun K => stepK (pureR σ (aLenK .slice t12 σ)) K) (fun t13 σ =>
  gK t9 false (fun K => stepK (pureR σ (aBin .geq .prim t11 t13)) K) (fun t14 σ =>
  stepK (pureR σ (aPick t9 (.val (Go.Value.bool Bool.true)) t14)) fun t15 σ =>
  condK t15 (
  k (.val (Go.Value.int Go.IntKind.i64 0)) σ
  ) (
  stepK (pureR σ (aSlice 1 t0 (some t1) none none)) fun t18 σ =>
  Ev Go.Proofs.Tryz.prog 128 [t18, (.fn (.func 129) [t5])] σ (fun t20 σ =>
  stepK (pureR σ (aBin .lss .prim t20 (.val (Go.Value.int Go.IntKind.i64 0)))) fun t22 σ =>
  condK t22 (
  stepK (pureR σ (aLenK .slice t0 σ)) fun t24 σ =>
  stepK (pureR σ (aBin .sub .prim t24 t1)) fun t26 σ =>
  k t26 σ
  ) (
  k t20 σ
  )
  ) kp)) σ) σ) σ) σ
def keep121 : List (Nat × List Nat) := [(0, [0, 1, 5]), (1, [0, 1, 5, 15]), (2, [6]), (3, [0, 1, 7]), (4, [0, 1, 7, 22]), (5, [6]), (6, [6])]
noncomputable def body121 : Code := (Go.Proofs.Tryz.f121).body.getD .skip
theorem F121_eq (t0 t1 t2 : AV) (σ : AHeap) (k kp : AV → AHeap → Prop) : aw Go.Proofs.Tryz.prog (keepOf keep121) body121 (retK Go.Proofs.Tryz.prog (Go.Proofs.Tryz.f121).results.toList k kp) (frameOf 0 [t0, t1, t2]) σ = F121 t0 t1 t2 σ k kp := by kernel_rfl
theorem F121_ev {t0 t1 t2 : AV} {σ : AHeap} {k kp : AV → AHeap → Prop} (h : F121 t0 t1 t2 σ k kp) : Ev Go.Proofs.Tryz.prog 121 [t0, t1, t2] σ k kp :=
  Ev_of_aw mixed Go.Proofs.Tryz.func121 (show (Go.Proofs.Tryz.f121).body = some body121 by kernel_rfl) (by kernel_rfl) (args := [t0, t1, t2]) (of_decide_eq_true (by kernel_rfl)) (keepOf keep121) (by kernel_rfl) (by rw [F121_eq]; exact h)

/-- slices.IndexFunc[[]string,string] -/
def F126 (t0 t1 : AV) (σ : AHeap) (k kp : AV → AHeap → Prop) : Prop :=
  seqW (fun fr σ => (
  k (.val (Go.Value.int Go.IntKind.i64 (-1))) σ
  )) (fun j1 => (
  stepK (pureR σ (aLenK .slice t0 σ)) fun t7 σ =>
  loopW (fun fr σ again => (
  stepK (pureR σ (aBin .lss .prim (Abs.look fr 8) (Abs.look fr 7))) fun t9 σ =>
  condK t9 (
  stepK (pureR σ (aIndexAddr 1 (Abs.look fr 0) (Abs.look fr 8) σ)) fun t14 σ =>
  stepK (pureR σ (aLoad false 1 t14 σ)) fun t15 σ =>
  callK Go.Proofs.Tryz.prog (Abs.look fr 1) [t15] σ (fun t16 σ =>
  condK t16 (
  k (Abs.look fr 8) σ
  ) (
  stepK (pureR σ (aBin .add .prim (Abs.look fr 8) (.val (Go.Value.int Go.IntKind.i64 1)))) fun t18 σ =>
  again [(0, (Abs.look fr 0)), (1, (Abs.look fr 1)), (7, (Abs.look fr 7)), (8, t18)] σ
  )
  ) kp) (
  j1 [(0, (Abs.look fr 0))] σ
  )
  )) [(0, t0), (1, t1), (7, t7), (8, (.val (Go.Value.int Go.IntKind.i64 0)))] σ
  ))
def keep126 : List (Nat × List Nat) := [(0, [0, 1]), (3008, [0]), (1, [0, 1, 7, 8]), (2, [0, 1, 7, 8, 9]), (3, [0, 1, 5, 7, 8]), (4, [0, 1, 5, 7, 8, 16]), (5, [4]), (6, [0, 1, 7, 8]), (1002, [0, 1, 7, 8]), (7, [4])]
noncomputable def body126 : Code := (Go.Proofs.Tryz.f126).body.getD .skip
theorem F126_eq (t0 t1 : AV) (σ : AHeap) (k kp : AV → AHeap → Prop) : aw Go.Proofs.Tryz.prog (keepOf keep126) body126 (retK Go.Proofs.Tryz.prog (Go.Proofs.Tryz.f126).results.toList k kp) (frameOf 0 [t0, t1]) σ = F126 t0 t1 σ k kp := by kernel_rfl
theorem F126_ev {t0 t1 : AV} {σ : AHeap} {k kp : AV → AHeap → Prop} (h : F126 t0 t1 σ k kp) : Ev Go.Proofs.Tryz.prog 126 [t0, t1] σ k kp :=
  Ev_of_aw mixed Go.Proofs.Tryz.func126 (show (Go.Proofs.Tryz.f126).body = some body126 by kernel_rfl) (by kernel_rfl) (args := [t0, t1]) (of_decide_eq_true (by kernel_rfl)) (keepOf keep126) (by kernel_rfl) (by rw [F126_eq]; exact h)

/-- strings.IndexByte -/
def F127 (t0 t1 : AV) (σ : AHeap) (k kp : AV → AHeap → Prop) : Prop :=
  Ev Go.Proofs.Tryz.prog 132 [t0, t1] σ (fun t7 σ =>
  k t7 σ) kp
def keep127 : List (Nat × List Nat) := [(0, [0, 1]), (1, [4])]
noncomputable def body127 : Code := (Go.Proofs.Tryz.f127).body.getD .skip
theorem F127_eq (t0 t1 : AV) (σ : AHeap) (k kp : AV → AHeap → Prop) : aw Go.Proofs.Tryz.prog (keepOf keep127) body127 (retK Go.Proofs.Tryz.prog (Go.Proofs.Tryz.f127).results.toList k kp) (frameOf 0 [t0, t1]) σ = F127 t0 t1 σ k kp := by kernel_rfl
theorem F127_ev {t0 t1 : AV} {σ : AHeap} {k kp : AV → AHeap → Prop} (h : F127 t0 t1 σ k kp) : Ev Go.Proofs.Tryz.prog 127 [t0, t1] σ k kp :=
  Ev_of_aw mixed Go.Proofs.Tryz.func127 (show (Go.Proofs.Tryz.f127).body = some body127 by kernel_rfl) (by kernel_rfl) (args := [t0, t1]) (of_decide_eq_true (by kernel_rfl)) (keepOf keep127) (by kernel_rfl) (by rw [F127_eq]; exact h)

/-- slices.IndexFunc[[]byte,byte] -/
def F128 (t0 t1 : AV) (σ : AHeap) (k kp : AV → AHeap → Prop) : Prop :=
  seqW (fun fr σ => (
  k (.val (Go.Value.int Go.IntKind.i64 (-1))) σ
  )) (fun j1 => (
  stepK (pureR σ (aLenK .slice t0 σ)) fun t7 σ =>
  loopW (fun fr σ again => (
  stepK (pureR σ (aBin .lss .prim (Abs.look fr 8) (Abs.look fr 7))) fun t9 σ =>
  condK t9 (
  stepK (pureR σ (aIndexAddr 1 (Abs.look fr 0) (Abs.look fr 8) σ)) fun t14 σ =>
  stepK (pureR σ (aLoad false 1 t14 σ)) fun t15 σ =>
  callK Go.Proofs.Tryz.prog (Abs.look fr 1) [t15] σ (fun t16 σ =>
  condK t16 (
  k (Abs.look fr 8) σ
  ) (
  stepK (pureR σ (aBin .add .prim (Abs.look fr 8) (.val (Go.Value.int Go.IntKind.i64 1)))) fun t18 σ =>
  again [(0, (Abs.look fr 0)), (1, (Abs.look fr 1)), (7, (Abs.look fr 7)), (8, t18)] σ
  )
  ) kp) (
  j1 [(0, (Abs.look fr 0))] σ
  )
  )) [(0, t0), (1, t1), (7, t7), (8, (.val (Go.Value.int Go.IntKind.i64 0)))] σ
  ))
def keep128 : List (Nat × List Nat) := [(0, [0, 1]), (3008, [0]), (1, [0, 1, 7, 8]), (2, [0, 1, 7, 8, 9]), (3, [0, 1, 5, 7, 8]), (4, [0, 1, 5, 7, 8, 16]), (5, [4]), (6, [0, 1, 7, 8]), (1002, [0, 1, 7, 8]), (7, [4])]
noncomputable def body128 : Code := (Go.Proofs.Tryz.f128).body.getD .skip
theorem F128_eq (t0 t1 : AV) (σ : AHeap) (k kp : AV → AHeap → Prop) : aw Go.Proofs.Tryz.prog (keepOf keep128) body128 (retK Go.Proofs.Tryz.prog (Go.Proofs.Tryz.f128).results.toList k kp) (frameOf 0 [t0, t1]) σ = F128 t0 t1 σ k kp := by kernel_rfl
theorem F128_ev {t0 t1 : AV} {σ : AHeap} {k kp : AV → AHeap → Prop} (h : F128 t0 t1 σ k kp) : Ev Go.Proofs.Tryz.prog 128 [t0, t1] σ k kp :=
  Ev_of_aw mixed Go.Proofs.Tryz.func128 (show (Go.Proofs.Tryz.f128).body = some body128 by kernel_rfl) (by kernel_rfl) (args := [t0, t1]) (of_decide_eq_true (by kernel_rfl)) (keepOf keep128) (by kernel_rfl) (by rw [F128_eq]; exact h)

/-- enclave/chars.Span$1 -/
def F129 (t0 t1 : AV) (σ : AHeap) (k kp : AV → AHeap → Prop) : Prop :=
  stepK (pureR σ (aLoad false 1 t1 σ)) fun t4 σ =>
  Ev Go.Proofs.Tryz.prog 120 [t0] σ (fun t6 σ =>
  (stepK (pureR σ (aLoad false 1 t1 σ)) (fun y θ => y = t4 ∧ θ = σ)) ∧ (
  Ev Go.Proofs.Tryz.prog 130 [t4, t6] σ (fun t7 σ =>
  stepK (pureR σ (aNot t7)) fun t8 σ =>
  k t8 σ) kp)) kp
def keep129 : List (Nat × List Nat) := [(0, [0, 1]), (1, [3]), (2001, [0, 1, 2, 3, 4, 5]), (101002, [0])]
noncomputable def body129 : Code := (Go.Proofs.Tryz.f129).body.getD .skip
theorem F129_eq (t0 t1 : AV) (σ : AHeap) (k kp : AV → AHeap → Prop) : aw Go.Proofs.Tryz.prog (keepOf keep129) body129 (retK Go.Proofs.Tryz.prog (Go.Proofs.Tryz.f129).results.toList k kp) (frameOf 0 [t0, t1]) σ = F129 t0 t1 σ k kp := by kernel_rfl
theorem F129_ev {t0 t1 : AV} {σ : AHeap} {k kp : AV → AHeap → Prop} (h : F129 t0 t1 σ k kp) : Ev Go.Proofs.Tryz.prog 129 [t0, t1] σ k kp :=
  Ev_of_aw mixed Go.Proofs.Tryz.func129 (show (Go.Proofs.Tryz.f129).body = some body129 by kernel_rfl) (by kernel_rfl) (args := [t0, t1]) (of_decide_eq_true (by kernel_rfl)) (keepOf keep129) (by kernel_rfl) (by rw [F129_eq]; exact h)

/-- slices.Contains[[]uint8,uint8] -/
def F130 (t0 t1 : AV) (σ : AHeap) (k kp : AV → AHeap → Prop) : Prop :=
  Ev Go.Proofs.Tryz.prog 133 [t0, t1] σ (fun t7 σ =>
  stepK (pureR σ (aBin .geq .prim t7 (.val (Go.Value.int Go.IntKind.i64 0)))) fun t8 σ =>
  k t8 σ) kp
def keep130 : List (Nat × List Nat) := [(0, [0, 1]), (1, [4])]
noncomputable def body130 : Code := (Go.Proofs.Tryz.f130).body.getD .skip
theorem F130_eq (t0 t1 : AV) (σ : AHeap) (k kp : AV → AHeap → Prop) : aw Go.Proofs.Tryz.prog (keepOf keep130) body130 (retK Go.Proofs.Tryz.prog (Go.Proofs.Tryz.f130).results.toList k kp) (frameOf 0 [t0, t1]) σ = F130 t0 t1 σ k kp := by kernel_rfl
theorem F130_ev {t0 t1 : AV} {σ : AHeap} {k kp : AV → AHeap → Prop} (h : F130 t0 t1 σ k kp) : Ev Go.Proofs.Tryz.prog 130 [t0, t1] σ k kp :=
  Ev_of_aw mixed Go.Proofs.Tryz.func130 (show (Go.Proofs.Tryz.f130).body = some body130 by kernel_rfl) (by kernel_rfl) (args := [t0, t1]) (of_decide_eq_true (by kernel_rfl)) (keepOf keep130) (by kernel_rfl) (by rw [F130_eq]; exact h)

/-- internal/stringslite.IndexByte -/
def F132 (t0 t1 : AV) (σ : AHeap) (k kp : AV → AHeap → Prop) : Prop :=
  Ev Go.Proofs.Tryz.prog 134 [t0, t1] σ (fun t7 σ =>
  k t7 σ) kp
def keep132 : List (Nat × List Nat) := [(0, [0, 1]), (1, [4])]
noncomputable def body132 : Code := (Go.Proofs.Tryz.f132).body.getD .skip
theorem F132_eq (t0 t1 : AV) (σ : AHeap) (k kp : AV → AHeap → Prop) : aw Go.Proofs.Tryz.prog (keepOf keep132) body132 (retK Go.Proofs.Tryz.prog (Go.Proofs.Tryz.f132).results.toList k kp) (frameOf 0 [t0, t1]) σ = F132 t0 t1 σ k kp := by kernel_rfl
theorem F132_ev {t0 t1 : AV} {σ : AHeap} {k kp : AV → AHeap → Prop} (h : F132 t0 t1 σ k kp) : Ev Go.Proofs.Tryz.prog 132 [t0, t1] σ k kp :=
  Ev_of_aw mixed Go.Proofs.Tryz.func132 (show (Go.Proofs.Tryz.f132).body = some body132 by kernel_rfl) (by kernel_rfl) (args := [t0, t1]) (of_decide_eq_true (by kernel_rfl)) (keepOf keep132) (by kernel_rfl) (by rw [F132_eq]; exact h)

/-- slices.Index[[]uint8,uint8] -/
def F133 (t0 t1 : AV) (σ : AHeap) (k kp : AV → AHeap → Prop) : Prop :=
  seqW (fun fr σ => (
  k (.val (Go.Value.int Go.IntKind.i64 (-1))) σ
  )) (fun j1 => (
  stepK (pureR σ (aLenK .slice t0 σ)) fun t7 σ =>
  loopW (fun fr σ again => (
  stepK (pureR σ (aBin .lss .prim (Abs.look fr 8) (Abs.look fr 7))) fun t9 σ =>
  condK t9 (
  stepK (pureR σ (aIndexAddr 1 (Abs.look fr 0) (Abs.look fr 8) σ)) fun t14 σ =>
  stepK (pureR σ (aLoad false 1 t14 σ)) fun t15 σ =>
  stepK (pureR σ (aBin .eql .prim (Abs.look fr 1) t15)) fun t16 σ =>
  condK t16 (
  k (Abs.look fr 8) σ
  ) (
  stepK (pureR σ (aBin .add .prim (Abs.look fr 8) (.val (Go.Value.int Go.IntKind.i64 1)))) fun t18 σ =>
  again [(0, (Abs.look fr 0)), (1, (Abs.look fr 1)), (7, (Abs.look fr 7)), (8, t18)] σ
  )
  ) (
  j1 [(0, (Abs.look fr 0))] σ
  )
  )) [(0, t0), (1, t1), (7, t7), (8, (.val (Go.Value.int Go.IntKind.i64 0)))] σ
  ))
def keep133 : List (Nat × List Nat) := [(0, [0, 1]), (3008, [0]), (1, [0, 1, 7, 8]), (2, [0, 1, 7, 8, 9]), (3, [0, 1, 5, 7, 8]), (4, [0, 1, 5, 7, 8, 16]), (5, [4]), (6, [0, 1, 7, 8]), (1002, [0, 1, 7, 8]), (7, [4])]
noncomputable def body133 : Code := (Go.Proofs.Tryz.f133).body.getD .skip
theorem F133_eq (t0 t1 : AV) (σ : AHeap) (k kp : AV → AHeap → Prop) : aw Go.Proofs.Tryz.prog (keepOf keep133) body133 (retK Go.Proofs.Tryz.prog (Go.Proofs.Tryz.f133).results.toList k kp) (frameOf 0 [t0, t1]) σ = F133 t0 t1 σ k kp := by kernel_rfl
theorem F133_ev {t0 t1 : AV} {σ : AHeap} {k kp : AV → AHeap → Prop} (h : F133 t0 t1 σ k kp) : Ev Go.Proofs.Tryz.prog 133 [t0, t1] σ k kp :=
  Ev_of_aw mixed Go.Proofs.Tryz.func133 (show (Go.Proofs.Tryz.f133).body = some body133 by kernel_rfl) (by kernel_rfl) (args := [t0, t1]) (of_decide_eq_true (by kernel_rfl)) (keepOf keep133) (by kernel_rfl) (by rw [F133_eq]; exact h)

end Go.Proofs.BasD
