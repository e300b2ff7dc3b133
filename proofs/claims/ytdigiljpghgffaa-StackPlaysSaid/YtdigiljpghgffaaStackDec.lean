import Derived.Test.YtdigiljpghgffaaAbsL
import Derived.Test.YtdigiljpghgffaaProg
import Derived.KernelRfl
set_option maxRecDepth 100000
set_option linter.unusedVariables false
namespace Go.Proofs.StackD
open Go Go.Abs

theorem mixed : Go.Proofs.Try.prog.follows .mixedOrders = true := by kernel_rfl

/-- enclave/enclavelaw19.StackFalls -/
def F3 (t0 : AV) (σ : AHeap) (k kp : AV → AHeap → Prop) : Prop :=
  stepK (pureR σ (aLenK .slice t0 σ)) fun t18 σ =>
  stepK (pureR σ (aBin .gtr .prim t18 (.val (Go.Value.int Go.IntKind.i64 200)))) fun t19 σ =>
  condK t19 (
  Ev Go.Proofs.Try.prog 7 [] σ (fun t20 σ =>
  k t20 σ
  ) kp) (
  stepK (pureR σ (aBuild [.val (.int .i64 0), .val (.int .i64 0)] [(0, 1, (.val (Go.Value.int Go.IntKind.i64 300))), (1, 1, (.val (Go.Value.int Go.IntKind.i64 300)))])) fun t21 σ =>
  Ev Go.Proofs.Try.prog 8 [t21] σ (fun t22 σ =>
  stepK (aBuildSlice 1 1 [.val (.int .i64 0)] [(0, (.val (Go.Value.int Go.IntKind.i64 0)))] σ) fun t23 σ =>
  stepK (aBuildSlice 0 1 [.val (.int .i64 0)] [] σ) fun t24 σ =>
  seqW (fun fr σ => (
  Ev Go.Proofs.Try.prog 7 [] σ (fun t159 σ =>
  k t159 σ
  ) kp)) (fun j1 => (
  loopW (fun fr σ again => (
  stepK (pureR σ (aLenK .slice (Abs.look fr 0) σ)) fun t27 σ =>
  stepK (pureR σ (aBin .lss .prim (Abs.look fr 6) t27)) fun t28 σ =>
  condK t28 (
  seqW (fun fr σ => (
  stepK (pureR σ (aBin .add .prim (Abs.look fr 6) (.val (Go.Value.int Go.IntKind.i64 1)))) fun t30 σ =>
  again [(0, (Abs.look fr 0)), (3, (Abs.look fr 3)), (4, (Abs.look fr 4)), (5, (Abs.look fr 5)), (6, t30)] σ
  )) (fun j2 => (
  seqW (fun fr σ => (
  seqW (fun fr σ => (
  seqW (fun fr σ => (
  Ev Go.Proofs.Try.prog 13 [(Abs.look fr 3), (Abs.look fr 4)] σ (fun t142 σ =>
  stepK (pureR σ (aNot t142)) fun t143 σ =>
  gK t143 false (fun K => K (Abs.look fr 3) σ) (fun t145 σ =>
  gK t143 false (fun K => Ev Go.Proofs.Try.prog 14 [t145] σ K kp) (fun t146 σ =>
  gK t143 false (fun K => K (Abs.look fr 4) σ) (fun t147 σ =>
  gK t143 false (fun K => stepK (pureR σ (aLenK .slice t147 σ)) K) (fun t148 σ =>
  gK t143 false (fun K => stepK (pureR σ (aBin .neq .prim t146 t148)) K) (fun t149 σ =>
  stepK (pureR σ (aPick t143 (.val (Go.Value.bool Bool.true)) t149)) fun t150 σ =>
  gK t150 false (fun K => K (Abs.look fr 3) σ) (fun t152 σ =>
  gK t150 false (fun K => Ev Go.Proofs.Try.prog 15 [t152] σ K kp) (fun t153 σ =>
  gK t150 false (fun K => K (Abs.look fr 4) σ) (fun t154 σ =>
  gK t150 false (fun K => stepK (pureR σ (aLenK .slice t154 σ)) K) (fun t155 σ =>
  gK t150 false (fun K => stepK (pureR σ (aBin .sub .prim t155 (.val (Go.Value.int Go.IntKind.i64 1)))) K) (fun t156 σ =>
  gK t150 false (fun K => stepK (pureR σ (aBin .neq .prim t153 t156)) K) (fun t157 σ =>
  stepK (pureR σ (aPick t150 (.val (Go.Value.bool Bool.true)) t157)) fun t158 σ =>
  condK t158 (
  k (.val (Go.Value.bool Bool.false)) σ
  ) (
  j2 [(0, (Abs.look fr 0)), (3, (Abs.look fr 3)), (4, (Abs.look fr 4)), (5, (Abs.look fr 5)), (6, (Abs.look fr 6))] σ
  )
  ) σ) σ) σ) σ) σ) σ) σ) σ) σ) σ) σ) kp)) (fun j5 => (
  loopW (fun fr σ again => (
  stepK (pureR σ (aLenK .slice (Abs.look fr 4) σ)) fun t115 σ =>
  stepK (pureR σ (aBin .lss .prim (Abs.look fr 14) t115)) fun t116 σ =>
  condK t116 (
  stepK (pureR σ (aIndexAddr 1 (Abs.look fr 4) (Abs.look fr 14) σ)) fun t123 σ =>
  stepK (pureR σ (aLoad false 1 t123 σ)) fun t124 σ =>
  stepK (pureR σ (aBuild [.val (.int .u8 0), .val (.int .i64 0), .val (.int .i64 0), .val (.int .i64 0)] [(0, 1, (.val (Go.Value.int Go.IntKind.u8 2))), (2, 1, t124)])) fun t125 σ =>
  Ev Go.Proofs.Try.prog 12 [(Abs.look fr 3), t125] σ (fun t126 σ =>
  stepK (pureR σ (aExtract 0 t126)) fun t127 σ =>
  stepK (pureR σ (aExtract 1 t126)) fun t128 σ =>
  stepK (aAlloc [.val (.int .u8 0), .val (.int .u8 0), .val (.int .i64 0), .val (.int .i64 0), .val (.int .i64 0), .val (.int .u8 0), .val (.int .i64 0), .val (.int .i64 0), .val (.int .i64 0), .val (.int .i64 0)] σ) fun t15 σ =>
  stepK (unitR (aStore 10 t15 t127 σ)) fun _ σ =>
  stepK (pureR σ (aBin .neq .prim t128 (.val (Go.Value.int Go.IntKind.i64 0)))) fun t130 σ =>
  gK t130 false (fun K => stepK (pureR σ (aFieldAddr 9 t15)) K) (fun t132 σ =>
  gK t130 false (fun K => stepK (pureR σ (aLoad false 1 t132 σ)) K) (fun t133 σ =>
  gK t130 false (fun K => K (Abs.look fr 4) σ) (fun t134 σ =>
  gK t130 false (fun K => K (Abs.look fr 14) σ) (fun t135 σ =>
  gK t130 false (fun K => stepK (pureR σ (aIndexAddr 1 t134 t135 σ)) K) (fun t136 σ =>
  gK t130 false (fun K => stepK (pureR σ (aLoad false 1 t136 σ)) K) (fun t137 σ =>
  gK t130 false (fun K => stepK (pureR σ (aBin .neq .prim t133 t137)) K) (fun t138 σ =>
  stepK (pureR σ (aPick t130 (.val (Go.Value.bool Bool.true)) t138)) fun t139 σ =>
  condK t139 (
  k (.val (Go.Value.bool Bool.false)) σ
  ) (
  stepK (pureR σ (aBin .add .prim (Abs.look fr 14) (.val (Go.Value.int Go.IntKind.i64 1)))) fun t118 σ =>
  again [(0, (Abs.look fr 0)), (3, (Abs.look fr 3)), (4, (Abs.look fr 4)), (5, (Abs.look fr 5)), (6, (Abs.look fr 6)), (14, t118)] σ
  )
  ) σ) σ) σ) σ) σ) σ) σ) kp) (
  j5 [(0, (Abs.look fr 0)), (3, (Abs.look fr 3)), (4, (Abs.look fr 4)), (5, (Abs.look fr 5)), (6, (Abs.look fr 6))] σ
  )
  )) [(0, (Abs.look fr 0)), (3, (Abs.look fr 3)), (4, (Abs.look fr 4)), (5, (Abs.look fr 5)), (6, (Abs.look fr 6)), (14, (.val (Go.Value.int Go.IntKind.i64 1)))] σ
  ))
  )) (fun j4 => (
  loopW (fun fr σ again => (
  stepK (pureR σ (aLenK .slice (Abs.look fr 5) σ)) fun t88 σ =>
  stepK (pureR σ (aBin .lss .prim (Abs.look fr 11) t88)) fun t89 σ =>
  condK t89 (
  stepK (pureR σ (aIndexAddr 1 (Abs.look fr 5) (Abs.look fr 11) σ)) fun t96 σ =>
  stepK (pureR σ (aLoad false 1 t96 σ)) fun t97 σ =>
  stepK (pureR σ (aBuild [.val (.int .u8 0), .val (.int .i64 0), .val (.int .i64 0), .val (.int .i64 0)] [(0, 1, (.val (Go.Value.int Go.IntKind.u8 2))), (2, 1, t97)])) fun t98 σ =>
  Ev Go.Proofs.Try.prog 12 [(Abs.look fr 3), t98] σ (fun t99 σ =>
  stepK (pureR σ (aExtract 0 t99)) fun t100 σ =>
  stepK (pureR σ (aExtract 1 t99)) fun t101 σ =>
  stepK (aAlloc [.val (.int .u8 0), .val (.int .u8 0), .val (.int .i64 0), .val (.int .i64 0), .val (.int .i64 0), .val (.int .u8 0), .val (.int .i64 0), .val (.int .i64 0), .val (.int .i64 0), .val (.int .i64 0)] σ) fun t12 σ =>
  stepK (unitR (aStore 10 t12 t100 σ)) fun _ σ =>
  stepK (pureR σ (aIndexAddr 1 (Abs.look fr 5) (Abs.look fr 11) σ)) fun t105 σ =>
  stepK (pureR σ (aLoad false 1 t105 σ)) fun t106 σ =>
  stepK (aBuildSlice 1 1 [.val (.int .i64 0)] [(0, t106)] σ) fun t107 σ =>
  Ev Go.Proofs.Try.prog 13 [(Abs.look fr 3), t107] σ (fun t108 σ =>
  gK t108 false (fun K => K t101 σ) (fun t110 σ =>
  gK t108 false (fun K => stepK (pureR σ (aBin .neq .prim t110 (.val (Go.Value.int Go.IntKind.i64 6)))) K) (fun t111 σ =>
  stepK (pureR σ (aPick t108 (.val (Go.Value.bool Bool.true)) t111)) fun t112 σ =>
  condK t112 (
  k (.val (Go.Value.bool Bool.false)) σ
  ) (
  stepK (pureR σ (aBin .add .prim (Abs.look fr 11) (.val (Go.Value.int Go.IntKind.i64 1)))) fun t91 σ =>
  again [(0, (Abs.look fr 0)), (3, (Abs.look fr 3)), (4, (Abs.look fr 4)), (5, (Abs.look fr 5)), (6, (Abs.look fr 6)), (11, t91)] σ
  )
  ) σ) σ) kp) kp) (
  j4 [(0, (Abs.look fr 0)), (3, (Abs.look fr 3)), (4, (Abs.look fr 4)), (5, (Abs.look fr 5)), (6, (Abs.look fr 6))] σ
  )
  )) [(0, (Abs.look fr 0)), (3, (Abs.look fr 3)), (4, (Abs.look fr 4)), (5, (Abs.look fr 5)), (6, (Abs.look fr 6)), (11, (.val (Go.Value.int Go.IntKind.i64 0)))] σ
  ))
  )) (fun j3 => (
  stepK (pureR σ (aIndexAddr 1 (Abs.look fr 0) (Abs.look fr 6) σ)) fun t33 σ =>
  stepK (pureR σ (aLoad false 1 t33 σ)) fun t34 σ =>
  condK t34 (
  Ev Go.Proofs.Try.prog 9 [(Abs.look fr 3)] σ (fun t37 σ =>
  stepK (pureR σ (aExtract 0 t37)) fun t38 σ =>
  stepK (pureR σ (aExtract 1 t37)) fun t39 σ =>
  stepK (pureR σ (aBuild [.val (.int .u8 0), .val (.int .u8 0), .val (.int .i64 0), .val (.int .i64 0), .val (.int .i64 0), .val (.int .u8 0), .val (.int .i64 0), .val (.int .i64 0), .val (.int .i64 0), .val (.int .i64 0)] [(0, 1, (.val (Go.Value.int Go.IntKind.u8 3))), (9, 1, t38)])) fun t44 σ =>
  Ev Go.Proofs.Try.prog 10 [(Abs.look fr 3), t38, t44] σ (fun t45 σ =>
  stepK (pureR σ (aExtract 0 t45)) fun t46 σ =>
  stepK (pureR σ (aExtract 1 t45)) fun t47 σ =>
  stepK (aAlloc [.val (.int .u8 0), .val (.int .i64 0), .val (.int .i64 0), .val (.int .i64 0)] σ) fun t9 σ =>
  stepK (unitR (aStore 4 t9 t46 σ)) fun _ σ =>
  stepK (pureR σ (aNot t39)) fun t49 σ =>
  gK t49 false (fun K => K t47 σ) (fun t51 σ =>
  gK t49 false (fun K => stepK (pureR σ (aBin .neq .prim t51 (.val (Go.Value.int Go.IntKind.i64 0)))) K) (fun t52 σ =>
  stepK (pureR σ (aPick t49 (.val (Go.Value.bool Bool.true)) t52)) fun t53 σ =>
  gK t53 false (fun K => stepK (pureR σ (aFieldAddr 3 t9)) K) (fun t55 σ =>
  gK t53 false (fun K => stepK (pureR σ (aLoad false 1 t55 σ)) K) (fun t56 σ =>
  gK t53 false (fun K => stepK (pureR σ (aBin .neq .prim t56 (.val (Go.Value.int Go.IntKind.i64 0)))) K) (fun t57 σ =>
  stepK (pureR σ (aPick t53 (.val (Go.Value.bool Bool.true)) t57)) fun t58 σ =>
  condK t58 (
  k (.val (Go.Value.bool Bool.false)) σ
  ) (
  stepK (aBuildSlice 1 1 [.val (.int .i64 0)] [(0, t38)] σ) fun t61 σ =>
  stepK (aAppend 1 8 (Abs.look fr 4) t61 σ) fun t62 σ =>
  j3 [(0, (Abs.look fr 0)), (3, (Abs.look fr 3)), (4, t62), (5, (Abs.look fr 5)), (6, (Abs.look fr 6))] σ
  )
  ) σ) σ) σ) σ) σ) kp) kp) (
  Ev Go.Proofs.Try.prog 11 [(Abs.look fr 3)] σ (fun t64 σ =>
  stepK (pureR σ (aLenK .slice (Abs.look fr 4) σ)) fun t66 σ =>
  stepK (pureR σ (aBin .gtr .prim t66 (.val (Go.Value.int Go.IntKind.i64 1)))) fun t67 σ =>
  stepK (pureR σ (aBin .neq .bool t64 t67)) fun t68 σ =>
  condK t68 (
  k (.val (Go.Value.bool Bool.false)) σ
  ) (
  stepK (pureR σ (aLenK .slice (Abs.look fr 4) σ)) fun t70 σ =>
  stepK (pureR σ (aBin .gtr .prim t70 (.val (Go.Value.int Go.IntKind.i64 1)))) fun t71 σ =>
  condK t71 (
  stepK (pureR σ (aLenK .slice (Abs.look fr 4) σ)) fun t75 σ =>
  stepK (pureR σ (aBin .sub .prim t75 (.val (Go.Value.int Go.IntKind.i64 1)))) fun t76 σ =>
  stepK (pureR σ (aIndexAddr 1 (Abs.look fr 4) t76 σ)) fun t77 σ =>
  stepK (pureR σ (aLoad false 1 t77 σ)) fun t78 σ =>
  stepK (aBuildSlice 1 1 [.val (.int .i64 0)] [(0, t78)] σ) fun t79 σ =>
  stepK (aAppend 1 8 (Abs.look fr 5) t79 σ) fun t80 σ =>
  stepK (pureR σ (aLenK .slice (Abs.look fr 4) σ)) fun t83 σ =>
  stepK (pureR σ (aBin .sub .prim t83 (.val (Go.Value.int Go.IntKind.i64 1)))) fun t84 σ =>
  stepK (pureR σ (aSlice 1 (Abs.look fr 4) none (some t84) none)) fun t85 σ =>
  j3 [(0, (Abs.look fr 0)), (3, (Abs.look fr 3)), (4, t85), (5, t80), (6, (Abs.look fr 6))] σ
  ) (
  j3 [(0, (Abs.look fr 0)), (3, (Abs.look fr 3)), (4, (Abs.look fr 4)), (5, (Abs.look fr 5)), (6, (Abs.look fr 6))] σ
  )
  )
  ) kp)
  ))
  ))
  ) (
  j1 [(0, (Abs.look fr 0))] σ
  )
  )) [(0, t0), (3, t22), (4, t23), (5, t24), (6, (.val (Go.Value.int Go.IntKind.i64 0)))] σ
  ))
  ) kp)
def keep3 : List (Nat × List Nat) := [(0, [0]), (1, [0, 19]), (2, [2]), (3, [0, 3]), (4, [0, 3, 4]), (5, [0, 3, 4, 5]), (3035, [0]), (6, [0, 3, 4, 5, 6]), (7, [0, 3, 4, 5, 6, 28]), (3009, [0, 3, 4, 5, 6]), (3021, [0, 3, 4, 5, 6]), (9, [0, 3, 4, 5, 6, 34]), (10, [0, 3, 4, 5, 6, 7, 8]), (11, [0, 3, 4, 5, 6, 7, 8, 9, 10]), (12, [0, 3, 4, 5, 6, 7, 58]), (13, [2]), (14, [0, 3, 4, 5, 6]), (15, [0, 3, 4, 5, 6, 68]), (16, [2]), (17, [0, 3, 4, 5, 6, 71]), (18, [0, 3, 4, 5, 6]), (19, [0, 3, 4, 5, 6]), (3027, [0, 3, 4, 5, 6]), (20, [0, 3, 4, 5, 6, 11]), (21, [0, 3, 4, 5, 6, 11, 89]), (23, [0, 3, 4, 5, 6, 11, 13]), (24, [0, 3, 4, 5, 6, 11, 112]), (25, [2]), (22, [0, 3, 4, 5, 6, 11]), (1021, [0, 3, 4, 5, 6, 11]), (3033, [0, 3, 4, 5, 6]), (26, [0, 3, 4, 5, 6, 14]), (27, [0, 3, 4, 5, 6, 14, 116]), (29, [0, 3, 4, 5, 6, 14, 15, 16]), (30, [0, 3, 4, 5, 6, 14, 139]), (2030, [0, 1, 2, 3, 4, 5, 6, 7, 8, 9, 10]), (31, [2]), (28, [0, 3, 4, 5, 6, 14]), (1027, [0, 3, 4, 5, 6, 14]), (32, [0, 3, 4, 5, 6, 158]), (33, [2]), (8, [0, 3, 4, 5, 6]), (1007, [0, 3, 4, 5, 6]), (34, [2])]
noncomputable def body3 : Code := (Go.Proofs.Try.f3).body.getD .skip
theorem F3_eq (t0 : AV) (σ : AHeap) (k kp : AV → AHeap → Prop) : aw Go.Proofs.Try.prog (keepOf keep3) body3 (retK Go.Proofs.Try.prog (Go.Proofs.Try.f3).results.toList k kp) (frameOf 0 [t0]) σ = F3 t0 σ k kp := by kernel_rfl
theorem F3_ev {t0 : AV} {σ : AHeap} {k kp : AV → AHeap → Prop} (h : F3 t0 σ k kp) : Ev Go.Proofs.Try.prog 3 [t0] σ k kp :=
  Ev_of_aw mixed Go.Proofs.Try.func3 (show (Go.Proofs.Try.f3).body = some body3 by kernel_rfl) (by kernel_rfl) (args := [t0]) (of_decide_eq_true (by kernel_rfl)) (keepOf keep3) (by kernel_rfl) (by rw [F3_eq]; exact h)

/-- enclave/enclavelaw19.StackRoom -/
def F4 (t0 t1 : AV) (σ : AHeap) (k kp : AV → AHeap → Prop) : Prop :=
  stepK (aBox t0 σ) fun t2 σ =>
  stepK (pureR σ (aLenK .slice t1 σ)) fun t9 σ =>
  stepK (pureR σ (aBin .gtr .prim t9 (.val (Go.Value.int Go.IntKind.i64 200)))) fun t10 σ =>
  condK t10 (
  Ev Go.Proofs.Try.prog 7 [] σ (fun t11 σ =>
  k t11 σ
  ) kp) (
  stepK (pureR σ (aLoad true 2 t2 σ)) fun t12 σ =>
  Ev Go.Proofs.Try.prog 8 [t12] σ (fun t13 σ =>
  seqW (fun fr σ => (
  Ev Go.Proofs.Try.prog 7 [] σ (fun t94 σ =>
  k t94 σ
  ) kp)) (fun j1 => (
  loopW (fun fr σ again => (
  stepK (pureR σ (aLenK .slice (Abs.look fr 1) σ)) fun t16 σ =>
  stepK (pureR σ (aBin .lss .prim (Abs.look fr 7) t16)) fun t17 σ =>
  condK t17 (
  seqW (fun fr σ => (
  seqW (fun fr σ => (
  seqW (fun fr σ => (
  Ev Go.Proofs.Try.prog 15 [(Abs.look fr 5)] σ (fun t56 σ =>
  stepK (pureR σ (aMax (Abs.look fr 6) t56)) fun t57 σ =>
  Ev Go.Proofs.Try.prog 14 [(Abs.look fr 5)] σ (fun t59 σ =>
  stepK (pureR σ (aBin .lss .prim t59 (.val (Go.Value.int Go.IntKind.i64 1)))) fun t60 σ =>
  gK t60 false (fun K => K (Abs.look fr 5) σ) (fun t62 σ =>
  gK t60 false (fun K => stepK (pureR σ (aFieldAddr 0 (Abs.look fr 2))) K) (fun t64 σ =>
  gK t60 false (fun K => stepK (pureR σ (aLoad false 1 t64 σ)) K) (fun t65 σ =>
  gK t60 false (fun K => stepK (pureR σ (aMax (.val (Go.Value.int Go.IntKind.i64 1)) t65)) K) (fun t66 σ =>
  gK t60 false (fun K => Ev Go.Proofs.Try.prog 14 [t62] σ K kp) (fun t63 σ =>
  (gK t60 false (fun K => stepK (pureR σ (aLoad false 1 t64 σ)) K) (fun y θ => y = t65 ∧ θ = σ) σ) ∧ (
  gK t60 false (fun K => stepK (pureR σ (aBin .gtr .prim t63 t66)) K) (fun t67 σ =>
  stepK (pureR σ (aPick t60 (.val (Go.Value.bool Bool.true)) t67)) fun t68 σ =>
  gK t68 false (fun K => K (Abs.look fr 5) σ) (fun t70 σ =>
  gK t68 false (fun K => Ev Go.Proofs.Try.prog 15 [t70] σ K kp) (fun t71 σ =>
  gK t68 false (fun K => stepK (pureR σ (aBin .lss .prim t71 (.val (Go.Value.int Go.IntKind.i64 0)))) K) (fun t72 σ =>
  stepK (pureR σ (aPick t68 (.val (Go.Value.bool Bool.true)) t72)) fun t73 σ =>
  gK t73 false (fun K => K (Abs.look fr 5) σ) (fun t75 σ =>
  gK t73 false (fun K => stepK (pureR σ (aFieldAddr 1 (Abs.look fr 2))) K) (fun t77 σ =>
  gK t73 false (fun K => stepK (pureR σ (aLoad false 1 t77 σ)) K) (fun t78 σ =>
  gK t73 false (fun K => stepK (pureR σ (aMax (.val (Go.Value.int Go.IntKind.i64 0)) t78)) K) (fun t79 σ =>
  gK t73 false (fun K => Ev Go.Proofs.Try.prog 15 [t75] σ K kp) (fun t76 σ =>
  (gK t73 false (fun K => stepK (pureR σ (aLoad false 1 t77 σ)) K) (fun y θ => y = t78 ∧ θ = σ) σ) ∧ (
  gK t73 false (fun K => stepK (pureR σ (aBin .gtr .prim t76 t79)) K) (fun t80 σ =>
  stepK (pureR σ (aPick t73 (.val (Go.Value.bool Bool.true)) t80)) fun t81 σ =>
  gK t81 false (fun K => K (Abs.look fr 5) σ) (fun t83 σ =>
  gK t81 false (fun K => K t57 σ) (fun t85 σ =>
  gK t81 false (fun K => Ev Go.Proofs.Try.prog 16 [t83] σ K kp) (fun t84 σ =>
  gK t81 false (fun K => stepK (pureR σ (aBin .neq .prim t84 t85)) K) (fun t86 σ =>
  stepK (pureR σ (aPick t81 (.val (Go.Value.bool Bool.true)) t86)) fun t87 σ =>
  gK t87 false (fun K => K (Abs.look fr 5) σ) (fun t89 σ =>
  gK t87 false (fun K => stepK (pureR σ (aBuildSl 1 1 [.val (.int .i64 0)] [(0, (.val (Go.Value.int Go.IntKind.i64 0)))])) K) (fun t90 σ =>
  gK t87 false (fun K => Ev Go.Proofs.Try.prog 13 [t89, t90] σ K kp) (fun t91 σ =>
  gK t87 false (fun K => stepK (pureR σ (aNot t91)) K) (fun t92 σ =>
  stepK (pureR σ (aPick t87 (.val (Go.Value.bool Bool.true)) t92)) fun t93 σ =>
  condK t93 (
  k (.val (Go.Value.bool Bool.false)) σ
  ) (
  stepK (pureR σ (aBin .add .prim (Abs.look fr 7) (.val (Go.Value.int Go.IntKind.i64 1)))) fun t19 σ =>
  again [(1, (Abs.look fr 1)), (2, (Abs.look fr 2)), (5, (Abs.look fr 5)), (6, t57), (7, t19)] σ
  )
  ) σ) σ) σ) σ) σ) σ) σ) σ) σ)) σ) σ) σ) σ) σ) σ) σ) σ) σ)) σ) σ) σ) σ) σ) kp) kp)) (fun j4 => (
  stepK (pureR σ (aIndexAddr 16 (Abs.look fr 1) (Abs.look fr 7) σ)) fun t38 σ =>
  stepK (pureR σ (aFieldAddr 0 t38)) fun t39 σ =>
  stepK (pureR σ (aLoad false 1 t39 σ)) fun t40 σ =>
  stepK (pureR σ (aBin .gtr .prim t40 (.val (Go.Value.int Go.IntKind.i64 1)))) fun t41 σ =>
  condK t41 (
  stepK (pureR σ (aIndexAddr 16 (Abs.look fr 1) (Abs.look fr 7) σ)) fun t45 σ =>
  stepK (pureR σ (aFieldAddr 1 t45)) fun t46 σ =>
  stepK (pureR σ (aLoad false 1 t46 σ)) fun t47 σ =>
  stepK (pureR σ (aIndexAddr 16 (Abs.look fr 1) (Abs.look fr 7) σ)) fun t50 σ =>
  stepK (pureR σ (aFieldAddr 6 t50)) fun t51 σ =>
  stepK (pureR σ (aLoad true 10 t51 σ)) fun t52 σ =>
  Ev Go.Proofs.Try.prog 10 [(Abs.look fr 5), t47, t52] σ (fun t53 σ =>
  j4 [(1, (Abs.look fr 1)), (2, (Abs.look fr 2)), (5, (Abs.look fr 5)), (6, (Abs.look fr 6)), (7, (Abs.look fr 7))] σ
  ) kp) (
  j4 [(1, (Abs.look fr 1)), (2, (Abs.look fr 2)), (5, (Abs.look fr 5)), (6, (Abs.look fr 6)), (7, (Abs.look fr 7))] σ
  )
  ))
  )) (fun j3 => (
  stepK (pureR σ (aIndexAddr 16 (Abs.look fr 1) (Abs.look fr 7) σ)) fun t30 σ =>
  stepK (pureR σ (aFieldAddr 0 t30)) fun t31 σ =>
  stepK (pureR σ (aLoad false 1 t31 σ)) fun t32 σ =>
  stepK (pureR σ (aBin .eql .prim t32 (.val (Go.Value.int Go.IntKind.i64 1)))) fun t33 σ =>
  condK t33 (
  Ev Go.Proofs.Try.prog 11 [(Abs.look fr 5)] σ (fun t35 σ =>
  j3 [(1, (Abs.look fr 1)), (2, (Abs.look fr 2)), (5, (Abs.look fr 5)), (6, (Abs.look fr 6)), (7, (Abs.look fr 7))] σ
  ) kp) (
  j3 [(1, (Abs.look fr 1)), (2, (Abs.look fr 2)), (5, (Abs.look fr 5)), (6, (Abs.look fr 6)), (7, (Abs.look fr 7))] σ
  )
  ))
  )) (fun j2 => (
  stepK (pureR σ (aIndexAddr 16 (Abs.look fr 1) (Abs.look fr 7) σ)) fun t22 σ =>
  stepK (pureR σ (aFieldAddr 0 t22)) fun t23 σ =>
  stepK (pureR σ (aLoad false 1 t23 σ)) fun t24 σ =>
  stepK (pureR σ (aBin .eql .prim t24 (.val (Go.Value.int Go.IntKind.i64 0)))) fun t25 σ =>
  condK t25 (
  Ev Go.Proofs.Try.prog 9 [(Abs.look fr 5)] σ (fun t27 σ =>
  j2 [(1, (Abs.look fr 1)), (2, (Abs.look fr 2)), (5, (Abs.look fr 5)), (6, (Abs.look fr 6)), (7, (Abs.look fr 7))] σ
  ) kp) (
  j2 [(1, (Abs.look fr 1)), (2, (Abs.look fr 2)), (5, (Abs.look fr 5)), (6, (Abs.look fr 6)), (7, (Abs.look fr 7))] σ
  )
  ))
  ) (
  j1 [(0, .any)] σ
  )
  )) [(1, t1), (2, t2), (5, t13), (6, (.val (Go.Value.int Go.IntKind.i64 0))), (7, (.val (Go.Value.int Go.IntKind.i64 0)))] σ
  ))
  ) kp)
def keep4 : List (Nat × List Nat) := [(0, [1, 2]), (1, [1, 2, 10]), (2, [4]), (3, [1, 2, 5]), (4, [1, 2, 5, 6]), (3018, [0]), (5, [1, 2, 5, 6, 7]), (6, [1, 2, 5, 6, 7, 17]), (3011, [1, 2, 5, 6, 7]), (8, [1, 2, 5, 6, 7, 25]), (9, [1, 2, 5, 6, 7]), (3013, [1, 2, 5, 6, 7]), (10, [1, 2, 5, 6, 7, 33]), (11, [1, 2, 5, 6, 7]), (3015, [1, 2, 5, 6, 7]), (12, [1, 2, 5, 6, 7, 41]), (13, [1, 2, 5, 6, 7]), (2013, [0, 1, 2, 3, 4, 5, 6, 7, 8, 9, 10, 11]), (14, [1, 2, 5, 6, 7]), (15, [1, 2, 5, 6, 7, 93]), (2015, [0, 1, 2, 3, 4, 6, 7, 8, 5, 9, 10, 11, 12, 13, 14, 15, 16, 17, 19, 20, 21, 18, 22, 23, 24, 25, 27, 26, 28, 29, 30, 31, 32, 33, 34, 35]), (115005, [7]), (115018, [20]), (16, [4]), (7, [1, 2, 5, 6, 7]), (1006, [1, 2, 5, 6, 7]), (17, [4])]
noncomputable def body4 : Code := (Go.Proofs.Try.f4).body.getD .skip
theorem F4_eq (t0 t1 : AV) (σ : AHeap) (k kp : AV → AHeap → Prop) : aw Go.Proofs.Try.prog (keepOf keep4) body4 (retK Go.Proofs.Try.prog (Go.Proofs.Try.f4).results.toList k kp) (frameOf 0 [t0, t1]) σ = F4 t0 t1 σ k kp := by kernel_rfl
theorem F4_ev {t0 t1 : AV} {σ : AHeap} {k kp : AV → AHeap → Prop} (h : F4 t0 t1 σ k kp) : Ev Go.Proofs.Try.prog 4 [t0, t1] σ k kp :=
  Ev_of_aw mixed Go.Proofs.Try.func4 (show (Go.Proofs.Try.f4).body = some body4 by kernel_rfl) (by kernel_rfl) (args := [t0, t1]) (of_decide_eq_true (by kernel_rfl)) (keepOf keep4) (by kernel_rfl) (by rw [F4_eq]; exact h)

/-- enclave/enclavelaw19.StackPlays -/
def F5 (t0 t1 : AV) (σ : AHeap) (k kp : AV → AHeap → Prop) : Prop :=
  stepK (aBox t0 σ) fun t2 σ =>
  stepK (pureR σ (aLenK .slice t1 σ)) fun t31 σ =>
  stepK (pureR σ (aBin .gtr .prim t31 (.val (Go.Value.int Go.IntKind.i64 200)))) fun t32 σ =>
  condK t32 (
  Ev Go.Proofs.Try.prog 7 [] σ (fun t33 σ =>
  k t33 σ
  ) kp) (
  seqW (fun fr σ => (
  seqW (fun fr σ => (
  Ev Go.Proofs.Try.prog 7 [] σ (fun t208 σ =>
  k t208 σ
  ) kp)) (fun j2 => (
  loopW (fun fr σ again => (
  stepK (pureR σ (aLenK .slice (Abs.look fr 1) σ)) fun t40 σ =>
  stepK (pureR σ (aBin .lss .prim (Abs.look fr 7) t40)) fun t41 σ =>
  condK t41 (
  stepK (pureR σ (aIndexAddr 16 (Abs.look fr 1) (Abs.look fr 7) σ)) fun t46 σ =>
  stepK (pureR σ (aLoad true 16 t46 σ)) fun t47 σ =>
  stepK (aAlloc [.val (.int .i64 0), .val (.int .i64 0), .val (.int .u8 0), .val (.int .i64 0), .val (.int .i64 0), .val (.int .i64 0), .val (.int .u8 0), .val (.int .u8 0), .val (.int .i64 0), .val (.int .i64 0), .val (.int .i64 0), .val (.int .u8 0), .val (.int .i64 0), .val (.int .i64 0), .val (.int .i64 0), .val (.int .i64 0)] σ) fun t8 σ =>
  stepK (unitR (aStore 16 t8 t47 σ)) fun _ σ =>
  seqW (fun fr σ => (
  stepK (pureR σ (aLoad true 4 (Abs.look fr 6) σ)) fun t157 σ =>
  Ev Go.Proofs.Try.prog 24 [t157] σ (fun t158 σ =>
  stepK (pureR σ (aExtract 0 t158)) fun t159 σ =>
  stepK (pureR σ (aExtract 1 t158)) fun t160 σ =>
  stepK (pureR σ (aNot (Abs.look fr 9))) fun t162 σ =>
  gK t162 false (fun K => K (Abs.look fr 5) σ) (fun t164 σ =>
  gK t162 false (fun K => K t159 σ) (fun t166 σ =>
  gK t162 false (fun K => Ev Go.Proofs.Try.prog 14 [t164] σ K kp) (fun t165 σ =>
  gK t162 false (fun K => stepK (pureR σ (aBin .neq .prim t165 t166)) K) (fun t167 σ =>
  stepK (pureR σ (aPick t162 (.val (Go.Value.bool Bool.true)) t167)) fun t168 σ =>
  gK t168 false (fun K => K (Abs.look fr 5) σ) (fun t170 σ =>
  gK t168 false (fun K => K t160 σ) (fun t172 σ =>
  gK t168 false (fun K => Ev Go.Proofs.Try.prog 15 [t170] σ K kp) (fun t171 σ =>
  gK t168 false (fun K => stepK (pureR σ (aBin .neq .prim t171 t172)) K) (fun t173 σ =>
  stepK (pureR σ (aPick t168 (.val (Go.Value.bool Bool.true)) t173)) fun t174 σ =>
  gK t174 false (fun K => K (Abs.look fr 5) σ) (fun t176 σ =>
  gK t174 false (fun K => stepK (pureR σ (aFieldAddr 3 (Abs.look fr 6))) K) (fun t178 σ =>
  gK t174 false (fun K => stepK (pureR σ (aLoad false 1 t178 σ)) K) (fun t179 σ =>
  gK t174 false (fun K => Ev Go.Proofs.Try.prog 16 [t176] σ K kp) (fun t177 σ =>
  (gK t174 false (fun K => stepK (pureR σ (aLoad false 1 t178 σ)) K) (fun y θ => y = t179 ∧ θ = σ) σ) ∧ (
  gK t174 false (fun K => stepK (pureR σ (aBin .neq .prim t177 t179)) K) (fun t180 σ =>
  stepK (pureR σ (aPick t174 (.val (Go.Value.bool Bool.true)) t180)) fun t181 σ =>
  gK t181 false (fun K => K (Abs.look fr 5) σ) (fun t183 σ =>
  gK t181 false (fun K => stepK (pureR σ (aFieldAddr 1 (Abs.look fr 8))) K) (fun t184 σ =>
  gK t181 false (fun K => stepK (pureR σ (aLoad false 1 t184 σ)) K) (fun t185 σ =>
  gK t181 false (fun K => stepK (pureR σ (aBuildSl 1 1 [.val (.int .i64 0)] [(0, t185)])) K) (fun t186 σ =>
  gK t181 false (fun K => stepK (pureR σ (aLoad true 4 (Abs.look fr 6) σ)) K) (fun t188 σ =>
  gK t181 false (fun K => stepK (pureR σ (aFieldAddr 1 (Abs.look fr 8))) K) (fun t189 σ =>
  gK t181 false (fun K => stepK (pureR σ (aLoad false 1 t189 σ)) K) (fun t190 σ =>
  gK t181 false (fun K => Ev Go.Proofs.Try.prog 13 [t183, t186] σ K kp) (fun t187 σ =>
  (gK t181 false (fun K => stepK (pureR σ (aLoad true 4 (Abs.look fr 6) σ)) K) (fun y θ => y = t188 ∧ θ = σ) σ) ∧ (
  (gK t181 false (fun K => stepK (pureR σ (aLoad false 1 t189 σ)) K) (fun y θ => y = t190 ∧ θ = σ) σ) ∧ (
  gK t181 false (fun K => Ev Go.Proofs.Try.prog 25 [t188, t190] σ K kp) (fun t191 σ =>
  gK t181 false (fun K => stepK (pureR σ (aBin .neq .bool t187 t191)) K) (fun t192 σ =>
  stepK (pureR σ (aPick t181 (.val (Go.Value.bool Bool.true)) t192)) fun t193 σ =>
  gK t193 false (fun K => K (Abs.look fr 5) σ) (fun t195 σ =>
  gK t193 false (fun K => stepK (pureR σ (aFieldAddr 2 (Abs.look fr 8))) K) (fun t196 σ =>
  gK t193 false (fun K => stepK (pureR σ (aFieldAddr 2 t196)) K) (fun t197 σ =>
  gK t193 false (fun K => stepK (pureR σ (aLoad false 1 t197 σ)) K) (fun t198 σ =>
  gK t193 false (fun K => stepK (pureR σ (aBuildSl 2 1 [.val (.int .i64 0)] [(0, (.val (Go.Value.int Go.IntKind.i64 0))), (1, t198)])) K) (fun t199 σ =>
  gK t193 false (fun K => stepK (pureR σ (aLoad true 4 (Abs.look fr 6) σ)) K) (fun t201 σ =>
  gK t193 false (fun K => stepK (pureR σ (aFieldAddr 2 (Abs.look fr 8))) K) (fun t202 σ =>
  gK t193 false (fun K => stepK (pureR σ (aFieldAddr 2 t202)) K) (fun t203 σ =>
  gK t193 false (fun K => stepK (pureR σ (aLoad false 1 t203 σ)) K) (fun t204 σ =>
  gK t193 false (fun K => Ev Go.Proofs.Try.prog 13 [t195, t199] σ K kp) (fun t200 σ =>
  (gK t193 false (fun K => stepK (pureR σ (aLoad true 4 (Abs.look fr 6) σ)) K) (fun y θ => y = t201 ∧ θ = σ) σ) ∧ (
  (gK t193 false (fun K => stepK (pureR σ (aLoad false 1 t203 σ)) K) (fun y θ => y = t204 ∧ θ = σ) σ) ∧ (
  gK t193 false (fun K => Ev Go.Proofs.Try.prog 25 [t201, t204] σ K kp) (fun t205 σ =>
  gK t193 false (fun K => stepK (pureR σ (aBin .neq .bool t200 t205)) K) (fun t206 σ =>
  stepK (pureR σ (aPick t193 (.val (Go.Value.bool Bool.true)) t206)) fun t207 σ =>
  condK t207 (
  k (.val (Go.Value.bool Bool.false)) σ
  ) (
  stepK (pureR σ (aBin .add .prim (Abs.look fr 7) (.val (Go.Value.int Go.IntKind.i64 1)))) fun t43 σ =>
  again [(1, (Abs.look fr 1)), (5, (Abs.look fr 5)), (6, (Abs.look fr 6)), (7, t43)] σ
  )
  ) σ) σ))) σ) σ) σ) σ) σ) σ) σ) σ) σ) σ) σ) σ))) σ) σ) σ) σ) σ) σ) σ) σ) σ)) σ) σ) σ) σ) σ) σ) σ) σ) σ) σ) σ) σ) kp)) (fun j3 => (
  stepK (pureR σ (aFieldAddr 0 t8)) fun t48 σ =>
  stepK (pureR σ (aLoad false 1 t48 σ)) fun t49 σ =>
  stepK (pureR σ (aBin .eql .prim t49 (.val (Go.Value.int Go.IntKind.i64 0)))) fun t69 σ =>
  condK t69 (
  stepK (pureR σ (aLoad true 4 (Abs.look fr 6) σ)) fun t71 σ =>
  Ev Go.Proofs.Try.prog 18 [t71] σ (fun t72 σ =>
  stepK (pureR σ (aExtract 0 t72)) fun t73 σ =>
  stepK (pureR σ (aExtract 1 t72)) fun t74 σ =>
  stepK (pureR σ (aExtract 2 t72)) fun t75 σ =>
  stepK (aAlloc [.val (.int .i64 0), .val (.int .i64 0), .val (.slice none 0 0), .val (.int .i64 0)] σ) fun t10 σ =>
  stepK (unitR (aStore 4 t10 t73 σ)) fun _ σ =>
  Ev Go.Proofs.Try.prog 9 [(Abs.look fr 5)] σ (fun t78 σ =>
  stepK (pureR σ (aExtract 0 t78)) fun t79 σ =>
  stepK (pureR σ (aExtract 1 t78)) fun t80 σ =>
  stepK (pureR σ (aBin .eql .prim t79 t74)) fun t83 σ =>
  gK t83 true (fun K => K t80 σ) (fun t85 σ =>
  gK t83 true (fun K => K t75 σ) (fun t86 σ =>
  gK t83 true (fun K => stepK (pureR σ (aBin .eql .bool t85 t86)) K) (fun t87 σ =>
  stepK (pureR σ (aPick t83 t87 (.val (Go.Value.bool Bool.false)))) fun t88 σ =>
  stepK (pureR σ (aLoad true 4 t10 σ)) fun t89 σ =>
  stepK (unitR (aStore 4 (Abs.look fr 6) t89 σ)) fun _ σ =>
  j3 [(1, (Abs.look fr 1)), (5, (Abs.look fr 5)), (6, (Abs.look fr 6)), (7, (Abs.look fr 7)), (8, t8), (9, t88)] σ
  ) σ) σ) σ) kp) kp) (
  stepK (pureR σ (aBin .eql .prim t49 (.val (Go.Value.int Go.IntKind.i64 1)))) fun t91 σ =>
  condK t91 (
  stepK (pureR σ (aLoad true 4 (Abs.look fr 6) σ)) fun t93 σ =>
  Ev Go.Proofs.Try.prog 19 [t93] σ (fun t94 σ =>
  stepK (pureR σ (aExtract 0 t94)) fun t95 σ =>
  stepK (pureR σ (aExtract 1 t94)) fun t96 σ =>
  stepK (aAlloc [.val (.int .i64 0), .val (.int .i64 0), .val (.slice none 0 0), .val (.int .i64 0)] σ) fun t15 σ =>
  stepK (unitR (aStore 4 t15 t95 σ)) fun _ σ =>
  Ev Go.Proofs.Try.prog 11 [(Abs.look fr 5)] σ (fun t98 σ =>
  stepK (pureR σ (aBin .eql .bool t98 t96)) fun t100 σ =>
  stepK (pureR σ (aLoad true 4 t15 σ)) fun t101 σ =>
  stepK (unitR (aStore 4 (Abs.look fr 6) t101 σ)) fun _ σ =>
  j3 [(1, (Abs.look fr 1)), (5, (Abs.look fr 5)), (6, (Abs.look fr 6)), (7, (Abs.look fr 7)), (8, t8), (9, t100)] σ
  ) kp) kp) (
  stepK (pureR σ (aBin .eql .prim t49 (.val (Go.Value.int Go.IntKind.i64 2)))) fun t103 σ =>
  condK t103 (
  stepK (pureR σ (aLoad true 4 (Abs.look fr 6) σ)) fun t105 σ =>
  stepK (pureR σ (aFieldAddr 1 t8)) fun t106 σ =>
  stepK (pureR σ (aLoad false 1 t106 σ)) fun t107 σ =>
  stepK (pureR σ (aFieldAddr 6 t8)) fun t108 σ =>
  stepK (pureR σ (aLoad true 10 t108 σ)) fun t109 σ =>
  Ev Go.Proofs.Try.prog 20 [t105, t107, t109] σ (fun t110 σ =>
  stepK (pureR σ (aExtract 0 t110)) fun t111 σ =>
  stepK (pureR σ (aExtract 1 t110)) fun t112 σ =>
  stepK (pureR σ (aExtract 2 t110)) fun t113 σ =>
  stepK (aAlloc [.val (.int .i64 0), .val (.int .i64 0), .val (.slice none 0 0), .val (.int .i64 0)] σ) fun t17 σ =>
  stepK (aAlloc [.val (.int .u8 0), .val (.int .i64 0), .val (.int .i64 0), .val (.int .i64 0)] σ) fun t18 σ =>
  stepK (unitR (aStore 4 t17 t111 σ)) fun _ σ =>
  stepK (unitR (aStore 4 t18 t112 σ)) fun _ σ =>
  stepK (pureR σ (aFieldAddr 1 t8)) fun t116 σ =>
  stepK (pureR σ (aLoad false 1 t116 σ)) fun t117 σ =>
  stepK (pureR σ (aFieldAddr 6 t8)) fun t118 σ =>
  stepK (pureR σ (aLoad true 10 t118 σ)) fun t119 σ =>
  Ev Go.Proofs.Try.prog 10 [(Abs.look fr 5), t117, t119] σ (fun t120 σ =>
  stepK (pureR σ (aExtract 0 t120)) fun t121 σ =>
  stepK (pureR σ (aExtract 1 t120)) fun t122 σ =>
  stepK (aAlloc [.val (.int .u8 0), .val (.int .i64 0), .val (.int .i64 0), .val (.int .i64 0)] σ) fun t20 σ =>
  stepK (unitR (aStore 4 t20 t121 σ)) fun _ σ =>
  stepK (pureR σ (aLoad true 4 t18 σ)) fun t123 σ =>
  stepK (pureR σ (aLoad true 4 t20 σ)) fun t124 σ =>
  stepK (pureR σ (aBin .eql (.agg [.i, .i, .i, .i]) t123 t124)) fun t125 σ =>
  gK t125 true (fun K => K t122 σ) (fun t127 σ =>
  gK t125 true (fun K => K t113 σ) (fun t128 σ =>
  gK t125 true (fun K => stepK (pureR σ (aBin .eql .prim t127 t128)) K) (fun t129 σ =>
  stepK (pureR σ (aPick t125 t129 (.val (Go.Value.bool Bool.false)))) fun t130 σ =>
  stepK (pureR σ (aLoad true 4 t17 σ)) fun t131 σ =>
  stepK (unitR (aStore 4 (Abs.look fr 6) t131 σ)) fun _ σ =>
  j3 [(1, (Abs.look fr 1)), (5, (Abs.look fr 5)), (6, (Abs.look fr 6)), (7, (Abs.look fr 7)), (8, t8), (9, t130)] σ
  ) σ) σ) σ) kp) kp) (
  stepK (pureR σ (aBin .eql .prim t49 (.val (Go.Value.int Go.IntKind.i64 3)))) fun t133 σ =>
  condK t133 (
  stepK (pureR σ (aLoad true 4 (Abs.look fr 6) σ)) fun t135 σ =>
  stepK (pureR σ (aFieldAddr 2 t8)) fun t136 σ =>
  stepK (pureR σ (aLoad true 4 t136 σ)) fun t137 σ =>
  Ev Go.Proofs.Try.prog 21 [t135, t137] σ (fun t138 σ =>
  stepK (pureR σ (aExtract 0 t138)) fun t139 σ =>
  stepK (pureR σ (aExtract 1 t138)) fun t140 σ =>
  stepK (aAlloc [.val (.int .u8 0), .val (.int .u8 0), .val (.int .i64 0), .val (.int .i64 0), .val (.int .i64 0), .val (.int .u8 0), .val (.int .i64 0), .val (.int .i64 0), .val (.int .i64 0), .val (.int .i64 0)] σ) fun t22 σ =>
  stepK (unitR (aStore 10 t22 t139 σ)) fun _ σ =>
  stepK (pureR σ (aFieldAddr 2 t8)) fun t143 σ =>
  stepK (pureR σ (aLoad true 4 t143 σ)) fun t144 σ =>
  Ev Go.Proofs.Try.prog 12 [(Abs.look fr 5), t144] σ (fun t145 σ =>
  stepK (pureR σ (aExtract 0 t145)) fun t146 σ =>
  stepK (pureR σ (aExtract 1 t145)) fun t147 σ =>
  stepK (aAlloc [.val (.int .u8 0), .val (.int .u8 0), .val (.int .i64 0), .val (.int .i64 0), .val (.int .i64 0), .val (.int .u8 0), .val (.int .i64 0), .val (.int .i64 0), .val (.int .i64 0), .val (.int .i64 0)] σ) fun t24 σ =>
  stepK (unitR (aStore 10 t24 t146 σ)) fun _ σ =>
  stepK (pureR σ (aLoad true 10 t22 σ)) fun t148 σ =>
  stepK (pureR σ (aLoad true 10 t24 σ)) fun t149 σ =>
  stepK (pureR σ (aBin .eql (.agg [.i, .i, .i, .i, .i, .i, .i, .i, .i, .i]) t148 t149)) fun t150 σ =>
  gK t150 true (fun K => K t147 σ) (fun t152 σ =>
  gK t150 true (fun K => K t140 σ) (fun t153 σ =>
  gK t150 true (fun K => stepK (pureR σ (aBin .eql .prim t152 t153)) K) (fun t154 σ =>
  stepK (pureR σ (aPick t150 t154 (.val (Go.Value.bool Bool.false)))) fun t155 σ =>
  j3 [(1, (Abs.look fr 1)), (5, (Abs.look fr 5)), (6, (Abs.look fr 6)), (7, (Abs.look fr 7)), (8, t8), (9, t155)] σ
  ) σ) σ) σ) kp) kp) (
  stepK (pureR σ (aLoad true 4 (Abs.look fr 6) σ)) fun t51 σ =>
  stepK (pureR σ (aFieldAddr 2 t8)) fun t52 σ =>
  stepK (pureR σ (aLoad true 4 t52 σ)) fun t53 σ =>
  stepK (pureR σ (aFieldAddr 6 t8)) fun t54 σ =>
  stepK (pureR σ (aLoad true 10 t54 σ)) fun t55 σ =>
  Ev Go.Proofs.Try.prog 22 [t51, t53, t55] σ (fun t56 σ =>
  stepK (pureR σ (aExtract 0 t56)) fun t57 σ =>
  stepK (pureR σ (aExtract 1 t56)) fun t58 σ =>
  stepK (aAlloc [.val (.int .i64 0), .val (.int .i64 0), .val (.slice none 0 0), .val (.int .i64 0)] σ) fun t26 σ =>
  stepK (unitR (aStore 4 t26 t57 σ)) fun _ σ =>
  stepK (pureR σ (aFieldAddr 2 t8)) fun t60 σ =>
  stepK (pureR σ (aLoad true 4 t60 σ)) fun t61 σ =>
  stepK (pureR σ (aFieldAddr 6 t8)) fun t62 σ =>
  stepK (pureR σ (aLoad true 10 t62 σ)) fun t63 σ =>
  Ev Go.Proofs.Try.prog 23 [(Abs.look fr 5), t61, t63] σ (fun t64 σ =>
  stepK (pureR σ (aBin .eql .prim t64 t58)) fun t66 σ =>
  stepK (pureR σ (aLoad true 4 t26 σ)) fun t67 σ =>
  stepK (unitR (aStore 4 (Abs.look fr 6) t67 σ)) fun _ σ =>
  j3 [(1, (Abs.look fr 1)), (5, (Abs.look fr 5)), (6, (Abs.look fr 6)), (7, (Abs.look fr 7)), (8, t8), (9, t66)] σ
  ) kp) kp)
  )
  )
  )
  ))
  ) (
  j2 [(0, .any)] σ
  )
  )) [(1, (Abs.look fr 1)), (5, (Abs.look fr 5)), (6, (Abs.look fr 6)), (7, (.val (Go.Value.int Go.IntKind.i64 0)))] σ
  ))
  )) (fun j1 => (
  (
  stepK (pureR σ (aLoad true 2 t2 σ)) fun t34 σ =>
  stepK (pureR σ (aLoad true 2 t2 σ)) fun t36 σ =>
  Ev Go.Proofs.Try.prog 8 [t34] σ (fun t35 σ =>
  (stepK (pureR σ (aLoad true 2 t2 σ)) (fun y θ => y = t36 ∧ θ = σ)) ∧ (
  Ev Go.Proofs.Try.prog 17 [t36] σ (fun t37 σ =>
  stepK (aAlloc [.val (.int .i64 0), .val (.int .i64 0), .val (.slice none 0 0), .val (.int .i64 0)] σ) fun t6 σ =>
  (stepK (pureR σ (aLoad true 2 t2 σ)) (fun y θ => y = t34 ∧ θ = σ)) ∧ (
  (stepK (pureR σ (aLoad true 2 t2 σ)) (fun y θ => y = t36 ∧ θ = σ)) ∧ (
  stepK (unitR (aStore 4 t6 t37 σ)) fun _ σ =>
  j1 [(1, t1), (5, t35), (6, t6)] σ
  ))) kp)) kp) ∧ (
  (
  stepK (pureR σ (aLoad true 2 t2 σ)) fun t34 σ =>
  stepK (pureR σ (aLoad true 2 t2 σ)) fun t36 σ =>
  Ev Go.Proofs.Try.prog 8 [t34] σ (fun t35 σ =>
  (stepK (pureR σ (aLoad true 2 t2 σ)) (fun y θ => y = t36 ∧ θ = σ)) ∧ (
  stepK (aAlloc [.val (.int .i64 0), .val (.int .i64 0), .val (.slice none 0 0), .val (.int .i64 0)] σ) fun t6 σ =>
  (stepK (pureR σ (aLoad true 2 t2 σ)) (fun y θ => y = t34 ∧ θ = σ)) ∧ (
  (stepK (pureR σ (aLoad true 2 t2 σ)) (fun y θ => y = t36 ∧ θ = σ)) ∧ (
  Ev Go.Proofs.Try.prog 17 [t36] σ (fun t37 σ =>
  stepK (unitR (aStore 4 t6 t37 σ)) fun _ σ =>
  j1 [(1, t1), (5, t35), (6, t6)] σ
  ) kp)))) kp) ∧ (
  stepK (pureR σ (aLoad true 2 t2 σ)) fun t34 σ =>
  stepK (pureR σ (aLoad true 2 t2 σ)) fun t36 σ =>
  stepK (aAlloc [.val (.int .i64 0), .val (.int .i64 0), .val (.slice none 0 0), .val (.int .i64 0)] σ) fun t6 σ =>
  (stepK (pureR σ (aLoad true 2 t2 σ)) (fun y θ => y = t34 ∧ θ = σ)) ∧ (
  (stepK (pureR σ (aLoad true 2 t2 σ)) (fun y θ => y = t36 ∧ θ = σ)) ∧ (
  Ev Go.Proofs.Try.prog 8 [t34] σ (fun t35 σ =>
  (stepK (pureR σ (aLoad true 2 t2 σ)) (fun y θ => y = t36 ∧ θ = σ)) ∧ (
  Ev Go.Proofs.Try.prog 17 [t36] σ (fun t37 σ =>
  stepK (unitR (aStore 4 t6 t37 σ)) fun _ σ =>
  j1 [(1, t1), (5, t35), (6, t6)] σ
  ) kp)) kp))))))
  )
def keep5 : List (Nat × List Nat) := [(0, [1, 2]), (1, [1, 2, 32]), (2, [4]), (3005, [1, 5, 6]), (3, [1, 5, 6]), (2003, [0, 2, 1, 3, 4, 5, 6]), (103001, [2]), (103004, [0, 2]), (60003, [1, 2]), (19000003, [0, 2, 1, 4, 3, 5, 6]), (10003001, [2]), (10003004, [0, 2]), (29000003, [0, 2, 4, 1, 3, 5, 6]), (20003001, [2]), (20003004, [0, 2]), (3035, [0]), (4, [1, 5, 6, 7]), (5, [1, 5, 6, 7, 41]), (7, [1, 5, 6, 7, 8]), (8, [1, 5, 6, 7, 8]), (3032, [1, 5, 6, 7, 8, 9]), (9, [1, 5, 6, 7, 8, 49]), (13, [1, 5, 6, 7, 8, 49, 68]), (14, [1, 5, 6, 7, 8, 10, 11, 12]), (15, [1, 5, 6, 7, 8, 10, 11, 12, 13, 14]), (16, [1, 5, 6, 7, 8, 9, 10]), (17, [1, 5, 6, 7, 8, 9]), (18, [1, 5, 6, 7, 8, 49, 90]), (19, [1, 5, 6, 7, 8, 15, 16]), (20, [1, 5, 6, 7, 8, 9, 15]), (21, [1, 5, 6, 7, 8, 9]), (22, [1, 5, 6, 7, 8, 49, 102]), (23, [1, 5, 6, 7, 8, 17, 18, 19]), (24, [1, 5, 6, 7, 8, 17, 18, 19, 20, 21]), (25, [1, 5, 6, 7, 8, 9, 17]), (26, [1, 5, 6, 7, 8, 9]), (27, [1, 5, 6, 7, 8, 132]), (28, [1, 5, 6, 7, 8, 22, 23]), (29, [1, 5, 6, 7, 8, 22, 23, 24, 25]), (30, [1, 5, 6, 7, 8, 9]), (10, [1, 5, 6, 7, 8, 26, 27]), (11, [1, 5, 6, 7, 8, 9, 26]), (12, [1, 5, 6, 7, 8, 9]), (31, [1, 5, 6, 7, 8, 9, 28, 29]), (32, [1, 5, 6, 7, 207]), (2032, [0, 1, 2, 3, 5, 4, 6, 7, 8, 9, 11, 10, 12, 13, 14, 15, 17, 18, 16, 19, 20, 21, 22, 23, 24, 25, 27, 28, 29, 26, 30, 31, 32, 33, 34, 35, 36, 37, 38, 40, 41, 42, 43, 39, 44, 45, 46]), (132016, [18]), (132026, [27, 29]), (132039, [40, 43]), (33, [4]), (6, [1, 5, 6, 7]), (1005, [1, 5, 6, 7]), (34, [4])]
noncomputable def body5 : Code := (Go.Proofs.Try.f5).body.getD .skip
theorem F5_eq (t0 t1 : AV) (σ : AHeap) (k kp : AV → AHeap → Prop) : aw Go.Proofs.Try.prog (keepOf keep5) body5 (retK Go.Proofs.Try.prog (Go.Proofs.Try.f5).results.toList k kp) (frameOf 0 [t0, t1]) σ = F5 t0 t1 σ k kp := by kernel_rfl
theorem F5_ev {t0 t1 : AV} {σ : AHeap} {k kp : AV → AHeap → Prop} (h : F5 t0 t1 σ k kp) : Ev Go.Proofs.Try.prog 5 [t0, t1] σ k kp :=
  Ev_of_aw mixed Go.Proofs.Try.func5 (show (Go.Proofs.Try.f5).body = some body5 by kernel_rfl) (by kernel_rfl) (args := [t0, t1]) (of_decide_eq_true (by kernel_rfl)) (keepOf keep5) (by kernel_rfl) (by rw [F5_eq]; exact h)

/-- enclave/enclavelaw19.StackNil -/
def F6 (t0 t1 : AV) (σ : AHeap) (k kp : AV → AHeap → Prop) : Prop :=
  stepK (aBox t1 σ) fun t3 σ =>
  Ev Go.Proofs.Try.prog 9 [(.val (Go.Value.pointer Option.none))] σ (fun t16 σ =>
  stepK (pureR σ (aExtract 0 t16)) fun t17 σ =>
  stepK (pureR σ (aExtract 1 t16)) fun t18 σ =>
  stepK (pureR σ (aBuild [.val (.int .u8 0), .val (.int .u8 0), .val (.int .i64 0), .val (.int .i64 0), .val (.int .i64 0), .val (.int .u8 0), .val (.int .i64 0), .val (.int .i64 0), .val (.int .i64 0), .val (.int .i64 0)] [])) fun t22 σ =>
  Ev Go.Proofs.Try.prog 10 [(.val (Go.Value.pointer Option.none)), t0, t22] σ (fun t23 σ =>
  stepK (pureR σ (aExtract 0 t23)) fun t24 σ =>
  stepK (pureR σ (aExtract 1 t23)) fun t25 σ =>
  stepK (aAlloc [.val (.int .u8 0), .val (.int .i64 0), .val (.int .i64 0), .val (.int .i64 0)] σ) fun t8 σ =>
  stepK (unitR (aStore 4 t8 t24 σ)) fun _ σ =>
  stepK (pureR σ (aLoad true 4 t3 σ)) fun t28 σ =>
  Ev Go.Proofs.Try.prog 12 [(.val (Go.Value.pointer Option.none)), t28] σ (fun t29 σ =>
  stepK (pureR σ (aExtract 0 t29)) fun t30 σ =>
  stepK (pureR σ (aExtract 1 t29)) fun t31 σ =>
  stepK (aAlloc [.val (.int .u8 0), .val (.int .u8 0), .val (.int .i64 0), .val (.int .i64 0), .val (.int .i64 0), .val (.int .u8 0), .val (.int .i64 0), .val (.int .i64 0), .val (.int .i64 0), .val (.int .i64 0)] σ) fun t10 σ =>
  stepK (unitR (aStore 10 t10 t30 σ)) fun _ σ =>
  stepK (pureR σ (aLoad true 4 t3 σ)) fun t33 σ =>
  stepK (pureR σ (aBuild [.val (.int .u8 0), .val (.int .u8 0), .val (.int .i64 0), .val (.int .i64 0), .val (.int .i64 0), .val (.int .u8 0), .val (.int .i64 0), .val (.int .i64 0), .val (.int .i64 0), .val (.int .i64 0)] [])) fun t34 σ =>
  Ev Go.Proofs.Try.prog 23 [(.val (Go.Value.pointer Option.none)), t33, t34] σ (fun t35 σ =>
  seqW (fun fr σ => (
  stepK (pureR σ (aBin .eql .prim (Abs.look fr 6) (.val (Go.Value.int Go.IntKind.i64 0)))) fun t45 σ =>
  gK t45 true (fun K => K (Abs.look fr 7) σ) (fun t47 σ =>
  gK t45 true (fun K => stepK (pureR σ (aNot t47)) K) (fun t48 σ =>
  stepK (pureR σ (aPick t45 t48 (.val (Go.Value.bool Bool.false)))) fun t49 σ =>
  gK t49 true (fun K => K (Abs.look fr 5) σ) (fun t51 σ =>
  gK t49 true (fun K => Ev Go.Proofs.Try.prog 11 [t51] σ K kp) (fun t52 σ =>
  gK t49 true (fun K => stepK (pureR σ (aNot t52)) K) (fun t53 σ =>
  stepK (pureR σ (aPick t49 t53 (.val (Go.Value.bool Bool.false)))) fun t54 σ =>
  gK t54 true (fun K => K (Abs.look fr 5) σ) (fun t56 σ =>
  gK t54 true (fun K => K (Abs.look fr 0) σ) (fun t57 σ =>
  gK t54 true (fun K => stepK (aBuildSlice 1 1 [.val (.int .i64 0)] [(0, t57)] σ) K) (fun t58 σ =>
  gK t54 true (fun K => Ev Go.Proofs.Try.prog 13 [t56, t58] σ K kp) (fun t59 σ =>
  gK t54 true (fun K => stepK (pureR σ (aNot t59)) K) (fun t60 σ =>
  stepK (pureR σ (aPick t54 t60 (.val (Go.Value.bool Bool.false)))) fun t61 σ =>
  gK t61 true (fun K => K (Abs.look fr 5) σ) (fun t63 σ =>
  gK t61 true (fun K => Ev Go.Proofs.Try.prog 13 [t63, (.val (Go.Value.slice Option.none 0 0))] σ K kp) (fun t64 σ =>
  stepK (pureR σ (aPick t61 t64 (.val (Go.Value.bool Bool.false)))) fun t65 σ =>
  gK t65 true (fun K => stepK (pureR σ (aLoad true 4 (Abs.look fr 8) σ)) K) (fun t67 σ =>
  gK t65 true (fun K => stepK (pureR σ (aBuild [.val (.int .u8 0), .val (.int .i64 0), .val (.int .i64 0), .val (.int .i64 0)] [])) K) (fun t68 σ =>
  gK t65 true (fun K => stepK (pureR σ (aBin .eql (.agg [.i, .i, .i, .i]) t67 t68)) K) (fun t69 σ =>
  stepK (pureR σ (aPick t65 t69 (.val (Go.Value.bool Bool.false)))) fun t70 σ =>
  gK t70 true (fun K => K (Abs.look fr 9) σ) (fun t72 σ =>
  gK t70 true (fun K => stepK (pureR σ (aBin .eql .prim t72 (.val (Go.Value.int Go.IntKind.i64 6)))) K) (fun t73 σ =>
  stepK (pureR σ (aPick t70 t73 (.val (Go.Value.bool Bool.false)))) fun t74 σ =>
  gK t74 true (fun K => stepK (pureR σ (aLoad true 10 (Abs.look fr 10) σ)) K) (fun t76 σ =>
  gK t74 true (fun K => stepK (pureR σ (aBuild [.val (.int .u8 0), .val (.int .u8 0), .val (.int .i64 0), .val (.int .i64 0), .val (.int .i64 0), .val (.int .u8 0), .val (.int .i64 0), .val (.int .i64 0), .val (.int .i64 0), .val (.int .i64 0)] [])) K) (fun t77 σ =>
  gK t74 true (fun K => stepK (pureR σ (aBin .eql (.agg [.i, .i, .i, .i, .i, .i, .i, .i, .i, .i]) t76 t77)) K) (fun t78 σ =>
  stepK (pureR σ (aPick t74 t78 (.val (Go.Value.bool Bool.false)))) fun t79 σ =>
  gK t79 true (fun K => K (Abs.look fr 11) σ) (fun t81 σ =>
  gK t79 true (fun K => K (Abs.look fr 13) σ) (fun t82 σ =>
  gK t79 true (fun K => stepK (pureR σ (aBin .eql .prim t81 t82)) K) (fun t83 σ =>
  stepK (pureR σ (aPick t79 t83 (.val (Go.Value.bool Bool.false)))) fun t84 σ =>
  gK t84 true (fun K => K (Abs.look fr 12) σ) (fun t86 σ =>
  gK t84 true (fun K => K (Abs.look fr 13) σ) (fun t87 σ =>
  gK t84 true (fun K => stepK (pureR σ (aBin .eql .prim t86 t87)) K) (fun t88 σ =>
  stepK (pureR σ (aPick t84 t88 (.val (Go.Value.bool Bool.false)))) fun t89 σ =>
  gK t89 true (fun K => K (Abs.look fr 5) σ) (fun t91 σ =>
  gK t89 true (fun K => Ev Go.Proofs.Try.prog 14 [t91] σ K kp) (fun t92 σ =>
  gK t89 true (fun K => K (Abs.look fr 5) σ) (fun t93 σ =>
  gK t89 true (fun K => Ev Go.Proofs.Try.prog 15 [t93] σ K kp) (fun t94 σ =>
  gK t89 true (fun K => stepK (pureR σ (aBin .add .prim t92 t94)) K) (fun t95 σ =>
  gK t89 true (fun K => K (Abs.look fr 5) σ) (fun t96 σ =>
  gK t89 true (fun K => Ev Go.Proofs.Try.prog 16 [t96] σ K kp) (fun t97 σ =>
  gK t89 true (fun K => stepK (pureR σ (aBin .add .prim t95 t97)) K) (fun t98 σ =>
  gK t89 true (fun K => stepK (pureR σ (aBin .eql .prim t98 (.val (Go.Value.int Go.IntKind.i64 0)))) K) (fun t99 σ =>
  stepK (pureR σ (aPick t89 t99 (.val (Go.Value.bool Bool.false)))) fun t100 σ =>
  gK t100 true (fun K => Ev Go.Proofs.Try.prog 7 [] σ K kp) (fun t102 σ =>
  stepK (pureR σ (aPick t100 t102 (.val (Go.Value.bool Bool.false)))) fun t103 σ =>
  k t103 σ
  ) σ) σ) σ) σ) σ) σ) σ) σ) σ) σ) σ) σ) σ) σ) σ) σ) σ) σ) σ) σ) σ) σ) σ) σ) σ) σ) σ) σ) σ) σ) σ) σ) σ) σ) σ) σ)) (fun j1 => (
  stepK (pureR σ (aFieldAddr 0 t3)) fun t36 σ =>
  stepK (pureR σ (aLoad false 1 t36 σ)) fun t37 σ =>
  stepK (pureR σ (aBin .neq .prim t37 (.val (Go.Value.int Go.IntKind.u8 2)))) fun t38 σ =>
  gK t38 false (fun K => stepK (pureR σ (aFieldAddr 1 t3)) K) (fun t40 σ =>
  gK t38 false (fun K => stepK (pureR σ (aLoad false 1 t40 σ)) K) (fun t41 σ =>
  gK t38 false (fun K => stepK (pureR σ (aBin .neq .prim t41 (.val (Go.Value.int Go.IntKind.i64 0)))) K) (fun t42 σ =>
  stepK (pureR σ (aPick t38 (.val (Go.Value.bool Bool.true)) t42)) fun t43 σ =>
  condK t43 (
  j1 [(0, t0), (5, (.val (Go.Value.pointer Option.none))), (6, t17), (7, t18), (8, t8), (9, t25), (10, t10), (11, t31), (12, t35), (13, (.val (Go.Value.int Go.IntKind.i64 1)))] σ
  ) (
  j1 [(0, t0), (5, (.val (Go.Value.pointer Option.none))), (6, t17), (7, t18), (8, t8), (9, t25), (10, t10), (11, t31), (12, t35), (13, (.val (Go.Value.int Go.IntKind.i64 6)))] σ
  )
  ) σ) σ) σ))) kp) kp) kp) kp
def keep6 : List (Nat × List Nat) := [(0, [0, 3]), (1, [0, 3, 5]), (2, [0, 3, 5, 6, 7]), (3, [0, 3, 5, 6, 7, 8, 9]), (4, [0, 3, 5, 6, 7, 8, 9, 10, 11]), (5, [0, 3, 5, 6, 7, 8, 9, 10, 11, 12]), (6, [0, 3, 5, 6, 7, 8, 9, 10, 11, 12, 13]), (3010, [0, 5, 6, 7, 8, 9, 10, 11, 12, 13]), (7, [0, 5, 6, 7, 8, 9, 10, 11, 12, 13, 43]), (8, [0, 5, 6, 7, 8, 9, 10, 11, 12, 13]), (9, [4])]
noncomputable def body6 : Code := (Go.Proofs.Try.f6).body.getD .skip
theorem F6_eq (t0 t1 : AV) (σ : AHeap) (k kp : AV → AHeap → Prop) : aw Go.Proofs.Try.prog (keepOf keep6) body6 (retK Go.Proofs.Try.prog (Go.Proofs.Try.f6).results.toList k kp) (frameOf 0 [t0, t1]) σ = F6 t0 t1 σ k kp := by kernel_rfl
theorem F6_ev {t0 t1 : AV} {σ : AHeap} {k kp : AV → AHeap → Prop} (h : F6 t0 t1 σ k kp) : Ev Go.Proofs.Try.prog 6 [t0, t1] σ k kp :=
  Ev_of_aw mixed Go.Proofs.Try.func6 (show (Go.Proofs.Try.f6).body = some body6 by kernel_rfl) (by kernel_rfl) (args := [t0, t1]) (of_decide_eq_true (by kernel_rfl)) (keepOf keep6) (by kernel_rfl) (by rw [F6_eq]; exact h)

/-- enclave/enclavelaw19.awake -/
def F7 (σ : AHeap) (k kp : AV → AHeap → Prop) : Prop :=
  stepK (pureR σ (aBuild [.val (.int .i64 0), .val (.int .i64 0)] [(0, 1, (.val (Go.Value.int Go.IntKind.i64 2))), (1, 1, (.val (Go.Value.int Go.IntKind.i64 2)))])) fun t11 σ =>
  Ev Go.Proofs.Try.prog 8 [t11] σ (fun t12 σ =>
  Ev Go.Proofs.Try.prog 9 [t12] σ (fun t15 σ =>
  stepK (pureR σ (aExtract 0 t15)) fun t16 σ =>
  stepK (pureR σ (aExtract 1 t15)) fun t17 σ =>
  stepK (pureR σ (aBuild [.val (.int .u8 0), .val (.int .u8 0), .val (.int .i64 0), .val (.int .i64 0), .val (.int .i64 0), .val (.int .u8 0), .val (.int .i64 0), .val (.int .i64 0), .val (.int .i64 0), .val (.int .i64 0)] [(0, 1, (.val (Go.Value.int Go.IntKind.u8 2)))])) fun t21 σ =>
  Ev Go.Proofs.Try.prog 10 [t12, t16, t21] σ (fun t22 σ =>
  stepK (pureR σ (aExtract 0 t22)) fun t23 σ =>
  stepK (pureR σ (aExtract 1 t22)) fun t24 σ =>
  stepK (aAlloc [.val (.int .u8 0), .val (.int .i64 0), .val (.int .i64 0), .val (.int .i64 0)] σ) fun t4 σ =>
  stepK (unitR (aStore 4 t4 t23 σ)) fun _ σ =>
  stepK (pureR σ (aLoad true 4 t4 σ)) fun t27 σ =>
  Ev Go.Proofs.Try.prog 12 [t12, t27] σ (fun t28 σ =>
  stepK (pureR σ (aExtract 0 t28)) fun t29 σ =>
  stepK (pureR σ (aExtract 1 t28)) fun t30 σ =>
  stepK (aAlloc [.val (.int .u8 0), .val (.int .u8 0), .val (.int .i64 0), .val (.int .i64 0), .val (.int .i64 0), .val (.int .u8 0), .val (.int .i64 0), .val (.int .i64 0), .val (.int .i64 0), .val (.int .i64 0)] σ) fun t6 σ =>
  stepK (unitR (aStore 10 t6 t29 σ)) fun _ σ =>
  Ev Go.Proofs.Try.prog 11 [t12] σ (fun t32 σ =>
  stepK (pureR σ (aLoad true 4 t4 σ)) fun t35 σ =>
  Ev Go.Proofs.Try.prog 12 [t12, t35] σ (fun t36 σ =>
  stepK (pureR σ (aExtract 0 t36)) fun t37 σ =>
  stepK (pureR σ (aExtract 1 t36)) fun t38 σ =>
  stepK (aAlloc [.val (.int .u8 0), .val (.int .u8 0), .val (.int .i64 0), .val (.int .i64 0), .val (.int .i64 0), .val (.int .u8 0), .val (.int .i64 0), .val (.int .i64 0), .val (.int .i64 0), .val (.int .i64 0)] σ) fun t9 σ =>
  stepK (unitR (aStore 10 t9 t37 σ)) fun _ σ =>
  gK t17 true (fun K => K t16 σ) (fun t41 σ =>
  gK t17 true (fun K => stepK (pureR σ (aBin .eql .prim t41 (.val (Go.Value.int Go.IntKind.i64 1)))) K) (fun t42 σ =>
  stepK (pureR σ (aPick t17 t42 (.val (Go.Value.bool Bool.false)))) fun t43 σ =>
  gK t43 true (fun K => K t24 σ) (fun t45 σ =>
  gK t43 true (fun K => stepK (pureR σ (aBin .eql .prim t45 (.val (Go.Value.int Go.IntKind.i64 0)))) K) (fun t46 σ =>
  stepK (pureR σ (aPick t43 t46 (.val (Go.Value.bool Bool.false)))) fun t47 σ =>
  gK t47 true (fun K => K t30 σ) (fun t49 σ =>
  gK t47 true (fun K => stepK (pureR σ (aBin .eql .prim t49 (.val (Go.Value.int Go.IntKind.i64 0)))) K) (fun t50 σ =>
  stepK (pureR σ (aPick t47 t50 (.val (Go.Value.bool Bool.false)))) fun t51 σ =>
  gK t51 true (fun K => stepK (pureR σ (aFieldAddr 0 t6)) K) (fun t53 σ =>
  gK t51 true (fun K => stepK (pureR σ (aLoad false 1 t53 σ)) K) (fun t54 σ =>
  gK t51 true (fun K => stepK (pureR σ (aBin .eql .prim t54 (.val (Go.Value.int Go.IntKind.u8 2)))) K) (fun t55 σ =>
  stepK (pureR σ (aPick t51 t55 (.val (Go.Value.bool Bool.false)))) fun t56 σ =>
  gK t56 true (fun K => K t32 σ) (fun t58 σ =>
  stepK (pureR σ (aPick t56 t58 (.val (Go.Value.bool Bool.false)))) fun t59 σ =>
  gK t59 true (fun K => K t38 σ) (fun t61 σ =>
  gK t59 true (fun K => stepK (pureR σ (aBin .eql .prim t61 (.val (Go.Value.int Go.IntKind.i64 6)))) K) (fun t62 σ =>
  stepK (pureR σ (aPick t59 t62 (.val (Go.Value.bool Bool.false)))) fun t63 σ =>
  k t63 σ) σ) σ) σ) σ) σ) σ) σ) σ) σ) σ) σ) σ) kp) kp) kp) kp) kp) kp
def keep7 : List (Nat × List Nat) := [(0, []), (1, [1]), (2, [1, 2, 3]), (3, [1, 2, 3, 4, 5]), (4, [1, 2, 3, 4, 5, 6, 7]), (5, [1, 2, 3, 4, 5, 6, 7, 8]), (6, [2, 3, 5, 6, 7, 8, 10]), (7, [0])]
noncomputable def body7 : Code := (Go.Proofs.Try.f7).body.getD .skip
theorem F7_eq (σ : AHeap) (k kp : AV → AHeap → Prop) : aw Go.Proofs.Try.prog (keepOf keep7) body7 (retK Go.Proofs.Try.prog (Go.Proofs.Try.f7).results.toList k kp) (frameOf 0 []) σ = F7 σ k kp := by kernel_rfl
theorem F7_ev {σ : AHeap} {k kp : AV → AHeap → Prop} (h : F7 σ k kp) : Ev Go.Proofs.Try.prog 7 [] σ k kp :=
  Ev_of_aw mixed Go.Proofs.Try.func7 (show (Go.Proofs.Try.f7).body = some body7 by kernel_rfl) (by kernel_rfl) (args := []) (of_decide_eq_true (by kernel_rfl)) (keepOf keep7) (by kernel_rfl) (by rw [F7_eq]; exact h)

/-- enclave/stack.New -/
def F8 (t0 : AV) (σ : AHeap) (k kp : AV → AHeap → Prop) : Prop :=
  stepK (aBox t0 σ) fun t1 σ =>
  stepK (pureR σ (aFieldAddr 0 t1)) fun t3 σ =>
  stepK (pureR σ (aLoad false 1 t3 σ)) fun t4 σ =>
  stepK (pureR σ (aMin t4 (.val (Go.Value.int Go.IntKind.i64 1048576)))) fun t5 σ =>
  stepK (pureR σ (aMax (.val (Go.Value.int Go.IntKind.i64 1)) t5)) fun t6 σ =>
  stepK (pureR σ (aFieldAddr 0 t1)) fun t7 σ =>
  stepK (unitR (aStore 1 t7 t6 σ)) fun _ σ =>
  stepK (pureR σ (aFieldAddr 1 t1)) fun t8 σ =>
  stepK (pureR σ (aLoad false 1 t8 σ)) fun t9 σ =>
  stepK (pureR σ (aMin t9 (.val (Go.Value.int Go.IntKind.i64 4194304)))) fun t10 σ =>
  stepK (pureR σ (aMax (.val (Go.Value.int Go.IntKind.i64 0)) t10)) fun t11 σ =>
  stepK (pureR σ (aFieldAddr 1 t1)) fun t12 σ =>
  stepK (unitR (aStore 1 t12 t11 σ)) fun _ σ =>
  stepK (pureR σ (aLoad true 2 t1 σ)) fun t13 σ =>
  stepK (aMakeMap σ) fun t14 σ =>
  stepK (unitR (aMapUpdate (.int .i64) t14 (.val (Go.Value.int Go.IntKind.i64 0)) (.val (Go.Value.slice Option.none 0 0)) σ)) fun _ σ =>
  stepK (aBuildSlice 1 1 [.val (.int .i64 0)] [(0, (.val (Go.Value.int Go.IntKind.i64 0)))] σ) fun t16 σ =>
  stepK (pureR σ (aBuild [.val (.int .i64 0), .val (.int .i64 0), .val (.map none), .val (.slice none 0 0), .val (.int .i64 0), .val (.int .i64 0), .val (.int .i64 0)] [(0, 2, t13), (2, 1, t14), (3, 1, t16), (4, 1, (.val (Go.Value.int Go.IntKind.i64 1)))])) fun t17 σ =>
  stepK (aBox t17 σ) fun t18 σ =>
  k t18 σ
def keep8 : List (Nat × List Nat) := [(0, [1]), (1, [1]), (2, [1]), (3, [2])]
noncomputable def body8 : Code := (Go.Proofs.Try.f8).body.getD .skip
theorem F8_eq (t0 : AV) (σ : AHeap) (k kp : AV → AHeap → Prop) : aw Go.Proofs.Try.prog (keepOf keep8) body8 (retK Go.Proofs.Try.prog (Go.Proofs.Try.f8).results.toList k kp) (frameOf 0 [t0]) σ = F8 t0 σ k kp := by kernel_rfl
theorem F8_ev {t0 : AV} {σ : AHeap} {k kp : AV → AHeap → Prop} (h : F8 t0 σ k kp) : Ev Go.Proofs.Try.prog 8 [t0] σ k kp :=
  Ev_of_aw mixed Go.Proofs.Try.func8 (show (Go.Proofs.Try.f8).body = some body8 by kernel_rfl) (by kernel_rfl) (args := [t0]) (of_decide_eq_true (by kernel_rfl)) (keepOf keep8) (by kernel_rfl) (by rw [F8_eq]; exact h)

/-- (*enclave/stack.Store).Push -/
def F9 (t0 : AV) (σ : AHeap) (k kp : AV → AHeap → Prop) : Prop :=
  stepK (pureR σ (aBin .eql .ptr t0 (.val (Go.Value.pointer Option.none)))) fun t6 σ =>
  gK t6 false (fun K => K t0 σ) (fun t8 σ =>
  gK t6 false (fun K => stepK (pureR σ (aNilCheck t8)) K) (fun t9 σ =>
  gK t6 false (fun K => stepK (pureR σ (aFieldAddr 3 t9)) K) (fun t10 σ =>
  gK t6 false (fun K => stepK (pureR σ (aLoad false 1 t10 σ)) K) (fun t11 σ =>
  gK t6 false (fun K => stepK (pureR σ (aLenK .slice t11 σ)) K) (fun t12 σ =>
  gK t6 false (fun K => K t0 σ) (fun t13 σ =>
  gK t6 false (fun K => stepK (pureR σ (aNilCheck t13)) K) (fun t14 σ =>
  gK t6 false (fun K => stepK (pureR σ (aFieldAddr 0 t14)) K) (fun t15 σ =>
  gK t6 false (fun K => stepK (pureR σ (aFieldAddr 0 t15)) K) (fun t16 σ =>
  gK t6 false (fun K => stepK (pureR σ (aLoad false 1 t16 σ)) K) (fun t17 σ =>
  gK t6 false (fun K => stepK (pureR σ (aBin .geq .prim t12 t17)) K) (fun t18 σ =>
  stepK (pureR σ (aPick t6 (.val (Go.Value.bool Bool.true)) t18)) fun t19 σ =>
  condK t19 (
  k (.tup [(.val (Go.Value.int Go.IntKind.i64 0)), (.val (Go.Value.bool Bool.false))]) σ
  ) (
  stepK (pureR σ (aNilCheck t0)) fun t21 σ =>
  stepK (pureR σ (aFieldAddr 4 t21)) fun t22 σ =>
  stepK (pureR σ (aLoad false 1 t22 σ)) fun t23 σ =>
  stepK (pureR σ (aNilCheck t0)) fun t25 σ =>
  stepK (pureR σ (aFieldAddr 4 t25)) fun t26 σ =>
  stepK (pureR σ (aLoad false 1 t26 σ)) fun t27 σ =>
  stepK (pureR σ (aBin .add .prim t27 (.val (Go.Value.int Go.IntKind.i64 1)))) fun t28 σ =>
  stepK (pureR σ (aNilCheck t0)) fun t29 σ =>
  stepK (pureR σ (aFieldAddr 4 t29)) fun t30 σ =>
  stepK (unitR (aStore 1 t30 t28 σ)) fun _ σ =>
  stepK (pureR σ (aNilCheck t0)) fun t33 σ =>
  stepK (pureR σ (aFieldAddr 3 t33)) fun t34 σ =>
  stepK (pureR σ (aLoad false 1 t34 σ)) fun t35 σ =>
  stepK (aBuildSlice 1 1 [.val (.int .i64 0)] [(0, t23)] σ) fun t37 σ =>
  stepK (aAppend 1 8 t35 t37 σ) fun t38 σ =>
  stepK (pureR σ (aNilCheck t0)) fun t39 σ =>
  stepK (pureR σ (aFieldAddr 3 t39)) fun t40 σ =>
  stepK (unitR (aStore 1 t40 t38 σ)) fun _ σ =>
  stepK (pureR σ (aNilCheck t0)) fun t42 σ =>
  stepK (pureR σ (aFieldAddr 2 t42)) fun t43 σ =>
  stepK (pureR σ (aLoad false 1 t43 σ)) fun t44 σ =>
  stepK (unitR (aMapUpdate (.int .i64) t44 t23 (.val (Go.Value.slice Option.none 0 0)) σ)) fun _ σ =>
  k (.tup [t23, (.val (Go.Value.bool Bool.true))]) σ
  )) σ) σ) σ) σ) σ) σ) σ) σ) σ) σ) σ
def keep9 : List (Nat × List Nat) := [(0, [0]), (1, [0, 19]), (2001, [0, 1, 2, 3, 4, 5, 6, 7, 8, 9, 10, 11, 12, 13, 14]), (2, [2, 3]), (3, [0, 4]), (4, [0, 4]), (5, [0, 4]), (6, [4]), (7, [2, 3])]
noncomputable def body9 : Code := (Go.Proofs.Try.f9).body.getD .skip
theorem F9_eq (t0 : AV) (σ : AHeap) (k kp : AV → AHeap → Prop) : aw Go.Proofs.Try.prog (keepOf keep9) body9 (retK Go.Proofs.Try.prog (Go.Proofs.Try.f9).results.toList k kp) (frameOf 0 [t0]) σ = F9 t0 σ k kp := by kernel_rfl
theorem F9_ev {t0 : AV} {σ : AHeap} {k kp : AV → AHeap → Prop} (h : F9 t0 σ k kp) : Ev Go.Proofs.Try.prog 9 [t0] σ k kp :=
  Ev_of_aw mixed Go.Proofs.Try.func9 (show (Go.Proofs.Try.f9).body = some body9 by kernel_rfl) (by kernel_rfl) (args := [t0]) (of_decide_eq_true (by kernel_rfl)) (keepOf keep9) (by kernel_rfl) (by rw [F9_eq]; exact h)

/-- (*enclave/stack.Store).Put -/
def F10 (t0 t1 t2 : AV) (σ : AHeap) (k kp : AV → AHeap → Prop) : Prop :=
  stepK (aBox t2 σ) fun t5 σ =>
  stepK (aAlloc [.val (.int .u8 0), .val (.int .i64 0), .val (.int .i64 0), .val (.int .i64 0)] σ) fun t6 σ =>
  stepK (aBuildSlice 1 1 [.val (.int .i64 0)] [(0, t1)] σ) fun t11 σ =>
  Ev Go.Proofs.Try.prog 13 [t0, t11] σ (fun t12 σ =>
  stepK (pureR σ (aNot t12)) fun t13 σ =>
  condK t13 (
  stepK (pureR σ (aBuild [.val (.int .u8 0), .val (.int .i64 0), .val (.int .i64 0), .val (.int .i64 0)] [])) fun t14 σ =>
  stepK (unitR (aStore 4 t6 t14 σ)) fun _ σ =>
  stepV (aLoad true 4 t6 σ) fun r0 =>
  k (.tup [r0, (.val (Go.Value.int Go.IntKind.i64 6))]) σ
  ) (
  stepK (pureR σ (aNilCheck t0)) fun t17 σ =>
  stepK (pureR σ (aFieldAddr 5 t17)) fun t18 σ =>
  stepK (pureR σ (aLoad false 1 t18 σ)) fun t19 σ =>
  stepK (pureR σ (aNilCheck t0)) fun t21 σ =>
  stepK (pureR σ (aFieldAddr 0 t21)) fun t22 σ =>
  stepK (pureR σ (aFieldAddr 1 t22)) fun t23 σ =>
  stepK (pureR σ (aLoad false 1 t23 σ)) fun t24 σ =>
  stepK (pureR σ (aBin .geq .prim t19 t24)) fun t25 σ =>
  condK t25 (
  stepK (pureR σ (aBuild [.val (.int .u8 0), .val (.int .i64 0), .val (.int .i64 0), .val (.int .i64 0)] [])) fun t26 σ =>
  stepK (unitR (aStore 4 t6 t26 σ)) fun _ σ =>
  stepV (aLoad true 4 t6 σ) fun r0 =>
  k (.tup [r0, (.val (Go.Value.int Go.IntKind.i64 3))]) σ
  ) (
  stepK (pureR σ (aNilCheck t0)) fun t28 σ =>
  stepK (pureR σ (aFieldAddr 5 t28)) fun t29 σ =>
  stepK (pureR σ (aLoad false 1 t29 σ)) fun t30 σ =>
  stepK (pureR σ (aBin .add .prim t30 (.val (Go.Value.int Go.IntKind.i64 1)))) fun t31 σ =>
  stepK (pureR σ (aNilCheck t0)) fun t32 σ =>
  stepK (pureR σ (aFieldAddr 5 t32)) fun t33 σ =>
  stepK (unitR (aStore 1 t33 t31 σ)) fun _ σ =>
  stepK (pureR σ (aNilCheck t0)) fun t36 σ =>
  stepK (pureR σ (aFieldAddr 6 t36)) fun t37 σ =>
  stepK (pureR σ (aLoad false 1 t37 σ)) fun t38 σ =>
  stepK (pureR σ (aNilCheck t0)) fun t40 σ =>
  stepK (pureR σ (aFieldAddr 5 t40)) fun t41 σ =>
  stepK (pureR σ (aLoad false 1 t41 σ)) fun t42 σ =>
  stepK (pureR σ (aMax t38 t42)) fun t43 σ =>
  stepK (pureR σ (aNilCheck t0)) fun t44 σ =>
  stepK (pureR σ (aFieldAddr 6 t44)) fun t45 σ =>
  stepK (unitR (aStore 1 t45 t43 σ)) fun _ σ =>
  stepK (pureR σ (aNilCheck t0)) fun t47 σ =>
  stepK (pureR σ (aFieldAddr 2 t47)) fun t48 σ =>
  stepK (pureR σ (aLoad false 1 t48 σ)) fun t49 σ =>
  stepK (pureR σ (aNilCheck t0)) fun t52 σ =>
  stepK (pureR σ (aFieldAddr 2 t52)) fun t53 σ =>
  stepK (pureR σ (aLoad false 1 t53 σ)) fun t54 σ =>
  stepK (pureR σ (aLookup (.int .i64) (.val (.slice none 0 0)) false t54 t1 σ)) fun t56 σ =>
  stepK (pureR σ (aLoad true 10 t5 σ)) fun t57 σ =>
  stepK (pureR σ (aBuildSl 1 10 [.val (.int .u8 0), .val (.int .u8 0), .val (.int .i64 0), .val (.int .i64 0), .val (.int .i64 0), .val (.int .u8 0), .val (.int .i64 0), .val (.int .i64 0), .val (.int .i64 0), .val (.int .i64 0)] [(0, t57)])) fun t58 σ =>
  stepK (aAppend 10 80 t56 t58 σ) fun t59 σ =>
  (stepK (pureR σ (aLoad false 1 t48 σ)) (fun y θ => y = t49 ∧ θ = σ)) ∧ (
  stepK (unitR (aMapUpdate (.int .i64) t49 t1 t59 σ)) fun _ σ =>
  stepK (pureR σ (aNilCheck t0)) fun t62 σ =>
  stepK (pureR σ (aFieldAddr 2 t62)) fun t63 σ =>
  stepK (pureR σ (aLoad false 1 t63 σ)) fun t64 σ =>
  stepK (pureR σ (aLookup (.int .i64) (.val (.slice none 0 0)) false t64 t1 σ)) fun t66 σ =>
  stepK (pureR σ (aLenK .slice t66 σ)) fun t67 σ =>
  stepK (pureR σ (aBin .sub .prim t67 (.val (Go.Value.int Go.IntKind.i64 1)))) fun t68 σ =>
  stepK (pureR σ (aBuild [.val (.int .u8 0), .val (.int .i64 0), .val (.int .i64 0), .val (.int .i64 0)] [(0, 1, (.val (Go.Value.int Go.IntKind.u8 2))), (2, 1, t1), (3, 1, t68)])) fun t69 σ =>
  stepK (unitR (aStore 4 t6 t69 σ)) fun _ σ =>
  stepV (aLoad true 4 t6 σ) fun r0 =>
  k (.tup [r0, (.val (Go.Value.int Go.IntKind.i64 0))]) σ
  ))
  )) kp
def keep10 : List (Nat × List Nat) := [(0, [0, 1, 5, 6]), (1, [0, 1, 5, 6, 8]), (2, [6, 7]), (3, [0, 1, 5, 6, 15]), (2003, [0, 1, 2, 3, 4, 5, 6, 7, 8, 9, 10]), (4, [6, 7]), (5, [0, 1, 5, 6]), (6, [0, 1, 5, 6]), (2006, [0, 1, 2, 3, 4, 5, 6, 7, 8, 9, 10, 11, 12]), (7, [0, 1, 6]), (2007, [0, 1, 2, 3, 4, 5, 6, 7, 8, 9, 10, 11, 12, 13, 14]), (107013, [3]), (8, [6, 7])]
noncomputable def body10 : Code := (Go.Proofs.Try.f10).body.getD .skip
theorem F10_eq (t0 t1 t2 : AV) (σ : AHeap) (k kp : AV → AHeap → Prop) : aw Go.Proofs.Try.prog (keepOf keep10) body10 (retK Go.Proofs.Try.prog (Go.Proofs.Try.f10).results.toList k kp) (frameOf 0 [t0, t1, t2]) σ = F10 t0 t1 t2 σ k kp := by kernel_rfl
theorem F10_ev {t0 t1 t2 : AV} {σ : AHeap} {k kp : AV → AHeap → Prop} (h : F10 t0 t1 t2 σ k kp) : Ev Go.Proofs.Try.prog 10 [t0, t1, t2] σ k kp :=
  Ev_of_aw mixed Go.Proofs.Try.func10 (show (Go.Proofs.Try.f10).body = some body10 by kernel_rfl) (by kernel_rfl) (args := [t0, t1, t2]) (of_decide_eq_true (by kernel_rfl)) (keepOf keep10) (by kernel_rfl) (by rw [F10_eq]; exact h)

/-- (*enclave/stack.Store).Pop -/
def F11 (t0 : AV) (σ : AHeap) (k kp : AV → AHeap → Prop) : Prop :=
  stepK (pureR σ (aBin .eql .ptr t0 (.val (Go.Value.pointer Option.none)))) fun t5 σ =>
  gK t5 false (fun K => K t0 σ) (fun t7 σ =>
  gK t5 false (fun K => stepK (pureR σ (aNilCheck t7)) K) (fun t8 σ =>
  gK t5 false (fun K => stepK (pureR σ (aFieldAddr 3 t8)) K) (fun t9 σ =>
  gK t5 false (fun K => stepK (pureR σ (aLoad false 1 t9 σ)) K) (fun t10 σ =>
  gK t5 false (fun K => stepK (pureR σ (aLenK .slice t10 σ)) K) (fun t11 σ =>
  gK t5 false (fun K => stepK (pureR σ (aBin .lss .prim t11 (.val (Go.Value.int Go.IntKind.i64 2)))) K) (fun t12 σ =>
  stepK (pureR σ (aPick t5 (.val (Go.Value.bool Bool.true)) t12)) fun t13 σ =>
  condK t13 (
  k (.val (Go.Value.bool Bool.false)) σ
  ) (
  stepK (pureR σ (aNilCheck t0)) fun t15 σ =>
  stepK (pureR σ (aFieldAddr 3 t15)) fun t16 σ =>
  stepK (pureR σ (aLoad false 1 t16 σ)) fun t17 σ =>
  stepK (pureR σ (aNilCheck t0)) fun t19 σ =>
  stepK (pureR σ (aFieldAddr 3 t19)) fun t20 σ =>
  stepK (pureR σ (aLoad false 1 t20 σ)) fun t21 σ =>
  stepK (pureR σ (aLenK .slice t21 σ)) fun t22 σ =>
  stepK (pureR σ (aBin .sub .prim t22 (.val (Go.Value.int Go.IntKind.i64 1)))) fun t23 σ =>
  stepK (pureR σ (aIndexAddr 1 t17 t23 σ)) fun t24 σ =>
  stepK (pureR σ (aLoad false 1 t24 σ)) fun t25 σ =>
  stepK (pureR σ (aNilCheck t0)) fun t28 σ =>
  stepK (pureR σ (aFieldAddr 3 t28)) fun t29 σ =>
  stepK (pureR σ (aLoad false 1 t29 σ)) fun t30 σ =>
  stepK (pureR σ (aNilCheck t0)) fun t32 σ =>
  stepK (pureR σ (aFieldAddr 3 t32)) fun t33 σ =>
  stepK (pureR σ (aLoad false 1 t33 σ)) fun t34 σ =>
  stepK (pureR σ (aLenK .slice t34 σ)) fun t35 σ =>
  stepK (pureR σ (aBin .sub .prim t35 (.val (Go.Value.int Go.IntKind.i64 1)))) fun t36 σ =>
  stepK (pureR σ (aSlice 1 t30 none (some t36) none)) fun t37 σ =>
  stepK (pureR σ (aNilCheck t0)) fun t38 σ =>
  stepK (pureR σ (aFieldAddr 3 t38)) fun t39 σ =>
  stepK (unitR (aStore 1 t39 t37 σ)) fun _ σ =>
  stepK (pureR σ (aNilCheck t0)) fun t41 σ =>
  stepK (pureR σ (aFieldAddr 5 t41)) fun t42 σ =>
  stepK (pureR σ (aLoad false 1 t42 σ)) fun t43 σ =>
  stepK (pureR σ (aNilCheck t0)) fun t45 σ =>
  stepK (pureR σ (aFieldAddr 2 t45)) fun t46 σ =>
  stepK (pureR σ (aLoad false 1 t46 σ)) fun t47 σ =>
  stepK (pureR σ (aLookup (.int .i64) (.val (.slice none 0 0)) false t47 t25 σ)) fun t49 σ =>
  stepK (pureR σ (aLenK .slice t49 σ)) fun t50 σ =>
  stepK (pureR σ (aBin .sub .prim t43 t50)) fun t51 σ =>
  stepK (pureR σ (aNilCheck t0)) fun t52 σ =>
  stepK (pureR σ (aFieldAddr 5 t52)) fun t53 σ =>
  stepK (unitR (aStore 1 t53 t51 σ)) fun _ σ =>
  stepK (pureR σ (aNilCheck t0)) fun t55 σ =>
  stepK (pureR σ (aFieldAddr 2 t55)) fun t56 σ =>
  stepK (pureR σ (aLoad false 1 t56 σ)) fun t57 σ =>
  stepK ((aMapDelete (.int .i64) t57 t25 σ).map fun σ => (.val (.tuple #[]), σ)) fun _ σ =>
  k (.val (Go.Value.bool Bool.true)) σ
  )) σ) σ) σ) σ) σ) σ
def keep11 : List (Nat × List Nat) := [(0, [0]), (1, [0, 13]), (2, [2]), (3, [0, 3]), (2003, [0, 1, 2, 3, 4, 5, 6, 7, 8, 9, 10, 11, 12]), (4, [0, 3]), (2004, [0, 1, 2, 3, 4, 5, 6, 7, 8, 9, 10, 11, 12, 13, 14]), (5, [0, 3]), (2005, [0, 1, 2, 3, 4, 5, 6, 7, 8, 9, 10, 11, 12, 13, 14]), (6, []), (7, [2])]
noncomputable def body11 : Code := (Go.Proofs.Try.f11).body.getD .skip
theorem F11_eq (t0 : AV) (σ : AHeap) (k kp : AV → AHeap → Prop) : aw Go.Proofs.Try.prog (keepOf keep11) body11 (retK Go.Proofs.Try.prog (Go.Proofs.Try.f11).results.toList k kp) (frameOf 0 [t0]) σ = F11 t0 σ k kp := by kernel_rfl
theorem F11_ev {t0 : AV} {σ : AHeap} {k kp : AV → AHeap → Prop} (h : F11 t0 σ k kp) : Ev Go.Proofs.Try.prog 11 [t0] σ k kp :=
  Ev_of_aw mixed Go.Proofs.Try.func11 (show (Go.Proofs.Try.f11).body = some body11 by kernel_rfl) (by kernel_rfl) (args := [t0]) (of_decide_eq_true (by kernel_rfl)) (keepOf keep11) (by kernel_rfl) (by rw [F11_eq]; exact h)

/-- (*enclave/stack.Store).Get -/
def F12 (t0 t1 : AV) (σ : AHeap) (k kp : AV → AHeap → Prop) : Prop :=
  stepK (aBox t1 σ) fun t3 σ =>
  stepK (aAlloc [.val (.int .u8 0), .val (.int .u8 0), .val (.int .i64 0), .val (.int .i64 0), .val (.int .i64 0), .val (.int .u8 0), .val (.int .i64 0), .val (.int .i64 0), .val (.int .i64 0), .val (.int .i64 0)] σ) fun t4 σ =>
  stepK (pureR σ (aLoad true 4 t3 σ)) fun t10 σ =>
  Ev Go.Proofs.Try.prog 26 [t0, t10] σ (fun t11 σ =>
  stepK (pureR σ (aExtract 0 t11)) fun t12 σ =>
  stepK (pureR σ (aExtract 1 t11)) fun t13 σ =>
  stepK (pureR σ (aBin .neq .prim t13 (.val (Go.Value.int Go.IntKind.i64 0)))) fun t15 σ =>
  condK t15 (
  stepK (pureR σ (aBuild [.val (.int .u8 0), .val (.int .u8 0), .val (.int .i64 0), .val (.int .i64 0), .val (.int .i64 0), .val (.int .u8 0), .val (.int .i64 0), .val (.int .i64 0), .val (.int .i64 0), .val (.int .i64 0)] [])) fun t16 σ =>
  stepK (unitR (aStore 10 t4 t16 σ)) fun _ σ =>
  stepV (aLoad true 10 t4 σ) fun r0 =>
  k (.tup [r0, t13]) σ
  ) (
  stepK (pureR σ (aNilCheck t12)) fun t19 σ =>
  stepK (pureR σ (aLoad true 10 t19 σ)) fun t20 σ =>
  stepK (unitR (aStore 10 t4 t20 σ)) fun _ σ =>
  stepV (aLoad true 10 t4 σ) fun r0 =>
  k (.tup [r0, (.val (Go.Value.int Go.IntKind.i64 0))]) σ
  )) kp
def keep12 : List (Nat × List Nat) := [(0, [0, 3, 4]), (1, [4, 6, 7]), (2, [4, 6, 7, 15]), (3, [4, 5]), (4, [4, 5])]
noncomputable def body12 : Code := (Go.Proofs.Try.f12).body.getD .skip
theorem F12_eq (t0 t1 : AV) (σ : AHeap) (k kp : AV → AHeap → Prop) : aw Go.Proofs.Try.prog (keepOf keep12) body12 (retK Go.Proofs.Try.prog (Go.Proofs.Try.f12).results.toList k kp) (frameOf 0 [t0, t1]) σ = F12 t0 t1 σ k kp := by kernel_rfl
theorem F12_ev {t0 t1 : AV} {σ : AHeap} {k kp : AV → AHeap → Prop} (h : F12 t0 t1 σ k kp) : Ev Go.Proofs.Try.prog 12 [t0, t1] σ k kp :=
  Ev_of_aw mixed Go.Proofs.Try.func12 (show (Go.Proofs.Try.f12).body = some body12 by kernel_rfl) (by kernel_rfl) (args := [t0, t1]) (of_decide_eq_true (by kernel_rfl)) (keepOf keep12) (by kernel_rfl) (by rw [F12_eq]; exact h)

/-- (*enclave/stack.Store).Live -/
def F13 (t0 t1 : AV) (σ : AHeap) (k kp : AV → AHeap → Prop) : Prop :=
  seqW (fun fr σ => (
  k (.val (Go.Value.bool Bool.true)) σ
  )) (fun j1 => (
  stepK (pureR σ (aLenK .slice t1 σ)) fun t10 σ =>
  loopW (fun fr σ again => (
  stepK (pureR σ (aBin .lss .prim (Abs.look fr 11) (Abs.look fr 10))) fun t12 σ =>
  condK t12 (
  stepK (pureR σ (aIndexAddr 1 (Abs.look fr 9) (Abs.look fr 11) σ)) fun t13 σ =>
  stepK (pureR σ (aLoad false 1 t13 σ)) fun t14 σ =>
  stepK (pureR σ (aBin .eql .ptr (Abs.look fr 0) (.val (Go.Value.pointer Option.none)))) fun t16 σ =>
  condK t16 (
  k (.val (Go.Value.bool Bool.false)) σ
  ) (
  stepK (pureR σ (aNilCheck (Abs.look fr 0))) fun t19 σ =>
  stepK (pureR σ (aFieldAddr 2 t19)) fun t20 σ =>
  stepK (pureR σ (aLoad false 1 t20 σ)) fun t21 σ =>
  stepK (pureR σ (aLookup (.int .i64) (.val (.slice none 0 0)) true t21 t14 σ)) fun t23 σ =>
  stepK (pureR σ (aExtract 0 t23)) fun t24 σ =>
  stepK (pureR σ (aExtract 1 t23)) fun t25 σ =>
  stepK (pureR σ (aNot t25)) fun t27 σ =>
  condK t27 (
  k (.val (Go.Value.bool Bool.false)) σ
  ) (
  stepK (pureR σ (aBin .add .prim (Abs.look fr 11) (.val (Go.Value.int Go.IntKind.i64 1)))) fun t28 σ =>
  again [(0, (Abs.look fr 0)), (9, (Abs.look fr 9)), (10, (Abs.look fr 10)), (11, t28)] σ
  )
  )
  ) (
  j1 [(0, (Abs.look fr 0))] σ
  )
  )) [(0, t0), (9, t1), (10, t10), (11, (.val (Go.Value.int Go.IntKind.i64 0)))] σ
  ))
def keep13 : List (Nat × List Nat) := [(0, [0, 1]), (3011, [0]), (1, [0, 9, 10, 11]), (2, [0, 9, 10, 11, 12]), (3, [0, 6, 9, 10, 11]), (4, [0, 6, 9, 10, 11, 16]), (5, [4]), (6, [0, 8, 9, 10, 11]), (7, [0, 9, 10, 11, 27]), (8, [4]), (9, [0, 9, 10, 11]), (1002, [0, 9, 10, 11]), (10, [4])]
noncomputable def body13 : Code := (Go.Proofs.Try.f13).body.getD .skip
theorem F13_eq (t0 t1 : AV) (σ : AHeap) (k kp : AV → AHeap → Prop) : aw Go.Proofs.Try.prog (keepOf keep13) body13 (retK Go.Proofs.Try.prog (Go.Proofs.Try.f13).results.toList k kp) (frameOf 0 [t0, t1]) σ = F13 t0 t1 σ k kp := by kernel_rfl
theorem F13_ev {t0 t1 : AV} {σ : AHeap} {k kp : AV → AHeap → Prop} (h : F13 t0 t1 σ k kp) : Ev Go.Proofs.Try.prog 13 [t0, t1] σ k kp :=
  Ev_of_aw mixed Go.Proofs.Try.func13 (show (Go.Proofs.Try.f13).body = some body13 by kernel_rfl) (by kernel_rfl) (args := [t0, t1]) (of_decide_eq_true (by kernel_rfl)) (keepOf keep13) (by kernel_rfl) (by rw [F13_eq]; exact h)

/-- (*enclave/stack.Store).Regions -/
def F14 (t0 : AV) (σ : AHeap) (k kp : AV → AHeap → Prop) : Prop :=
  stepK (pureR σ (aBin .eql .ptr t0 (.val (Go.Value.pointer Option.none)))) fun t4 σ =>
  condK t4 (
  k (.val (Go.Value.int Go.IntKind.i64 0)) σ
  ) (
  stepK (pureR σ (aNilCheck t0)) fun t6 σ =>
  stepK (pureR σ (aFieldAddr 3 t6)) fun t7 σ =>
  stepK (pureR σ (aLoad false 1 t7 σ)) fun t8 σ =>
  stepK (pureR σ (aLenK .slice t8 σ)) fun t9 σ =>
  k t9 σ
  )
def keep14 : List (Nat × List Nat) := [(0, [0]), (1, [0, 4]), (2, [2]), (3, [2])]
noncomputable def body14 : Code := (Go.Proofs.Try.f14).body.getD .skip
theorem F14_eq (t0 : AV) (σ : AHeap) (k kp : AV → AHeap → Prop) : aw Go.Proofs.Try.prog (keepOf keep14) body14 (retK Go.Proofs.Try.prog (Go.Proofs.Try.f14).results.toList k kp) (frameOf 0 [t0]) σ = F14 t0 σ k kp := by kernel_rfl
theorem F14_ev {t0 : AV} {σ : AHeap} {k kp : AV → AHeap → Prop} (h : F14 t0 σ k kp) : Ev Go.Proofs.Try.prog 14 [t0] σ k kp :=
  Ev_of_aw mixed Go.Proofs.Try.func14 (show (Go.Proofs.Try.f14).body = some body14 by kernel_rfl) (by kernel_rfl) (args := [t0]) (of_decide_eq_true (by kernel_rfl)) (keepOf keep14) (by kernel_rfl) (by rw [F14_eq]; exact h)

/-- (*enclave/stack.Store).Cells -/
def F15 (t0 : AV) (σ : AHeap) (k kp : AV → AHeap → Prop) : Prop :=
  stepK (pureR σ (aBin .eql .ptr t0 (.val (Go.Value.pointer Option.none)))) fun t4 σ =>
  condK t4 (
  k (.val (Go.Value.int Go.IntKind.i64 0)) σ
  ) (
  stepK (pureR σ (aNilCheck t0)) fun t6 σ =>
  stepK (pureR σ (aFieldAddr 5 t6)) fun t7 σ =>
  stepK (pureR σ (aLoad false 1 t7 σ)) fun t8 σ =>
  k t8 σ
  )
def keep15 : List (Nat × List Nat) := [(0, [0]), (1, [0, 4]), (2, [2]), (3, [2])]
noncomputable def body15 : Code := (Go.Proofs.Try.f15).body.getD .skip
theorem F15_eq (t0 : AV) (σ : AHeap) (k kp : AV → AHeap → Prop) : aw Go.Proofs.Try.prog (keepOf keep15) body15 (retK Go.Proofs.Try.prog (Go.Proofs.Try.f15).results.toList k kp) (frameOf 0 [t0]) σ = F15 t0 σ k kp := by kernel_rfl
theorem F15_ev {t0 : AV} {σ : AHeap} {k kp : AV → AHeap → Prop} (h : F15 t0 σ k kp) : Ev Go.Proofs.Try.prog 15 [t0] σ k kp :=
  Ev_of_aw mixed Go.Proofs.Try.func15 (show (Go.Proofs.Try.f15).body = some body15 by kernel_rfl) (by kernel_rfl) (args := [t0]) (of_decide_eq_true (by kernel_rfl)) (keepOf keep15) (by kernel_rfl) (by rw [F15_eq]; exact h)

/-- (*enclave/stack.Store).Most -/
def F16 (t0 : AV) (σ : AHeap) (k kp : AV → AHeap → Prop) : Prop :=
  stepK (pureR σ (aBin .eql .ptr t0 (.val (Go.Value.pointer Option.none)))) fun t4 σ =>
  condK t4 (
  k (.val (Go.Value.int Go.IntKind.i64 0)) σ
  ) (
  stepK (pureR σ (aNilCheck t0)) fun t6 σ =>
  stepK (pureR σ (aFieldAddr 6 t6)) fun t7 σ =>
  stepK (pureR σ (aLoad false 1 t7 σ)) fun t8 σ =>
  k t8 σ
  )
def keep16 : List (Nat × List Nat) := [(0, [0]), (1, [0, 4]), (2, [2]), (3, [2])]
noncomputable def body16 : Code := (Go.Proofs.Try.f16).body.getD .skip
theorem F16_eq (t0 : AV) (σ : AHeap) (k kp : AV → AHeap → Prop) : aw Go.Proofs.Try.prog (keepOf keep16) body16 (retK Go.Proofs.Try.prog (Go.Proofs.Try.f16).results.toList k kp) (frameOf 0 [t0]) σ = F16 t0 σ k kp := by kernel_rfl
theorem F16_ev {t0 : AV} {σ : AHeap} {k kp : AV → AHeap → Prop} (h : F16 t0 σ k kp) : Ev Go.Proofs.Try.prog 16 [t0] σ k kp :=
  Ev_of_aw mixed Go.Proofs.Try.func16 (show (Go.Proofs.Try.f16).body = some body16 by kernel_rfl) (by kernel_rfl) (args := [t0]) (of_decide_eq_true (by kernel_rfl)) (keepOf keep16) (by kernel_rfl) (by rw [F16_eq]; exact h)

/-- enclave/enclaveref19.New -/
def F17 (t0 : AV) (σ : AHeap) (k kp : AV → AHeap → Prop) : Prop :=
  stepK (aBox t0 σ) fun t1 σ =>
  stepK (aAlloc [.val (.int .i64 0), .val (.int .i64 0), .val (.slice none 0 0), .val (.int .i64 0)] σ) fun t2 σ =>
  stepK (pureR σ (aFieldAddr 0 t1)) fun t3 σ =>
  stepK (pureR σ (aLoad false 1 t3 σ)) fun t4 σ =>
  stepK (pureR σ (aFieldAddr 1 t1)) fun t6 σ =>
  stepK (pureR σ (aLoad false 1 t6 σ)) fun t7 σ =>
  stepK (pureR σ (aBuild [.val (.bool false), .val (.slice none 0 0)] [(0, 1, (.val (Go.Value.bool Bool.true)))])) fun t9 σ =>
  stepK (pureR σ (aBuildSl 1 2 [.val (.bool false), .val (.slice none 0 0)] [(0, t9)])) fun t10 σ =>
  Ev Go.Proofs.Try.prog 27 [t4, (.val (Go.Value.int Go.IntKind.i64 1)), (.val (Go.Value.int Go.IntKind.i64 1048576))] σ (fun t5 σ =>
  (stepK (pureR σ (aLoad false 1 t6 σ)) (fun y θ => y = t7 ∧ θ = σ)) ∧ (
  Ev Go.Proofs.Try.prog 27 [t7, (.val (Go.Value.int Go.IntKind.i64 0)), (.val (Go.Value.int Go.IntKind.i64 4194304))] σ (fun t8 σ =>
  stepK (pureR σ (aBuild [.val (.int .i64 0), .val (.int .i64 0), .val (.slice none 0 0), .val (.int .i64 0)] [(0, 1, t5), (1, 1, t8), (2, 1, t10)])) fun t11 σ =>
  stepK (unitR (aStore 4 t2 t11 σ)) fun _ σ =>
  stepV (aLoad true 4 t2 σ) fun r0 =>
  k r0 σ) kp)) kp
def keep17 : List (Nat × List Nat) := [(0, [1, 2]), (1, [2]), (2001, [0, 1, 3, 4, 6, 7, 2, 5, 8, 9]), (101002, [4])]
noncomputable def body17 : Code := (Go.Proofs.Try.f17).body.getD .skip
theorem F17_eq (t0 : AV) (σ : AHeap) (k kp : AV → AHeap → Prop) : aw Go.Proofs.Try.prog (keepOf keep17) body17 (retK Go.Proofs.Try.prog (Go.Proofs.Try.f17).results.toList k kp) (frameOf 0 [t0]) σ = F17 t0 σ k kp := by kernel_rfl
theorem F17_ev {t0 : AV} {σ : AHeap} {k kp : AV → AHeap → Prop} (h : F17 t0 σ k kp) : Ev Go.Proofs.Try.prog 17 [t0] σ k kp :=
  Ev_of_aw mixed Go.Proofs.Try.func17 (show (Go.Proofs.Try.f17).body = some body17 by kernel_rfl) (by kernel_rfl) (args := [t0]) (of_decide_eq_true (by kernel_rfl)) (keepOf keep17) (by kernel_rfl) (by rw [F17_eq]; exact h)

/-- (enclave/enclaveref19.S).Push -/
def F18 (t0 : AV) (σ : AHeap) (k kp : AV → AHeap → Prop) : Prop :=
  stepK (aBox t0 σ) fun t1 σ =>
  stepK (aAlloc [.val (.int .i64 0), .val (.int .i64 0), .val (.slice none 0 0), .val (.int .i64 0)] σ) fun t2 σ =>
  stepK (pureR σ (aLoad true 4 t1 σ)) fun t8 σ =>
  Ev Go.Proofs.Try.prog 24 [t8] σ (fun t9 σ =>
  stepK (pureR σ (aExtract 0 t9)) fun t10 σ =>
  stepK (pureR σ (aExtract 1 t9)) fun t11 σ =>
  stepK (pureR σ (aFieldAddr 0 t1)) fun t13 σ =>
  stepK (pureR σ (aLoad false 1 t13 σ)) fun t14 σ =>
  stepK (pureR σ (aBin .geq .prim t10 t14)) fun t15 σ =>
  condK t15 (
  stepK (pureR σ (aLoad true 4 t1 σ)) fun t16 σ =>
  stepK (unitR (aStore 4 t2 t16 σ)) fun _ σ =>
  stepV (aLoad true 4 t2 σ) fun r0 =>
  k (.tup [r0, (.val (Go.Value.int Go.IntKind.i64 0)), (.val (Go.Value.bool Bool.false))]) σ
  ) (
  stepK (aBuildSlice 0 2 [.val (.bool false), .val (.slice none 0 0)] [] σ) fun t17 σ =>
  stepK (pureR σ (aFieldAddr 2 t1)) fun t18 σ =>
  stepK (pureR σ (aLoad false 1 t18 σ)) fun t19 σ =>
  stepK (aAppend 2 32 t17 t19 σ) fun t20 σ =>
  stepK (pureR σ (aBuild [.val (.bool false), .val (.slice none 0 0)] [(0, 1, (.val (Go.Value.bool Bool.true)))])) fun t21 σ =>
  stepK (aBuildSlice 1 2 [.val (.bool false), .val (.slice none 0 0)] [(0, t21)] σ) fun t22 σ =>
  stepK (aAppend 2 32 t20 t22 σ) fun t23 σ =>
  stepK (pureR σ (aFieldAddr 2 t1)) fun t24 σ =>
  stepK (unitR (aStore 1 t24 t23 σ)) fun _ σ =>
  stepK (pureR σ (aLoad true 4 t1 σ)) fun t25 σ =>
  stepK (pureR σ (aFieldAddr 2 t1)) fun t26 σ =>
  stepK (pureR σ (aLoad false 1 t26 σ)) fun t27 σ =>
  stepK (pureR σ (aLenK .slice t27 σ)) fun t28 σ =>
  stepK (pureR σ (aBin .sub .prim t28 (.val (Go.Value.int Go.IntKind.i64 1)))) fun t29 σ =>
  stepK (unitR (aStore 4 t2 t25 σ)) fun _ σ =>
  (stepK (pureR σ (aLoad false 1 t26 σ)) (fun y θ => y = t27 ∧ θ = σ)) ∧ (
  (stepK (pureR σ (aLenK .slice t27 σ)) (fun y θ => y = t28 ∧ θ = σ)) ∧ (
  stepV (aLoad true 4 t2 σ) fun r0 =>
  k (.tup [r0, t29, (.val (Go.Value.bool Bool.true))]) σ
  )))) kp
def keep18 : List (Nat × List Nat) := [(0, [1, 2]), (1, [1, 2, 5]), (2, [1, 2, 15]), (3, [2, 3, 4]), (4, [1, 2]), (5, [2, 3, 4]), (2005, [0, 1, 2, 3, 4, 5, 6, 7]), (105005, [2, 3])]
noncomputable def body18 : Code := (Go.Proofs.Try.f18).body.getD .skip
theorem F18_eq (t0 : AV) (σ : AHeap) (k kp : AV → AHeap → Prop) : aw Go.Proofs.Try.prog (keepOf keep18) body18 (retK Go.Proofs.Try.prog (Go.Proofs.Try.f18).results.toList k kp) (frameOf 0 [t0]) σ = F18 t0 σ k kp := by kernel_rfl
theorem F18_ev {t0 : AV} {σ : AHeap} {k kp : AV → AHeap → Prop} (h : F18 t0 σ k kp) : Ev Go.Proofs.Try.prog 18 [t0] σ k kp :=
  Ev_of_aw mixed Go.Proofs.Try.func18 (show (Go.Proofs.Try.f18).body = some body18 by kernel_rfl) (by kernel_rfl) (args := [t0]) (of_decide_eq_true (by kernel_rfl)) (keepOf keep18) (by kernel_rfl) (by rw [F18_eq]; exact h)

/-- (enclave/enclaveref19.S).Pop -/
def F19 (t0 : AV) (σ : AHeap) (k kp : AV → AHeap → Prop) : Prop :=
  stepK (aBox t0 σ) fun t1 σ =>
  stepK (aAlloc [.val (.int .i64 0), .val (.int .i64 0), .val (.slice none 0 0), .val (.int .i64 0)] σ) fun t2 σ =>
  stepK (pureR σ (aLoad true 4 t1 σ)) fun t8 σ =>
  Ev Go.Proofs.Try.prog 24 [t8] σ (fun t9 σ =>
  stepK (pureR σ (aExtract 0 t9)) fun t10 σ =>
  stepK (pureR σ (aExtract 1 t9)) fun t11 σ =>
  stepK (pureR σ (aBin .lss .prim t10 (.val (Go.Value.int Go.IntKind.i64 2)))) fun t13 σ =>
  condK t13 (
  stepK (pureR σ (aLoad true 4 t1 σ)) fun t14 σ =>
  stepK (unitR (aStore 4 t2 t14 σ)) fun _ σ =>
  stepV (aLoad true 4 t2 σ) fun r0 =>
  k (.tup [r0, (.val (Go.Value.bool Bool.false))]) σ
  ) (
  stepK (pureR σ (aFieldAddr 2 t1)) fun t15 σ =>
  stepK (pureR σ (aLoad false 1 t15 σ)) fun t16 σ =>
  stepK (pureR σ (aLenK .slice t16 σ)) fun t17 σ =>
  stepK (pureR σ (aBin .sub .prim t17 (.val (Go.Value.int Go.IntKind.i64 1)))) fun t18 σ =>
  seqW (fun fr σ => (
  stepK (pureR σ (aLoad true 4 (Abs.look fr 1) σ)) fun t28 σ =>
  stepK (pureR σ (aBuild [.val (.bool false), .val (.slice none 0 0)] [])) fun t30 σ =>
  Ev Go.Proofs.Try.prog 28 [t28, (Abs.look fr 6), t30] σ (fun t31 σ =>
  stepK (unitR (aStore 4 (Abs.look fr 2) t31 σ)) fun _ σ =>
  stepV (aLoad true 4 (Abs.look fr 2) σ) fun r0 =>
  k (.tup [r0, (.val (Go.Value.bool Bool.true))]) σ
  ) kp)) (fun j1 => (
  loopW (fun fr σ again => (
  stepK (pureR σ (aFieldAddr 2 (Abs.look fr 1))) fun t19 σ =>
  stepK (pureR σ (aLoad false 1 t19 σ)) fun t20 σ =>
  stepK (pureR σ (aIndexAddr 2 t20 (Abs.look fr 6) σ)) fun t22 σ =>
  stepK (pureR σ (aFieldAddr 0 t22)) fun t23 σ =>
  stepK (pureR σ (aLoad false 1 t23 σ)) fun t24 σ =>
  stepK (pureR σ (aNot t24)) fun t25 σ =>
  condK t25 (
  stepK (pureR σ (aBin .sub .prim (Abs.look fr 6) (.val (Go.Value.int Go.IntKind.i64 1)))) fun t27 σ =>
  again [(1, (Abs.look fr 1)), (2, (Abs.look fr 2)), (6, t27)] σ
  ) (
  j1 [(1, (Abs.look fr 1)), (2, (Abs.look fr 2)), (6, (Abs.look fr 6))] σ
  )
  )) [(1, t1), (2, t2), (6, t18)] σ
  ))
  )) kp
def keep19 : List (Nat × List Nat) := [(0, [1, 2]), (1, [1, 2, 4]), (2, [1, 2, 13]), (3, [2, 3]), (4, [1, 2, 6]), (3008, [1, 2, 6]), (5, [1, 2, 6, 25]), (6, [1, 2, 6]), (1005, [1, 2, 6]), (7, [2, 3])]
noncomputable def body19 : Code := (Go.Proofs.Try.f19).body.getD .skip
theorem F19_eq (t0 : AV) (σ : AHeap) (k kp : AV → AHeap → Prop) : aw Go.Proofs.Try.prog (keepOf keep19) body19 (retK Go.Proofs.Try.prog (Go.Proofs.Try.f19).results.toList k kp) (frameOf 0 [t0]) σ = F19 t0 σ k kp := by kernel_rfl
theorem F19_ev {t0 : AV} {σ : AHeap} {k kp : AV → AHeap → Prop} (h : F19 t0 σ k kp) : Ev Go.Proofs.Try.prog 19 [t0] σ k kp :=
  Ev_of_aw mixed Go.Proofs.Try.func19 (show (Go.Proofs.Try.f19).body = some body19 by kernel_rfl) (by kernel_rfl) (args := [t0]) (of_decide_eq_true (by kernel_rfl)) (keepOf keep19) (by kernel_rfl) (by rw [F19_eq]; exact h)

/-- (enclave/enclaveref19.S).Put -/
def F20 (t0 t1 t2 : AV) (σ : AHeap) (k kp : AV → AHeap → Prop) : Prop :=
  stepK (aBox t0 σ) fun t3 σ =>
  stepK (aBox t2 σ) fun t5 σ =>
  stepK (aAlloc [.val (.int .i64 0), .val (.int .i64 0), .val (.slice none 0 0), .val (.int .i64 0)] σ) fun t6 σ =>
  stepK (aAlloc [.val (.int .u8 0), .val (.int .i64 0), .val (.int .i64 0), .val (.int .i64 0)] σ) fun t7 σ =>
  stepK (pureR σ (aLoad true 4 t3 σ)) fun t12 σ =>
  Ev Go.Proofs.Try.prog 25 [t12, t1] σ (fun t14 σ =>
  stepK (pureR σ (aNot t14)) fun t15 σ =>
  condK t15 (
  stepK (pureR σ (aLoad true 4 t3 σ)) fun t16 σ =>
  stepK (pureR σ (aBuild [.val (.int .u8 0), .val (.int .i64 0), .val (.int .i64 0), .val (.int .i64 0)] [])) fun t17 σ =>
  stepK (unitR (aStore 4 t6 t16 σ)) fun _ σ =>
  stepK (unitR (aStore 4 t7 t17 σ)) fun _ σ =>
  stepV (aLoad true 4 t6 σ) fun r0 =>
  stepV (aLoad true 4 t7 σ) fun r1 =>
  k (.tup [r0, r1, (.val (Go.Value.int Go.IntKind.i64 6))]) σ
  ) (
  stepK (pureR σ (aLoad true 4 t3 σ)) fun t19 σ =>
  Ev Go.Proofs.Try.prog 24 [t19] σ (fun t20 σ =>
  stepK (pureR σ (aExtract 0 t20)) fun t21 σ =>
  stepK (pureR σ (aExtract 1 t20)) fun t22 σ =>
  stepK (pureR σ (aFieldAddr 1 t3)) fun t24 σ =>
  stepK (pureR σ (aLoad false 1 t24 σ)) fun t25 σ =>
  stepK (pureR σ (aBin .geq .prim t22 t25)) fun t26 σ =>
  condK t26 (
  stepK (pureR σ (aLoad true 4 t3 σ)) fun t27 σ =>
  stepK (pureR σ (aBuild [.val (.int .u8 0), .val (.int .i64 0), .val (.int .i64 0), .val (.int .i64 0)] [])) fun t28 σ =>
  stepK (unitR (aStore 4 t6 t27 σ)) fun _ σ =>
  stepK (unitR (aStore 4 t7 t28 σ)) fun _ σ =>
  stepV (aLoad true 4 t6 σ) fun r0 =>
  stepV (aLoad true 4 t7 σ) fun r1 =>
  k (.tup [r0, r1, (.val (Go.Value.int Go.IntKind.i64 3))]) σ
  ) (
  stepK (pureR σ (aBuildSl 0 10 [.val (.int .u8 0), .val (.int .u8 0), .val (.int .i64 0), .val (.int .i64 0), .val (.int .i64 0), .val (.int .u8 0), .val (.int .i64 0), .val (.int .i64 0), .val (.int .i64 0), .val (.int .i64 0)] [])) fun t29 σ =>
  stepK (pureR σ (aFieldAddr 2 t3)) fun t30 σ =>
  stepK (pureR σ (aLoad false 1 t30 σ)) fun t31 σ =>
  stepK (pureR σ (aIndexAddr 2 t31 t1 σ)) fun t33 σ =>
  stepK (pureR σ (aFieldAddr 1 t33)) fun t34 σ =>
  stepK (pureR σ (aLoad false 1 t34 σ)) fun t35 σ =>
  stepK (pureR σ (aLoad true 10 t5 σ)) fun t37 σ =>
  stepK (pureR σ (aBuildSl 1 10 [.val (.int .u8 0), .val (.int .u8 0), .val (.int .i64 0), .val (.int .i64 0), .val (.int .i64 0), .val (.int .u8 0), .val (.int .i64 0), .val (.int .i64 0), .val (.int .i64 0), .val (.int .i64 0)] [(0, t37)])) fun t38 σ =>
  stepK (aAppend 10 80 t29 t35 σ) fun t36 σ =>
  (stepK (pureR σ (aLoad true 10 t5 σ)) (fun y θ => y = t37 ∧ θ = σ)) ∧ (
  stepK (aAppend 10 80 t36 t38 σ) fun t39 σ =>
  stepK (pureR σ (aLoad true 4 t3 σ)) fun t40 σ =>
  stepK (pureR σ (aBuild [.val (.bool false), .val (.slice none 0 0)] [(0, 1, (.val (Go.Value.bool Bool.true))), (1, 1, t39)])) fun t43 σ =>
  Ev Go.Proofs.Try.prog 28 [t40, t1, t43] σ (fun t44 σ =>
  stepK (unitR (aStore 4 t3 t44 σ)) fun _ σ =>
  seqW (fun fr σ => (
  stepK (pureR σ (aLoad true 4 (Abs.look fr 3) σ)) fun t53 σ =>
  stepK (pureR σ (aLenK .slice (Abs.look fr 11) σ)) fun t56 σ =>
  stepK (pureR σ (aBin .sub .prim t56 (.val (Go.Value.int Go.IntKind.i64 1)))) fun t57 σ =>
  stepK (pureR σ (aBuild [.val (.int .u8 0), .val (.int .i64 0), .val (.int .i64 0), .val (.int .i64 0)] [(0, 1, (.val (Go.Value.int Go.IntKind.u8 2))), (2, 1, (Abs.look fr 1)), (3, 1, t57)])) fun t58 σ =>
  stepK (unitR (aStore 4 (Abs.look fr 6) t53 σ)) fun _ σ =>
  stepK (unitR (aStore 4 (Abs.look fr 7) t58 σ)) fun _ σ =>
  stepV (aLoad true 4 (Abs.look fr 6) σ) fun r0 =>
  stepV (aLoad true 4 (Abs.look fr 7) σ) fun r1 =>
  k (.tup [r0, r1, (.val (Go.Value.int Go.IntKind.i64 0))]) σ
  )) (fun j1 => (
  stepK (pureR σ (aBin .add .prim t22 (.val (Go.Value.int Go.IntKind.i64 1)))) fun t46 σ =>
  stepK (pureR σ (aFieldAddr 3 t3)) fun t47 σ =>
  stepK (pureR σ (aLoad false 1 t47 σ)) fun t48 σ =>
  stepK (pureR σ (aBin .gtr .prim t46 t48)) fun t49 σ =>
  condK t49 (
  stepK (pureR σ (aBin .add .prim t22 (.val (Go.Value.int Go.IntKind.i64 1)))) fun t51 σ =>
  stepK (pureR σ (aFieldAddr 3 t3)) fun t52 σ =>
  stepK (unitR (aStore 1 t52 t51 σ)) fun _ σ =>
  j1 [(1, t1), (3, t3), (6, t6), (7, t7), (11, t39)] σ
  ) (
  j1 [(1, t1), (3, t3), (6, t6), (7, t7), (11, t39)] σ
  )
  ))
  ) kp))
  ) kp)) kp
def keep20 : List (Nat × List Nat) := [(0, [1, 3, 5, 6, 7]), (1, [1, 3, 5, 6, 7, 15]), (2, [6, 7, 8]), (3, [1, 3, 5, 6, 7, 10]), (4, [1, 3, 5, 6, 7, 10, 26]), (5, [6, 7, 8]), (6, [1, 3, 6, 7, 10, 11]), (2006, [0, 1, 2, 3, 4, 5, 6, 8, 9, 7, 10, 11]), (106007, [8]), (7, [1, 3, 6, 7, 10, 11]), (3011, [1, 3, 6, 7, 11]), (8, [1, 3, 6, 7, 10, 11, 49]), (9, [1, 3, 6, 7, 11]), (10, [6, 7, 8])]
noncomputable def body20 : Code := (Go.Proofs.Try.f20).body.getD .skip
theorem F20_eq (t0 t1 t2 : AV) (σ : AHeap) (k kp : AV → AHeap → Prop) : aw Go.Proofs.Try.prog (keepOf keep20) body20 (retK Go.Proofs.Try.prog (Go.Proofs.Try.f20).results.toList k kp) (frameOf 0 [t0, t1, t2]) σ = F20 t0 t1 t2 σ k kp := by kernel_rfl
theorem F20_ev {t0 t1 t2 : AV} {σ : AHeap} {k kp : AV → AHeap → Prop} (h : F20 t0 t1 t2 σ k kp) : Ev Go.Proofs.Try.prog 20 [t0, t1, t2] σ k kp :=
  Ev_of_aw mixed Go.Proofs.Try.func20 (show (Go.Proofs.Try.f20).body = some body20 by kernel_rfl) (by kernel_rfl) (args := [t0, t1, t2]) (of_decide_eq_true (by kernel_rfl)) (keepOf keep20) (by kernel_rfl) (by rw [F20_eq]; exact h)

/-- (enclave/enclaveref19.S).Get -/
def F21 (t0 t1 : AV) (σ : AHeap) (k kp : AV → AHeap → Prop) : Prop :=
  stepK (aBox t0 σ) fun t2 σ =>
  stepK (aBox t1 σ) fun t3 σ =>
  stepK (aAlloc [.val (.int .u8 0), .val (.int .u8 0), .val (.int .i64 0), .val (.int .i64 0), .val (.int .i64 0), .val (.int .u8 0), .val (.int .i64 0), .val (.int .i64 0), .val (.int .i64 0), .val (.int .i64 0)] σ) fun t4 σ =>
  stepK (pureR σ (aLoad true 4 t2 σ)) fun t7 σ =>
  stepK (pureR σ (aLoad true 4 t3 σ)) fun t8 σ =>
  Ev Go.Proofs.Try.prog 29 [t7, t8] σ (fun t9 σ =>
  stepK (pureR σ (aBin .neq .prim t9 (.val (Go.Value.int Go.IntKind.i64 0)))) fun t11 σ =>
  condK t11 (
  stepK (pureR σ (aBuild [.val (.int .u8 0), .val (.int .u8 0), .val (.int .i64 0), .val (.int .i64 0), .val (.int .i64 0), .val (.int .u8 0), .val (.int .i64 0), .val (.int .i64 0), .val (.int .i64 0), .val (.int .i64 0)] [])) fun t12 σ =>
  stepK (unitR (aStore 10 t4 t12 σ)) fun _ σ =>
  stepV (aLoad true 10 t4 σ) fun r0 =>
  k (.tup [r0, t9]) σ
  ) (
  stepK (pureR σ (aFieldAddr 2 t2)) fun t14 σ =>
  stepK (pureR σ (aLoad false 1 t14 σ)) fun t15 σ =>
  stepK (pureR σ (aFieldAddr 2 t3)) fun t16 σ =>
  stepK (pureR σ (aLoad false 1 t16 σ)) fun t17 σ =>
  stepK (pureR σ (aIndexAddr 2 t15 t17 σ)) fun t18 σ =>
  stepK (pureR σ (aFieldAddr 1 t18)) fun t19 σ =>
  stepK (pureR σ (aLoad false 1 t19 σ)) fun t20 σ =>
  stepK (pureR σ (aFieldAddr 3 t3)) fun t21 σ =>
  stepK (pureR σ (aLoad false 1 t21 σ)) fun t22 σ =>
  stepK (pureR σ (aIndexAddr 10 t20 t22 σ)) fun t23 σ =>
  stepK (pureR σ (aLoad true 10 t23 σ)) fun t24 σ =>
  stepK (unitR (aStore 10 t4 t24 σ)) fun _ σ =>
  stepV (aLoad true 10 t4 σ) fun r0 =>
  k (.tup [r0, (.val (Go.Value.int Go.IntKind.i64 0))]) σ
  )) kp
def keep21 : List (Nat × List Nat) := [(0, [2, 3, 4]), (1, [2, 3, 4, 6]), (2, [2, 3, 4, 6, 11]), (3, [4, 5]), (4, [4, 5]), (2004, [0, 1, 2, 3, 4, 5, 6, 7, 8, 9, 10, 11, 12])]
noncomputable def body21 : Code := (Go.Proofs.Try.f21).body.getD .skip
theorem F21_eq (t0 t1 : AV) (σ : AHeap) (k kp : AV → AHeap → Prop) : aw Go.Proofs.Try.prog (keepOf keep21) body21 (retK Go.Proofs.Try.prog (Go.Proofs.Try.f21).results.toList k kp) (frameOf 0 [t0, t1]) σ = F21 t0 t1 σ k kp := by kernel_rfl
theorem F21_ev {t0 t1 : AV} {σ : AHeap} {k kp : AV → AHeap → Prop} (h : F21 t0 t1 σ k kp) : Ev Go.Proofs.Try.prog 21 [t0, t1] σ k kp :=
  Ev_of_aw mixed Go.Proofs.Try.func21 (show (Go.Proofs.Try.f21).body = some body21 by kernel_rfl) (by kernel_rfl) (args := [t0, t1]) (of_decide_eq_true (by kernel_rfl)) (keepOf keep21) (by kernel_rfl) (by rw [F21_eq]; exact h)

/-- (enclave/enclaveref19.S).Set -/
def F22 (t0 t1 t2 : AV) (σ : AHeap) (k kp : AV → AHeap → Prop) : Prop :=
  stepK (aBox t0 σ) fun t3 σ =>
  stepK (aBox t1 σ) fun t4 σ =>
  stepK (aBox t2 σ) fun t5 σ =>
  stepK (aAlloc [.val (.int .i64 0), .val (.int .i64 0), .val (.slice none 0 0), .val (.int .i64 0)] σ) fun t6 σ =>
  stepK (pureR σ (aLoad true 4 t3 σ)) fun t10 σ =>
  stepK (pureR σ (aLoad true 4 t4 σ)) fun t11 σ =>
  Ev Go.Proofs.Try.prog 29 [t10, t11] σ (fun t12 σ =>
  stepK (pureR σ (aBin .neq .prim t12 (.val (Go.Value.int Go.IntKind.i64 0)))) fun t14 σ =>
  condK t14 (
  stepK (pureR σ (aLoad true 4 t3 σ)) fun t15 σ =>
  stepK (unitR (aStore 4 t6 t15 σ)) fun _ σ =>
  stepV (aLoad true 4 t6 σ) fun r0 =>
  k (.tup [r0, t12]) σ
  ) (
  stepK (aBuildSlice 0 10 [.val (.int .u8 0), .val (.int .u8 0), .val (.int .i64 0), .val (.int .i64 0), .val (.int .i64 0), .val (.int .u8 0), .val (.int .i64 0), .val (.int .i64 0), .val (.int .i64 0), .val (.int .i64 0)] [] σ) fun t17 σ =>
  stepK (pureR σ (aFieldAddr 2 t3)) fun t18 σ =>
  stepK (pureR σ (aLoad false 1 t18 σ)) fun t19 σ =>
  stepK (pureR σ (aFieldAddr 2 t4)) fun t20 σ =>
  stepK (pureR σ (aLoad false 1 t20 σ)) fun t21 σ =>
  stepK (pureR σ (aIndexAddr 2 t19 t21 σ)) fun t22 σ =>
  stepK (pureR σ (aFieldAddr 1 t22)) fun t23 σ =>
  stepK (pureR σ (aLoad false 1 t23 σ)) fun t24 σ =>
  stepK (aAppend 10 80 t17 t24 σ) fun t25 σ =>
  stepK (pureR σ (aFieldAddr 3 t4)) fun t27 σ =>
  stepK (pureR σ (aLoad false 1 t27 σ)) fun t28 σ =>
  stepK (pureR σ (aLoad true 10 t5 σ)) fun t29 σ =>
  stepK (pureR σ (aIndexAddr 10 t25 t28 σ)) fun t30 σ =>
  stepK (unitR (aStore 10 t30 t29 σ)) fun _ σ =>
  stepK (pureR σ (aLoad true 4 t3 σ)) fun t31 σ =>
  stepK (pureR σ (aFieldAddr 2 t4)) fun t32 σ =>
  stepK (pureR σ (aLoad false 1 t32 σ)) fun t33 σ =>
  stepK (pureR σ (aBuild [.val (.bool false), .val (.slice none 0 0)] [(0, 1, (.val (Go.Value.bool Bool.true))), (1, 1, t25)])) fun t35 σ =>
  Ev Go.Proofs.Try.prog 28 [t31, t33, t35] σ (fun t36 σ =>
  stepK (unitR (aStore 4 t6 t36 σ)) fun _ σ =>
  stepV (aLoad true 4 t6 σ) fun r0 =>
  k (.tup [r0, (.val (Go.Value.int Go.IntKind.i64 0))]) σ
  ) kp)) kp
def keep22 : List (Nat × List Nat) := [(0, [3, 4, 5, 6]), (1, [3, 4, 5, 6, 8]), (2, [3, 4, 5, 6, 8, 14]), (3, [6, 7]), (4, [3, 4, 5, 6, 9]), (5, [3, 4, 6, 9]), (6, [6, 7])]
noncomputable def body22 : Code := (Go.Proofs.Try.f22).body.getD .skip
theorem F22_eq (t0 t1 t2 : AV) (σ : AHeap) (k kp : AV → AHeap → Prop) : aw Go.Proofs.Try.prog (keepOf keep22) body22 (retK Go.Proofs.Try.prog (Go.Proofs.Try.f22).results.toList k kp) (frameOf 0 [t0, t1, t2]) σ = F22 t0 t1 t2 σ k kp := by kernel_rfl
theorem F22_ev {t0 t1 t2 : AV} {σ : AHeap} {k kp : AV → AHeap → Prop} (h : F22 t0 t1 t2 σ k kp) : Ev Go.Proofs.Try.prog 22 [t0, t1, t2] σ k kp :=
  Ev_of_aw mixed Go.Proofs.Try.func22 (show (Go.Proofs.Try.f22).body = some body22 by kernel_rfl) (by kernel_rfl) (args := [t0, t1, t2]) (of_decide_eq_true (by kernel_rfl)) (keepOf keep22) (by kernel_rfl) (by rw [F22_eq]; exact h)

/-- (*enclave/stack.Store).Set -/
def F23 (t0 t1 t2 : AV) (σ : AHeap) (k kp : AV → AHeap → Prop) : Prop :=
  stepK (aBox t1 σ) fun t4 σ =>
  stepK (aBox t2 σ) fun t5 σ =>
  stepK (pureR σ (aLoad true 4 t4 σ)) fun t11 σ =>
  Ev Go.Proofs.Try.prog 26 [t0, t11] σ (fun t12 σ =>
  stepK (pureR σ (aExtract 0 t12)) fun t13 σ =>
  stepK (pureR σ (aExtract 1 t12)) fun t14 σ =>
  seqW (fun fr σ => (
  k (Abs.look fr 8) σ
  )) (fun j1 => (
  stepK (pureR σ (aBin .eql .prim t14 (.val (Go.Value.int Go.IntKind.i64 0)))) fun t16 σ =>
  condK t16 (
  stepK (pureR σ (aLoad true 10 t5 σ)) fun t18 σ =>
  stepK (pureR σ (aNilCheck t13)) fun t19 σ =>
  stepK (unitR (aStore 10 t19 t18 σ)) fun _ σ =>
  j1 [(8, t14)] σ
  ) (
  j1 [(8, t14)] σ
  )
  ))) kp
def keep23 : List (Nat × List Nat) := [(0, [0, 4, 5]), (1, [5, 7, 8]), (3005, [8]), (2, [5, 7, 8, 16]), (3, [8]), (4, [6])]
noncomputable def body23 : Code := (Go.Proofs.Try.f23).body.getD .skip
theorem F23_eq (t0 t1 t2 : AV) (σ : AHeap) (k kp : AV → AHeap → Prop) : aw Go.Proofs.Try.prog (keepOf keep23) body23 (retK Go.Proofs.Try.prog (Go.Proofs.Try.f23).results.toList k kp) (frameOf 0 [t0, t1, t2]) σ = F23 t0 t1 t2 σ k kp := by kernel_rfl
theorem F23_ev {t0 t1 t2 : AV} {σ : AHeap} {k kp : AV → AHeap → Prop} (h : F23 t0 t1 t2 σ k kp) : Ev Go.Proofs.Try.prog 23 [t0, t1, t2] σ k kp :=
  Ev_of_aw mixed Go.Proofs.Try.func23 (show (Go.Proofs.Try.f23).body = some body23 by kernel_rfl) (by kernel_rfl) (args := [t0, t1, t2]) (of_decide_eq_true (by kernel_rfl)) (keepOf keep23) (by kernel_rfl) (by rw [F23_eq]; exact h)

/-- (enclave/enclaveref19.S).Count -/
def F24 (t0 : AV) (σ : AHeap) (k kp : AV → AHeap → Prop) : Prop :=
  stepK (aBox t0 σ) fun t1 σ =>
  seqW (fun fr σ => (
  k (.tup [(Abs.look fr 4), (Abs.look fr 5)]) σ
  )) (fun j1 => (
  stepK (pureR σ (aFieldAddr 2 t1)) fun t7 σ =>
  stepK (pureR σ (aLoad false 1 t7 σ)) fun t8 σ =>
  stepK (pureR σ (aLenK .slice t8 σ)) fun t9 σ =>
  loopW (fun fr σ again => (
  stepK (pureR σ (aBin .lss .prim (Abs.look fr 10) (Abs.look fr 9))) fun t11 σ =>
  condK t11 (
  seqW (fun fr σ => (
  stepK (pureR σ (aBin .add .prim (Abs.look fr 10) (.val (Go.Value.int Go.IntKind.i64 1)))) fun t30 σ =>
  again [(1, (Abs.look fr 1)), (4, (Abs.look fr 4)), (5, (Abs.look fr 5)), (9, (Abs.look fr 9)), (10, t30)] σ
  )) (fun j2 => (
  stepK (pureR σ (aFieldAddr 2 (Abs.look fr 1))) fun t13 σ =>
  stepK (pureR σ (aLoad false 1 t13 σ)) fun t14 σ =>
  stepK (pureR σ (aIndexAddr 2 t14 (Abs.look fr 10) σ)) fun t16 σ =>
  stepK (pureR σ (aFieldAddr 0 t16)) fun t17 σ =>
  stepK (pureR σ (aLoad false 1 t17 σ)) fun t18 σ =>
  condK t18 (
  stepK (pureR σ (aBin .add .prim (Abs.look fr 4) (.val (Go.Value.int Go.IntKind.i64 1)))) fun t20 σ =>
  stepK (pureR σ (aFieldAddr 2 (Abs.look fr 1))) fun t22 σ =>
  stepK (pureR σ (aLoad false 1 t22 σ)) fun t23 σ =>
  stepK (pureR σ (aIndexAddr 2 t23 (Abs.look fr 10) σ)) fun t25 σ =>
  stepK (pureR σ (aFieldAddr 1 t25)) fun t26 σ =>
  stepK (pureR σ (aLoad false 1 t26 σ)) fun t27 σ =>
  stepK (pureR σ (aLenK .slice t27 σ)) fun t28 σ =>
  stepK (pureR σ (aBin .add .prim (Abs.look fr 5) t28)) fun t29 σ =>
  j2 [(1, (Abs.look fr 1)), (4, t20), (5, t29), (9, (Abs.look fr 9)), (10, (Abs.look fr 10))] σ
  ) (
  j2 [(1, (Abs.look fr 1)), (4, (Abs.look fr 4)), (5, (Abs.look fr 5)), (9, (Abs.look fr 9)), (10, (Abs.look fr 10))] σ
  )
  ))
  ) (
  j1 [(4, (Abs.look fr 4)), (5, (Abs.look fr 5))] σ
  )
  )) [(1, t1), (4, (.val (Go.Value.int Go.IntKind.i64 0))), (5, (.val (Go.Value.int Go.IntKind.i64 0))), (9, t9), (10, (.val (Go.Value.int Go.IntKind.i64 0)))] σ
  ))
def keep24 : List (Nat × List Nat) := [(0, [1]), (1, [1, 4, 5]), (3010, [4, 5]), (2, [1, 4, 5, 9, 10]), (3, [1, 4, 5, 9, 10, 11]), (3009, [1, 4, 5, 9, 10]), (4, [1, 4, 5, 6, 9, 10]), (5, [1, 4, 5, 6, 9, 10, 18]), (6, [1, 4, 5, 6, 9, 10]), (7, [1, 4, 5, 9, 10]), (8, [1, 4, 5, 9, 10]), (1003, [1, 4, 5, 9, 10]), (9, [2, 3])]
noncomputable def body24 : Code := (Go.Proofs.Try.f24).body.getD .skip
theorem F24_eq (t0 : AV) (σ : AHeap) (k kp : AV → AHeap → Prop) : aw Go.Proofs.Try.prog (keepOf keep24) body24 (retK Go.Proofs.Try.prog (Go.Proofs.Try.f24).results.toList k kp) (frameOf 0 [t0]) σ = F24 t0 σ k kp := by kernel_rfl
theorem F24_ev {t0 : AV} {σ : AHeap} {k kp : AV → AHeap → Prop} (h : F24 t0 σ k kp) : Ev Go.Proofs.Try.prog 24 [t0] σ k kp :=
  Ev_of_aw mixed Go.Proofs.Try.func24 (show (Go.Proofs.Try.f24).body = some body24 by kernel_rfl) (by kernel_rfl) (args := [t0]) (of_decide_eq_true (by kernel_rfl)) (keepOf keep24) (by kernel_rfl) (by rw [F24_eq]; exact h)

/-- (enclave/enclaveref19.S).Live -/
def F25 (t0 t1 : AV) (σ : AHeap) (k kp : AV → AHeap → Prop) : Prop :=
  stepK (aBox t0 σ) fun t2 σ =>
  stepK (pureR σ (aBin .geq .prim t1 (.val (Go.Value.int Go.IntKind.i64 0)))) fun t6 σ =>
  gK t6 true (fun K => K t1 σ) (fun t8 σ =>
  gK t6 true (fun K => stepK (pureR σ (aFieldAddr 2 t2)) K) (fun t9 σ =>
  gK t6 true (fun K => stepK (pureR σ (aLoad false 1 t9 σ)) K) (fun t10 σ =>
  gK t6 true (fun K => stepK (pureR σ (aLenK .slice t10 σ)) K) (fun t11 σ =>
  gK t6 true (fun K => stepK (pureR σ (aBin .lss .prim t8 t11)) K) (fun t12 σ =>
  stepK (pureR σ (aPick t6 t12 (.val (Go.Value.bool Bool.false)))) fun t13 σ =>
  gK t13 true (fun K => stepK (pureR σ (aFieldAddr 2 t2)) K) (fun t15 σ =>
  gK t13 true (fun K => stepK (pureR σ (aLoad false 1 t15 σ)) K) (fun t16 σ =>
  gK t13 true (fun K => K t1 σ) (fun t17 σ =>
  gK t13 true (fun K => stepK (pureR σ (aIndexAddr 2 t16 t17 σ)) K) (fun t18 σ =>
  gK t13 true (fun K => stepK (pureR σ (aFieldAddr 0 t18)) K) (fun t19 σ =>
  gK t13 true (fun K => stepK (pureR σ (aLoad false 1 t19 σ)) K) (fun t20 σ =>
  stepK (pureR σ (aPick t13 t20 (.val (Go.Value.bool Bool.false)))) fun t21 σ =>
  k t21 σ) σ) σ) σ) σ) σ) σ) σ) σ) σ) σ) σ
def keep25 : List (Nat × List Nat) := [(0, [1, 2]), (1, [4])]
noncomputable def body25 : Code := (Go.Proofs.Try.f25).body.getD .skip
theorem F25_eq (t0 t1 : AV) (σ : AHeap) (k kp : AV → AHeap → Prop) : aw Go.Proofs.Try.prog (keepOf keep25) body25 (retK Go.Proofs.Try.prog (Go.Proofs.Try.f25).results.toList k kp) (frameOf 0 [t0, t1]) σ = F25 t0 t1 σ k kp := by kernel_rfl
theorem F25_ev {t0 t1 : AV} {σ : AHeap} {k kp : AV → AHeap → Prop} (h : F25 t0 t1 σ k kp) : Ev Go.Proofs.Try.prog 25 [t0, t1] σ k kp :=
  Ev_of_aw mixed Go.Proofs.Try.func25 (show (Go.Proofs.Try.f25).body = some body25 by kernel_rfl) (by kernel_rfl) (args := [t0, t1]) (of_decide_eq_true (by kernel_rfl)) (keepOf keep25) (by kernel_rfl) (by rw [F25_eq]; exact h)

/-- (*enclave/stack.Store).at -/
def F26 (t0 t1 : AV) (σ : AHeap) (k kp : AV → AHeap → Prop) : Prop :=
  stepK (aBox t1 σ) fun t3 σ =>
  stepK (pureR σ (aFieldAddr 0 t3)) fun t7 σ =>
  stepK (pureR σ (aLoad false 1 t7 σ)) fun t8 σ =>
  stepK (pureR σ (aBin .neq .prim t8 (.val (Go.Value.int Go.IntKind.u8 2)))) fun t9 σ =>
  gK t9 false (fun K => stepK (pureR σ (aFieldAddr 1 t3)) K) (fun t11 σ =>
  gK t9 false (fun K => stepK (pureR σ (aLoad false 1 t11 σ)) K) (fun t12 σ =>
  gK t9 false (fun K => stepK (pureR σ (aBin .neq .prim t12 (.val (Go.Value.int Go.IntKind.i64 0)))) K) (fun t13 σ =>
  stepK (pureR σ (aPick t9 (.val (Go.Value.bool Bool.true)) t13)) fun t14 σ =>
  condK t14 (
  k (.tup [(.val (Go.Value.pointer Option.none)), (.val (Go.Value.int Go.IntKind.i64 1))]) σ
  ) (
  stepK (pureR σ (aFieldAddr 2 t3)) fun t17 σ =>
  stepK (pureR σ (aLoad false 1 t17 σ)) fun t18 σ =>
  stepK (aBuildSlice 1 1 [.val (.int .i64 0)] [(0, t18)] σ) fun t19 σ =>
  Ev Go.Proofs.Try.prog 13 [t0, t19] σ (fun t20 σ =>
  stepK (pureR σ (aNot t20)) fun t21 σ =>
  condK t21 (
  k (.tup [(.val (Go.Value.pointer Option.none)), (.val (Go.Value.int Go.IntKind.i64 6))]) σ
  ) (
  stepK (pureR σ (aFieldAddr 3 t3)) fun t23 σ =>
  stepK (pureR σ (aLoad false 1 t23 σ)) fun t24 σ =>
  stepK (pureR σ (aBin .lss .prim t24 (.val (Go.Value.int Go.IntKind.i64 0)))) fun t25 σ =>
  gK t25 false (fun K => stepK (pureR σ (aFieldAddr 3 t3)) K) (fun t27 σ =>
  gK t25 false (fun K => stepK (pureR σ (aLoad false 1 t27 σ)) K) (fun t28 σ =>
  gK t25 false (fun K => K t0 σ) (fun t29 σ =>
  gK t25 false (fun K => stepK (pureR σ (aNilCheck t29)) K) (fun t30 σ =>
  gK t25 false (fun K => stepK (pureR σ (aFieldAddr 2 t30)) K) (fun t31 σ =>
  gK t25 false (fun K => stepK (pureR σ (aLoad false 1 t31 σ)) K) (fun t32 σ =>
  gK t25 false (fun K => stepK (pureR σ (aFieldAddr 2 t3)) K) (fun t33 σ =>
  gK t25 false (fun K => stepK (pureR σ (aLoad false 1 t33 σ)) K) (fun t34 σ =>
  gK t25 false (fun K => stepK (pureR σ (aLookup (.int .i64) (.val (.slice none 0 0)) false t32 t34 σ)) K) (fun t35 σ =>
  gK t25 false (fun K => stepK (pureR σ (aLenK .slice t35 σ)) K) (fun t36 σ =>
  gK t25 false (fun K => stepK (pureR σ (aBin .geq .prim t28 t36)) K) (fun t37 σ =>
  stepK (pureR σ (aPick t25 (.val (Go.Value.bool Bool.true)) t37)) fun t38 σ =>
  condK t38 (
  k (.tup [(.val (Go.Value.pointer Option.none)), (.val (Go.Value.int Go.IntKind.i64 1))]) σ
  ) (
  stepK (pureR σ (aNilCheck t0)) fun t40 σ =>
  stepK (pureR σ (aFieldAddr 2 t40)) fun t41 σ =>
  stepK (pureR σ (aLoad false 1 t41 σ)) fun t42 σ =>
  stepK (pureR σ (aFieldAddr 2 t3)) fun t43 σ =>
  stepK (pureR σ (aLoad false 1 t43 σ)) fun t44 σ =>
  stepK (pureR σ (aLookup (.int .i64) (.val (.slice none 0 0)) false t42 t44 σ)) fun t45 σ =>
  stepK (pureR σ (aFieldAddr 3 t3)) fun t46 σ =>
  stepK (pureR σ (aLoad false 1 t46 σ)) fun t47 σ =>
  stepK (pureR σ (aIndexAddr 10 t45 t47 σ)) fun t48 σ =>
  k (.tup [t48, (.val (Go.Value.int Go.IntKind.i64 0))]) σ
  )
  ) σ) σ) σ) σ) σ) σ) σ) σ) σ) σ) σ)
  ) kp)) σ) σ) σ
def keep26 : List (Nat × List Nat) := [(0, [0, 3]), (1, [0, 3, 6]), (2, [4, 5]), (3, [0, 3, 15]), (4, [4, 5]), (5, [0, 3, 22]), (2005, [0, 1, 2, 3, 4, 5, 6, 7, 8, 9, 10, 11, 12, 13, 14, 15, 16]), (6, [4, 5]), (7, [4, 5]), (2007, [0, 1, 2, 3, 4, 5, 6, 7, 8, 9, 10, 11])]
noncomputable def body26 : Code := (Go.Proofs.Try.f26).body.getD .skip
theorem F26_eq (t0 t1 : AV) (σ : AHeap) (k kp : AV → AHeap → Prop) : aw Go.Proofs.Try.prog (keepOf keep26) body26 (retK Go.Proofs.Try.prog (Go.Proofs.Try.f26).results.toList k kp) (frameOf 0 [t0, t1]) σ = F26 t0 t1 σ k kp := by kernel_rfl
theorem F26_ev {t0 t1 : AV} {σ : AHeap} {k kp : AV → AHeap → Prop} (h : F26 t0 t1 σ k kp) : Ev Go.Proofs.Try.prog 26 [t0, t1] σ k kp :=
  Ev_of_aw mixed Go.Proofs.Try.func26 (show (Go.Proofs.Try.f26).body = some body26 by kernel_rfl) (by kernel_rfl) (args := [t0, t1]) (of_decide_eq_true (by kernel_rfl)) (keepOf keep26) (by kernel_rfl) (by rw [F26_eq]; exact h)

/-- enclave/enclaveref19.in -/
def F27 (t0 t1 t2 : AV) (σ : AHeap) (k kp : AV → AHeap → Prop) : Prop :=
  stepK (pureR σ (aBin .lss .prim t0 t1)) fun t9 σ =>
  condK t9 (
  k t1 σ
  ) (
  stepK (pureR σ (aBin .gtr .prim t0 t2)) fun t13 σ =>
  condK t13 (
  k t2 σ
  ) (
  k t0 σ
  )
  )
def keep27 : List (Nat × List Nat) := [(0, [0, 1, 2]), (1, [0, 1, 2, 9]), (2, [6]), (3, [0, 2, 13]), (4, [6]), (5, [6])]
noncomputable def body27 : Code := (Go.Proofs.Try.f27).body.getD .skip
theorem F27_eq (t0 t1 t2 : AV) (σ : AHeap) (k kp : AV → AHeap → Prop) : aw Go.Proofs.Try.prog (keepOf keep27) body27 (retK Go.Proofs.Try.prog (Go.Proofs.Try.f27).results.toList k kp) (frameOf 0 [t0, t1, t2]) σ = F27 t0 t1 t2 σ k kp := by kernel_rfl
theorem F27_ev {t0 t1 t2 : AV} {σ : AHeap} {k kp : AV → AHeap → Prop} (h : F27 t0 t1 t2 σ k kp) : Ev Go.Proofs.Try.prog 27 [t0, t1, t2] σ k kp :=
  Ev_of_aw mixed Go.Proofs.Try.func27 (show (Go.Proofs.Try.f27).body = some body27 by kernel_rfl) (by kernel_rfl) (args := [t0, t1, t2]) (of_decide_eq_true (by kernel_rfl)) (keepOf keep27) (by kernel_rfl) (by rw [F27_eq]; exact h)

/-- (enclave/enclaveref19.S).with -/
def F28 (t0 t1 t2 : AV) (σ : AHeap) (k kp : AV → AHeap → Prop) : Prop :=
  stepK (aBox t0 σ) fun t3 σ =>
  stepK (aBox t2 σ) fun t5 σ =>
  stepK (aAlloc [.val (.int .i64 0), .val (.int .i64 0), .val (.slice none 0 0), .val (.int .i64 0)] σ) fun t6 σ =>
  stepK (aBuildSlice 0 2 [.val (.bool false), .val (.slice none 0 0)] [] σ) fun t8 σ =>
  stepK (pureR σ (aFieldAddr 2 t3)) fun t9 σ =>
  stepK (pureR σ (aLoad false 1 t9 σ)) fun t10 σ =>
  stepK (aAppend 2 32 t8 t10 σ) fun t11 σ =>
  stepK (pureR σ (aLoad true 2 t5 σ)) fun t14 σ =>
  stepK (pureR σ (aIndexAddr 2 t11 t1 σ)) fun t15 σ =>
  stepK (unitR (aStore 2 t15 t14 σ)) fun _ σ =>
  stepK (pureR σ (aFieldAddr 2 t3)) fun t17 σ =>
  stepK (unitR (aStore 1 t17 t11 σ)) fun _ σ =>
  stepK (pureR σ (aLoad true 4 t3 σ)) fun t18 σ =>
  stepK (unitR (aStore 4 t6 t18 σ)) fun _ σ =>
  stepV (aLoad true 4 t6 σ) fun r0 =>
  k r0 σ
def keep28 : List (Nat × List Nat) := [(0, [1, 3, 5, 6]), (1, [1, 3, 5, 6, 7]), (2, [3, 6, 7]), (3, [3, 6]), (4, [6])]
noncomputable def body28 : Code := (Go.Proofs.Try.f28).body.getD .skip
theorem F28_eq (t0 t1 t2 : AV) (σ : AHeap) (k kp : AV → AHeap → Prop) : aw Go.Proofs.Try.prog (keepOf keep28) body28 (retK Go.Proofs.Try.prog (Go.Proofs.Try.f28).results.toList k kp) (frameOf 0 [t0, t1, t2]) σ = F28 t0 t1 t2 σ k kp := by kernel_rfl
theorem F28_ev {t0 t1 t2 : AV} {σ : AHeap} {k kp : AV → AHeap → Prop} (h : F28 t0 t1 t2 σ k kp) : Ev Go.Proofs.Try.prog 28 [t0, t1, t2] σ k kp :=
  Ev_of_aw mixed Go.Proofs.Try.func28 (show (Go.Proofs.Try.f28).body = some body28 by kernel_rfl) (by kernel_rfl) (args := [t0, t1, t2]) (of_decide_eq_true (by kernel_rfl)) (keepOf keep28) (by kernel_rfl) (by rw [F28_eq]; exact h)

/-- (enclave/enclaveref19.S).Find -/
def F29 (t0 t1 : AV) (σ : AHeap) (k kp : AV → AHeap → Prop) : Prop :=
  stepK (aBox t0 σ) fun t2 σ =>
  stepK (aBox t1 σ) fun t3 σ =>
  stepK (pureR σ (aFieldAddr 0 t3)) fun t5 σ =>
  stepK (pureR σ (aLoad false 1 t5 σ)) fun t6 σ =>
  stepK (pureR σ (aBin .neq .prim t6 (.val (Go.Value.int Go.IntKind.u8 2)))) fun t7 σ =>
  gK t7 false (fun K => stepK (pureR σ (aFieldAddr 1 t3)) K) (fun t9 σ =>
  gK t7 false (fun K => stepK (pureR σ (aLoad false 1 t9 σ)) K) (fun t10 σ =>
  gK t7 false (fun K => stepK (pureR σ (aBin .neq .prim t10 (.val (Go.Value.int Go.IntKind.i64 0)))) K) (fun t11 σ =>
  stepK (pureR σ (aPick t7 (.val (Go.Value.bool Bool.true)) t11)) fun t12 σ =>
  condK t12 (
  k (.val (Go.Value.int Go.IntKind.i64 1)) σ
  ) (
  stepK (pureR σ (aLoad true 4 t2 σ)) fun t13 σ =>
  stepK (pureR σ (aFieldAddr 2 t3)) fun t14 σ =>
  stepK (pureR σ (aLoad false 1 t14 σ)) fun t15 σ =>
  Ev Go.Proofs.Try.prog 25 [t13, t15] σ (fun t16 σ =>
  stepK (pureR σ (aNot t16)) fun t17 σ =>
  condK t17 (
  k (.val (Go.Value.int Go.IntKind.i64 6)) σ
  ) (
  stepK (pureR σ (aFieldAddr 3 t3)) fun t18 σ =>
  stepK (pureR σ (aLoad false 1 t18 σ)) fun t19 σ =>
  stepK (pureR σ (aBin .lss .prim t19 (.val (Go.Value.int Go.IntKind.i64 0)))) fun t20 σ =>
  gK t20 false (fun K => stepK (pureR σ (aFieldAddr 3 t3)) K) (fun t22 σ =>
  gK t20 false (fun K => stepK (pureR σ (aLoad false 1 t22 σ)) K) (fun t23 σ =>
  gK t20 false (fun K => stepK (pureR σ (aFieldAddr 2 t2)) K) (fun t24 σ =>
  gK t20 false (fun K => stepK (pureR σ (aLoad false 1 t24 σ)) K) (fun t25 σ =>
  gK t20 false (fun K => stepK (pureR σ (aFieldAddr 2 t3)) K) (fun t26 σ =>
  gK t20 false (fun K => stepK (pureR σ (aLoad false 1 t26 σ)) K) (fun t27 σ =>
  gK t20 false (fun K => stepK (pureR σ (aIndexAddr 2 t25 t27 σ)) K) (fun t28 σ =>
  gK t20 false (fun K => stepK (pureR σ (aFieldAddr 1 t28)) K) (fun t29 σ =>
  gK t20 false (fun K => stepK (pureR σ (aLoad false 1 t29 σ)) K) (fun t30 σ =>
  gK t20 false (fun K => stepK (pureR σ (aLenK .slice t30 σ)) K) (fun t31 σ =>
  gK t20 false (fun K => stepK (pureR σ (aBin .geq .prim t23 t31)) K) (fun t32 σ =>
  stepK (pureR σ (aPick t20 (.val (Go.Value.bool Bool.true)) t32)) fun t33 σ =>
  condK t33 (
  k (.val (Go.Value.int Go.IntKind.i64 1)) σ
  ) (
  k (.val (Go.Value.int Go.IntKind.i64 0)) σ
  )
  ) σ) σ) σ) σ) σ) σ) σ) σ) σ) σ) σ)
  ) kp)) σ) σ) σ
def keep29 : List (Nat × List Nat) := [(0, [2, 3]), (1, [2, 3, 12]), (2, [4]), (3, [2, 3, 17]), (4, [4]), (5, [33]), (2005, [0, 1, 2, 3, 4, 5, 6, 7, 8, 9, 10, 11, 12, 13, 14, 15]), (6, [4]), (7, [4])]
noncomputable def body29 : Code := (Go.Proofs.Try.f29).body.getD .skip
theorem F29_eq (t0 t1 : AV) (σ : AHeap) (k kp : AV → AHeap → Prop) : aw Go.Proofs.Try.prog (keepOf keep29) body29 (retK Go.Proofs.Try.prog (Go.Proofs.Try.f29).results.toList k kp) (frameOf 0 [t0, t1]) σ = F29 t0 t1 σ k kp := by kernel_rfl
theorem F29_ev {t0 t1 : AV} {σ : AHeap} {k kp : AV → AHeap → Prop} (h : F29 t0 t1 σ k kp) : Ev Go.Proofs.Try.prog 29 [t0, t1] σ k kp :=
  Ev_of_aw mixed Go.Proofs.Try.func29 (show (Go.Proofs.Try.f29).body = some body29 by kernel_rfl) (by kernel_rfl) (args := [t0, t1]) (of_decide_eq_true (by kernel_rfl)) (keepOf keep29) (by kernel_rfl) (by rw [F29_eq]; exact h)

end Go.Proofs.StackD
