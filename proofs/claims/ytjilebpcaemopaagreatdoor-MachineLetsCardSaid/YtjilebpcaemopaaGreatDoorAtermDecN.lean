import Derived.Test.YtjilebpcaemopaaGreatDoorAbsK
import Derived.Test.YtjilebpcaemopaaGreatDoorProg
import Derived.KernelRfl
set_option maxRecDepth 100000
set_option linter.unusedVariables false
namespace Go.Proofs.AtD
open Go Go.Abs

theorem mixed : Go.Proofs.Tryz.prog.follows .mixedOrders = true := by kernel_rfl

/-- enclave/enclaveref13.May -/
def F15 (t0 : AV) (σ : AHeap) (k kp : AV → AHeap → Prop) : Prop :=
  stepK (aBox t0 σ) fun t1 σ =>
  stepK (pureR σ (aLoad true 19 t1 σ)) fun t5 σ =>
  Ev Go.Proofs.Tryz.prog 14 [t5] σ (fun t6 σ =>
  stepK (pureR σ (aLenK .slice t6 σ)) fun t8 σ =>
  stepK (pureR σ (aBin .gtr .prim t8 (.val (Go.Value.int Go.IntKind.i64 40000)))) fun t9 σ =>
  condK t9 (
  k (.val (Go.Value.bool Bool.false)) σ
  ) (
  seqW (fun fr σ => (
  k (.val (Go.Value.bool Bool.true)) σ
  )) (fun j1 => (
  stepK (pureR σ (aLenK .slice t6 σ)) fun t11 σ =>
  loopW (fun fr σ again => (
  stepK (pureR σ (aBin .lss .prim (Abs.look fr 12) (Abs.look fr 11))) fun t13 σ =>
  condK t13 (
  stepK (pureR σ (aIndexAddr 19 (Abs.look fr 3) (Abs.look fr 12) σ)) fun t17 σ =>
  stepK (pureR σ (aLoad true 19 t17 σ)) fun t18 σ =>
  Ev Go.Proofs.Tryz.prog 33 [t18] σ (fun t19 σ =>
  stepK (pureR σ (aNot t19)) fun t20 σ =>
  condK t20 (
  k (.val (Go.Value.bool Bool.false)) σ
  ) (
  stepK (pureR σ (aBin .add .prim (Abs.look fr 12) (.val (Go.Value.int Go.IntKind.i64 1)))) fun t21 σ =>
  again [(3, (Abs.look fr 3)), (11, (Abs.look fr 11)), (12, t21)] σ
  )
  ) kp) (
  j1 [(0, .any)] σ
  )
  )) [(3, t6), (11, t11), (12, (.val (Go.Value.int Go.IntKind.i64 0)))] σ
  ))
  )) kp
def keep15 : List (Nat × List Nat) := [(0, [1]), (1, [3]), (2, [3, 9]), (3, [2]), (3011, [0]), (4, [3, 11, 12]), (5, [3, 11, 12, 13]), (6, [3, 4, 11, 12]), (7, [3, 11, 12, 20]), (8, [2]), (9, [3, 11, 12]), (1005, [3, 11, 12]), (10, [2])]
noncomputable def body15 : Code := (Go.Proofs.Tryz.f15).body.getD .skip
theorem F15_eq (t0 : AV) (σ : AHeap) (k kp : AV → AHeap → Prop) : aw Go.Proofs.Tryz.prog (keepOf keep15) body15 (retK Go.Proofs.Tryz.prog (Go.Proofs.Tryz.f15).results.toList k kp) (frameOf 0 [t0]) σ = F15 t0 σ k kp := by kernel_rfl
theorem F15_ev {t0 : AV} {σ : AHeap} {k kp : AV → AHeap → Prop} (h : F15 t0 σ k kp) : Ev Go.Proofs.Tryz.prog 15 [t0] σ k kp :=
  Ev_of_aw mixed Go.Proofs.Tryz.func15 (show (Go.Proofs.Tryz.f15).body = some body15 by kernel_rfl) (by kernel_rfl) (args := [t0]) (of_decide_eq_true (by kernel_rfl)) (keepOf keep15) (by kernel_rfl) (by rw [F15_eq]; exact h)

/-- enclave/enclaveref13.Node -/
def F33 (t0 : AV) (σ : AHeap) (k kp : AV → AHeap → Prop) : Prop :=
  stepK (aBox t0 σ) fun t1 σ =>
  stepK (pureR σ (aFieldAddr 0 t1)) fun t5 σ =>
  stepK (pureR σ (aFieldAddr 0 t5)) fun t6 σ =>
  stepK (pureR σ (aLoad false 1 t6 σ)) fun t7 σ =>
  stepK (pureR σ (aLoad true 19 t1 σ)) fun t8 σ =>
  Ev Go.Proofs.Tryz.prog 60 [t8] σ (fun t9 σ =>
  stepK (pureR σ (aNot t9)) fun t10 σ =>
  gK t10 false (fun K => stepK (pureR σ (aFieldAddr 7 t1)) K) (fun t12 σ =>
  gK t10 false (fun K => stepK (pureR σ (aLoad false 1 t12 σ)) K) (fun t13 σ =>
  gK t10 false (fun K => stepK (pureR σ (aBin .lss .prim t13 (.val (Go.Value.int Go.IntKind.i64 0)))) K) (fun t14 σ =>
  stepK (pureR σ (aPick t10 (.val (Go.Value.bool Bool.true)) t14)) fun t15 σ =>
  gK t15 false (fun K => K t7 σ) (fun t17 σ =>
  gK t15 false (fun K => stepK (pureR σ (aBin .eql .prim t17 (.val (Go.Value.int Go.IntKind.u8 17)))) K) (fun t18 σ =>
  gK t15 false (fun K => K t18 σ) (fun t19 σ =>
  gK t19 true (fun K => stepK (pureR σ (aFieldAddr 7 t1)) K) (fun t20 σ =>
  gK t19 true (fun K => stepK (pureR σ (aLoad false 1 t20 σ)) K) (fun t21 σ =>
  gK t19 true (fun K => stepK (pureR σ (aBin .eql .prim t21 (.val (Go.Value.int Go.IntKind.i64 0)))) K) (fun t22 σ =>
  gK t15 false (fun K => stepK (pureR σ (aPick t19 t22 (.val (Go.Value.bool Bool.false)))) K) (fun t23 σ =>
  stepK (pureR σ (aPick t15 (.val (Go.Value.bool Bool.true)) t23)) fun t24 σ =>
  gK t24 false (fun K => stepK (pureR σ (aBuildSl 6 1 [.val (.int .u8 0)] [(0, (.val (Go.Value.int Go.IntKind.u8 3))), (1, (.val (Go.Value.int Go.IntKind.u8 6))), (2, (.val (Go.Value.int Go.IntKind.u8 11))), (3, (.val (Go.Value.int Go.IntKind.u8 13))), (4, (.val (Go.Value.int Go.IntKind.u8 17))), (5, (.val (Go.Value.int Go.IntKind.u8 18)))])) K) (fun t26 σ =>
  gK t24 false (fun K => K t7 σ) (fun t27 σ =>
  gK t24 false (fun K => Ev Go.Proofs.Tryz.prog 61 [t26, t27] σ K kp) (fun t28 σ =>
  gK t24 false (fun K => stepK (pureR σ (aNot t28)) K) (fun t29 σ =>
  gK t24 false (fun K => K t29 σ) (fun t30 σ =>
  gK t30 true (fun K => stepK (pureR σ (aFieldAddr 7 t1)) K) (fun t31 σ =>
  gK t30 true (fun K => stepK (pureR σ (aLoad false 1 t31 σ)) K) (fun t32 σ =>
  gK t30 true (fun K => stepK (pureR σ (aBin .neq .prim t32 (.val (Go.Value.int Go.IntKind.i64 0)))) K) (fun t33 σ =>
  gK t24 false (fun K => stepK (pureR σ (aPick t30 t33 (.val (Go.Value.bool Bool.false)))) K) (fun t34 σ =>
  stepK (pureR σ (aPick t24 (.val (Go.Value.bool Bool.true)) t34)) fun t35 σ =>
  condK t35 (
  k (.val (Go.Value.bool Bool.false)) σ
  ) (
  stepK (pureR σ (aBin .neq .prim t7 (.val (Go.Value.int Go.IntKind.u8 13)))) fun t37 σ =>
  gK t37 true (fun K => K t7 σ) (fun t39 σ =>
  gK t37 true (fun K => stepK (pureR σ (aBin .neq .prim t39 (.val (Go.Value.int Go.IntKind.u8 18)))) K) (fun t40 σ =>
  stepK (pureR σ (aPick t37 t40 (.val (Go.Value.bool Bool.false)))) fun t41 σ =>
  gK t41 true (fun K => stepK (pureR σ (aFieldAddr 8 t1)) K) (fun t43 σ =>
  gK t41 true (fun K => stepK (pureR σ (aLoad false 1 t43 σ)) K) (fun t44 σ =>
  gK t41 true (fun K => stepK (pureR σ (aLenK .slice t44 σ)) K) (fun t45 σ =>
  gK t41 true (fun K => stepK (pureR σ (aBin .gtr .prim t45 (.val (Go.Value.int Go.IntKind.i64 0)))) K) (fun t46 σ =>
  stepK (pureR σ (aPick t41 t46 (.val (Go.Value.bool Bool.false)))) fun t47 σ =>
  condK t47 (
  k (.val (Go.Value.bool Bool.false)) σ
  ) (
  seqW (fun fr σ => (
  stepK (pureR σ (aBuildSl 3 1 [.val (.int .u8 0)] [(0, (.val (Go.Value.int Go.IntKind.u8 11))), (1, (.val (Go.Value.int Go.IntKind.u8 13))), (2, (.val (Go.Value.int Go.IntKind.u8 18)))])) fun t85 σ =>
  Ev Go.Proofs.Tryz.prog 61 [t85, (Abs.look fr 3)] σ (fun t87 σ =>
  stepK (pureR σ (aNot t87)) fun t88 σ =>
  gK t88 true (fun K => stepK (pureR σ (aFieldAddr 9 (Abs.look fr 1))) K) (fun t90 σ =>
  gK t88 true (fun K => stepK (pureR σ (aLoad false 1 t90 σ)) K) (fun t91 σ =>
  gK t88 true (fun K => stepK (pureR σ (aLenK .slice t91 σ)) K) (fun t92 σ =>
  gK t88 true (fun K => stepK (pureR σ (aBin .gtr .prim t92 (.val (Go.Value.int Go.IntKind.i64 0)))) K) (fun t93 σ =>
  stepK (pureR σ (aPick t88 t93 (.val (Go.Value.bool Bool.false)))) fun t94 σ =>
  gK t94 false (fun K => stepK (pureR σ (aFieldAddr 9 (Abs.look fr 1))) K) (fun t96 σ =>
  gK t94 false (fun K => stepK (pureR σ (aLoad false 1 t96 σ)) K) (fun t97 σ =>
  gK t94 false (fun K => Ev Go.Proofs.Tryz.prog 62 [t97] σ K kp) (fun t98 σ =>
  gK t94 false (fun K => stepK (pureR σ (aNot t98)) K) (fun t99 σ =>
  stepK (pureR σ (aPick t94 (.val (Go.Value.bool Bool.true)) t99)) fun t100 σ =>
  condK t100 (
  k (.val (Go.Value.bool Bool.false)) σ
  ) (
  stepK (pureR σ (aBuildSl 3 1 [.val (.int .u8 0)] [(0, (.val (Go.Value.int Go.IntKind.u8 11))), (1, (.val (Go.Value.int Go.IntKind.u8 13))), (2, (.val (Go.Value.int Go.IntKind.u8 15)))])) fun t101 σ =>
  Ev Go.Proofs.Tryz.prog 61 [t101, (Abs.look fr 3)] σ (fun t103 σ =>
  gK t103 true (fun K => stepK (pureR σ (aFieldAddr 10 (Abs.look fr 1))) K) (fun t105 σ =>
  gK t103 true (fun K => stepK (pureR σ (aLoad true 4 t105 σ)) K) (fun t106 σ =>
  gK t103 true (fun K => Ev Go.Proofs.Tryz.prog 63 [t106] σ K kp) (fun t107 σ =>
  gK t103 true (fun K => stepK (pureR σ (aNot t107)) K) (fun t108 σ =>
  stepK (pureR σ (aPick t103 t108 (.val (Go.Value.bool Bool.false)))) fun t109 σ =>
  gK t109 false (fun K => stepK (pureR σ (aBuildSl 3 1 [.val (.int .u8 0)] [(0, (.val (Go.Value.int Go.IntKind.u8 11))), (1, (.val (Go.Value.int Go.IntKind.u8 13))), (2, (.val (Go.Value.int Go.IntKind.u8 15)))])) K) (fun t111 σ =>
  gK t109 false (fun K => K (Abs.look fr 3) σ) (fun t112 σ =>
  gK t109 false (fun K => Ev Go.Proofs.Tryz.prog 61 [t111, t112] σ K kp) (fun t113 σ =>
  gK t109 false (fun K => stepK (pureR σ (aNot t113)) K) (fun t114 σ =>
  gK t109 false (fun K => K t114 σ) (fun t115 σ =>
  gK t115 true (fun K => stepK (pureR σ (aFieldAddr 10 (Abs.look fr 1))) K) (fun t116 σ =>
  gK t115 true (fun K => stepK (pureR σ (aLoad true 4 t116 σ)) K) (fun t117 σ =>
  gK t115 true (fun K => Ev Go.Proofs.Tryz.prog 64 [t117] σ K kp) (fun t118 σ =>
  gK t115 true (fun K => stepK (pureR σ (aNot t118)) K) (fun t119 σ =>
  gK t109 false (fun K => stepK (pureR σ (aPick t115 t119 (.val (Go.Value.bool Bool.false)))) K) (fun t120 σ =>
  stepK (pureR σ (aPick t109 (.val (Go.Value.bool Bool.true)) t120)) fun t121 σ =>
  condK t121 (
  k (.val (Go.Value.bool Bool.false)) σ
  ) (
  stepK (pureR σ (aBin .eql .prim (Abs.look fr 3) (.val (Go.Value.int Go.IntKind.u8 13)))) fun t123 σ =>
  gK t123 true (fun K => stepK (pureR σ (aFieldAddr 14 (Abs.look fr 1))) K) (fun t125 σ =>
  gK t123 true (fun K => stepK (pureR σ (aLoad true 4 t125 σ)) K) (fun t126 σ =>
  gK t123 true (fun K => Ev Go.Proofs.Tryz.prog 63 [t126] σ K kp) (fun t127 σ =>
  stepK (pureR σ (aPick t123 t127 (.val (Go.Value.bool Bool.false)))) fun t128 σ =>
  gK t128 false (fun K => K (Abs.look fr 3) σ) (fun t130 σ =>
  gK t128 false (fun K => stepK (pureR σ (aBin .neq .prim t130 (.val (Go.Value.int Go.IntKind.u8 13)))) K) (fun t131 σ =>
  gK t128 false (fun K => K t131 σ) (fun t132 σ =>
  gK t132 true (fun K => stepK (pureR σ (aFieldAddr 14 (Abs.look fr 1))) K) (fun t133 σ =>
  gK t132 true (fun K => stepK (pureR σ (aLoad true 4 t133 σ)) K) (fun t134 σ =>
  gK t132 true (fun K => Ev Go.Proofs.Tryz.prog 64 [t134] σ K kp) (fun t135 σ =>
  gK t128 false (fun K => stepK (pureR σ (aPick t132 t135 (.val (Go.Value.bool Bool.false)))) K) (fun t136 σ =>
  stepK (pureR σ (aPick t128 (.val (Go.Value.bool Bool.true)) t136)) fun t137 σ =>
  k t137 σ
  ) σ) σ) σ) σ) σ) σ) σ) σ) σ) σ)
  ) σ) σ) σ) σ) σ) σ) σ) σ) σ) σ) σ) σ) σ) σ) kp)
  ) σ) σ) σ) σ) σ) σ) σ) σ) kp)) (fun j1 => (
  stepK (pureR σ (aFieldAddr 8 t1)) fun t48 σ =>
  stepK (pureR σ (aLoad false 1 t48 σ)) fun t49 σ =>
  stepK (pureR σ (aLenK .slice t49 σ)) fun t50 σ =>
  loopW (fun fr σ again => (
  stepK (pureR σ (aBin .lss .prim (Abs.look fr 51) (Abs.look fr 50))) fun t52 σ =>
  condK t52 (
  stepK (pureR σ (aFieldAddr 8 (Abs.look fr 1))) fun t54 σ =>
  stepK (pureR σ (aLoad false 1 t54 σ)) fun t55 σ =>
  stepK (pureR σ (aIndexAddr 1 t55 (Abs.look fr 51) σ)) fun t57 σ =>
  stepK (pureR σ (aLoad false 1 t57 σ)) fun t58 σ =>
  stepK (pureR σ (aBin .lss .prim t58 (.val (Go.Value.int Go.IntKind.i64 0)))) fun t59 σ =>
  gK t59 false (fun K => K (Abs.look fr 3) σ) (fun t61 σ =>
  gK t59 false (fun K => stepK (pureR σ (aBin .eql .prim t61 (.val (Go.Value.int Go.IntKind.u8 13)))) K) (fun t62 σ =>
  gK t59 false (fun K => K t62 σ) (fun t63 σ =>
  gK t63 true (fun K => stepK (pureR σ (aFieldAddr 8 (Abs.look fr 1))) K) (fun t64 σ =>
  gK t63 true (fun K => stepK (pureR σ (aLoad false 1 t64 σ)) K) (fun t65 σ =>
  gK t63 true (fun K => K (Abs.look fr 51) σ) (fun t66 σ =>
  gK t63 true (fun K => stepK (pureR σ (aIndexAddr 1 t65 t66 σ)) K) (fun t67 σ =>
  gK t63 true (fun K => stepK (pureR σ (aLoad false 1 t67 σ)) K) (fun t68 σ =>
  gK t63 true (fun K => stepK (pureR σ (aBin .eql .prim t68 (.val (Go.Value.int Go.IntKind.i64 0)))) K) (fun t69 σ =>
  gK t63 true (fun K => K t69 σ) (fun t70 σ =>
  gK t70 false (fun K => stepK (pureR σ (aFieldAddr 8 (Abs.look fr 1))) K) (fun t71 σ =>
  gK t70 false (fun K => stepK (pureR σ (aLoad false 1 t71 σ)) K) (fun t72 σ =>
  gK t70 false (fun K => K (Abs.look fr 51) σ) (fun t73 σ =>
  gK t70 false (fun K => stepK (pureR σ (aSlice 1 t72 none (some t73) none)) K) (fun t74 σ =>
  gK t70 false (fun K => stepK (pureR σ (aFieldAddr 8 (Abs.look fr 1))) K) (fun t75 σ =>
  gK t70 false (fun K => stepK (pureR σ (aLoad false 1 t75 σ)) K) (fun t76 σ =>
  gK t70 false (fun K => K (Abs.look fr 51) σ) (fun t77 σ =>
  gK t70 false (fun K => stepK (pureR σ (aIndexAddr 1 t76 t77 σ)) K) (fun t78 σ =>
  gK t70 false (fun K => stepK (pureR σ (aLoad false 1 t78 σ)) K) (fun t79 σ =>
  gK t70 false (fun K => Ev Go.Proofs.Tryz.prog 19 [t74, t79] σ K kp) (fun t80 σ =>
  gK t63 true (fun K => stepK (pureR σ (aPick t70 (.val (Go.Value.bool Bool.true)) t80)) K) (fun t81 σ =>
  gK t59 false (fun K => stepK (pureR σ (aPick t63 t81 (.val (Go.Value.bool Bool.false)))) K) (fun t82 σ =>
  stepK (pureR σ (aPick t59 (.val (Go.Value.bool Bool.true)) t82)) fun t83 σ =>
  condK t83 (
  k (.val (Go.Value.bool Bool.false)) σ
  ) (
  stepK (pureR σ (aBin .add .prim (Abs.look fr 51) (.val (Go.Value.int Go.IntKind.i64 1)))) fun t84 σ =>
  again [(1, (Abs.look fr 1)), (3, (Abs.look fr 3)), (50, (Abs.look fr 50)), (51, t84)] σ
  )
  ) σ) σ) σ) σ) σ) σ) σ) σ) σ) σ) σ) σ) σ) σ) σ) σ) σ) σ) σ) σ) σ) σ) (
  j1 [(1, (Abs.look fr 1)), (3, (Abs.look fr 3))] σ
  )
  )) [(1, t1), (3, t7), (50, t50), (51, (.val (Go.Value.int Go.IntKind.i64 0)))] σ
  ))
  )
  ) σ) σ) σ) σ) σ) σ)) σ) σ) σ) σ) σ) σ) σ) σ) σ) σ) σ) σ) σ) σ) σ) σ) σ) σ) σ) kp
def keep33 : List (Nat × List Nat) := [(0, [1]), (1, [1, 3]), (2, [1, 3, 35]), (4002, [1]), (3, [2]), (4, [1, 3, 47]), (5, [2]), (3013, [1, 3]), (6, [1, 3, 50, 51]), (7, [1, 3, 50, 51, 52]), (8, [1, 3, 4, 50, 51]), (9, [1, 3, 50, 51, 83]), (2009, [0, 1, 2, 3, 4, 5, 6, 7, 8, 9, 10, 11, 12, 13, 14, 15, 16, 17, 18, 19, 20, 21, 22, 23, 24, 25, 26, 27, 28, 29]), (10, [2]), (11, [1, 3, 50, 51]), (1007, [1, 3, 50, 51]), (12, [1, 3, 100]), (4012, [1]), (13, [2]), (14, [1, 3, 121]), (4014, [1]), (15, [2]), (16, [2])]
noncomputable def body33 : Code := (Go.Proofs.Tryz.f33).body.getD .skip
theorem F33_eq (t0 : AV) (σ : AHeap) (k kp : AV → AHeap → Prop) : aw Go.Proofs.Tryz.prog (keepOf keep33) body33 (retK Go.Proofs.Tryz.prog (Go.Proofs.Tryz.f33).results.toList k kp) (frameOf 0 [t0]) σ = F33 t0 σ k kp := by kernel_rfl
theorem F33_ev {t0 : AV} {σ : AHeap} {k kp : AV → AHeap → Prop} (h : F33 t0 σ k kp) : Ev Go.Proofs.Tryz.prog 33 [t0] σ k kp :=
  Ev_of_aw mixed Go.Proofs.Tryz.func33 (show (Go.Proofs.Tryz.f33).body = some body33 by kernel_rfl) (by kernel_rfl) (args := [t0]) (of_decide_eq_true (by kernel_rfl)) (keepOf keep33) (by kernel_rfl) (by rw [F33_eq]; exact h)

/-- enclave/enclaveref04.Node -/
def F104 (t0 : AV) (σ : AHeap) (k kp : AV → AHeap → Prop) : Prop :=
  stepK (aBox t0 σ) fun t1 σ =>
  stepK (pureR σ (aFieldAddr 0 t1)) fun t7 σ =>
  stepK (pureR σ (aFieldAddr 0 t7)) fun t8 σ =>
  stepK (pureR σ (aLoad false 1 t8 σ)) fun t9 σ =>
  Ev Go.Proofs.Tryz.prog 136 [t9] σ (fun t11 σ =>
  stepK (pureR σ (aBin .lss .prim t11 (.val (Go.Value.int Go.IntKind.i64 0)))) fun t12 σ =>
  gK t12 false (fun K => stepK (pureR σ (aFieldAddr 7 t1)) K) (fun t14 σ =>
  gK t12 false (fun K => stepK (pureR σ (aLoad false 1 t14 σ)) K) (fun t15 σ =>
  gK t12 false (fun K => stepK (pureR σ (aLenK .slice t15 σ)) K) (fun t16 σ =>
  gK t12 false (fun K => K t9 σ) (fun t17 σ =>
  gK t12 false (fun K => Ev Go.Proofs.Tryz.prog 136 [t17] σ K kp) (fun t18 σ =>
  (gK t12 false (fun K => stepK (pureR σ (aLoad false 1 t14 σ)) K) (fun y θ => y = t15 ∧ θ = σ) σ) ∧ (
  (gK t12 false (fun K => stepK (pureR σ (aLenK .slice t15 σ)) K) (fun y θ => y = t16 ∧ θ = σ) σ) ∧ (
  gK t12 false (fun K => stepK (pureR σ (aBin .neq .prim t16 t18)) K) (fun t19 σ =>
  stepK (pureR σ (aPick t12 (.val (Go.Value.bool Bool.true)) t19)) fun t20 σ =>
  gK t20 false (fun K => stepK (pureR σ (aFieldAddr 0 t1)) K) (fun t22 σ =>
  gK t20 false (fun K => stepK (pureR σ (aFieldAddr 2 t22)) K) (fun t23 σ =>
  gK t20 false (fun K => stepK (pureR σ (aLoad false 1 t23 σ)) K) (fun t24 σ =>
  gK t20 false (fun K => stepK (pureR σ (aBin .lss .prim t24 (.val (Go.Value.int Go.IntKind.i64 0)))) K) (fun t25 σ =>
  stepK (pureR σ (aPick t20 (.val (Go.Value.bool Bool.true)) t25)) fun t26 σ =>
  condK t26 (
  k (.val (Go.Value.bool Bool.false)) σ
  ) (
  stepK (pureR σ (aBin .eql .prim t9 (.val (Go.Value.int Go.IntKind.u8 9)))) fun t28 σ =>
  gK t28 true (fun K => stepK (pureR σ (aFieldAddr 0 t1)) K) (fun t30 σ =>
  gK t28 true (fun K => stepK (pureR σ (aFieldAddr 1 t30)) K) (fun t31 σ =>
  gK t28 true (fun K => stepK (pureR σ (aLoad false 1 t31 σ)) K) (fun t32 σ =>
  gK t28 true (fun K => stepK (pureR σ (aBin .lss .prim t32 (.val (Go.Value.int Go.IntKind.u8 1)))) K) (fun t33 σ =>
  gK t28 true (fun K => K t33 σ) (fun t34 σ =>
  gK t34 false (fun K => stepK (pureR σ (aFieldAddr 0 t1)) K) (fun t35 σ =>
  gK t34 false (fun K => stepK (pureR σ (aFieldAddr 1 t35)) K) (fun t36 σ =>
  gK t34 false (fun K => stepK (pureR σ (aLoad false 1 t36 σ)) K) (fun t37 σ =>
  gK t34 false (fun K => stepK (pureR σ (aBin .gtr .prim t37 (.val (Go.Value.int Go.IntKind.u8 5)))) K) (fun t38 σ =>
  gK t28 true (fun K => stepK (pureR σ (aPick t34 (.val (Go.Value.bool Bool.true)) t38)) K) (fun t39 σ =>
  stepK (pureR σ (aPick t28 t39 (.val (Go.Value.bool Bool.false)))) fun t40 σ =>
  gK t40 false (fun K => K t9 σ) (fun t42 σ =>
  gK t40 false (fun K => stepK (pureR σ (aBin .neq .prim t42 (.val (Go.Value.int Go.IntKind.u8 9)))) K) (fun t43 σ =>
  gK t40 false (fun K => K t43 σ) (fun t44 σ =>
  gK t44 true (fun K => stepK (pureR σ (aFieldAddr 0 t1)) K) (fun t45 σ =>
  gK t44 true (fun K => stepK (pureR σ (aFieldAddr 1 t45)) K) (fun t46 σ =>
  gK t44 true (fun K => stepK (pureR σ (aLoad false 1 t46 σ)) K) (fun t47 σ =>
  gK t44 true (fun K => stepK (pureR σ (aBin .neq .prim t47 (.val (Go.Value.int Go.IntKind.u8 0)))) K) (fun t48 σ =>
  gK t40 false (fun K => stepK (pureR σ (aPick t44 t48 (.val (Go.Value.bool Bool.false)))) K) (fun t49 σ =>
  stepK (pureR σ (aPick t40 (.val (Go.Value.bool Bool.true)) t49)) fun t50 σ =>
  condK t50 (
  k (.val (Go.Value.bool Bool.false)) σ
  ) (
  stepK (pureR σ (aFieldAddr 0 t1)) fun t51 σ =>
  stepK (pureR σ (aFieldAddr 3 t51)) fun t52 σ =>
  stepK (pureR σ (aLoad false 1 t52 σ)) fun t53 σ =>
  stepK (pureR σ (aBin .lss .prim t53 (.val (Go.Value.int Go.IntKind.i64 0)))) fun t54 σ =>
  gK t54 false (fun K => stepK (pureR σ (aFieldAddr 0 t1)) K) (fun t56 σ =>
  gK t54 false (fun K => stepK (pureR σ (aFieldAddr 3 t56)) K) (fun t57 σ =>
  gK t54 false (fun K => stepK (pureR σ (aLoad false 1 t57 σ)) K) (fun t58 σ =>
  gK t54 false (fun K => stepK (pureR σ (aBin .gtr .prim t58 (.val (Go.Value.int Go.IntKind.i64 2147483647)))) K) (fun t59 σ =>
  stepK (pureR σ (aPick t54 (.val (Go.Value.bool Bool.true)) t59)) fun t60 σ =>
  gK t60 false (fun K => K t9 σ) (fun t62 σ =>
  gK t60 false (fun K => stepK (pureR σ (aBin .neq .prim t62 (.val (Go.Value.int Go.IntKind.u8 1)))) K) (fun t63 σ =>
  gK t60 false (fun K => K t63 σ) (fun t64 σ =>
  gK t64 true (fun K => stepK (pureR σ (aFieldAddr 0 t1)) K) (fun t65 σ =>
  gK t64 true (fun K => stepK (pureR σ (aFieldAddr 3 t65)) K) (fun t66 σ =>
  gK t64 true (fun K => stepK (pureR σ (aLoad false 1 t66 σ)) K) (fun t67 σ =>
  gK t64 true (fun K => stepK (pureR σ (aBin .neq .prim t67 (.val (Go.Value.int Go.IntKind.i64 0)))) K) (fun t68 σ =>
  gK t60 false (fun K => stepK (pureR σ (aPick t64 t68 (.val (Go.Value.bool Bool.false)))) K) (fun t69 σ =>
  stepK (pureR σ (aPick t60 (.val (Go.Value.bool Bool.true)) t69)) fun t70 σ =>
  condK t70 (
  k (.val (Go.Value.bool Bool.false)) σ
  ) (
  stepK (pureR σ (aBin .eql .prim t9 (.val (Go.Value.int Go.IntKind.u8 2)))) fun t72 σ =>
  gK t72 false (fun K => K t9 σ) (fun t74 σ =>
  gK t72 false (fun K => stepK (pureR σ (aBin .eql .prim t74 (.val (Go.Value.int Go.IntKind.u8 12)))) K) (fun t75 σ =>
  stepK (pureR σ (aPick t72 (.val (Go.Value.bool Bool.true)) t75)) fun t76 σ =>
  gK t76 false (fun K => K t9 σ) (fun t78 σ =>
  gK t76 false (fun K => stepK (pureR σ (aBin .eql .prim t78 (.val (Go.Value.int Go.IntKind.u8 13)))) K) (fun t79 σ =>
  stepK (pureR σ (aPick t76 (.val (Go.Value.bool Bool.true)) t79)) fun t80 σ =>
  stepK (pureR σ (aBin .eql .prim t9 (.val (Go.Value.int Go.IntKind.u8 11)))) fun t82 σ =>
  gK t82 false (fun K => K t9 σ) (fun t84 σ =>
  gK t82 false (fun K => stepK (pureR σ (aBin .eql .prim t84 (.val (Go.Value.int Go.IntKind.u8 13)))) K) (fun t85 σ =>
  stepK (pureR σ (aPick t82 (.val (Go.Value.bool Bool.true)) t85)) fun t86 σ =>
  gK t86 false (fun K => K t9 σ) (fun t88 σ =>
  gK t86 false (fun K => stepK (pureR σ (aBin .eql .prim t88 (.val (Go.Value.int Go.IntKind.u8 16)))) K) (fun t89 σ =>
  stepK (pureR σ (aPick t86 (.val (Go.Value.bool Bool.true)) t89)) fun t90 σ =>
  stepK (pureR σ (aBin .eql .prim t9 (.val (Go.Value.int Go.IntKind.u8 15)))) fun t92 σ =>
  gK t92 false (fun K => K t9 σ) (fun t94 σ =>
  gK t92 false (fun K => stepK (pureR σ (aBin .eql .prim t94 (.val (Go.Value.int Go.IntKind.u8 16)))) K) (fun t95 σ =>
  stepK (pureR σ (aPick t92 (.val (Go.Value.bool Bool.true)) t95)) fun t96 σ =>
  stepK (pureR σ (aFieldAddr 0 t1)) fun t98 σ =>
  stepK (pureR σ (aFieldAddr 4 t98)) fun t99 σ =>
  stepK (pureR σ (aLoad false 1 t99 σ)) fun t100 σ =>
  stepK (pureR σ (aFieldAddr 0 t1)) fun t101 σ =>
  stepK (pureR σ (aFieldAddr 4 t101)) fun t102 σ =>
  stepK (pureR σ (aLoad false 1 t102 σ)) fun t103 σ =>
  Ev Go.Proofs.Tryz.prog 103 [t103] σ (fun t104 σ =>
  (stepK (pureR σ (aLoad false 1 t99 σ)) (fun y θ => y = t100 ∧ θ = σ)) ∧ (
  Ev Go.Proofs.Tryz.prog 137 [t80, t100, t104] σ (fun t105 σ =>
  gK t105 true (fun K => K t90 σ) (fun t107 σ =>
  gK t105 true (fun K => stepK (pureR σ (aFieldAddr 0 t1)) K) (fun t108 σ =>
  gK t105 true (fun K => stepK (pureR σ (aFieldAddr 5 t108)) K) (fun t109 σ =>
  gK t105 true (fun K => stepK (pureR σ (aLoad false 1 t109 σ)) K) (fun t110 σ =>
  gK t105 true (fun K => stepK (pureR σ (aFieldAddr 0 t1)) K) (fun t111 σ =>
  gK t105 true (fun K => stepK (pureR σ (aFieldAddr 5 t111)) K) (fun t112 σ =>
  gK t105 true (fun K => stepK (pureR σ (aLoad false 1 t112 σ)) K) (fun t113 σ =>
  gK t105 true (fun K => Ev Go.Proofs.Tryz.prog 103 [t113] σ K kp) (fun t114 σ =>
  (gK t105 true (fun K => stepK (pureR σ (aLoad false 1 t109 σ)) K) (fun y θ => y = t110 ∧ θ = σ) σ) ∧ (
  gK t105 true (fun K => Ev Go.Proofs.Tryz.prog 137 [t107, t110, t114] σ K kp) (fun t115 σ =>
  stepK (pureR σ (aPick t105 t115 (.val (Go.Value.bool Bool.false)))) fun t116 σ =>
  gK t116 true (fun K => K t96 σ) (fun t118 σ =>
  gK t116 true (fun K => stepK (pureR σ (aFieldAddr 0 t1)) K) (fun t119 σ =>
  gK t116 true (fun K => stepK (pureR σ (aFieldAddr 6 t119)) K) (fun t120 σ =>
  gK t116 true (fun K => stepK (pureR σ (aLoad false 1 t120 σ)) K) (fun t121 σ =>
  gK t116 true (fun K => stepK (pureR σ (aFieldAddr 0 t1)) K) (fun t122 σ =>
  gK t116 true (fun K => stepK (pureR σ (aFieldAddr 6 t122)) K) (fun t123 σ =>
  gK t116 true (fun K => stepK (pureR σ (aLoad false 1 t123 σ)) K) (fun t124 σ =>
  gK t116 true (fun K => Ev Go.Proofs.Tryz.prog 138 [t124] σ K kp) (fun t125 σ =>
  (gK t116 true (fun K => stepK (pureR σ (aLoad false 1 t120 σ)) K) (fun y θ => y = t121 ∧ θ = σ) σ) ∧ (
  gK t116 true (fun K => Ev Go.Proofs.Tryz.prog 137 [t118, t121, t125] σ K kp) (fun t126 σ =>
  stepK (pureR σ (aPick t116 t126 (.val (Go.Value.bool Bool.false)))) fun t127 σ =>
  k t127 σ
  ) σ)) σ) σ) σ) σ) σ) σ) σ) σ) σ)) σ) σ) σ) σ) σ) σ) σ) σ) kp)) kp) σ) σ) σ) σ) σ) σ) σ) σ) σ) σ)
  ) σ) σ) σ) σ) σ) σ) σ) σ) σ) σ) σ) σ)
  ) σ) σ) σ) σ) σ) σ) σ) σ) σ) σ) σ) σ) σ) σ) σ) σ) σ) σ)) σ) σ) σ) σ) σ))) σ) σ) σ) σ) σ) kp
def keep104 : List (Nat × List Nat) := [(0, [1]), (1, [1, 3]), (2, [1, 3, 26]), (2002, [0, 1, 2, 3, 4, 5, 6, 7, 8, 9, 10, 11, 12, 13, 14, 15, 16]), (102008, [5, 6]), (3, [2]), (4, [1, 3, 50]), (5, [2]), (6, [1, 3, 70]), (7, [2]), (8, [1, 3, 4]), (9, [1, 3, 4, 5]), (10, [1, 4, 5, 6]), (11, [2]), (2011, [0, 1, 2, 3, 4, 5, 6, 7, 8, 9, 10, 11, 12, 13, 14, 15, 16, 17, 18, 19, 20, 21, 22, 23, 24, 25, 26, 27, 28, 29, 30, 31]), (111007, [3]), (111017, [13]), (111028, [24])]
noncomputable def body104 : Code := (Go.Proofs.Tryz.f104).body.getD .skip
theorem F104_eq (t0 : AV) (σ : AHeap) (k kp : AV → AHeap → Prop) : aw Go.Proofs.Tryz.prog (keepOf keep104) body104 (retK Go.Proofs.Tryz.prog (Go.Proofs.Tryz.f104).results.toList k kp) (frameOf 0 [t0]) σ = F104 t0 σ k kp := by kernel_rfl
theorem F104_ev {t0 : AV} {σ : AHeap} {k kp : AV → AHeap → Prop} (h : F104 t0 σ k kp) : Ev Go.Proofs.Tryz.prog 104 [t0] σ k kp :=
  Ev_of_aw mixed Go.Proofs.Tryz.func104 (show (Go.Proofs.Tryz.f104).body = some body104 by kernel_rfl) (by kernel_rfl) (args := [t0]) (of_decide_eq_true (by kernel_rfl)) (keepOf keep104) (by kernel_rfl) (by rw [F104_eq]; exact h)

/-- enclave/enclaveref13.head -/
def F60 (t0 : AV) (σ : AHeap) (k kp : AV → AHeap → Prop) : Prop :=
  stepK (aBox t0 σ) fun t1 σ =>
  stepK (pureR σ (aFieldAddr 0 t1)) fun t7 σ =>
  stepK (pureR σ (aLoad true 7 t7 σ)) fun t8 σ =>
  stepK (aAlloc [.val (.int .u8 0), .val (.int .u8 0), .val (.int .i64 0), .val (.int .i64 0), .val (.string ByteArray.empty), .val (.string ByteArray.empty), .val (.string ByteArray.empty)] σ) fun t3 σ =>
  stepK (unitR (aStore 7 t3 t8 σ)) fun _ σ =>
  stepK (pureR σ (aFieldAddr 1 t3)) fun t9 σ =>
  stepK (pureR σ (aLoad false 1 t9 σ)) fun t10 σ =>
  stepK (pureR σ (aBin .eql .prim t10 (.val (Go.Value.int Go.IntKind.u8 0)))) fun t11 σ =>
  gK t11 true (fun K => stepK (pureR σ (aFieldAddr 3 t3)) K) (fun t13 σ =>
  gK t11 true (fun K => stepK (pureR σ (aLoad false 1 t13 σ)) K) (fun t14 σ =>
  gK t11 true (fun K => stepK (pureR σ (aBin .eql .prim t14 (.val (Go.Value.int Go.IntKind.i64 0)))) K) (fun t15 σ =>
  stepK (pureR σ (aPick t11 t15 (.val (Go.Value.bool Bool.false)))) fun t16 σ =>
  gK t16 true (fun K => stepK (pureR σ (aFieldAddr 5 t3)) K) (fun t18 σ =>
  gK t16 true (fun K => stepK (pureR σ (aLoad false 1 t18 σ)) K) (fun t19 σ =>
  gK t16 true (fun K => stepK (pureR σ (aBin .eql .prim t19 (.val (Go.Value.string { data := #[] })))) K) (fun t20 σ =>
  stepK (pureR σ (aPick t16 t20 (.val (Go.Value.bool Bool.false)))) fun t21 σ =>
  gK t21 true (fun K => stepK (pureR σ (aFieldAddr 6 t3)) K) (fun t23 σ =>
  gK t21 true (fun K => stepK (pureR σ (aLoad false 1 t23 σ)) K) (fun t24 σ =>
  gK t21 true (fun K => stepK (pureR σ (aBin .eql .prim t24 (.val (Go.Value.string { data := #[] })))) K) (fun t25 σ =>
  stepK (pureR σ (aPick t21 t25 (.val (Go.Value.bool Bool.false)))) fun t26 σ =>
  stepK (pureR σ (aFieldAddr 0 t1)) fun t27 σ =>
  stepK (pureR σ (aFieldAddr 0 t27)) fun t28 σ =>
  stepK (pureR σ (aLoad false 1 t28 σ)) fun t29 σ =>
  stepK (pureR σ (aBin .eql .prim t29 (.val (Go.Value.int Go.IntKind.u8 17)))) fun t30 σ =>
  condK t30 (
  gK t26 true (fun K => stepK (pureR σ (aFieldAddr 4 t3)) K) (fun t33 σ =>
  gK t26 true (fun K => stepK (pureR σ (aLoad false 1 t33 σ)) K) (fun t34 σ =>
  gK t26 true (fun K => stepK (pureR σ (aBin .eql .prim t34 (.val (Go.Value.string { data := #[] })))) K) (fun t35 σ =>
  stepK (pureR σ (aPick t26 t35 (.val (Go.Value.bool Bool.false)))) fun t36 σ =>
  gK t36 true (fun K => stepK (pureR σ (aFieldAddr 2 t3)) K) (fun t38 σ =>
  gK t36 true (fun K => stepK (pureR σ (aLoad false 1 t38 σ)) K) (fun t39 σ =>
  gK t36 true (fun K => stepK (pureR σ (aBin .geq .prim t39 (.val (Go.Value.int Go.IntKind.i64 0)))) K) (fun t40 σ =>
  stepK (pureR σ (aPick t36 t40 (.val (Go.Value.bool Bool.false)))) fun t41 σ =>
  gK t41 true (fun K => stepK (pureR σ (aFieldAddr 18 t1)) K) (fun t43 σ =>
  gK t41 true (fun K => stepK (pureR σ (aLoad false 1 t43 σ)) K) (fun t44 σ =>
  gK t41 true (fun K => stepK (pureR σ (aLenK .slice t44 σ)) K) (fun t45 σ =>
  gK t41 true (fun K => stepK (pureR σ (aBin .eql .prim t45 (.val (Go.Value.int Go.IntKind.i64 1)))) K) (fun t46 σ =>
  stepK (pureR σ (aPick t41 t46 (.val (Go.Value.bool Bool.false)))) fun t47 σ =>
  k t47 σ
  ) σ) σ) σ) σ) σ) σ) σ) σ) σ) σ) (
  stepK (pureR σ (aFieldAddr 0 t1)) fun t48 σ =>
  stepK (pureR σ (aFieldAddr 0 t48)) fun t49 σ =>
  stepK (pureR σ (aLoad false 1 t49 σ)) fun t50 σ =>
  stepK (pureR σ (aBin .eql .prim t50 (.val (Go.Value.int Go.IntKind.u8 18)))) fun t51 σ =>
  condK t51 (
  gK t26 true (fun K => stepK (pureR σ (aFieldAddr 4 t3)) K) (fun t54 σ =>
  gK t26 true (fun K => stepK (pureR σ (aLoad false 1 t54 σ)) K) (fun t55 σ =>
  gK t26 true (fun K => Ev Go.Proofs.Tryz.prog 103 [t55] σ K kp) (fun t56 σ =>
  stepK (pureR σ (aPick t26 t56 (.val (Go.Value.bool Bool.false)))) fun t57 σ =>
  gK t57 true (fun K => stepK (pureR σ (aFieldAddr 2 t3)) K) (fun t59 σ =>
  gK t57 true (fun K => stepK (pureR σ (aLoad false 1 t59 σ)) K) (fun t60 σ =>
  gK t57 true (fun K => stepK (pureR σ (aBin .geq .prim t60 (.val (Go.Value.int Go.IntKind.i64 0)))) K) (fun t61 σ =>
  stepK (pureR σ (aPick t57 t61 (.val (Go.Value.bool Bool.false)))) fun t62 σ =>
  gK t62 true (fun K => stepK (pureR σ (aFieldAddr 18 t1)) K) (fun t64 σ =>
  gK t62 true (fun K => stepK (pureR σ (aLoad false 1 t64 σ)) K) (fun t65 σ =>
  gK t62 true (fun K => stepK (pureR σ (aLenK .slice t65 σ)) K) (fun t66 σ =>
  gK t62 true (fun K => stepK (pureR σ (aBin .eql .prim t66 (.val (Go.Value.int Go.IntKind.i64 0)))) K) (fun t67 σ =>
  stepK (pureR σ (aPick t62 t67 (.val (Go.Value.bool Bool.false)))) fun t68 σ =>
  k t68 σ
  ) σ) σ) σ) σ) σ) σ) σ) σ) σ) σ) (
  stepK (pureR σ (aLoad true 7 t3 σ)) fun t69 σ =>
  stepK (pureR σ (aBuild [.val (.int .u8 0), .val (.int .u8 0), .val (.int .i64 0), .val (.int .i64 0), .val (.string ByteArray.empty), .val (.string ByteArray.empty), .val (.string ByteArray.empty), .val (.slice none 0 0)] [(0, 7, t69)])) fun t70 σ =>
  stepK (aAlloc [.val (.int .u8 0), .val (.int .u8 0), .val (.int .i64 0), .val (.int .i64 0), .val (.string ByteArray.empty), .val (.string ByteArray.empty), .val (.string ByteArray.empty), .val (.slice none 0 0)] σ) fun t5 σ =>
  stepK (unitR (aStore 8 t5 t70 σ)) fun _ σ =>
  seqW (fun fr σ => (
  stepK (pureR σ (aLoad true 8 (Abs.look fr 5) σ)) fun t88 σ =>
  Ev Go.Proofs.Tryz.prog 104 [t88] σ (fun t89 σ =>
  k t89 σ
  ) kp)) (fun j1 => (
  loopW (fun fr σ again => (
  stepK (pureR σ (aFieldAddr 18 (Abs.look fr 1))) fun t72 σ =>
  stepK (pureR σ (aLoad false 1 t72 σ)) fun t73 σ =>
  stepK (pureR σ (aLenK .slice t73 σ)) fun t74 σ =>
  stepK (pureR σ (aBin .lss .prim (Abs.look fr 6) t74)) fun t75 σ =>
  gK t75 true (fun K => K (Abs.look fr 6) σ) (fun t77 σ =>
  gK t75 true (fun K => stepK (pureR σ (aBin .lss .prim t77 (.val (Go.Value.int Go.IntKind.i64 4)))) K) (fun t78 σ =>
  stepK (pureR σ (aPick t75 t78 (.val (Go.Value.bool Bool.false)))) fun t79 σ =>
  condK t79 (
  stepK (pureR σ (aFieldAddr 7 (Abs.look fr 5))) fun t82 σ =>
  stepK (pureR σ (aLoad false 1 t82 σ)) fun t83 σ =>
  stepK (pureR σ (aBuild [.val (.int .u8 0), .val (.int .u8 0), .val (.int .i64 0), .val (.int .i64 0), .val (.string ByteArray.empty), .val (.string ByteArray.empty), .val (.string ByteArray.empty), .val (.slice none 0 0)] [])) fun t84 σ =>
  stepK (pureR σ (aBuildSl 1 8 [.val (.int .u8 0), .val (.int .u8 0), .val (.int .i64 0), .val (.int .i64 0), .val (.string ByteArray.empty), .val (.string ByteArray.empty), .val (.string ByteArray.empty), .val (.slice none 0 0)] [(0, t84)])) fun t85 σ =>
  stepK (aAppend 8 96 t83 t85 σ) fun t86 σ =>
  stepK (pureR σ (aFieldAddr 7 (Abs.look fr 5))) fun t87 σ =>
  stepK (unitR (aStore 1 t87 t86 σ)) fun _ σ =>
  stepK (pureR σ (aBin .add .prim (Abs.look fr 6) (.val (Go.Value.int Go.IntKind.i64 1)))) fun t81 σ =>
  again [(1, (Abs.look fr 1)), (5, (Abs.look fr 5)), (6, t81)] σ
  ) (
  j1 [(5, (Abs.look fr 5))] σ
  )
  ) σ) σ)) [(1, t1), (5, t5), (6, (.val (Go.Value.int Go.IntKind.i64 0)))] σ
  ))
  )
  )) σ) σ) σ) σ) σ) σ) σ) σ) σ
def keep60 : List (Nat × List Nat) := [(0, [1]), (1, [1, 3]), (2, [1, 3, 4]), (3, [1, 3, 4, 30]), (4, [2]), (5, [1, 3, 4, 51]), (6, [2]), (7, [1, 5]), (3013, [5]), (8, [1, 5, 6]), (9, [1, 5, 6, 79]), (11, [1, 5, 6]), (4011, [1]), (10, [1, 5, 6]), (1009, [1, 5, 6]), (12, [2])]
noncomputable def body60 : Code := (Go.Proofs.Tryz.f60).body.getD .skip
theorem F60_eq (t0 : AV) (σ : AHeap) (k kp : AV → AHeap → Prop) : aw Go.Proofs.Tryz.prog (keepOf keep60) body60 (retK Go.Proofs.Tryz.prog (Go.Proofs.Tryz.f60).results.toList k kp) (frameOf 0 [t0]) σ = F60 t0 σ k kp := by kernel_rfl
theorem F60_ev {t0 : AV} {σ : AHeap} {k kp : AV → AHeap → Prop} (h : F60 t0 σ k kp) : Ev Go.Proofs.Tryz.prog 60 [t0] σ k kp :=
  Ev_of_aw mixed Go.Proofs.Tryz.func60 (show (Go.Proofs.Tryz.f60).body = some body60 by kernel_rfl) (by kernel_rfl) (args := [t0]) (of_decide_eq_true (by kernel_rfl)) (keepOf keep60) (by kernel_rfl) (by rw [F60_eq]; exact h)

/-- enclave/enclaveref13.in -/
def F61 (t0 t1 : AV) (σ : AHeap) (k kp : AV → AHeap → Prop) : Prop :=
  seqW (fun fr σ => (
  k (.val (Go.Value.bool Bool.false)) σ
  )) (fun j1 => (
  stepK (pureR σ (aLenK .slice t0 σ)) fun t7 σ =>
  loopW (fun fr σ again => (
  stepK (pureR σ (aBin .lss .prim (Abs.look fr 8) (Abs.look fr 7))) fun t9 σ =>
  condK t9 (
  stepK (pureR σ (aIndexAddr 1 (Abs.look fr 0) (Abs.look fr 8) σ)) fun t13 σ =>
  stepK (pureR σ (aLoad false 1 t13 σ)) fun t14 σ =>
  stepK (pureR σ (aBin .eql .prim t14 (Abs.look fr 1))) fun t16 σ =>
  condK t16 (
  k (.val (Go.Value.bool Bool.true)) σ
  ) (
  stepK (pureR σ (aBin .add .prim (Abs.look fr 8) (.val (Go.Value.int Go.IntKind.i64 1)))) fun t17 σ =>
  again [(0, (Abs.look fr 0)), (1, (Abs.look fr 1)), (7, (Abs.look fr 7)), (8, t17)] σ
  )
  ) (
  j1 [(0, (Abs.look fr 0))] σ
  )
  )) [(0, t0), (1, t1), (7, t7), (8, (.val (Go.Value.int Go.IntKind.i64 0)))] σ
  ))
def keep61 : List (Nat × List Nat) := [(0, [0, 1]), (3008, [0]), (1, [0, 1, 7, 8]), (2, [0, 1, 7, 8, 9]), (3, [0, 1, 5, 7, 8]), (4, [0, 1, 7, 8, 16]), (5, [4]), (6, [0, 1, 7, 8]), (1002, [0, 1, 7, 8]), (7, [4])]
noncomputable def body61 : Code := (Go.Proofs.Tryz.f61).body.getD .skip
theorem F61_eq (t0 t1 : AV) (σ : AHeap) (k kp : AV → AHeap → Prop) : aw Go.Proofs.Tryz.prog (keepOf keep61) body61 (retK Go.Proofs.Tryz.prog (Go.Proofs.Tryz.f61).results.toList k kp) (frameOf 0 [t0, t1]) σ = F61 t0 t1 σ k kp := by kernel_rfl
theorem F61_ev {t0 t1 : AV} {σ : AHeap} {k kp : AV → AHeap → Prop} (h : F61 t0 t1 σ k kp) : Ev Go.Proofs.Tryz.prog 61 [t0, t1] σ k kp :=
  Ev_of_aw mixed Go.Proofs.Tryz.func61 (show (Go.Proofs.Tryz.f61).body = some body61 by kernel_rfl) (by kernel_rfl) (args := [t0, t1]) (of_decide_eq_true (by kernel_rfl)) (keepOf keep61) (by kernel_rfl) (by rw [F61_eq]; exact h)

/-- enclave/enclaveref11.May -/
def F62 (t0 : AV) (σ : AHeap) (k kp : AV → AHeap → Prop) : Prop :=
  seqW (fun fr σ => (
  k (.val (Go.Value.bool Bool.true)) σ
  )) (fun j1 => (
  stepK (pureR σ (aLenK .slice t0 σ)) fun t5 σ =>
  loopW (fun fr σ again => (
  stepK (pureR σ (aBin .lss .prim (Abs.look fr 6) (Abs.look fr 5))) fun t7 σ =>
  condK t7 (
  stepK (pureR σ (aIndexAddr 3 (Abs.look fr 0) (Abs.look fr 6) σ)) fun t11 σ =>
  stepK (pureR σ (aLoad true 3 t11 σ)) fun t12 σ =>
  Ev Go.Proofs.Tryz.prog 105 [t12] σ (fun t13 σ =>
  stepK (pureR σ (aNot t13)) fun t14 σ =>
  gK t14 false (fun K => K (Abs.look fr 6) σ) (fun t16 σ =>
  gK t14 false (fun K => stepK (pureR σ (aBin .gtr .prim t16 (.val (Go.Value.int Go.IntKind.i64 0)))) K) (fun t17 σ =>
  gK t14 false (fun K => K t17 σ) (fun t18 σ =>
  gK t18 true (fun K => K (Abs.look fr 0) σ) (fun t19 σ =>
  gK t18 true (fun K => K (Abs.look fr 6) σ) (fun t20 σ =>
  gK t18 true (fun K => stepK (pureR σ (aBin .sub .prim t20 (.val (Go.Value.int Go.IntKind.i64 1)))) K) (fun t21 σ =>
  gK t18 true (fun K => stepK (pureR σ (aIndexAddr 3 t19 t21 σ)) K) (fun t22 σ =>
  gK t18 true (fun K => stepK (pureR σ (aLoad true 3 t22 σ)) K) (fun t23 σ =>
  gK t18 true (fun K => K (Abs.look fr 0) σ) (fun t24 σ =>
  gK t18 true (fun K => K (Abs.look fr 6) σ) (fun t25 σ =>
  gK t18 true (fun K => stepK (pureR σ (aIndexAddr 3 t24 t25 σ)) K) (fun t26 σ =>
  gK t18 true (fun K => stepK (pureR σ (aLoad true 3 t26 σ)) K) (fun t27 σ =>
  gK t18 true (fun K => Ev Go.Proofs.Tryz.prog 106 [t23, t27] σ K kp) (fun t28 σ =>
  gK t18 true (fun K => stepK (pureR σ (aNot t28)) K) (fun t29 σ =>
  gK t14 false (fun K => stepK (pureR σ (aPick t18 t29 (.val (Go.Value.bool Bool.false)))) K) (fun t30 σ =>
  stepK (pureR σ (aPick t14 (.val (Go.Value.bool Bool.true)) t30)) fun t31 σ =>
  condK t31 (
  k (.val (Go.Value.bool Bool.false)) σ
  ) (
  stepK (pureR σ (aBin .add .prim (Abs.look fr 6) (.val (Go.Value.int Go.IntKind.i64 1)))) fun t32 σ =>
  again [(0, (Abs.look fr 0)), (5, (Abs.look fr 5)), (6, t32)] σ
  )
  ) σ) σ) σ) σ) σ) σ) σ) σ) σ) σ) σ) σ) σ) σ) σ) kp) (
  j1 [(0, (Abs.look fr 0))] σ
  )
  )) [(0, t0), (5, t5), (6, (.val (Go.Value.int Go.IntKind.i64 0)))] σ
  ))
def keep62 : List (Nat × List Nat) := [(0, [0]), (3008, [0]), (1, [0, 5, 6]), (2, [0, 5, 6, 7]), (3, [0, 3, 5, 6]), (4, [0, 5, 6, 31]), (2004, [0, 1, 2, 3, 4, 5, 6, 7, 8, 9, 10, 11, 12, 13, 14, 15, 16, 17, 18, 19, 20, 21, 22]), (5, [2]), (6, [0, 5, 6]), (1002, [0, 5, 6]), (7, [2])]
noncomputable def body62 : Code := (Go.Proofs.Tryz.f62).body.getD .skip
theorem F62_eq (t0 : AV) (σ : AHeap) (k kp : AV → AHeap → Prop) : aw Go.Proofs.Tryz.prog (keepOf keep62) body62 (retK Go.Proofs.Tryz.prog (Go.Proofs.Tryz.f62).results.toList k kp) (frameOf 0 [t0]) σ = F62 t0 σ k kp := by kernel_rfl
theorem F62_ev {t0 : AV} {σ : AHeap} {k kp : AV → AHeap → Prop} (h : F62 t0 σ k kp) : Ev Go.Proofs.Tryz.prog 62 [t0] σ k kp :=
  Ev_of_aw mixed Go.Proofs.Tryz.func62 (show (Go.Proofs.Tryz.f62).body = some body62 by kernel_rfl) (by kernel_rfl) (args := [t0]) (of_decide_eq_true (by kernel_rfl)) (keepOf keep62) (by kernel_rfl) (by rw [F62_eq]; exact h)

/-- enclave/enclaveref12.May -/
def F63 (t0 : AV) (σ : AHeap) (k kp : AV → AHeap → Prop) : Prop :=
  stepK (aBox t0 σ) fun t1 σ =>
  seqW (fun fr σ => (
  seqW (fun fr σ => (
  stepK (pureR σ (aFieldAddr 0 (Abs.look fr 1))) fun t16 σ =>
  stepK (pureR σ (aLoad false 1 t16 σ)) fun t17 σ =>
  stepK (pureR σ (aBin .lss .prim t17 (.val (Go.Value.int Go.IntKind.u8 1)))) fun t18 σ =>
  gK t18 false (fun K => stepK (pureR σ (aFieldAddr 0 (Abs.look fr 1))) K) (fun t20 σ =>
  gK t18 false (fun K => stepK (pureR σ (aLoad false 1 t20 σ)) K) (fun t21 σ =>
  gK t18 false (fun K => stepK (pureR σ (aBin .gtr .prim t21 (.val (Go.Value.int Go.IntKind.u8 4)))) K) (fun t22 σ =>
  stepK (pureR σ (aPick t18 (.val (Go.Value.bool Bool.true)) t22)) fun t23 σ =>
  gK t23 false (fun K => stepK (pureR σ (aFieldAddr 3 (Abs.look fr 1))) K) (fun t25 σ =>
  gK t23 false (fun K => stepK (pureR σ (aLoad false 1 t25 σ)) K) (fun t26 σ =>
  gK t23 false (fun K => stepK (pureR σ (aLenK .slice t26 σ)) K) (fun t27 σ =>
  gK t23 false (fun K => K (Abs.look fr 3) σ) (fun t28 σ =>
  gK t23 false (fun K => stepK (pureR σ (aBin .neq .prim t27 t28)) K) (fun t29 σ =>
  stepK (pureR σ (aPick t23 (.val (Go.Value.bool Bool.true)) t29)) fun t30 σ =>
  gK t30 false (fun K => stepK (pureR σ (aFieldAddr 1 (Abs.look fr 1))) K) (fun t32 σ =>
  gK t30 false (fun K => stepK (pureR σ (aLoad false 1 t32 σ)) K) (fun t33 σ =>
  gK t30 false (fun K => stepK (pureR σ (aBin .lss .prim t33 (.val (Go.Value.int Go.IntKind.i64 0)))) K) (fun t34 σ =>
  stepK (pureR σ (aPick t30 (.val (Go.Value.bool Bool.true)) t34)) fun t35 σ =>
  gK t35 false (fun K => stepK (pureR σ (aFieldAddr 0 (Abs.look fr 1))) K) (fun t37 σ =>
  gK t35 false (fun K => stepK (pureR σ (aLoad false 1 t37 σ)) K) (fun t38 σ =>
  gK t35 false (fun K => stepK (pureR σ (aBin .eql .prim t38 (.val (Go.Value.int Go.IntKind.u8 1)))) K) (fun t39 σ =>
  gK t35 false (fun K => K t39 σ) (fun t40 σ =>
  gK t40 true (fun K => stepK (pureR σ (aFieldAddr 1 (Abs.look fr 1))) K) (fun t41 σ =>
  gK t40 true (fun K => stepK (pureR σ (aLoad false 1 t41 σ)) K) (fun t42 σ =>
  gK t40 true (fun K => stepK (pureR σ (aBin .gtr .prim t42 (.val (Go.Value.int Go.IntKind.i64 0)))) K) (fun t43 σ =>
  gK t35 false (fun K => stepK (pureR σ (aPick t40 t43 (.val (Go.Value.bool Bool.false)))) K) (fun t44 σ =>
  stepK (pureR σ (aPick t35 (.val (Go.Value.bool Bool.true)) t44)) fun t45 σ =>
  gK t45 false (fun K => stepK (pureR σ (aFieldAddr 0 (Abs.look fr 1))) K) (fun t47 σ =>
  gK t45 false (fun K => stepK (pureR σ (aLoad false 1 t47 σ)) K) (fun t48 σ =>
  gK t45 false (fun K => stepK (pureR σ (aBin .neq .prim t48 (.val (Go.Value.int Go.IntKind.u8 4)))) K) (fun t49 σ =>
  gK t45 false (fun K => K t49 σ) (fun t50 σ =>
  gK t50 true (fun K => stepK (pureR σ (aFieldAddr 2 (Abs.look fr 1))) K) (fun t51 σ =>
  gK t50 true (fun K => stepK (pureR σ (aLoad false 1 t51 σ)) K) (fun t52 σ =>
  gK t50 true (fun K => stepK (pureR σ (aLenK .slice t52 σ)) K) (fun t53 σ =>
  gK t50 true (fun K => stepK (pureR σ (aBin .gtr .prim t53 (.val (Go.Value.int Go.IntKind.i64 0)))) K) (fun t54 σ =>
  gK t45 false (fun K => stepK (pureR σ (aPick t50 t54 (.val (Go.Value.bool Bool.false)))) K) (fun t55 σ =>
  stepK (pureR σ (aPick t45 (.val (Go.Value.bool Bool.true)) t55)) fun t56 σ =>
  gK t56 false (fun K => stepK (pureR σ (aFieldAddr 2 (Abs.look fr 1))) K) (fun t58 σ =>
  gK t56 false (fun K => stepK (pureR σ (aLoad false 1 t58 σ)) K) (fun t59 σ =>
  gK t56 false (fun K => Ev Go.Proofs.Tryz.prog 62 [t59] σ K kp) (fun t60 σ =>
  gK t56 false (fun K => stepK (pureR σ (aNot t60)) K) (fun t61 σ =>
  stepK (pureR σ (aPick t56 (.val (Go.Value.bool Bool.true)) t61)) fun t62 σ =>
  condK t62 (
  k (.val (Go.Value.bool Bool.false)) σ
  ) (
  seqW (fun fr σ => (
  k (.val (Go.Value.bool Bool.true)) σ
  )) (fun j3 => (
  stepK (pureR σ (aFieldAddr 3 (Abs.look fr 1))) fun t63 σ =>
  stepK (pureR σ (aLoad false 1 t63 σ)) fun t64 σ =>
  stepK (pureR σ (aLenK .slice t64 σ)) fun t65 σ =>
  loopW (fun fr σ again => (
  stepK (pureR σ (aBin .lss .prim (Abs.look fr 66) (Abs.look fr 65))) fun t67 σ =>
  condK t67 (
  stepK (pureR σ (aFieldAddr 3 (Abs.look fr 1))) fun t69 σ =>
  stepK (pureR σ (aLoad false 1 t69 σ)) fun t70 σ =>
  stepK (pureR σ (aIndexAddr 4 t70 (Abs.look fr 66) σ)) fun t72 σ =>
  stepK (pureR σ (aLoad true 4 t72 σ)) fun t73 σ =>
  Ev Go.Proofs.Tryz.prog 63 [t73] σ (fun t74 σ =>
  stepK (pureR σ (aNot t74)) fun t75 σ =>
  condK t75 (
  k (.val (Go.Value.bool Bool.false)) σ
  ) (
  stepK (pureR σ (aBin .add .prim (Abs.look fr 66) (.val (Go.Value.int Go.IntKind.i64 1)))) fun t76 σ =>
  again [(1, (Abs.look fr 1)), (65, (Abs.look fr 65)), (66, t76)] σ
  )
  ) kp) (
  j3 [(0, .any)] σ
  )
  )) [(1, (Abs.look fr 1)), (65, t65), (66, (.val (Go.Value.int Go.IntKind.i64 0)))] σ
  ))
  )
  ) σ) σ) σ) σ) σ) σ) σ) σ) σ) σ) σ) σ) σ) σ) σ) σ) σ) σ) σ) σ) σ) σ) σ) σ) σ) σ) σ) σ) σ) σ) σ) σ)) (fun j2 => (
  stepK (pureR σ (aFieldAddr 0 (Abs.look fr 1))) fun t13 σ =>
  stepK (pureR σ (aLoad false 1 t13 σ)) fun t14 σ =>
  stepK (pureR σ (aBin .eql .prim t14 (.val (Go.Value.int Go.IntKind.u8 3)))) fun t15 σ =>
  condK t15 (
  j2 [(1, (Abs.look fr 1)), (3, (.val (Go.Value.int Go.IntKind.i64 1)))] σ
  ) (
  j2 [(1, (Abs.look fr 1)), (3, (Abs.look fr 3))] σ
  )
  ))
  )) (fun j1 => (
  stepK (pureR σ (aFieldAddr 0 t1)) fun t5 σ =>
  stepK (pureR σ (aLoad false 1 t5 σ)) fun t6 σ =>
  stepK (pureR σ (aBin .eql .prim t6 (.val (Go.Value.int Go.IntKind.u8 2)))) fun t7 σ =>
  gK t7 false (fun K => stepK (pureR σ (aFieldAddr 0 t1)) K) (fun t9 σ =>
  gK t7 false (fun K => stepK (pureR σ (aLoad false 1 t9 σ)) K) (fun t10 σ =>
  gK t7 false (fun K => stepK (pureR σ (aBin .eql .prim t10 (.val (Go.Value.int Go.IntKind.u8 4)))) K) (fun t11 σ =>
  stepK (pureR σ (aPick t7 (.val (Go.Value.bool Bool.true)) t11)) fun t12 σ =>
  condK t12 (
  j1 [(1, t1), (3, (.val (Go.Value.int Go.IntKind.i64 2)))] σ
  ) (
  j1 [(1, t1), (3, (.val (Go.Value.int Go.IntKind.i64 0)))] σ
  )
  ) σ) σ) σ))
def keep63 : List (Nat × List Nat) := [(0, [1]), (1, [1, 3]), (3005, [1, 3]), (2, [1, 3, 12]), (3, [1, 3]), (3007, [1, 3]), (4, [1, 3, 15]), (5, [1, 3]), (6, [1, 62]), (7, [2]), (3015, [0]), (8, [1, 65, 66]), (9, [1, 65, 66, 67]), (10, [1, 4, 65, 66]), (11, [1, 65, 66, 75]), (12, [2]), (13, [1, 65, 66]), (1009, [1, 65, 66]), (14, [2])]
noncomputable def body63 : Code := (Go.Proofs.Tryz.f63).body.getD .skip
theorem F63_eq (t0 : AV) (σ : AHeap) (k kp : AV → AHeap → Prop) : aw Go.Proofs.Tryz.prog (keepOf keep63) body63 (retK Go.Proofs.Tryz.prog (Go.Proofs.Tryz.f63).results.toList k kp) (frameOf 0 [t0]) σ = F63 t0 σ k kp := by kernel_rfl
theorem F63_ev {t0 : AV} {σ : AHeap} {k kp : AV → AHeap → Prop} (h : F63 t0 σ k kp) : Ev Go.Proofs.Tryz.prog 63 [t0] σ k kp :=
  Ev_of_aw mixed Go.Proofs.Tryz.func63 (show (Go.Proofs.Tryz.f63).body = some body63 by kernel_rfl) (by kernel_rfl) (args := [t0]) (of_decide_eq_true (by kernel_rfl)) (keepOf keep63) (by kernel_rfl) (by rw [F63_eq]; exact h)

/-- enclave/enclaveref13.plain -/
def F64 (t0 : AV) (σ : AHeap) (k kp : AV → AHeap → Prop) : Prop :=
  stepK (aBox t0 σ) fun t1 σ =>
  stepK (pureR σ (aFieldAddr 0 t1)) fun t3 σ =>
  stepK (pureR σ (aLoad false 1 t3 σ)) fun t4 σ =>
  stepK (pureR σ (aBin .eql .prim t4 (.val (Go.Value.int Go.IntKind.u8 0)))) fun t5 σ =>
  gK t5 true (fun K => stepK (pureR σ (aFieldAddr 1 t1)) K) (fun t7 σ =>
  gK t5 true (fun K => stepK (pureR σ (aLoad false 1 t7 σ)) K) (fun t8 σ =>
  gK t5 true (fun K => stepK (pureR σ (aBin .eql .prim t8 (.val (Go.Value.int Go.IntKind.i64 0)))) K) (fun t9 σ =>
  stepK (pureR σ (aPick t5 t9 (.val (Go.Value.bool Bool.false)))) fun t10 σ =>
  gK t10 true (fun K => stepK (pureR σ (aFieldAddr 2 t1)) K) (fun t12 σ =>
  gK t10 true (fun K => stepK (pureR σ (aLoad false 1 t12 σ)) K) (fun t13 σ =>
  gK t10 true (fun K => stepK (pureR σ (aLenK .slice t13 σ)) K) (fun t14 σ =>
  gK t10 true (fun K => stepK (pureR σ (aBin .eql .prim t14 (.val (Go.Value.int Go.IntKind.i64 0)))) K) (fun t15 σ =>
  stepK (pureR σ (aPick t10 t15 (.val (Go.Value.bool Bool.false)))) fun t16 σ =>
  gK t16 true (fun K => stepK (pureR σ (aFieldAddr 3 t1)) K) (fun t18 σ =>
  gK t16 true (fun K => stepK (pureR σ (aLoad false 1 t18 σ)) K) (fun t19 σ =>
  gK t16 true (fun K => stepK (pureR σ (aLenK .slice t19 σ)) K) (fun t20 σ =>
  gK t16 true (fun K => stepK (pureR σ (aBin .eql .prim t20 (.val (Go.Value.int Go.IntKind.i64 0)))) K) (fun t21 σ =>
  stepK (pureR σ (aPick t16 t21 (.val (Go.Value.bool Bool.false)))) fun t22 σ =>
  k t22 σ) σ) σ) σ) σ) σ) σ) σ) σ) σ) σ) σ
def keep64 : List (Nat × List Nat) := [(0, [1]), (1, [2])]
noncomputable def body64 : Code := (Go.Proofs.Tryz.f64).body.getD .skip
theorem F64_eq (t0 : AV) (σ : AHeap) (k kp : AV → AHeap → Prop) : aw Go.Proofs.Tryz.prog (keepOf keep64) body64 (retK Go.Proofs.Tryz.prog (Go.Proofs.Tryz.f64).results.toList k kp) (frameOf 0 [t0]) σ = F64 t0 σ k kp := by kernel_rfl
theorem F64_ev {t0 : AV} {σ : AHeap} {k kp : AV → AHeap → Prop} (h : F64 t0 σ k kp) : Ev Go.Proofs.Tryz.prog 64 [t0] σ k kp :=
  Ev_of_aw mixed Go.Proofs.Tryz.func64 (show (Go.Proofs.Tryz.f64).body = some body64 by kernel_rfl) (by kernel_rfl) (args := [t0]) (of_decide_eq_true (by kernel_rfl)) (keepOf keep64) (by kernel_rfl) (by rw [F64_eq]; exact h)

/-- enclave/enclaveref04.Kids -/
def F136 (t0 : AV) (σ : AHeap) (k kp : AV → AHeap → Prop) : Prop :=
  seqW (fun fr σ => (
  condK (Abs.look fr 4) (
  k (.val (Go.Value.int Go.IntKind.i64 0)) σ
  ) (
  seqW (fun fr σ => (
  condK (Abs.look fr 7) (
  k (.val (Go.Value.int Go.IntKind.i64 1)) σ
  ) (
  seqW (fun fr σ => (
  condK (Abs.look fr 14) (
  k (.val (Go.Value.int Go.IntKind.i64 2)) σ
  ) (
  stepK (pureR σ (aBin .eql .prim (Abs.look fr 3) (.val (Go.Value.int Go.IntKind.u8 14)))) fun t23 σ =>
  condK t23 (
  k (.val (Go.Value.int Go.IntKind.i64 3)) σ
  ) (
  k (.val (Go.Value.int Go.IntKind.i64 (-1))) σ
  )
  )
  )) (fun j3 => (
  stepK (pureR σ (aBin .eql .prim (Abs.look fr 3) (.val (Go.Value.int Go.IntKind.u8 3)))) fun t15 σ =>
  condK t15 (
  j3 [(3, (Abs.look fr 3)), (14, t15)] σ
  ) (
  stepK (pureR σ (aBin .eql .prim (Abs.look fr 3) (.val (Go.Value.int Go.IntKind.u8 8)))) fun t16 σ =>
  condK t16 (
  j3 [(3, (Abs.look fr 3)), (14, t16)] σ
  ) (
  stepK (pureR σ (aBin .eql .prim (Abs.look fr 3) (.val (Go.Value.int Go.IntKind.u8 9)))) fun t17 σ =>
  condK t17 (
  j3 [(3, (Abs.look fr 3)), (14, t17)] σ
  ) (
  stepK (pureR σ (aBin .eql .prim (Abs.look fr 3) (.val (Go.Value.int Go.IntKind.u8 10)))) fun t18 σ =>
  condK t18 (
  j3 [(3, (Abs.look fr 3)), (14, t18)] σ
  ) (
  stepK (pureR σ (aBin .eql .prim (Abs.look fr 3) (.val (Go.Value.int Go.IntKind.u8 12)))) fun t19 σ =>
  condK t19 (
  j3 [(3, (Abs.look fr 3)), (14, t19)] σ
  ) (
  stepK (pureR σ (aBin .eql .prim (Abs.look fr 3) (.val (Go.Value.int Go.IntKind.u8 13)))) fun t20 σ =>
  condK t20 (
  j3 [(3, (Abs.look fr 3)), (14, t20)] σ
  ) (
  stepK (pureR σ (aBin .eql .prim (Abs.look fr 3) (.val (Go.Value.int Go.IntKind.u8 16)))) fun t21 σ =>
  j3 [(3, (Abs.look fr 3)), (14, t21)] σ
  )
  )
  )
  )
  )
  )
  ))
  )
  )) (fun j2 => (
  stepK (pureR σ (aBin .eql .prim (Abs.look fr 3) (.val (Go.Value.int Go.IntKind.u8 4)))) fun t8 σ =>
  condK t8 (
  j2 [(3, (Abs.look fr 3)), (7, t8)] σ
  ) (
  stepK (pureR σ (aBin .eql .prim (Abs.look fr 3) (.val (Go.Value.int Go.IntKind.u8 5)))) fun t9 σ =>
  condK t9 (
  j2 [(3, (Abs.look fr 3)), (7, t9)] σ
  ) (
  stepK (pureR σ (aBin .eql .prim (Abs.look fr 3) (.val (Go.Value.int Go.IntKind.u8 6)))) fun t10 σ =>
  condK t10 (
  j2 [(3, (Abs.look fr 3)), (7, t10)] σ
  ) (
  stepK (pureR σ (aBin .eql .prim (Abs.look fr 3) (.val (Go.Value.int Go.IntKind.u8 7)))) fun t11 σ =>
  condK t11 (
  j2 [(3, (Abs.look fr 3)), (7, t11)] σ
  ) (
  stepK (pureR σ (aBin .eql .prim (Abs.look fr 3) (.val (Go.Value.int Go.IntKind.u8 11)))) fun t12 σ =>
  condK t12 (
  j2 [(3, (Abs.look fr 3)), (7, t12)] σ
  ) (
  stepK (pureR σ (aBin .eql .prim (Abs.look fr 3) (.val (Go.Value.int Go.IntKind.u8 15)))) fun t13 σ =>
  j2 [(3, (Abs.look fr 3)), (7, t13)] σ
  )
  )
  )
  )
  )
  ))
  )
  )) (fun j1 => (
  stepK (pureR σ (aBin .eql .prim t0 (.val (Go.Value.int Go.IntKind.u8 1)))) fun t5 σ =>
  condK t5 (
  j1 [(3, t0), (4, t5)] σ
  ) (
  stepK (pureR σ (aBin .eql .prim t0 (.val (Go.Value.int Go.IntKind.u8 2)))) fun t6 σ =>
  j1 [(3, t0), (4, t6)] σ
  )
  ))
def keep136 : List (Nat × List Nat) := [(0, [0]), (1, [3]), (3005, [3, 4]), (2, [3, 4]), (3, [3, 4]), (4, [2]), (3012, [3, 7]), (5, [3, 7]), (6, [3, 7]), (7, [3, 7]), (8, [3, 7]), (9, [3, 7]), (10, [3, 7]), (11, [2]), (3020, [3, 14]), (12, [3, 14]), (13, [3, 14]), (14, [3, 14]), (15, [3, 14]), (16, [3, 14]), (17, [3, 14]), (18, [3, 14]), (19, [2]), (20, [22]), (21, [2]), (22, [2])]
noncomputable def body136 : Code := (Go.Proofs.Tryz.f136).body.getD .skip
theorem F136_eq (t0 : AV) (σ : AHeap) (k kp : AV → AHeap → Prop) : aw Go.Proofs.Tryz.prog (keepOf keep136) body136 (retK Go.Proofs.Tryz.prog (Go.Proofs.Tryz.f136).results.toList k kp) (frameOf 0 [t0]) σ = F136 t0 σ k kp := by kernel_rfl
theorem F136_ev {t0 : AV} {σ : AHeap} {k kp : AV → AHeap → Prop} (h : F136 t0 σ k kp) : Ev Go.Proofs.Tryz.prog 136 [t0] σ k kp :=
  Ev_of_aw mixed Go.Proofs.Tryz.func136 (show (Go.Proofs.Tryz.f136).body = some body136 by kernel_rfl) (by kernel_rfl) (args := [t0]) (of_decide_eq_true (by kernel_rfl)) (keepOf keep136) (by kernel_rfl) (by rw [F136_eq]; exact h)

/-- enclave/enclaveref04.fits -/
def F137 (t0 t1 t2 : AV) (σ : AHeap) (k kp : AV → AHeap → Prop) : Prop :=
  gK t0 true (fun K => K t2 σ) (fun t9 σ =>
  stepK (pureR σ (aPick t0 t9 (.val (Go.Value.bool Bool.false)))) fun t10 σ =>
  gK t10 false (fun K => K t0 σ) (fun t12 σ =>
  gK t10 false (fun K => stepK (pureR σ (aNot t12)) K) (fun t13 σ =>
  gK t10 false (fun K => K t13 σ) (fun t14 σ =>
  gK t14 true (fun K => K t1 σ) (fun t15 σ =>
  gK t14 true (fun K => stepK (pureR σ (aBin .eql .prim t15 (.val (Go.Value.string { data := #[] })))) K) (fun t16 σ =>
  gK t10 false (fun K => stepK (pureR σ (aPick t14 t16 (.val (Go.Value.bool Bool.false)))) K) (fun t17 σ =>
  stepK (pureR σ (aPick t10 (.val (Go.Value.bool Bool.true)) t17)) fun t18 σ =>
  k t18 σ) σ) σ) σ) σ) σ) σ) σ
def keep137 : List (Nat × List Nat) := [(0, [0, 1, 2]), (1, [6])]
noncomputable def body137 : Code := (Go.Proofs.Tryz.f137).body.getD .skip
theorem F137_eq (t0 t1 t2 : AV) (σ : AHeap) (k kp : AV → AHeap → Prop) : aw Go.Proofs.Tryz.prog (keepOf keep137) body137 (retK Go.Proofs.Tryz.prog (Go.Proofs.Tryz.f137).results.toList k kp) (frameOf 0 [t0, t1, t2]) σ = F137 t0 t1 t2 σ k kp := by kernel_rfl
theorem F137_ev {t0 t1 t2 : AV} {σ : AHeap} {k kp : AV → AHeap → Prop} (h : F137 t0 t1 t2 σ k kp) : Ev Go.Proofs.Tryz.prog 137 [t0, t1, t2] σ k kp :=
  Ev_of_aw mixed Go.Proofs.Tryz.func137 (show (Go.Proofs.Tryz.f137).body = some body137 by kernel_rfl) (by kernel_rfl) (args := [t0, t1, t2]) (of_decide_eq_true (by kernel_rfl)) (keepOf keep137) (by kernel_rfl) (by rw [F137_eq]; exact h)

/-- enclave/enclaveref02.Name -/
def F103 (t0 : AV) (σ : AHeap) (k kp : AV → AHeap → Prop) : Prop :=
  Ev Go.Proofs.Tryz.prog 134 [t0, (.val (Go.Value.int Go.IntKind.u8 3))] σ (fun t4 σ =>
  gK t4 true (fun K => K t0 σ) (fun t6 σ =>
  gK t4 true (fun K => Ev Go.Proofs.Tryz.prog 135 [t6] σ K kp) (fun t7 σ =>
  gK t4 true (fun K => stepK (pureR σ (aBin .eql .prim t7 (.val (Go.Value.int Go.IntKind.i64 0)))) K) (fun t8 σ =>
  stepK (pureR σ (aPick t4 t8 (.val (Go.Value.bool Bool.false)))) fun t9 σ =>
  k t9 σ) σ) σ) σ) kp
def keep103 : List (Nat × List Nat) := [(0, [0]), (1, [2])]
noncomputable def body103 : Code := (Go.Proofs.Tryz.f103).body.getD .skip
theorem F103_eq (t0 : AV) (σ : AHeap) (k kp : AV → AHeap → Prop) : aw Go.Proofs.Tryz.prog (keepOf keep103) body103 (retK Go.Proofs.Tryz.prog (Go.Proofs.Tryz.f103).results.toList k kp) (frameOf 0 [t0]) σ = F103 t0 σ k kp := by kernel_rfl
theorem F103_ev {t0 : AV} {σ : AHeap} {k kp : AV → AHeap → Prop} (h : F103 t0 σ k kp) : Ev Go.Proofs.Tryz.prog 103 [t0] σ k kp :=
  Ev_of_aw mixed Go.Proofs.Tryz.func103 (show (Go.Proofs.Tryz.f103).body = some body103 by kernel_rfl) (by kernel_rfl) (args := [t0]) (of_decide_eq_true (by kernel_rfl)) (keepOf keep103) (by kernel_rfl) (by rw [F103_eq]; exact h)

/-- enclave/enclaveref11.Less -/
def F106 (t0 t1 : AV) (σ : AHeap) (k kp : AV → AHeap → Prop) : Prop :=
  stepK (aBox t0 σ) fun t2 σ =>
  stepK (aBox t1 σ) fun t3 σ =>
  stepK (pureR σ (aFieldAddr 0 t2)) fun t5 σ =>
  stepK (pureR σ (aLoad false 1 t5 σ)) fun t6 σ =>
  stepK (pureR σ (aFieldAddr 0 t3)) fun t7 σ =>
  stepK (pureR σ (aLoad false 1 t7 σ)) fun t8 σ =>
  stepK (pureR σ (aBin .neq .prim t6 t8)) fun t9 σ =>
  condK t9 (
  stepK (pureR σ (aFieldAddr 0 t2)) fun t10 σ =>
  stepK (pureR σ (aLoad false 1 t10 σ)) fun t11 σ =>
  stepK (pureR σ (aFieldAddr 0 t3)) fun t12 σ =>
  stepK (pureR σ (aLoad false 1 t12 σ)) fun t13 σ =>
  stepK (pureR σ (aBin .lss .prim t11 t13)) fun t14 σ =>
  k t14 σ
  ) (
  stepK (pureR σ (aFieldAddr 1 t2)) fun t15 σ =>
  stepK (pureR σ (aLoad false 1 t15 σ)) fun t16 σ =>
  stepK (pureR σ (aFieldAddr 1 t3)) fun t17 σ =>
  stepK (pureR σ (aLoad false 1 t17 σ)) fun t18 σ =>
  stepK (pureR σ (aBin .neq .prim t16 t18)) fun t19 σ =>
  condK t19 (
  stepK (pureR σ (aFieldAddr 1 t2)) fun t20 σ =>
  stepK (pureR σ (aLoad false 1 t20 σ)) fun t21 σ =>
  stepK (pureR σ (aFieldAddr 1 t3)) fun t22 σ =>
  stepK (pureR σ (aLoad false 1 t22 σ)) fun t23 σ =>
  stepK (pureR σ (aBin .lss .prim t21 t23)) fun t24 σ =>
  k t24 σ
  ) (
  stepK (pureR σ (aFieldAddr 2 t2)) fun t25 σ =>
  stepK (pureR σ (aLoad false 1 t25 σ)) fun t26 σ =>
  stepK (pureR σ (aFieldAddr 2 t3)) fun t27 σ =>
  stepK (pureR σ (aLoad false 1 t27 σ)) fun t28 σ =>
  stepK (pureR σ (aBin .lss .prim t26 t28)) fun t29 σ =>
  k t29 σ
  )
  )
def keep106 : List (Nat × List Nat) := [(0, [2, 3]), (1, [2, 3, 9]), (2, [4]), (3, [2, 3, 19]), (4, [4]), (5, [4])]
noncomputable def body106 : Code := (Go.Proofs.Tryz.f106).body.getD .skip
theorem F106_eq (t0 t1 : AV) (σ : AHeap) (k kp : AV → AHeap → Prop) : aw Go.Proofs.Tryz.prog (keepOf keep106) body106 (retK Go.Proofs.Tryz.prog (Go.Proofs.Tryz.f106).results.toList k kp) (frameOf 0 [t0, t1]) σ = F106 t0 t1 σ k kp := by kernel_rfl
theorem F106_ev {t0 t1 : AV} {σ : AHeap} {k kp : AV → AHeap → Prop} (h : F106 t0 t1 σ k kp) : Ev Go.Proofs.Tryz.prog 106 [t0, t1] σ k kp :=
  Ev_of_aw mixed Go.Proofs.Tryz.func106 (show (Go.Proofs.Tryz.f106).body = some body106 by kernel_rfl) (by kernel_rfl) (args := [t0, t1]) (of_decide_eq_true (by kernel_rfl)) (keepOf keep106) (by kernel_rfl) (by rw [F106_eq]; exact h)

/-- enclave/enclaveref02.Keyword -/
def F135 (t0 : AV) (σ : AHeap) (k kp : AV → AHeap → Prop) : Prop :=
  Ev Go.Proofs.Tryz.prog 174 [] σ (fun t5 σ =>
  seqW (fun fr σ => (
  k (.val (Go.Value.int Go.IntKind.i64 0)) σ
  )) (fun j1 => (
  stepK (pureR σ (aLenK .slice t5 σ)) fun t7 σ =>
  loopW (fun fr σ again => (
  stepK (pureR σ (aBin .lss .prim (Abs.look fr 8) (Abs.look fr 7))) fun t9 σ =>
  condK t9 (
  stepK (pureR σ (aIndexAddr 1 (Abs.look fr 3) (Abs.look fr 8) σ)) fun t13 σ =>
  stepK (pureR σ (aLoad false 1 t13 σ)) fun t14 σ =>
  stepK (pureR σ (aBin .eql .prim t14 (Abs.look fr 0))) fun t16 σ =>
  condK t16 (
  stepK (pureR σ (aBin .add .prim (Abs.look fr 8) (.val (Go.Value.int Go.IntKind.i64 1)))) fun t18 σ =>
  k t18 σ
  ) (
  stepK (pureR σ (aBin .add .prim (Abs.look fr 8) (.val (Go.Value.int Go.IntKind.i64 1)))) fun t19 σ =>
  again [(0, (Abs.look fr 0)), (3, (Abs.look fr 3)), (7, (Abs.look fr 7)), (8, t19)] σ
  )
  ) (
  j1 [(0, (Abs.look fr 0))] σ
  )
  )) [(0, t0), (3, t5), (7, t7), (8, (.val (Go.Value.int Go.IntKind.i64 0)))] σ
  ))) kp
def keep135 : List (Nat × List Nat) := [(0, [0]), (1, [0, 3]), (3009, [0]), (2, [0, 3, 7, 8]), (3, [0, 3, 7, 8, 9]), (4, [0, 3, 4, 7, 8]), (5, [0, 3, 4, 7, 8, 16]), (6, [2]), (7, [0, 3, 7, 8]), (1003, [0, 3, 7, 8]), (8, [2])]
noncomputable def body135 : Code := (Go.Proofs.Tryz.f135).body.getD .skip
theorem F135_eq (t0 : AV) (σ : AHeap) (k kp : AV → AHeap → Prop) : aw Go.Proofs.Tryz.prog (keepOf keep135) body135 (retK Go.Proofs.Tryz.prog (Go.Proofs.Tryz.f135).results.toList k kp) (frameOf 0 [t0]) σ = F135 t0 σ k kp := by kernel_rfl
theorem F135_ev {t0 : AV} {σ : AHeap} {k kp : AV → AHeap → Prop} (h : F135 t0 σ k kp) : Ev Go.Proofs.Tryz.prog 135 [t0] σ k kp :=
  Ev_of_aw mixed Go.Proofs.Tryz.func135 (show (Go.Proofs.Tryz.f135).body = some body135 by kernel_rfl) (by kernel_rfl) (args := [t0]) (of_decide_eq_true (by kernel_rfl)) (keepOf keep135) (by kernel_rfl) (by rw [F135_eq]; exact h)

/-- enclave/enclaveref02.Keywords -/
def F174 (σ : AHeap) (k kp : AV → AHeap → Prop) : Prop :=
  stepK (pureR σ (aBuildSl 14 1 [.val (.string ByteArray.empty)] [(0, (.val (Go.Value.string { data := #[108, 101, 116] }))), (1, (.val (Go.Value.string { data := #[108, 101, 116, 114, 101, 99] }))), (2, (.val (Go.Value.string { data := #[105, 110] }))), (3, (.val (Go.Value.string { data := #[102, 110] }))), (4, (.val (Go.Value.string { data := #[105, 102] }))), (5, (.val (Go.Value.string { data := #[116, 104, 101, 110] }))), (6, (.val (Go.Value.string { data := #[101, 108, 115, 101] }))), (7, (.val (Go.Value.string { data := #[114, 97, 105, 115, 101] }))), (8, (.val (Go.Value.string { data := #[116, 114, 121] }))), (9, (.val (Go.Value.string { data := #[119, 105, 116, 104] }))), (10, (.val (Go.Value.string { data := #[114, 101, 102] }))), (11, (.val (Go.Value.string { data := #[102, 115, 116] }))), (12, (.val (Go.Value.string { data := #[115, 110, 100] }))), (13, (.val (Go.Value.string { data := #[101, 120, 110] })))])) fun t1 σ =>
  k t1 σ
def keep174 : List (Nat × List Nat) := [(0, []), (1, [0]), (4001, [1])]
noncomputable def body174 : Code := (Go.Proofs.Tryz.f174).body.getD .skip
theorem F174_eq (σ : AHeap) (k kp : AV → AHeap → Prop) : aw Go.Proofs.Tryz.prog (keepOf keep174) body174 (retK Go.Proofs.Tryz.prog (Go.Proofs.Tryz.f174).results.toList k kp) (frameOf 0 []) σ = F174 σ k kp := by kernel_rfl
theorem F174_ev {σ : AHeap} {k kp : AV → AHeap → Prop} (h : F174 σ k kp) : Ev Go.Proofs.Tryz.prog 174 [] σ k kp :=
  Ev_of_aw mixed Go.Proofs.Tryz.func174 (show (Go.Proofs.Tryz.f174).body = some body174 by kernel_rfl) (by kernel_rfl) (args := []) (of_decide_eq_true (by kernel_rfl)) (keepOf keep174) (by kernel_rfl) (by rw [F174_eq]; exact h)

end Go.Proofs.AtD
