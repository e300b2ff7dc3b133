import Derived.Test.YtjilebpcaemopaaGreatDoorAbsK
import Derived.Test.YtjilebpcaemopaaGreatDoorProg
import Derived.KernelRfl
set_option maxRecDepth 100000
set_option linter.unusedVariables false
namespace Go.Proofs.AtD
open Go Go.Abs
def zAtermDecN_0:List AV:=[.val (.int .u8 0),.val (.int .u8 0),.val (.int .i64 0),.val (.int .i64 0),.val (.string ByteArray.empty),.val (.string ByteArray.empty),.val (.string ByteArray.empty)]
@[simp ↓] theorem zAtermDecN_0_eq:zAtermDecN_0=[.val (.int .u8 0),.val (.int .u8 0),.val (.int .i64 0),.val (.int .i64 0),.val (.string ByteArray.empty),.val (.string ByteArray.empty),.val (.string ByteArray.empty)]:=nr0 rfl
def zAtermDecN_1:List AV:=[.val (.int .u8 0),.val (.int .u8 0),.val (.int .i64 0),.val (.int .i64 0),.val (.string ByteArray.empty),.val (.string ByteArray.empty),.val (.string ByteArray.empty),.val (.slice none 0 0)]
@[simp ↓] theorem zAtermDecN_1_eq:zAtermDecN_1=[.val (.int .u8 0),.val (.int .u8 0),.val (.int .i64 0),.val (.int .i64 0),.val (.string ByteArray.empty),.val (.string ByteArray.empty),.val (.string ByteArray.empty),.val (.slice none 0 0)]:=nr0 rfl
variable {s:AHeap} {k kp:KP}
theorem mixed:Tryz.prog.follows .mixedOrders=true:=by kernel_rfl
def F15 (t0:AV) (s:AHeap) (k kp:KP):Prop :=
stepK (aBox t0 s) fun t1 s =>
lT 19 t1 s fun t5 s =>
Ev Tryz.prog 14 [t5] s (fun t6 s =>
stepK (pureR s (aLenK .slice t6 s)) fun t8 s =>
bP .gtr t8 (.val (.int .i64 40000)) s fun t9 s =>
condK t9 (
k (.val (.bool false)) s
) (
seqW (fun fr s=>(
k (.val (.bool true)) s
)) (fun j1=>(
stepK (pureR s (aLenK .slice t6 s)) fun t11 s =>
loopW (fun fr s again=>(
bP .lss (lq fr 12) (lq fr 11) s fun t13 s =>
condK t13 (
iA 19 (lq fr 3) (lq fr 12) s fun t17 s =>
lT 19 t17 s fun t18 s =>
Ev Tryz.prog 33 [t18] s (fun t19 s =>
stepK (pureR s (aNot t19)) fun t20 s =>
condK t20 (
k (.val (.bool false)) s
) (
bP .add (lq fr 12) (.val (.int .i64 1)) s fun t21 s =>
again [(3,(lq fr 3)),(11,(lq fr 11)),(12,t21)] s
)
) kp) (
j1 [(0,.any)] s
)
)) [(3,t6),(11,t11),(12,(.val (.int .i64 0)))] s
))
)) kp
theorem F15_ev {t0:AV} (h:F15 t0 s k kp):Ev Tryz.prog 15 [t0] s k kp:=evA mixed Tryz.func15 [(0,[1]),(1,[3]),(2,[3,9]),(3,[2]),(3011,[0]),(4,[3,11,12]),(5,[3,11,12,13]),(6,[3,4,11,12]),(7,[3,11,12,20]),(8,[2]),(9,[3,11,12]),(1005,[3,11,12]),(10,[2])] (by kernel_rfl) (by kernel_rfl) h
def F33 (t0:AV) (s:AHeap) (k kp:KP):Prop :=
stepK (aBox t0 s) fun t1 s =>
fA 0 t1 s fun t5 s =>
fA 0 t5 s fun t6 s =>
lF t6 s fun t7 s =>
lT 19 t1 s fun t8 s =>
Ev Tryz.prog 60 [t8] s (fun t9 s =>
stepK (pureR s (aNot t9)) fun t10 s =>
gR t10 false (aFieldAddr 7 t1) (fun t12 s =>
gR t10 false (aLoad false 1 t12 s) (fun t13 s =>
gR t10 false (aBin .lss .prim t13 (.val (.int .i64 0))) (fun t14 s =>
pK t10 (.val (.bool true)) t14 s fun t15 s =>
gK t15 false (fun K=>K t7 s) (fun t17 s =>
gR t15 false (aBin .eql .prim t17 (.val (.int .u8 17))) (fun t18 s =>
gK t15 false (fun K=>K t18 s) (fun t19 s =>
gR t19 true (aFieldAddr 7 t1) (fun t20 s =>
gR t19 true (aLoad false 1 t20 s) (fun t21 s =>
gR t19 true (aBin .eql .prim t21 (.val (.int .i64 0))) (fun t22 s =>
gR t15 false (aPick t19 t22 (.val (.bool false))) (fun t23 s =>
pK t15 (.val (.bool true)) t23 s fun t24 s =>
gR t24 false (aBuildSl 6 1 [.val (.int .u8 0)] [(0,(.val (.int .u8 3))),(1,(.val (.int .u8 6))),(2,(.val (.int .u8 11))),(3,(.val (.int .u8 13))),(4,(.val (.int .u8 17))),(5,(.val (.int .u8 18)))]) (fun t26 s =>
gK t24 false (fun K=>K t7 s) (fun t27 s =>
gK t24 false (fun K=>Ev Tryz.prog 61 [t26,t27] s K kp) (fun t28 s =>
gR t24 false (aNot t28) (fun t29 s =>
gK t24 false (fun K=>K t29 s) (fun t30 s =>
gR t30 true (aFieldAddr 7 t1) (fun t31 s =>
gR t30 true (aLoad false 1 t31 s) (fun t32 s =>
gR t30 true (aBin .neq .prim t32 (.val (.int .i64 0))) (fun t33 s =>
gR t24 false (aPick t30 t33 (.val (.bool false))) (fun t34 s =>
pK t24 (.val (.bool true)) t34 s fun t35 s =>
condK t35 (
k (.val (.bool false)) s
) (
bP .neq t7 (.val (.int .u8 13)) s fun t37 s =>
gK t37 true (fun K=>K t7 s) (fun t39 s =>
gR t37 true (aBin .neq .prim t39 (.val (.int .u8 18))) (fun t40 s =>
pK t37 t40 (.val (.bool false)) s fun t41 s =>
gR t41 true (aFieldAddr 8 t1) (fun t43 s =>
gR t41 true (aLoad false 1 t43 s) (fun t44 s =>
gR t41 true (aLenK .slice t44 s) (fun t45 s =>
gR t41 true (aBin .gtr .prim t45 (.val (.int .i64 0))) (fun t46 s =>
pK t41 t46 (.val (.bool false)) s fun t47 s =>
condK t47 (
k (.val (.bool false)) s
) (
seqW (fun fr s=>(
stepK (pureR s (aBuildSl 3 1 [.val (.int .u8 0)] [(0,(.val (.int .u8 11))),(1,(.val (.int .u8 13))),(2,(.val (.int .u8 18)))])) fun t85 s =>
Ev Tryz.prog 61 [t85,(lq fr 3)] s (fun t87 s =>
stepK (pureR s (aNot t87)) fun t88 s =>
gR t88 true (aFieldAddr 9 (lq fr 1)) (fun t90 s =>
gR t88 true (aLoad false 1 t90 s) (fun t91 s =>
gR t88 true (aLenK .slice t91 s) (fun t92 s =>
gR t88 true (aBin .gtr .prim t92 (.val (.int .i64 0))) (fun t93 s =>
pK t88 t93 (.val (.bool false)) s fun t94 s =>
gR t94 false (aFieldAddr 9 (lq fr 1)) (fun t96 s =>
gR t94 false (aLoad false 1 t96 s) (fun t97 s =>
gK t94 false (fun K=>Ev Tryz.prog 62 [t97] s K kp) (fun t98 s =>
gR t94 false (aNot t98) (fun t99 s =>
pK t94 (.val (.bool true)) t99 s fun t100 s =>
condK t100 (
k (.val (.bool false)) s
) (
stepK (pureR s (aBuildSl 3 1 [.val (.int .u8 0)] [(0,(.val (.int .u8 11))),(1,(.val (.int .u8 13))),(2,(.val (.int .u8 15)))])) fun t101 s =>
Ev Tryz.prog 61 [t101,(lq fr 3)] s (fun t103 s =>
gR t103 true (aFieldAddr 10 (lq fr 1)) (fun t105 s =>
gR t103 true (aLoad true 4 t105 s) (fun t106 s =>
gK t103 true (fun K=>Ev Tryz.prog 63 [t106] s K kp) (fun t107 s =>
gR t103 true (aNot t107) (fun t108 s =>
pK t103 t108 (.val (.bool false)) s fun t109 s =>
gR t109 false (aBuildSl 3 1 [.val (.int .u8 0)] [(0,(.val (.int .u8 11))),(1,(.val (.int .u8 13))),(2,(.val (.int .u8 15)))]) (fun t111 s =>
gK t109 false (fun K=>K (lq fr 3) s) (fun t112 s =>
gK t109 false (fun K=>Ev Tryz.prog 61 [t111,t112] s K kp) (fun t113 s =>
gR t109 false (aNot t113) (fun t114 s =>
gK t109 false (fun K=>K t114 s) (fun t115 s =>
gR t115 true (aFieldAddr 10 (lq fr 1)) (fun t116 s =>
gR t115 true (aLoad true 4 t116 s) (fun t117 s =>
gK t115 true (fun K=>Ev Tryz.prog 64 [t117] s K kp) (fun t118 s =>
gR t115 true (aNot t118) (fun t119 s =>
gR t109 false (aPick t115 t119 (.val (.bool false))) (fun t120 s =>
pK t109 (.val (.bool true)) t120 s fun t121 s =>
condK t121 (
k (.val (.bool false)) s
) (
bP .eql (lq fr 3) (.val (.int .u8 13)) s fun t123 s =>
gR t123 true (aFieldAddr 14 (lq fr 1)) (fun t125 s =>
gR t123 true (aLoad true 4 t125 s) (fun t126 s =>
gK t123 true (fun K=>Ev Tryz.prog 63 [t126] s K kp) (fun t127 s =>
pK t123 t127 (.val (.bool false)) s fun t128 s =>
gK t128 false (fun K=>K (lq fr 3) s) (fun t130 s =>
gR t128 false (aBin .neq .prim t130 (.val (.int .u8 13))) (fun t131 s =>
gK t128 false (fun K=>K t131 s) (fun t132 s =>
gR t132 true (aFieldAddr 14 (lq fr 1)) (fun t133 s =>
gR t132 true (aLoad true 4 t133 s) (fun t134 s =>
gK t132 true (fun K=>Ev Tryz.prog 64 [t134] s K kp) (fun t135 s =>
gR t128 false (aPick t132 t135 (.val (.bool false))) (fun t136 s =>
pK t128 (.val (.bool true)) t136 s fun t137 s =>
k t137 s
) s) s) s) s) s) s) s) s) s) s)
) s) s) s) s) s) s) s) s) s) s) s) s) s) s) kp)
) s) s) s) s) s) s) s) s) kp)) (fun j1=>(
fA 8 t1 s fun t48 s =>
lF t48 s fun t49 s =>
stepK (pureR s (aLenK .slice t49 s)) fun t50 s =>
loopW (fun fr s again=>(
bP .lss (lq fr 51) (lq fr 50) s fun t52 s =>
condK t52 (
fA 8 (lq fr 1) s fun t54 s =>
lF t54 s fun t55 s =>
iA 1 t55 (lq fr 51) s fun t57 s =>
lF t57 s fun t58 s =>
bP .lss t58 (.val (.int .i64 0)) s fun t59 s =>
gK t59 false (fun K=>K (lq fr 3) s) (fun t61 s =>
gR t59 false (aBin .eql .prim t61 (.val (.int .u8 13))) (fun t62 s =>
gK t59 false (fun K=>K t62 s) (fun t63 s =>
gR t63 true (aFieldAddr 8 (lq fr 1)) (fun t64 s =>
gR t63 true (aLoad false 1 t64 s) (fun t65 s =>
gK t63 true (fun K=>K (lq fr 51) s) (fun t66 s =>
gR t63 true (aIndexAddr 1 t65 t66 s) (fun t67 s =>
gR t63 true (aLoad false 1 t67 s) (fun t68 s =>
gR t63 true (aBin .eql .prim t68 (.val (.int .i64 0))) (fun t69 s =>
gK t63 true (fun K=>K t69 s) (fun t70 s =>
gR t70 false (aFieldAddr 8 (lq fr 1)) (fun t71 s =>
gR t70 false (aLoad false 1 t71 s) (fun t72 s =>
gK t70 false (fun K=>K (lq fr 51) s) (fun t73 s =>
gR t70 false (aSlice 1 t72 none (some t73) none) (fun t74 s =>
gR t70 false (aFieldAddr 8 (lq fr 1)) (fun t75 s =>
gR t70 false (aLoad false 1 t75 s) (fun t76 s =>
gK t70 false (fun K=>K (lq fr 51) s) (fun t77 s =>
gR t70 false (aIndexAddr 1 t76 t77 s) (fun t78 s =>
gR t70 false (aLoad false 1 t78 s) (fun t79 s =>
gK t70 false (fun K=>Ev Tryz.prog 19 [t74,t79] s K kp) (fun t80 s =>
gR t63 true (aPick t70 (.val (.bool true)) t80) (fun t81 s =>
gR t59 false (aPick t63 t81 (.val (.bool false))) (fun t82 s =>
pK t59 (.val (.bool true)) t82 s fun t83 s =>
condK t83 (
k (.val (.bool false)) s
) (
bP .add (lq fr 51) (.val (.int .i64 1)) s fun t84 s =>
again [(1,(lq fr 1)),(3,(lq fr 3)),(50,(lq fr 50)),(51,t84)] s
)
) s) s) s) s) s) s) s) s) s) s) s) s) s) s) s) s) s) s) s) s) s) s) (
j1 [(1,(lq fr 1)),(3,(lq fr 3))] s
)
)) [(1,t1),(3,t7),(50,t50),(51,(.val (.int .i64 0)))] s
))
)
) s) s) s) s) s) s)) s) s) s) s) s) s) s) s) s) s) s) s) s) s) s) s) s) s) s) kp
theorem F33_ev {t0:AV} (h:F33 t0 s k kp):Ev Tryz.prog 33 [t0] s k kp:=evA mixed Tryz.func33 [(0,[1]),(1,[1,3]),(2,[1,3,35]),(4002,[1]),(3,[2]),(4,[1,3,47]),(5,[2]),(3013,[1,3]),(6,[1,3,50,51]),(7,[1,3,50,51,52]),(8,[1,3,4,50,51]),(9,[1,3,50,51,83]),(2009,[0,1,2,3,4,5,6,7,8,9,10,11,12,13,14,15,16,17,18,19,20,21,22,23,24,25,26,27,28,29]),(10,[2]),(11,[1,3,50,51]),(1007,[1,3,50,51]),(12,[1,3,100]),(4012,[1]),(13,[2]),(14,[1,3,121]),(4014,[1]),(15,[2]),(16,[2])] (by kernel_rfl) (by kernel_rfl) h
def F104 (t0:AV) (s:AHeap) (k kp:KP):Prop :=
stepK (aBox t0 s) fun t1 s =>
fA 0 t1 s fun t7 s =>
fA 0 t7 s fun t8 s =>
lF t8 s fun t9 s =>
Ev Tryz.prog 136 [t9] s (fun t11 s =>
bP .lss t11 (.val (.int .i64 0)) s fun t12 s =>
gR t12 false (aFieldAddr 7 t1) (fun t14 s =>
gR t12 false (aLoad false 1 t14 s) (fun t15 s =>
gR t12 false (aLenK .slice t15 s) (fun t16 s =>
gK t12 false (fun K=>K t9 s) (fun t17 s =>
gK t12 false (fun K=>Ev Tryz.prog 136 [t17] s K kp) (fun t18 s =>
(gK t12 false (fun K=>stepK (pureR s (aLoad false 1 t14 s)) K) (fun y θ=>y=t15∧θ=s) s)∧(
(gK t12 false (fun K=>stepK (pureR s (aLenK .slice t15 s)) K) (fun y θ=>y=t16∧θ=s) s)∧(
gR t12 false (aBin .neq .prim t16 t18) (fun t19 s =>
pK t12 (.val (.bool true)) t19 s fun t20 s =>
gR t20 false (aFieldAddr 0 t1) (fun t22 s =>
gR t20 false (aFieldAddr 2 t22) (fun t23 s =>
gR t20 false (aLoad false 1 t23 s) (fun t24 s =>
gR t20 false (aBin .lss .prim t24 (.val (.int .i64 0))) (fun t25 s =>
pK t20 (.val (.bool true)) t25 s fun t26 s =>
condK t26 (
k (.val (.bool false)) s
) (
bP .eql t9 (.val (.int .u8 9)) s fun t28 s =>
gR t28 true (aFieldAddr 0 t1) (fun t30 s =>
gR t28 true (aFieldAddr 1 t30) (fun t31 s =>
gR t28 true (aLoad false 1 t31 s) (fun t32 s =>
gR t28 true (aBin .lss .prim t32 (.val (.int .u8 1))) (fun t33 s =>
gK t28 true (fun K=>K t33 s) (fun t34 s =>
gR t34 false (aFieldAddr 0 t1) (fun t35 s =>
gR t34 false (aFieldAddr 1 t35) (fun t36 s =>
gR t34 false (aLoad false 1 t36 s) (fun t37 s =>
gR t34 false (aBin .gtr .prim t37 (.val (.int .u8 5))) (fun t38 s =>
gR t28 true (aPick t34 (.val (.bool true)) t38) (fun t39 s =>
pK t28 t39 (.val (.bool false)) s fun t40 s =>
gK t40 false (fun K=>K t9 s) (fun t42 s =>
gR t40 false (aBin .neq .prim t42 (.val (.int .u8 9))) (fun t43 s =>
gK t40 false (fun K=>K t43 s) (fun t44 s =>
gR t44 true (aFieldAddr 0 t1) (fun t45 s =>
gR t44 true (aFieldAddr 1 t45) (fun t46 s =>
gR t44 true (aLoad false 1 t46 s) (fun t47 s =>
gR t44 true (aBin .neq .prim t47 (.val (.int .u8 0))) (fun t48 s =>
gR t40 false (aPick t44 t48 (.val (.bool false))) (fun t49 s =>
pK t40 (.val (.bool true)) t49 s fun t50 s =>
condK t50 (
k (.val (.bool false)) s
) (
fA 0 t1 s fun t51 s =>
fA 3 t51 s fun t52 s =>
lF t52 s fun t53 s =>
bP .lss t53 (.val (.int .i64 0)) s fun t54 s =>
gR t54 false (aFieldAddr 0 t1) (fun t56 s =>
gR t54 false (aFieldAddr 3 t56) (fun t57 s =>
gR t54 false (aLoad false 1 t57 s) (fun t58 s =>
gR t54 false (aBin .gtr .prim t58 (.val (.int .i64 2147483647))) (fun t59 s =>
pK t54 (.val (.bool true)) t59 s fun t60 s =>
gK t60 false (fun K=>K t9 s) (fun t62 s =>
gR t60 false (aBin .neq .prim t62 (.val (.int .u8 1))) (fun t63 s =>
gK t60 false (fun K=>K t63 s) (fun t64 s =>
gR t64 true (aFieldAddr 0 t1) (fun t65 s =>
gR t64 true (aFieldAddr 3 t65) (fun t66 s =>
gR t64 true (aLoad false 1 t66 s) (fun t67 s =>
gR t64 true (aBin .neq .prim t67 (.val (.int .i64 0))) (fun t68 s =>
gR t60 false (aPick t64 t68 (.val (.bool false))) (fun t69 s =>
pK t60 (.val (.bool true)) t69 s fun t70 s =>
condK t70 (
k (.val (.bool false)) s
) (
bP .eql t9 (.val (.int .u8 2)) s fun t72 s =>
gK t72 false (fun K=>K t9 s) (fun t74 s =>
gR t72 false (aBin .eql .prim t74 (.val (.int .u8 12))) (fun t75 s =>
pK t72 (.val (.bool true)) t75 s fun t76 s =>
gK t76 false (fun K=>K t9 s) (fun t78 s =>
gR t76 false (aBin .eql .prim t78 (.val (.int .u8 13))) (fun t79 s =>
pK t76 (.val (.bool true)) t79 s fun t80 s =>
bP .eql t9 (.val (.int .u8 11)) s fun t82 s =>
gK t82 false (fun K=>K t9 s) (fun t84 s =>
gR t82 false (aBin .eql .prim t84 (.val (.int .u8 13))) (fun t85 s =>
pK t82 (.val (.bool true)) t85 s fun t86 s =>
gK t86 false (fun K=>K t9 s) (fun t88 s =>
gR t86 false (aBin .eql .prim t88 (.val (.int .u8 16))) (fun t89 s =>
pK t86 (.val (.bool true)) t89 s fun t90 s =>
bP .eql t9 (.val (.int .u8 15)) s fun t92 s =>
gK t92 false (fun K=>K t9 s) (fun t94 s =>
gR t92 false (aBin .eql .prim t94 (.val (.int .u8 16))) (fun t95 s =>
pK t92 (.val (.bool true)) t95 s fun t96 s =>
fA 0 t1 s fun t98 s =>
fA 4 t98 s fun t99 s =>
lF t99 s fun t100 s =>
fA 0 t1 s fun t101 s =>
fA 4 t101 s fun t102 s =>
lF t102 s fun t103 s =>
Ev Tryz.prog 103 [t103] s (fun t104 s =>
rg s (aLoad false 1 t99 s) t100 (
Ev Tryz.prog 137 [t80,t100,t104] s (fun t105 s =>
gK t105 true (fun K=>K t90 s) (fun t107 s =>
gR t105 true (aFieldAddr 0 t1) (fun t108 s =>
gR t105 true (aFieldAddr 5 t108) (fun t109 s =>
gR t105 true (aLoad false 1 t109 s) (fun t110 s =>
gR t105 true (aFieldAddr 0 t1) (fun t111 s =>
gR t105 true (aFieldAddr 5 t111) (fun t112 s =>
gR t105 true (aLoad false 1 t112 s) (fun t113 s =>
gK t105 true (fun K=>Ev Tryz.prog 103 [t113] s K kp) (fun t114 s =>
(gK t105 true (fun K=>stepK (pureR s (aLoad false 1 t109 s)) K) (fun y θ=>y=t110∧θ=s) s)∧(
gK t105 true (fun K=>Ev Tryz.prog 137 [t107,t110,t114] s K kp) (fun t115 s =>
pK t105 t115 (.val (.bool false)) s fun t116 s =>
gK t116 true (fun K=>K t96 s) (fun t118 s =>
gR t116 true (aFieldAddr 0 t1) (fun t119 s =>
gR t116 true (aFieldAddr 6 t119) (fun t120 s =>
gR t116 true (aLoad false 1 t120 s) (fun t121 s =>
gR t116 true (aFieldAddr 0 t1) (fun t122 s =>
gR t116 true (aFieldAddr 6 t122) (fun t123 s =>
gR t116 true (aLoad false 1 t123 s) (fun t124 s =>
gK t116 true (fun K=>Ev Tryz.prog 138 [t124] s K kp) (fun t125 s =>
(gK t116 true (fun K=>stepK (pureR s (aLoad false 1 t120 s)) K) (fun y θ=>y=t121∧θ=s) s)∧(
gK t116 true (fun K=>Ev Tryz.prog 137 [t118,t121,t125] s K kp) (fun t126 s =>
pK t116 t126 (.val (.bool false)) s fun t127 s =>
k t127 s
) s)) s) s) s) s) s) s) s) s) s)) s) s) s) s) s) s) s) s) kp)) kp) s) s) s) s) s) s) s) s) s) s)
) s) s) s) s) s) s) s) s) s) s) s) s)
) s) s) s) s) s) s) s) s) s) s) s) s) s) s) s) s) s) s)) s) s) s) s) s))) s) s) s) s) s) kp
theorem F104_ev {t0:AV} (h:F104 t0 s k kp):Ev Tryz.prog 104 [t0] s k kp:=evA mixed Tryz.func104 [(0,[1]),(1,[1,3]),(2,[1,3,26]),(2002,[0,1,2,3,4,5,6,7,8,9,10,11,12,13,14,15,16]),(102008,[5,6]),(3,[2]),(4,[1,3,50]),(5,[2]),(6,[1,3,70]),(7,[2]),(8,[1,3,4]),(9,[1,3,4,5]),(10,[1,4,5,6]),(11,[2]),(2011,[0,1,2,3,4,5,6,7,8,9,10,11,12,13,14,15,16,17,18,19,20,21,22,23,24,25,26,27,28,29,30,31]),(111007,[3]),(111017,[13]),(111028,[24])] (by kernel_rfl) (by kernel_rfl) h
def F60 (t0:AV) (s:AHeap) (k kp:KP):Prop :=
stepK (aBox t0 s) fun t1 s =>
fA 0 t1 s fun t7 s =>
lT 7 t7 s fun t8 s =>
aC zAtermDecN_0 s fun t3 s =>
sT 7 t3 t8 s fun s =>
fA 1 t3 s fun t9 s =>
lF t9 s fun t10 s =>
bP .eql t10 (.val (.int .u8 0)) s fun t11 s =>
gR t11 true (aFieldAddr 3 t3) (fun t13 s =>
gR t11 true (aLoad false 1 t13 s) (fun t14 s =>
gR t11 true (aBin .eql .prim t14 (.val (.int .i64 0))) (fun t15 s =>
pK t11 t15 (.val (.bool false)) s fun t16 s =>
gR t16 true (aFieldAddr 5 t3) (fun t18 s =>
gR t16 true (aLoad false 1 t18 s) (fun t19 s =>
gR t16 true (aBin .eql .prim t19 (.val (.string { data:=#[] }))) (fun t20 s =>
pK t16 t20 (.val (.bool false)) s fun t21 s =>
gR t21 true (aFieldAddr 6 t3) (fun t23 s =>
gR t21 true (aLoad false 1 t23 s) (fun t24 s =>
gR t21 true (aBin .eql .prim t24 (.val (.string { data:=#[] }))) (fun t25 s =>
pK t21 t25 (.val (.bool false)) s fun t26 s =>
fA 0 t1 s fun t27 s =>
fA 0 t27 s fun t28 s =>
lF t28 s fun t29 s =>
bP .eql t29 (.val (.int .u8 17)) s fun t30 s =>
condK t30 (
gR t26 true (aFieldAddr 4 t3) (fun t33 s =>
gR t26 true (aLoad false 1 t33 s) (fun t34 s =>
gR t26 true (aBin .eql .prim t34 (.val (.string { data:=#[] }))) (fun t35 s =>
pK t26 t35 (.val (.bool false)) s fun t36 s =>
gR t36 true (aFieldAddr 2 t3) (fun t38 s =>
gR t36 true (aLoad false 1 t38 s) (fun t39 s =>
gR t36 true (aBin .geq .prim t39 (.val (.int .i64 0))) (fun t40 s =>
pK t36 t40 (.val (.bool false)) s fun t41 s =>
gR t41 true (aFieldAddr 18 t1) (fun t43 s =>
gR t41 true (aLoad false 1 t43 s) (fun t44 s =>
gR t41 true (aLenK .slice t44 s) (fun t45 s =>
gR t41 true (aBin .eql .prim t45 (.val (.int .i64 1))) (fun t46 s =>
pK t41 t46 (.val (.bool false)) s fun t47 s =>
k t47 s
) s) s) s) s) s) s) s) s) s) s) (
fA 0 t1 s fun t48 s =>
fA 0 t48 s fun t49 s =>
lF t49 s fun t50 s =>
bP .eql t50 (.val (.int .u8 18)) s fun t51 s =>
condK t51 (
gR t26 true (aFieldAddr 4 t3) (fun t54 s =>
gR t26 true (aLoad false 1 t54 s) (fun t55 s =>
gK t26 true (fun K=>Ev Tryz.prog 103 [t55] s K kp) (fun t56 s =>
pK t26 t56 (.val (.bool false)) s fun t57 s =>
gR t57 true (aFieldAddr 2 t3) (fun t59 s =>
gR t57 true (aLoad false 1 t59 s) (fun t60 s =>
gR t57 true (aBin .geq .prim t60 (.val (.int .i64 0))) (fun t61 s =>
pK t57 t61 (.val (.bool false)) s fun t62 s =>
gR t62 true (aFieldAddr 18 t1) (fun t64 s =>
gR t62 true (aLoad false 1 t64 s) (fun t65 s =>
gR t62 true (aLenK .slice t65 s) (fun t66 s =>
gR t62 true (aBin .eql .prim t66 (.val (.int .i64 0))) (fun t67 s =>
pK t62 t67 (.val (.bool false)) s fun t68 s =>
k t68 s
) s) s) s) s) s) s) s) s) s) s) (
lT 7 t3 s fun t69 s =>
stepK (pureR s (aBuild zAtermDecN_1 [(0,7,t69)])) fun t70 s =>
aC zAtermDecN_1 s fun t5 s =>
sT 8 t5 t70 s fun s =>
seqW (fun fr s=>(
lT 8 (lq fr 5) s fun t88 s =>
Ev Tryz.prog 104 [t88] s (fun t89 s =>
k t89 s
) kp)) (fun j1=>(
loopW (fun fr s again=>(
fA 18 (lq fr 1) s fun t72 s =>
lF t72 s fun t73 s =>
stepK (pureR s (aLenK .slice t73 s)) fun t74 s =>
bP .lss (lq fr 6) t74 s fun t75 s =>
gK t75 true (fun K=>K (lq fr 6) s) (fun t77 s =>
gR t75 true (aBin .lss .prim t77 (.val (.int .i64 4))) (fun t78 s =>
pK t75 t78 (.val (.bool false)) s fun t79 s =>
condK t79 (
fA 7 (lq fr 5) s fun t82 s =>
lF t82 s fun t83 s =>
stepK (pureR s (aBuild zAtermDecN_1 [])) fun t84 s =>
stepK (pureR s (aBuildSl 1 8 zAtermDecN_1 [(0,t84)])) fun t85 s =>
stepK (aAppend 8 96 t83 t85 s) fun t86 s =>
fA 7 (lq fr 5) s fun t87 s =>
sT 1 t87 t86 s fun s =>
bP .add (lq fr 6) (.val (.int .i64 1)) s fun t81 s =>
again [(1,(lq fr 1)),(5,(lq fr 5)),(6,t81)] s
) (
j1 [(5,(lq fr 5))] s
)
) s) s)) [(1,t1),(5,t5),(6,(.val (.int .i64 0)))] s
))
)
)) s) s) s) s) s) s) s) s) s
theorem F60_ev {t0:AV} (h:F60 t0 s k kp):Ev Tryz.prog 60 [t0] s k kp:=evA mixed Tryz.func60 [(0,[1]),(1,[1,3]),(2,[1,3,4]),(3,[1,3,4,30]),(4,[2]),(5,[1,3,4,51]),(6,[2]),(7,[1,5]),(3013,[5]),(8,[1,5,6]),(9,[1,5,6,79]),(11,[1,5,6]),(4011,[1]),(10,[1,5,6]),(1009,[1,5,6]),(12,[2])] (by kernel_rfl) (by kernel_rfl) h
def F61 (t0 t1:AV) (s:AHeap) (k kp:KP):Prop :=
seqW (fun fr s=>(
k (.val (.bool false)) s
)) (fun j1=>(
stepK (pureR s (aLenK .slice t0 s)) fun t7 s =>
loopW (fun fr s again=>(
bP .lss (lq fr 8) (lq fr 7) s fun t9 s =>
condK t9 (
iA 1 (lq fr 0) (lq fr 8) s fun t13 s =>
lF t13 s fun t14 s =>
bP .eql t14 (lq fr 1) s fun t16 s =>
condK t16 (
k (.val (.bool true)) s
) (
bP .add (lq fr 8) (.val (.int .i64 1)) s fun t17 s =>
again [(0,(lq fr 0)),(1,(lq fr 1)),(7,(lq fr 7)),(8,t17)] s
)
) (
j1 [(0,(lq fr 0))] s
)
)) [(0,t0),(1,t1),(7,t7),(8,(.val (.int .i64 0)))] s
))
theorem F61_ev {t0 t1:AV} (h:F61 t0 t1 s k kp):Ev Tryz.prog 61 [t0,t1] s k kp:=evA mixed Tryz.func61 [(0,[0,1]),(3008,[0]),(1,[0,1,7,8]),(2,[0,1,7,8,9]),(3,[0,1,5,7,8]),(4,[0,1,7,8,16]),(5,[4]),(6,[0,1,7,8]),(1002,[0,1,7,8]),(7,[4])] (by kernel_rfl) (by kernel_rfl) h
def F62 (t0:AV) (s:AHeap) (k kp:KP):Prop :=
seqW (fun fr s=>(
k (.val (.bool true)) s
)) (fun j1=>(
stepK (pureR s (aLenK .slice t0 s)) fun t5 s =>
loopW (fun fr s again=>(
bP .lss (lq fr 6) (lq fr 5) s fun t7 s =>
condK t7 (
iA 3 (lq fr 0) (lq fr 6) s fun t11 s =>
lT 3 t11 s fun t12 s =>
Ev Tryz.prog 105 [t12] s (fun t13 s =>
stepK (pureR s (aNot t13)) fun t14 s =>
gK t14 false (fun K=>K (lq fr 6) s) (fun t16 s =>
gR t14 false (aBin .gtr .prim t16 (.val (.int .i64 0))) (fun t17 s =>
gK t14 false (fun K=>K t17 s) (fun t18 s =>
gK t18 true (fun K=>K (lq fr 0) s) (fun t19 s =>
gK t18 true (fun K=>K (lq fr 6) s) (fun t20 s =>
gR t18 true (aBin .sub .prim t20 (.val (.int .i64 1))) (fun t21 s =>
gR t18 true (aIndexAddr 3 t19 t21 s) (fun t22 s =>
gR t18 true (aLoad true 3 t22 s) (fun t23 s =>
gK t18 true (fun K=>K (lq fr 0) s) (fun t24 s =>
gK t18 true (fun K=>K (lq fr 6) s) (fun t25 s =>
gR t18 true (aIndexAddr 3 t24 t25 s) (fun t26 s =>
gR t18 true (aLoad true 3 t26 s) (fun t27 s =>
gK t18 true (fun K=>Ev Tryz.prog 106 [t23,t27] s K kp) (fun t28 s =>
gR t18 true (aNot t28) (fun t29 s =>
gR t14 false (aPick t18 t29 (.val (.bool false))) (fun t30 s =>
pK t14 (.val (.bool true)) t30 s fun t31 s =>
condK t31 (
k (.val (.bool false)) s
) (
bP .add (lq fr 6) (.val (.int .i64 1)) s fun t32 s =>
again [(0,(lq fr 0)),(5,(lq fr 5)),(6,t32)] s
)
) s) s) s) s) s) s) s) s) s) s) s) s) s) s) s) kp) (
j1 [(0,(lq fr 0))] s
)
)) [(0,t0),(5,t5),(6,(.val (.int .i64 0)))] s
))
theorem F62_ev {t0:AV} (h:F62 t0 s k kp):Ev Tryz.prog 62 [t0] s k kp:=evA mixed Tryz.func62 [(0,[0]),(3008,[0]),(1,[0,5,6]),(2,[0,5,6,7]),(3,[0,3,5,6]),(4,[0,5,6,31]),(2004,[0,1,2,3,4,5,6,7,8,9,10,11,12,13,14,15,16,17,18,19,20,21,22]),(5,[2]),(6,[0,5,6]),(1002,[0,5,6]),(7,[2])] (by kernel_rfl) (by kernel_rfl) h
def F63 (t0:AV) (s:AHeap) (k kp:KP):Prop :=
stepK (aBox t0 s) fun t1 s =>
seqW (fun fr s=>(
seqW (fun fr s=>(
fA 0 (lq fr 1) s fun t16 s =>
lF t16 s fun t17 s =>
bP .lss t17 (.val (.int .u8 1)) s fun t18 s =>
gR t18 false (aFieldAddr 0 (lq fr 1)) (fun t20 s =>
gR t18 false (aLoad false 1 t20 s) (fun t21 s =>
gR t18 false (aBin .gtr .prim t21 (.val (.int .u8 4))) (fun t22 s =>
pK t18 (.val (.bool true)) t22 s fun t23 s =>
gR t23 false (aFieldAddr 3 (lq fr 1)) (fun t25 s =>
gR t23 false (aLoad false 1 t25 s) (fun t26 s =>
gR t23 false (aLenK .slice t26 s) (fun t27 s =>
gK t23 false (fun K=>K (lq fr 3) s) (fun t28 s =>
gR t23 false (aBin .neq .prim t27 t28) (fun t29 s =>
pK t23 (.val (.bool true)) t29 s fun t30 s =>
gR t30 false (aFieldAddr 1 (lq fr 1)) (fun t32 s =>
gR t30 false (aLoad false 1 t32 s) (fun t33 s =>
gR t30 false (aBin .lss .prim t33 (.val (.int .i64 0))) (fun t34 s =>
pK t30 (.val (.bool true)) t34 s fun t35 s =>
gR t35 false (aFieldAddr 0 (lq fr 1)) (fun t37 s =>
gR t35 false (aLoad false 1 t37 s) (fun t38 s =>
gR t35 false (aBin .eql .prim t38 (.val (.int .u8 1))) (fun t39 s =>
gK t35 false (fun K=>K t39 s) (fun t40 s =>
gR t40 true (aFieldAddr 1 (lq fr 1)) (fun t41 s =>
gR t40 true (aLoad false 1 t41 s) (fun t42 s =>
gR t40 true (aBin .gtr .prim t42 (.val (.int .i64 0))) (fun t43 s =>
gR t35 false (aPick t40 t43 (.val (.bool false))) (fun t44 s =>
pK t35 (.val (.bool true)) t44 s fun t45 s =>
gR t45 false (aFieldAddr 0 (lq fr 1)) (fun t47 s =>
gR t45 false (aLoad false 1 t47 s) (fun t48 s =>
gR t45 false (aBin .neq .prim t48 (.val (.int .u8 4))) (fun t49 s =>
gK t45 false (fun K=>K t49 s) (fun t50 s =>
gR t50 true (aFieldAddr 2 (lq fr 1)) (fun t51 s =>
gR t50 true (aLoad false 1 t51 s) (fun t52 s =>
gR t50 true (aLenK .slice t52 s) (fun t53 s =>
gR t50 true (aBin .gtr .prim t53 (.val (.int .i64 0))) (fun t54 s =>
gR t45 false (aPick t50 t54 (.val (.bool false))) (fun t55 s =>
pK t45 (.val (.bool true)) t55 s fun t56 s =>
gR t56 false (aFieldAddr 2 (lq fr 1)) (fun t58 s =>
gR t56 false (aLoad false 1 t58 s) (fun t59 s =>
gK t56 false (fun K=>Ev Tryz.prog 62 [t59] s K kp) (fun t60 s =>
gR t56 false (aNot t60) (fun t61 s =>
pK t56 (.val (.bool true)) t61 s fun t62 s =>
condK t62 (
k (.val (.bool false)) s
) (
seqW (fun fr s=>(
k (.val (.bool true)) s
)) (fun j3=>(
fA 3 (lq fr 1) s fun t63 s =>
lF t63 s fun t64 s =>
stepK (pureR s (aLenK .slice t64 s)) fun t65 s =>
loopW (fun fr s again=>(
bP .lss (lq fr 66) (lq fr 65) s fun t67 s =>
condK t67 (
fA 3 (lq fr 1) s fun t69 s =>
lF t69 s fun t70 s =>
iA 4 t70 (lq fr 66) s fun t72 s =>
lT 4 t72 s fun t73 s =>
Ev Tryz.prog 63 [t73] s (fun t74 s =>
stepK (pureR s (aNot t74)) fun t75 s =>
condK t75 (
k (.val (.bool false)) s
) (
bP .add (lq fr 66) (.val (.int .i64 1)) s fun t76 s =>
again [(1,(lq fr 1)),(65,(lq fr 65)),(66,t76)] s
)
) kp) (
j3 [(0,.any)] s
)
)) [(1,(lq fr 1)),(65,t65),(66,(.val (.int .i64 0)))] s
))
)
) s) s) s) s) s) s) s) s) s) s) s) s) s) s) s) s) s) s) s) s) s) s) s) s) s) s) s) s) s) s) s) s)) (fun j2=>(
fA 0 (lq fr 1) s fun t13 s =>
lF t13 s fun t14 s =>
bP .eql t14 (.val (.int .u8 3)) s fun t15 s =>
condK t15 (
j2 [(1,(lq fr 1)),(3,(.val (.int .i64 1)))] s
) (
j2 [(1,(lq fr 1)),(3,(lq fr 3))] s
)
))
)) (fun j1=>(
fA 0 t1 s fun t5 s =>
lF t5 s fun t6 s =>
bP .eql t6 (.val (.int .u8 2)) s fun t7 s =>
gR t7 false (aFieldAddr 0 t1) (fun t9 s =>
gR t7 false (aLoad false 1 t9 s) (fun t10 s =>
gR t7 false (aBin .eql .prim t10 (.val (.int .u8 4))) (fun t11 s =>
pK t7 (.val (.bool true)) t11 s fun t12 s =>
condK t12 (
j1 [(1,t1),(3,(.val (.int .i64 2)))] s
) (
j1 [(1,t1),(3,(.val (.int .i64 0)))] s
)
) s) s) s))
theorem F63_ev {t0:AV} (h:F63 t0 s k kp):Ev Tryz.prog 63 [t0] s k kp:=evA mixed Tryz.func63 [(0,[1]),(1,[1,3]),(3005,[1,3]),(2,[1,3,12]),(3,[1,3]),(3007,[1,3]),(4,[1,3,15]),(5,[1,3]),(6,[1,62]),(7,[2]),(3015,[0]),(8,[1,65,66]),(9,[1,65,66,67]),(10,[1,4,65,66]),(11,[1,65,66,75]),(12,[2]),(13,[1,65,66]),(1009,[1,65,66]),(14,[2])] (by kernel_rfl) (by kernel_rfl) h
def F64 (t0:AV) (s:AHeap) (k kp:KP):Prop :=
stepK (aBox t0 s) fun t1 s =>
fA 0 t1 s fun t3 s =>
lF t3 s fun t4 s =>
bP .eql t4 (.val (.int .u8 0)) s fun t5 s =>
gR t5 true (aFieldAddr 1 t1) (fun t7 s =>
gR t5 true (aLoad false 1 t7 s) (fun t8 s =>
gR t5 true (aBin .eql .prim t8 (.val (.int .i64 0))) (fun t9 s =>
pK t5 t9 (.val (.bool false)) s fun t10 s =>
gR t10 true (aFieldAddr 2 t1) (fun t12 s =>
gR t10 true (aLoad false 1 t12 s) (fun t13 s =>
gR t10 true (aLenK .slice t13 s) (fun t14 s =>
gR t10 true (aBin .eql .prim t14 (.val (.int .i64 0))) (fun t15 s =>
pK t10 t15 (.val (.bool false)) s fun t16 s =>
gR t16 true (aFieldAddr 3 t1) (fun t18 s =>
gR t16 true (aLoad false 1 t18 s) (fun t19 s =>
gR t16 true (aLenK .slice t19 s) (fun t20 s =>
gR t16 true (aBin .eql .prim t20 (.val (.int .i64 0))) (fun t21 s =>
pK t16 t21 (.val (.bool false)) s fun t22 s =>
k t22 s) s) s) s) s) s) s) s) s) s) s) s
theorem F64_ev {t0:AV} (h:F64 t0 s k kp):Ev Tryz.prog 64 [t0] s k kp:=evA mixed Tryz.func64 [(0,[1]),(1,[2])] (by kernel_rfl) (by kernel_rfl) h
def F136 (t0:AV) (s:AHeap) (k kp:KP):Prop :=
seqW (fun fr s=>(
condK (lq fr 4) (
k (.val (.int .i64 0)) s
) (
seqW (fun fr s=>(
condK (lq fr 7) (
k (.val (.int .i64 1)) s
) (
seqW (fun fr s=>(
condK (lq fr 14) (
k (.val (.int .i64 2)) s
) (
bP .eql (lq fr 3) (.val (.int .u8 14)) s fun t23 s =>
condK t23 (
k (.val (.int .i64 3)) s
) (
k (.val (.int .i64 (-1))) s
)
)
)) (fun j3=>(
bP .eql (lq fr 3) (.val (.int .u8 3)) s fun t15 s =>
condK t15 (
j3 [(3,(lq fr 3)),(14,t15)] s
) (
bP .eql (lq fr 3) (.val (.int .u8 8)) s fun t16 s =>
condK t16 (
j3 [(3,(lq fr 3)),(14,t16)] s
) (
bP .eql (lq fr 3) (.val (.int .u8 9)) s fun t17 s =>
condK t17 (
j3 [(3,(lq fr 3)),(14,t17)] s
) (
bP .eql (lq fr 3) (.val (.int .u8 10)) s fun t18 s =>
condK t18 (
j3 [(3,(lq fr 3)),(14,t18)] s
) (
bP .eql (lq fr 3) (.val (.int .u8 12)) s fun t19 s =>
condK t19 (
j3 [(3,(lq fr 3)),(14,t19)] s
) (
bP .eql (lq fr 3) (.val (.int .u8 13)) s fun t20 s =>
condK t20 (
j3 [(3,(lq fr 3)),(14,t20)] s
) (
bP .eql (lq fr 3) (.val (.int .u8 16)) s fun t21 s =>
j3 [(3,(lq fr 3)),(14,t21)] s
)
)
)
)
)
)
))
)
)) (fun j2=>(
bP .eql (lq fr 3) (.val (.int .u8 4)) s fun t8 s =>
condK t8 (
j2 [(3,(lq fr 3)),(7,t8)] s
) (
bP .eql (lq fr 3) (.val (.int .u8 5)) s fun t9 s =>
condK t9 (
j2 [(3,(lq fr 3)),(7,t9)] s
) (
bP .eql (lq fr 3) (.val (.int .u8 6)) s fun t10 s =>
condK t10 (
j2 [(3,(lq fr 3)),(7,t10)] s
) (
bP .eql (lq fr 3) (.val (.int .u8 7)) s fun t11 s =>
condK t11 (
j2 [(3,(lq fr 3)),(7,t11)] s
) (
bP .eql (lq fr 3) (.val (.int .u8 11)) s fun t12 s =>
condK t12 (
j2 [(3,(lq fr 3)),(7,t12)] s
) (
bP .eql (lq fr 3) (.val (.int .u8 15)) s fun t13 s =>
j2 [(3,(lq fr 3)),(7,t13)] s
)
)
)
)
)
))
)
)) (fun j1=>(
bP .eql t0 (.val (.int .u8 1)) s fun t5 s =>
condK t5 (
j1 [(3,t0),(4,t5)] s
) (
bP .eql t0 (.val (.int .u8 2)) s fun t6 s =>
j1 [(3,t0),(4,t6)] s
)
))
theorem F136_ev {t0:AV} (h:F136 t0 s k kp):Ev Tryz.prog 136 [t0] s k kp:=evA mixed Tryz.func136 [(0,[0]),(1,[3]),(3005,[3,4]),(2,[3,4]),(3,[3,4]),(4,[2]),(3012,[3,7]),(5,[3,7]),(6,[3,7]),(7,[3,7]),(8,[3,7]),(9,[3,7]),(10,[3,7]),(11,[2]),(3020,[3,14]),(12,[3,14]),(13,[3,14]),(14,[3,14]),(15,[3,14]),(16,[3,14]),(17,[3,14]),(18,[3,14]),(19,[2]),(20,[22]),(21,[2]),(22,[2])] (by kernel_rfl) (by kernel_rfl) h
def F137 (t0 t1 t2:AV) (s:AHeap) (k kp:KP):Prop :=
gK t0 true (fun K=>K t2 s) (fun t9 s =>
pK t0 t9 (.val (.bool false)) s fun t10 s =>
gK t10 false (fun K=>K t0 s) (fun t12 s =>
gR t10 false (aNot t12) (fun t13 s =>
gK t10 false (fun K=>K t13 s) (fun t14 s =>
gK t14 true (fun K=>K t1 s) (fun t15 s =>
gR t14 true (aBin .eql .prim t15 (.val (.string { data:=#[] }))) (fun t16 s =>
gR t10 false (aPick t14 t16 (.val (.bool false))) (fun t17 s =>
pK t10 (.val (.bool true)) t17 s fun t18 s =>
k t18 s) s) s) s) s) s) s) s
theorem F137_ev {t0 t1 t2:AV} (h:F137 t0 t1 t2 s k kp):Ev Tryz.prog 137 [t0,t1,t2] s k kp:=evA mixed Tryz.func137 [(0,[0,1,2]),(1,[6])] (by kernel_rfl) (by kernel_rfl) h
def F103 (t0:AV) (s:AHeap) (k kp:KP):Prop :=
Ev Tryz.prog 134 [t0,(.val (.int .u8 3))] s (fun t4 s =>
gK t4 true (fun K=>K t0 s) (fun t6 s =>
gK t4 true (fun K=>Ev Tryz.prog 135 [t6] s K kp) (fun t7 s =>
gR t4 true (aBin .eql .prim t7 (.val (.int .i64 0))) (fun t8 s =>
pK t4 t8 (.val (.bool false)) s fun t9 s =>
k t9 s) s) s) s) kp
theorem F103_ev {t0:AV} (h:F103 t0 s k kp):Ev Tryz.prog 103 [t0] s k kp:=evA mixed Tryz.func103 [(0,[0]),(1,[2])] (by kernel_rfl) (by kernel_rfl) h
def F106 (t0 t1:AV) (s:AHeap) (k kp:KP):Prop :=
stepK (aBox t0 s) fun t2 s =>
stepK (aBox t1 s) fun t3 s =>
fA 0 t2 s fun t5 s =>
lF t5 s fun t6 s =>
fA 0 t3 s fun t7 s =>
lF t7 s fun t8 s =>
bP .neq t6 t8 s fun t9 s =>
condK t9 (
fA 0 t2 s fun t10 s =>
lF t10 s fun t11 s =>
fA 0 t3 s fun t12 s =>
lF t12 s fun t13 s =>
bP .lss t11 t13 s fun t14 s =>
k t14 s
) (
fA 1 t2 s fun t15 s =>
lF t15 s fun t16 s =>
fA 1 t3 s fun t17 s =>
lF t17 s fun t18 s =>
bP .neq t16 t18 s fun t19 s =>
condK t19 (
fA 1 t2 s fun t20 s =>
lF t20 s fun t21 s =>
fA 1 t3 s fun t22 s =>
lF t22 s fun t23 s =>
bP .lss t21 t23 s fun t24 s =>
k t24 s
) (
fA 2 t2 s fun t25 s =>
lF t25 s fun t26 s =>
fA 2 t3 s fun t27 s =>
lF t27 s fun t28 s =>
bP .lss t26 t28 s fun t29 s =>
k t29 s
)
)
theorem F106_ev {t0 t1:AV} (h:F106 t0 t1 s k kp):Ev Tryz.prog 106 [t0,t1] s k kp:=evA mixed Tryz.func106 [(0,[2,3]),(1,[2,3,9]),(2,[4]),(3,[2,3,19]),(4,[4]),(5,[4])] (by kernel_rfl) (by kernel_rfl) h
def F135 (t0:AV) (s:AHeap) (k kp:KP):Prop :=
Ev Tryz.prog 174 [] s (fun t5 s =>
seqW (fun fr s=>(
k (.val (.int .i64 0)) s
)) (fun j1=>(
stepK (pureR s (aLenK .slice t5 s)) fun t7 s =>
loopW (fun fr s again=>(
bP .lss (lq fr 8) (lq fr 7) s fun t9 s =>
condK t9 (
iA 1 (lq fr 3) (lq fr 8) s fun t13 s =>
lF t13 s fun t14 s =>
bP .eql t14 (lq fr 0) s fun t16 s =>
condK t16 (
bP .add (lq fr 8) (.val (.int .i64 1)) s fun t18 s =>
k t18 s
) (
bP .add (lq fr 8) (.val (.int .i64 1)) s fun t19 s =>
again [(0,(lq fr 0)),(3,(lq fr 3)),(7,(lq fr 7)),(8,t19)] s
)
) (
j1 [(0,(lq fr 0))] s
)
)) [(0,t0),(3,t5),(7,t7),(8,(.val (.int .i64 0)))] s
))) kp
theorem F135_ev {t0:AV} (h:F135 t0 s k kp):Ev Tryz.prog 135 [t0] s k kp:=evA mixed Tryz.func135 [(0,[0]),(1,[0,3]),(3009,[0]),(2,[0,3,7,8]),(3,[0,3,7,8,9]),(4,[0,3,4,7,8]),(5,[0,3,4,7,8,16]),(6,[2]),(7,[0,3,7,8]),(1003,[0,3,7,8]),(8,[2])] (by kernel_rfl) (by kernel_rfl) h
def F174 (s:AHeap) (k kp:KP):Prop :=
stepK (pureR s (aBuildSl 14 1 [.val (.string ByteArray.empty)] [(0,(.val (.string { data:=#[108,101,116] }))),(1,(.val (.string { data:=#[108,101,116,114,101,99] }))),(2,(.val (.string { data:=#[105,110] }))),(3,(.val (.string { data:=#[102,110] }))),(4,(.val (.string { data:=#[105,102] }))),(5,(.val (.string { data:=#[116,104,101,110] }))),(6,(.val (.string { data:=#[101,108,115,101] }))),(7,(.val (.string { data:=#[114,97,105,115,101] }))),(8,(.val (.string { data:=#[116,114,121] }))),(9,(.val (.string { data:=#[119,105,116,104] }))),(10,(.val (.string { data:=#[114,101,102] }))),(11,(.val (.string { data:=#[102,115,116] }))),(12,(.val (.string { data:=#[115,110,100] }))),(13,(.val (.string { data:=#[101,120,110] })))])) fun t1 s =>
k t1 s
theorem F174_ev (h:F174 s k kp):Ev Tryz.prog 174 [] s k kp:=evA mixed Tryz.func174 [(0,[]),(1,[0]),(4001,[1])] (by kernel_rfl) (by kernel_rfl) h
end Go.Proofs.AtD
