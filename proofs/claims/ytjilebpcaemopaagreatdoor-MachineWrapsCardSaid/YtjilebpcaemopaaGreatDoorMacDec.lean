import Derived.Test.YtjilebpcaemopaaGreatDoorAbsK
import Derived.Test.YtjilebpcaemopaaGreatDoorProg
import Derived.KernelRfl
import Derived.Test.YtjilebpcaemopaaGreatDoorAbsR
import Derived.Test.YtjilebpcaemopaaGreatDoorAbsLF
set_option maxRecDepth 100000
set_option linter.unusedVariables false
namespace Go.Proofs.MacD
open Go Go.Abs
variable {t0 t1 t2 t3 t4 t5 t6 t7:AV} {w:ah} {k kp:AV→ah→Prop}
theorem mixed:Tryz.prog.follows .mixedOrders=true:=by kernel_rfl
def F12 (t0 t1 t2:AV) (w:ah) (k kp:AV→ah→Prop):Prop:=
 ab (bq t0 w) fun t3 w=>
 ab (bq t2 w) fun t5 w=>
 ab (aR [.val (.int .u8 0),.val (.bool false),.val (.int .i64 0),.val (.string ByteArray.empty),.val (.int .i64 0),.val (.int .i64 0),.val (.int .i64 0),.val (.int .i64 0)] w) fun t6 w=>
 ab (ae w (aj true 19 t3 w)) fun t10 w=>
 Ev Tryz.prog 24 [t10] w (fun t11 w=>
 ab (ae w (bC t11)) fun t12 w=>
 ay t12 (
 ab (ae w (aN [.val (.int .u8 0),.val (.bool false),.val (.int .i64 0),.val (.string ByteArray.empty),.val (.int .i64 0),.val (.int .i64 0),.val (.int .i64 0),.val (.int .i64 0)] [])) fun t13 w=>
 ab (aG (az 8 t6 t13 w)) fun _ w=>
 aW (aj true 8 t6 w) fun r0=>
 k (.tup [r0,(.val (.int .i64 1))]) w
 ) (
 ab (ae w (aj true 2 t5 w)) fun t14 w=>
 Ev Tryz.prog 25 [t14] w (fun t15 w=>
 ab (ae w (rO t1 (.val (.int .i64 1099511627776)))) fun t17 w=>
 ab (ae w (qK (.val (.int .i64 0)) t17)) fun t18 w=>
 ab (ae w (aN [.val (.pointer none),.val (.int .i64 0),.val (.int .i64 0),.val (.slice none 0 0),.val (.slice none 0 0)] [(0,1,t15),(1,1,t18)])) fun t19 w=>
 ab (bq t19 w) fun t20 w=>
 Ev Tryz.prog 26 [t20,t3] w (fun t22 w=>
 ab (aR [.val (.int .u8 0),.val (.bool false),.val (.int .i64 0),.val (.string ByteArray.empty)] w) fun t9 w=>
 ab (aG (az 4 t9 t22 w)) fun _ w=>
 ab (ae w (aj true 4 t9 w)) fun t23 w=>
 ab (ae w (ax t20)) fun t25 w=>
 ab (ae w (ag 2 t25)) fun t26 w=>
 ab (ae w (aj false 1 t26 w)) fun t27 w=>
 ab (ae w (ax t20)) fun t29 w=>
 ab (ae w (ag 0 t29)) fun t30 w=>
 ab (ae w (aj false 1 t30 w)) fun t31 w=>
 ab (ae w (ax t20)) fun t34 w=>
 ab (ae w (ag 0 t34)) fun t35 w=>
 ab (ae w (aj false 1 t35 w)) fun t36 w=>
 ab (ae w (ax t20)) fun t39 w=>
 ab (ae w (ag 0 t39)) fun t40 w=>
 ab (ae w (aj false 1 t40 w)) fun t41 w=>
 Ev Tryz.prog 27 [t31] w (fun t32 w=>
 (ab (ae w (aj true 4 t9 w)) (fun y q=>y=t23∧q=w))∧(
 (ab (ae w (aj false 1 t26 w)) (fun y q=>y=t27∧q=w))∧(
 (ab (ae w (aj false 1 t35 w)) (fun y q=>y=t36∧q=w))∧(
 (ab (ae w (aj false 1 t40 w)) (fun y q=>y=t41∧q=w))∧(
 Ev Tryz.prog 28 [t36] w (fun t37 w=>
 (ab (ae w (aj true 4 t9 w)) (fun y q=>y=t23∧q=w))∧(
 (ab (ae w (aj false 1 t26 w)) (fun y q=>y=t27∧q=w))∧(
 (ab (ae w (aj false 1 t40 w)) (fun y q=>y=t41∧q=w))∧(
 Ev Tryz.prog 29 [t41] w (fun t42 w=>
 (ab (ae w (aj true 4 t9 w)) (fun y q=>y=t23∧q=w))∧(
 (ab (ae w (aj false 1 t26 w)) (fun y q=>y=t27∧q=w))∧(
 ab (ae w (aN [.val (.int .u8 0),.val (.bool false),.val (.int .i64 0),.val (.string ByteArray.empty),.val (.int .i64 0),.val (.int .i64 0),.val (.int .i64 0),.val (.int .i64 0)] [(0,4,t23),(4,1,t27),(5,1,t32),(6,1,t37),(7,1,t42)])) fun t43 w=>
 ab (aG (az 8 t6 t43 w)) fun _ w=>
 aW (aj true 8 t6 w) fun r0=>
 k (.tup [r0,(.val (.int .i64 0))]) w
 ))) kp)))) kp))))) kp) kp) kp)) kp
theorem D8 (h:F12 t0 t1 t2 w k kp):Ev Tryz.prog 12 [t0,t1,t2] w k kp:=evF mixed Tryz.func12 [(0,[1,3,5,6]),(1,[1,3,5,6,12]),(2,[6,7]),(3,[3,6,8]),(4,[6,8,9]),(5,[6,7]),(2005,[0,1,2,3,4,5,6,7,8,10,11,12,13,15,16,17,18,9,14,19,20,21,22]),(105009,[0,4,13,18]),(105014,[0,4,18]),(105019,[0,4])] (by kernel_rfl) (by kernel_rfl) h
def F25 (t0:AV) (w:ah) (k kp:AV→ah→Prop):Prop:=
 ab (bq t0 w) fun t1 w=>
 ab (ae w (ag 0 t1)) fun t3 w=>
 ab (ae w (aj false 1 t3 w)) fun t4 w=>
 ab (ae w (rO t4 (.val (.int .i64 1048576)))) fun t5 w=>
 ab (ae w (qK (.val (.int .i64 1)) t5)) fun t6 w=>
 ab (ae w (ag 0 t1)) fun t7 w=>
 ab (aG (az 1 t7 t6 w)) fun _ w=>
 ab (ae w (ag 1 t1)) fun t8 w=>
 ab (ae w (aj false 1 t8 w)) fun t9 w=>
 ab (ae w (rO t9 (.val (.int .i64 4194304)))) fun t10 w=>
 ab (ae w (qK (.val (.int .i64 0)) t10)) fun t11 w=>
 ab (ae w (ag 1 t1)) fun t12 w=>
 ab (aG (az 1 t12 t11 w)) fun _ w=>
 ab (ae w (aj true 2 t1 w)) fun t13 w=>
 ab (nQ w) fun t14 w=>
 ab (aG (cX (.int .i64) t14 (.val (.int .i64 0)) (.val (.slice Option.none 0 0)) w)) fun _ w=>
 ab (aK 1 1 [.val (.int .i64 0)] [(0,(.val (.int .i64 0)))] w) fun t16 w=>
 ab (ae w (aN [.val (.int .i64 0),.val (.int .i64 0),.val (.map none),.val (.slice none 0 0),.val (.int .i64 0),.val (.int .i64 0),.val (.int .i64 0)] [(0,2,t13),(2,1,t14),(3,1,t16),(4,1,(.val (.int .i64 1)))])) fun t17 w=>
 ab (bq t17 w) fun t18 w=>
 k t18 w
theorem Es (h:F25 t0 w k kp):Ev Tryz.prog 25 [t0] w k kp:=evF mixed Tryz.func25 [(0,[1]),(1,[1]),(2,[1]),(3,[2])] (by kernel_rfl) (by kernel_rfl) h
def F27 (t0:AV) (w:ah) (k kp:AV→ah→Prop):Prop:=
 ab (ae w (ar .eql .ptr t0 (.val (.pointer Option.none)))) fun t4 w=>
 ay t4 (
 k (.val (.int .i64 0)) w
 ) (
 ab (ae w (ax t0)) fun t6 w=>
 ab (ae w (ag 3 t6)) fun t7 w=>
 ab (ae w (aj false 1 t7 w)) fun t8 w=>
 ab (ae w (aE .slice t8 w)) fun t9 w=>
 k t9 w
 )
theorem Ew (h:F27 t0 w k kp):Ev Tryz.prog 27 [t0] w k kp:=evF mixed Tryz.func27 [(0,[0]),(1,[0,4]),(2,[2]),(3,[2])] (by kernel_rfl) (by kernel_rfl) h
def F28 (t0:AV) (w:ah) (k kp:AV→ah→Prop):Prop:=
 ab (ae w (ar .eql .ptr t0 (.val (.pointer Option.none)))) fun t4 w=>
 ay t4 (
 k (.val (.int .i64 0)) w
 ) (
 ab (ae w (ax t0)) fun t6 w=>
 ab (ae w (ag 5 t6)) fun t7 w=>
 ab (ae w (aj false 1 t7 w)) fun t8 w=>
 k t8 w
 )
theorem Ex (h:F28 t0 w k kp):Ev Tryz.prog 28 [t0] w k kp:=evF mixed Tryz.func28 [(0,[0]),(1,[0,4]),(2,[2]),(3,[2])] (by kernel_rfl) (by kernel_rfl) h
def F29 (t0:AV) (w:ah) (k kp:AV→ah→Prop):Prop:=
 ab (ae w (ar .eql .ptr t0 (.val (.pointer Option.none)))) fun t4 w=>
 ay t4 (
 k (.val (.int .i64 0)) w
 ) (
 ab (ae w (ax t0)) fun t6 w=>
 ab (ae w (ag 6 t6)) fun t7 w=>
 ab (ae w (aj false 1 t7 w)) fun t8 w=>
 k t8 w
 )
theorem Ey (h:F29 t0 w k kp):Ev Tryz.prog 29 [t0] w k kp:=evF mixed Tryz.func29 [(0,[0]),(1,[0,4]),(2,[2]),(3,[2])] (by kernel_rfl) (by kernel_rfl) h
def F43 (t0 t1 t2:AV) (w:ah) (k kp:AV→ah→Prop):Prop:=
 ab (bq t2 w) fun t5 w=>
 ab (aR [.val (.pointer none),.val (.pointer none),.val (.pointer none),.val (.int .u8 0),.val (.int .i64 0),.val (.int .i64 0),.val (.int .i64 0),.val (.bool false),.val (.string ByteArray.empty)] w) fun t6 w=>
 ab (ae w (ax t1)) fun t12 w=>
 ab (ae w (ag 0 t12)) fun t13 w=>
 ab (ae w (ag 0 t13)) fun t14 w=>
 ab (ae w (aj false 1 t14 w)) fun t15 w=>
 ab (ae w (ar .eql .prim t15 (.val (.int .u8 17)))) fun t16 w=>
 ay t16 (
 ab (ae w (ax t0)) fun t19 w=>
 ab (ae w (ag 0 t19)) fun t20 w=>
 ab (ae w (aj false 1 t20 w)) fun t21 w=>
 Ev Tryz.prog 78 [t21] w (fun t22 w=>
 ab (ae w (bc 0 t22)) fun t23 w=>
 ab (ae w (bc 1 t22)) fun t24 w=>
 Ev Tryz.prog 79 [t24,(.val (.int .u8 4))] w (fun t26 w=>
 ab (ae w (ax t0)) fun t29 w=>
 ab (ae w (ag 4 t29)) fun t30 w=>
 ab (ae w (aj false 1 t30 w)) fun t31 w=>
 ab (ae w (aj true 2 t5 w)) fun t33 w=>
 ab (ae w (aN [.val (.pointer none),.val (.pointer none),.val (.pointer none),.val (.slice none 0 0)] [(0,1,t1),(1,2,t33),(3,1,(.val (.slice Option.none 0 0)))])) fun t34 w=>
 ab (ae w (aV 1 4 [.val (.pointer none),.val (.pointer none),.val (.pointer none),.val (.slice none 0 0)] [(0,t34)])) fun t35 w=>
 ab (aY 4 48 t31 t35 w) fun t36 w=>
 ab (ae w (ax t0)) fun t37 w=>
 ab (ae w (ag 4 t37)) fun t38 w=>
 ab (aG (az 1 t38 t36 w)) fun _ w=>
 ab (ae w (ax t1)) fun t40 w=>
 ab (ae w (ag 18 t40)) fun t41 w=>
 ab (ae w (aj false 1 t41 w)) fun t42 w=>
 ab (ae w (ak 19 t42 (.val (.int .i64 0)) w)) fun t43 w=>
 ab (ae w (aj true 2 t5 w)) fun t44 w=>
 ab (ae w (ax t1)) fun t46 w=>
 ab (ae w (ag 7 t46)) fun t47 w=>
 ab (ae w (aj false 1 t47 w)) fun t48 w=>
 Ev Tryz.prog 80 [t44,t48,t23] w (fun t50 w=>
 (ab (ae w (aj false 1 t41 w)) (fun y q=>y=t42∧q=w))∧(
 (ab (ae w (ak 19 t42 (.val (.int .i64 0)) w)) (fun y q=>y=t43∧q=w))∧(
 ab (ae w (aN [.val (.pointer none),.val (.pointer none),.val (.pointer none),.val (.int .u8 0),.val (.int .i64 0),.val (.int .i64 0),.val (.int .i64 0),.val (.bool false),.val (.string ByteArray.empty)] [(0,1,t43),(1,2,t50)])) fun t51 w=>
 ab (aG (az 9 t6 t51 w)) fun _ w=>
 aW (aj true 9 t6 w) fun r0=>
 k r0 w
 ))) kp) kp) kp) (
 Ev Tryz.prog 81 [t0] w (fun t53 w=>
 ab (ae w (ax t1)) fun t55 w=>
 ab (ae w (ag 0 t55)) fun t56 w=>
 ab (ae w (ag 0 t56)) fun t57 w=>
 ab (ae w (aj false 1 t57 w)) fun t58 w=>
 ab (ae w (ar .eql .prim t58 (.val (.int .u8 1)))) fun t60 w=>
 ay t60 (
 ab (ae w (ax t1)) fun t62 w=>
 ab (ae w (ag 0 t62)) fun t63 w=>
 ab (ae w (ag 3 t63)) fun t64 w=>
 ab (ae w (aj false 1 t64 w)) fun t65 w=>
 Ev Tryz.prog 83 [t65] w (fun t66 w=>
 Ev Tryz.prog 82 [t66] w (fun t67 w=>
 ab (aG (az 9 t6 t67 w)) fun _ w=>
 aW (aj true 9 t6 w) fun r0=>
 k r0 w
 ) kp) kp) (
 ab (ae w (ar .eql .prim t58 (.val (.int .u8 2)))) fun t69 w=>
 ay t69 (
 ab (ae w (aj true 2 t5 w)) fun t70 w=>
 ab (ae w (ax t1)) fun t72 w=>
 ab (ae w (ag 0 t72)) fun t73 w=>
 ab (ae w (ag 4 t73)) fun t74 w=>
 ab (ae w (aj false 1 t74 w)) fun t75 w=>
 Ev Tryz.prog 84 [t70,t75] w (fun t76 w=>
 ab (ae w (ar .neq .ptr t76 (.val (.pointer Option.none)))) fun t78 w=>
 gK t78 true (fun K=>K t76 w) (fun t80 w=>
 gK t78 true (fun K=>ab (ae w (ax t80)) K) (fun t81 w=>
 gK t78 true (fun K=>ab (ae w (ag 5 t81)) K) (fun t82 w=>
 gK t78 true (fun K=>ab (ae w (aj false 1 t82 w)) K) (fun t83 w=>
 gK t78 true (fun K=>ab (ae w (bC t83)) K) (fun t84 w=>
 ab (ae w (aF t78 t84 (.val (.bool false)))) fun t85 w=>
 Ev Tryz.prog 79 [t85,(.val (.int .u8 6))] w (fun t86 w=>
 ab (ae w (ax t76)) fun t88 w=>
 ab (ae w (ag 1 t88)) fun t89 w=>
 ab (ae w (aj true 4 t89 w)) fun t90 w=>
 Ev Tryz.prog 82 [t90] w (fun t91 w=>
 ab (aG (az 9 t6 t91 w)) fun _ w=>
 aW (aj true 9 t6 w) fun r0=>
 k r0 w
 ) kp) kp) w) w) w) w) w) kp) (
 ab (ae w (ar .eql .prim t58 (.val (.int .u8 18)))) fun t93 w=>
 ay t93 (
 ab (ae w (aj true 2 t5 w)) fun t96 w=>
 Ev Tryz.prog 85 [t0,t1,t96] w (fun t97 w=>
 Ev Tryz.prog 82 [t97] w (fun t98 w=>
 ab (aG (az 9 t6 t98 w)) fun _ w=>
 aW (aj true 9 t6 w) fun r0=>
 k r0 w
 ) kp) kp) (
 ab (ae w (ar .eql .prim t58 (.val (.int .u8 11)))) fun t100 w=>
 ay t100 (
 ab (ae w (aj true 2 t5 w)) fun t102 w=>
 ab (ae w (ax t1)) fun t104 w=>
 ab (ae w (ag 7 t104)) fun t105 w=>
 ab (ae w (aj false 1 t105 w)) fun t106 w=>
 ab (ae w (ax t1)) fun t109 w=>
 ab (ae w (ag 18 t109)) fun t110 w=>
 ab (ae w (aj false 1 t110 w)) fun t111 w=>
 ab (ae w (ak 19 t111 (.val (.int .i64 0)) w)) fun t112 w=>
 ab (ae w (ax t1)) fun t114 w=>
 ab (ae w (ag 0 t114)) fun t115 w=>
 ab (ae w (ag 5 t115)) fun t116 w=>
 ab (ae w (aj false 1 t116 w)) fun t117 w=>
 ab (ae w (aj true 2 t5 w)) fun t118 w=>
 ab (ae w (aN [.val (.pointer none),.val (.string ByteArray.empty),.val (.pointer none),.val (.pointer none),.val (.slice none 0 0)] [(0,1,t112),(1,1,t117),(2,2,t118),(4,1,(.val (.slice Option.none 0 0)))])) fun t119 w=>
 Ev Tryz.prog 87 [t0,t119] w (fun t120 w=>
 (ab (ae w (aj true 2 t5 w)) (fun y q=>y=t102∧q=w))∧(
 (ab (ae w (aj false 1 t105 w)) (fun y q=>y=t106∧q=w))∧(
 Ev Tryz.prog 86 [t0,t102,t106,t120] w (fun t121 w=>
 Ev Tryz.prog 82 [t121] w (fun t122 w=>
 ab (aG (az 9 t6 t122 w)) fun _ w=>
 aW (aj true 9 t6 w) fun r0=>
 k r0 w
 ) kp) kp))) kp) (
 ab (ae w (ar .eql .prim t58 (.val (.int .u8 13)))) fun t124 w=>
 ay t124 (
 bk (fun fr w=>(
 ab (ae w (aj true 2 (aa fr 5) w)) fun t150 w=>
 ab (ae w (ax (aa fr 1))) fun t152 w=>
 ab (ae w (ag 0 t152)) fun t153 w=>
 ab (ae w (ag 4 t153)) fun t154 w=>
 ab (ae w (aj false 1 t154 w)) fun t155 w=>
 ab (ae w (aj true 4 (aa fr 10) w)) fun t156 w=>
 Ev Tryz.prog 88 [t150,t155,t156,(.val (.bool true))] w (fun t157 w=>
 ab (aG (az 2 (aa fr 5) t157 w)) fun _ w=>
 ab (ae w (ax (aa fr 0))) fun t159 w=>
 ab (ae w (ag 3 t159)) fun t160 w=>
 ab (ae w (aj false 1 t160 w)) fun t161 w=>
 ab (ae w (ax (aa fr 0))) fun t163 w=>
 ab (ae w (ag 3 t163)) fun t164 w=>
 ab (ae w (aj false 1 t164 w)) fun t165 w=>
 ab (ae w (aE .slice t165 w)) fun t166 w=>
 ab (ae w (ar .sub .prim t166 (.val (.int .i64 1)))) fun t167 w=>
 ab (ae w (aj true 2 (aa fr 5) w)) fun t168 w=>
 ab (ae w (ak 5 t161 t167 w)) fun t169 w=>
 ab (ae w (ag 2 t169)) fun t170 w=>
 ab (aG (az 2 t170 t168 w)) fun _ w=>
 ab (ae w (ax (aa fr 1))) fun t172 w=>
 ab (ae w (ag 18 t172)) fun t173 w=>
 ab (ae w (aj false 1 t173 w)) fun t174 w=>
 ab (ae w (ak 19 t174 (.val (.int .i64 1)) w)) fun t175 w=>
 ab (ae w (aj true 2 (aa fr 5) w)) fun t176 w=>
 ab (ae w (aN [.val (.pointer none),.val (.pointer none),.val (.pointer none),.val (.int .u8 0),.val (.int .i64 0),.val (.int .i64 0),.val (.int .i64 0),.val (.bool false),.val (.string ByteArray.empty)] [(0,1,t175),(1,2,t176)])) fun t177 w=>
 ab (aG (az 9 (aa fr 6) t177 w)) fun _ w=>
 aW (aj true 9 (aa fr 6) w) fun r0=>
 k r0 w
 ) kp)) (fun j1=>(
 (
 ab (ae w (aj true 2 t5 w)) fun t126 w=>
 ab (ae w (ax t1)) fun t128 w=>
 ab (ae w (ag 7 t128)) fun t129 w=>
 ab (ae w (aj false 1 t129 w)) fun t130 w=>
 ab (ae w (ax t1)) fun t133 w=>
 ab (ae w (ag 18 t133)) fun t134 w=>
 ab (ae w (aj false 1 t134 w)) fun t135 w=>
 ab (ae w (ak 19 t135 (.val (.int .i64 0)) w)) fun t136 w=>
 ab (ae w (ax t1)) fun t138 w=>
 ab (ae w (ag 0 t138)) fun t139 w=>
 ab (ae w (ag 5 t139)) fun t140 w=>
 ab (ae w (aj false 1 t140 w)) fun t141 w=>
 ab (ae w (aj true 2 t5 w)) fun t142 w=>
 ab (ae w (ax t1)) fun t144 w=>
 ab (ae w (ag 8 t144)) fun t145 w=>
 ab (ae w (aj false 1 t145 w)) fun t146 w=>
 ab (ae w (aN [.val (.pointer none),.val (.string ByteArray.empty),.val (.pointer none),.val (.pointer none),.val (.slice none 0 0)] [(0,1,t136),(1,1,t141),(2,2,t142),(4,1,t146)])) fun t147 w=>
 Ev Tryz.prog 87 [t0,t147] w (fun t148 w=>
 (ab (ae w (aj true 2 t5 w)) (fun y q=>y=t126∧q=w))∧(
 (ab (ae w (aj false 1 t129 w)) (fun y q=>y=t130∧q=w))∧(
 Ev Tryz.prog 86 [t0,t126,t130,t148] w (fun t149 w=>
 ab (aR [.val (.int .u8 0),.val (.int .i64 0),.val (.int .i64 0),.val (.int .i64 0)] w) fun t10 w=>
 (ab (ae w (aj true 2 t5 w)) (fun y q=>y=t126∧q=w))∧(
 (ab (ae w (aj false 1 t129 w)) (fun y q=>y=t130∧q=w))∧(
 (ab (ae w (aj false 1 t134 w)) (fun y q=>y=t135∧q=w))∧(
 (ab (ae w (ak 19 t135 (.val (.int .i64 0)) w)) (fun y q=>y=t136∧q=w))∧(
 (ab (ae w (aj false 1 t140 w)) (fun y q=>y=t141∧q=w))∧(
 (ab (ae w (aj true 2 t5 w)) (fun y q=>y=t142∧q=w))∧(
 (ab (ae w (aj false 1 t145 w)) (fun y q=>y=t146∧q=w))∧(
 ab (aG (az 4 t10 t149 w)) fun _ w=>
 j1 [(0,t0),(1,t1),(5,t5),(6,t6),(10,t10)] w
 )))))))) kp))) kp)∧(
 (
 ab (ae w (aj true 2 t5 w)) fun t126 w=>
 ab (ae w (ax t1)) fun t128 w=>
 ab (ae w (ag 7 t128)) fun t129 w=>
 ab (ae w (aj false 1 t129 w)) fun t130 w=>
 ab (ae w (ax t1)) fun t133 w=>
 ab (ae w (ag 18 t133)) fun t134 w=>
 ab (ae w (aj false 1 t134 w)) fun t135 w=>
 ab (ae w (ak 19 t135 (.val (.int .i64 0)) w)) fun t136 w=>
 ab (ae w (ax t1)) fun t138 w=>
 ab (ae w (ag 0 t138)) fun t139 w=>
 ab (ae w (ag 5 t139)) fun t140 w=>
 ab (ae w (aj false 1 t140 w)) fun t141 w=>
 ab (ae w (aj true 2 t5 w)) fun t142 w=>
 ab (ae w (ax t1)) fun t144 w=>
 ab (ae w (ag 8 t144)) fun t145 w=>
 ab (ae w (aj false 1 t145 w)) fun t146 w=>
 ab (ae w (aN [.val (.pointer none),.val (.string ByteArray.empty),.val (.pointer none),.val (.pointer none),.val (.slice none 0 0)] [(0,1,t136),(1,1,t141),(2,2,t142),(4,1,t146)])) fun t147 w=>
 Ev Tryz.prog 87 [t0,t147] w (fun t148 w=>
 (ab (ae w (aj true 2 t5 w)) (fun y q=>y=t126∧q=w))∧(
 (ab (ae w (aj false 1 t129 w)) (fun y q=>y=t130∧q=w))∧(
 ab (aR [.val (.int .u8 0),.val (.int .i64 0),.val (.int .i64 0),.val (.int .i64 0)] w) fun t10 w=>
 (ab (ae w (aj true 2 t5 w)) (fun y q=>y=t126∧q=w))∧(
 (ab (ae w (aj false 1 t129 w)) (fun y q=>y=t130∧q=w))∧(
 (ab (ae w (aj false 1 t134 w)) (fun y q=>y=t135∧q=w))∧(
 (ab (ae w (ak 19 t135 (.val (.int .i64 0)) w)) (fun y q=>y=t136∧q=w))∧(
 (ab (ae w (aj false 1 t140 w)) (fun y q=>y=t141∧q=w))∧(
 (ab (ae w (aj true 2 t5 w)) (fun y q=>y=t142∧q=w))∧(
 (ab (ae w (aj false 1 t145 w)) (fun y q=>y=t146∧q=w))∧(
 Ev Tryz.prog 86 [t0,t126,t130,t148] w (fun t149 w=>
 ab (aG (az 4 t10 t149 w)) fun _ w=>
 j1 [(0,t0),(1,t1),(5,t5),(6,t6),(10,t10)] w
 ) kp)))))))))) kp)∧(
 ab (ae w (aj true 2 t5 w)) fun t126 w=>
 ab (ae w (ax t1)) fun t128 w=>
 ab (ae w (ag 7 t128)) fun t129 w=>
 ab (ae w (aj false 1 t129 w)) fun t130 w=>
 ab (ae w (ax t1)) fun t133 w=>
 ab (ae w (ag 18 t133)) fun t134 w=>
 ab (ae w (aj false 1 t134 w)) fun t135 w=>
 ab (ae w (ak 19 t135 (.val (.int .i64 0)) w)) fun t136 w=>
 ab (ae w (ax t1)) fun t138 w=>
 ab (ae w (ag 0 t138)) fun t139 w=>
 ab (ae w (ag 5 t139)) fun t140 w=>
 ab (ae w (aj false 1 t140 w)) fun t141 w=>
 ab (ae w (aj true 2 t5 w)) fun t142 w=>
 ab (ae w (ax t1)) fun t144 w=>
 ab (ae w (ag 8 t144)) fun t145 w=>
 ab (ae w (aj false 1 t145 w)) fun t146 w=>
 ab (ae w (aN [.val (.pointer none),.val (.string ByteArray.empty),.val (.pointer none),.val (.pointer none),.val (.slice none 0 0)] [(0,1,t136),(1,1,t141),(2,2,t142),(4,1,t146)])) fun t147 w=>
 ab (aR [.val (.int .u8 0),.val (.int .i64 0),.val (.int .i64 0),.val (.int .i64 0)] w) fun t10 w=>
 (ab (ae w (aj true 2 t5 w)) (fun y q=>y=t126∧q=w))∧(
 (ab (ae w (aj false 1 t129 w)) (fun y q=>y=t130∧q=w))∧(
 (ab (ae w (aj false 1 t134 w)) (fun y q=>y=t135∧q=w))∧(
 (ab (ae w (ak 19 t135 (.val (.int .i64 0)) w)) (fun y q=>y=t136∧q=w))∧(
 (ab (ae w (aj false 1 t140 w)) (fun y q=>y=t141∧q=w))∧(
 (ab (ae w (aj true 2 t5 w)) (fun y q=>y=t142∧q=w))∧(
 (ab (ae w (aj false 1 t145 w)) (fun y q=>y=t146∧q=w))∧(
 Ev Tryz.prog 87 [t0,t147] w (fun t148 w=>
 (ab (ae w (aj true 2 t5 w)) (fun y q=>y=t126∧q=w))∧(
 (ab (ae w (aj false 1 t129 w)) (fun y q=>y=t130∧q=w))∧(
 Ev Tryz.prog 86 [t0,t126,t130,t148] w (fun t149 w=>
 ab (aG (az 4 t10 t149 w)) fun _ w=>
 j1 [(0,t0),(1,t1),(5,t5),(6,t6),(10,t10)] w
 ) kp))) kp)))))))))))
 ) (
 ab (ae w (aj true 2 t5 w)) fun t180 w=>
 Ev Tryz.prog 89 [t0,t1,t180] w (fun t181 w=>
 ab (aG (az 9 t6 t181 w)) fun _ w=>
 aW (aj true 9 t6 w) fun r0=>
 k r0 w
 ) kp)
 )
 )
 )
 )
 ) kp)
theorem EI (h:F43 t0 t1 t2 w k kp):Ev Tryz.prog 43 [t0,t1,t2] w k kp:=evF mixed Tryz.func43 [(0,[0,1,5,6]),(1,[0,1,5,6,16]),(2,[0,1,5,6,7,8]),(3,[0,1,5,6,7]),(4,[1,5,6,7]),(2004,[0,1,2,3,4,5,6,7,8,9,10,11,12]),(5,[6]),(2005,[0,1,2,3,4,5,6,7,8,9,10,11,12,13]),(105011,[3,4]),(6,[0,1,5,6]),(7,[0,1,5,6,58]),(8,[0,1,5,6,58,59]),(9,[6]),(10,[0,1,5,6,58,68]),(11,[6,9]),(2011,[0,1,2,3,4,5,6,7]),(12,[6,9]),(13,[6]),(14,[0,1,5,6,58,92]),(15,[6]),(16,[0,1,5,6,58,99]),(17,[6]),(2017,[0,1,2,3,4,5,6,7,8,9,10,11,12,13,14,15,16,17,18,19,20,21,22]),(117019,[1,5]),(18,[0,1,5,6,123]),(3021,[0,1,5,6,10]),(19,[0,1,5,6,10]),(2019,[0,1,2,3,4,5,6,7,8,9,10,11,12,13,14,15,16,17,18,19,20,21,22,23,24,25,26]),(119023,[1,5]),(119025,[1,5,10,11,16,17,21]),(60019,[1,2]),(19000019,[0,1,2,3,4,5,6,7,8,9,10,11,12,13,14,15,16,17,18,19,20,21,22,23,25,24,26]),(10019023,[1,5]),(10019025,[1,5,10,11,16,17,21]),(29000019,[0,1,2,3,4,5,6,7,8,9,10,11,12,13,14,15,16,17,18,19,20,21,22,25,23,24,26]),(20019023,[1,5]),(20019025,[1,5,10,11,16,17,21]),(20,[0,1,5,6]),(2020,[0,1,2,3,4,5,6,7,8]),(21,[1,5,6]),(2021,[0,1,2,3,4,5,6,7,8,9,10,11,12,13]),(22,[6]),(2022,[0,1,2,3,4,5,6,7]),(23,[6])] (by kernel_rfl) (by kernel_rfl) h
def F44 (t0 t1:AV) (w:ah) (k kp:AV→ah→Prop):Prop:=
 ab (bq t1 w) fun t3 w=>
 ab (aR [.val (.pointer none),.val (.pointer none),.val (.pointer none),.val (.int .u8 0),.val (.int .i64 0),.val (.int .i64 0),.val (.int .i64 0),.val (.bool false),.val (.string ByteArray.empty)] w) fun t4 w=>
 bk (fun fr w=>(
 ab (ae w (aj true 9 (aa fr 3) w)) fun t63 w=>
 ab (aG (az 9 (aa fr 4) t63 w)) fun _ w=>
 aW (aj true 9 (aa fr 4) w) fun r0=>
 k (.tup [r0,(.val (.bool false))]) w
 )) (fun j1=>(
 bj (fun fr w again=>(
 ab (ae w (ax (aa fr 0))) fun t8 w=>
 ab (ae w (ag 4 t8)) fun t9 w=>
 ab (ae w (aj false 1 t9 w)) fun t10 w=>
 ab (ae w (aE .slice t10 w)) fun t11 w=>
 ab (ae w (ar .gtr .prim t11 (.val (.int .i64 0)))) fun t12 w=>
 ay t12 (
 Ev Tryz.prog 90 [(aa fr 0)] w (fun t14 w=>
 ab (aR [.val (.pointer none),.val (.pointer none),.val (.pointer none),.val (.slice none 0 0)] w) fun t6 w=>
 ab (aG (az 4 t6 t14 w)) fun _ w=>
 bk (fun fr w=>(
 ab (ae w (ag 0 (aa fr 6))) fun t27 w=>
 ab (ae w (aj false 1 t27 w)) fun t28 w=>
 ab (ae w (ax t28)) fun t29 w=>
 ab (ae w (ag 0 t29)) fun t30 w=>
 ab (ae w (ag 0 t30)) fun t31 w=>
 ab (ae w (aj false 1 t31 w)) fun t32 w=>
 ab (ae w (ar .eql .prim t32 (.val (.int .u8 16)))) fun t33 w=>
 gK t33 true (fun K=>ab (ae w (ag 0 (aa fr 6))) K) (fun t35 w=>
 gK t33 true (fun K=>ab (ae w (aj false 1 t35 w)) K) (fun t36 w=>
 gK t33 true (fun K=>ab (ae w (ax t36)) K) (fun t37 w=>
 gK t33 true (fun K=>ab (ae w (ag 0 t37)) K) (fun t38 w=>
 gK t33 true (fun K=>ab (ae w (ag 6 t38)) K) (fun t39 w=>
 gK t33 true (fun K=>ab (ae w (aj false 1 t39 w)) K) (fun t40 w=>
 gK t33 true (fun K=>ab (ae w (ag 8 (aa fr 3))) K) (fun t41 w=>
 gK t33 true (fun K=>ab (ae w (aj false 1 t41 w)) K) (fun t42 w=>
 gK t33 true (fun K=>ab (ae w (ar .eql .prim t40 t42)) K) (fun t43 w=>
 ab (ae w (aF t33 t43 (.val (.bool false)))) fun t44 w=>
 ay t44 (
 ab (ae w (ag 0 (aa fr 6))) fun t45 w=>
 ab (ae w (aj false 1 t45 w)) fun t46 w=>
 ab (ae w (ax t46)) fun t47 w=>
 ab (ae w (ag 18 t47)) fun t48 w=>
 ab (ae w (aj false 1 t48 w)) fun t49 w=>
 ab (ae w (ak 19 t49 (.val (.int .i64 1)) w)) fun t50 w=>
 ab (ae w (ag 1 (aa fr 6))) fun t51 w=>
 ab (ae w (aj true 2 t51 w)) fun t52 w=>
 ab (ae w (ag 0 (aa fr 6))) fun t53 w=>
 ab (ae w (aj false 1 t53 w)) fun t54 w=>
 ab (ae w (ax t54)) fun t55 w=>
 ab (ae w (ag 0 t55)) fun t56 w=>
 ab (ae w (ag 5 t56)) fun t57 w=>
 ab (ae w (aj false 1 t57 w)) fun t58 w=>
 ab (ae w (ag 3 (aa fr 3))) fun t59 w=>
 ab (ae w (aj true 4 t59 w)) fun t60 w=>
 Ev Tryz.prog 88 [t52,t58,t60,(.val (.bool false))] w (fun t61 w=>
 (ab (ae w (aj false 1 t45 w)) (fun y q=>y=t46∧q=w))∧(
 (ab (ae w (aj false 1 t48 w)) (fun y q=>y=t49∧q=w))∧(
 (ab (ae w (ak 19 t49 (.val (.int .i64 1)) w)) (fun y q=>y=t50∧q=w))∧(
 ab (ae w (aN [.val (.pointer none),.val (.pointer none),.val (.pointer none),.val (.int .u8 0),.val (.int .i64 0),.val (.int .i64 0),.val (.int .i64 0),.val (.bool false),.val (.string ByteArray.empty)] [(0,1,t50),(1,2,t61)])) fun t62 w=>
 ab (aG (az 9 (aa fr 4) t62 w)) fun _ w=>
 aW (aj true 9 (aa fr 4) w) fun r0=>
 k (.tup [r0,(.val (.bool true))]) w
 )))) kp) (
 again [(0,(aa fr 0)),(3,(aa fr 3)),(4,(aa fr 4))] w
 )
 ) w) w) w) w) w) w) w) w) w)) (fun j2=>(
 ab (ae w (ag 0 t6)) fun t15 w=>
 ab (ae w (aj false 1 t15 w)) fun t16 w=>
 ab (ae w (ax t16)) fun t17 w=>
 ab (ae w (ag 0 t17)) fun t18 w=>
 ab (ae w (ag 0 t18)) fun t19 w=>
 ab (ae w (aj false 1 t19 w)) fun t20 w=>
 ab (ae w (ar .eql .prim t20 (.val (.int .u8 17)))) fun t21 w=>
 ay t21 (
 ab (ae w (ax (aa fr 0))) fun t23 w=>
 ab (ae w (ag 0 t23)) fun t24 w=>
 ab (ae w (aj false 1 t24 w)) fun t25 w=>
 Ev Tryz.prog 91 [t25] w (fun t26 w=>
 j2 [(0,(aa fr 0)),(3,(aa fr 3)),(4,(aa fr 4)),(6,t6)] w
 ) kp) (
 j2 [(0,(aa fr 0)),(3,(aa fr 3)),(4,(aa fr 4)),(6,t6)] w
 )
 ))
 ) kp) (
 j1 [(3,(aa fr 3)),(4,(aa fr 4))] w
 )
 )) [(0,t0),(3,t3),(4,t4)] w
 ))
theorem EJ (h:F44 t0 t1 w k kp):Ev Tryz.prog 44 [t0,t1] w k kp:=evF mixed Tryz.func44 [(0,[0,3,4]),(3008,[3,4]),(1,[0,3,4,12]),(2,[0,3,4,6]),(3006,[0,3,4,6]),(3,[0,3,4,6,21]),(4,[0,3,4,6]),(5,[0,3,4,6,44]),(2005,[0,1,2,3,4,5,6,7,8,9,10,11,12,13,14,15,16,17]),(6,[4,5]),(2006,[0,1,2,3,4,5,6,7,8,9,10,11,12,13,14,15,16,17,18,19]),(106016,[1,4,5]),(1001,[0,3,4]),(7,[4,5])] (by kernel_rfl) (by kernel_rfl) h
def F45 (t0 t1:AV) (w:ah) (k kp:AV→ah→Prop):Prop:=
 ab (aR [.val (.int .u8 0),.val (.bool false),.val (.int .i64 0),.val (.string ByteArray.empty)] w) fun t4 w=>
 ab (ae w (aN [.val (.int .u8 0),.val (.bool false),.val (.int .i64 0),.val (.string ByteArray.empty)] [(0,1,(.val (.int .u8 2))),(2,1,t1),(3,1,t0)])) fun t7 w=>
 ab (aG (az 4 t4 t7 w)) fun _ w=>
 aW (aj true 4 t4 w) fun r0=>
 k r0 w
theorem EK (h:F45 t0 t1 w k kp):Ev Tryz.prog 45 [t0,t1] w k kp:=evF mixed Tryz.func45 [(0,[0,1,4]),(1,[4])] (by kernel_rfl) (by kernel_rfl) h
def F46 (t0:AV) (w:ah) (k kp:AV→ah→Prop):Prop:=
 ab (aR [.val (.int .u8 0),.val (.bool false),.val (.int .i64 0),.val (.string ByteArray.empty)] w) fun t2 w=>
 ab (ae w (aN [.val (.int .u8 0),.val (.bool false),.val (.int .i64 0),.val (.string ByteArray.empty)] [(0,1,(.val (.int .u8 1))),(1,1,(.val (.bool true))),(2,1,t0)])) fun t4 w=>
 ab (aG (az 4 t2 t4 w)) fun _ w=>
 aW (aj true 4 t2 w) fun r0=>
 k r0 w
theorem EL (h:F46 t0 w k kp):Ev Tryz.prog 46 [t0] w k kp:=evF mixed Tryz.func46 [(0,[0,2]),(1,[2])] (by kernel_rfl) (by kernel_rfl) h
def F47 (w:ah) (k kp:AV→ah→Prop):Prop:=
 ab (aR [.val (.int .u8 0),.val (.bool false),.val (.int .i64 0),.val (.string ByteArray.empty)] w) fun t0 w=>
 ab (ae w (aN [.val (.int .u8 0),.val (.bool false),.val (.int .i64 0),.val (.string ByteArray.empty)] [(0,1,(.val (.int .u8 1)))])) fun t1 w=>
 ab (aG (az 4 t0 t1 w)) fun _ w=>
 aW (aj true 4 t0 w) fun r0=>
 k r0 w
theorem EM (h:F47 w k kp):Ev Tryz.prog 47 [] w k kp:=evF mixed Tryz.func47 [(0,[0]),(1,[0])] (by kernel_rfl) (by kernel_rfl) h
def F48 (t0 t1:AV) (w:ah) (k kp:AV→ah→Prop):Prop:=
 ab (bq t1 w) fun t3 w=>
 ab (aR [.val (.pointer none),.val (.pointer none),.val (.pointer none),.val (.int .u8 0),.val (.int .i64 0),.val (.int .i64 0),.val (.int .i64 0),.val (.bool false),.val (.string ByteArray.empty)] w) fun t4 w=>
 Ev Tryz.prog 92 [t0] w (fun t11 w=>
 ab (ae w (ax t11)) fun t14 w=>
 ab (ae w (ag 3 t14)) fun t15 w=>
 ab (ae w (aj false 1 t15 w)) fun t16 w=>
 ab (ae w (aj true 4 t3 w)) fun t17 w=>
 ab (ae w (aV 1 4 [.val (.int .u8 0),.val (.int .i64 0),.val (.int .i64 0),.val (.int .i64 0)] [(0,t17)])) fun t18 w=>
 ab (aY 4 32 t16 t18 w) fun t19 w=>
 ab (ae w (ax t11)) fun t20 w=>
 ab (ae w (ag 3 t20)) fun t21 w=>
 ab (aG (az 1 t21 t19 w)) fun _ w=>
 ab (ae w (ax t11)) fun t23 w=>
 ab (ae w (ag 0 t23)) fun t24 w=>
 ab (ae w (aj false 1 t24 w)) fun t25 w=>
 ab (ae w (ax t11)) fun t27 w=>
 ab (ae w (ag 3 t27)) fun t28 w=>
 ab (ae w (aj false 1 t28 w)) fun t29 w=>
 ab (ae w (aE .slice t29 w)) fun t30 w=>
 ab (ae w (ax t25)) fun t32 w=>
 ab (ae w (ag 0 t32)) fun t33 w=>
 ab (ae w (ag 0 t33)) fun t34 w=>
 ab (ae w (aj false 1 t34 w)) fun t35 w=>
 ab (ae w (ar .eql .prim t35 (.val (.int .u8 17)))) fun t37 w=>
 ay t37 (
 Ev Tryz.prog 90 [t0] w (fun t39 w=>
 ab (ae w (ax t0)) fun t41 w=>
 ab (ae w (ag 0 t41)) fun t42 w=>
 ab (ae w (aj false 1 t42 w)) fun t43 w=>
 Ev Tryz.prog 91 [t43] w (fun t44 w=>
 ab (ae w (aj true 4 t3 w)) fun t45 w=>
 Ev Tryz.prog 82 [t45] w (fun t46 w=>
 ab (aG (az 9 t4 t46 w)) fun _ w=>
 aW (aj true 9 t4 w) fun r0=>
 k r0 w
 ) kp) kp) kp) (
 ab (ae w (ar .eql .prim t35 (.val (.int .u8 16)))) fun t48 w=>
 ay t48 (
 Ev Tryz.prog 90 [t0] w (fun t50 w=>
 ab (ae w (aj true 4 t3 w)) fun t51 w=>
 Ev Tryz.prog 82 [t51] w (fun t52 w=>
 ab (aG (az 9 t4 t52 w)) fun _ w=>
 aW (aj true 9 t4 w) fun r0=>
 k r0 w
 ) kp) kp) (
 ab (ae w (ar .eql .prim t35 (.val (.int .u8 12)))) fun t54 w=>
 ay t54 (
 Ev Tryz.prog 90 [t0] w (fun t56 w=>
 ab (ae w (ef 1 true 2 t56)) fun t57 w=>
 ab (aR [.val (.pointer none),.val (.pointer none)] w) fun t8 w=>
 ab (aG (az 2 t8 t57 w)) fun _ w=>
 ab (ae w (ax t25)) fun t59 w=>
 ab (ae w (ag 18 t59)) fun t60 w=>
 ab (ae w (aj false 1 t60 w)) fun t61 w=>
 ab (ae w (ak 19 t61 (.val (.int .i64 1)) w)) fun t62 w=>
 ab (ae w (aj true 2 t8 w)) fun t63 w=>
 ab (ae w (ax t25)) fun t65 w=>
 ab (ae w (ag 0 t65)) fun t66 w=>
 ab (ae w (ag 4 t66)) fun t67 w=>
 ab (ae w (aj false 1 t67 w)) fun t68 w=>
 ab (ae w (aj true 4 t3 w)) fun t69 w=>
 Ev Tryz.prog 88 [t63,t68,t69,(.val (.bool false))] w (fun t70 w=>
 (ab (ae w (aj false 1 t60 w)) (fun y q=>y=t61∧q=w))∧(
 (ab (ae w (ak 19 t61 (.val (.int .i64 1)) w)) (fun y q=>y=t62∧q=w))∧(
 ab (ae w (aN [.val (.pointer none),.val (.pointer none),.val (.pointer none),.val (.int .u8 0),.val (.int .i64 0),.val (.int .i64 0),.val (.int .i64 0),.val (.bool false),.val (.string ByteArray.empty)] [(0,1,t62),(1,2,t70)])) fun t71 w=>
 ab (aG (az 9 t4 t71 w)) fun _ w=>
 aW (aj true 9 t4 w) fun r0=>
 k r0 w
 ))) kp) kp) (
 ab (ae w (ar .eql .prim t35 (.val (.int .u8 14)))) fun t73 w=>
 ay t73 (
 Ev Tryz.prog 90 [t0] w (fun t75 w=>
 ab (ae w (ef 1 true 2 t75)) fun t76 w=>
 ab (aR [.val (.pointer none),.val (.pointer none)] w) fun t9 w=>
 ab (aG (az 2 t9 t76 w)) fun _ w=>
 ab (ae w (aj true 4 t3 w)) fun t77 w=>
 Ev Tryz.prog 93 [t77] w (fun t78 w=>
 ab (ae w (ar .neq .prim t78 (.val (.int .i64 0)))) fun t79 w=>
 ay t79 (
 ab (ae w (ax t25)) fun t81 w=>
 ab (ae w (ag 18 t81)) fun t82 w=>
 ab (ae w (aj false 1 t82 w)) fun t83 w=>
 ab (ae w (ak 19 t83 (.val (.int .i64 1)) w)) fun t84 w=>
 ab (ae w (aj true 2 t9 w)) fun t85 w=>
 ab (ae w (aN [.val (.pointer none),.val (.pointer none),.val (.pointer none),.val (.int .u8 0),.val (.int .i64 0),.val (.int .i64 0),.val (.int .i64 0),.val (.bool false),.val (.string ByteArray.empty)] [(0,1,t84),(1,2,t85)])) fun t86 w=>
 ab (aG (az 9 t4 t86 w)) fun _ w=>
 aW (aj true 9 t4 w) fun r0=>
 k r0 w
 ) (
 ab (ae w (ax t25)) fun t88 w=>
 ab (ae w (ag 18 t88)) fun t89 w=>
 ab (ae w (aj false 1 t89 w)) fun t90 w=>
 ab (ae w (ak 19 t90 (.val (.int .i64 2)) w)) fun t91 w=>
 ab (ae w (aj true 2 t9 w)) fun t92 w=>
 ab (ae w (aN [.val (.pointer none),.val (.pointer none),.val (.pointer none),.val (.int .u8 0),.val (.int .i64 0),.val (.int .i64 0),.val (.int .i64 0),.val (.bool false),.val (.string ByteArray.empty)] [(0,1,t91),(1,2,t92)])) fun t93 w=>
 ab (aG (az 9 t4 t93 w)) fun _ w=>
 aW (aj true 9 t4 w) fun r0=>
 k r0 w
 )
 ) kp) kp) (
 ab (ae w (ax t25)) fun t96 w=>
 ab (ae w (ag 18 t96)) fun t97 w=>
 ab (ae w (aj false 1 t97 w)) fun t98 w=>
 ab (ae w (aE .slice t98 w)) fun t99 w=>
 ab (ae w (ar .lss .prim t30 t99)) fun t100 w=>
 ay t100 (
 ab (ae w (ax t25)) fun t102 w=>
 ab (ae w (ag 18 t102)) fun t103 w=>
 ab (ae w (aj false 1 t103 w)) fun t104 w=>
 ab (ae w (ak 19 t104 t30 w)) fun t106 w=>
 ab (ae w (ax t11)) fun t108 w=>
 ab (ae w (ag 1 t108)) fun t109 w=>
 ab (ae w (aj true 2 t109 w)) fun t110 w=>
 ab (ae w (aN [.val (.pointer none),.val (.pointer none),.val (.pointer none),.val (.int .u8 0),.val (.int .i64 0),.val (.int .i64 0),.val (.int .i64 0),.val (.bool false),.val (.string ByteArray.empty)] [(0,1,t106),(1,2,t110)])) fun t111 w=>
 ab (aG (az 9 t4 t111 w)) fun _ w=>
 aW (aj true 9 t4 w) fun r0=>
 k r0 w
 ) (
 Ev Tryz.prog 90 [t0] w (fun t114 w=>
 Ev Tryz.prog 94 [t0,t114] w (fun t115 w=>
 ab (aG (az 9 t4 t115 w)) fun _ w=>
 aW (aj true 9 t4 w) fun r0=>
 k r0 w
 ) kp) kp)
 )
 )
 )
 )) kp
theorem EN (h:F48 t0 t1 w k kp):Ev Tryz.prog 48 [t0,t1] w k kp:=evF mixed Tryz.func48 [(0,[0,3,4]),(1,[0,3,4,5]),(2,[0,3,4,5]),(2002,[0,1,2,3,4,5,6,7,8,9,10]),(3,[0,3,4,5,6,7]),(2003,[0,1,2,3,4,5,6,7,8,9,10]),(4,[0,3,4,5,6,7,35]),(5,[0,3,4,5,6,7,35,36]),(6,[0,3,4]),(7,[3,4]),(8,[4]),(9,[0,3,4,5,6,7,35,47]),(10,[3,4]),(11,[4]),(12,[0,3,4,5,6,7,35,53]),(13,[3,4,6,8]),(14,[4]),(2014,[0,1,2,3,4,5,6,7,8,9,10,11,12,13,14]),(114012,[3,4]),(15,[0,3,4,5,6,7,72]),(16,[3,4,6,9]),(17,[4,6,9,79]),(18,[4]),(2018,[0,1,2,3,4,5,6,7]),(19,[4]),(2019,[0,1,2,3,4,5,6,7]),(20,[0,4,5,6,7,100]),(21,[4]),(2021,[0,1,2,3,4,5,6,7,8,9,10,11]),(22,[4])] (by kernel_rfl) (by kernel_rfl) h
def F78 (t0:AV) (w:ah) (k kp:AV→ah→Prop):Prop:=
 ab (ae w (ar .eql .ptr t0 (.val (.pointer Option.none)))) fun t6 w=>
 gK t6 false (fun K=>K t0 w) (fun t8 w=>
 gK t6 false (fun K=>ab (ae w (ax t8)) K) (fun t9 w=>
 gK t6 false (fun K=>ab (ae w (ag 3 t9)) K) (fun t10 w=>
 gK t6 false (fun K=>ab (ae w (aj false 1 t10 w)) K) (fun t11 w=>
 gK t6 false (fun K=>ab (ae w (aE .slice t11 w)) K) (fun t12 w=>
 gK t6 false (fun K=>K t0 w) (fun t13 w=>
 gK t6 false (fun K=>ab (ae w (ax t13)) K) (fun t14 w=>
 gK t6 false (fun K=>ab (ae w (ag 0 t14)) K) (fun t15 w=>
 gK t6 false (fun K=>ab (ae w (ag 0 t15)) K) (fun t16 w=>
 gK t6 false (fun K=>ab (ae w (aj false 1 t16 w)) K) (fun t17 w=>
 gK t6 false (fun K=>ab (ae w (ar .geq .prim t12 t17)) K) (fun t18 w=>
 ab (ae w (aF t6 (.val (.bool true)) t18)) fun t19 w=>
 ay t19 (
 k (.tup [(.val (.int .i64 0)),(.val (.bool false))]) w
 ) (
 ab (ae w (ax t0)) fun t21 w=>
 ab (ae w (ag 4 t21)) fun t22 w=>
 ab (ae w (aj false 1 t22 w)) fun t23 w=>
 ab (ae w (ax t0)) fun t25 w=>
 ab (ae w (ag 4 t25)) fun t26 w=>
 ab (ae w (aj false 1 t26 w)) fun t27 w=>
 ab (ae w (ar .add .prim t27 (.val (.int .i64 1)))) fun t28 w=>
 ab (ae w (ax t0)) fun t29 w=>
 ab (ae w (ag 4 t29)) fun t30 w=>
 ab (aG (az 1 t30 t28 w)) fun _ w=>
 ab (ae w (ax t0)) fun t33 w=>
 ab (ae w (ag 3 t33)) fun t34 w=>
 ab (ae w (aj false 1 t34 w)) fun t35 w=>
 ab (aK 1 1 [.val (.int .i64 0)] [(0,t23)] w) fun t37 w=>
 ab (aY 1 8 t35 t37 w) fun t38 w=>
 ab (ae w (ax t0)) fun t39 w=>
 ab (ae w (ag 3 t39)) fun t40 w=>
 ab (aG (az 1 t40 t38 w)) fun _ w=>
 ab (ae w (ax t0)) fun t42 w=>
 ab (ae w (ag 2 t42)) fun t43 w=>
 ab (ae w (aj false 1 t43 w)) fun t44 w=>
 ab (aG (cX (.int .i64) t44 t23 (.val (.slice Option.none 0 0)) w)) fun _ w=>
 k (.tup [t23,(.val (.bool true))]) w
 )) w) w) w) w) w) w) w) w) w) w) w
theorem E6 (h:F78 t0 w k kp):Ev Tryz.prog 78 [t0] w k kp:=evF mixed Tryz.func78 [(0,[0]),(1,[0,19]),(2001,[0,1,2,3,4,5,6,7,8,9,10,11,12,13,14]),(2,[2,3]),(3,[0,4]),(4,[0,4]),(5,[0,4]),(6,[4]),(7,[2,3])] (by kernel_rfl) (by kernel_rfl) h
def F79 (t0 t1:AV) (w:ah) (k kp:AV→ah→Prop):Prop:=
 ab (ae w (bC t0)) fun t5 w=>
 ay t5 (
 ab (ae w (aN [.val (.int .u8 0)] [(0,1,t1)])) fun t7 w=>
 ab (some (.iface 102 t7,w)) fun t8 w=>
 oT t8 w kp
 ) (
 k (.tup []) w
 )
theorem E7 (h:F79 t0 t1 w k kp):Ev Tryz.prog 79 [t0,t1] w k kp:=evF mixed Tryz.func79 [(0,[1,5]),(1,[])] (by kernel_rfl) (by kernel_rfl) h
def F80 (t0 t1 t2:AV) (w:ah) (k kp:AV→ah→Prop):Prop:=
 ab (bq t0 w) fun t3 w=>
 ab (aR [.val (.pointer none),.val (.pointer none)] w) fun t6 w=>
 ab (ae w (ag 1 t3)) fun t9 w=>
 ab (ae w (aj false 1 t9 w)) fun t10 w=>
 ab (ae w (aN [.val (.int .i64 0),.val (.int .i64 0),.val (.pointer none)] [(0,1,t1),(1,1,t2),(2,1,t10)])) fun t11 w=>
 ab (bq t11 w) fun t12 w=>
 ab (ae w (ag 1 t3)) fun t13 w=>
 ab (aG (az 1 t13 t12 w)) fun _ w=>
 ab (ae w (aj true 2 t3 w)) fun t14 w=>
 ab (aG (az 2 t6 t14 w)) fun _ w=>
 aW (aj true 2 t6 w) fun r0=>
 k r0 w
theorem E8 (h:F80 t0 t1 t2 w k kp):Ev Tryz.prog 80 [t0,t1,t2] w k kp:=evF mixed Tryz.func80 [(0,[1,2,3,6]),(1,[3,6]),(2,[6])] (by kernel_rfl) (by kernel_rfl) h
def F81 (t0:AV) (w:ah) (k kp:AV→ah→Prop):Prop:=
 ab (ae w (ax t0)) fun t3 w=>
 ab (ae w (ag 2 t3)) fun t4 w=>
 ab (ae w (aj false 1 t4 w)) fun t5 w=>
 ab (ae w (ax t0)) fun t7 w=>
 ab (ae w (ag 1 t7)) fun t8 w=>
 ab (ae w (aj false 1 t8 w)) fun t9 w=>
 ab (ae w (ar .lss .prim t5 t9)) fun t10 w=>
 Ev Tryz.prog 79 [t10,(.val (.int .u8 3))] w (fun t11 w=>
 ab (ae w (ax t0)) fun t13 w=>
 ab (ae w (ag 2 t13)) fun t14 w=>
 ab (ae w (aj false 1 t14 w)) fun t15 w=>
 ab (ae w (ar .add .prim t15 (.val (.int .i64 1)))) fun t16 w=>
 ab (ae w (ax t0)) fun t17 w=>
 ab (ae w (ag 2 t17)) fun t18 w=>
 ab (aG (az 1 t18 t16 w)) fun _ w=>
 k (.tup []) w) kp
theorem E9 (h:F81 t0 w k kp):Ev Tryz.prog 81 [t0] w k kp:=evF mixed Tryz.func81 [(0,[0]),(2000,[0,1,2,3,4,5,6,7,8,9]),(1,[])] (by kernel_rfl) (by kernel_rfl) h
def F82 (t0:AV) (w:ah) (k kp:AV→ah→Prop):Prop:=
 ab (bq t0 w) fun t1 w=>
 ab (aR [.val (.pointer none),.val (.pointer none),.val (.pointer none),.val (.int .u8 0),.val (.int .i64 0),.val (.int .i64 0),.val (.int .i64 0),.val (.bool false),.val (.string ByteArray.empty)] w) fun t2 w=>
 ab (ae w (aj true 4 t1 w)) fun t3 w=>
 ab (ae w (aN [.val (.pointer none),.val (.pointer none),.val (.pointer none),.val (.int .u8 0),.val (.int .i64 0),.val (.int .i64 0),.val (.int .i64 0),.val (.bool false),.val (.string ByteArray.empty)] [(3,4,t3)])) fun t4 w=>
 ab (aG (az 9 t2 t4 w)) fun _ w=>
 aW (aj true 9 t2 w) fun r0=>
 k r0 w
theorem Fa (h:F82 t0 w k kp):Ev Tryz.prog 82 [t0] w k kp:=evF mixed Tryz.func82 [(0,[1,2]),(1,[2])] (by kernel_rfl) (by kernel_rfl) h
def F83 (t0:AV) (w:ah) (k kp:AV→ah→Prop):Prop:=
 ab (aR [.val (.int .u8 0),.val (.int .i64 0),.val (.int .i64 0),.val (.int .i64 0)] w) fun t2 w=>
 ab (ae w (aN [.val (.int .u8 0),.val (.int .i64 0),.val (.int .i64 0),.val (.int .i64 0)] [(0,1,(.val (.int .u8 1))),(1,1,t0)])) fun t4 w=>
 ab (aG (az 4 t2 t4 w)) fun _ w=>
 aW (aj true 4 t2 w) fun r0=>
 k r0 w
theorem Fb (h:F83 t0 w k kp):Ev Tryz.prog 83 [t0] w k kp:=evF mixed Tryz.func83 [(0,[0,2]),(1,[2])] (by kernel_rfl) (by kernel_rfl) h
def F84 (t0 t1:AV) (w:ah) (k kp:AV→ah→Prop):Prop:=
 ab (bq t0 w) fun t2 w=>
 bk (fun fr w=>(
 k (.val (.pointer Option.none)) w
 )) (fun j1=>(
 ab (ae w (ag 0 t2)) fun t6 w=>
 ab (ae w (aj false 1 t6 w)) fun t7 w=>
 bj (fun fr w again=>(
 ab (ae w (ar .neq .ptr (aa fr 5) (.val (.pointer Option.none)))) fun t9 w=>
 ay t9 (
 ab (ae w (ax (aa fr 5))) fun t15 w=>
 ab (ae w (ag 0 t15)) fun t16 w=>
 ab (ae w (aj false 1 t16 w)) fun t17 w=>
 ab (ae w (ar .eql .prim t17 (aa fr 1))) fun t19 w=>
 ay t19 (
 k (aa fr 5) w
 ) (
 ab (ae w (ax (aa fr 5))) fun t11 w=>
 ab (ae w (ag 6 t11)) fun t12 w=>
 ab (ae w (aj false 1 t12 w)) fun t13 w=>
 again [(1,(aa fr 1)),(5,t13)] w
 )
 ) (
 j1 [(0,.any)] w
 )
 )) [(1,t1),(5,t7)] w
 ))
theorem Fc (h:F84 t0 t1 w k kp):Ev Tryz.prog 84 [t0,t1] w k kp:=evF mixed Tryz.func84 [(0,[1,2]),(3007,[0]),(1,[1,5]),(2,[1,5,9]),(4,[1,5,19]),(5,[4]),(3,[1,5]),(1002,[1,5]),(6,[4])] (by kernel_rfl) (by kernel_rfl) h
def F85 (t0 t1 t2:AV) (w:ah) (k kp:AV→ah→Prop):Prop:=
 ab (bq t2 w) fun t5 w=>
 ab (aR [.val (.int .u8 0),.val (.int .i64 0),.val (.int .i64 0),.val (.int .i64 0)] w) fun t6 w=>
 ab (ae w (aj true 2 t5 w)) fun t14 w=>
 ab (ae w (ax t1)) fun t16 w=>
 ab (ae w (ag 0 t16)) fun t17 w=>
 ab (ae w (ag 4 t17)) fun t18 w=>
 ab (ae w (aj false 1 t18 w)) fun t19 w=>
 Ev Tryz.prog 84 [t14,t19] w (fun t20 w=>
 ab (ae w (ar .neq .ptr t20 (.val (.pointer Option.none)))) fun t22 w=>
 gK t22 true (fun K=>K t20 w) (fun t24 w=>
 gK t22 true (fun K=>ab (ae w (ax t24)) K) (fun t25 w=>
 gK t22 true (fun K=>ab (ae w (ag 5 t25)) K) (fun t26 w=>
 gK t22 true (fun K=>ab (ae w (aj false 1 t26 w)) K) (fun t27 w=>
 ab (ae w (aF t22 t27 (.val (.bool false)))) fun t28 w=>
 Ev Tryz.prog 79 [t28,(.val (.int .u8 6))] w (fun t29 w=>
 bk (fun fr w=>(
 ab (ae w (ag 4 (aa fr 8))) fun t43 w=>
 ab (ae w (aj false 1 t43 w)) fun t44 w=>
 ab (ae w (aE .slice t44 w)) fun t45 w=>
 ab (ae w (ax (aa fr 1))) fun t47 w=>
 ab (ae w (ag 8 t47)) fun t48 w=>
 ab (ae w (aj false 1 t48 w)) fun t49 w=>
 ab (ae w (aE .slice t49 w)) fun t50 w=>
 ab (ae w (ar .eql .prim t45 t50)) fun t51 w=>
 Ev Tryz.prog 79 [t51,(.val (.int .u8 6))] w (fun t52 w=>
 ab (ae w (ag 2 (aa fr 8))) fun t53 w=>
 ab (ae w (aj true 2 t53 w)) fun t54 w=>
 ab (aR [.val (.pointer none),.val (.pointer none)] w) fun t9 w=>
 ab (aG (az 2 t9 t54 w)) fun _ w=>
 bk (fun fr w=>(
 ab (ae w (aj true 2 (aa fr 5) w)) fun t83 w=>
 ab (ae w (ax (aa fr 1))) fun t85 w=>
 ab (ae w (ag 7 t85)) fun t86 w=>
 ab (ae w (aj false 1 t86 w)) fun t87 w=>
 ab (ae w (ag 0 (aa fr 8))) fun t89 w=>
 ab (ae w (aj false 1 t89 w)) fun t90 w=>
 ab (ae w (ag 1 (aa fr 8))) fun t91 w=>
 ab (ae w (aj false 1 t91 w)) fun t92 w=>
 ab (ae w (aj true 2 (aa fr 9) w)) fun t93 w=>
 ab (ae w (aN [.val (.pointer none),.val (.string ByteArray.empty),.val (.pointer none),.val (.pointer none),.val (.slice none 0 0)] [(0,1,t90),(1,1,t92),(2,2,t93),(4,1,(.val (.slice Option.none 0 0)))])) fun t94 w=>
 Ev Tryz.prog 87 [(aa fr 0),t94] w (fun t95 w=>
 (ab (ae w (aj true 2 (aa fr 5) w)) (fun y q=>y=t83∧q=w))∧(
 (ab (ae w (aj false 1 t86 w)) (fun y q=>y=t87∧q=w))∧(
 Ev Tryz.prog 86 [(aa fr 0),t83,t87,t95] w (fun t96 w=>
 ab (aG (az 4 (aa fr 6) t96 w)) fun _ w=>
 aW (aj true 4 (aa fr 6) w) fun r0=>
 k r0 w
 ) kp))) kp)) (fun j2=>(
 ab (ae w (ax (aa fr 1))) fun t56 w=>
 ab (ae w (ag 8 t56)) fun t57 w=>
 ab (ae w (aj false 1 t57 w)) fun t58 w=>
 ab (ae w (aE .slice t58 w)) fun t59 w=>
 bj (fun fr w again=>(
 ab (ae w (ar .lss .prim (aa fr 60) (aa fr 59))) fun t61 w=>
 ay t61 (
 ab (ae w (ak 1 (aa fr 58) (aa fr 60) w)) fun t63 w=>
 ab (ae w (aj false 1 t63 w)) fun t64 w=>
 ab (ae w (aj true 2 (aa fr 5) w)) fun t66 w=>
 Ev Tryz.prog 124 [t66,t64] w (fun t68 w=>
 ab (ae w (bc 0 t68)) fun t69 w=>
 ab (ae w (bc 1 t68)) fun t70 w=>
 Ev Tryz.prog 79 [t70,(.val (.int .u8 5))] w (fun t72 w=>
 ab (ae w (aj true 2 (aa fr 9) w)) fun t73 w=>
 ab (ae w (ag 4 (aa fr 8))) fun t74 w=>
 ab (ae w (aj false 1 t74 w)) fun t75 w=>
 ab (ae w (ak 1 t75 (aa fr 60) w)) fun t77 w=>
 ab (ae w (aj false 1 t77 w)) fun t78 w=>
 Ev Tryz.prog 80 [t73,t78,t69] w (fun t80 w=>
 ab (aG (az 2 (aa fr 9) t80 w)) fun _ w=>
 ab (ae w (ar .add .prim (aa fr 60) (.val (.int .i64 1)))) fun t81 w=>
 again [(0,(aa fr 0)),(1,(aa fr 1)),(5,(aa fr 5)),(6,(aa fr 6)),(8,(aa fr 8)),(9,(aa fr 9)),(58,(aa fr 58)),(59,(aa fr 59)),(60,t81)] w
 ) kp) kp) kp) (
 j2 [(0,(aa fr 0)),(1,(aa fr 1)),(5,(aa fr 5)),(6,(aa fr 6)),(8,(aa fr 8)),(9,(aa fr 9))] w
 )
 )) [(0,(aa fr 0)),(1,(aa fr 1)),(5,(aa fr 5)),(6,(aa fr 6)),(8,(aa fr 8)),(9,t9),(58,t58),(59,t59),(60,(.val (.int .i64 0)))] w
 ))
 ) kp)) (fun j1=>(
 (
 ab (ae w (ax t0)) fun t31 w=>
 ab (ae w (ag 3 t31)) fun t32 w=>
 ab (ae w (aj false 1 t32 w)) fun t33 w=>
 ab (ae w (ax t20)) fun t36 w=>
 ab (ae w (ag 1 t36)) fun t37 w=>
 ab (ae w (aj true 4 t37 w)) fun t38 w=>
 Ev Tryz.prog 123 [t0,t38,(.val (.int .u8 3))] w (fun t39 w=>
 (ab (ae w (aj false 1 t32 w)) (fun y q=>y=t33∧q=w))∧(
 ab (ae w (ef 9 false 1 t39)) fun t40 w=>
 ab (ae w (ak 5 t33 t40 w)) fun t41 w=>
 ab (ae w (aj true 5 t41 w)) fun t42 w=>
 ab (aR [.val (.pointer none),.val (.string ByteArray.empty),.val (.pointer none),.val (.pointer none),.val (.slice none 0 0)] w) fun t8 w=>
 (ab (ae w (aj false 1 t32 w)) (fun y q=>y=t33∧q=w))∧(
 (ab (ae w (aj true 4 t37 w)) (fun y q=>y=t38∧q=w))∧(
 (ab (ae w (ak 5 t33 t40 w)) (fun y q=>y=t41∧q=w))∧(
 (ab (ae w (aj true 5 t41 w)) (fun y q=>y=t42∧q=w))∧(
 ab (aG (az 5 t8 t42 w)) fun _ w=>
 j1 [(0,t0),(1,t1),(5,t5),(6,t6),(8,t8)] w
 )))))) kp)∧(
 ab (ae w (ax t0)) fun t31 w=>
 ab (ae w (ag 3 t31)) fun t32 w=>
 ab (ae w (aj false 1 t32 w)) fun t33 w=>
 ab (ae w (ax t20)) fun t36 w=>
 ab (ae w (ag 1 t36)) fun t37 w=>
 ab (ae w (aj true 4 t37 w)) fun t38 w=>
 ab (aR [.val (.pointer none),.val (.string ByteArray.empty),.val (.pointer none),.val (.pointer none),.val (.slice none 0 0)] w) fun t8 w=>
 (ab (ae w (aj false 1 t32 w)) (fun y q=>y=t33∧q=w))∧(
 (ab (ae w (aj true 4 t37 w)) (fun y q=>y=t38∧q=w))∧(
 Ev Tryz.prog 123 [t0,t38,(.val (.int .u8 3))] w (fun t39 w=>
 (ab (ae w (aj false 1 t32 w)) (fun y q=>y=t33∧q=w))∧(
 ab (ae w (ef 9 false 1 t39)) fun t40 w=>
 ab (ae w (ak 5 t33 t40 w)) fun t41 w=>
 ab (ae w (aj true 5 t41 w)) fun t42 w=>
 ab (aG (az 5 t8 t42 w)) fun _ w=>
 j1 [(0,t0),(1,t1),(5,t5),(6,t6),(8,t8)] w
 )) kp)))))) kp) w) w) w) w) kp
theorem Fe (h:F85 t0 t1 t2 w k kp):Ev Tryz.prog 85 [t0,t1,t2] w k kp:=evF mixed Tryz.func85 [(0,[0,1,5,6]),(1,[0,1,5,6,7]),(2001,[0,1,2,3,4,5,6,7]),(2,[0,1,5,6,7]),(3005,[0,1,5,6,8]),(3,[0,1,5,6,8]),(2003,[0,1,2,3,4,5,6,7,8,9,10,11,12,13,14]),(103009,[3]),(103013,[3,8,11,12]),(60003,[1]),(19000003,[0,1,2,3,4,5,6,7,8,13,9,10,11,12,14]),(10003009,[3]),(10003013,[3,8]),(4,[0,1,5,6,8]),(2004,[0,1,2,3,4,5,6,7,8,9]),(5,[0,1,5,6,8,9]),(3014,[0,1,5,6,8,9]),(6,[0,1,5,6,8,9,58,59,60]),(7,[0,1,5,6,8,9,58,59,60,61]),(8,[0,1,5,6,8,9,10,11,58,59,60]),(9,[0,1,5,6,8,9,10,12,13,58,59,60]),(10,[0,1,5,6,8,9,10,12,58,59,60]),(11,[0,1,5,6,8,9,58,59,60]),(2011,[0,1,2,3,4,5,6,7,8]),(12,[0,1,5,6,8,9,58,59,60]),(1007,[0,1,5,6,8,9,58,59,60]),(13,[6]),(2013,[0,1,2,3,4,5,6,7,8,9,10,11,12,13,14,15]),(113013,[1,5])] (by kernel_rfl) (by kernel_rfl) h
def F86 (t0 t1 t2 t3:AV) (w:ah) (k kp:AV→ah→Prop):Prop:=
 ab (bq t1 w) fun t5 w=>
 ab (bq t3 w) fun t7 w=>
 ab (aR [.val (.int .u8 0),.val (.int .i64 0),.val (.int .i64 0),.val (.int .i64 0)] w) fun t8 w=>
 ab (ae w (aj true 2 t5 w)) fun t14 w=>
 Ev Tryz.prog 124 [t14,t2] w (fun t16 w=>
 ab (ae w (bc 0 t16)) fun t17 w=>
 ab (ae w (bc 1 t16)) fun t18 w=>
 gK t18 true (fun K=>K t0 w) (fun t21 w=>
 gK t18 true (fun K=>ab (ae w (ax t21)) K) (fun t22 w=>
 gK t18 true (fun K=>ab (ae w (ag 0 t22)) K) (fun t23 w=>
 gK t18 true (fun K=>ab (ae w (aj false 1 t23 w)) K) (fun t24 w=>
 gK t18 true (fun K=>K t17 w) (fun t25 w=>
 gK t18 true (fun K=>ab (aK 1 1 [.val (.int .i64 0)] [(0,t25)] w) K) (fun t26 w=>
 gK t18 true (fun K=>Ev Tryz.prog 125 [t24,t26] w K kp) (fun t27 w=>
 ab (ae w (aF t18 t27 (.val (.bool false)))) fun t28 w=>
 Ev Tryz.prog 79 [t28,(.val (.int .u8 5))] w (fun t29 w=>
 bk (fun fr w=>(
 ab (ae w (ar .eql .prim (aa fr 12) (.val (.int .i64 0)))) fun t41 w=>
 Ev Tryz.prog 79 [t41,(.val (.int .u8 4))] w (fun t42 w=>
 ab (ae w (aj true 4 (aa fr 11) w)) fun t43 w=>
 ab (aG (az 4 (aa fr 8) t43 w)) fun _ w=>
 aW (aj true 4 (aa fr 8) w) fun r0=>
 k r0 w
 ) kp)) (fun j1=>(
 (
 ab (ae w (ax t0)) fun t32 w=>
 ab (ae w (ag 0 t32)) fun t33 w=>
 ab (ae w (aj false 1 t33 w)) fun t34 w=>
 ab (ae w (aj true 10 t7 w)) fun t36 w=>
 Ev Tryz.prog 126 [t34,t17,t36] w (fun t37 w=>
 ab (ae w (bc 0 t37)) fun t38 w=>
 ab (ae w (bc 1 t37)) fun t39 w=>
 ab (aR [.val (.int .u8 0),.val (.int .i64 0),.val (.int .i64 0),.val (.int .i64 0)] w) fun t11 w=>
 (ab (ae w (aj false 1 t33 w)) (fun y q=>y=t34∧q=w))∧(
 (ab (ae w (aj true 10 t7 w)) (fun y q=>y=t36∧q=w))∧(
 ab (aG (az 4 t11 t38 w)) fun _ w=>
 j1 [(8,t8),(11,t11),(12,t39)] w
 ))) kp)∧(
 ab (ae w (ax t0)) fun t32 w=>
 ab (ae w (ag 0 t32)) fun t33 w=>
 ab (ae w (aj false 1 t33 w)) fun t34 w=>
 ab (ae w (aj true 10 t7 w)) fun t36 w=>
 ab (aR [.val (.int .u8 0),.val (.int .i64 0),.val (.int .i64 0),.val (.int .i64 0)] w) fun t11 w=>
 (ab (ae w (aj false 1 t33 w)) (fun y q=>y=t34∧q=w))∧(
 (ab (ae w (aj true 10 t7 w)) (fun y q=>y=t36∧q=w))∧(
 Ev Tryz.prog 126 [t34,t17,t36] w (fun t37 w=>
 ab (ae w (bc 0 t37)) fun t38 w=>
 ab (ae w (bc 1 t37)) fun t39 w=>
 ab (aG (az 4 t11 t38 w)) fun _ w=>
 j1 [(8,t8),(11,t11),(12,t39)] w
 ) kp)))))) kp) w) w) w) w) w) w) w) kp
theorem Ff (h:F86 t0 t1 t2 t3 w k kp):Ev Tryz.prog 86 [t0,t1,t2,t3] w k kp:=evF mixed Tryz.func86 [(0,[0,2,5,7,8]),(1,[0,7,8,9,10]),(2,[0,7,8,9]),(3005,[8,11,12]),(3,[8,11,12]),(2003,[0,1,2,3,4,5,6,7,8,9,10,11,12]),(103010,[3,5]),(60003,[1]),(19000003,[0,1,2,3,4,5,10,6,7,8,9,11,12]),(10003010,[3,5]),(4,[8,11]),(5,[8])] (by kernel_rfl) (by kernel_rfl) h
def F87 (t0 t1:AV) (w:ah) (k kp:AV→ah→Prop):Prop:=
 ab (bq t1 w) fun t3 w=>
 ab (aR [.val (.int .u8 0),.val (.int .u8 0),.val (.int .i64 0),.val (.int .i64 0),.val (.int .i64 0),.val (.int .u8 0),.val (.int .i64 0),.val (.int .i64 0),.val (.int .i64 0),.val (.int .i64 0)] w) fun t4 w=>
 ab (ae w (ax t0)) fun t7 w=>
 ab (ae w (ag 3 t7)) fun t8 w=>
 ab (ae w (aj false 1 t8 w)) fun t9 w=>
 ab (ae w (aj true 5 t3 w)) fun t10 w=>
 ab (ae w (aV 1 5 [.val (.pointer none),.val (.string ByteArray.empty),.val (.pointer none),.val (.pointer none),.val (.slice none 0 0)] [(0,t10)])) fun t11 w=>
 ab (aY 5 64 t9 t11 w) fun t12 w=>
 ab (ae w (ax t0)) fun t13 w=>
 ab (ae w (ag 3 t13)) fun t14 w=>
 ab (aG (az 1 t14 t12 w)) fun _ w=>
 ab (ae w (ax t0)) fun t16 w=>
 ab (ae w (ag 3 t16)) fun t17 w=>
 ab (ae w (aj false 1 t17 w)) fun t18 w=>
 ab (ae w (aE .slice t18 w)) fun t19 w=>
 ab (ae w (ar .sub .prim t19 (.val (.int .i64 1)))) fun t20 w=>
 ab (ae w (aN [.val (.int .u8 0),.val (.int .u8 0),.val (.int .i64 0),.val (.int .i64 0),.val (.int .i64 0),.val (.int .u8 0),.val (.int .i64 0),.val (.int .i64 0),.val (.int .i64 0),.val (.int .i64 0)] [(0,1,(.val (.int .u8 3))),(9,1,t20)])) fun t21 w=>
 ab (aG (az 10 t4 t21 w)) fun _ w=>
 aW (aj true 10 t4 w) fun r0=>
 k r0 w
theorem Fg (h:F87 t0 t1 w k kp):Ev Tryz.prog 87 [t0,t1] w k kp:=evF mixed Tryz.func87 [(0,[0,3,4]),(1,[0,4]),(2001,[0,1,2,3,4,5,6,7,8,9,10]),(2,[4])] (by kernel_rfl) (by kernel_rfl) h
def F88 (t0 t1 t2 t3:AV) (w:ah) (k kp:AV→ah→Prop):Prop:=
 ab (bq t0 w) fun t4 w=>
 ab (bq t2 w) fun t6 w=>
 ab (aR [.val (.pointer none),.val (.pointer none)] w) fun t8 w=>
 ab (ae w (aj true 4 t6 w)) fun t10 w=>
 ab (ae w (ag 0 t4)) fun t12 w=>
 ab (ae w (aj false 1 t12 w)) fun t13 w=>
 ab (ae w (aN [.val (.string ByteArray.empty),.val (.int .u8 0),.val (.int .i64 0),.val (.int .i64 0),.val (.int .i64 0),.val (.bool false),.val (.pointer none)] [(0,1,t1),(1,4,t10),(5,1,t3),(6,1,t13)])) fun t14 w=>
 ab (bq t14 w) fun t15 w=>
 ab (ae w (ag 0 t4)) fun t16 w=>
 ab (aG (az 1 t16 t15 w)) fun _ w=>
 ab (ae w (aj true 2 t4 w)) fun t17 w=>
 ab (aG (az 2 t8 t17 w)) fun _ w=>
 aW (aj true 2 t8 w) fun r0=>
 k r0 w
theorem Fh (h:F88 t0 t1 t2 t3 w k kp):Ev Tryz.prog 88 [t0,t1,t2,t3] w k kp:=evF mixed Tryz.func88 [(0,[1,3,4,6,8]),(1,[4,8]),(2,[8])] (by kernel_rfl) (by kernel_rfl) h
def F89 (t0 t1 t2:AV) (w:ah) (k kp:AV→ah→Prop):Prop:=
 ab (bq t2 w) fun t5 w=>
 ab (aR [.val (.pointer none),.val (.pointer none),.val (.pointer none),.val (.int .u8 0),.val (.int .i64 0),.val (.int .i64 0),.val (.int .i64 0),.val (.bool false),.val (.string ByteArray.empty)] w) fun t6 w=>
 ab (ae w (ax t0)) fun t9 w=>
 ab (ae w (ag 4 t9)) fun t10 w=>
 ab (ae w (aj false 1 t10 w)) fun t11 w=>
 ab (ae w (aj true 2 t5 w)) fun t13 w=>
 ab (ae w (aN [.val (.pointer none),.val (.pointer none),.val (.pointer none),.val (.slice none 0 0)] [(0,1,t1),(1,2,t13),(3,1,(.val (.slice Option.none 0 0)))])) fun t14 w=>
 ab (ae w (aV 1 4 [.val (.pointer none),.val (.pointer none),.val (.pointer none),.val (.slice none 0 0)] [(0,t14)])) fun t15 w=>
 ab (aY 4 48 t11 t15 w) fun t16 w=>
 ab (ae w (ax t0)) fun t17 w=>
 ab (ae w (ag 4 t17)) fun t18 w=>
 ab (aG (az 1 t18 t16 w)) fun _ w=>
 ab (ae w (ax t1)) fun t20 w=>
 ab (ae w (ag 18 t20)) fun t21 w=>
 ab (ae w (aj false 1 t21 w)) fun t22 w=>
 ab (ae w (ak 19 t22 (.val (.int .i64 0)) w)) fun t23 w=>
 ab (ae w (aj true 2 t5 w)) fun t24 w=>
 ab (ae w (aN [.val (.pointer none),.val (.pointer none),.val (.pointer none),.val (.int .u8 0),.val (.int .i64 0),.val (.int .i64 0),.val (.int .i64 0),.val (.bool false),.val (.string ByteArray.empty)] [(0,1,t23),(1,2,t24)])) fun t25 w=>
 ab (aG (az 9 t6 t25 w)) fun _ w=>
 aW (aj true 9 t6 w) fun r0=>
 k r0 w
theorem Fi (h:F89 t0 t1 t2 w k kp):Ev Tryz.prog 89 [t0,t1,t2] w k kp:=evF mixed Tryz.func89 [(0,[0,1,5,6]),(1,[1,5,6]),(2001,[0,1,2,3,4,5,6,7,8,9,10,11,12]),(2,[6]),(2002,[0,1,2,3,4,5,6,7])] (by kernel_rfl) (by kernel_rfl) h
def F90 (t0:AV) (w:ah) (k kp:AV→ah→Prop):Prop:=
 ab (aR [.val (.pointer none),.val (.pointer none),.val (.pointer none),.val (.slice none 0 0)] w) fun t2 w=>
 Ev Tryz.prog 92 [t0] w (fun t5 w=>
 ab (ae w (ax t5)) fun t6 w=>
 ab (ae w (aj true 4 t6 w)) fun t7 w=>
 ab (aR [.val (.pointer none),.val (.pointer none),.val (.pointer none),.val (.slice none 0 0)] w) fun t3 w=>
 ab (aG (az 4 t3 t7 w)) fun _ w=>
 ab (ae w (ax t0)) fun t10 w=>
 ab (ae w (ag 4 t10)) fun t11 w=>
 ab (ae w (aj false 1 t11 w)) fun t12 w=>
 ab (ae w (ax t0)) fun t14 w=>
 ab (ae w (ag 4 t14)) fun t15 w=>
 ab (ae w (aj false 1 t15 w)) fun t16 w=>
 ab (ae w (aE .slice t16 w)) fun t17 w=>
 ab (ae w (ar .sub .prim t17 (.val (.int .i64 1)))) fun t18 w=>
 ab (ae w (dJ 4 t12 none (some t18) none)) fun t19 w=>
 ab (ae w (ax t0)) fun t20 w=>
 ab (ae w (ag 4 t20)) fun t21 w=>
 ab (aG (az 1 t21 t19 w)) fun _ w=>
 ab (ae w (aj true 4 t3 w)) fun t22 w=>
 ab (aG (az 4 t2 t22 w)) fun _ w=>
 aW (aj true 4 t2 w) fun r0=>
 k r0 w) kp
theorem Fj (h:F90 t0 w k kp):Ev Tryz.prog 90 [t0] w k kp:=evF mixed Tryz.func90 [(0,[0,2]),(1,[0,2,3]),(2,[2,3]),(2002,[0,1,2,3,4,5,6,7,8,9,10,11,12,13,14]),(3,[2])] (by kernel_rfl) (by kernel_rfl) h
def F91 (t0:AV) (w:ah) (k kp:AV→ah→Prop):Prop:=
 ab (ae w (ar .eql .ptr t0 (.val (.pointer Option.none)))) fun t5 w=>
 gK t5 false (fun K=>K t0 w) (fun t7 w=>
 gK t5 false (fun K=>ab (ae w (ax t7)) K) (fun t8 w=>
 gK t5 false (fun K=>ab (ae w (ag 3 t8)) K) (fun t9 w=>
 gK t5 false (fun K=>ab (ae w (aj false 1 t9 w)) K) (fun t10 w=>
 gK t5 false (fun K=>ab (ae w (aE .slice t10 w)) K) (fun t11 w=>
 gK t5 false (fun K=>ab (ae w (ar .lss .prim t11 (.val (.int .i64 2)))) K) (fun t12 w=>
 ab (ae w (aF t5 (.val (.bool true)) t12)) fun t13 w=>
 ay t13 (
 k (.val (.bool false)) w
 ) (
 ab (ae w (ax t0)) fun t15 w=>
 ab (ae w (ag 3 t15)) fun t16 w=>
 ab (ae w (aj false 1 t16 w)) fun t17 w=>
 ab (ae w (ax t0)) fun t19 w=>
 ab (ae w (ag 3 t19)) fun t20 w=>
 ab (ae w (aj false 1 t20 w)) fun t21 w=>
 ab (ae w (aE .slice t21 w)) fun t22 w=>
 ab (ae w (ar .sub .prim t22 (.val (.int .i64 1)))) fun t23 w=>
 ab (ae w (ak 1 t17 t23 w)) fun t24 w=>
 ab (ae w (aj false 1 t24 w)) fun t25 w=>
 ab (ae w (ax t0)) fun t28 w=>
 ab (ae w (ag 3 t28)) fun t29 w=>
 ab (ae w (aj false 1 t29 w)) fun t30 w=>
 ab (ae w (ax t0)) fun t32 w=>
 ab (ae w (ag 3 t32)) fun t33 w=>
 ab (ae w (aj false 1 t33 w)) fun t34 w=>
 ab (ae w (aE .slice t34 w)) fun t35 w=>
 ab (ae w (ar .sub .prim t35 (.val (.int .i64 1)))) fun t36 w=>
 ab (ae w (dJ 1 t30 none (some t36) none)) fun t37 w=>
 ab (ae w (ax t0)) fun t38 w=>
 ab (ae w (ag 3 t38)) fun t39 w=>
 ab (aG (az 1 t39 t37 w)) fun _ w=>
 ab (ae w (ax t0)) fun t41 w=>
 ab (ae w (ag 5 t41)) fun t42 w=>
 ab (ae w (aj false 1 t42 w)) fun t43 w=>
 ab (ae w (ax t0)) fun t45 w=>
 ab (ae w (ag 2 t45)) fun t46 w=>
 ab (ae w (aj false 1 t46 w)) fun t47 w=>
 ab (ae w (dO (.int .i64) (.val (.slice none 0 0)) false t47 t25 w)) fun t49 w=>
 ab (ae w (aE .slice t49 w)) fun t50 w=>
 ab (ae w (ar .sub .prim t43 t50)) fun t51 w=>
 ab (ae w (ax t0)) fun t52 w=>
 ab (ae w (ag 5 t52)) fun t53 w=>
 ab (aG (az 1 t53 t51 w)) fun _ w=>
 ab (ae w (ax t0)) fun t55 w=>
 ab (ae w (ag 2 t55)) fun t56 w=>
 ab (ae w (aj false 1 t56 w)) fun t57 w=>
 ab ((eR (.int .i64) t57 t25 w).map fun w=>(.val (.tuple #[]),w)) fun _ w=>
 k (.val (.bool true)) w
 )) w) w) w) w) w) w
theorem Fk (h:F91 t0 w k kp):Ev Tryz.prog 91 [t0] w k kp:=evF mixed Tryz.func91 [(0,[0]),(1,[0,13]),(2,[2]),(3,[0,3]),(2003,[0,1,2,3,4,5,6,7,8,9,10,11,12]),(4,[0,3]),(2004,[0,1,2,3,4,5,6,7,8,9,10,11,12,13,14]),(5,[0,3]),(2005,[0,1,2,3,4,5,6,7,8,9,10,11,12,13,14]),(6,[]),(7,[2])] (by kernel_rfl) (by kernel_rfl) h
def F92 (t0:AV) (w:ah) (k kp:AV→ah→Prop):Prop:=
 ab (ae w (ax t0)) fun t4 w=>
 ab (ae w (ag 4 t4)) fun t5 w=>
 ab (ae w (aj false 1 t5 w)) fun t6 w=>
 ab (ae w (ax t0)) fun t8 w=>
 ab (ae w (ag 4 t8)) fun t9 w=>
 ab (ae w (aj false 1 t9 w)) fun t10 w=>
 ab (ae w (aE .slice t10 w)) fun t11 w=>
 ab (ae w (ar .sub .prim t11 (.val (.int .i64 1)))) fun t12 w=>
 ab (ae w (ak 4 t6 t12 w)) fun t13 w=>
 k t13 w
theorem Fl (h:F92 t0 w k kp):Ev Tryz.prog 92 [t0] w k kp:=evF mixed Tryz.func92 [(0,[0]),(1,[2]),(2001,[0,1,2,3,4,5,6,7,8,9,10,11])] (by kernel_rfl) (by kernel_rfl) h
def F93 (t0:AV) (w:ah) (k kp:AV→ah→Prop):Prop:=
 ab (bq t0 w) fun t1 w=>
 ab (ae w (ag 0 t1)) fun t3 w=>
 ab (ae w (aj false 1 t3 w)) fun t4 w=>
 ab (ae w (ar .eql .prim t4 (.val (.int .u8 1)))) fun t5 w=>
 Ev Tryz.prog 79 [t5,(.val (.int .u8 6))] w (fun t6 w=>
 ab (ae w (ag 1 t1)) fun t7 w=>
 ab (ae w (aj false 1 t7 w)) fun t8 w=>
 k t8 w) kp
theorem Fm (h:F93 t0 w k kp):Ev Tryz.prog 93 [t0] w k kp:=evF mixed Tryz.func93 [(0,[1]),(1,[1]),(2,[2])] (by kernel_rfl) (by kernel_rfl) h
def F94 (t0 t1:AV) (w:ah) (k kp:AV→ah→Prop):Prop:=
 ab (bq t1 w) fun t3 w=>
 ab (aR [.val (.pointer none),.val (.pointer none),.val (.pointer none),.val (.int .u8 0),.val (.int .i64 0),.val (.int .i64 0),.val (.int .i64 0),.val (.bool false),.val (.string ByteArray.empty)] w) fun t4 w=>
 ab (ae w (ag 0 t3)) fun t8 w=>
 ab (ae w (aj false 1 t8 w)) fun t9 w=>
 ab (ae w (ag 3 t3)) fun t10 w=>
 ab (ae w (aj false 1 t10 w)) fun t11 w=>
 ab (ae w (ax t9)) fun t13 w=>
 ab (ae w (ag 0 t13)) fun t14 w=>
 ab (ae w (ag 0 t14)) fun t15 w=>
 ab (ae w (aj false 1 t15 w)) fun t16 w=>
 ab (ae w (ar .eql .prim t16 (.val (.int .u8 3)))) fun t18 w=>
 ay t18 (
 ab (ae w (ag 1 t3)) fun t20 w=>
 ab (ae w (aj true 2 t20 w)) fun t21 w=>
 ab (ae w (ax t9)) fun t23 w=>
 ab (ae w (ag 7 t23)) fun t24 w=>
 ab (ae w (aj false 1 t24 w)) fun t25 w=>
 ab (ae w (ak 4 t11 (.val (.int .i64 0)) w)) fun t27 w=>
 ab (ae w (aj true 4 t27 w)) fun t28 w=>
 ab (ae w (ak 4 t11 (.val (.int .i64 1)) w)) fun t30 w=>
 ab (ae w (aj true 4 t30 w)) fun t31 w=>
 ab (ae w (aN [.val (.int .u8 0),.val (.int .u8 0),.val (.int .i64 0),.val (.int .i64 0),.val (.int .i64 0),.val (.int .u8 0),.val (.int .i64 0),.val (.int .i64 0),.val (.int .i64 0),.val (.int .i64 0)] [(0,1,(.val (.int .u8 1))),(1,4,t28),(5,4,t31)])) fun t32 w=>
 Ev Tryz.prog 86 [t0,t21,t25,t32] w (fun t33 w=>
 Ev Tryz.prog 82 [t33] w (fun t34 w=>
 ab (aG (az 9 t4 t34 w)) fun _ w=>
 aW (aj true 9 t4 w) fun r0=>
 k r0 w
 ) kp) kp) (
 ab (ae w (ar .eql .prim t16 (.val (.int .u8 4)))) fun t36 w=>
 ay t36 (
 ab (ae w (ak 4 t11 (.val (.int .i64 0)) w)) fun t39 w=>
 ab (ae w (aj true 4 t39 w)) fun t40 w=>
 Ev Tryz.prog 123 [t0,t40,(.val (.int .u8 1))] w (fun t41 w=>
 ab (ae w (ef 1 true 4 t41)) fun t42 w=>
 Ev Tryz.prog 82 [t42] w (fun t43 w=>
 ab (aG (az 9 t4 t43 w)) fun _ w=>
 aW (aj true 9 t4 w) fun r0=>
 k r0 w
 ) kp) kp) (
 ab (ae w (ar .eql .prim t16 (.val (.int .u8 5)))) fun t45 w=>
 ay t45 (
 ab (ae w (ak 4 t11 (.val (.int .i64 0)) w)) fun t48 w=>
 ab (ae w (aj true 4 t48 w)) fun t49 w=>
 Ev Tryz.prog 123 [t0,t49,(.val (.int .u8 1))] w (fun t50 w=>
 ab (ae w (ef 5 true 4 t50)) fun t51 w=>
 Ev Tryz.prog 82 [t51] w (fun t52 w=>
 ab (aG (az 9 t4 t52 w)) fun _ w=>
 aW (aj true 9 t4 w) fun r0=>
 k r0 w
 ) kp) kp) (
 ab (ae w (ar .eql .prim t16 (.val (.int .u8 6)))) fun t54 w=>
 ay t54 (
 ab (ae w (ag 1 t3)) fun t56 w=>
 ab (ae w (aj true 2 t56 w)) fun t57 w=>
 ab (ae w (ax t9)) fun t59 w=>
 ab (ae w (ag 7 t59)) fun t60 w=>
 ab (ae w (aj false 1 t60 w)) fun t61 w=>
 ab (ae w (ak 4 t11 (.val (.int .i64 0)) w)) fun t63 w=>
 ab (ae w (aj true 4 t63 w)) fun t64 w=>
 ab (ae w (aN [.val (.int .u8 0),.val (.int .u8 0),.val (.int .i64 0),.val (.int .i64 0),.val (.int .i64 0),.val (.int .u8 0),.val (.int .i64 0),.val (.int .i64 0),.val (.int .i64 0),.val (.int .i64 0)] [(0,1,(.val (.int .u8 2))),(1,4,t64)])) fun t65 w=>
 Ev Tryz.prog 86 [t0,t57,t61,t65] w (fun t66 w=>
 Ev Tryz.prog 82 [t66] w (fun t67 w=>
 ab (aG (az 9 t4 t67 w)) fun _ w=>
 aW (aj true 9 t4 w) fun r0=>
 k r0 w
 ) kp) kp) (
 ab (ae w (ar .eql .prim t16 (.val (.int .u8 7)))) fun t69 w=>
 ay t69 (
 ab (ae w (ak 4 t11 (.val (.int .i64 0)) w)) fun t72 w=>
 ab (ae w (aj true 4 t72 w)) fun t73 w=>
 Ev Tryz.prog 123 [t0,t73,(.val (.int .u8 2))] w (fun t74 w=>
 ab (ae w (ef 1 true 4 t74)) fun t75 w=>
 Ev Tryz.prog 82 [t75] w (fun t76 w=>
 ab (aG (az 9 t4 t76 w)) fun _ w=>
 aW (aj true 9 t4 w) fun r0=>
 k r0 w
 ) kp) kp) (
 ab (ae w (ar .eql .prim t16 (.val (.int .u8 8)))) fun t78 w=>
 ay t78 (
 ab (ae w (ak 4 t11 (.val (.int .i64 0)) w)) fun t81 w=>
 ab (ae w (aj true 4 t81 w)) fun t82 w=>
 Ev Tryz.prog 123 [t0,t82,(.val (.int .u8 2))] w (fun t83 w=>
 ab (ae w (ax t0)) fun t85 w=>
 ab (ae w (ag 0 t85)) fun t86 w=>
 ab (ae w (aj false 1 t86 w)) fun t87 w=>
 ab (ae w (ak 4 t11 (.val (.int .i64 0)) w)) fun t89 w=>
 ab (ae w (aj true 4 t89 w)) fun t90 w=>
 ab (ae w (ak 4 t11 (.val (.int .i64 1)) w)) fun t92 w=>
 ab (ae w (aj true 4 t92 w)) fun t93 w=>
 ab (ae w (aN [.val (.int .u8 0),.val (.int .u8 0),.val (.int .i64 0),.val (.int .i64 0),.val (.int .i64 0),.val (.int .u8 0),.val (.int .i64 0),.val (.int .i64 0),.val (.int .i64 0),.val (.int .i64 0)] [(0,1,(.val (.int .u8 2))),(1,4,t93)])) fun t94 w=>
 Ev Tryz.prog 127 [t87,t90,t94] w (fun t95 w=>
 Ev Tryz.prog 83 [(.val (.int .i64 0))] w (fun t96 w=>
 Ev Tryz.prog 82 [t96] w (fun t97 w=>
 ab (aG (az 9 t4 t97 w)) fun _ w=>
 aW (aj true 9 t4 w) fun r0=>
 k r0 w
 ) kp) kp) kp) kp) (
 ab (ae w (ar .eql .prim t16 (.val (.int .u8 9)))) fun t99 w=>
 ay t99 (
 ab (ae w (ax t9)) fun t101 w=>
 ab (ae w (ag 0 t101)) fun t102 w=>
 ab (ae w (ag 1 t102)) fun t103 w=>
 ab (ae w (aj false 1 t103 w)) fun t104 w=>
 ab (ae w (ak 4 t11 (.val (.int .i64 0)) w)) fun t106 w=>
 ab (ae w (aj true 4 t106 w)) fun t107 w=>
 ab (ae w (ak 4 t11 (.val (.int .i64 1)) w)) fun t110 w=>
 ab (ae w (aj true 4 t110 w)) fun t111 w=>
 Ev Tryz.prog 93 [t107] w (fun t108 w=>
 (ab (ae w (aj false 1 t103 w)) (fun y q=>y=t104∧q=w))∧(
 (ab (ae w (ak 4 t11 (.val (.int .i64 1)) w)) (fun y q=>y=t110∧q=w))∧(
 (ab (ae w (aj true 4 t110 w)) (fun y q=>y=t111∧q=w))∧(
 Ev Tryz.prog 93 [t111] w (fun t112 w=>
 (ab (ae w (aj false 1 t103 w)) (fun y q=>y=t104∧q=w))∧(
 Ev Tryz.prog 128 [t104,t108,t112] w (fun t113 w=>
 Ev Tryz.prog 83 [t113] w (fun t114 w=>
 Ev Tryz.prog 82 [t114] w (fun t115 w=>
 ab (aG (az 9 t4 t115 w)) fun _ w=>
 aW (aj true 9 t4 w) fun r0=>
 k r0 w
 ) kp) kp) kp)) kp)))) kp) (
 ab (ae w (ar .eql .prim t16 (.val (.int .u8 15)))) fun t117 w=>
 ay t117 (
 ab (ae w (ak 4 t11 (.val (.int .i64 0)) w)) fun t119 w=>
 ab (ae w (aj true 4 t119 w)) fun t120 w=>
 ab (ae w (ax t9)) fun t124 w=>
 ab (ae w (ag 0 t124)) fun t125 w=>
 ab (ae w (ag 6 t125)) fun t126 w=>
 ab (ae w (aj false 1 t126 w)) fun t127 w=>
 Ev Tryz.prog 93 [t120] w (fun t121 w=>
 (ab (ae w (aj false 1 t126 w)) (fun y q=>y=t127∧q=w))∧(
 Ev Tryz.prog 83 [t121] w (fun t122 w=>
 (ab (ae w (aj false 1 t126 w)) (fun y q=>y=t127∧q=w))∧(
 ab (ae w (aN [.val (.pointer none),.val (.pointer none),.val (.pointer none),.val (.int .u8 0),.val (.int .i64 0),.val (.int .i64 0),.val (.int .i64 0),.val (.bool false),.val (.string ByteArray.empty)] [(3,4,t122),(7,1,(.val (.bool true))),(8,1,t127)])) fun t128 w=>
 ab (aG (az 9 t4 t128 w)) fun _ w=>
 aW (aj true 9 t4 w) fun r0=>
 k r0 w
 )) kp)) kp) (
 bk (fun fr w=>(
 ab (ae w (ag 0 (aa fr 7))) fun t141 w=>
 ab (ae w (aj false 1 t141 w)) fun t142 w=>
 ab (ae w (ag 2 (aa fr 7))) fun t143 w=>
 ab (ae w (aj true 2 t143 w)) fun t144 w=>
 ab (ae w (ag 1 (aa fr 7))) fun t145 w=>
 ab (ae w (aj false 1 t145 w)) fun t146 w=>
 ab (ae w (ak 4 (aa fr 6) (.val (.int .i64 1)) w)) fun t148 w=>
 ab (ae w (aj true 4 t148 w)) fun t149 w=>
 Ev Tryz.prog 88 [t144,t146,t149,(.val (.bool false))] w (fun t150 w=>
 (ab (ae w (aj false 1 t141 w)) (fun y q=>y=t142∧q=w))∧(
 ab (ae w (aN [.val (.pointer none),.val (.pointer none),.val (.pointer none),.val (.int .u8 0),.val (.int .i64 0),.val (.int .i64 0),.val (.int .i64 0),.val (.bool false),.val (.string ByteArray.empty)] [(0,1,t142),(1,2,t150)])) fun t151 w=>
 ab (aG (az 9 (aa fr 4) t151 w)) fun _ w=>
 aW (aj true 9 (aa fr 4) w) fun r0=>
 k r0 w
 )) kp)) (fun j1=>(
 (
 ab (ae w (ax t0)) fun t130 w=>
 ab (ae w (ag 3 t130)) fun t131 w=>
 ab (ae w (aj false 1 t131 w)) fun t132 w=>
 ab (ae w (ak 4 t11 (.val (.int .i64 0)) w)) fun t135 w=>
 ab (ae w (aj true 4 t135 w)) fun t136 w=>
 Ev Tryz.prog 123 [t0,t136,(.val (.int .u8 3))] w (fun t137 w=>
 (ab (ae w (aj false 1 t131 w)) (fun y q=>y=t132∧q=w))∧(
 ab (ae w (ef 9 false 1 t137)) fun t138 w=>
 ab (ae w (ak 5 t132 t138 w)) fun t139 w=>
 ab (ae w (aj true 5 t139 w)) fun t140 w=>
 ab (aR [.val (.pointer none),.val (.string ByteArray.empty),.val (.pointer none),.val (.pointer none),.val (.slice none 0 0)] w) fun t7 w=>
 (ab (ae w (aj false 1 t131 w)) (fun y q=>y=t132∧q=w))∧(
 (ab (ae w (ak 4 t11 (.val (.int .i64 0)) w)) (fun y q=>y=t135∧q=w))∧(
 (ab (ae w (aj true 4 t135 w)) (fun y q=>y=t136∧q=w))∧(
 (ab (ae w (ak 5 t132 t138 w)) (fun y q=>y=t139∧q=w))∧(
 (ab (ae w (aj true 5 t139 w)) (fun y q=>y=t140∧q=w))∧(
 ab (aG (az 5 t7 t140 w)) fun _ w=>
 j1 [(4,t4),(6,t11),(7,t7)] w
 ))))))) kp)∧(
 ab (ae w (ax t0)) fun t130 w=>
 ab (ae w (ag 3 t130)) fun t131 w=>
 ab (ae w (aj false 1 t131 w)) fun t132 w=>
 ab (ae w (ak 4 t11 (.val (.int .i64 0)) w)) fun t135 w=>
 ab (ae w (aj true 4 t135 w)) fun t136 w=>
 ab (aR [.val (.pointer none),.val (.string ByteArray.empty),.val (.pointer none),.val (.pointer none),.val (.slice none 0 0)] w) fun t7 w=>
 (ab (ae w (aj false 1 t131 w)) (fun y q=>y=t132∧q=w))∧(
 (ab (ae w (ak 4 t11 (.val (.int .i64 0)) w)) (fun y q=>y=t135∧q=w))∧(
 (ab (ae w (aj true 4 t135 w)) (fun y q=>y=t136∧q=w))∧(
 Ev Tryz.prog 123 [t0,t136,(.val (.int .u8 3))] w (fun t137 w=>
 (ab (ae w (aj false 1 t131 w)) (fun y q=>y=t132∧q=w))∧(
 ab (ae w (ef 9 false 1 t137)) fun t138 w=>
 ab (ae w (ak 5 t132 t138 w)) fun t139 w=>
 ab (ae w (aj true 5 t139 w)) fun t140 w=>
 ab (aG (az 5 t7 t140 w)) fun _ w=>
 j1 [(4,t4),(6,t11),(7,t7)] w
 )) kp))))))
 )
 )
 )
 )
 )
 )
 )
 )
theorem Fo (h:F94 t0 t1 w k kp):Ev Tryz.prog 94 [t0,t1] w k kp:=evF mixed Tryz.func94 [(0,[0,3,4]),(1,[0,3,4,5,6]),(2001,[0,1,2,3,4,5]),(2,[0,3,4,5,6,16]),(3,[0,3,4,5,6,16,17]),(4,[4]),(2004,[0,1,2,3,4,5,6,7,8,9,10,11,12,13,14,15,16]),(5,[0,3,4,5,6,16,35]),(6,[4]),(7,[0,3,4,5,6,16,44]),(8,[4]),(9,[0,3,4,5,6,16,53]),(10,[4]),(2010,[0,1,2,3,4,5,6,7,8,9,10,11,12,13]),(11,[0,4,5,6,16,68]),(12,[4]),(13,[0,4,5,6,16,77]),(14,[0,4,6]),(15,[4]),(2015,[0,1,2,3,4,5,6,7,8,9,10,11]),(16,[4]),(17,[0,4,5,6,16,98]),(18,[4]),(2018,[0,1,2,3,4,5,6,7,9,10,11,8,12,13,14,15,16]),(118008,[4,10,11]),(118012,[4]),(19,[0,4,5,6,116]),(20,[4]),(2020,[0,1,2,5,6,7,8,9,3,4,10,11]),(120003,[9]),(120004,[9]),(3023,[4,6,7]),(21,[4,6,7]),(2021,[0,1,2,3,4,5,6,7,8,9,10,11,12,13]),(121008,[3]),(121012,[3,6,7,10,11]),(60021,[1]),(19000021,[0,1,2,3,4,5,6,7,12,8,9,10,11,13]),(10021008,[3]),(10021012,[3,6,7]),(22,[4]),(2022,[0,1,2,3,4,5,6,7,8,9,10,11]),(122009,[1])] (by kernel_rfl) (by kernel_rfl) h
def F123 (t0 t1 t2:AV) (w:ah) (k kp:AV→ah→Prop):Prop:=
 ab (bq t1 w) fun t4 w=>
 ab (aR [.val (.int .u8 0),.val (.int .u8 0),.val (.int .i64 0),.val (.int .i64 0),.val (.int .i64 0),.val (.int .u8 0),.val (.int .i64 0),.val (.int .i64 0),.val (.int .i64 0),.val (.int .i64 0)] w) fun t6 w=>
 ab (ae w (ag 0 t4)) fun t9 w=>
 ab (ae w (aj false 1 t9 w)) fun t10 w=>
 ab (ae w (ar .eql .prim t10 (.val (.int .u8 2)))) fun t11 w=>
 Ev Tryz.prog 79 [t11,(.val (.int .u8 6))] w (fun t12 w=>
 bk (fun fr w=>(
 ab (ae w (ar .neq .prim (aa fr 8) (.val (.int .i64 6)))) fun t23 w=>
 Ev Tryz.prog 79 [t23,(.val (.int .u8 5))] w (fun t24 w=>
 ab (ae w (ar .eql .prim (aa fr 8) (.val (.int .i64 0)))) fun t26 w=>
 gK t26 true (fun K=>ab (ae w (ag 0 (aa fr 7))) K) (fun t28 w=>
 gK t26 true (fun K=>ab (ae w (aj false 1 t28 w)) K) (fun t29 w=>
 gK t26 true (fun K=>K (aa fr 2) w) (fun t30 w=>
 gK t26 true (fun K=>ab (ae w (ar .eql .prim t29 t30)) K) (fun t31 w=>
 ab (ae w (aF t26 t31 (.val (.bool false)))) fun t32 w=>
 Ev Tryz.prog 79 [t32,(.val (.int .u8 6))] w (fun t33 w=>
 ab (ae w (aj true 10 (aa fr 7) w)) fun t34 w=>
 ab (aG (az 10 (aa fr 6) t34 w)) fun _ w=>
 aW (aj true 10 (aa fr 6) w) fun r0=>
 k r0 w
 ) kp) w) w) w) w) kp)) (fun j1=>(
 (
 ab (ae w (ax t0)) fun t15 w=>
 ab (ae w (ag 0 t15)) fun t16 w=>
 ab (ae w (aj false 1 t16 w)) fun t17 w=>
 ab (ae w (aj true 4 t4 w)) fun t18 w=>
 Ev Tryz.prog 171 [t17,t18] w (fun t19 w=>
 ab (ae w (bc 0 t19)) fun t20 w=>
 ab (ae w (bc 1 t19)) fun t21 w=>
 ab (aR [.val (.int .u8 0),.val (.int .u8 0),.val (.int .i64 0),.val (.int .i64 0),.val (.int .i64 0),.val (.int .u8 0),.val (.int .i64 0),.val (.int .i64 0),.val (.int .i64 0),.val (.int .i64 0)] w) fun t7 w=>
 (ab (ae w (aj false 1 t16 w)) (fun y q=>y=t17∧q=w))∧(
 (ab (ae w (aj true 4 t4 w)) (fun y q=>y=t18∧q=w))∧(
 ab (aG (az 10 t7 t20 w)) fun _ w=>
 j1 [(2,t2),(6,t6),(7,t7),(8,t21)] w
 ))) kp)∧(
 ab (ae w (ax t0)) fun t15 w=>
 ab (ae w (ag 0 t15)) fun t16 w=>
 ab (ae w (aj false 1 t16 w)) fun t17 w=>
 ab (ae w (aj true 4 t4 w)) fun t18 w=>
 ab (aR [.val (.int .u8 0),.val (.int .u8 0),.val (.int .i64 0),.val (.int .i64 0),.val (.int .i64 0),.val (.int .u8 0),.val (.int .i64 0),.val (.int .i64 0),.val (.int .i64 0),.val (.int .i64 0)] w) fun t7 w=>
 (ab (ae w (aj false 1 t16 w)) (fun y q=>y=t17∧q=w))∧(
 (ab (ae w (aj true 4 t4 w)) (fun y q=>y=t18∧q=w))∧(
 Ev Tryz.prog 171 [t17,t18] w (fun t19 w=>
 ab (ae w (bc 0 t19)) fun t20 w=>
 ab (ae w (bc 1 t19)) fun t21 w=>
 ab (aG (az 10 t7 t20 w)) fun _ w=>
 j1 [(2,t2),(6,t6),(7,t7),(8,t21)] w
 ) kp)))))) kp
theorem AF (h:F123 t0 t1 t2 w k kp):Ev Tryz.prog 123 [t0,t1,t2] w k kp:=evF mixed Tryz.func123 [(0,[0,2,4,6]),(1,[0,2,4,6]),(3004,[2,6,7,8]),(2,[2,6,7,8]),(2002,[0,1,2,3,4,5,6,7,8,9,10,11]),(102009,[3,4]),(60002,[1]),(19000002,[0,1,2,3,4,9,5,6,7,8,10,11]),(10002009,[3,4]),(3,[2,6,7,8]),(4,[6,7]),(5,[6])] (by kernel_rfl) (by kernel_rfl) h
def F124 (t0 t1:AV) (w:ah) (k kp:AV→ah→Prop):Prop:=
 ab (bq t0 w) fun t2 w=>
 bk (fun fr w=>(
 ab (ae w (ar .eql .prim (aa fr 1) (.val (.int .i64 0)))) fun t26 w=>
 k (.tup [(.val (.int .i64 0)),t26]) w
 )) (fun j1=>(
 ab (ae w (ag 1 t2)) fun t7 w=>
 ab (ae w (aj false 1 t7 w)) fun t8 w=>
 bj (fun fr w again=>(
 ab (ae w (ar .neq .ptr (aa fr 6) (.val (.pointer Option.none)))) fun t10 w=>
 ay t10 (
 ab (ae w (ax (aa fr 6))) fun t16 w=>
 ab (ae w (ag 0 t16)) fun t17 w=>
 ab (ae w (aj false 1 t17 w)) fun t18 w=>
 ab (ae w (ar .eql .prim t18 (aa fr 1))) fun t20 w=>
 ay t20 (
 ab (ae w (ax (aa fr 6))) fun t22 w=>
 ab (ae w (ag 1 t22)) fun t23 w=>
 ab (ae w (aj false 1 t23 w)) fun t24 w=>
 k (.tup [t24,(.val (.bool true))]) w
 ) (
 ab (ae w (ax (aa fr 6))) fun t12 w=>
 ab (ae w (ag 2 t12)) fun t13 w=>
 ab (ae w (aj false 1 t13 w)) fun t14 w=>
 again [(1,(aa fr 1)),(6,t14)] w
 )
 ) (
 j1 [(1,(aa fr 1))] w
 )
 )) [(1,t1),(6,t8)] w
 ))
theorem AG (h:F124 t0 t1 w k kp):Ev Tryz.prog 124 [t0,t1] w k kp:=evF mixed Tryz.func124 [(0,[1,2]),(3007,[1]),(1,[1,6]),(2,[1,6,10]),(4,[1,6,20]),(5,[4,5]),(3,[1,6]),(1002,[1,6]),(6,[4,5])] (by kernel_rfl) (by kernel_rfl) h
def F125 (t0 t1:AV) (w:ah) (k kp:AV→ah→Prop):Prop:=
 bk (fun fr w=>(
 k (.val (.bool true)) w
 )) (fun j1=>(
 ab (ae w (aE .slice t1 w)) fun t10 w=>
 bj (fun fr w again=>(
 ab (ae w (ar .lss .prim (aa fr 11) (aa fr 10))) fun t12 w=>
 ay t12 (
 ab (ae w (ak 1 (aa fr 9) (aa fr 11) w)) fun t13 w=>
 ab (ae w (aj false 1 t13 w)) fun t14 w=>
 ab (ae w (ar .eql .ptr (aa fr 0) (.val (.pointer Option.none)))) fun t16 w=>
 ay t16 (
 k (.val (.bool false)) w
 ) (
 ab (ae w (ax (aa fr 0))) fun t19 w=>
 ab (ae w (ag 2 t19)) fun t20 w=>
 ab (ae w (aj false 1 t20 w)) fun t21 w=>
 ab (ae w (dO (.int .i64) (.val (.slice none 0 0)) true t21 t14 w)) fun t23 w=>
 ab (ae w (bc 0 t23)) fun t24 w=>
 ab (ae w (bc 1 t23)) fun t25 w=>
 ab (ae w (bC t25)) fun t27 w=>
 ay t27 (
 k (.val (.bool false)) w
 ) (
 ab (ae w (ar .add .prim (aa fr 11) (.val (.int .i64 1)))) fun t28 w=>
 again [(0,(aa fr 0)),(9,(aa fr 9)),(10,(aa fr 10)),(11,t28)] w
 )
 )
 ) (
 j1 [(0,(aa fr 0))] w
 )
 )) [(0,t0),(9,t1),(10,t10),(11,(.val (.int .i64 0)))] w
 ))
theorem AH (h:F125 t0 t1 w k kp):Ev Tryz.prog 125 [t0,t1] w k kp:=evF mixed Tryz.func125 [(0,[0,1]),(3011,[0]),(1,[0,9,10,11]),(2,[0,9,10,11,12]),(3,[0,6,9,10,11]),(4,[0,6,9,10,11,16]),(5,[4]),(6,[0,8,9,10,11]),(7,[0,9,10,11,27]),(8,[4]),(9,[0,9,10,11]),(1002,[0,9,10,11]),(10,[4])] (by kernel_rfl) (by kernel_rfl) h
def F126 (t0 t1 t2:AV) (w:ah) (k kp:AV→ah→Prop):Prop:=
 ab (bq t2 w) fun t5 w=>
 ab (aR [.val (.int .u8 0),.val (.int .i64 0),.val (.int .i64 0),.val (.int .i64 0)] w) fun t6 w=>
 ab (aK 1 1 [.val (.int .i64 0)] [(0,t1)] w) fun t11 w=>
 Ev Tryz.prog 125 [t0,t11] w (fun t12 w=>
 ab (ae w (bC t12)) fun t13 w=>
 ay t13 (
 ab (ae w (aN [.val (.int .u8 0),.val (.int .i64 0),.val (.int .i64 0),.val (.int .i64 0)] [])) fun t14 w=>
 ab (aG (az 4 t6 t14 w)) fun _ w=>
 aW (aj true 4 t6 w) fun r0=>
 k (.tup [r0,(.val (.int .i64 6))]) w
 ) (
 ab (ae w (ax t0)) fun t17 w=>
 ab (ae w (ag 5 t17)) fun t18 w=>
 ab (ae w (aj false 1 t18 w)) fun t19 w=>
 ab (ae w (ax t0)) fun t21 w=>
 ab (ae w (ag 0 t21)) fun t22 w=>
 ab (ae w (ag 1 t22)) fun t23 w=>
 ab (ae w (aj false 1 t23 w)) fun t24 w=>
 ab (ae w (ar .geq .prim t19 t24)) fun t25 w=>
 ay t25 (
 ab (ae w (aN [.val (.int .u8 0),.val (.int .i64 0),.val (.int .i64 0),.val (.int .i64 0)] [])) fun t26 w=>
 ab (aG (az 4 t6 t26 w)) fun _ w=>
 aW (aj true 4 t6 w) fun r0=>
 k (.tup [r0,(.val (.int .i64 3))]) w
 ) (
 ab (ae w (ax t0)) fun t28 w=>
 ab (ae w (ag 5 t28)) fun t29 w=>
 ab (ae w (aj false 1 t29 w)) fun t30 w=>
 ab (ae w (ar .add .prim t30 (.val (.int .i64 1)))) fun t31 w=>
 ab (ae w (ax t0)) fun t32 w=>
 ab (ae w (ag 5 t32)) fun t33 w=>
 ab (aG (az 1 t33 t31 w)) fun _ w=>
 ab (ae w (ax t0)) fun t36 w=>
 ab (ae w (ag 6 t36)) fun t37 w=>
 ab (ae w (aj false 1 t37 w)) fun t38 w=>
 ab (ae w (ax t0)) fun t40 w=>
 ab (ae w (ag 5 t40)) fun t41 w=>
 ab (ae w (aj false 1 t41 w)) fun t42 w=>
 ab (ae w (qK t38 t42)) fun t43 w=>
 ab (ae w (ax t0)) fun t44 w=>
 ab (ae w (ag 6 t44)) fun t45 w=>
 ab (aG (az 1 t45 t43 w)) fun _ w=>
 ab (ae w (ax t0)) fun t47 w=>
 ab (ae w (ag 2 t47)) fun t48 w=>
 ab (ae w (aj false 1 t48 w)) fun t49 w=>
 ab (ae w (ax t0)) fun t52 w=>
 ab (ae w (ag 2 t52)) fun t53 w=>
 ab (ae w (aj false 1 t53 w)) fun t54 w=>
 ab (ae w (dO (.int .i64) (.val (.slice none 0 0)) false t54 t1 w)) fun t56 w=>
 ab (ae w (aj true 10 t5 w)) fun t57 w=>
 ab (ae w (aV 1 10 [.val (.int .u8 0),.val (.int .u8 0),.val (.int .i64 0),.val (.int .i64 0),.val (.int .i64 0),.val (.int .u8 0),.val (.int .i64 0),.val (.int .i64 0),.val (.int .i64 0),.val (.int .i64 0)] [(0,t57)])) fun t58 w=>
 ab (aY 10 80 t56 t58 w) fun t59 w=>
 (ab (ae w (aj false 1 t48 w)) (fun y q=>y=t49∧q=w))∧(
 ab (aG (cX (.int .i64) t49 t1 t59 w)) fun _ w=>
 ab (ae w (ax t0)) fun t62 w=>
 ab (ae w (ag 2 t62)) fun t63 w=>
 ab (ae w (aj false 1 t63 w)) fun t64 w=>
 ab (ae w (dO (.int .i64) (.val (.slice none 0 0)) false t64 t1 w)) fun t66 w=>
 ab (ae w (aE .slice t66 w)) fun t67 w=>
 ab (ae w (ar .sub .prim t67 (.val (.int .i64 1)))) fun t68 w=>
 ab (ae w (aN [.val (.int .u8 0),.val (.int .i64 0),.val (.int .i64 0),.val (.int .i64 0)] [(0,1,(.val (.int .u8 2))),(2,1,t1),(3,1,t68)])) fun t69 w=>
 ab (aG (az 4 t6 t69 w)) fun _ w=>
 aW (aj true 4 t6 w) fun r0=>
 k (.tup [r0,(.val (.int .i64 0))]) w
 ))
 )) kp
theorem AI (h:F126 t0 t1 t2 w k kp):Ev Tryz.prog 126 [t0,t1,t2] w k kp:=evF mixed Tryz.func126 [(0,[0,1,5,6]),(1,[0,1,5,6,8]),(2,[6,7]),(3,[0,1,5,6,15]),(2003,[0,1,2,3,4,5,6,7,8,9,10]),(4,[6,7]),(5,[0,1,5,6]),(6,[0,1,5,6]),(2006,[0,1,2,3,4,5,6,7,8,9,10,11,12]),(7,[0,1,6]),(2007,[0,1,2,3,4,5,6,7,8,9,10,11,12,13,14]),(107013,[3]),(8,[6,7])] (by kernel_rfl) (by kernel_rfl) h
def F127 (t0 t1 t2:AV) (w:ah) (k kp:AV→ah→Prop):Prop:=
 ab (bq t1 w) fun t4 w=>
 ab (bq t2 w) fun t5 w=>
 ab (ae w (aj true 4 t4 w)) fun t11 w=>
 Ev Tryz.prog 172 [t0,t11] w (fun t12 w=>
 ab (ae w (bc 0 t12)) fun t13 w=>
 ab (ae w (bc 1 t12)) fun t14 w=>
 bk (fun fr w=>(
 k (aa fr 8) w
 )) (fun j1=>(
 ab (ae w (ar .eql .prim t14 (.val (.int .i64 0)))) fun t16 w=>
 ay t16 (
 ab (ae w (aj true 10 t5 w)) fun t18 w=>
 ab (ae w (ax t13)) fun t19 w=>
 ab (aG (az 10 t19 t18 w)) fun _ w=>
 j1 [(8,t14)] w
 ) (
 j1 [(8,t14)] w
 )
 ))) kp
theorem AJ (h:F127 t0 t1 t2 w k kp):Ev Tryz.prog 127 [t0,t1,t2] w k kp:=evF mixed Tryz.func127 [(0,[0,4,5]),(1,[5,7,8]),(3005,[8]),(2,[5,7,8,16]),(3,[8]),(4,[6])] (by kernel_rfl) (by kernel_rfl) h
def F128 (t0 t1 t2:AV) (w:ah) (k kp:AV→ah→Prop):Prop:=
 bk (fun fr w=>(
 ay (aa fr 7) (
 k (.val (.int .i64 1)) w
 ) (
 k (.val (.int .i64 0)) w
 )
 )) (fun j1=>(
 ab (ae w (ar .eql .prim t0 (.val (.int .u8 1)))) fun t10 w=>
 ay t10 (
 ab (ae w (ar .add .prim t1 t2)) fun t13 w=>
 k t13 w
 ) (
 ab (ae w (ar .eql .prim t0 (.val (.int .u8 2)))) fun t15 w=>
 ay t15 (
 ab (ae w (ar .sub .prim t1 t2)) fun t18 w=>
 k t18 w
 ) (
 ab (ae w (ar .eql .prim t0 (.val (.int .u8 3)))) fun t20 w=>
 ay t20 (
 ab (ae w (ar .mul .prim t1 t2)) fun t23 w=>
 k t23 w
 ) (
 ab (ae w (ar .eql .prim t0 (.val (.int .u8 4)))) fun t25 w=>
 ay t25 (
 ab (ae w (ar .lss .prim t1 t2)) fun t28 w=>
 j1 [(7,t28)] w
 ) (
 ab (ae w (ar .eql .prim t0 (.val (.int .u8 5)))) fun t30 w=>
 ay t30 (
 ab (ae w (ar .eql .prim t1 t2)) fun t33 w=>
 j1 [(7,t33)] w
 ) (
 j1 [(7,(.val (.bool false)))] w
 )
 )
 )
 )
 )
 ))
theorem AL (h:F128 t0 t1 t2 w k kp):Ev Tryz.prog 128 [t0,t1,t2] w k kp:=evF mixed Tryz.func128 [(0,[0,1,2]),(1,[0,1,2,7]),(3014,[7]),(2,[1,2,7,8]),(3,[1,2,7,8,9]),(4,[6]),(5,[1,2,7,8,14]),(6,[6]),(7,[1,2,7,8,19]),(8,[6]),(9,[1,2,7,8,24]),(10,[7]),(11,[1,2,7,29]),(12,[7]),(13,[34]),(14,[6]),(15,[6])] (by kernel_rfl) (by kernel_rfl) h
def F171 (t0 t1:AV) (w:ah) (k kp:AV→ah→Prop):Prop:=
 ab (bq t1 w) fun t3 w=>
 ab (aR [.val (.int .u8 0),.val (.int .u8 0),.val (.int .i64 0),.val (.int .i64 0),.val (.int .i64 0),.val (.int .u8 0),.val (.int .i64 0),.val (.int .i64 0),.val (.int .i64 0),.val (.int .i64 0)] w) fun t4 w=>
 ab (ae w (aj true 4 t3 w)) fun t10 w=>
 Ev Tryz.prog 172 [t0,t10] w (fun t11 w=>
 ab (ae w (bc 0 t11)) fun t12 w=>
 ab (ae w (bc 1 t11)) fun t13 w=>
 ab (ae w (ar .neq .prim t13 (.val (.int .i64 0)))) fun t15 w=>
 ay t15 (
 ab (ae w (aN [.val (.int .u8 0),.val (.int .u8 0),.val (.int .i64 0),.val (.int .i64 0),.val (.int .i64 0),.val (.int .u8 0),.val (.int .i64 0),.val (.int .i64 0),.val (.int .i64 0),.val (.int .i64 0)] [])) fun t16 w=>
 ab (aG (az 10 t4 t16 w)) fun _ w=>
 aW (aj true 10 t4 w) fun r0=>
 k (.tup [r0,t13]) w
 ) (
 ab (ae w (ax t12)) fun t19 w=>
 ab (ae w (aj true 10 t19 w)) fun t20 w=>
 ab (aG (az 10 t4 t20 w)) fun _ w=>
 aW (aj true 10 t4 w) fun r0=>
 k (.tup [r0,(.val (.int .i64 0))]) w
 )) kp
theorem Bo (h:F171 t0 t1 w k kp):Ev Tryz.prog 171 [t0,t1] w k kp:=evF mixed Tryz.func171 [(0,[0,3,4]),(1,[4,6,7]),(2,[4,6,7,15]),(3,[4,5]),(4,[4,5])] (by kernel_rfl) (by kernel_rfl) h
def F172 (t0 t1:AV) (w:ah) (k kp:AV→ah→Prop):Prop:=
 ab (bq t1 w) fun t3 w=>
 ab (ae w (ag 0 t3)) fun t7 w=>
 ab (ae w (aj false 1 t7 w)) fun t8 w=>
 ab (ae w (ar .neq .prim t8 (.val (.int .u8 2)))) fun t9 w=>
 gK t9 false (fun K=>ab (ae w (ag 1 t3)) K) (fun t11 w=>
 gK t9 false (fun K=>ab (ae w (aj false 1 t11 w)) K) (fun t12 w=>
 gK t9 false (fun K=>ab (ae w (ar .neq .prim t12 (.val (.int .i64 0)))) K) (fun t13 w=>
 ab (ae w (aF t9 (.val (.bool true)) t13)) fun t14 w=>
 ay t14 (
 k (.tup [(.val (.pointer Option.none)),(.val (.int .i64 1))]) w
 ) (
 ab (ae w (ag 2 t3)) fun t17 w=>
 ab (ae w (aj false 1 t17 w)) fun t18 w=>
 ab (aK 1 1 [.val (.int .i64 0)] [(0,t18)] w) fun t19 w=>
 Ev Tryz.prog 125 [t0,t19] w (fun t20 w=>
 ab (ae w (bC t20)) fun t21 w=>
 ay t21 (
 k (.tup [(.val (.pointer Option.none)),(.val (.int .i64 6))]) w
 ) (
 ab (ae w (ag 3 t3)) fun t23 w=>
 ab (ae w (aj false 1 t23 w)) fun t24 w=>
 ab (ae w (ar .lss .prim t24 (.val (.int .i64 0)))) fun t25 w=>
 gK t25 false (fun K=>ab (ae w (ag 3 t3)) K) (fun t27 w=>
 gK t25 false (fun K=>ab (ae w (aj false 1 t27 w)) K) (fun t28 w=>
 gK t25 false (fun K=>K t0 w) (fun t29 w=>
 gK t25 false (fun K=>ab (ae w (ax t29)) K) (fun t30 w=>
 gK t25 false (fun K=>ab (ae w (ag 2 t30)) K) (fun t31 w=>
 gK t25 false (fun K=>ab (ae w (aj false 1 t31 w)) K) (fun t32 w=>
 gK t25 false (fun K=>ab (ae w (ag 2 t3)) K) (fun t33 w=>
 gK t25 false (fun K=>ab (ae w (aj false 1 t33 w)) K) (fun t34 w=>
 gK t25 false (fun K=>ab (ae w (dO (.int .i64) (.val (.slice none 0 0)) false t32 t34 w)) K) (fun t35 w=>
 gK t25 false (fun K=>ab (ae w (aE .slice t35 w)) K) (fun t36 w=>
 gK t25 false (fun K=>ab (ae w (ar .geq .prim t28 t36)) K) (fun t37 w=>
 ab (ae w (aF t25 (.val (.bool true)) t37)) fun t38 w=>
 ay t38 (
 k (.tup [(.val (.pointer Option.none)),(.val (.int .i64 1))]) w
 ) (
 ab (ae w (ax t0)) fun t40 w=>
 ab (ae w (ag 2 t40)) fun t41 w=>
 ab (ae w (aj false 1 t41 w)) fun t42 w=>
 ab (ae w (ag 2 t3)) fun t43 w=>
 ab (ae w (aj false 1 t43 w)) fun t44 w=>
 ab (ae w (dO (.int .i64) (.val (.slice none 0 0)) false t42 t44 w)) fun t45 w=>
 ab (ae w (ag 3 t3)) fun t46 w=>
 ab (ae w (aj false 1 t46 w)) fun t47 w=>
 ab (ae w (ak 10 t45 t47 w)) fun t48 w=>
 k (.tup [t48,(.val (.int .i64 0))]) w
 )
 ) w) w) w) w) w) w) w) w) w) w) w)
 ) kp)) w) w) w
theorem Bp (h:F172 t0 t1 w k kp):Ev Tryz.prog 172 [t0,t1] w k kp:=evF mixed Tryz.func172 [(0,[0,3]),(1,[0,3,6]),(2,[4,5]),(3,[0,3,15]),(4,[4,5]),(5,[0,3,22]),(2005,[0,1,2,3,4,5,6,7,8,9,10,11,12,13,14,15,16]),(6,[4,5]),(7,[4,5]),(2007,[0,1,2,3,4,5,6,7,8,9,10,11])] (by kernel_rfl) (by kernel_rfl) h
end Go.Proofs.MacD
namespace Go.Proofs.MacD
open Go Go.Abs
variable {t0 t1 t2 t3 t4 t5 t6 t7:AV} {w:ah} {k kp:AV→ah→Prop}
def F42 (x y:AV) (w:ah) (K:ah→Prop) (kp:AV→ah→Prop):Prop:=
 ab (ae w (ar .eql .ifc y (.val Go.Value.nilIface))) fun t6 w=>
 ay t6 (
 K w
 ) (
 ab (ae w (jN (.agg [.val (.int .u8 0)]) 102 y)) fun t7 w=>
 ab (ae w (bc 1 t7)) fun t8 w=>
 ab (ae w (bc 0 t7)) fun t9 w=>
 ay t8 (
 ab (aR [.val (.int .u8 0)] w) fun t2 w=>
 ab (aG (az 1 t2 t9 w)) fun _ w=>
 ab (ae w (ag 0 t2)) fun t10 w=>
 ab (ae w (aj false 1 t10 w)) fun t11 w=>
 ab (ae w (aN [.val (.int .u8 0),.val (.bool false),.val (.int .i64 0),.val (.string ByteArray.empty)] [(0,1,t11)])) fun t12 w=>
 ab (aG (az 4 x t12 w)) fun _ w=>
 K w
 ) (
 oT y w kp
 )
 )
def oF:List (Nat×List Nat):=[(3,[0,4,6]),(4,[]),(5,[0,4,8,9]),(6,[0,2]),(7,[]),(1,[3]),(2,[])]
noncomputable def o9:Code:=match (Tryz.f42).body with | some (.seq _ b)=>b | _=>.skip
theorem EH (x y:AV) (w:ah) (K:ah→Prop):aw Tryz.prog (eW oF) o9 {n:=fun _ w=>K w,ex:=fun _ _ _=>False,ret:=fun _ w=>K w,pa:=fun _ _=>False} (put (dj 0 [x]) (some 4) y) w=F42 x y w K (fun _ _=>False):=by kernel_rfl
def F26 (t0 t1:AV) (w:ah) (R:AV→ah→Prop) (Pa:AV→AV→ah→Prop):Prop:=
 (fun(kp:AV→ah→Prop)=>
 ab (aR [.val (.int .u8 0),.val (.bool false),.val (.int .i64 0),.val (.string ByteArray.empty)] w) fun t4 w=>
 (fun(kp:AV→ah→Prop)=>
 ab (ae w (aN [.val (.pointer none),.val (.pointer none),.val (.pointer none),.val (.int .u8 0),.val (.int .i64 0),.val (.int .i64 0),.val (.int .i64 0),.val (.bool false),.val (.string ByteArray.empty)] [(0,1,t1)])) fun t10 w=>
 ab (aR [.val (.pointer none),.val (.pointer none),.val (.pointer none),.val (.int .u8 0),.val (.int .i64 0),.val (.int .i64 0),.val (.int .i64 0),.val (.bool false),.val (.string ByteArray.empty)] w) fun t5 w=>
 ab (aG (az 9 t5 t10 w)) fun _ w=>
 bj (fun fr w again=>(
 ab (ae w (ag 0 (aa fr 5))) fun t16 w=>
 ab (ae w (aj false 1 t16 w)) fun t17 w=>
 ab (ae w (ar .neq .ptr t17 (.val (.pointer Option.none)))) fun t18 w=>
 ay t18 (
 ab (ae w (ag 0 (aa fr 5))) fun t20 w=>
 ab (ae w (aj false 1 t20 w)) fun t21 w=>
 ab (ae w (ag 1 (aa fr 5))) fun t22 w=>
 ab (ae w (aj true 2 t22 w)) fun t23 w=>
 Ev Tryz.prog 43 [(aa fr 0),t21,t23] w (fun t24 w=>
 ab (aG (az 9 (aa fr 5) t24 w)) fun _ w=>
 again [(0,(aa fr 0)),(4,(aa fr 4)),(5,(aa fr 5))] w
 ) kp) (
 ab (ae w (ag 7 (aa fr 5))) fun t26 w=>
 ab (ae w (aj false 1 t26 w)) fun t27 w=>
 ay t27 (
 ab (ae w (aj true 9 (aa fr 5) w)) fun t30 w=>
 Ev Tryz.prog 44 [(aa fr 0),t30] w (fun t31 w=>
 ab (ae w (bc 0 t31)) fun t32 w=>
 ab (ae w (bc 1 t31)) fun t33 w=>
 ab (aR [.val (.pointer none),.val (.pointer none),.val (.pointer none),.val (.int .u8 0),.val (.int .i64 0),.val (.int .i64 0),.val (.int .i64 0),.val (.bool false),.val (.string ByteArray.empty)] w) fun t6 w=>
 ab (aG (az 9 t6 t32 w)) fun _ w=>
 ab (ae w (bC t33)) fun t35 w=>
 ay t35 (
 ab (ae w (ag 8 (aa fr 5))) fun t36 w=>
 ab (ae w (aj false 1 t36 w)) fun t37 w=>
 ab (ae w (ag 3 (aa fr 5))) fun t38 w=>
 ab (ae w (ag 1 t38)) fun t39 w=>
 ab (ae w (aj false 1 t39 w)) fun t40 w=>
 Ev Tryz.prog 45 [t37,t40] w (fun t41 w=>
 ab (aG (az 4 (aa fr 4) t41 w)) fun _ w=>
 R t4 w
 ) kp) (
 ab (ae w (aj true 9 t6 w)) fun t42 w=>
 ab (aG (az 9 (aa fr 5) t42 w)) fun _ w=>
 again [(0,(aa fr 0)),(4,(aa fr 4)),(5,(aa fr 5))] w
 )
 ) kp) (
 ab (ae w (ax (aa fr 0))) fun t45 w=>
 ab (ae w (ag 4 t45)) fun t46 w=>
 ab (ae w (aj false 1 t46 w)) fun t47 w=>
 ab (ae w (aE .slice t47 w)) fun t48 w=>
 ab (ae w (ar .eql .prim t48 (.val (.int .i64 0)))) fun t49 w=>
 gK t49 true (fun K=>ab (ae w (ag 3 (aa fr 5))) K) (fun t51 w=>
 gK t49 true (fun K=>ab (ae w (ag 0 t51)) K) (fun t52 w=>
 gK t49 true (fun K=>ab (ae w (aj false 1 t52 w)) K) (fun t53 w=>
 gK t49 true (fun K=>ab (ae w (ar .eql .prim t53 (.val (.int .u8 1)))) K) (fun t54 w=>
 ab (ae w (aF t49 t54 (.val (.bool false)))) fun t55 w=>
 ay t55 (
 ab (ae w (ag 3 (aa fr 5))) fun t56 w=>
 ab (ae w (ag 1 t56)) fun t57 w=>
 ab (ae w (aj false 1 t57 w)) fun t58 w=>
 Ev Tryz.prog 46 [t58] w (fun t59 w=>
 ab (aG (az 4 (aa fr 4) t59 w)) fun _ w=>
 R t4 w
 ) kp) (
 ab (ae w (ax (aa fr 0))) fun t62 w=>
 ab (ae w (ag 4 t62)) fun t63 w=>
 ab (ae w (aj false 1 t63 w)) fun t64 w=>
 ab (ae w (aE .slice t64 w)) fun t65 w=>
 ab (ae w (ar .eql .prim t65 (.val (.int .i64 0)))) fun t66 w=>
 ay t66 (
 Ev Tryz.prog 47 [] w (fun t67 w=>
 ab (aG (az 4 (aa fr 4) t67 w)) fun _ w=>
 R t4 w
 ) kp) (
 ab (ae w (ag 3 (aa fr 5))) fun t12 w=>
 ab (ae w (aj true 4 t12 w)) fun t13 w=>
 Ev Tryz.prog 48 [(aa fr 0),t13] w (fun t14 w=>
 ab (aG (az 9 (aa fr 5) t14 w)) fun _ w=>
 again [(0,(aa fr 0)),(4,(aa fr 4)),(5,(aa fr 5))] w
 ) kp)
 )
 ) w) w) w) w)
 )
 )) [(0,t0),(4,t4),(5,t5)] w
 ) (Pa t4)) (fun _ _=>False)
def yU:List (Nat×List Nat):=[(2,[0,4,5]),(4,[0,4,5,15]),(5,[0,4,5]),(6,[0,4,5,25]),(7,[0,4,5,6,7]),(8,[0,4,5,6,35]),(9,[]),(10,[0,4,5]),(11,[0,4,5,43]),(12,[]),(13,[0,4,5,60]),(14,[]),(3,[0,4,5]),(1004,[0,4,5]),(777777,[4])]
def vK:List (Nat×List Nat):=[(0,[0,1,4])]
noncomputable def yO:Code:=match (Tryz.f26).body with | some (.seq a (.seq _ _))=>a | _=>.skip
noncomputable def zy:Code:=match (Tryz.f26).body with | some (.seq _ (.seq _ b))=>b | _=>.skip
theorem Et (t0 t1:AV) (w:ah) (R:AV→ah→Prop) (Pa:AV→AV→ah→Prop):aw Tryz.prog (eW vK) yO {n:=fun fr w=>aw Tryz.prog (eW yU) zy {n:=fun _ _=>False,ex:=fun _ _ _=>False,ret:=fun _ w=>R (aa fr 4) w,pa:=fun y w=>Pa (aa fr 4) y w} (put fr (some 8) .any) w,ex:=fun _ _ _=>False,ret:=fun _ _=>False,pa:=fun _ _=>False} (dj 0 [t0,t1]) w=F26 t0 t1 w R Pa:=by kernel_rfl
noncomputable def cd26:Code:=match (Tryz.f26).body with | some (.seq _ (.seq b _))=>b | _=>.skip
noncomputable def cr42:Code:=match (Tryz.f42).body with | some (.seq b _)=>b | _=>.skip
theorem Gc:Tryz.prog.follows .mixedOrders=true:=by kernel_rfl
theorem Eu {t0 t1:AV} {w:ah} {k kp:AV→ah→Prop} (h:F26 t0 t1 w (fun x w=>F42 x (.val .nilIface) w (fun w=>∃z,aj true 4 x w=some z∧k z w) (fun _ _=>False)) (fun x y w=>F42 x y w (fun w=>∃z,aj true 4 x w=some z∧k z w) (fun _ _=>False))):Ev Tryz.prog 26 [t0,t1] w k kp:=by
 have e:∀x y w,iD Tryz.prog (eW oF) o9 4 true 4 k x y w=F42 x y w (fun w=>∃z,aj true 4 x w=some z∧k z w) (fun _ _=>False):=fun x y w=>EH x y w _
 refine tP Gc (g:=42) Tryz.func42 (show(Tryz.f42).body=some (.seq cr42 o9) by kernel_rfl) (r:=4) (by kernel_rfl) (by kernel_rfl) (of_decide_eq_true (by kernel_rfl)) (of_decide_eq_true (by kernel_rfl)) (eW oF) (by kernel_rfl) Tryz.func26 (by kernel_rfl) (by kernel_rfl) (show(Tryz.f26).body=some (.seq yO (.seq cd26 zy)) by kernel_rfl) (d:=8) (e:=4) (te:=37) (by kernel_rfl) (by kernel_rfl) (gg:=true) (n:=4) (by kernel_rfl) (of_decide_eq_true (by kernel_rfl)) (by decide) (of_decide_eq_true (by kernel_rfl)) (eW yU) (eW vK) (by kernel_rfl) (by kernel_rfl) (of_decide_eq_true (by kernel_rfl)) ?_
 refine(Et t0 t1 w (fun x w=>iD Tryz.prog (eW oF) o9 4 true 4 k x (.val .nilIface) w) (fun x y w=>iD Tryz.prog (eW oF) o9 4 true 4 k x y w)).mpr ?_
 simp only[e]
 exact h
end Go.Proofs.MacD
namespace Go.Proofs.MacD
open Go Go.Abs
variable {t0 t1 t2 t3 t4 t5 t6 t7:AV} {w:ah} {k kp:AV→ah→Prop}
theorem Gb:Tryz.prog.follows .mixedOrders=true:=by kernel_rfl
def F11 (w:ah) (k kp:AV→ah→Prop):Prop:=
 ab (ae w (aN [.val (.int .u8 0),.val (.int .u8 0),.val (.int .i64 0),.val (.int .i64 0),.val (.string ByteArray.empty),.val (.string ByteArray.empty),.val (.string ByteArray.empty)] [(0,1,(.val (.int .u8 3)))])) fun t5 w=>
 fX Tryz.prog (.fn (.func 23) []) [(.val (.int .i64 3))] w (fun t7 w=>
 fX Tryz.prog (.fn (.func 23) []) [(.val (.int .i64 4))] w (fun t9 w=>
 ab (ae w (aV 2 19 [.val (.int .u8 0),.val (.int .u8 0),.val (.int .i64 0),.val (.int .i64 0),.val (.string ByteArray.empty),.val (.string ByteArray.empty),.val (.string ByteArray.empty),.val (.int .i64 0),.val (.slice none 0 0),.val (.slice none 0 0),.val (.int .u8 0),.val (.int .i64 0),.val (.slice none 0 0),.val (.slice none 0 0),.val (.int .u8 0),.val (.int .i64 0),.val (.slice none 0 0),.val (.slice none 0 0),.val (.slice none 0 0)] [(0,t7),(1,t9)])) fun t10 w=>
 ab (ae w (aN [.val (.int .u8 0),.val (.int .u8 0),.val (.int .i64 0),.val (.int .i64 0),.val (.string ByteArray.empty),.val (.string ByteArray.empty),.val (.string ByteArray.empty),.val (.int .i64 0),.val (.slice none 0 0),.val (.slice none 0 0),.val (.int .u8 0),.val (.int .i64 0),.val (.slice none 0 0),.val (.slice none 0 0),.val (.int .u8 0),.val (.int .i64 0),.val (.slice none 0 0),.val (.slice none 0 0),.val (.slice none 0 0)] [(0,7,t5),(18,1,t10)])) fun t11 w=>
 ab (aR [.val (.int .u8 0),.val (.int .u8 0),.val (.int .i64 0),.val (.int .i64 0),.val (.string ByteArray.empty),.val (.string ByteArray.empty),.val (.string ByteArray.empty),.val (.int .i64 0),.val (.slice none 0 0),.val (.slice none 0 0),.val (.int .u8 0),.val (.int .i64 0),.val (.slice none 0 0),.val (.slice none 0 0),.val (.int .u8 0),.val (.int .i64 0),.val (.slice none 0 0),.val (.slice none 0 0),.val (.slice none 0 0)] w) fun t2 w=>
 ab (aG (az 19 t2 t11 w)) fun _ w=>
 ab (ae w (aN [.val (.int .u8 0),.val (.int .u8 0),.val (.int .i64 0),.val (.int .i64 0),.val (.string ByteArray.empty),.val (.string ByteArray.empty),.val (.string ByteArray.empty)] [(0,1,(.val (.int .u8 4)))])) fun t13 w=>
 ab (ae w (aj true 19 t2 w)) fun t14 w=>
 ab (ae w (aV 1 19 [.val (.int .u8 0),.val (.int .u8 0),.val (.int .i64 0),.val (.int .i64 0),.val (.string ByteArray.empty),.val (.string ByteArray.empty),.val (.string ByteArray.empty),.val (.int .i64 0),.val (.slice none 0 0),.val (.slice none 0 0),.val (.int .u8 0),.val (.int .i64 0),.val (.slice none 0 0),.val (.slice none 0 0),.val (.int .u8 0),.val (.int .i64 0),.val (.slice none 0 0),.val (.slice none 0 0),.val (.slice none 0 0)] [(0,t14)])) fun t15 w=>
 ab (ae w (aN [.val (.int .u8 0),.val (.int .u8 0),.val (.int .i64 0),.val (.int .i64 0),.val (.string ByteArray.empty),.val (.string ByteArray.empty),.val (.string ByteArray.empty),.val (.int .i64 0),.val (.slice none 0 0),.val (.slice none 0 0),.val (.int .u8 0),.val (.int .i64 0),.val (.slice none 0 0),.val (.slice none 0 0),.val (.int .u8 0),.val (.int .i64 0),.val (.slice none 0 0),.val (.slice none 0 0),.val (.slice none 0 0)] [(0,7,t13),(18,1,t15)])) fun t16 w=>
 ab (ae w (aN [.val (.int .i64 0),.val (.int .i64 0)] [(0,1,(.val (.int .i64 1))),(1,1,(.val (.int .i64 1)))])) fun t17 w=>
 Ev Tryz.prog 12 [t16,(.val (.int .i64 9)),t17] w (fun t18 w=>
 ab (ae w (bc 0 t18)) fun t19 w=>
 ab (ae w (bc 1 t18)) fun t20 w=>
 ab (aR [.val (.int .u8 0),.val (.bool false),.val (.int .i64 0),.val (.string ByteArray.empty),.val (.int .i64 0),.val (.int .i64 0),.val (.int .i64 0),.val (.int .i64 0)] w) fun t3 w=>
 ab (aG (az 8 t3 t19 w)) fun _ w=>
 ab (ae w (ar .eql .prim t20 (.val (.int .i64 0)))) fun t22 w=>
 gK t22 true (fun K=>ab (ae w (ag 0 t3)) K) (fun t24 w=>
 gK t22 true (fun K=>ab (ae w (aj true 4 t24 w)) K) (fun t25 w=>
 gK t22 true (fun K=>ab (ae w (aN [.val (.int .u8 0),.val (.bool false),.val (.int .i64 0),.val (.string ByteArray.empty)] [(0,1,(.val (.int .u8 1))),(1,1,(.val (.bool true))),(2,1,(.val (.int .i64 3)))])) K) (fun t26 w=>
 gK t22 true (fun K=>ab (ae w (ar .eql (.agg [.i,.b,.i,.s]) t25 t26)) K) (fun t27 w=>
 ab (ae w (aF t22 t27 (.val (.bool false)))) fun t28 w=>
 gK t28 true (fun K=>ab (ae w (ag 4 t3)) K) (fun t30 w=>
 gK t28 true (fun K=>ab (ae w (aj false 1 t30 w)) K) (fun t31 w=>
 gK t28 true (fun K=>ab (ae w (ar .eql .prim t31 (.val (.int .i64 4)))) K) (fun t32 w=>
 ab (ae w (aF t28 t32 (.val (.bool false)))) fun t33 w=>
 gK t33 true (fun K=>ab (ae w (ag 6 t3)) K) (fun t35 w=>
 gK t33 true (fun K=>ab (ae w (aj false 1 t35 w)) K) (fun t36 w=>
 gK t33 true (fun K=>ab (ae w (ar .eql .prim t36 (.val (.int .i64 1)))) K) (fun t37 w=>
 ab (ae w (aF t33 t37 (.val (.bool false)))) fun t38 w=>
 gK t38 true (fun K=>ab (ae w (ag 5 t3)) K) (fun t40 w=>
 gK t38 true (fun K=>ab (ae w (aj false 1 t40 w)) K) (fun t41 w=>
 gK t38 true (fun K=>ab (ae w (ar .eql .prim t41 (.val (.int .i64 1)))) K) (fun t42 w=>
 ab (ae w (aF t38 t42 (.val (.bool false)))) fun t43 w=>
 k t43 w) w) w) w) w) w) w) w) w) w) w) w) w) w) kp) kp) kp
theorem D6 (h:F11 w k kp):Ev Tryz.prog 11 [] w k kp:=evF Gb Tryz.func11 [(0,[]),(1,[1]),(2,[2]),(4002,[1]),(3,[3,4]),(4003,[1]),(4,[0])] (by kernel_rfl) (by kernel_rfl) h
end Go.Proofs.MacD
