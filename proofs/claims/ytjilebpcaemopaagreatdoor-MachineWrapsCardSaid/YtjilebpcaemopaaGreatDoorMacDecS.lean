import Derived.Test.YtjilebpcaemopaaGreatDoorAbsK
import Derived.Test.YtjilebpcaemopaaGreatDoorProg
import Derived.KernelRfl
import Derived.Test.YtjilebpcaemopaaGreatDoorAbsLF
set_option maxRecDepth 100000
set_option linter.unusedVariables false
namespace Go.Proofs.MacD
open Go Go.Abs
variable {t0 t1 t2 t3 t4 t5 t6 t7:AV} {z:ah} {k kp:AV→ah→Prop}
theorem zc:Tryz.prog.follows .mixedOrders=true:=by kernel_rfl
def F8 (t0 t1 t2 t3:AV) (z:ah) (k kp:AV→ah→Prop):Prop:=
 ab (bq t0 z) fun t4 z=>
 ab (bq t2 z) fun t6 z=>
 ab (ae z (aj true 19 t4 z)) fun t13 z=>
 Ev Tryz.prog 10 [t13] z (fun t14 z=>
 gK t14 false (fun K=>K t1 z) (fun t16 z=>
 gK t14 false (fun K=>ab (ae z (ar .gtr .prim t16 (.val (.int .i64 500)))) K) (fun t17 z=>
 ab (ae z (aF t14 (.val (.bool true)) t17)) fun t18 z=>
 gK t18 false (fun K=>K t3 z) (fun t20 z=>
 gK t18 false (fun K=>ab (ae z (ar .lss .prim t20 (.val (.int .i64 1)))) K) (fun t21 z=>
 ab (ae z (aF t18 (.val (.bool true)) t21)) fun t22 z=>
 gK t22 false (fun K=>ab (ae z (ag 0 t6)) K) (fun t24 z=>
 gK t22 false (fun K=>ab (ae z (aj false 1 t24 z)) K) (fun t25 z=>
 gK t22 false (fun K=>ab (ae z (ar .gtr .prim t25 (.val (.int .i64 524288)))) K) (fun t26 z=>
 ab (ae z (aF t22 (.val (.bool true)) t26)) fun t27 z=>
 gK t27 false (fun K=>ab (ae z (ag 0 t6)) K) (fun t29 z=>
 gK t27 false (fun K=>ab (ae z (aj false 1 t29 z)) K) (fun t30 z=>
 gK t27 false (fun K=>ab (ae z (ar .lss .prim t30 (.val (.int .i64 1)))) K) (fun t31 z=>
 ab (ae z (aF t27 (.val (.bool true)) t31)) fun t32 z=>
 gK t32 false (fun K=>ab (ae z (aj true 19 t4 z)) K) (fun t34 z=>
 gK t32 false (fun K=>Ev Tryz.prog 20 [t34] z K kp) (fun t35 z=>
 gK t32 false (fun K=>K t3 z) (fun t36 z=>
 gK t32 false (fun K=>Ev Tryz.prog 19 [t35,t36] z K kp) (fun t37 z=>
 ab (ae z (aF t32 (.val (.bool true)) t37)) fun t38 z=>
 gK t38 false (fun K=>ab (ae z (aj true 19 t4 z)) K) (fun t40 z=>
 gK t38 false (fun K=>Ev Tryz.prog 16 [t40] z K kp) (fun t41 z=>
 gK t38 false (fun K=>ab (ae z (ef 6 false 1 t41)) K) (fun t42 z=>
 gK t38 false (fun K=>ab (ae z (ar .neq .prim t42 (.val (.int .i64 0)))) K) (fun t43 z=>
 ab (ae z (aF t38 (.val (.bool true)) t43)) fun t44 z=>
 ay t44 (
 Ev Tryz.prog 11 [] z (fun t45 z=>
 k t45 z
 ) kp) (
 ab (ae z (aj true 19 t4 z)) fun t47 z=>
 ab (ae z (aj true 2 t6 z)) fun t49 z=>
 Ev Tryz.prog 12 [t47,t1,t49] z (fun t50 z=>
 ab (ae z (bc 0 t50)) fun t51 z=>
 ab (ae z (bc 1 t50)) fun t52 z=>
 ab (aR [.val (.int .u8 0),.val (.bool false),.val (.int .i64 0),.val (.string ByteArray.empty),.val (.int .i64 0),.val (.int .i64 0),.val (.int .i64 0),.val (.int .i64 0)] z) fun t9 z=>
 ab (aG (az 8 t9 t51 z)) fun _ z=>
 ab (ae z (aN [.val (.int .u8 0),.val (.int .u8 0),.val (.int .i64 0),.val (.int .i64 0),.val (.string ByteArray.empty),.val (.string ByteArray.empty),.val (.string ByteArray.empty)] [(0,1,(.val (.int .u8 17)))])) fun t54 z=>
 ab (ae z (aj true 19 t4 z)) fun t56 z=>
 ab (aK 1 19 [.val (.int .u8 0),.val (.int .u8 0),.val (.int .i64 0),.val (.int .i64 0),.val (.string ByteArray.empty),.val (.string ByteArray.empty),.val (.string ByteArray.empty),.val (.int .i64 0),.val (.slice none 0 0),.val (.slice none 0 0),.val (.int .u8 0),.val (.int .i64 0),.val (.slice none 0 0),.val (.slice none 0 0),.val (.int .u8 0),.val (.int .i64 0),.val (.slice none 0 0),.val (.slice none 0 0),.val (.slice none 0 0)] [(0,t56)] z) fun t57 z=>
 ab (ae z (aN [.val (.int .u8 0),.val (.int .u8 0),.val (.int .i64 0),.val (.int .i64 0),.val (.string ByteArray.empty),.val (.string ByteArray.empty),.val (.string ByteArray.empty),.val (.int .i64 0),.val (.slice none 0 0),.val (.slice none 0 0),.val (.int .u8 0),.val (.int .i64 0),.val (.slice none 0 0),.val (.slice none 0 0),.val (.int .u8 0),.val (.int .i64 0),.val (.slice none 0 0),.val (.slice none 0 0),.val (.slice none 0 0)] [(0,7,t54),(7,1,t3),(18,1,t57)])) fun t58 z=>
 ab (ae z (ag 0 t6)) fun t60 z=>
 ab (ae z (aj false 1 t60 z)) fun t61 z=>
 ab (ae z (ar .add .prim t61 (.val (.int .i64 1)))) fun t62 z=>
 ab (ae z (ag 1 t6)) fun t63 z=>
 ab (ae z (aj false 1 t63 z)) fun t64 z=>
 ab (ae z (aN [.val (.int .i64 0),.val (.int .i64 0)] [(0,1,t62),(1,1,t64)])) fun t65 z=>
 Ev Tryz.prog 12 [t58,t1,t65] z (fun t66 z=>
 ab (ae z (bc 0 t66)) fun t67 z=>
 ab (ae z (bc 1 t66)) fun t68 z=>
 ab (aR [.val (.int .u8 0),.val (.bool false),.val (.int .i64 0),.val (.string ByteArray.empty),.val (.int .i64 0),.val (.int .i64 0),.val (.int .i64 0),.val (.int .i64 0)] z) fun t11 z=>
 ab (aG (az 8 t11 t67 z)) fun _ z=>
 ab (ae z (ar .eql .prim t52 (.val (.int .i64 0)))) fun t70 z=>
 gK t70 true (fun K=>K t68 z) (fun t72 z=>
 gK t70 true (fun K=>ab (ae z (ar .eql .prim t72 (.val (.int .i64 0)))) K) (fun t73 z=>
 ab (ae z (aF t70 t73 (.val (.bool false)))) fun t74 z=>
 gK t74 true (fun K=>ab (ae z (ag 0 t11)) K) (fun t76 z=>
 gK t74 true (fun K=>ab (ae z (aj true 4 t76 z)) K) (fun t77 z=>
 gK t74 true (fun K=>ab (ae z (ag 0 t9)) K) (fun t78 z=>
 gK t74 true (fun K=>ab (ae z (aj true 4 t78 z)) K) (fun t79 z=>
 gK t74 true (fun K=>ab (ae z (ar .eql (.agg [.i,.b,.i,.s]) t77 t79)) K) (fun t80 z=>
 ab (ae z (aF t74 t80 (.val (.bool false)))) fun t81 z=>
 gK t81 true (fun K=>ab (ae z (ag 4 t11)) K) (fun t83 z=>
 gK t81 true (fun K=>ab (ae z (aj false 1 t83 z)) K) (fun t84 z=>
 gK t81 true (fun K=>ab (ae z (ag 4 t9)) K) (fun t85 z=>
 gK t81 true (fun K=>ab (ae z (aj false 1 t85 z)) K) (fun t86 z=>
 gK t81 true (fun K=>ab (ae z (ar .eql .prim t84 t86)) K) (fun t87 z=>
 ab (ae z (aF t81 t87 (.val (.bool false)))) fun t88 z=>
 gK t88 true (fun K=>ab (ae z (ag 7 t11)) K) (fun t90 z=>
 gK t88 true (fun K=>ab (ae z (aj false 1 t90 z)) K) (fun t91 z=>
 gK t88 true (fun K=>ab (ae z (ag 7 t9)) K) (fun t92 z=>
 gK t88 true (fun K=>ab (ae z (aj false 1 t92 z)) K) (fun t93 z=>
 gK t88 true (fun K=>ab (ae z (ar .eql .prim t91 t93)) K) (fun t94 z=>
 ab (ae z (aF t88 t94 (.val (.bool false)))) fun t95 z=>
 gK t95 true (fun K=>Ev Tryz.prog 11 [] z K kp) (fun t97 z=>
 ab (ae z (aF t95 t97 (.val (.bool false)))) fun t98 z=>
 k t98 z
 ) z) z) z) z) z) z) z) z) z) z) z) z) z) z) z) z) z) z) kp) kp)) z) z) z) z) z) z) z) z) z) z) z) z) z) z) z) z) z) z) kp
theorem F8_ev (h:F8 t0 t1 t2 t3 z k kp):Ev Tryz.prog 8 [t0,t1,t2,t3] z k kp:=evF zc Tryz.func8 [(0,[1,3,4,6]),(1,[1,3,4,6,44]),(2,[8]),(3,[1,3,4,6,9,10]),(4,[9,10,11,12]),(5,[8])] (by kernel_rfl) (by kernel_rfl) h
def F17 (t0 t1:AV) (z:ah) (k kp:AV→ah→Prop):Prop:=
 bk (fun fr z=>(
 k (.val (.bool false)) z
 )) (fun j1=>(
 ab (ae z (aE .slice t0 z)) fun t7 z=>
 bj (fun fr z again=>(
 ab (ae z (ar .lss .prim (aa fr 8) (aa fr 7))) fun t9 z=>
 ay t9 (
 ab (ae z (ak 1 (aa fr 0) (aa fr 8) z)) fun t13 z=>
 ab (ae z (aj false 1 t13 z)) fun t14 z=>
 ab (ae z (ar .eql .prim t14 (aa fr 1))) fun t16 z=>
 ay t16 (
 k (.val (.bool true)) z
 ) (
 ab (ae z (ar .add .prim (aa fr 8) (.val (.int .i64 1)))) fun t17 z=>
 again [(0,(aa fr 0)),(1,(aa fr 1)),(7,(aa fr 7)),(8,t17)] z
 )
 ) (
 j1 [(0,(aa fr 0))] z
 )
 )) [(0,t0),(1,t1),(7,t7),(8,(.val (.int .i64 0)))] z
 ))
theorem Ee (h:F17 t0 t1 z k kp):Ev Tryz.prog 17 [t0,t1] z k kp:=evF zc Tryz.func17 [(0,[0,1]),(3008,[0]),(1,[0,1,7,8]),(2,[0,1,7,8,9]),(3,[0,1,5,7,8]),(4,[0,1,7,8,16]),(5,[4]),(6,[0,1,7,8]),(1002,[0,1,7,8]),(7,[4])] (by kernel_rfl) (by kernel_rfl) h
end Go.Proofs.MacD
namespace Go.Proofs.ChkD
open Go Go.Abs
variable {t0 t1 t2 t3 t4 t5 t6 t7:AV} {z:ah} {k kp:AV→ah→Prop}
theorem mixed:Tryz.prog.follows .mixedOrders=true:=by kernel_rfl
def F16 (t0:AV) (z:ah) (k kp:AV→ah→Prop):Prop:=
 ab (bq t0 z) fun t1 z=>
 ab (aR [.val (.int .u8 0),.val (.int .i64 0),.val (.slice none 0 0),.val (.slice none 0 0),.val (.slice none 0 0),.val (.int .i64 0),.val (.int .i64 0)] z) fun t2 z=>
 ab (ae z (aj true 19 t1 z)) fun t5 z=>
 Ev Tryz.prog 15 [t5] z (fun t6 z=>
 ab (ae z (bC t6)) fun t7 z=>
 ay t7 (
 ab (ae z (aN [.val (.int .u8 0),.val (.int .i64 0),.val (.slice none 0 0),.val (.slice none 0 0),.val (.slice none 0 0),.val (.int .i64 0),.val (.int .i64 0)] [(6,1,(.val (.int .i64 1)))])) fun t8 z=>
 ab (aG (az 7 t2 t8 z)) fun _ z=>
 aW (aj true 7 t2 z) fun r0=>
 k r0 z
 ) (
 ab (ae z (aj true 19 t1 z)) fun t10 z=>
 Ev Tryz.prog 34 [t10] z (fun t11 z=>
 ab (ae z (bc 0 t11)) fun t12 z=>
 ab (ae z (bc 1 t11)) fun t13 z=>
 ab (ae z (bC t13)) fun t15 z=>
 ay t15 (
 ab (ae z (aN [.val (.int .u8 0),.val (.int .i64 0),.val (.slice none 0 0),.val (.slice none 0 0),.val (.slice none 0 0),.val (.int .i64 0),.val (.int .i64 0)] [(5,1,t12),(6,1,(.val (.int .i64 6)))])) fun t17 z=>
 ab (aG (az 7 t2 t17 z)) fun _ z=>
 aW (aj true 7 t2 z) fun r0=>
 k r0 z
 ) (
 ab (aK 0 25 [.val (.string ByteArray.empty),.val (.int .u8 0),.val (.int .i64 0),.val (.slice none 0 0),.val (.slice none 0 0),.val (.bool false),.val (.int .u8 0),.val (.int .u8 0),.val (.int .i64 0),.val (.int .i64 0),.val (.string ByteArray.empty),.val (.string ByteArray.empty),.val (.string ByteArray.empty),.val (.int .i64 0),.val (.slice none 0 0),.val (.slice none 0 0),.val (.int .u8 0),.val (.int .i64 0),.val (.slice none 0 0),.val (.slice none 0 0),.val (.int .u8 0),.val (.int .i64 0),.val (.slice none 0 0),.val (.slice none 0 0),.val (.slice none 0 0)] [] z) fun t18 z=>
 ab (aK 1 1 [.val (.int .i64 0)] [(0,(.val (.int .i64 0)))] z) fun t19 z=>
 ab (ae z (aj true 19 t1 z)) fun t20 z=>
 Ev Tryz.prog 35 [t18,t19,t20] z (fun t21 z=>
 ab (aG (az 7 t2 t21 z)) fun _ z=>
 aW (aj true 7 t2 z) fun r0=>
 k r0 z
 ) kp)
 ) kp)) kp
theorem Ed (h:F16 t0 z k kp):Ev Tryz.prog 16 [t0] z k kp:=evF mixed Tryz.func16 [(0,[1,2]),(1,[1,2,7]),(2,[2]),(3,[1,2,3,4]),(4,[1,2,3,15]),(5,[2]),(6,[2])] (by kernel_rfl) (by kernel_rfl) h
def F35 (t0 t1 t2:AV) (z:ah) (k kp:AV→ah→Prop):Prop:=
 ab (bq t2 z) fun t5 z=>
 ab (aR [.val (.int .u8 0),.val (.int .i64 0),.val (.slice none 0 0),.val (.slice none 0 0),.val (.slice none 0 0),.val (.int .i64 0),.val (.int .i64 0)] z) fun t6 z=>
 ab (ae z (aj true 19 t5 z)) fun t10 z=>
 Ev Tryz.prog 65 [t0,t1,t10] z (fun t11 z=>
 ab (aR [.val (.int .u8 0),.val (.int .i64 0),.val (.slice none 0 0),.val (.slice none 0 0),.val (.slice none 0 0),.val (.int .i64 0),.val (.int .i64 0)] z) fun t7 z=>
 ab (aG (az 7 t7 t11 z)) fun _ z=>
 ab (ae z (ag 6 t7)) fun t12 z=>
 ab (ae z (aj false 1 t12 z)) fun t13 z=>
 ab (ae z (ar .eql .prim t13 (.val (.int .i64 0)))) fun t14 z=>
 gK t14 true (fun K=>ab (ae z (ag 0 t7)) K) (fun t16 z=>
 gK t14 true (fun K=>ab (ae z (aj true 4 t16 z)) K) (fun t17 z=>
 gK t14 true (fun K=>Ev Tryz.prog 66 [t17] z K kp) (fun t18 z=>
 gK t14 true (fun K=>ab (ae z (ar .gtr .prim t18 (.val (.int .i64 500)))) K) (fun t19 z=>
 ab (ae z (aF t14 t19 (.val (.bool false)))) fun t20 z=>
 ay t20 (
 ab (ae z (aj true 19 t5 z)) fun t21 z=>
 Ev Tryz.prog 67 [t21,(.val (.int .i64 3))] z (fun t22 z=>
 ab (aG (az 7 t6 t22 z)) fun _ z=>
 aW (aj true 7 t6 z) fun r0=>
 k r0 z
 ) kp) (
 ab (ae z (aj true 7 t7 z)) fun t23 z=>
 ab (aG (az 7 t6 t23 z)) fun _ z=>
 aW (aj true 7 t6 z) fun r0=>
 k r0 z
 )) z) z) z) z) kp
theorem EB (h:F35 t0 t1 t2 z k kp):Ev Tryz.prog 35 [t0,t1,t2] z k kp:=evF mixed Tryz.func35 [(0,[0,1,5,6]),(1,[5,6,7]),(2,[5,6,7,20]),(3,[6]),(4,[6])] (by kernel_rfl) (by kernel_rfl) h
def F65 (t0 t1 t2:AV) (z:ah) (k kp:AV→ah→Prop):Prop:=
 ab (bq t2 z) fun t5 z=>
 ab (aR [.val (.int .u8 0),.val (.int .i64 0),.val (.slice none 0 0),.val (.slice none 0 0),.val (.slice none 0 0),.val (.int .i64 0),.val (.int .i64 0)] z) fun t6 z=>
 ab (ae z (aj true 19 t5 z)) fun t12 z=>
 Ev Tryz.prog 107 [t12,t1] z (fun t14 z=>
 ab (ae z (bC t14)) fun t15 z=>
 ay t15 (
 ab (ae z (aj true 19 t5 z)) fun t16 z=>
 Ev Tryz.prog 67 [t16,(.val (.int .i64 4))] z (fun t17 z=>
 ab (aG (az 7 t6 t17 z)) fun _ z=>
 aW (aj true 7 t6 z) fun r0=>
 k r0 z
 ) kp) (
 ab (ae z (ag 0 t5)) fun t18 z=>
 ab (ae z (ag 0 t18)) fun t19 z=>
 ab (ae z (aj false 1 t19 z)) fun t20 z=>
 ab (ae z (ar .eql .prim t20 (.val (.int .u8 2)))) fun t21 z=>
 gK t21 false (fun K=>ab (ae z (ag 0 t5)) K) (fun t23 z=>
 gK t21 false (fun K=>ab (ae z (ag 0 t23)) K) (fun t24 z=>
 gK t21 false (fun K=>ab (ae z (aj false 1 t24 z)) K) (fun t25 z=>
 gK t21 false (fun K=>ab (ae z (ar .eql .prim t25 (.val (.int .u8 18)))) K) (fun t26 z=>
 ab (ae z (aF t21 (.val (.bool true)) t26)) fun t27 z=>
 ay t27 (
 ab (ae z (aj true 19 t5 z)) fun t29 z=>
 Ev Tryz.prog 108 [t0,t29] z (fun t30 z=>
 ab (aG (az 7 t6 t30 z)) fun _ z=>
 aW (aj true 7 t6 z) fun r0=>
 k r0 z
 ) kp) (
 ab (aK 0 7 [.val (.int .u8 0),.val (.int .i64 0),.val (.slice none 0 0),.val (.slice none 0 0),.val (.slice none 0 0),.val (.int .i64 0),.val (.int .i64 0)] [] z) fun t31 z=>
 bk (fun fr z=>(
 ab (ae z (aj true 19 (aa fr 5) z)) fun t64 z=>
 Ev Tryz.prog 110 [t64,(aa fr 7)] z (fun t66 z=>
 ab (aG (az 7 (aa fr 6) t66 z)) fun _ z=>
 aW (aj true 7 (aa fr 6) z) fun r0=>
 k r0 z
 ) kp)) (fun j1=>(
 ab (ae z (ag 18 t5)) fun t32 z=>
 ab (ae z (aj false 1 t32 z)) fun t33 z=>
 ab (ae z (aE .slice t33 z)) fun t34 z=>
 bj (fun fr z again=>(
 ab (ae z (ar .lss .prim (aa fr 35) (aa fr 34))) fun t36 z=>
 ay t36 (
 ab (ae z (aj true 19 (aa fr 5) z)) fun t41 z=>
 Ev Tryz.prog 109 [(aa fr 0),(aa fr 1),t41,(aa fr 35),(aa fr 7)] z (fun t44 z=>
 ab (ae z (bc 0 t44)) fun t45 z=>
 ab (ae z (bc 1 t44)) fun t46 z=>
 ab (ae z (ag 18 (aa fr 5))) fun t49 z=>
 ab (ae z (aj false 1 t49 z)) fun t50 z=>
 ab (ae z (ak 19 t50 (aa fr 35) z)) fun t52 z=>
 ab (ae z (aj true 19 t52 z)) fun t53 z=>
 Ev Tryz.prog 35 [t45,t46,t53] z (fun t54 z=>
 ab (aR [.val (.int .u8 0),.val (.int .i64 0),.val (.slice none 0 0),.val (.slice none 0 0),.val (.slice none 0 0),.val (.int .i64 0),.val (.int .i64 0)] z) fun t11 z=>
 ab (aG (az 7 t11 t54 z)) fun _ z=>
 ab (ae z (ag 6 t11)) fun t55 z=>
 ab (ae z (aj false 1 t55 z)) fun t56 z=>
 ab (ae z (ar .neq .prim t56 (.val (.int .i64 0)))) fun t57 z=>
 ay t57 (
 ab (ae z (aj true 7 t11 z)) fun t58 z=>
 ab (aG (az 7 (aa fr 6) t58 z)) fun _ z=>
 aW (aj true 7 (aa fr 6) z) fun r0=>
 k r0 z
 ) (
 ab (ae z (aj true 7 t11 z)) fun t60 z=>
 ab (aK 1 7 [.val (.int .u8 0),.val (.int .i64 0),.val (.slice none 0 0),.val (.slice none 0 0),.val (.slice none 0 0),.val (.int .i64 0),.val (.int .i64 0)] [(0,t60)] z) fun t61 z=>
 ab (aY 7 104 (aa fr 7) t61 z) fun t62 z=>
 ab (ae z (ar .add .prim (aa fr 35) (.val (.int .i64 1)))) fun t63 z=>
 again [(0,(aa fr 0)),(1,(aa fr 1)),(5,(aa fr 5)),(6,(aa fr 6)),(7,t62),(34,(aa fr 34)),(35,t63)] z
 )
 ) kp) kp) (
 j1 [(5,(aa fr 5)),(6,(aa fr 6)),(7,(aa fr 7))] z
 )
 )) [(0,t0),(1,t1),(5,t5),(6,t6),(7,t31),(34,t34),(35,(.val (.int .i64 0)))] z
 ))
 )
 ) z) z) z) z)) kp
theorem EU (h:F65 t0 t1 t2 z k kp):Ev Tryz.prog 65 [t0,t1,t2] z k kp:=evF mixed Tryz.func65 [(0,[0,1,5,6]),(1,[0,1,5,6,15]),(2,[6]),(3,[0,1,5,6,27]),(4,[6]),(5,[0,1,5,6,7]),(3016,[5,6,7]),(6,[0,1,5,6,7,34,35]),(7,[0,1,5,6,7,34,35,36]),(8,[0,1,5,6,7,8,34,35]),(9,[0,1,5,6,7,8,9,10,34,35]),(10,[0,1,5,6,7,11,34,35]),(11,[0,1,5,6,7,11,34,35,57]),(12,[6]),(13,[0,1,5,6,7,34,35]),(14,[0,1,5,6,7,34,35]),(1007,[0,1,5,6,7,34,35]),(15,[6])] (by kernel_rfl) (by kernel_rfl) h
def F66 (t0:AV) (z:ah) (k kp:AV→ah→Prop):Prop:=
 ab (bq t0 z) fun t1 z=>
 bk (fun fr z=>(
 k (aa fr 3) z
 )) (fun j1=>(
 ab (ae z (ag 3 t1)) fun t5 z=>
 ab (ae z (aj false 1 t5 z)) fun t6 z=>
 ab (ae z (aE .slice t6 z)) fun t7 z=>
 bj (fun fr z again=>(
 ab (ae z (ar .lss .prim (aa fr 8) (aa fr 7))) fun t9 z=>
 ay t9 (
 ab (ae z (ag 3 (aa fr 1))) fun t12 z=>
 ab (ae z (aj false 1 t12 z)) fun t13 z=>
 ab (ae z (ak 4 t13 (aa fr 8) z)) fun t15 z=>
 ab (ae z (aj true 4 t15 z)) fun t16 z=>
 Ev Tryz.prog 66 [t16] z (fun t17 z=>
 ab (ae z (ar .add .prim (aa fr 3) t17)) fun t18 z=>
 ab (ae z (ar .add .prim (aa fr 8) (.val (.int .i64 1)))) fun t19 z=>
 again [(1,(aa fr 1)),(3,t18),(7,(aa fr 7)),(8,t19)] z
 ) kp) (
 j1 [(3,(aa fr 3))] z
 )
 )) [(1,t1),(3,(.val (.int .i64 1))),(7,t7),(8,(.val (.int .i64 0)))] z
 ))
theorem EV (h:F66 t0 z k kp):Ev Tryz.prog 66 [t0] z k kp:=evF mixed Tryz.func66 [(0,[1]),(1,[1,3]),(3008,[3]),(2,[1,3,7,8]),(3,[1,3,7,8,9]),(4,[1,3,4,7,8]),(5,[1,3,7,8]),(6,[1,3,7,8]),(1003,[1,3,7,8]),(7,[2])] (by kernel_rfl) (by kernel_rfl) h
def F67 (t0 t1:AV) (z:ah) (k kp:AV→ah→Prop):Prop:=
 ab (bq t0 z) fun t2 z=>
 ab (aR [.val (.int .u8 0),.val (.int .i64 0),.val (.slice none 0 0),.val (.slice none 0 0),.val (.slice none 0 0),.val (.int .i64 0),.val (.int .i64 0)] z) fun t4 z=>
 ab (ae z (ag 0 t2)) fun t5 z=>
 ab (ae z (ag 2 t5)) fun t6 z=>
 ab (ae z (aj false 1 t6 z)) fun t7 z=>
 ab (ae z (aN [.val (.int .u8 0),.val (.int .i64 0),.val (.slice none 0 0),.val (.slice none 0 0),.val (.slice none 0 0),.val (.int .i64 0),.val (.int .i64 0)] [(5,1,t7),(6,1,t1)])) fun t9 z=>
 ab (aG (az 7 t4 t9 z)) fun _ z=>
 aW (aj true 7 t4 z) fun r0=>
 k r0 z
theorem EW (h:F67 t0 t1 z k kp):Ev Tryz.prog 67 [t0,t1] z k kp:=evF mixed Tryz.func67 [(0,[1,2,4]),(1,[4])] (by kernel_rfl) (by kernel_rfl) h
def F68 (t0 t1:AV) (z:ah) (k kp:AV→ah→Prop):Prop:=
 ab (bq t1 z) fun t3 z=>
 ab (ae z (aj true 3 t3 z)) fun t8 z=>
 Ev Tryz.prog 105 [t8] z (fun t9 z=>
 ab (ae z (bC t9)) fun t10 z=>
 gK t10 false (fun K=>K t0 z) (fun t12 z=>
 gK t10 false (fun K=>ab (ae z (aj true 3 t3 z)) K) (fun t13 z=>
 gK t10 false (fun K=>Ev Tryz.prog 111 [t12,t13] z K kp) (fun t14 z=>
 ab (ae z (aF t10 (.val (.bool true)) t14)) fun t15 z=>
 ay t15 (
 k t0 z
 ) (
 ab (aK 0 3 [.val (.int .u8 0),.val (.int .i64 0),.val (.string ByteArray.empty)] [] z) fun t17 z=>
 bk (fun fr z=>(
 bk (fun fr z=>(
 k (aa fr 5) z
 )) (fun j2=>(
 ab (ae z (bC (aa fr 6))) fun t46 z=>
 ay t46 (
 ab (ae z (aj true 3 (aa fr 3) z)) fun t48 z=>
 ab (aK 1 3 [.val (.int .u8 0),.val (.int .i64 0),.val (.string ByteArray.empty)] [(0,t48)] z) fun t49 z=>
 ab (aY 3 32 (aa fr 5) t49 z) fun t50 z=>
 j2 [(5,t50)] z
 ) (
 j2 [(5,(aa fr 5))] z
 )
 ))
 )) (fun j1=>(
 ab (ae z (aE .slice t0 z)) fun t19 z=>
 bj (fun fr z again=>(
 ab (ae z (ar .lss .prim (aa fr 20) (aa fr 19))) fun t21 z=>
 ay t21 (
 bk (fun fr z=>(
 ab (ae z (ak 3 (aa fr 0) (aa fr 7) z)) fun t40 z=>
 ab (ae z (aj true 3 t40 z)) fun t41 z=>
 ab (aK 1 3 [.val (.int .u8 0),.val (.int .i64 0),.val (.string ByteArray.empty)] [(0,t41)] z) fun t42 z=>
 ab (aY 3 32 (aa fr 5) t42 z) fun t43 z=>
 ab (ae z (ar .add .prim (aa fr 20) (.val (.int .i64 1)))) fun t44 z=>
 again [(0,(aa fr 0)),(3,(aa fr 3)),(5,t43),(6,(aa fr 6)),(19,(aa fr 19)),(20,t44)] z
 )) (fun j3=>(
 ab (ae z (bC (aa fr 6))) fun t24 z=>
 gK t24 true (fun K=>ab (ae z (aj true 3 (aa fr 3) z)) K) (fun t26 z=>
 gK t24 true (fun K=>K (aa fr 0) z) (fun t27 z=>
 gK t24 true (fun K=>K (aa fr 20) z) (fun t28 z=>
 gK t24 true (fun K=>ab (ae z (ak 3 t27 t28 z)) K) (fun t29 z=>
 gK t24 true (fun K=>ab (ae z (aj true 3 t29 z)) K) (fun t30 z=>
 gK t24 true (fun K=>Ev Tryz.prog 106 [t26,t30] z K kp) (fun t31 z=>
 ab (ae z (aF t24 t31 (.val (.bool false)))) fun t32 z=>
 ay t32 (
 ab (ae z (aj true 3 (aa fr 3) z)) fun t34 z=>
 ab (aK 1 3 [.val (.int .u8 0),.val (.int .i64 0),.val (.string ByteArray.empty)] [(0,t34)] z) fun t35 z=>
 ab (aY 3 32 (aa fr 5) t35 z) fun t36 z=>
 j3 [(0,(aa fr 0)),(3,(aa fr 3)),(5,t36),(6,(.val (.bool true))),(7,(aa fr 20)),(19,(aa fr 19)),(20,(aa fr 20))] z
 ) (
 j3 [(0,(aa fr 0)),(3,(aa fr 3)),(5,(aa fr 5)),(6,(aa fr 6)),(7,(aa fr 20)),(19,(aa fr 19)),(20,(aa fr 20))] z
 )
 ) z) z) z) z) z) z))
 ) (
 j1 [(3,(aa fr 3)),(5,(aa fr 5)),(6,(aa fr 6))] z
 )
 )) [(0,t0),(3,t3),(5,t17),(6,(.val (.bool false))),(19,t19),(20,(.val (.int .i64 0)))] z
 ))
 )) z) z) z) kp
theorem xU (h:F68 t0 t1 z k kp):Ev Tryz.prog 68 [t0,t1] z k kp:=evF mixed Tryz.func68 [(0,[0,3]),(1,[0,3,15]),(2,[4]),(3,[0,3,5]),(4,[0,3,5,6]),(3014,[3,5,6]),(5,[0,3,5,6,19,20]),(6,[0,3,5,6,19,20,21]),(7,[0,3,5,6,7,19,20]),(3012,[0,3,5,6,7,19,20]),(8,[0,3,5,6,7,19,20,32]),(2008,[0,1,2,3,4,5,6,7,8,9]),(9,[0,3,5,7,19,20]),(10,[0,3,5,6,7,19,20]),(11,[0,3,5,6,19,20]),(12,[0,3,5,6,19,20]),(1006,[0,3,5,6,19,20]),(3016,[5]),(13,[3,5,46]),(14,[5]),(15,[4])] (by kernel_rfl) (by kernel_rfl) h
def F36 (t0:AV) (z:ah) (k kp:AV→ah→Prop):Prop:=
 ab (aK 0 3 [.val (.int .u8 0),.val (.int .i64 0),.val (.string ByteArray.empty)] [] z) fun t5 z=>
 bk (fun fr z=>(
 k (aa fr 3) z
 )) (fun j1=>(
 ab (ae z (aE .slice t0 z)) fun t7 z=>
 bj (fun fr z again=>(
 ab (ae z (ar .lss .prim (aa fr 8) (aa fr 7))) fun t9 z=>
 ay t9 (
 ab (ae z (ak 3 (aa fr 0) (aa fr 8) z)) fun t14 z=>
 ab (ae z (aj true 3 t14 z)) fun t15 z=>
 Ev Tryz.prog 68 [(aa fr 3),t15] z (fun t16 z=>
 ab (ae z (ar .add .prim (aa fr 8) (.val (.int .i64 1)))) fun t17 z=>
 again [(0,(aa fr 0)),(3,t16),(7,(aa fr 7)),(8,t17)] z
 ) kp) (
 j1 [(3,(aa fr 3))] z
 )
 )) [(0,t0),(3,t5),(7,t7),(8,(.val (.int .i64 0)))] z
 ))
theorem EC (h:F36 t0 z k kp):Ev Tryz.prog 36 [t0] z k kp:=evF mixed Tryz.func36 [(0,[0]),(1,[0,3]),(3008,[3]),(2,[0,3,7,8]),(3,[0,3,7,8,9]),(4,[0,3,4,7,8]),(5,[0,3,7,8]),(6,[0,3,7,8]),(1003,[0,3,7,8]),(7,[2])] (by kernel_rfl) (by kernel_rfl) h
def Fy (t1 t2:AV) (z:ah) (k kp:AV→ah→Prop):Prop:=
 bk (fun fr z=>(
 ab (ae z (ag 9 (aa fr 2))) fun t37 z=>
 ab (ae z (aj false 1 t37 z)) fun t38 z=>
 Ev Tryz.prog 141 [t38] z (fun t39 z=>
 Ev Tryz.prog 139 [t39,(aa fr 1)] z (fun t41 z=>
 gK t41 true (fun K=>ab (ae z (ag 10 (aa fr 2))) K) (fun t43 z=>
 gK t41 true (fun K=>ab (ae z (aj true 4 t43 z)) K) (fun t44 z=>
 gK t41 true (fun K=>ab (ae z (ag 14 (aa fr 2))) K) (fun t45 z=>
 gK t41 true (fun K=>ab (ae z (aj true 4 t45 z)) K) (fun t46 z=>
 gK t41 true (fun K=>ab (aK 2 4 [.val (.int .u8 0),.val (.int .i64 0),.val (.slice none 0 0),.val (.slice none 0 0)] [(0,t44),(1,t46)] z) K) (fun t47 z=>
 gK t41 true (fun K=>Ev Tryz.prog 142 [t47] z K kp) (fun t48 z=>
 gK t41 true (fun K=>K (aa fr 1) z) (fun t49 z=>
 gK t41 true (fun K=>Ev Tryz.prog 139 [t48,t49] z K kp) (fun t50 z=>
 ab (ae z (aF t41 t50 (.val (.bool false)))) fun t51 z=>
 k t51 z
 ) z) z) z) z) z) z) z) z) kp) kp)) (fun j1=>(
 ab (ae z (ag 0 t2)) fun t29 z=>
 ab (ae z (ag 0 t29)) fun t30 z=>
 ab (ae z (aj false 1 t30 z)) fun t31 z=>
 ab (ae z (ar .eql .prim t31 (.val (.int .u8 13)))) fun t32 z=>
 ay t32 (
 ab (ae z (ag 8 t2)) fun t34 z=>
 ab (ae z (aj false 1 t34 z)) fun t35 z=>
 Ev Tryz.prog 140 [t1,t35] z (fun t36 z=>
 j1 [(1,t36),(2,t2)] z
 ) kp) (
 j1 [(1,t1),(2,t2)] z
 )
 ))
def F107 (t0 t1:AV) (z:ah) (k kp:AV→ah→Prop):Prop:=
 ab (bq t0 z) fun t2 z=>
 ab (ae z (ag 0 t2)) fun t5 z=>
 ab (ae z (ag 0 t5)) fun t6 z=>
 ab (ae z (aj false 1 t6 z)) fun t7 z=>
 ab (ae z (ar .neq .prim t7 (.val (.int .u8 17)))) fun t8 z=>
 gK t8 true (fun K=>K t1 z) (fun t10 z=>
 gK t8 true (fun K=>ab (ae z (ag 7 t2)) K) (fun t11 z=>
 gK t8 true (fun K=>ab (ae z (aj false 1 t11 z)) K) (fun t12 z=>
 gK t8 true (fun K=>Ev Tryz.prog 19 [t10,t12] z K kp) (fun t13 z=>
 gK t8 true (fun K=>ab (ae z (bC t13)) K) (fun t14 z=>
 ab (ae z (aF t8 t14 (.val (.bool false)))) fun t15 z=>
 gK t15 false (fun K=>ab (ae z (ag 0 t2)) K) (fun t17 z=>
 gK t15 false (fun K=>ab (ae z (ag 0 t17)) K) (fun t18 z=>
 gK t15 false (fun K=>ab (ae z (aj false 1 t18 z)) K) (fun t19 z=>
 gK t15 false (fun K=>ab (ae z (ar .eql .prim t19 (.val (.int .u8 18)))) K) (fun t20 z=>
 gK t15 false (fun K=>K t20 z) (fun t21 z=>
 gK t21 true (fun K=>ab (ae z (ag 8 t2)) K) (fun t22 z=>
 gK t21 true (fun K=>ab (ae z (aj false 1 t22 z)) K) (fun t23 z=>
 gK t21 true (fun K=>K t1 z) (fun t24 z=>
 gK t21 true (fun K=>Ev Tryz.prog 139 [t23,t24] z K kp) (fun t25 z=>
 gK t21 true (fun K=>ab (ae z (bC t25)) K) (fun t26 z=>
 gK t15 false (fun K=>ab (ae z (aF t21 t26 (.val (.bool false)))) K) (fun t27 z=>
 ab (ae z (aF t15 (.val (.bool true)) t27)) fun t28 z=>
 ay t28 (
 k (.val (.bool false)) z
 ) (Fy t1 t2 z k kp)) z) z) z) z) z) z) z) z) z) z) z) z) z) z) z) z
theorem As (h:F107 t0 t1 z k kp):Ev Tryz.prog 107 [t0,t1] z k kp:=evF mixed Tryz.func107 [(0,[1,2]),(1,[1,2,28]),(2,[4]),(3006,[1,2]),(3,[1,2,32]),(4,[1,2]),(5,[4])] (by kernel_rfl) (by kernel_rfl) h
def F108 (t0 t1:AV) (z:ah) (k kp:AV→ah→Prop):Prop:=
 ab (bq t1 z) fun t3 z=>
 ab (aR [.val (.int .u8 0),.val (.int .i64 0),.val (.slice none 0 0),.val (.slice none 0 0),.val (.slice none 0 0),.val (.int .i64 0),.val (.int .i64 0)] z) fun t4 z=>
 ab (ae z (ag 0 t3)) fun t10 z=>
 ab (ae z (ag 4 t10)) fun t11 z=>
 ab (ae z (aj false 1 t11 z)) fun t12 z=>
 Ev Tryz.prog 143 [t0,t12] z (fun t13 z=>
 ab (ae z (ar .lss .prim t13 (.val (.int .i64 0)))) fun t15 z=>
 ay t15 (
 ab (ae z (aj true 19 t3 z)) fun t16 z=>
 Ev Tryz.prog 67 [t16,(.val (.int .i64 4))] z (fun t17 z=>
 ab (aG (az 7 t4 t17 z)) fun _ z=>
 aW (aj true 7 t4 z) fun r0=>
 k r0 z
 ) kp) (
 ab (ae z (ak 25 t0 t13 z)) fun t20 z=>
 ab (ae z (aj true 25 t20 z)) fun t21 z=>
 ab (aR [.val (.string ByteArray.empty),.val (.int .u8 0),.val (.int .i64 0),.val (.slice none 0 0),.val (.slice none 0 0),.val (.bool false),.val (.int .u8 0),.val (.int .u8 0),.val (.int .i64 0),.val (.int .i64 0),.val (.string ByteArray.empty),.val (.string ByteArray.empty),.val (.string ByteArray.empty),.val (.int .i64 0),.val (.slice none 0 0),.val (.slice none 0 0),.val (.int .u8 0),.val (.int .i64 0),.val (.slice none 0 0),.val (.slice none 0 0),.val (.int .u8 0),.val (.int .i64 0),.val (.slice none 0 0),.val (.slice none 0 0),.val (.slice none 0 0)] z) fun t6 z=>
 ab (aG (az 25 t6 t21 z)) fun _ z=>
 ab (ae z (ag 0 t3)) fun t22 z=>
 ab (ae z (ag 0 t22)) fun t23 z=>
 ab (ae z (aj false 1 t23 z)) fun t24 z=>
 ab (ae z (ar .eql .prim t24 (.val (.int .u8 2)))) fun t25 z=>
 ay t25 (
 ab (ae z (ag 5 t6)) fun t26 z=>
 ab (ae z (aj false 1 t26 z)) fun t27 z=>
 ay t27 (
 ab (ae z (aj true 19 t3 z)) fun t28 z=>
 Ev Tryz.prog 67 [t28,(.val (.int .i64 5))] z (fun t29 z=>
 ab (aG (az 7 t4 t29 z)) fun _ z=>
 aW (aj true 7 t4 z) fun r0=>
 k r0 z
 ) kp) (
 ab (ae z (ag 1 t6)) fun t30 z=>
 ab (ae z (aj true 4 t30 z)) fun t31 z=>
 ab (aK 0 3 [.val (.int .u8 0),.val (.int .i64 0),.val (.string ByteArray.empty)] [] z) fun t32 z=>
 ab (ae z (aN [.val (.int .u8 0),.val (.int .i64 0),.val (.slice none 0 0),.val (.slice none 0 0),.val (.slice none 0 0),.val (.int .i64 0),.val (.int .i64 0)] [(0,4,t31),(4,1,t32)])) fun t33 z=>
 ab (aG (az 7 t4 t33 z)) fun _ z=>
 aW (aj true 7 t4 z) fun r0=>
 k r0 z
 )
 ) (
 ab (ae z (ag 5 t6)) fun t34 z=>
 ab (ae z (aj false 1 t34 z)) fun t35 z=>
 ab (ae z (bC t35)) fun t36 z=>
 gK t36 false (fun K=>ab (ae z (ag 6 t6)) K) (fun t38 z=>
 gK t36 false (fun K=>ab (ae z (ag 8 t38)) K) (fun t39 z=>
 gK t36 false (fun K=>ab (ae z (aj false 1 t39 z)) K) (fun t40 z=>
 gK t36 false (fun K=>ab (ae z (aE .slice t40 z)) K) (fun t41 z=>
 gK t36 false (fun K=>ab (ae z (ag 8 t3)) K) (fun t42 z=>
 gK t36 false (fun K=>ab (ae z (aj false 1 t42 z)) K) (fun t43 z=>
 gK t36 false (fun K=>ab (ae z (aE .slice t43 z)) K) (fun t44 z=>
 gK t36 false (fun K=>ab (ae z (ar .neq .prim t41 t44)) K) (fun t45 z=>
 ab (ae z (aF t36 (.val (.bool true)) t45)) fun t46 z=>
 ay t46 (
 ab (ae z (aj true 19 t3 z)) fun t47 z=>
 Ev Tryz.prog 67 [t47,(.val (.int .i64 5))] z (fun t48 z=>
 ab (aG (az 7 t4 t48 z)) fun _ z=>
 aW (aj true 7 t4 z) fun r0=>
 k r0 z
 ) kp) (
 ab (ae z (ag 6 t6)) fun t49 z=>
 ab (ae z (ag 9 t49)) fun t50 z=>
 ab (ae z (aj false 1 t50 z)) fun t51 z=>
 ab (ae z (ag 6 t6)) fun t52 z=>
 ab (ae z (ag 8 t52)) fun t53 z=>
 ab (ae z (aj false 1 t53 z)) fun t54 z=>
 ab (ae z (ag 8 t3)) fun t55 z=>
 ab (ae z (aj false 1 t55 z)) fun t56 z=>
 ab (ae z (ag 9 t3)) fun t58 z=>
 ab (ae z (aj false 1 t58 z)) fun t59 z=>
 Ev Tryz.prog 145 [t51,t54,t56] z (fun t57 z=>
 (ab (ae z (aj false 1 t58 z)) (fun y w=>y=t59∧w=z))∧(
 Ev Tryz.prog 144 [t57,t59] z (fun t60 z=>
 ab (ae z (bC t60)) fun t61 z=>
 ay t61 (
 ab (ae z (aj true 19 t3 z)) fun t62 z=>
 Ev Tryz.prog 67 [t62,(.val (.int .i64 6))] z (fun t63 z=>
 ab (aG (az 7 t4 t63 z)) fun _ z=>
 aW (aj true 7 t4 z) fun r0=>
 k r0 z
 ) kp) (
 ab (ae z (ag 6 t6)) fun t64 z=>
 ab (ae z (ag 10 t64)) fun t65 z=>
 ab (ae z (aj true 4 t65 z)) fun t66 z=>
 ab (ae z (ag 6 t6)) fun t67 z=>
 ab (ae z (ag 8 t67)) fun t68 z=>
 ab (ae z (aj false 1 t68 z)) fun t69 z=>
 ab (ae z (ag 8 t3)) fun t70 z=>
 ab (ae z (aj false 1 t70 z)) fun t71 z=>
 Ev Tryz.prog 146 [t66,t69,t71] z (fun t72 z=>
 ab (aR [.val (.int .u8 0),.val (.int .i64 0),.val (.slice none 0 0),.val (.slice none 0 0)] z) fun t7 z=>
 ab (aG (az 4 t7 t72 z)) fun _ z=>
 ab (ae z (ag 6 t6)) fun t73 z=>
 ab (ae z (ag 14 t73)) fun t74 z=>
 ab (ae z (aj true 4 t74 z)) fun t75 z=>
 ab (ae z (ag 6 t6)) fun t76 z=>
 ab (ae z (ag 8 t76)) fun t77 z=>
 ab (ae z (aj false 1 t77 z)) fun t78 z=>
 ab (ae z (ag 8 t3)) fun t79 z=>
 ab (ae z (aj false 1 t79 z)) fun t80 z=>
 Ev Tryz.prog 146 [t75,t78,t80] z (fun t81 z=>
 ab (aR [.val (.int .u8 0),.val (.int .i64 0),.val (.slice none 0 0),.val (.slice none 0 0)] z) fun t8 z=>
 ab (aG (az 4 t8 t81 z)) fun _ z=>
 ab (ae z (ag 7 t3)) fun t82 z=>
 ab (ae z (aj false 1 t82 z)) fun t83 z=>
 ab (ae z (ag 9 t3)) fun t84 z=>
 ab (ae z (aj false 1 t84 z)) fun t85 z=>
 ab (ae z (aj true 4 t7 z)) fun t86 z=>
 ab (ae z (aj true 4 t8 z)) fun t87 z=>
 ab (ae z (aV 2 4 [.val (.int .u8 0),.val (.int .i64 0),.val (.slice none 0 0),.val (.slice none 0 0)] [(0,t86),(1,t87)])) fun t88 z=>
 ab (ae z (ag 6 t6)) fun t90 z=>
 ab (ae z (ag 7 t90)) fun t91 z=>
 ab (ae z (aj false 1 t91 z)) fun t92 z=>
 ab (ae z (ag 7 t3)) fun t94 z=>
 ab (ae z (aj false 1 t94 z)) fun t95 z=>
 Ev Tryz.prog 147 [(.val (.int .u8 4)),t83,t85,t88] z (fun t89 z=>
 (ab (ae z (aj false 1 t91 z)) (fun y w=>y=t92∧w=z))∧(
 (ab (ae z (aj false 1 t94 z)) (fun y w=>y=t95∧w=z))∧(
 Ev Tryz.prog 148 [t92] z (fun t93 z=>
 (ab (ae z (aj false 1 t94 z)) (fun y w=>y=t95∧w=z))∧(
 Ev Tryz.prog 149 [t95] z (fun t96 z=>
 ab (ae z (aV 2 3 [.val (.int .u8 0),.val (.int .i64 0),.val (.string ByteArray.empty)] [(0,t93),(1,t96)])) fun t97 z=>
 Ev Tryz.prog 36 [t97] z (fun t98 z=>
 ab (ae z (aN [.val (.int .u8 0),.val (.int .i64 0),.val (.slice none 0 0),.val (.slice none 0 0),.val (.slice none 0 0),.val (.int .i64 0),.val (.int .i64 0)] [(0,4,t89),(4,1,t98)])) fun t99 z=>
 ab (aG (az 7 t4 t99 z)) fun _ z=>
 aW (aj true 7 t4 z) fun r0=>
 k r0 z
 ) kp) kp)) kp))) kp) kp) kp)
 ) kp)) kp)
 ) z) z) z) z) z) z) z) z)
 )) kp
theorem Au (h:F108 t0 t1 z k kp):Ev Tryz.prog 108 [t0,t1] z k kp:=evF mixed Tryz.func108 [(0,[0,3,4]),(1,[0,3,4,5]),(2,[0,3,4,5,15]),(3,[4]),(4,[3,4,6]),(5,[3,4,6,25]),(6,[3,4,6,27]),(7,[4]),(8,[4]),(9,[3,4,6,46]),(10,[4]),(11,[3,4,6,61]),(2011,[0,1,2,3,4,5,6,7,9,10,8,11,12]),(111008,[10]),(12,[4]),(13,[3,4,6,7]),(14,[3,4,6,7,8]),(15,[4]),(2015,[0,1,2,3,4,5,6,8,9,10,12,13,7,11,14,15,16,17,18]),(115007,[10,13]),(115011,[13])] (by kernel_rfl) (by kernel_rfl) h
def F109 (t0 t1 t2 t3 t4:AV) (z:ah) (k kp:AV→ah→Prop):Prop:=
 ab (bq t2 z) fun t7 z=>
 bk (fun fr z=>(
 k (.tup [(aa fr 0),(aa fr 1)]) z
 )) (fun j1=>(
 ab (ae z (ag 0 t7)) fun t12 z=>
 ab (ae z (ag 0 t12)) fun t13 z=>
 ab (ae z (aj false 1 t13 z)) fun t14 z=>
 ab (ae z (ar .eql .prim t14 (.val (.int .u8 11)))) fun t16 z=>
 ay t16 (
 ab (ae z (ag 0 t7)) fun t18 z=>
 ab (ae z (ag 5 t18)) fun t19 z=>
 ab (ae z (aj false 1 t19 z)) fun t20 z=>
 ab (ae z (ag 10 t7)) fun t21 z=>
 ab (ae z (aj true 4 t21 z)) fun t22 z=>
 ab (ae z (aN [.val (.string ByteArray.empty),.val (.int .u8 0),.val (.int .i64 0),.val (.slice none 0 0),.val (.slice none 0 0),.val (.bool false),.val (.int .u8 0),.val (.int .u8 0),.val (.int .i64 0),.val (.int .i64 0),.val (.string ByteArray.empty),.val (.string ByteArray.empty),.val (.string ByteArray.empty),.val (.int .i64 0),.val (.slice none 0 0),.val (.slice none 0 0),.val (.int .u8 0),.val (.int .i64 0),.val (.slice none 0 0),.val (.slice none 0 0),.val (.int .u8 0),.val (.int .i64 0),.val (.slice none 0 0),.val (.slice none 0 0),.val (.slice none 0 0)] [(0,1,t20),(1,4,t22)])) fun t23 z=>
 Ev Tryz.prog 150 [t0,t23] z (fun t24 z=>
 k (.tup [t24,t1]) z
 ) kp) (
 ab (ae z (ar .eql .prim t14 (.val (.int .u8 12)))) fun t27 z=>
 ay t27 (
 ab (ae z (ar .eql .prim t3 (.val (.int .i64 1)))) fun t29 z=>
 ay t29 (
 ab (ae z (ag 0 t7)) fun t31 z=>
 ab (ae z (ag 4 t31)) fun t32 z=>
 ab (ae z (aj false 1 t32 z)) fun t33 z=>
 ab (ae z (ak 7 t4 (.val (.int .i64 0)) z)) fun t35 z=>
 ab (ae z (ag 0 t35)) fun t36 z=>
 ab (ae z (aj true 4 t36 z)) fun t37 z=>
 ab (ae z (aN [.val (.string ByteArray.empty),.val (.int .u8 0),.val (.int .i64 0),.val (.slice none 0 0),.val (.slice none 0 0),.val (.bool false),.val (.int .u8 0),.val (.int .u8 0),.val (.int .i64 0),.val (.int .i64 0),.val (.string ByteArray.empty),.val (.string ByteArray.empty),.val (.string ByteArray.empty),.val (.int .i64 0),.val (.slice none 0 0),.val (.slice none 0 0),.val (.int .u8 0),.val (.int .i64 0),.val (.slice none 0 0),.val (.slice none 0 0),.val (.int .u8 0),.val (.int .i64 0),.val (.slice none 0 0),.val (.slice none 0 0),.val (.slice none 0 0)] [(0,1,t33),(1,4,t37)])) fun t38 z=>
 Ev Tryz.prog 150 [t0,t38] z (fun t39 z=>
 k (.tup [t39,t1]) z
 ) kp) (
 j1 [(0,t0),(1,t1)] z
 )
 ) (
 ab (ae z (ar .eql .prim t14 (.val (.int .u8 13)))) fun t42 z=>
 ay t42 (
 ab (ae z (ag 0 t7)) fun t44 z=>
 ab (ae z (ag 4 t44)) fun t45 z=>
 ab (ae z (aj false 1 t45 z)) fun t46 z=>
 ab (ae z (aj true 19 t7 z)) fun t47 z=>
 ab (ae z (aN [.val (.string ByteArray.empty),.val (.int .u8 0),.val (.int .i64 0),.val (.slice none 0 0),.val (.slice none 0 0),.val (.bool false),.val (.int .u8 0),.val (.int .u8 0),.val (.int .i64 0),.val (.int .i64 0),.val (.string ByteArray.empty),.val (.string ByteArray.empty),.val (.string ByteArray.empty),.val (.int .i64 0),.val (.slice none 0 0),.val (.slice none 0 0),.val (.int .u8 0),.val (.int .i64 0),.val (.slice none 0 0),.val (.slice none 0 0),.val (.int .u8 0),.val (.int .i64 0),.val (.slice none 0 0),.val (.slice none 0 0),.val (.slice none 0 0)] [(0,1,t46),(5,1,(.val (.bool true))),(6,19,t47)])) fun t48 z=>
 Ev Tryz.prog 150 [t0,t48] z (fun t49 z=>
 ab (ae z (ar .eql .prim t3 (.val (.int .i64 0)))) fun t51 z=>
 ay t51 (
 ab (ae z (ag 0 t7)) fun t53 z=>
 ab (ae z (ag 5 t53)) fun t54 z=>
 ab (ae z (aj false 1 t54 z)) fun t55 z=>
 ab (ae z (ag 10 t7)) fun t56 z=>
 ab (ae z (aj true 4 t56 z)) fun t57 z=>
 ab (ae z (aN [.val (.string ByteArray.empty),.val (.int .u8 0),.val (.int .i64 0),.val (.slice none 0 0),.val (.slice none 0 0),.val (.bool false),.val (.int .u8 0),.val (.int .u8 0),.val (.int .i64 0),.val (.int .i64 0),.val (.string ByteArray.empty),.val (.string ByteArray.empty),.val (.string ByteArray.empty),.val (.int .i64 0),.val (.slice none 0 0),.val (.slice none 0 0),.val (.int .u8 0),.val (.int .i64 0),.val (.slice none 0 0),.val (.slice none 0 0),.val (.int .u8 0),.val (.int .i64 0),.val (.slice none 0 0),.val (.slice none 0 0),.val (.slice none 0 0)] [(0,1,t55),(1,4,t57)])) fun t58 z=>
 ab (ae z (ag 8 t7)) fun t61 z=>
 ab (ae z (aj false 1 t61 z)) fun t62 z=>
 Ev Tryz.prog 150 [t49,t58] z (fun t59 z=>
 (ab (ae z (aj false 1 t61 z)) (fun y w=>y=t62∧w=z))∧(
 Ev Tryz.prog 140 [t1,t62] z (fun t63 z=>
 k (.tup [t59,t63]) z
 ) kp)) kp) (
 k (.tup [t49,t1]) z
 )
 ) kp) (
 ab (ae z (ar .eql .prim t14 (.val (.int .u8 16)))) fun t67 z=>
 ay t67 (
 ab (ae z (ar .eql .prim t3 (.val (.int .i64 1)))) fun t69 z=>
 ay t69 (
 ab (ae z (ag 0 t7)) fun t71 z=>
 ab (ae z (ag 5 t71)) fun t72 z=>
 ab (ae z (aj false 1 t72 z)) fun t73 z=>
 Ev Tryz.prog 151 [] z (fun t74 z=>
 (ab (ae z (aj false 1 t72 z)) (fun y w=>y=t73∧w=z))∧(
 ab (ae z (aN [.val (.string ByteArray.empty),.val (.int .u8 0),.val (.int .i64 0),.val (.slice none 0 0),.val (.slice none 0 0),.val (.bool false),.val (.int .u8 0),.val (.int .u8 0),.val (.int .i64 0),.val (.int .i64 0),.val (.string ByteArray.empty),.val (.string ByteArray.empty),.val (.string ByteArray.empty),.val (.int .i64 0),.val (.slice none 0 0),.val (.slice none 0 0),.val (.int .u8 0),.val (.int .i64 0),.val (.slice none 0 0),.val (.slice none 0 0),.val (.int .u8 0),.val (.int .i64 0),.val (.slice none 0 0),.val (.slice none 0 0),.val (.slice none 0 0)] [(0,1,t73),(1,4,t74)])) fun t75 z=>
 Ev Tryz.prog 150 [t0,t75] z (fun t76 z=>
 k (.tup [t76,t1]) z
 ) kp)) kp) (
 j1 [(0,t0),(1,t1)] z
 )
 ) (
 ab (ae z (ar .eql .prim t14 (.val (.int .u8 17)))) fun t79 z=>
 ay t79 (
 ab (ae z (ag 7 t7)) fun t82 z=>
 ab (ae z (aj false 1 t82 z)) fun t83 z=>
 ab (aK 1 1 [.val (.int .i64 0)] [(0,t83)] z) fun t84 z=>
 Ev Tryz.prog 140 [t1,t84] z (fun t85 z=>
 k (.tup [t0,t85]) z
 ) kp) (
 j1 [(0,t0),(1,t1)] z
 )
 )
 )
 )
 )
 ))
theorem Av (h:F109 t0 t1 t2 t3 t4 z k kp):Ev Tryz.prog 109 [t0,t1,t2,t3,t4] z k kp:=evF mixed Tryz.func109 [(0,[0,1,3,4,7]),(3018,[0,1]),(1,[0,1,3,4,7,14]),(2,[0,1,3,4,7,14,15]),(3,[10,11]),(4,[0,1,3,4,7,14,26]),(5,[0,1,4,7,29]),(6,[10,11]),(2006,[0,1,2,3,4,5,6,7,8,10,9,11,12]),(7,[0,1,3,7,14,41]),(8,[0,1,3,7]),(9,[0,1,7,51]),(10,[10,11]),(2010,[0,1,2,3,4,5,6,8,9,10,7,11,12,13]),(110007,[10]),(11,[10,11]),(12,[0,1,3,7,14,66]),(13,[0,1,7,69]),(14,[10,11]),(2014,[0,1,2,3,7,4,5,6,8,9]),(114004,[3]),(15,[0,1,7,78]),(16,[10,11]),(17,[10,11])] (by kernel_rfl) (by kernel_rfl) h
def G17 (fr:aA) (j2:aA→ah→Prop) (z:ah) (kp:AV→ah→Prop):Prop:=
 ab (ae z (ak 7 (aa fr 1) (.val (.int .i64 0)) z)) fun t345 z=>
 ab (ae z (ag 0 t345)) fun t346 z=>
 ab (ae z (aj true 4 t346 z)) fun t347 z=>
 ab (aG (az 4 (aa fr 9) t347 z)) fun _ z=>
 ab (ae z (aj true 4 (aa fr 9) z)) fun t348 z=>
 ab (ae z (ag 7 (aa fr 2))) fun t350 z=>
 ab (ae z (aj false 1 t350 z)) fun t351 z=>
 Ev Tryz.prog 154 [t348] z (fun t349 z=>
 (ab (ae z (aj false 1 t350 z)) (fun y w=>y=t351∧w=z))∧(
 Ev Tryz.prog 19 [t349,t351] z (fun t352 z=>
 ab (ae z (bC t352)) fun t353 z=>
 ab (ae z (ak 7 (aa fr 1) (.val (.int .i64 0)) z)) fun t355 z=>
 ab (ae z (ag 4 t355)) fun t356 z=>
 ab (ae z (aj false 1 t356 z)) fun t357 z=>
 ab (ae z (ag 7 (aa fr 2))) fun t358 z=>
 ab (ae z (aj false 1 t358 z)) fun t359 z=>
 ab (ae z (aV 1 1 [.val (.int .i64 0)] [(0,t359)])) fun t360 z=>
 Ev Tryz.prog 155 [t357,t360] z (fun t361 z=>
 j2 [(2,(aa fr 2)),(4,(aa fr 4)),(5,t361),(7,(aa fr 7)),(8,t353),(9,(aa fr 9))] z
 ) kp) kp)) kp
def G16 (fr:aA) (j2:aA→ah→Prop) (z:ah) (kp:AV→ah→Prop):Prop:=
 ab (ae z (ak 7 (aa fr 1) (.val (.int .i64 0)) z)) fun t316 z=>
 ab (ae z (ag 0 t316)) fun t317 z=>
 ab (ae z (aj true 4 t317 z)) fun t318 z=>
 ab (ae z (ak 7 (aa fr 1) (.val (.int .i64 1)) z)) fun t320 z=>
 ab (ae z (ag 0 t320)) fun t321 z=>
 ab (ae z (aj true 4 t321 z)) fun t322 z=>
 Ev Tryz.prog 152 [t318,t322] z (fun t323 z=>
 ab (ae z (ak 7 (aa fr 1) (.val (.int .i64 0)) z)) fun t325 z=>
 ab (ae z (ag 0 t325)) fun t326 z=>
 ab (ae z (aj true 4 t326 z)) fun t327 z=>
 ab (aG (az 4 (aa fr 9) t327 z)) fun _ z=>
 ab (ae z (ak 7 (aa fr 1) (.val (.int .i64 0)) z)) fun t329 z=>
 ab (ae z (ag 4 t329)) fun t330 z=>
 ab (ae z (aj false 1 t330 z)) fun t331 z=>
 ab (ae z (ag 0 (aa fr 2))) fun t332 z=>
 ab (ae z (ag 6 t332)) fun t333 z=>
 ab (ae z (aj false 1 t333 z)) fun t334 z=>
 ab (ae z (aV 1 1 [.val (.string ByteArray.empty)] [(0,t334)])) fun t335 z=>
 ab (ae z (ak 7 (aa fr 1) (.val (.int .i64 1)) z)) fun t338 z=>
 ab (ae z (ag 4 t338)) fun t339 z=>
 ab (ae z (aj false 1 t339 z)) fun t340 z=>
 Ev Tryz.prog 153 [t331,t335] z (fun t336 z=>
 (ab (ae z (ak 7 (aa fr 1) (.val (.int .i64 1)) z)) (fun y w=>y=t338∧w=z))∧(
 (ab (ae z (aj false 1 t339 z)) (fun y w=>y=t340∧w=z))∧(
 ab (aY 3 32 t336 t340 z) fun t341 z=>
 j2 [(2,(aa fr 2)),(4,(aa fr 4)),(5,t341),(7,t323),(8,(aa fr 8)),(9,(aa fr 9))] z
 ))) kp) kp
def G15 (fr:aA) (j2:aA→ah→Prop) (z:ah) (kp:AV→ah→Prop):Prop:=
 ab (ae z (ak 7 (aa fr 1) (.val (.int .i64 0)) z)) fun t299 z=>
 ab (ae z (ag 0 t299)) fun t300 z=>
 ab (ae z (ag 0 t300)) fun t301 z=>
 ab (ae z (aj false 1 t301 z)) fun t302 z=>
 ab (ae z (ar .eql .prim t302 (.val (.int .u8 1)))) fun t303 z=>
 ab (ae z (ag 10 (aa fr 2))) fun t304 z=>
 ab (ae z (aj true 4 t304 z)) fun t305 z=>
 ab (aG (az 4 (aa fr 9) t305 z)) fun _ z=>
 ab (ae z (ag 0 (aa fr 2))) fun t307 z=>
 ab (ae z (ag 6 t307)) fun t308 z=>
 ab (ae z (aj false 1 t308 z)) fun t309 z=>
 ab (ae z (aN [.val (.int .u8 0),.val (.int .i64 0),.val (.string ByteArray.empty)] [(0,1,(.val (.int .u8 3))),(2,1,t309)])) fun t310 z=>
 ab (aK 1 3 [.val (.int .u8 0),.val (.int .i64 0),.val (.string ByteArray.empty)] [(0,t310)] z) fun t311 z=>
 ab (aY 3 32 (aa fr 5) t311 z) fun t312 z=>
 j2 [(2,(aa fr 2)),(4,(aa fr 4)),(5,t312),(7,t303),(8,(aa fr 8)),(9,(aa fr 9))] z
def G14 (fr:aA) (j2:aA→ah→Prop) (z:ah) (kp:AV→ah→Prop):Prop:=
 ab (ae z (ak 7 (aa fr 1) (.val (.int .i64 0)) z)) fun t276 z=>
 ab (ae z (ag 0 t276)) fun t277 z=>
 ab (ae z (ag 0 t277)) fun t278 z=>
 ab (ae z (aj false 1 t278 z)) fun t279 z=>
 ab (ae z (ar .eql .prim t279 (.val (.int .u8 1)))) fun t280 z=>
 gK t280 true (fun K=>K (aa fr 1) z) (fun t282 z=>
 gK t280 true (fun K=>ab (ae z (ak 7 t282 (.val (.int .i64 1)) z)) K) (fun t283 z=>
 gK t280 true (fun K=>ab (ae z (ag 0 t283)) K) (fun t284 z=>
 gK t280 true (fun K=>ab (ae z (aj true 4 t284 z)) K) (fun t285 z=>
 gK t280 true (fun K=>K (aa fr 1) z) (fun t286 z=>
 gK t280 true (fun K=>ab (ae z (ak 7 t286 (.val (.int .i64 2)) z)) K) (fun t287 z=>
 gK t280 true (fun K=>ab (ae z (ag 0 t287)) K) (fun t288 z=>
 gK t280 true (fun K=>ab (ae z (aj true 4 t288 z)) K) (fun t289 z=>
 gK t280 true (fun K=>Ev Tryz.prog 152 [t285,t289] z K kp) (fun t290 z=>
 ab (ae z (aF t280 t290 (.val (.bool false)))) fun t291 z=>
 ab (ae z (ak 7 (aa fr 1) (.val (.int .i64 1)) z)) fun t293 z=>
 ab (ae z (ag 0 t293)) fun t294 z=>
 ab (ae z (aj true 4 t294 z)) fun t295 z=>
 ab (aG (az 4 (aa fr 9) t295 z)) fun _ z=>
 j2 [(2,(aa fr 2)),(4,(aa fr 4)),(5,(aa fr 5)),(7,t291),(8,(aa fr 8)),(9,(aa fr 9))] z
 ) z) z) z) z) z) z) z) z) z
def G13 (fr:aA) (j2:aA→ah→Prop) (z:ah) (kp:AV→ah→Prop):Prop:=
 ab (ae z (ak 7 (aa fr 1) (.val (.int .i64 0)) z)) fun t247 z=>
 ab (ae z (ag 0 t247)) fun t248 z=>
 ab (ae z (aj true 4 t248 z)) fun t249 z=>
 ab (ae z (ag 14 (aa fr 2))) fun t250 z=>
 ab (ae z (aj true 4 t250 z)) fun t251 z=>
 Ev Tryz.prog 152 [t249,t251] z (fun t252 z=>
 ab (ae z (ak 7 (aa fr 1) (.val (.int .i64 0)) z)) fun t254 z=>
 ab (ae z (ag 4 t254)) fun t255 z=>
 ab (ae z (aj false 1 t255 z)) fun t256 z=>
 ab (ae z (ag 9 (aa fr 2))) fun t257 z=>
 ab (ae z (aj false 1 t257 z)) fun t258 z=>
 Ev Tryz.prog 144 [t256,t258] z (fun t259 z=>
 ab (ae z (ak 7 (aa fr 1) (.val (.int .i64 1)) z)) fun t261 z=>
 ab (ae z (ag 0 t261)) fun t262 z=>
 ab (ae z (aj true 4 t262 z)) fun t263 z=>
 ab (aG (az 4 (aa fr 9) t263 z)) fun _ z=>
 ab (ae z (ag 7 (aa fr 2))) fun t264 z=>
 ab (ae z (aj false 1 t264 z)) fun t265 z=>
 ab (ae z (ak 7 (aa fr 1) (.val (.int .i64 1)) z)) fun t269 z=>
 ab (ae z (ag 4 t269)) fun t270 z=>
 ab (ae z (aj false 1 t270 z)) fun t271 z=>
 Ev Tryz.prog 149 [t265] z (fun t266 z=>
 (ab (ae z (ak 7 (aa fr 1) (.val (.int .i64 1)) z)) (fun y w=>y=t269∧w=z))∧(
 (ab (ae z (aj false 1 t270 z)) (fun y w=>y=t271∧w=z))∧(
 ab (ae z (aV 1 3 [.val (.int .u8 0),.val (.int .i64 0),.val (.string ByteArray.empty)] [(0,t266)])) fun t267 z=>
 ab (aY 3 32 t267 t271 z) fun t272 z=>
 j2 [(2,(aa fr 2)),(4,(aa fr 4)),(5,t272),(7,t252),(8,t259),(9,(aa fr 9))] z
 ))) kp) kp) kp
def G12 (fr:aA) (j2:aA→ah→Prop) (z:ah) (kp:AV→ah→Prop):Prop:=
 ab (ae z (ak 7 (aa fr 1) (.val (.int .i64 1)) z)) fun t241 z=>
 ab (ae z (ag 0 t241)) fun t242 z=>
 ab (ae z (aj true 4 t242 z)) fun t243 z=>
 ab (aG (az 4 (aa fr 9) t243 z)) fun _ z=>
 j2 [(2,(aa fr 2)),(4,(aa fr 4)),(5,(aa fr 5)),(7,(aa fr 7)),(8,(aa fr 8)),(9,(aa fr 9))] z
def G11 (fr:aA) (j2:aA→ah→Prop) (z:ah) (kp:AV→ah→Prop):Prop:=
 ab (ae z (ag 7 (aa fr 2))) fun t215 z=>
 ab (ae z (aj false 1 t215 z)) fun t216 z=>
 ab (ae z (ag 9 (aa fr 2))) fun t217 z=>
 ab (ae z (aj false 1 t217 z)) fun t218 z=>
 ab (ae z (ag 10 (aa fr 2))) fun t219 z=>
 ab (ae z (aj true 4 t219 z)) fun t220 z=>
 ab (ae z (ak 7 (aa fr 1) (.val (.int .i64 0)) z)) fun t222 z=>
 ab (ae z (ag 0 t222)) fun t223 z=>
 ab (ae z (aj true 4 t223 z)) fun t224 z=>
 ab (ae z (aV 2 4 [.val (.int .u8 0),.val (.int .i64 0),.val (.slice none 0 0),.val (.slice none 0 0)] [(0,t220),(1,t224)])) fun t225 z=>
 Ev Tryz.prog 147 [(.val (.int .u8 4)),t216,t218,t225] z (fun t226 z=>
 ab (aG (az 4 (aa fr 9) t226 z)) fun _ z=>
 ab (ae z (ak 7 (aa fr 1) (.val (.int .i64 0)) z)) fun t228 z=>
 ab (ae z (ag 4 t228)) fun t229 z=>
 ab (ae z (aj false 1 t229 z)) fun t230 z=>
 ab (ae z (ag 9 (aa fr 2))) fun t231 z=>
 ab (ae z (aj false 1 t231 z)) fun t232 z=>
 Ev Tryz.prog 144 [t230,t232] z (fun t233 z=>
 ab (ae z (ag 7 (aa fr 2))) fun t234 z=>
 ab (ae z (aj false 1 t234 z)) fun t235 z=>
 Ev Tryz.prog 149 [t235] z (fun t236 z=>
 ab (aK 1 3 [.val (.int .u8 0),.val (.int .i64 0),.val (.string ByteArray.empty)] [(0,t236)] z) fun t237 z=>
 j2 [(2,(aa fr 2)),(4,(aa fr 4)),(5,t237),(7,(aa fr 7)),(8,t233),(9,(aa fr 9))] z
 ) kp) kp) kp
def G10 (fr:aA) (j2:aA→ah→Prop) (z:ah) (kp:AV→ah→Prop):Prop:=
 ab (ae z (ak 7 (aa fr 1) (.val (.int .i64 0)) z)) fun t171 z=>
 ab (ae z (ag 0 t171)) fun t172 z=>
 ab (ae z (ag 0 t172)) fun t173 z=>
 ab (ae z (aj false 1 t173 z)) fun t174 z=>
 ab (ae z (ar .eql .prim t174 (.val (.int .u8 4)))) fun t175 z=>
 gK t175 true (fun K=>K (aa fr 1) z) (fun t177 z=>
 gK t175 true (fun K=>ab (ae z (ak 7 t177 (.val (.int .i64 0)) z)) K) (fun t178 z=>
 gK t175 true (fun K=>ab (ae z (ag 0 t178)) K) (fun t179 z=>
 gK t175 true (fun K=>ab (ae z (ag 3 t179)) K) (fun t180 z=>
 gK t175 true (fun K=>ab (ae z (aj false 1 t180 z)) K) (fun t181 z=>
 gK t175 true (fun K=>ab (ae z (ak 4 t181 (.val (.int .i64 0)) z)) K) (fun t182 z=>
 gK t175 true (fun K=>ab (ae z (aj true 4 t182 z)) K) (fun t183 z=>
 gK t175 true (fun K=>K (aa fr 1) z) (fun t184 z=>
 gK t175 true (fun K=>ab (ae z (ak 7 t184 (.val (.int .i64 1)) z)) K) (fun t185 z=>
 gK t175 true (fun K=>ab (ae z (ag 0 t185)) K) (fun t186 z=>
 gK t175 true (fun K=>ab (ae z (aj true 4 t186 z)) K) (fun t187 z=>
 gK t175 true (fun K=>Ev Tryz.prog 152 [t183,t187] z K kp) (fun t188 z=>
 ab (ae z (aF t175 t188 (.val (.bool false)))) fun t189 z=>
 ay t189 (
 ab (ae z (ak 7 (aa fr 1) (.val (.int .i64 0)) z)) fun t192 z=>
 ab (ae z (ag 0 t192)) fun t193 z=>
 ab (ae z (ag 3 t193)) fun t194 z=>
 ab (ae z (aj false 1 t194 z)) fun t195 z=>
 ab (ae z (ak 4 t195 (.val (.int .i64 1)) z)) fun t196 z=>
 ab (ae z (aj true 4 t196 z)) fun t197 z=>
 ab (aG (az 4 (aa fr 9) t197 z)) fun _ z=>
 ab (ae z (ak 7 (aa fr 1) (.val (.int .i64 0)) z)) fun t200 z=>
 ab (ae z (ag 0 t200)) fun t201 z=>
 ab (ae z (ag 1 t201)) fun t202 z=>
 ab (ae z (aj false 1 t202 z)) fun t203 z=>
 ab (ae z (ak 7 (aa fr 1) (.val (.int .i64 0)) z)) fun t208 z=>
 ab (ae z (ag 0 t208)) fun t209 z=>
 ab (ae z (ag 2 t209)) fun t210 z=>
 ab (ae z (aj false 1 t210 z)) fun t211 z=>
 Ev Tryz.prog 148 [t203] z (fun t204 z=>
 (ab (ae z (ak 7 (aa fr 1) (.val (.int .i64 0)) z)) (fun y w=>y=t208∧w=z))∧(
 (ab (ae z (aj false 1 t210 z)) (fun y w=>y=t211∧w=z))∧(
 ab (ae z (aV 1 3 [.val (.int .u8 0),.val (.int .i64 0),.val (.string ByteArray.empty)] [(0,t204)])) fun t205 z=>
 ab (aY 3 32 (aa fr 5) t205 z) fun t206 z=>
 (ab (ae z (ak 7 (aa fr 1) (.val (.int .i64 0)) z)) (fun y w=>y=t208∧w=z))∧(
 (ab (ae z (aj false 1 t210 z)) (fun y w=>y=t211∧w=z))∧(
 ab (aY 3 32 t206 t211 z) fun t212 z=>
 j2 [(2,(aa fr 2)),(4,(aa fr 4)),(5,t212),(7,t189),(8,(aa fr 8)),(9,(aa fr 9))] z
 ))))) kp) (
 j2 [(2,(aa fr 2)),(4,(aa fr 4)),(5,(aa fr 5)),(7,t189),(8,(aa fr 8)),(9,(aa fr 9))] z
 )
 ) z) z) z) z) z) z) z) z) z) z) z) z
def G9 (fr:aA) (j2:aA→ah→Prop) (z:ah) (kp:AV→ah→Prop):Prop:=
 ab (ae z (ak 7 (aa fr 1) (.val (.int .i64 0)) z)) fun t155 z=>
 ab (ae z (ag 0 t155)) fun t156 z=>
 ab (ae z (ag 0 t156)) fun t157 z=>
 ab (ae z (aj false 1 t157 z)) fun t158 z=>
 ab (ae z (ar .eql .prim t158 (.val (.int .u8 1)))) fun t159 z=>
 gK t159 true (fun K=>K (aa fr 1) z) (fun t161 z=>
 gK t159 true (fun K=>ab (ae z (ak 7 t161 (.val (.int .i64 1)) z)) K) (fun t162 z=>
 gK t159 true (fun K=>ab (ae z (ag 0 t162)) K) (fun t163 z=>
 gK t159 true (fun K=>ab (ae z (ag 0 t163)) K) (fun t164 z=>
 gK t159 true (fun K=>ab (ae z (aj false 1 t164 z)) K) (fun t165 z=>
 gK t159 true (fun K=>ab (ae z (ar .eql .prim t165 (.val (.int .u8 1)))) K) (fun t166 z=>
 ab (ae z (aF t159 t166 (.val (.bool false)))) fun t167 z=>
 j2 [(2,(aa fr 2)),(4,(aa fr 4)),(5,(aa fr 5)),(7,t167),(8,(aa fr 8)),(9,(aa fr 9))] z
 ) z) z) z) z) z) z
def G8 (fr:aA) (j2:aA→ah→Prop) (z:ah) (kp:AV→ah→Prop):Prop:=
 ab (ae z (ak 7 (aa fr 1) (.val (.int .i64 0)) z)) fun t124 z=>
 ab (ae z (ag 0 t124)) fun t125 z=>
 ab (ae z (ag 0 t125)) fun t126 z=>
 ab (ae z (aj false 1 t126 z)) fun t127 z=>
 ab (ae z (ar .eql .prim t127 (.val (.int .u8 3)))) fun t128 z=>
 gK t128 true (fun K=>K (aa fr 1) z) (fun t130 z=>
 gK t128 true (fun K=>ab (ae z (ak 7 t130 (.val (.int .i64 0)) z)) K) (fun t131 z=>
 gK t128 true (fun K=>ab (ae z (ag 0 t131)) K) (fun t132 z=>
 gK t128 true (fun K=>ab (ae z (ag 3 t132)) K) (fun t133 z=>
 gK t128 true (fun K=>ab (ae z (aj false 1 t133 z)) K) (fun t134 z=>
 gK t128 true (fun K=>ab (ae z (ak 4 t134 (.val (.int .i64 0)) z)) K) (fun t135 z=>
 gK t128 true (fun K=>ab (ae z (aj true 4 t135 z)) K) (fun t136 z=>
 gK t128 true (fun K=>K (aa fr 1) z) (fun t137 z=>
 gK t128 true (fun K=>ab (ae z (ak 7 t137 (.val (.int .i64 1)) z)) K) (fun t138 z=>
 gK t128 true (fun K=>ab (ae z (ag 0 t138)) K) (fun t139 z=>
 gK t128 true (fun K=>ab (ae z (aj true 4 t139 z)) K) (fun t140 z=>
 gK t128 true (fun K=>Ev Tryz.prog 152 [t136,t140] z K kp) (fun t141 z=>
 ab (ae z (aF t128 t141 (.val (.bool false)))) fun t142 z=>
 ab (ae z (ak 7 (aa fr 1) (.val (.int .i64 0)) z)) fun t145 z=>
 ab (ae z (ag 0 t145)) fun t146 z=>
 ab (ae z (ag 1 t146)) fun t147 z=>
 ab (ae z (aj false 1 t147 z)) fun t148 z=>
 Ev Tryz.prog 149 [t148] z (fun t149 z=>
 ab (aK 1 3 [.val (.int .u8 0),.val (.int .i64 0),.val (.string ByteArray.empty)] [(0,t149)] z) fun t150 z=>
 ab (aY 3 32 (aa fr 5) t150 z) fun t151 z=>
 j2 [(2,(aa fr 2)),(4,(aa fr 4)),(5,t151),(7,t142),(8,(aa fr 8)),(9,(aa fr 9))] z
 ) kp) z) z) z) z) z) z) z) z) z) z) z) z
def G7 (fr:aA) (j2:aA→ah→Prop) (z:ah) (kp:AV→ah→Prop):Prop:=
 ab (ae z (ak 7 (aa fr 1) (.val (.int .i64 0)) z)) fun t99 z=>
 ab (ae z (ag 0 t99)) fun t100 z=>
 ab (ae z (ag 0 t100)) fun t101 z=>
 ab (ae z (aj false 1 t101 z)) fun t102 z=>
 ab (ae z (ar .eql .prim t102 (.val (.int .u8 3)))) fun t103 z=>
 ay t103 (
 ab (ae z (ak 7 (aa fr 1) (.val (.int .i64 0)) z)) fun t106 z=>
 ab (ae z (ag 0 t106)) fun t107 z=>
 ab (ae z (ag 3 t107)) fun t108 z=>
 ab (ae z (aj false 1 t108 z)) fun t109 z=>
 ab (ae z (ak 4 t109 (.val (.int .i64 0)) z)) fun t110 z=>
 ab (ae z (aj true 4 t110 z)) fun t111 z=>
 ab (aG (az 4 (aa fr 9) t111 z)) fun _ z=>
 ab (ae z (ak 7 (aa fr 1) (.val (.int .i64 0)) z)) fun t114 z=>
 ab (ae z (ag 0 t114)) fun t115 z=>
 ab (ae z (ag 1 t115)) fun t116 z=>
 ab (ae z (aj false 1 t116 z)) fun t117 z=>
 Ev Tryz.prog 148 [t117] z (fun t118 z=>
 ab (aK 1 3 [.val (.int .u8 0),.val (.int .i64 0),.val (.string ByteArray.empty)] [(0,t118)] z) fun t119 z=>
 ab (aY 3 32 (aa fr 5) t119 z) fun t120 z=>
 j2 [(2,(aa fr 2)),(4,(aa fr 4)),(5,t120),(7,t103),(8,(aa fr 8)),(9,(aa fr 9))] z
 ) kp) (
 j2 [(2,(aa fr 2)),(4,(aa fr 4)),(5,(aa fr 5)),(7,t103),(8,(aa fr 8)),(9,(aa fr 9))] z
 )
def G6 (fr:aA) (j2:aA→ah→Prop) (z:ah) (kp:AV→ah→Prop):Prop:=
 ab (ae z (ag 7 (aa fr 2))) fun t81 z=>
 ab (ae z (aj false 1 t81 z)) fun t82 z=>
 ab (ae z (aV 0 3 [.val (.int .u8 0),.val (.int .i64 0),.val (.string ByteArray.empty)] [])) fun t83 z=>
 ab (ae z (ak 7 (aa fr 1) (.val (.int .i64 0)) z)) fun t85 z=>
 ab (ae z (ag 0 t85)) fun t86 z=>
 ab (ae z (aj true 4 t86 z)) fun t87 z=>
 ab (ae z (aV 1 4 [.val (.int .u8 0),.val (.int .i64 0),.val (.slice none 0 0),.val (.slice none 0 0)] [(0,t87)])) fun t88 z=>
 Ev Tryz.prog 147 [(.val (.int .u8 3)),t82,t83,t88] z (fun t89 z=>
 ab (aG (az 4 (aa fr 9) t89 z)) fun _ z=>
 ab (ae z (ag 7 (aa fr 2))) fun t91 z=>
 ab (ae z (aj false 1 t91 z)) fun t92 z=>
 Ev Tryz.prog 149 [t92] z (fun t93 z=>
 ab (aK 1 3 [.val (.int .u8 0),.val (.int .i64 0),.val (.string ByteArray.empty)] [(0,t93)] z) fun t94 z=>
 ab (aY 3 32 (aa fr 5) t94 z) fun t95 z=>
 j2 [(2,(aa fr 2)),(4,(aa fr 4)),(5,t95),(7,(aa fr 7)),(8,(aa fr 8)),(9,(aa fr 9))] z
 ) kp) kp
def G45 (fr:aA) (j2:aA→ah→Prop) (z:ah) (kp:AV→ah→Prop):Prop:=
 ab (ae z (ak 7 (aa fr 1) (.val (.int .i64 0)) z)) fun t53 z=>
 ab (ae z (ag 0 t53)) fun t54 z=>
 ab (ae z (ag 0 t54)) fun t55 z=>
 ab (ae z (aj false 1 t55 z)) fun t56 z=>
 ab (ae z (ar .eql .prim t56 (.val (.int .u8 2)))) fun t57 z=>
 ay t57 (
 ab (ae z (ak 7 (aa fr 1) (.val (.int .i64 0)) z)) fun t60 z=>
 ab (ae z (ag 0 t60)) fun t61 z=>
 ab (ae z (ag 3 t61)) fun t62 z=>
 ab (ae z (aj false 1 t62 z)) fun t63 z=>
 ab (ae z (ag 0 (aa fr 2))) fun t64 z=>
 ab (ae z (ag 0 t64)) fun t65 z=>
 ab (ae z (aj false 1 t65 z)) fun t66 z=>
 ab (ae z (ar .sub .prim t66 (.val (.int .u8 4)))) fun t67 z=>
 ab (ae z (ak 4 t63 t67 z)) fun t68 z=>
 ab (ae z (aj true 4 t68 z)) fun t69 z=>
 ab (aG (az 4 (aa fr 9) t69 z)) fun _ z=>
 ab (ae z (ak 7 (aa fr 1) (.val (.int .i64 0)) z)) fun t72 z=>
 ab (ae z (ag 0 t72)) fun t73 z=>
 ab (ae z (ag 1 t73)) fun t74 z=>
 ab (ae z (aj false 1 t74 z)) fun t75 z=>
 Ev Tryz.prog 148 [t75] z (fun t76 z=>
 ab (aK 1 3 [.val (.int .u8 0),.val (.int .i64 0),.val (.string ByteArray.empty)] [(0,t76)] z) fun t77 z=>
 ab (aY 3 32 (aa fr 5) t77 z) fun t78 z=>
 j2 [(2,(aa fr 2)),(4,(aa fr 4)),(5,t78),(7,t57),(8,(aa fr 8)),(9,(aa fr 9))] z
 ) kp) (
 j2 [(2,(aa fr 2)),(4,(aa fr 4)),(5,(aa fr 5)),(7,t57),(8,(aa fr 8)),(9,(aa fr 9))] z
 )
def G3 (fr:aA) (t9:AV) (j2:aA→ah→Prop) (z:ah) (kp:AV→ah→Prop):Prop:=
 ab (ae z (ag 7 (aa fr 2))) fun t30 z=>
 ab (ae z (aj false 1 t30 z)) fun t31 z=>
 ab (ae z (aV 0 3 [.val (.int .u8 0),.val (.int .i64 0),.val (.string ByteArray.empty)] [])) fun t32 z=>
 ab (ae z (ak 7 (aa fr 1) (.val (.int .i64 0)) z)) fun t34 z=>
 ab (ae z (ag 0 t34)) fun t35 z=>
 ab (ae z (aj true 4 t35 z)) fun t36 z=>
 ab (ae z (ak 7 (aa fr 1) (.val (.int .i64 1)) z)) fun t38 z=>
 ab (ae z (ag 0 t38)) fun t39 z=>
 ab (ae z (aj true 4 t39 z)) fun t40 z=>
 ab (ae z (aV 2 4 [.val (.int .u8 0),.val (.int .i64 0),.val (.slice none 0 0),.val (.slice none 0 0)] [(0,t36),(1,t40)])) fun t41 z=>
 Ev Tryz.prog 147 [(.val (.int .u8 2)),t31,t32,t41] z (fun t42 z=>
 ab (aG (az 4 t9 t42 z)) fun _ z=>
 ab (ae z (ag 7 (aa fr 2))) fun t44 z=>
 ab (ae z (aj false 1 t44 z)) fun t45 z=>
 Ev Tryz.prog 149 [t45] z (fun t46 z=>
 ab (aK 1 3 [.val (.int .u8 0),.val (.int .i64 0),.val (.string ByteArray.empty)] [(0,t46)] z) fun t47 z=>
 ab (aY 3 32 (aa fr 5) t47 z) fun t48 z=>
 j2 [(2,(aa fr 2)),(4,(aa fr 4)),(5,t48),(7,(.val (.bool true))),(8,(.val (.bool true))),(9,t9)] z
 ) kp) kp
def F110 (t0 t1:AV) (z:ah) (k kp:AV→ah→Prop):Prop:=
 ab (bq t0 z) fun t2 z=>
 ab (aR [.val (.int .u8 0),.val (.int .i64 0),.val (.slice none 0 0),.val (.slice none 0 0),.val (.slice none 0 0),.val (.int .i64 0),.val (.int .i64 0)] z) fun t4 z=>
 ab (aK 0 3 [.val (.int .u8 0),.val (.int .i64 0),.val (.string ByteArray.empty)] [] z) fun t10 z=>
 bk (fun fr z=>(
 Ev Tryz.prog 151 [] z (fun t24 z=>
 ab (aR [.val (.int .u8 0),.val (.int .i64 0),.val (.slice none 0 0),.val (.slice none 0 0)] z) fun t9 z=>
 ab (aG (az 4 t9 t24 z)) fun _ z=>
 bk (fun fr z=>(
 ab (ae z (bC (aa fr 7))) fun t363 z=>
 ay t363 (
 ab (ae z (aj true 19 (aa fr 2) z)) fun t364 z=>
 Ev Tryz.prog 67 [t364,(.val (.int .i64 5))] z (fun t365 z=>
 ab (aG (az 7 (aa fr 4) t365 z)) fun _ z=>
 aW (aj true 7 (aa fr 4) z) fun r0=>
 k r0 z
 ) kp) (
 ab (ae z (bC (aa fr 8))) fun t367 z=>
 ay t367 (
 ab (ae z (aj true 19 (aa fr 2) z)) fun t368 z=>
 Ev Tryz.prog 67 [t368,(.val (.int .i64 6))] z (fun t369 z=>
 ab (aG (az 7 (aa fr 4) t369 z)) fun _ z=>
 aW (aj true 7 (aa fr 4) z) fun r0=>
 k r0 z
 ) kp) (
 ab (ae z (aj true 4 (aa fr 9) z)) fun t370 z=>
 Ev Tryz.prog 36 [(aa fr 5)] z (fun t372 z=>
 (ab (ae z (aj true 4 (aa fr 9) z)) (fun y w=>y=t370∧w=z))∧(
 ab (ae z (aN [.val (.int .u8 0),.val (.int .i64 0),.val (.slice none 0 0),.val (.slice none 0 0),.val (.slice none 0 0),.val (.int .i64 0),.val (.int .i64 0)] [(0,4,t370),(4,1,t372)])) fun t373 z=>
 ab (aG (az 7 (aa fr 4) t373 z)) fun _ z=>
 aW (aj true 7 (aa fr 4) z) fun r0=>
 k r0 z
 )) kp)
 )
 )) (fun j2=>(
 ab (ae z (ag 0 (aa fr 2))) fun t25 z=>
 ab (ae z (ag 0 t25)) fun t26 z=>
 ab (ae z (aj false 1 t26 z)) fun t27 z=>
 ab (ae z (ar .eql .prim t27 (.val (.int .u8 3)))) fun t29 z=>
 ay t29 (G3 fr t9 j2 z kp) (
 bk (fun fr z=>(
 ay (aa fr 49) (G45 fr j2 z kp) (
 ab (ae z (ar .eql .prim (aa fr 27) (.val (.int .u8 6)))) fun t80 z=>
 ay t80 (G6 fr j2 z kp) (
 ab (ae z (ar .eql .prim (aa fr 27) (.val (.int .u8 7)))) fun t97 z=>
 ay t97 (G7 fr j2 z kp) (
 ab (ae z (ar .eql .prim (aa fr 27) (.val (.int .u8 8)))) fun t122 z=>
 ay t122 (G8 fr j2 z kp) (
 ab (ae z (ar .eql .prim (aa fr 27) (.val (.int .u8 9)))) fun t153 z=>
 ay t153 (G9 fr j2 z kp) (
 ab (ae z (ar .eql .prim (aa fr 27) (.val (.int .u8 10)))) fun t169 z=>
 ay t169 (G10 fr j2 z kp) (
 ab (ae z (ar .eql .prim (aa fr 27) (.val (.int .u8 11)))) fun t214 z=>
 ay t214 (G11 fr j2 z kp) (
 ab (ae z (ar .eql .prim (aa fr 27) (.val (.int .u8 12)))) fun t239 z=>
 ay t239 (G12 fr j2 z kp) (
 ab (ae z (ar .eql .prim (aa fr 27) (.val (.int .u8 13)))) fun t245 z=>
 ay t245 (G13 fr j2 z kp) (
 ab (ae z (ar .eql .prim (aa fr 27) (.val (.int .u8 14)))) fun t274 z=>
 ay t274 (G14 fr j2 z kp) (
 ab (ae z (ar .eql .prim (aa fr 27) (.val (.int .u8 15)))) fun t297 z=>
 ay t297 (G15 fr j2 z kp) (
 ab (ae z (ar .eql .prim (aa fr 27) (.val (.int .u8 16)))) fun t314 z=>
 ay t314 (G16 fr j2 z kp) (
 ab (ae z (ar .eql .prim (aa fr 27) (.val (.int .u8 17)))) fun t343 z=>
 ay t343 (G17 fr j2 z kp) (
 j2 [(2,(aa fr 2)),(4,(aa fr 4)),(5,(aa fr 5)),(7,(aa fr 7)),(8,(aa fr 8)),(9,(aa fr 9))] z
 )
 )
 )
 )
 )
 )
 )
 )
 )
 )
 )
 )
 )
 )) (fun j3=>(
 ab (ae z (ar .eql .prim t27 (.val (.int .u8 4)))) fun t50 z=>
 ay t50 (
 j3 [(1,(aa fr 1)),(2,(aa fr 2)),(4,(aa fr 4)),(5,(aa fr 5)),(7,(.val (.bool true))),(8,(.val (.bool true))),(9,t9),(27,t27),(49,t50)] z
 ) (
 ab (ae z (ar .eql .prim t27 (.val (.int .u8 5)))) fun t51 z=>
 j3 [(1,(aa fr 1)),(2,(aa fr 2)),(4,(aa fr 4)),(5,(aa fr 5)),(7,(.val (.bool true))),(8,(.val (.bool true))),(9,t9),(27,t27),(49,t51)] z
 )
 ))
 )
 ))
 ) kp)) (fun j1=>(
 ab (ae z (aE .slice t1 z)) fun t12 z=>
 bj (fun fr z again=>(
 ab (ae z (ar .lss .prim (aa fr 13) (aa fr 12))) fun t14 z=>
 ay t14 (
 ab (ae z (ak 7 (aa fr 1) (aa fr 13) z)) fun t19 z=>
 ab (ae z (ag 4 t19)) fun t20 z=>
 ab (ae z (aj false 1 t20 z)) fun t21 z=>
 ab (aY 3 32 (aa fr 5) t21 z) fun t22 z=>
 ab (ae z (ar .add .prim (aa fr 13) (.val (.int .i64 1)))) fun t23 z=>
 again [(1,(aa fr 1)),(2,(aa fr 2)),(4,(aa fr 4)),(5,t22),(12,(aa fr 12)),(13,t23)] z
 ) (
 j1 [(1,(aa fr 1)),(2,(aa fr 2)),(4,(aa fr 4)),(5,(aa fr 5))] z
 )
 )) [(1,t1),(2,t2),(4,t4),(5,t10),(12,t12),(13,(.val (.int .i64 0)))] z
 ))
theorem Aw (h:F110 t0 t1 z k kp):Ev Tryz.prog 110 [t0,t1] z k kp:=evF mixed Tryz.func110 [(0,[1,2,4]),(1,[1,2,4,5]),(3008,[1,2,4,5]),(2,[1,2,4,5,12,13]),(3,[1,2,4,5,12,13,14]),(4,[1,2,4,5,6,12,13]),(5,[1,2,4,5,12,13]),(6,[1,2,4,5,12,13]),(1003,[1,2,4,5,12,13]),(7,[1,2,4,5,7,8]),(8,[1,2,4,5,7,8,9]),(3064,[2,4,5,7,8,9]),(9,[1,2,4,5,7,8,9,27]),(10,[1,2,4,5,7,8,9,27,28]),(11,[2,4,5,7,8,9]),(2011,[0,1,2,3,4,5,6,7,8,9,10,11,12,13]),(12,[2,4,5,7,8,9]),(3016,[1,2,4,5,7,8,9,27,49]),(13,[1,2,4,5,7,8,9,27,49]),(14,[1,2,4,5,7,8,9,27,49]),(15,[1,2,4,5,7,8,9]),(16,[1,2,4,5,7,8,9,58]),(17,[1,2,4,5,7,8,9]),(2017,[0,1,2,3,4,5,6,7,8,9,10,11]),(18,[2,4,5,7,8,9]),(19,[1,2,4,5,7,8,9,27,79]),(20,[2,4,5,7,8,9]),(2020,[0,1,2,3,4,5,6,7,8,9]),(21,[2,4,5,7,8,9]),(22,[1,2,4,5,7,8,9,27,96]),(23,[1,2,4,5,7,8,9]),(24,[1,2,4,5,7,8,9,104]),(25,[1,2,4,5,7,8,9]),(26,[2,4,5,7,8,9]),(27,[1,2,4,5,7,8,9,27,121]),(28,[1,2,4,5,7,8,9]),(2028,[0,1,2,3,4,5,6,7,8,9,10,11,12,13,14,15,16,17,18,19,20]),(29,[2,4,5,7,8,9]),(30,[1,2,4,5,7,8,9,27,152]),(31,[2,4,5,7,8,9]),(32,[1,2,4,5,7,8,9,27,168]),(33,[1,2,4,5,7,8,9]),(2033,[0,1,2,3,4,5,6,7,8,9,10,11,12,13,14,15,16,17,18,19,20]),(34,[1,2,4,5,7,8,9,190]),(35,[1,2,4,5,7,8,9]),(36,[2,4,5,7,8,9]),(2036,[0,1,2,3,4,5,9,10,11,12,13,6,7,8,14,15]),(136006,[10,13]),(136008,[10,13]),(37,[1,2,4,5,7,8,9,27,213]),(38,[1,2,4,7,9]),(2038,[0,1,2,3,4,5,6,7,8,9,10,11,12]),(39,[2,4,7,8,9]),(2039,[0,1,2,3,4,5,6,7]),(40,[2,4,5,7,8,9]),(41,[1,2,4,5,7,8,9,27,238]),(42,[2,4,5,7,8,9]),(43,[1,2,4,5,7,8,9,27,244]),(44,[1,2,4,7,9]),(2044,[0,1,2,3,4,5,6,7]),(45,[1,2,4,7,8,9]),(2045,[0,1,2,3,4,5,6,7]),(46,[1,2,4,7,8,9]),(47,[2,4,5,7,8,9]),(2047,[0,1,4,5,6,7,2,3,8,9]),(147002,[5,7]),(48,[1,2,4,5,7,8,9,27,273]),(49,[1,2,4,5,7,8,9]),(2049,[0,1,2,3,4,5,6,7,8,9,10,11,12,13,14,15,16,17]),(50,[2,4,5,7,8,9]),(51,[1,2,4,5,7,8,9,27,296]),(52,[2,4,5,7,8,9]),(53,[2,4,5,7,8,9]),(54,[2,4,5,7,8,9]),(55,[1,2,4,5,7,8,9,27,313]),(56,[1,2,4,7,8,9]),(2056,[0,1,2,3,4,5,6,7,8,9]),(57,[1,2,4,7,8,9]),(58,[2,4,5,7,8,9]),(2058,[0,1,2,3,4,5,6,7,9,10,11,12,8,13,14]),(158008,[10,12]),(59,[1,2,4,5,7,8,9,342]),(60,[1,2,4,7,9]),(61,[1,2,4,7,8,9]),(2061,[0,2,3,1,4,5,6]),(161001,[3]),(62,[2,4,5,7,8,9]),(2062,[0,1,2,3,4,5,6,7,8]),(63,[2,4,5,8,9,363]),(64,[4]),(65,[2,4,5,9,367]),(66,[4]),(67,[4]),(2067,[0,1,2,3,4]),(167002,[0])] (by kernel_rfl) (by kernel_rfl) h
def F139 (t0 t1:AV) (z:ah) (k kp:AV→ah→Prop):Prop:=
 bk (fun fr z=>(
 k (.val (.bool true)) z
 )) (fun j1=>(
 ab (ae z (aE .slice t0 z)) fun t7 z=>
 bj (fun fr z again=>(
 ab (ae z (ar .lss .prim (aa fr 8) (aa fr 7))) fun t9 z=>
 ay t9 (
 ab (ae z (ak 1 (aa fr 0) (aa fr 8) z)) fun t14 z=>
 ab (ae z (aj false 1 t14 z)) fun t15 z=>
 Ev Tryz.prog 19 [(aa fr 1),t15] z (fun t16 z=>
 ab (ae z (bC t16)) fun t17 z=>
 ay t17 (
 k (.val (.bool false)) z
 ) (
 ab (ae z (ar .add .prim (aa fr 8) (.val (.int .i64 1)))) fun t18 z=>
 again [(0,(aa fr 0)),(1,(aa fr 1)),(7,(aa fr 7)),(8,t18)] z
 )
 ) kp) (
 j1 [(0,(aa fr 0))] z
 )
 )) [(0,t0),(1,t1),(7,t7),(8,(.val (.int .i64 0)))] z
 ))
theorem AR (h:F139 t0 t1 z k kp):Ev Tryz.prog 139 [t0,t1] z k kp:=evF mixed Tryz.func139 [(0,[0,1]),(3008,[0]),(1,[0,1,7,8]),(2,[0,1,7,8,9]),(3,[0,1,5,7,8]),(4,[0,1,7,8,17]),(5,[4]),(6,[0,1,7,8]),(1002,[0,1,7,8]),(7,[4])] (by kernel_rfl) (by kernel_rfl) h
def F140 (t0 t1:AV) (z:ah) (k kp:AV→ah→Prop):Prop:=
 ab (aK 0 1 [.val (.int .i64 0)] [] z) fun t5 z=>
 ab (aY 1 8 t5 t0 z) fun t7 z=>
 ab (aY 1 8 t7 t1 z) fun t9 z=>
 k t9 z
theorem AS (h:F140 t0 t1 z k kp):Ev Tryz.prog 140 [t0,t1] z k kp:=evF mixed Tryz.func140 [(0,[0,1]),(1,[4])] (by kernel_rfl) (by kernel_rfl) h
def F141 (t0:AV) (z:ah) (k kp:AV→ah→Prop):Prop:=
 ab (aK 0 1 [.val (.int .i64 0)] [] z) fun t5 z=>
 bk (fun fr z=>(
 k (aa fr 3) z
 )) (fun j1=>(
 ab (ae z (aE .slice t0 z)) fun t7 z=>
 bj (fun fr z again=>(
 ab (ae z (ar .lss .prim (aa fr 8) (aa fr 7))) fun t9 z=>
 ay t9 (
 bk (fun fr z=>(
 ab (ae z (ar .add .prim (aa fr 8) (.val (.int .i64 1)))) fun t31 z=>
 again [(0,(aa fr 0)),(3,(aa fr 3)),(7,(aa fr 7)),(8,t31)] z
 )) (fun j2=>(
 ab (ae z (ak 3 (aa fr 0) (aa fr 8) z)) fun t13 z=>
 ab (ae z (aj true 3 t13 z)) fun t14 z=>
 Ev Tryz.prog 105 [t14] z (fun t15 z=>
 gK t15 true (fun K=>K (aa fr 0) z) (fun t17 z=>
 gK t15 true (fun K=>K (aa fr 8) z) (fun t18 z=>
 gK t15 true (fun K=>ab (ae z (ak 3 t17 t18 z)) K) (fun t19 z=>
 gK t15 true (fun K=>ab (ae z (ag 0 t19)) K) (fun t20 z=>
 gK t15 true (fun K=>ab (ae z (aj false 1 t20 z)) K) (fun t21 z=>
 gK t15 true (fun K=>ab (ae z (ar .neq .prim t21 (.val (.int .u8 3)))) K) (fun t22 z=>
 ab (ae z (aF t15 t22 (.val (.bool false)))) fun t23 z=>
 ay t23 (
 ab (ae z (ak 3 (aa fr 0) (aa fr 8) z)) fun t27 z=>
 ab (ae z (ag 1 t27)) fun t28 z=>
 ab (ae z (aj false 1 t28 z)) fun t29 z=>
 Ev Tryz.prog 175 [(aa fr 3),t29] z (fun t30 z=>
 j2 [(0,(aa fr 0)),(3,t30),(7,(aa fr 7)),(8,(aa fr 8))] z
 ) kp) (
 j2 [(0,(aa fr 0)),(3,(aa fr 3)),(7,(aa fr 7)),(8,(aa fr 8))] z
 )
 ) z) z) z) z) z) z) kp))
 ) (
 j1 [(3,(aa fr 3))] z
 )
 )) [(0,t0),(3,t5),(7,t7),(8,(.val (.int .i64 0)))] z
 ))
theorem AU (h:F141 t0 z k kp):Ev Tryz.prog 141 [t0] z k kp:=evF mixed Tryz.func141 [(0,[0]),(1,[0,3]),(3009,[3]),(2,[0,3,7,8]),(3,[0,3,7,8,9]),(3008,[0,3,7,8]),(4,[0,3,4,7,8]),(5,[0,3,4,7,8,23]),(6,[0,3,7,8]),(7,[0,3,7,8]),(1003,[0,3,7,8]),(8,[2])] (by kernel_rfl) (by kernel_rfl) h
def F142 (t0:AV) (z:ah) (k kp:AV→ah→Prop):Prop:=
 ab (aK 0 1 [.val (.int .i64 0)] [] z) fun t5 z=>
 bk (fun fr z=>(
 k (aa fr 3) z
 )) (fun j1=>(
 ab (ae z (aE .slice t0 z)) fun t7 z=>
 bj (fun fr z again=>(
 ab (ae z (ar .lss .prim (aa fr 8) (aa fr 7))) fun t9 z=>
 ay t9 (
 ab (ae z (ak 4 (aa fr 0) (aa fr 8) z)) fun t14 z=>
 ab (ae z (aj true 4 t14 z)) fun t15 z=>
 Ev Tryz.prog 176 [(aa fr 3),t15] z (fun t16 z=>
 ab (ae z (ar .add .prim (aa fr 8) (.val (.int .i64 1)))) fun t17 z=>
 again [(0,(aa fr 0)),(3,t16),(7,(aa fr 7)),(8,t17)] z
 ) kp) (
 j1 [(3,(aa fr 3))] z
 )
 )) [(0,t0),(3,t5),(7,t7),(8,(.val (.int .i64 0)))] z
 ))
theorem AW (h:F142 t0 z k kp):Ev Tryz.prog 142 [t0] z k kp:=evF mixed Tryz.func142 [(0,[0]),(1,[0,3]),(3008,[3]),(2,[0,3,7,8]),(3,[0,3,7,8,9]),(4,[0,3,4,7,8]),(5,[0,3,7,8]),(6,[0,3,7,8]),(1003,[0,3,7,8]),(7,[2])] (by kernel_rfl) (by kernel_rfl) h
def F143 (t0 t1:AV) (z:ah) (k kp:AV→ah→Prop):Prop:=
 bk (fun fr z=>(
 k (.val (.int .i64 (-1))) z
 )) (fun j1=>(
 ab (ae z (aE .slice t0 z)) fun t7 z=>
 ab (ae z (ar .sub .prim t7 (.val (.int .i64 1)))) fun t8 z=>
 bj (fun fr z again=>(
 ab (ae z (ar .geq .prim (aa fr 5) (.val (.int .i64 0)))) fun t10 z=>
 ay t10 (
 ab (ae z (ak 25 (aa fr 0) (aa fr 5) z)) fun t15 z=>
 ab (ae z (ag 0 t15)) fun t16 z=>
 ab (ae z (aj false 1 t16 z)) fun t17 z=>
 ab (ae z (ar .eql .prim t17 (aa fr 1))) fun t19 z=>
 ay t19 (
 k (aa fr 5) z
 ) (
 ab (ae z (ar .sub .prim (aa fr 5) (.val (.int .i64 1)))) fun t12 z=>
 again [(0,(aa fr 0)),(1,(aa fr 1)),(5,t12)] z
 )
 ) (
 j1 [(0,(aa fr 0))] z
 )
 )) [(0,t0),(1,t1),(5,t8)] z
 ))
theorem AX (h:F143 t0 t1 z k kp):Ev Tryz.prog 143 [t0,t1] z k kp:=evF mixed Tryz.func143 [(0,[0,1]),(3007,[0]),(1,[0,1,5]),(2,[0,1,5,10]),(4,[0,1,5,19]),(5,[4]),(3,[0,1,5]),(1002,[0,1,5]),(6,[4])] (by kernel_rfl) (by kernel_rfl) h
def F145 (t0 t1 t2:AV) (z:ah) (k kp:AV→ah→Prop):Prop:=
 ab (aK 0 3 [.val (.int .u8 0),.val (.int .i64 0),.val (.string ByteArray.empty)] [] z) fun t10 z=>
 bk (fun fr z=>(
 k (aa fr 7) z
 )) (fun j1=>(
 ab (ae z (aE .slice t0 z)) fun t12 z=>
 bj (fun fr z again=>(
 ab (ae z (ar .lss .prim (aa fr 13) (aa fr 12))) fun t14 z=>
 ay t14 (
 bk (fun fr z=>(
 ab (ae z (ar .add .prim (aa fr 13) (.val (.int .i64 1)))) fun t41 z=>
 again [(0,(aa fr 0)),(1,(aa fr 1)),(2,(aa fr 2)),(7,(aa fr 7)),(12,(aa fr 12)),(13,t41)] z
 )) (fun j2=>(
 ab (ae z (ak 3 (aa fr 0) (aa fr 13) z)) fun t18 z=>
 ab (ae z (aj true 3 t18 z)) fun t19 z=>
 ab (aR [.val (.int .u8 0),.val (.int .i64 0),.val (.string ByteArray.empty)] z) fun t9 z=>
 ab (aG (az 3 t9 t19 z)) fun _ z=>
 bk (fun fr z=>(
 ab (ae z (ak 3 (aa fr 0) (aa fr 8) z)) fun t35 z=>
 ab (ae z (aj true 3 t35 z)) fun t36 z=>
 Ev Tryz.prog 105 [t36] z (fun t37 z=>
 ay t37 (
 ab (ae z (aj true 3 (aa fr 9) z)) fun t39 z=>
 Ev Tryz.prog 68 [(aa fr 7),t39] z (fun t40 z=>
 j2 [(0,(aa fr 0)),(1,(aa fr 1)),(2,(aa fr 2)),(7,t40),(12,(aa fr 12)),(13,(aa fr 13))] z
 ) kp) (
 j2 [(0,(aa fr 0)),(1,(aa fr 1)),(2,(aa fr 2)),(7,(aa fr 7)),(12,(aa fr 12)),(13,(aa fr 13))] z
 )
 ) kp)) (fun j3=>(
 ab (ae z (aj true 3 t9 z)) fun t20 z=>
 Ev Tryz.prog 105 [t20] z (fun t21 z=>
 gK t21 true (fun K=>ab (ae z (ag 0 t9)) K) (fun t23 z=>
 gK t21 true (fun K=>ab (ae z (aj false 1 t23 z)) K) (fun t24 z=>
 gK t21 true (fun K=>ab (ae z (ar .neq .prim t24 (.val (.int .u8 3)))) K) (fun t25 z=>
 ab (ae z (aF t21 t25 (.val (.bool false)))) fun t26 z=>
 ay t26 (
 ab (ae z (ag 1 t9)) fun t27 z=>
 ab (ae z (aj false 1 t27 z)) fun t28 z=>
 Ev Tryz.prog 177 [t28,(aa fr 1),(aa fr 2)] z (fun t31 z=>
 ab (ae z (ag 1 t9)) fun t32 z=>
 ab (aG (az 1 t32 t31 z)) fun _ z=>
 j3 [(0,(aa fr 0)),(1,(aa fr 1)),(2,(aa fr 2)),(7,(aa fr 7)),(8,(aa fr 13)),(9,t9),(12,(aa fr 12)),(13,(aa fr 13))] z
 ) kp) (
 j3 [(0,(aa fr 0)),(1,(aa fr 1)),(2,(aa fr 2)),(7,(aa fr 7)),(8,(aa fr 13)),(9,t9),(12,(aa fr 12)),(13,(aa fr 13))] z
 )
 ) z) z) z) kp))
 ))
 ) (
 j1 [(7,(aa fr 7))] z
 )
 )) [(0,t0),(1,t1),(2,t2),(7,t10),(12,t12),(13,(.val (.int .i64 0)))] z
 ))
theorem AZ (h:F145 t0 t1 t2 z k kp):Ev Tryz.prog 145 [t0,t1,t2] z k kp:=evF mixed Tryz.func145 [(0,[0,1,2]),(1,[0,1,2,7]),(3012,[7]),(2,[0,1,2,7,12,13]),(3,[0,1,2,7,12,13,14]),(3011,[0,1,2,7,12,13]),(4,[0,1,2,7,8,12,13]),(5,[0,1,2,7,8,9,12,13]),(3009,[0,1,2,7,8,9,12,13]),(6,[0,1,2,7,8,9,12,13,26]),(7,[0,1,2,7,8,9,12,13]),(8,[0,1,2,7,9,12,13,37]),(9,[0,1,2,7,12,13]),(10,[0,1,2,7,12,13]),(1003,[0,1,2,7,12,13]),(11,[6])] (by kernel_rfl) (by kernel_rfl) h
def F146 (t0 t1 t2:AV) (z:ah) (k kp:AV→ah→Prop):Prop:=
 ab (bq t0 z) fun t3 z=>
 ab (aR [.val (.int .u8 0),.val (.int .i64 0),.val (.slice none 0 0),.val (.slice none 0 0)] z) fun t6 z=>
 ab (ae z (aj true 4 t3 z)) fun t9 z=>
 ab (aR [.val (.int .u8 0),.val (.int .i64 0),.val (.slice none 0 0),.val (.slice none 0 0)] z) fun t7 z=>
 ab (aG (az 4 t7 t9 z)) fun _ z=>
 bk (fun fr z=>(
 ab (aK 0 4 [.val (.int .u8 0),.val (.int .i64 0),.val (.slice none 0 0),.val (.slice none 0 0)] [] z) fun t25 z=>
 ab (ae z (ag 3 (aa fr 7))) fun t26 z=>
 ab (aG (az 1 t26 t25 z)) fun _ z=>
 bk (fun fr z=>(
 ab (ae z (aj true 4 (aa fr 7) z)) fun t47 z=>
 ab (aG (az 4 (aa fr 6) t47 z)) fun _ z=>
 aW (aj true 4 (aa fr 6) z) fun r0=>
 k r0 z
 )) (fun j2=>(
 ab (ae z (ag 3 (aa fr 3))) fun t27 z=>
 ab (ae z (aj false 1 t27 z)) fun t28 z=>
 ab (ae z (aE .slice t28 z)) fun t29 z=>
 bj (fun fr z again=>(
 ab (ae z (ar .lss .prim (aa fr 30) (aa fr 29))) fun t31 z=>
 ay t31 (
 ab (ae z (ag 3 (aa fr 7))) fun t33 z=>
 ab (ae z (aj false 1 t33 z)) fun t34 z=>
 ab (ae z (ag 3 (aa fr 3))) fun t35 z=>
 ab (ae z (aj false 1 t35 z)) fun t36 z=>
 ab (ae z (ak 4 t36 (aa fr 30) z)) fun t38 z=>
 ab (ae z (aj true 4 t38 z)) fun t39 z=>
 Ev Tryz.prog 146 [t39,(aa fr 1),(aa fr 2)] z (fun t42 z=>
 (ab (ae z (aj false 1 t33 z)) (fun y w=>y=t34∧w=z))∧(
 ab (ae z (aV 1 4 [.val (.int .u8 0),.val (.int .i64 0),.val (.slice none 0 0),.val (.slice none 0 0)] [(0,t42)])) fun t43 z=>
 ab (aY 4 64 t34 t43 z) fun t44 z=>
 ab (ae z (ag 3 (aa fr 7))) fun t45 z=>
 ab (aG (az 1 t45 t44 z)) fun _ z=>
 ab (ae z (ar .add .prim (aa fr 30) (.val (.int .i64 1)))) fun t46 z=>
 again [(1,(aa fr 1)),(2,(aa fr 2)),(3,(aa fr 3)),(6,(aa fr 6)),(7,(aa fr 7)),(29,(aa fr 29)),(30,t46)] z
 )) kp) (
 j2 [(6,(aa fr 6)),(7,(aa fr 7))] z
 )
 )) [(1,(aa fr 1)),(2,(aa fr 2)),(3,(aa fr 3)),(6,(aa fr 6)),(7,(aa fr 7)),(29,t29),(30,(.val (.int .i64 0)))] z
 ))
 )) (fun j1=>(
 ab (ae z (ag 0 t3)) fun t10 z=>
 ab (ae z (aj false 1 t10 z)) fun t11 z=>
 ab (ae z (ar .neq .prim t11 (.val (.int .u8 1)))) fun t12 z=>
 ay t12 (
 ab (ae z (ag 1 t3)) fun t13 z=>
 ab (ae z (aj false 1 t13 z)) fun t14 z=>
 Ev Tryz.prog 177 [t14,t1,t2] z (fun t17 z=>
 ab (ae z (ag 1 t7)) fun t18 z=>
 ab (aG (az 1 t18 t17 z)) fun _ z=>
 ab (ae z (ag 2 t3)) fun t19 z=>
 ab (ae z (aj false 1 t19 z)) fun t20 z=>
 Ev Tryz.prog 145 [t20,t1,t2] z (fun t23 z=>
 ab (ae z (ag 2 t7)) fun t24 z=>
 ab (aG (az 1 t24 t23 z)) fun _ z=>
 j1 [(1,t1),(2,t2),(3,t3),(6,t6),(7,t7)] z
 ) kp) kp) (
 j1 [(1,t1),(2,t2),(3,t3),(6,t6),(7,t7)] z
 )
 ))
theorem A3 (h:F146 t0 t1 t2 z k kp):Ev Tryz.prog 146 [t0,t1,t2] z k kp:=evF mixed Tryz.func146 [(0,[1,2,3,6]),(1,[1,2,3,6,7]),(3006,[1,2,3,6,7]),(2,[1,2,3,6,7,12]),(3,[1,2,3,6,7]),(4,[1,2,3,6,7]),(5,[1,2,3,6,7]),(3012,[6,7]),(6,[1,2,3,6,7,29,30]),(7,[1,2,3,6,7,29,30,31]),(8,[1,2,3,6,7,8,29,30]),(9,[1,2,3,6,7,29,30]),(2009,[0,1,2,3,4,5,6,7,8,9,10,11,12,13]),(109009,[1]),(10,[1,2,3,6,7,29,30]),(1007,[1,2,3,6,7,29,30]),(11,[6])] (by kernel_rfl) (by kernel_rfl) h
def F147 (t0 t1 t2 t3:AV) (z:ah) (k kp:AV→ah→Prop):Prop:=
 ab (aR [.val (.int .u8 0),.val (.int .i64 0),.val (.slice none 0 0),.val (.slice none 0 0)] z) fun t8 z=>
 ab (ae z (aN [.val (.int .u8 0),.val (.int .i64 0),.val (.slice none 0 0),.val (.slice none 0 0)] [(0,1,t0),(1,1,t1),(2,1,t2),(3,1,t3)])) fun t13 z=>
 ab (aG (az 4 t8 t13 z)) fun _ z=>
 aW (aj true 4 t8 z) fun r0=>
 k r0 z
theorem A4 (h:F147 t0 t1 t2 t3 z k kp):Ev Tryz.prog 147 [t0,t1,t2,t3] z k kp:=evF mixed Tryz.func147 [(0,[0,1,2,3,8]),(1,[8])] (by kernel_rfl) (by kernel_rfl) h
def F148 (t0:AV) (z:ah) (k kp:AV→ah→Prop):Prop:=
 ab (aR [.val (.int .u8 0),.val (.int .i64 0),.val (.string ByteArray.empty)] z) fun t2 z=>
 ab (ae z (aN [.val (.int .u8 0),.val (.int .i64 0),.val (.string ByteArray.empty)] [(0,1,(.val (.int .u8 1))),(1,1,t0)])) fun t4 z=>
 ab (aG (az 3 t2 t4 z)) fun _ z=>
 aW (aj true 3 t2 z) fun r0=>
 k r0 z
theorem A5 (h:F148 t0 z k kp):Ev Tryz.prog 148 [t0] z k kp:=evF mixed Tryz.func148 [(0,[0,2]),(1,[2])] (by kernel_rfl) (by kernel_rfl) h
def F149 (t0:AV) (z:ah) (k kp:AV→ah→Prop):Prop:=
 ab (aR [.val (.int .u8 0),.val (.int .i64 0),.val (.string ByteArray.empty)] z) fun t2 z=>
 ab (ae z (aN [.val (.int .u8 0),.val (.int .i64 0),.val (.string ByteArray.empty)] [(0,1,(.val (.int .u8 2))),(1,1,t0)])) fun t4 z=>
 ab (aG (az 3 t2 t4 z)) fun _ z=>
 aW (aj true 3 t2 z) fun r0=>
 k r0 z
theorem A6 (h:F149 t0 z k kp):Ev Tryz.prog 149 [t0] z k kp:=evF mixed Tryz.func149 [(0,[0,2]),(1,[2])] (by kernel_rfl) (by kernel_rfl) h
def F150 (t0 t1:AV) (z:ah) (k kp:AV→ah→Prop):Prop:=
 ab (bq t1 z) fun t3 z=>
 ab (ae z (aV 0 25 [.val (.string ByteArray.empty),.val (.int .u8 0),.val (.int .i64 0),.val (.slice none 0 0),.val (.slice none 0 0),.val (.bool false),.val (.int .u8 0),.val (.int .u8 0),.val (.int .i64 0),.val (.int .i64 0),.val (.string ByteArray.empty),.val (.string ByteArray.empty),.val (.string ByteArray.empty),.val (.int .i64 0),.val (.slice none 0 0),.val (.slice none 0 0),.val (.int .u8 0),.val (.int .i64 0),.val (.slice none 0 0),.val (.slice none 0 0),.val (.int .u8 0),.val (.int .i64 0),.val (.slice none 0 0),.val (.slice none 0 0),.val (.slice none 0 0)] [])) fun t5 z=>
 ab (ae z (aj true 25 t3 z)) fun t8 z=>
 ab (ae z (aV 1 25 [.val (.string ByteArray.empty),.val (.int .u8 0),.val (.int .i64 0),.val (.slice none 0 0),.val (.slice none 0 0),.val (.bool false),.val (.int .u8 0),.val (.int .u8 0),.val (.int .i64 0),.val (.int .i64 0),.val (.string ByteArray.empty),.val (.string ByteArray.empty),.val (.string ByteArray.empty),.val (.int .i64 0),.val (.slice none 0 0),.val (.slice none 0 0),.val (.int .u8 0),.val (.int .i64 0),.val (.slice none 0 0),.val (.slice none 0 0),.val (.int .u8 0),.val (.int .i64 0),.val (.slice none 0 0),.val (.slice none 0 0),.val (.slice none 0 0)] [(0,t8)])) fun t9 z=>
 ab (aY 25 368 t5 t0 z) fun t7 z=>
 (ab (ae z (aj true 25 t3 z)) (fun y w=>y=t8∧w=z))∧(
 ab (aY 25 368 t7 t9 z) fun t10 z=>
 k t10 z)
theorem A7 (h:F150 t0 t1 z k kp):Ev Tryz.prog 150 [t0,t1] z k kp:=evF mixed Tryz.func150 [(0,[0,3]),(1,[4]),(2001,[0,1,3,4,2,5,6]),(101002,[3])] (by kernel_rfl) (by kernel_rfl) h
def F151 (z:ah) (k kp:AV→ah→Prop):Prop:=
 ab (aR [.val (.int .u8 0),.val (.int .i64 0),.val (.slice none 0 0),.val (.slice none 0 0)] z) fun t0 z=>
 ab (ae z (aN [.val (.int .u8 0),.val (.int .i64 0),.val (.slice none 0 0),.val (.slice none 0 0)] [(0,1,(.val (.int .u8 1)))])) fun t1 z=>
 ab (aG (az 4 t0 t1 z)) fun _ z=>
 aW (aj true 4 t0 z) fun r0=>
 k r0 z
theorem A8 (h:F151 z k kp):Ev Tryz.prog 151 [] z k kp:=evF mixed Tryz.func151 [(0,[0]),(1,[0])] (by kernel_rfl) (by kernel_rfl) h
def F153 (t0 t1:AV) (z:ah) (k kp:AV→ah→Prop):Prop:=
 ab (aK 0 3 [.val (.int .u8 0),.val (.int .i64 0),.val (.string ByteArray.empty)] [] z) fun t9 z=>
 bk (fun fr z=>(
 k (aa fr 5) z
 )) (fun j1=>(
 ab (ae z (aE .slice t0 z)) fun t11 z=>
 bj (fun fr z again=>(
 ab (ae z (ar .lss .prim (aa fr 12) (aa fr 11))) fun t13 z=>
 ay t13 (
 bk (fun fr z=>(
 ab (ae z (ar .add .prim (aa fr 12) (.val (.int .i64 1)))) fun t50 z=>
 again [(0,(aa fr 0)),(1,(aa fr 1)),(5,(aa fr 5)),(11,(aa fr 11)),(12,t50)] z
 )) (fun j2=>(
 bk (fun fr z=>(
 ab (ae z (bC (aa fr 7))) fun t43 z=>
 ay t43 (
 ab (ae z (ak 3 (aa fr 0) (aa fr 6) z)) fun t47 z=>
 ab (ae z (aj true 3 t47 z)) fun t48 z=>
 Ev Tryz.prog 68 [(aa fr 5),t48] z (fun t49 z=>
 j2 [(0,(aa fr 0)),(1,(aa fr 1)),(5,t49),(11,(aa fr 11)),(12,(aa fr 12))] z
 ) kp) (
 j2 [(0,(aa fr 0)),(1,(aa fr 1)),(5,(aa fr 5)),(11,(aa fr 11)),(12,(aa fr 12))] z
 )
 )) (fun j3=>(
 ab (ae z (aE .slice (aa fr 1) z)) fun t16 z=>
 bj (fun fr z again=>(
 ab (ae z (ar .lss .prim (aa fr 17) (aa fr 16))) fun t18 z=>
 ay t18 (
 gK (aa fr 7) false (fun K=>K (aa fr 0) z) (fun t22 z=>
 gK (aa fr 7) false (fun K=>K (aa fr 6) z) (fun t23 z=>
 gK (aa fr 7) false (fun K=>ab (ae z (ak 3 t22 t23 z)) K) (fun t24 z=>
 gK (aa fr 7) false (fun K=>ab (ae z (ag 0 t24)) K) (fun t25 z=>
 gK (aa fr 7) false (fun K=>ab (ae z (aj false 1 t25 z)) K) (fun t26 z=>
 gK (aa fr 7) false (fun K=>ab (ae z (ar .eql .prim t26 (.val (.int .u8 3)))) K) (fun t27 z=>
 gK (aa fr 7) false (fun K=>K t27 z) (fun t28 z=>
 gK t28 true (fun K=>K (aa fr 1) z) (fun t29 z=>
 gK t28 true (fun K=>K (aa fr 17) z) (fun t30 z=>
 gK t28 true (fun K=>ab (ae z (ak 1 t29 t30 z)) K) (fun t31 z=>
 gK t28 true (fun K=>ab (ae z (aj false 1 t31 z)) K) (fun t32 z=>
 gK t28 true (fun K=>K (aa fr 0) z) (fun t33 z=>
 gK t28 true (fun K=>K (aa fr 6) z) (fun t34 z=>
 gK t28 true (fun K=>ab (ae z (ak 3 t33 t34 z)) K) (fun t35 z=>
 gK t28 true (fun K=>ab (ae z (ag 2 t35)) K) (fun t36 z=>
 gK t28 true (fun K=>ab (ae z (aj false 1 t36 z)) K) (fun t37 z=>
 gK t28 true (fun K=>ab (ae z (ar .eql .prim t32 t37)) K) (fun t38 z=>
 gK (aa fr 7) false (fun K=>ab (ae z (aF t28 t38 (.val (.bool false)))) K) (fun t39 z=>
 ab (ae z (aF (aa fr 7) (.val (.bool true)) t39)) fun t40 z=>
 ab (ae z (ar .add .prim (aa fr 17) (.val (.int .i64 1)))) fun t41 z=>
 again [(0,(aa fr 0)),(1,(aa fr 1)),(5,(aa fr 5)),(6,(aa fr 6)),(7,t40),(11,(aa fr 11)),(12,(aa fr 12)),(16,(aa fr 16)),(17,t41)] z
 ) z) z) z) z) z) z) z) z) z) z) z) z) z) z) z) z) z) z) (
 j3 [(0,(aa fr 0)),(1,(aa fr 1)),(5,(aa fr 5)),(6,(aa fr 6)),(7,(aa fr 7)),(11,(aa fr 11)),(12,(aa fr 12))] z
 )
 )) [(0,(aa fr 0)),(1,(aa fr 1)),(5,(aa fr 5)),(6,(aa fr 12)),(7,(.val (.bool false))),(11,(aa fr 11)),(12,(aa fr 12)),(16,t16),(17,(.val (.int .i64 0)))] z
 ))
 ))
 ) (
 j1 [(5,(aa fr 5))] z
 )
 )) [(0,t0),(1,t1),(5,t9),(11,t11),(12,(.val (.int .i64 0)))] z
 ))
theorem Ba (h:F153 t0 t1 z k kp):Ev Tryz.prog 153 [t0,t1] z k kp:=evF mixed Tryz.func153 [(0,[0,1]),(1,[0,1,5]),(3015,[5]),(2,[0,1,5,11,12]),(3,[0,1,5,11,12,13]),(3014,[0,1,5,11,12]),(4,[0,1,5,6,11,12]),(5,[0,1,5,6,7,11,12]),(3012,[0,1,5,6,7,11,12]),(6,[0,1,5,6,7,11,12,16,17]),(7,[0,1,5,6,7,11,12,16,17,18]),(8,[0,1,5,6,7,8,11,12,16,17]),(9,[0,1,5,6,7,11,12,16,17]),(2009,[0,1,2,3,4,5,6,7,8,9,10,11,12,13,14,15,16,17,18,19,20,21]),(10,[0,1,5,6,7,11,12,16,17]),(1007,[0,1,5,6,7,11,12,16,17]),(11,[0,1,5,6,11,12,43]),(12,[0,1,5,11,12]),(13,[0,1,5,11,12]),(1003,[0,1,5,11,12]),(14,[4])] (by kernel_rfl) (by kernel_rfl) h
def F154 (t0:AV) (z:ah) (k kp:AV→ah→Prop):Prop:=
 ab (bq t0 z) fun t1 z=>
 ab (aK 0 1 [.val (.int .i64 0)] [] z) fun t3 z=>
 ab (ae z (aj true 4 t1 z)) fun t4 z=>
 Ev Tryz.prog 176 [t3,t4] z (fun t5 z=>
 k t5 z) kp
theorem Bb (h:F154 t0 z k kp):Ev Tryz.prog 154 [t0] z k kp:=evF mixed Tryz.func154 [(0,[1]),(1,[2])] (by kernel_rfl) (by kernel_rfl) h
def F155 (t0 t1:AV) (z:ah) (k kp:AV→ah→Prop):Prop:=
 ab (aK 0 3 [.val (.int .u8 0),.val (.int .i64 0),.val (.string ByteArray.empty)] [] z) fun t7 z=>
 bk (fun fr z=>(
 k (aa fr 5) z
 )) (fun j1=>(
 ab (ae z (aE .slice t0 z)) fun t9 z=>
 bj (fun fr z again=>(
 ab (ae z (ar .lss .prim (aa fr 10) (aa fr 9))) fun t11 z=>
 ay t11 (
 bk (fun fr z=>(
 ab (ae z (ar .add .prim (aa fr 10) (.val (.int .i64 1)))) fun t35 z=>
 again [(0,(aa fr 0)),(1,(aa fr 1)),(5,(aa fr 5)),(9,(aa fr 9)),(10,t35)] z
 )) (fun j2=>(
 ab (ae z (ak 3 (aa fr 0) (aa fr 10) z)) fun t15 z=>
 ab (ae z (ag 0 t15)) fun t16 z=>
 ab (ae z (aj false 1 t16 z)) fun t17 z=>
 ab (ae z (ar .eql .prim t17 (.val (.int .u8 3)))) fun t18 z=>
 gK t18 false (fun K=>K (aa fr 1) z) (fun t20 z=>
 gK t18 false (fun K=>K (aa fr 0) z) (fun t21 z=>
 gK t18 false (fun K=>K (aa fr 10) z) (fun t22 z=>
 gK t18 false (fun K=>ab (ae z (ak 3 t21 t22 z)) K) (fun t23 z=>
 gK t18 false (fun K=>ab (ae z (ag 1 t23)) K) (fun t24 z=>
 gK t18 false (fun K=>ab (ae z (aj false 1 t24 z)) K) (fun t25 z=>
 gK t18 false (fun K=>Ev Tryz.prog 19 [t20,t25] z K kp) (fun t26 z=>
 gK t18 false (fun K=>ab (ae z (bC t26)) K) (fun t27 z=>
 ab (ae z (aF t18 (.val (.bool true)) t27)) fun t28 z=>
 ay t28 (
 ab (ae z (ak 3 (aa fr 0) (aa fr 10) z)) fun t32 z=>
 ab (ae z (aj true 3 t32 z)) fun t33 z=>
 Ev Tryz.prog 68 [(aa fr 5),t33] z (fun t34 z=>
 j2 [(0,(aa fr 0)),(1,(aa fr 1)),(5,t34),(9,(aa fr 9)),(10,(aa fr 10))] z
 ) kp) (
 j2 [(0,(aa fr 0)),(1,(aa fr 1)),(5,(aa fr 5)),(9,(aa fr 9)),(10,(aa fr 10))] z
 )
 ) z) z) z) z) z) z) z) z))
 ) (
 j1 [(5,(aa fr 5))] z
 )
 )) [(0,t0),(1,t1),(5,t7),(9,t9),(10,(.val (.int .i64 0)))] z
 ))
theorem Bc (h:F155 t0 t1 z k kp):Ev Tryz.prog 155 [t0,t1] z k kp:=evF mixed Tryz.func155 [(0,[0,1]),(1,[0,1,5]),(3009,[5]),(2,[0,1,5,9,10]),(3,[0,1,5,9,10,11]),(3008,[0,1,5,9,10]),(4,[0,1,5,6,9,10]),(5,[0,1,5,6,9,10,28]),(6,[0,1,5,9,10]),(7,[0,1,5,9,10]),(1003,[0,1,5,9,10]),(8,[4])] (by kernel_rfl) (by kernel_rfl) h
def F175 (t0 t1:AV) (z:ah) (k kp:AV→ah→Prop):Prop:=
 Ev Tryz.prog 19 [t0,t1] z (fun t10 z=>
 ay t10 (
 k t0 z
 ) (
 ab (aK 0 1 [.val (.int .i64 0)] [] z) fun t12 z=>
 bk (fun fr z=>(
 bk (fun fr z=>(
 k (aa fr 5) z
 )) (fun j2=>(
 ab (ae z (bC (aa fr 6))) fun t41 z=>
 ay t41 (
 ab (aK 1 1 [.val (.int .i64 0)] [(0,(aa fr 1))] z) fun t44 z=>
 ab (aY 1 8 (aa fr 5) t44 z) fun t45 z=>
 j2 [(5,t45)] z
 ) (
 j2 [(5,(aa fr 5))] z
 )
 ))
 )) (fun j1=>(
 ab (ae z (aE .slice t0 z)) fun t14 z=>
 bj (fun fr z again=>(
 ab (ae z (ar .lss .prim (aa fr 15) (aa fr 14))) fun t16 z=>
 ay t16 (
 bk (fun fr z=>(
 ab (ae z (ak 1 (aa fr 0) (aa fr 7) z)) fun t35 z=>
 ab (ae z (aj false 1 t35 z)) fun t36 z=>
 ab (aK 1 1 [.val (.int .i64 0)] [(0,t36)] z) fun t37 z=>
 ab (aY 1 8 (aa fr 5) t37 z) fun t38 z=>
 ab (ae z (ar .add .prim (aa fr 15) (.val (.int .i64 1)))) fun t39 z=>
 again [(0,(aa fr 0)),(1,(aa fr 1)),(5,t38),(6,(aa fr 6)),(14,(aa fr 14)),(15,t39)] z
 )) (fun j3=>(
 ab (ae z (bC (aa fr 6))) fun t19 z=>
 gK t19 true (fun K=>K (aa fr 1) z) (fun t21 z=>
 gK t19 true (fun K=>K (aa fr 0) z) (fun t22 z=>
 gK t19 true (fun K=>K (aa fr 15) z) (fun t23 z=>
 gK t19 true (fun K=>ab (ae z (ak 1 t22 t23 z)) K) (fun t24 z=>
 gK t19 true (fun K=>ab (ae z (aj false 1 t24 z)) K) (fun t25 z=>
 gK t19 true (fun K=>ab (ae z (ar .lss .prim t21 t25)) K) (fun t26 z=>
 ab (ae z (aF t19 t26 (.val (.bool false)))) fun t27 z=>
 ay t27 (
 ab (aK 1 1 [.val (.int .i64 0)] [(0,(aa fr 1))] z) fun t30 z=>
 ab (aY 1 8 (aa fr 5) t30 z) fun t31 z=>
 j3 [(0,(aa fr 0)),(1,(aa fr 1)),(5,t31),(6,(.val (.bool true))),(7,(aa fr 15)),(14,(aa fr 14)),(15,(aa fr 15))] z
 ) (
 j3 [(0,(aa fr 0)),(1,(aa fr 1)),(5,(aa fr 5)),(6,(aa fr 6)),(7,(aa fr 15)),(14,(aa fr 14)),(15,(aa fr 15))] z
 )
 ) z) z) z) z) z) z))
 ) (
 j1 [(1,(aa fr 1)),(5,(aa fr 5)),(6,(aa fr 6))] z
 )
 )) [(0,t0),(1,t1),(5,t12),(6,(.val (.bool false))),(14,t14),(15,(.val (.int .i64 0)))] z
 ))
 )) kp
theorem Bt (h:F175 t0 t1 z k kp):Ev Tryz.prog 175 [t0,t1] z k kp:=evF mixed Tryz.func175 [(0,[0,1]),(1,[0,1,10]),(2,[4]),(3,[0,1,5]),(4,[0,1,5,6]),(3014,[1,5,6]),(5,[0,1,5,6,14,15]),(6,[0,1,5,6,14,15,16]),(7,[0,1,5,6,7,14,15]),(3012,[0,1,5,6,7,14,15]),(8,[0,1,5,6,7,14,15,27]),(9,[0,1,5,7,14,15]),(10,[0,1,5,6,7,14,15]),(11,[0,1,5,6,14,15]),(12,[0,1,5,6,14,15]),(1006,[0,1,5,6,14,15]),(3016,[5]),(13,[1,5,41]),(14,[5]),(15,[4])] (by kernel_rfl) (by kernel_rfl) h
def F176 (t0 t1:AV) (z:ah) (k kp:AV→ah→Prop):Prop:=
 ab (bq t1 z) fun t3 z=>
 bk (fun fr z=>(
 bk (fun fr z=>(
 k (aa fr 0) z
 )) (fun j2=>(
 ab (ae z (ag 3 (aa fr 3))) fun t30 z=>
 ab (ae z (aj false 1 t30 z)) fun t31 z=>
 ab (ae z (aE .slice t31 z)) fun t32 z=>
 bj (fun fr z again=>(
 ab (ae z (ar .lss .prim (aa fr 33) (aa fr 32))) fun t34 z=>
 ay t34 (
 ab (ae z (ag 3 (aa fr 3))) fun t37 z=>
 ab (ae z (aj false 1 t37 z)) fun t38 z=>
 ab (ae z (ak 4 t38 (aa fr 33) z)) fun t40 z=>
 ab (ae z (aj true 4 t40 z)) fun t41 z=>
 Ev Tryz.prog 176 [(aa fr 0),t41] z (fun t42 z=>
 ab (ae z (ar .add .prim (aa fr 33) (.val (.int .i64 1)))) fun t43 z=>
 again [(0,t42),(3,(aa fr 3)),(32,(aa fr 32)),(33,t43)] z
 ) kp) (
 j2 [(0,(aa fr 0))] z
 )
 )) [(0,(aa fr 0)),(3,(aa fr 3)),(32,t32),(33,(.val (.int .i64 0)))] z
 ))
 )) (fun j1=>(
 ab (ae z (ag 0 t3)) fun t8 z=>
 ab (ae z (aj false 1 t8 z)) fun t9 z=>
 ab (ae z (ar .neq .prim t9 (.val (.int .u8 1)))) fun t10 z=>
 ay t10 (
 ab (ae z (ag 1 t3)) fun t12 z=>
 ab (ae z (aj false 1 t12 z)) fun t13 z=>
 Ev Tryz.prog 175 [t0,t13] z (fun t14 z=>
 ab (ae z (ag 2 t3)) fun t15 z=>
 ab (ae z (aj false 1 t15 z)) fun t16 z=>
 Ev Tryz.prog 141 [t16] z (fun t17 z=>
 ab (ae z (aE .slice t17 z)) fun t19 z=>
 bj (fun fr z again=>(
 ab (ae z (ar .lss .prim (aa fr 20) (aa fr 19))) fun t21 z=>
 ay t21 (
 ab (ae z (ak 1 (aa fr 5) (aa fr 20) z)) fun t26 z=>
 ab (ae z (aj false 1 t26 z)) fun t27 z=>
 Ev Tryz.prog 175 [(aa fr 0),t27] z (fun t28 z=>
 ab (ae z (ar .add .prim (aa fr 20) (.val (.int .i64 1)))) fun t29 z=>
 again [(0,t28),(3,(aa fr 3)),(5,(aa fr 5)),(19,(aa fr 19)),(20,t29)] z
 ) kp) (
 j1 [(0,(aa fr 0)),(3,(aa fr 3))] z
 )
 )) [(0,t14),(3,t3),(5,t17),(19,t19),(20,(.val (.int .i64 0)))] z
 ) kp) kp) (
 j1 [(0,t0),(3,t3)] z
 )
 ))
theorem Bu (h:F176 t0 t1 z k kp):Ev Tryz.prog 176 [t0,t1] z k kp:=evF mixed Tryz.func176 [(0,[0,3]),(3010,[0,3]),(1,[0,3,10]),(2,[0,3]),(3,[0,3,5]),(4,[0,3,5,19,20]),(5,[0,3,5,19,20,21]),(6,[0,3,5,6,19,20]),(7,[0,3,5,19,20]),(8,[0,3,5,19,20]),(1005,[0,3,5,19,20]),(3015,[0]),(9,[0,3,32,33]),(10,[0,3,32,33,34]),(11,[0,3,7,32,33]),(12,[0,3,32,33]),(13,[0,3,32,33]),(1010,[0,3,32,33]),(14,[4])] (by kernel_rfl) (by kernel_rfl) h
def F177 (t0 t1 t2:AV) (z:ah) (k kp:AV→ah→Prop):Prop:=
 bk (fun fr z=>(
 k (aa fr 0) z
 )) (fun j1=>(
 ab (ae z (aE .slice t1 z)) fun t9 z=>
 bj (fun fr z again=>(
 ab (ae z (ar .lss .prim (aa fr 10) (aa fr 9))) fun t11 z=>
 ay t11 (
 ab (ae z (ak 1 (aa fr 1) (aa fr 10) z)) fun t15 z=>
 ab (ae z (aj false 1 t15 z)) fun t16 z=>
 ab (ae z (ar .eql .prim t16 (aa fr 0))) fun t18 z=>
 ay t18 (
 ab (ae z (aE .slice (aa fr 2) z)) fun t21 z=>
 ab (ae z (ar .lss .prim (aa fr 10) t21)) fun t22 z=>
 ay t22 (
 ab (ae z (ak 1 (aa fr 2) (aa fr 10) z)) fun t25 z=>
 ab (ae z (aj false 1 t25 z)) fun t26 z=>
 k t26 z
 ) (
 k (aa fr 0) z
 )
 ) (
 ab (ae z (ar .add .prim (aa fr 10) (.val (.int .i64 1)))) fun t28 z=>
 again [(0,(aa fr 0)),(1,(aa fr 1)),(2,(aa fr 2)),(9,(aa fr 9)),(10,t28)] z
 )
 ) (
 j1 [(0,(aa fr 0))] z
 )
 )) [(0,t0),(1,t1),(2,t2),(9,t9),(10,(.val (.int .i64 0)))] z
 ))
theorem Bv (h:F177 t0 t1 t2 z k kp):Ev Tryz.prog 177 [t0,t1,t2] z k kp:=evF mixed Tryz.func177 [(0,[0,1,2]),(3010,[0]),(1,[0,1,2,9,10]),(2,[0,1,2,9,10,11]),(3,[0,1,2,7,9,10]),(4,[0,1,2,7,9,10,18]),(5,[0,2,7,22]),(6,[6]),(7,[6]),(8,[0,1,2,9,10]),(1002,[0,1,2,9,10]),(9,[6])] (by kernel_rfl) (by kernel_rfl) h
end Go.Proofs.ChkD
namespace Go.Proofs.AtD
open Go Go.Abs
variable {t0 t1 t2 t3 t4 t5 t6 t7:AV} {z:ah} {k kp:AV→ah→Prop}
theorem mixed:Tryz.prog.follows .mixedOrders=true:=by kernel_rfl
def F144 (t0 t1:AV) (z:ah) (k kp:AV→ah→Prop):Prop:=
 bk (fun fr z=>(
 k (.val (.bool true)) z
 )) (fun j1=>(
 ab (ae z (aE .slice t0 z)) fun t7 z=>
 bj (fun fr z again=>(
 ab (ae z (ar .lss .prim (aa fr 8) (aa fr 7))) fun t9 z=>
 ay t9 (
 ab (ae z (ak 3 (aa fr 0) (aa fr 8) z)) fun t13 z=>
 ab (ae z (aj true 3 t13 z)) fun t14 z=>
 Ev Tryz.prog 105 [t14] z (fun t15 z=>
 gK t15 true (fun K=>K (aa fr 1) z) (fun t17 z=>
 gK t15 true (fun K=>K (aa fr 0) z) (fun t18 z=>
 gK t15 true (fun K=>K (aa fr 8) z) (fun t19 z=>
 gK t15 true (fun K=>ab (ae z (ak 3 t18 t19 z)) K) (fun t20 z=>
 gK t15 true (fun K=>ab (ae z (aj true 3 t20 z)) K) (fun t21 z=>
 gK t15 true (fun K=>Ev Tryz.prog 111 [t17,t21] z K kp) (fun t22 z=>
 gK t15 true (fun K=>ab (ae z (bC t22)) K) (fun t23 z=>
 ab (ae z (aF t15 t23 (.val (.bool false)))) fun t24 z=>
 ay t24 (
 k (.val (.bool false)) z
 ) (
 ab (ae z (ar .add .prim (aa fr 8) (.val (.int .i64 1)))) fun t25 z=>
 again [(0,(aa fr 0)),(1,(aa fr 1)),(7,(aa fr 7)),(8,t25)] z
 )
 ) z) z) z) z) z) z) z) kp) (
 j1 [(0,(aa fr 0))] z
 )
 )) [(0,t0),(1,t1),(7,t7),(8,(.val (.int .i64 0)))] z
 ))
theorem AY (h:F144 t0 t1 z k kp):Ev Tryz.prog 144 [t0,t1] z k kp:=evF mixed Tryz.func144 [(0,[0,1]),(3008,[0]),(1,[0,1,7,8]),(2,[0,1,7,8,9]),(3,[0,1,5,7,8]),(4,[0,1,7,8,24]),(5,[4]),(6,[0,1,7,8]),(1002,[0,1,7,8]),(7,[4])] (by kernel_rfl) (by kernel_rfl) h
def F152 (t0 t1:AV) (z:ah) (k kp:AV→ah→Prop):Prop:=
 ab (bq t0 z) fun t2 z=>
 ab (bq t1 z) fun t3 z=>
 ab (ae z (ag 0 t2)) fun t6 z=>
 ab (ae z (aj false 1 t6 z)) fun t7 z=>
 ab (ae z (ag 0 t3)) fun t8 z=>
 ab (ae z (aj false 1 t8 z)) fun t9 z=>
 ab (ae z (ar .neq .prim t7 t9)) fun t10 z=>
 gK t10 false (fun K=>ab (ae z (ag 1 t2)) K) (fun t12 z=>
 gK t10 false (fun K=>ab (ae z (aj false 1 t12 z)) K) (fun t13 z=>
 gK t10 false (fun K=>ab (ae z (ag 1 t3)) K) (fun t14 z=>
 gK t10 false (fun K=>ab (ae z (aj false 1 t14 z)) K) (fun t15 z=>
 gK t10 false (fun K=>ab (ae z (ar .neq .prim t13 t15)) K) (fun t16 z=>
 ab (ae z (aF t10 (.val (.bool true)) t16)) fun t17 z=>
 gK t17 false (fun K=>ab (ae z (ag 3 t2)) K) (fun t19 z=>
 gK t17 false (fun K=>ab (ae z (aj false 1 t19 z)) K) (fun t20 z=>
 gK t17 false (fun K=>ab (ae z (aE .slice t20 z)) K) (fun t21 z=>
 gK t17 false (fun K=>ab (ae z (ag 3 t3)) K) (fun t22 z=>
 gK t17 false (fun K=>ab (ae z (aj false 1 t22 z)) K) (fun t23 z=>
 gK t17 false (fun K=>ab (ae z (aE .slice t23 z)) K) (fun t24 z=>
 gK t17 false (fun K=>ab (ae z (ar .neq .prim t21 t24)) K) (fun t25 z=>
 ab (ae z (aF t17 (.val (.bool true)) t25)) fun t26 z=>
 gK t26 false (fun K=>ab (ae z (ag 2 t2)) K) (fun t28 z=>
 gK t26 false (fun K=>ab (ae z (aj false 1 t28 z)) K) (fun t29 z=>
 gK t26 false (fun K=>ab (ae z (ag 2 t3)) K) (fun t30 z=>
 gK t26 false (fun K=>ab (ae z (aj false 1 t30 z)) K) (fun t31 z=>
 gK t26 false (fun K=>Ev Tryz.prog 144 [t29,t31] z K kp) (fun t32 z=>
 gK t26 false (fun K=>ab (ae z (bC t32)) K) (fun t33 z=>
 ab (ae z (aF t26 (.val (.bool true)) t33)) fun t34 z=>
 gK t34 false (fun K=>ab (ae z (ag 2 t3)) K) (fun t36 z=>
 gK t34 false (fun K=>ab (ae z (aj false 1 t36 z)) K) (fun t37 z=>
 gK t34 false (fun K=>ab (ae z (ag 2 t2)) K) (fun t38 z=>
 gK t34 false (fun K=>ab (ae z (aj false 1 t38 z)) K) (fun t39 z=>
 gK t34 false (fun K=>Ev Tryz.prog 144 [t37,t39] z K kp) (fun t40 z=>
 gK t34 false (fun K=>ab (ae z (bC t40)) K) (fun t41 z=>
 ab (ae z (aF t34 (.val (.bool true)) t41)) fun t42 z=>
 ay t42 (
 k (.val (.bool false)) z
 ) (
 bk (fun fr z=>(
 k (.val (.bool true)) z
 )) (fun j1=>(
 ab (ae z (ag 3 t2)) fun t43 z=>
 ab (ae z (aj false 1 t43 z)) fun t44 z=>
 ab (ae z (aE .slice t44 z)) fun t45 z=>
 bj (fun fr z again=>(
 ab (ae z (ar .lss .prim (aa fr 46) (aa fr 45))) fun t47 z=>
 ay t47 (
 ab (ae z (ag 3 (aa fr 2))) fun t49 z=>
 ab (ae z (aj false 1 t49 z)) fun t50 z=>
 ab (ae z (ak 4 t50 (aa fr 46) z)) fun t52 z=>
 ab (ae z (aj true 4 t52 z)) fun t53 z=>
 ab (ae z (ag 3 (aa fr 3))) fun t54 z=>
 ab (ae z (aj false 1 t54 z)) fun t55 z=>
 ab (ae z (ak 4 t55 (aa fr 46) z)) fun t57 z=>
 ab (ae z (aj true 4 t57 z)) fun t58 z=>
 Ev Tryz.prog 152 [t53,t58] z (fun t59 z=>
 ab (ae z (bC t59)) fun t60 z=>
 ay t60 (
 k (.val (.bool false)) z
 ) (
 ab (ae z (ar .add .prim (aa fr 46) (.val (.int .i64 1)))) fun t61 z=>
 again [(2,(aa fr 2)),(3,(aa fr 3)),(45,(aa fr 45)),(46,t61)] z
 )
 ) kp) (
 j1 [(0,.any)] z
 )
 )) [(2,t2),(3,t3),(45,t45),(46,(.val (.int .i64 0)))] z
 ))
 )) z) z) z) z) z) z) z) z) z) z) z) z) z) z) z) z) z) z) z) z) z) z) z) z
theorem A9 (h:F152 t0 t1 z k kp):Ev Tryz.prog 152 [t0,t1] z k kp:=evF mixed Tryz.func152 [(0,[2,3]),(1,[2,3,42]),(2,[4]),(3010,[0]),(3,[2,3,45,46]),(4,[2,3,45,46,47]),(5,[2,3,5,45,46]),(6,[2,3,45,46,60]),(2006,[0,1,2,3,4,5,6,7,8,9,10,11]),(7,[4]),(8,[2,3,45,46]),(1004,[2,3,45,46]),(9,[4])] (by kernel_rfl) (by kernel_rfl) h
def F138 (t0:AV) (z:ah) (k kp:AV→ah→Prop):Prop:=
 Ev Tryz.prog 134 [t0,(.val (.int .u8 4))] z (fun t4 z=>
 k t4 z) kp
theorem AQ (h:F138 t0 z k kp):Ev Tryz.prog 138 [t0] z k kp:=evF mixed Tryz.func138 [(0,[0]),(1,[2])] (by kernel_rfl) (by kernel_rfl) h
def F105 (t0:AV) (z:ah) (k kp:AV→ah→Prop):Prop:=
 ab (bq t0 z) fun t1 z=>
 ab (ae z (ag 0 t1)) fun t3 z=>
 ab (ae z (aj false 1 t3 z)) fun t4 z=>
 ab (ae z (ar .eql .prim t4 (.val (.int .u8 3)))) fun t5 z=>
 ay t5 (
 ab (ae z (ag 1 t1)) fun t6 z=>
 ab (ae z (aj false 1 t6 z)) fun t7 z=>
 ab (ae z (ar .eql .prim t7 (.val (.int .i64 0)))) fun t8 z=>
 gK t8 true (fun K=>ab (ae z (ag 2 t1)) K) (fun t10 z=>
 gK t8 true (fun K=>ab (ae z (aj false 1 t10 z)) K) (fun t11 z=>
 gK t8 true (fun K=>Ev Tryz.prog 138 [t11] z K kp) (fun t12 z=>
 ab (ae z (aF t8 t12 (.val (.bool false)))) fun t13 z=>
 k t13 z
 ) z) z) z) (
 ab (ae z (ag 0 t1)) fun t14 z=>
 ab (ae z (aj false 1 t14 z)) fun t15 z=>
 ab (ae z (ar .eql .prim t15 (.val (.int .u8 1)))) fun t16 z=>
 gK t16 false (fun K=>ab (ae z (ag 0 t1)) K) (fun t18 z=>
 gK t16 false (fun K=>ab (ae z (aj false 1 t18 z)) K) (fun t19 z=>
 gK t16 false (fun K=>ab (ae z (ar .eql .prim t19 (.val (.int .u8 2)))) K) (fun t20 z=>
 ab (ae z (aF t16 (.val (.bool true)) t20)) fun t21 z=>
 gK t21 true (fun K=>ab (ae z (ag 1 t1)) K) (fun t23 z=>
 gK t21 true (fun K=>ab (ae z (aj false 1 t23 z)) K) (fun t24 z=>
 gK t21 true (fun K=>ab (ae z (ar .geq .prim t24 (.val (.int .i64 0)))) K) (fun t25 z=>
 ab (ae z (aF t21 t25 (.val (.bool false)))) fun t26 z=>
 gK t26 true (fun K=>ab (ae z (ag 2 t1)) K) (fun t28 z=>
 gK t26 true (fun K=>ab (ae z (aj false 1 t28 z)) K) (fun t29 z=>
 gK t26 true (fun K=>ab (ae z (ar .eql .prim t29 (.val (.string {data:=#[]})))) K) (fun t30 z=>
 ab (ae z (aF t26 t30 (.val (.bool false)))) fun t31 z=>
 k t31 z
 ) z) z) z) z) z) z) z) z) z)
theorem Aq (h:F105 t0 z k kp):Ev Tryz.prog 105 [t0] z k kp:=evF mixed Tryz.func105 [(0,[1]),(1,[1,5]),(2,[2]),(3,[2])] (by kernel_rfl) (by kernel_rfl) h
def D5 (t0 t1:AV) (z:ah) (k kp:AV→ah→Prop):Prop:=
 ab (bq t1 z) fun t3 z=>
 bk (fun fr z=>(
 k (.val (.bool false)) z
 )) (fun j1=>(
 ab (ae z (aE .slice t0 z)) fun t7 z=>
 bj (fun fr z again=>(
 ab (ae z (ar .lss .prim (aa fr 8) (aa fr 7))) fun t9 z=>
 ay t9 (
 ab (ae z (ak 3 (aa fr 0) (aa fr 8) z)) fun t13 z=>
 ab (ae z (aj true 3 t13 z)) fun t14 z=>
 ab (ae z (aj true 3 (aa fr 3) z)) fun t15 z=>
 ab (ae z (ar .eql (.agg [.i,.i,.s]) t14 t15)) fun t16 z=>
 ay t16 (
 k (.val (.bool true)) z
 ) (
 ab (ae z (ar .add .prim (aa fr 8) (.val (.int .i64 1)))) fun t17 z=>
 again [(0,(aa fr 0)),(3,(aa fr 3)),(7,(aa fr 7)),(8,t17)] z
 )
 ) (
 j1 [(0,(aa fr 0))] z
 )
 )) [(0,t0),(3,t3),(7,t7),(8,(.val (.int .i64 0)))] z
 ))
theorem va (h:D5 t0 t1 z k kp):Ev Tryz.prog 111 [t0,t1] z k kp:=evF mixed Tryz.func111 [(0,[0,3]),(3008,[0]),(1,[0,3,7,8]),(2,[0,3,7,8,9]),(3,[0,3,5,7,8]),(4,[0,3,7,8,16]),(2004,[0,1,2,3,4,5]),(5,[4]),(6,[0,3,7,8]),(1002,[0,3,7,8]),(7,[4])] (by kernel_rfl) (by kernel_rfl) h
def F120 (t0:AV) (z:ah) (k kp:AV→ah→Prop):Prop:=
 ab (bq t0 z) fun t1 z=>
 ab (ae z (ag 0 t1)) fun t3 z=>
 ab (ae z (aj false 1 t3 z)) fun t4 z=>
 bk (fun fr z=>(
 ay (aa fr 5) (
 ab (ae z (ag 1 (aa fr 1))) fun t8 z=>
 ab (ae z (aj false 1 t8 z)) fun t9 z=>
 ab (ae z (ar .geq .prim t9 (.val (.int .i64 0)))) fun t10 z=>
 gK t10 true (fun K=>ab (ae z (ag 2 (aa fr 1))) K) (fun t12 z=>
 gK t10 true (fun K=>ab (ae z (aj false 1 t12 z)) K) (fun t13 z=>
 gK t10 true (fun K=>ab (ae z (ar .eql .prim t13 (.val (.string {data:=#[]})))) K) (fun t14 z=>
 ab (ae z (aF t10 t14 (.val (.bool false)))) fun t15 z=>
 k t15 z
 ) z) z) z) (
 ab (ae z (ar .eql .prim (aa fr 4) (.val (.int .u8 3)))) fun t17 z=>
 ay t17 (
 ab (ae z (ag 1 (aa fr 1))) fun t18 z=>
 ab (ae z (aj false 1 t18 z)) fun t19 z=>
 ab (ae z (ar .eql .prim t19 (.val (.int .i64 0)))) fun t20 z=>
 gK t20 true (fun K=>ab (ae z (ag 2 (aa fr 1))) K) (fun t22 z=>
 gK t20 true (fun K=>ab (ae z (aj false 1 t22 z)) K) (fun t23 z=>
 gK t20 true (fun K=>ab (ae z (aV 1 1 [.val (.string ByteArray.empty)] [(0,t23)])) K) (fun t24 z=>
 gK t20 true (fun K=>Ev Tryz.prog 163 [t24] z K kp) (fun t25 z=>
 ab (ae z (aF t20 t25 (.val (.bool false)))) fun t26 z=>
 k t26 z
 ) z) z) z) z) (
 k (.val (.bool false)) z
 )
 )
 )) (fun j1=>(
 ab (ae z (ar .eql .prim t4 (.val (.int .u8 1)))) fun t6 z=>
 ay t6 (
 j1 [(1,t1),(4,t4),(5,t6)] z
 ) (
 ab (ae z (ar .eql .prim t4 (.val (.int .u8 2)))) fun t7 z=>
 j1 [(1,t1),(4,t4),(5,t7)] z
 )
 ))
theorem AD (h:F120 t0 z k kp):Ev Tryz.prog 120 [t0] z k kp:=evF mixed Tryz.func120 [(0,[1]),(1,[1,4]),(3005,[1,4,5]),(2,[1,4,5]),(3,[1,4,5]),(4,[2]),(5,[1,16]),(6,[2]),(4006,[1]),(7,[2])] (by kernel_rfl) (by kernel_rfl) h
def F134 (t0 t1:AV) (z:ah) (k kp:AV→ah→Prop):Prop:=
 ab (ae z (aE .str t0 z)) fun t8 z=>
 ab (ae z (ar .eql .prim t8 (.val (.int .i64 0)))) fun t9 z=>
 gK t9 false (fun K=>K t0 z) (fun t11 z=>
 gK t9 false (fun K=>ab (ae z (aE .str t11 z)) K) (fun t12 z=>
 gK t9 false (fun K=>ab (ae z (ar .gtr .prim t12 (.val (.int .i64 16)))) K) (fun t13 z=>
 ab (ae z (aF t9 (.val (.bool true)) t13)) fun t14 z=>
 gK t14 false (fun K=>K t0 z) (fun t16 z=>
 gK t14 false (fun K=>ab (ae z (bG t16 (.val (.int .i64 0)))) K) (fun t17 z=>
 gK t14 false (fun K=>Ev Tryz.prog 173 [t17] z K kp) (fun t18 z=>
 gK t14 false (fun K=>K t1 z) (fun t19 z=>
 gK t14 false (fun K=>ab (ae z (ar .neq .prim t18 t19)) K) (fun t20 z=>
 ab (ae z (aF t14 (.val (.bool true)) t20)) fun t21 z=>
 ay t21 (
 k (.val (.bool false)) z
 ) (
 bk (fun fr z=>(
 k (.val (.bool true)) z
 )) (fun j1=>(
 bj (fun fr z again=>(
 ab (ae z (aE .str (aa fr 0) z)) fun t24 z=>
 ab (ae z (ar .lss .prim (aa fr 5) t24)) fun t25 z=>
 ay t25 (
 ab (ae z (bG (aa fr 0) (aa fr 5))) fun t30 z=>
 Ev Tryz.prog 173 [t30] z (fun t31 z=>
 ab (ae z (ar .lss .prim t31 (.val (.int .u8 2)))) fun t33 z=>
 gK t33 false (fun K=>K t31 z) (fun t35 z=>
 gK t33 false (fun K=>ab (ae z (ar .gtr .prim t35 (.val (.int .u8 4)))) K) (fun t36 z=>
 ab (ae z (aF t33 (.val (.bool true)) t36)) fun t37 z=>
 ay t37 (
 k (.val (.bool false)) z
 ) (
 ab (ae z (ar .add .prim (aa fr 5) (.val (.int .i64 1)))) fun t27 z=>
 again [(0,(aa fr 0)),(5,t27)] z
 )
 ) z) z) kp) (
 j1 [(0,(aa fr 0))] z
 )
 )) [(0,t0),(5,(.val (.int .i64 0)))] z
 ))
 )) z) z) z) z) z) z) z) z
theorem AM (h:F134 t0 t1 z k kp):Ev Tryz.prog 134 [t0,t1] z k kp:=evF mixed Tryz.func134 [(0,[0,1]),(1,[0,21]),(2,[4]),(3010,[0]),(3,[0,5]),(4,[0,5,25]),(6,[0,5,6]),(7,[0,5,37]),(8,[4]),(5,[0,5]),(1004,[0,5]),(9,[4])] (by kernel_rfl) (by kernel_rfl) h
def F163 (t0:AV) (z:ah) (k kp:AV→ah→Prop):Prop:=
 Ev Tryz.prog 186 [(.fn (.func 187) []),t0] z (fun t4 z=>
 k t4 z) kp
theorem Bh (h:F163 t0 z k kp):Ev Tryz.prog 163 [t0] z k kp:=evF mixed Tryz.func163 [(0,[0]),(1,[2])] (by kernel_rfl) (by kernel_rfl) h
def F173 (t0:AV) (z:ah) (k kp:AV→ah→Prop):Prop:=
 ab (ae z (ar .eql .prim t0 (.val (.int .u8 32)))) fun t6 z=>
 gK t6 false (fun K=>K t0 z) (fun t8 z=>
 gK t6 false (fun K=>ab (ae z (ar .eql .prim t8 (.val (.int .u8 9)))) K) (fun t9 z=>
 ab (ae z (aF t6 (.val (.bool true)) t9)) fun t10 z=>
 gK t10 false (fun K=>K t0 z) (fun t12 z=>
 gK t10 false (fun K=>ab (ae z (ar .eql .prim t12 (.val (.int .u8 10)))) K) (fun t13 z=>
 ab (ae z (aF t10 (.val (.bool true)) t13)) fun t14 z=>
 ay t14 (
 k (.val (.int .u8 1)) z
 ) (
 ab (ae z (ar .geq .prim t0 (.val (.int .u8 48)))) fun t16 z=>
 gK t16 true (fun K=>K t0 z) (fun t18 z=>
 gK t16 true (fun K=>ab (ae z (ar .leq .prim t18 (.val (.int .u8 57)))) K) (fun t19 z=>
 ab (ae z (aF t16 t19 (.val (.bool false)))) fun t20 z=>
 ay t20 (
 k (.val (.int .u8 2)) z
 ) (
 ab (ae z (ar .geq .prim t0 (.val (.int .u8 97)))) fun t22 z=>
 gK t22 true (fun K=>K t0 z) (fun t24 z=>
 gK t22 true (fun K=>ab (ae z (ar .leq .prim t24 (.val (.int .u8 122)))) K) (fun t25 z=>
 ab (ae z (aF t22 t25 (.val (.bool false)))) fun t26 z=>
 ay t26 (
 k (.val (.int .u8 3)) z
 ) (
 ab (ae z (ar .geq .prim t0 (.val (.int .u8 65)))) fun t28 z=>
 gK t28 true (fun K=>K t0 z) (fun t30 z=>
 gK t28 true (fun K=>ab (ae z (ar .leq .prim t30 (.val (.int .u8 90)))) K) (fun t31 z=>
 ab (ae z (aF t28 t31 (.val (.bool false)))) fun t32 z=>
 ay t32 (
 k (.val (.int .u8 4)) z
 ) (
 ab (ae z (aV 12 1 [.val (.int .u8 0)] [(0,(.val (.int .u8 40))),(1,(.val (.int .u8 41))),(2,(.val (.int .u8 44))),(3,(.val (.int .u8 33))),(4,(.val (.int .u8 58))),(5,(.val (.int .u8 61))),(6,(.val (.int .u8 62))),(7,(.val (.int .u8 43))),(8,(.val (.int .u8 45))),(9,(.val (.int .u8 42))),(10,(.val (.int .u8 60))),(11,(.val (.int .u8 59)))])) fun t33 z=>
 bk (fun fr z=>(
 k (.val (.int .u8 0)) z
 )) (fun j1=>(
 ab (ae z (aE .slice t33 z)) fun t35 z=>
 bj (fun fr z again=>(
 ab (ae z (ar .lss .prim (aa fr 36) (aa fr 35))) fun t37 z=>
 ay t37 (
 ab (ae z (ak 1 (aa fr 3) (aa fr 36) z)) fun t41 z=>
 ab (ae z (aj false 1 t41 z)) fun t42 z=>
 ab (ae z (ar .eql .prim t42 (aa fr 0))) fun t44 z=>
 ay t44 (
 k (.val (.int .u8 5)) z
 ) (
 ab (ae z (ar .add .prim (aa fr 36) (.val (.int .i64 1)))) fun t45 z=>
 again [(0,(aa fr 0)),(3,(aa fr 3)),(35,(aa fr 35)),(36,t45)] z
 )
 ) (
 j1 [(0,(aa fr 0))] z
 )
 )) [(0,t0),(3,t33),(35,t35),(36,(.val (.int .i64 0)))] z
 ))
 )
 ) z) z)
 ) z) z)
 ) z) z)) z) z) z) z
theorem Bq (h:F173 t0 z k kp):Ev Tryz.prog 173 [t0] z k kp:=evF mixed Tryz.func173 [(0,[0]),(1,[0,14]),(2,[2]),(3,[0,20]),(4,[2]),(5,[0,26]),(6,[2]),(7,[0,32]),(8,[2]),(9,[0,3]),(4009,[1]),(3017,[0]),(10,[0,3,35,36]),(11,[0,3,35,36,37]),(12,[0,3,4,35,36]),(13,[0,3,35,36,44]),(14,[2]),(15,[0,3,35,36]),(1011,[0,3,35,36]),(16,[2])] (by kernel_rfl) (by kernel_rfl) h
def F186 (t0 t1:AV) (z:ah) (k kp:AV→ah→Prop):Prop:=
 ab (bq t0 z) fun t2 z=>
 Ev Tryz.prog 207 [t1,(.fn (.func 208) [t2])] z (fun t7 z=>
 ab (ae z (bC t7)) fun t8 z=>
 k t8 z) kp
theorem BC (h:F186 t0 t1 z k kp):Ev Tryz.prog 186 [t0,t1] z k kp:=evF mixed Tryz.func186 [(0,[1,2]),(1,[4])] (by kernel_rfl) (by kernel_rfl) h
def F187 (t0:AV) (z:ah) (k kp:AV→ah→Prop):Prop:=
 Ev Tryz.prog 188 [t0,(.val (.int .u8 4))] z (fun t4 z=>
 k t4 z) kp
theorem BD (h:F187 t0 z k kp):Ev Tryz.prog 187 [t0] z k kp:=evF mixed Tryz.func187 [(0,[0]),(1,[2])] (by kernel_rfl) (by kernel_rfl) h
def F188 (t0 t1:AV) (z:ah) (k kp:AV→ah→Prop):Prop:=
 ab (ae z (ar .eql .prim t0 (.val (.string {data:=#[]})))) fun t6 z=>
 gK t6 false (fun K=>K t0 z) (fun t8 z=>
 gK t6 false (fun K=>ab (ae z (aE .str t8 z)) K) (fun t9 z=>
 gK t6 false (fun K=>ab (ae z (ar .gtr .prim t9 (.val (.int .i64 16)))) K) (fun t10 z=>
 ab (ae z (aF t6 (.val (.bool true)) t10)) fun t11 z=>
 gK t11 false (fun K=>K t0 z) (fun t13 z=>
 gK t11 false (fun K=>ab (ae z (bG t13 (.val (.int .i64 0)))) K) (fun t14 z=>
 gK t11 false (fun K=>Ev Tryz.prog 209 [t14] z K kp) (fun t15 z=>
 gK t11 false (fun K=>K t1 z) (fun t16 z=>
 gK t11 false (fun K=>ab (ae z (ar .neq .prim t15 t16)) K) (fun t17 z=>
 ab (ae z (aF t11 (.val (.bool true)) t17)) fun t18 z=>
 ay t18 (
 k (.val (.bool false)) z
 ) (
 ab (ae z (iW .bytes t0)) fun t20 z=>
 ab (ae z (aV 3 1 [.val (.int .u8 0)] [(0,(.val (.int .u8 3))),(1,(.val (.int .u8 4))),(2,(.val (.int .u8 2)))])) fun t21 z=>
 Ev Tryz.prog 210 [t20,(.val (.int .i64 0)),t21] z (fun t22 z=>
 ab (ae z (aE .str t0 z)) fun t24 z=>
 ab (ae z (ar .eql .prim t22 t24)) fun t25 z=>
 k t25 z
 ) kp)) z) z) z) z) z) z) z) z
theorem BE (h:F188 t0 t1 z k kp):Ev Tryz.prog 188 [t0,t1] z k kp:=evF mixed Tryz.func188 [(0,[0,1]),(1,[0,18]),(2,[4]),(3,[4]),(4003,[1])] (by kernel_rfl) (by kernel_rfl) h
def F207 (t0 t1:AV) (z:ah) (k kp:AV→ah→Prop):Prop:=
 Ev Tryz.prog 219 [t0,t1] z (fun t7 z=>
 ab (ae z (ar .geq .prim t7 (.val (.int .i64 0)))) fun t8 z=>
 k t8 z) kp
theorem BI (h:F207 t0 t1 z k kp):Ev Tryz.prog 207 [t0,t1] z k kp:=evF mixed Tryz.func207 [(0,[0,1]),(1,[4])] (by kernel_rfl) (by kernel_rfl) h
def F208 (t0 t1:AV) (z:ah) (k kp:AV→ah→Prop):Prop:=
 ab (ae z (aj false 1 t1 z)) fun t4 z=>
 fX Tryz.prog t4 [t0] z (fun t6 z=>
 ab (ae z (bC t6)) fun t7 z=>
 k t7 z) kp
theorem BJ (h:F208 t0 t1 z k kp):Ev Tryz.prog 208 [t0,t1] z k kp:=evF mixed Tryz.func208 [(0,[0,1]),(1,[3])] (by kernel_rfl) (by kernel_rfl) h
def F209 (t0:AV) (z:ah) (k kp:AV→ah→Prop):Prop:=
 Ev Tryz.prog 220 [(.val (.string {data:=#[32,9,10]})),t0] z (fun t5 z=>
 ab (ae z (ar .geq .prim t5 (.val (.int .i64 0)))) fun t6 z=>
 ay t6 (
 k (.val (.int .u8 1)) z
 ) (
 ab (ae z (ar .geq .prim t0 (.val (.int .u8 48)))) fun t9 z=>
 gK t9 true (fun K=>K t0 z) (fun t11 z=>
 gK t9 true (fun K=>ab (ae z (ar .leq .prim t11 (.val (.int .u8 57)))) K) (fun t12 z=>
 ab (ae z (aF t9 t12 (.val (.bool false)))) fun t13 z=>
 ay t13 (
 k (.val (.int .u8 2)) z
 ) (
 ab (ae z (ar .geq .prim t0 (.val (.int .u8 97)))) fun t16 z=>
 gK t16 true (fun K=>K t0 z) (fun t18 z=>
 gK t16 true (fun K=>ab (ae z (ar .leq .prim t18 (.val (.int .u8 122)))) K) (fun t19 z=>
 ab (ae z (aF t16 t19 (.val (.bool false)))) fun t20 z=>
 ay t20 (
 k (.val (.int .u8 3)) z
 ) (
 ab (ae z (ar .geq .prim t0 (.val (.int .u8 65)))) fun t23 z=>
 gK t23 true (fun K=>K t0 z) (fun t25 z=>
 gK t23 true (fun K=>ab (ae z (ar .leq .prim t25 (.val (.int .u8 90)))) K) (fun t26 z=>
 ab (ae z (aF t23 t26 (.val (.bool false)))) fun t27 z=>
 ay t27 (
 k (.val (.int .u8 4)) z
 ) (
 Ev Tryz.prog 220 [(.val (.string {data:=#[40,41,44,33,58,61,62,43,45,42,60,59]})),t0] z (fun t30 z=>
 ab (ae z (ar .geq .prim t30 (.val (.int .i64 0)))) fun t31 z=>
 ay t31 (
 k (.val (.int .u8 5)) z
 ) (
 k (.val (.int .u8 0)) z
 )
 ) kp)
 ) z) z)
 ) z) z)
 ) z) z)) kp
theorem BK (h:F209 t0 z k kp):Ev Tryz.prog 209 [t0] z k kp:=evF mixed Tryz.func209 [(0,[0]),(1,[0,3]),(2,[2]),(3,[0,7]),(4,[2]),(5,[0,14]),(6,[2]),(7,[0,21]),(8,[2]),(9,[28]),(10,[2]),(11,[2])] (by kernel_rfl) (by kernel_rfl) h
def F210 (t0 t1 t2:AV) (z:ah) (k kp:AV→ah→Prop):Prop:=
 ab (bq t2 z) fun t5 z=>
 ab (ae z (ar .lss .prim t1 (.val (.int .i64 0)))) fun t9 z=>
 gK t9 false (fun K=>K t1 z) (fun t11 z=>
 gK t9 false (fun K=>K t0 z) (fun t12 z=>
 gK t9 false (fun K=>ab (ae z (aE .slice t12 z)) K) (fun t13 z=>
 gK t9 false (fun K=>ab (ae z (ar .geq .prim t11 t13)) K) (fun t14 z=>
 ab (ae z (aF t9 (.val (.bool true)) t14)) fun t15 z=>
 ay t15 (
 k (.val (.int .i64 0)) z
 ) (
 ab (ae z (dJ 1 t0 (some t1) none none)) fun t18 z=>
 Ev Tryz.prog 221 [t18,(.fn (.func 222) [t5])] z (fun t20 z=>
 ab (ae z (ar .lss .prim t20 (.val (.int .i64 0)))) fun t22 z=>
 ay t22 (
 ab (ae z (aE .slice t0 z)) fun t24 z=>
 ab (ae z (ar .sub .prim t24 t1)) fun t26 z=>
 k t26 z
 ) (
 k t20 z
 )
 ) kp)) z) z) z) z
theorem BL (h:F210 t0 t1 t2 z k kp):Ev Tryz.prog 210 [t0,t1,t2] z k kp:=evF mixed Tryz.func210 [(0,[0,1,5]),(1,[0,1,5,15]),(2,[6]),(3,[0,1,7]),(4,[0,1,7,22]),(5,[6]),(6,[6])] (by kernel_rfl) (by kernel_rfl) h
def F219 (t0 t1:AV) (z:ah) (k kp:AV→ah→Prop):Prop:=
 bk (fun fr z=>(
 k (.val (.int .i64 (-1))) z
 )) (fun j1=>(
 ab (ae z (aE .slice t0 z)) fun t7 z=>
 bj (fun fr z again=>(
 ab (ae z (ar .lss .prim (aa fr 8) (aa fr 7))) fun t9 z=>
 ay t9 (
 ab (ae z (ak 1 (aa fr 0) (aa fr 8) z)) fun t14 z=>
 ab (ae z (aj false 1 t14 z)) fun t15 z=>
 fX Tryz.prog (aa fr 1) [t15] z (fun t16 z=>
 ay t16 (
 k (aa fr 8) z
 ) (
 ab (ae z (ar .add .prim (aa fr 8) (.val (.int .i64 1)))) fun t18 z=>
 again [(0,(aa fr 0)),(1,(aa fr 1)),(7,(aa fr 7)),(8,t18)] z
 )
 ) kp) (
 j1 [(0,(aa fr 0))] z
 )
 )) [(0,t0),(1,t1),(7,t7),(8,(.val (.int .i64 0)))] z
 ))
theorem BP (h:F219 t0 t1 z k kp):Ev Tryz.prog 219 [t0,t1] z k kp:=evF mixed Tryz.func219 [(0,[0,1]),(3008,[0]),(1,[0,1,7,8]),(2,[0,1,7,8,9]),(3,[0,1,5,7,8]),(4,[0,1,5,7,8,16]),(5,[4]),(6,[0,1,7,8]),(1002,[0,1,7,8]),(7,[4])] (by kernel_rfl) (by kernel_rfl) h
def F220 (t0 t1:AV) (z:ah) (k kp:AV→ah→Prop):Prop:=
 Ev Tryz.prog 225 [t0,t1] z (fun t7 z=>
 k t7 z) kp
theorem BQ (h:F220 t0 t1 z k kp):Ev Tryz.prog 220 [t0,t1] z k kp:=evF mixed Tryz.func220 [(0,[0,1]),(1,[4])] (by kernel_rfl) (by kernel_rfl) h
def F221 (t0 t1:AV) (z:ah) (k kp:AV→ah→Prop):Prop:=
 bk (fun fr z=>(
 k (.val (.int .i64 (-1))) z
 )) (fun j1=>(
 ab (ae z (aE .slice t0 z)) fun t7 z=>
 bj (fun fr z again=>(
 ab (ae z (ar .lss .prim (aa fr 8) (aa fr 7))) fun t9 z=>
 ay t9 (
 ab (ae z (ak 1 (aa fr 0) (aa fr 8) z)) fun t14 z=>
 ab (ae z (aj false 1 t14 z)) fun t15 z=>
 fX Tryz.prog (aa fr 1) [t15] z (fun t16 z=>
 ay t16 (
 k (aa fr 8) z
 ) (
 ab (ae z (ar .add .prim (aa fr 8) (.val (.int .i64 1)))) fun t18 z=>
 again [(0,(aa fr 0)),(1,(aa fr 1)),(7,(aa fr 7)),(8,t18)] z
 )
 ) kp) (
 j1 [(0,(aa fr 0))] z
 )
 )) [(0,t0),(1,t1),(7,t7),(8,(.val (.int .i64 0)))] z
 ))
theorem BR (h:F221 t0 t1 z k kp):Ev Tryz.prog 221 [t0,t1] z k kp:=evF mixed Tryz.func221 [(0,[0,1]),(3008,[0]),(1,[0,1,7,8]),(2,[0,1,7,8,9]),(3,[0,1,5,7,8]),(4,[0,1,5,7,8,16]),(5,[4]),(6,[0,1,7,8]),(1002,[0,1,7,8]),(7,[4])] (by kernel_rfl) (by kernel_rfl) h
def F222 (t0 t1:AV) (z:ah) (k kp:AV→ah→Prop):Prop:=
 ab (ae z (aj false 1 t1 z)) fun t4 z=>
 Ev Tryz.prog 209 [t0] z (fun t6 z=>
 (ab (ae z (aj false 1 t1 z)) (fun y w=>y=t4∧w=z))∧(
 Ev Tryz.prog 193 [t4,t6] z (fun t7 z=>
 ab (ae z (bC t7)) fun t8 z=>
 k t8 z) kp)) kp
theorem BS (h:F222 t0 t1 z k kp):Ev Tryz.prog 222 [t0,t1] z k kp:=evF mixed Tryz.func222 [(0,[0,1]),(1,[3]),(2001,[0,1,2,3,4,5]),(101002,[0])] (by kernel_rfl) (by kernel_rfl) h
def Em (t0 t1:AV) (z:ah) (k kp:AV→ah→Prop):Prop:=
 Ev Tryz.prog 227 [t0,t1] z (fun t7 z=>
 k t7 z) kp
theorem vo (h:Em t0 t1 z k kp):Ev Tryz.prog 225 [t0,t1] z k kp:=evF mixed Tryz.func225 [(0,[0,1]),(1,[4])] (by kernel_rfl) (by kernel_rfl) h
end Go.Proofs.AtD
namespace Go.Proofs.AtD
open Go Go.Abs
variable {t0 t1 t2 t3 t4 t5 t6 t7:AV} {z:ah} {k kp:AV→ah→Prop}
def F14 (t0:AV) (z:ah) (k kp:AV→ah→Prop):Prop:=
 ab (bq t0 z) fun t1 z=>
 ab (ae z (aj true 19 t1 z)) fun t5 z=>
 ab (aK 1 19 [.val (.int .u8 0),.val (.int .u8 0),.val (.int .i64 0),.val (.int .i64 0),.val (.string ByteArray.empty),.val (.string ByteArray.empty),.val (.string ByteArray.empty),.val (.int .i64 0),.val (.slice none 0 0),.val (.slice none 0 0),.val (.int .u8 0),.val (.int .i64 0),.val (.slice none 0 0),.val (.slice none 0 0),.val (.int .u8 0),.val (.int .i64 0),.val (.slice none 0 0),.val (.slice none 0 0),.val (.slice none 0 0)] [(0,t5)] z) fun t6 z=>
 bk (fun fr z=>(
 k (aa fr 3) z
 )) (fun j1=>(
 ab (ae z (ag 18 t1)) fun t7 z=>
 ab (ae z (aj false 1 t7 z)) fun t8 z=>
 ab (ae z (aE .slice t8 z)) fun t9 z=>
 bj (fun fr z again=>(
 ab (ae z (ar .lss .prim (aa fr 10) (aa fr 9))) fun t11 z=>
 ay t11 (
 ab (ae z (ag 18 (aa fr 1))) fun t14 z=>
 ab (ae z (aj false 1 t14 z)) fun t15 z=>
 ab (ae z (ak 19 t15 (aa fr 10) z)) fun t17 z=>
 ab (ae z (aj true 19 t17 z)) fun t18 z=>
 Ev Tryz.prog 14 [t18] z (fun t19 z=>
 ab (aY 19 280 (aa fr 3) t19 z) fun t20 z=>
 ab (ae z (ar .add .prim (aa fr 10) (.val (.int .i64 1)))) fun t21 z=>
 again [(1,(aa fr 1)),(3,t20),(9,(aa fr 9)),(10,t21)] z
 ) kp) (
 j1 [(3,(aa fr 3))] z
 )
 )) [(1,t1),(3,t6),(9,t9),(10,(.val (.int .i64 0)))] z
 ))
theorem D9 (h:F14 t0 z k kp):Ev Tryz.prog 14 [t0] z k kp:=evF mixed Tryz.func14 [(0,[1]),(1,[1,3]),(3008,[3]),(2,[1,3,9,10]),(3,[1,3,9,10,11]),(4,[1,3,4,9,10]),(5,[1,3,9,10]),(6,[1,3,9,10]),(1003,[1,3,9,10]),(7,[2])] (by kernel_rfl) (by kernel_rfl) h
def F37 (t0:AV) (z:ah) (k kp:AV→ah→Prop):Prop:=
 ab (bq t0 z) fun t1 z=>
 ab (ae z (ag 0 t1)) fun t3 z=>
 ab (ae z (ag 0 t3)) fun t4 z=>
 ab (ae z (aj false 1 t4 z)) fun t5 z=>
 ab (ae z (ar .eql .prim t5 (.val (.int .u8 17)))) fun t6 z=>
 ay t6 (
 ab (ae z (ag 7 t1)) fun t7 z=>
 ab (ae z (aj false 1 t7 z)) fun t8 z=>
 ab (aK 1 1 [.val (.int .i64 0)] [(0,t8)] z) fun t9 z=>
 k t9 z
 ) (
 ab (ae z (ag 0 t1)) fun t10 z=>
 ab (ae z (ag 0 t10)) fun t11 z=>
 ab (ae z (aj false 1 t11 z)) fun t12 z=>
 ab (ae z (ar .eql .prim t12 (.val (.int .u8 13)))) fun t13 z=>
 ay t13 (
 ab (ae z (ag 8 t1)) fun t14 z=>
 ab (ae z (aj false 1 t14 z)) fun t15 z=>
 k t15 z
 ) (
 ab (aK 0 1 [.val (.int .i64 0)] [] z) fun t16 z=>
 k t16 z
 )
 )
theorem ED (h:F37 t0 z k kp):Ev Tryz.prog 37 [t0] z k kp:=evF mixed Tryz.func37 [(0,[1]),(1,[1,6]),(2,[2]),(3,[1,13]),(4,[2]),(5,[2])] (by kernel_rfl) (by kernel_rfl) h
def F20 (t0:AV) (z:ah) (k kp:AV→ah→Prop):Prop:=
 ab (bq t0 z) fun t1 z=>
 ab (aK 0 1 [.val (.int .i64 0)] [] z) fun t6 z=>
 ab (ae z (aj true 19 t1 z)) fun t7 z=>
 Ev Tryz.prog 14 [t7] z (fun t8 z=>
 bk (fun fr z=>(
 k (aa fr 3) z
 )) (fun j1=>(
 ab (ae z (aE .slice t8 z)) fun t10 z=>
 bj (fun fr z again=>(
 ab (ae z (ar .lss .prim (aa fr 11) (aa fr 10))) fun t12 z=>
 ay t12 (
 ab (ae z (ak 19 (aa fr 4) (aa fr 11) z)) fun t17 z=>
 ab (ae z (aj true 19 t17 z)) fun t18 z=>
 Ev Tryz.prog 37 [t18] z (fun t19 z=>
 ab (aY 1 8 (aa fr 3) t19 z) fun t20 z=>
 ab (ae z (ar .add .prim (aa fr 11) (.val (.int .i64 1)))) fun t21 z=>
 again [(3,t20),(4,(aa fr 4)),(10,(aa fr 10)),(11,t21)] z
 ) kp) (
 j1 [(3,(aa fr 3))] z
 )
 )) [(3,t6),(4,t8),(10,t10),(11,(.val (.int .i64 0)))] z
 ))) kp
theorem El (h:F20 t0 z k kp):Ev Tryz.prog 20 [t0] z k kp:=evF mixed Tryz.func20 [(0,[1]),(1,[1,3]),(2,[3,4]),(3009,[3]),(3,[3,4,10,11]),(4,[3,4,10,11,12]),(5,[3,4,5,10,11]),(6,[3,4,10,11]),(7,[3,4,10,11]),(1004,[3,4,10,11]),(8,[2])] (by kernel_rfl) (by kernel_rfl) h
def F34 (t0:AV) (z:ah) (k kp:AV→ah→Prop):Prop:=
 ab (bq t0 z) fun t1 z=>
 ab (aK 0 1 [.val (.int .i64 0)] [] z) fun t9 z=>
 ab (ae z (aj true 19 t1 z)) fun t10 z=>
 Ev Tryz.prog 14 [t10] z (fun t11 z=>
 bk (fun fr z=>(
 k (.tup [(.val (.int .i64 0)),(.val (.bool true))]) z
 )) (fun j1=>(
 ab (ae z (aE .slice t11 z)) fun t13 z=>
 bj (fun fr z again=>(
 ab (ae z (ar .lss .prim (aa fr 14) (aa fr 13))) fun t15 z=>
 ay t15 (
 bk (fun fr z=>(
 ab (ae z (ar .add .prim (aa fr 14) (.val (.int .i64 1)))) fun t47 z=>
 again [(4,(aa fr 4)),(5,(aa fr 5)),(13,(aa fr 13)),(14,t47)] z
 )) (fun j2=>(
 ab (ae z (ak 19 (aa fr 5) (aa fr 14) z)) fun t19 z=>
 ab (ae z (aj true 19 t19 z)) fun t20 z=>
 Ev Tryz.prog 37 [t20] z (fun t21 z=>
 ab (ae z (aE .slice t21 z)) fun t23 z=>
 bj (fun fr z again=>(
 ab (ae z (ar .lss .prim (aa fr 24) (aa fr 23))) fun t25 z=>
 ay t25 (
 ab (ae z (ak 1 (aa fr 7) (aa fr 24) z)) fun t30 z=>
 ab (ae z (aj false 1 t30 z)) fun t31 z=>
 Ev Tryz.prog 19 [(aa fr 4),t31] z (fun t32 z=>
 ay t32 (
 ab (ae z (ak 19 (aa fr 5) (aa fr 6) z)) fun t35 z=>
 ab (ae z (ag 0 t35)) fun t36 z=>
 ab (ae z (ag 2 t36)) fun t37 z=>
 ab (ae z (aj false 1 t37 z)) fun t38 z=>
 k (.tup [t38,(.val (.bool false))]) z
 ) (
 ab (ae z (ak 1 (aa fr 7) (aa fr 24) z)) fun t42 z=>
 ab (ae z (aj false 1 t42 z)) fun t43 z=>
 ab (aK 1 1 [.val (.int .i64 0)] [(0,t43)] z) fun t44 z=>
 ab (aY 1 8 (aa fr 4) t44 z) fun t45 z=>
 ab (ae z (ar .add .prim (aa fr 24) (.val (.int .i64 1)))) fun t46 z=>
 again [(4,t45),(5,(aa fr 5)),(6,(aa fr 6)),(7,(aa fr 7)),(13,(aa fr 13)),(14,(aa fr 14)),(23,(aa fr 23)),(24,t46)] z
 )
 ) kp) (
 j2 [(4,(aa fr 4)),(5,(aa fr 5)),(13,(aa fr 13)),(14,(aa fr 14))] z
 )
 )) [(4,(aa fr 4)),(5,(aa fr 5)),(6,(aa fr 14)),(7,t21),(13,(aa fr 13)),(14,(aa fr 14)),(23,t23),(24,(.val (.int .i64 0)))] z
 ) kp))
 ) (
 j1 [(0,.any)] z
 )
 )) [(4,t9),(5,t11),(13,t13),(14,(.val (.int .i64 0)))] z
 ))) kp
theorem EA (h:F34 t0 z k kp):Ev Tryz.prog 34 [t0] z k kp:=evF mixed Tryz.func34 [(0,[1]),(1,[1,4]),(2,[4,5]),(3016,[0]),(3,[4,5,13,14]),(4,[4,5,13,14,15]),(3015,[4,5,13,14]),(5,[4,5,6,13,14]),(6,[4,5,6,7,13,14]),(7,[4,5,6,7,13,14,23,24]),(8,[4,5,6,7,13,14,23,24,25]),(9,[4,5,6,7,8,13,14,23,24]),(10,[4,5,6,7,8,13,14,23,24,32]),(11,[2,3]),(12,[4,5,6,7,13,14,23,24]),(13,[4,5,6,7,13,14,23,24]),(1008,[4,5,6,7,13,14,23,24]),(14,[4,5,13,14]),(1004,[4,5,13,14]),(15,[2,3])] (by kernel_rfl) (by kernel_rfl) h
def F19 (t0 t1:AV) (z:ah) (k kp:AV→ah→Prop):Prop:=
 bk (fun fr z=>(
 k (.val (.bool false)) z
 )) (fun j1=>(
 ab (ae z (aE .slice t0 z)) fun t7 z=>
 bj (fun fr z again=>(
 ab (ae z (ar .lss .prim (aa fr 8) (aa fr 7))) fun t9 z=>
 ay t9 (
 ab (ae z (ak 1 (aa fr 0) (aa fr 8) z)) fun t13 z=>
 ab (ae z (aj false 1 t13 z)) fun t14 z=>
 ab (ae z (ar .eql .prim t14 (aa fr 1))) fun t16 z=>
 ay t16 (
 k (.val (.bool true)) z
 ) (
 ab (ae z (ar .add .prim (aa fr 8) (.val (.int .i64 1)))) fun t17 z=>
 again [(0,(aa fr 0)),(1,(aa fr 1)),(7,(aa fr 7)),(8,t17)] z
 )
 ) (
 j1 [(0,(aa fr 0))] z
 )
 )) [(0,t0),(1,t1),(7,t7),(8,(.val (.int .i64 0)))] z
 ))
theorem Ej (h:F19 t0 t1 z k kp):Ev Tryz.prog 19 [t0,t1] z k kp:=evF mixed Tryz.func19 [(0,[0,1]),(3008,[0]),(1,[0,1,7,8]),(2,[0,1,7,8,9]),(3,[0,1,5,7,8]),(4,[0,1,7,8,16]),(5,[4]),(6,[0,1,7,8]),(1002,[0,1,7,8]),(7,[4])] (by kernel_rfl) (by kernel_rfl) h
end Go.Proofs.AtD
