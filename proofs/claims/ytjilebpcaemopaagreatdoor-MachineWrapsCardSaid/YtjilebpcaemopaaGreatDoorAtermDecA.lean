import Derived.Test.YtjilebpcaemopaaGreatDoorAbsK
import Derived.Test.YtjilebpcaemopaaGreatDoorProg
import Derived.KernelRfl
import Derived.Test.YtjilebpcaemopaaGreatDoorAbsLF
set_option maxRecDepth 100000
set_option linter.unusedVariables false
namespace Go.Proofs.AtD
open Go Go.Abs
variable {t0 t1 t2 t3 t4 t5 t6 t7:AV} {z:ah} {k kp:AV→ah→Prop}
theorem mixed:Tryz.prog.follows .mixedOrders=true:=by kernel_rfl
def F22 (t0:AV) (z:ah) (k kp:AV→ah→Prop):Prop:=
 ab (bq t0 z) fun t1 z=>
 ab (ae z (aj true 19 t1 z)) fun t3 z=>
 Ev Tryz.prog 38 [t3,(.val (.int .i64 400))] z (fun t4 z=>
 ab (ae z (ar .lss .prim t4 (.val (.int .i64 0)))) fun t5 z=>
 k t5 z) kp
theorem Eo (h:F22 t0 z k kp):Ev Tryz.prog 22 [t0] z k kp:=evF mixed Tryz.func22 [(0,[1]),(1,[2])] (by kernel_rfl) (by kernel_rfl) h
def F24 (t0:AV) (z:ah) (k kp:AV→ah→Prop):Prop:=
 ab (bq t0 z) fun t1 z=>
 ab (ae z (aj true 19 t1 z)) fun t3 z=>
 ab (ae z (aV 1 19 [.val (.int .u8 0),.val (.int .u8 0),.val (.int .i64 0),.val (.int .i64 0),.val (.string ByteArray.empty),.val (.string ByteArray.empty),.val (.string ByteArray.empty),.val (.int .i64 0),.val (.slice none 0 0),.val (.slice none 0 0),.val (.int .u8 0),.val (.int .i64 0),.val (.slice none 0 0),.val (.slice none 0 0),.val (.int .u8 0),.val (.int .i64 0),.val (.slice none 0 0),.val (.slice none 0 0),.val (.slice none 0 0)] [(0,t3)])) fun t4 z=>
 Ev Tryz.prog 39 [t4] z (fun t5 z=>
 ab (ae z (ar .leq .prim t5 (.val (.int .i64 40000)))) fun t6 z=>
 gK t6 true (fun K=>ab (ae z (aj true 19 t1 z)) K) (fun t8 z=>
 gK t6 true (fun K=>ab (ae z (aV 1 19 [.val (.int .u8 0),.val (.int .u8 0),.val (.int .i64 0),.val (.int .i64 0),.val (.string ByteArray.empty),.val (.string ByteArray.empty),.val (.string ByteArray.empty),.val (.int .i64 0),.val (.slice none 0 0),.val (.slice none 0 0),.val (.int .u8 0),.val (.int .i64 0),.val (.slice none 0 0),.val (.slice none 0 0),.val (.int .u8 0),.val (.int .i64 0),.val (.slice none 0 0),.val (.slice none 0 0),.val (.slice none 0 0)] [(0,t8)])) K) (fun t9 z=>
 gK t6 true (fun K=>Ev Tryz.prog 40 [(.fn (.func 41) []),t9] z K kp) (fun t10 z=>
 ab (ae z (aF t6 t10 (.val (.bool false)))) fun t11 z=>
 k t11 z) z) z) z) kp
theorem Er (h:F24 t0 z k kp):Ev Tryz.prog 24 [t0] z k kp:=evF mixed Tryz.func24 [(0,[1]),(1,[2]),(4001,[1])] (by kernel_rfl) (by kernel_rfl) h
def F39 (t0:AV) (z:ah) (k kp:AV→ah→Prop):Prop:=
 ab (aR [.val (.int .i64 0)] z) fun t3 z=>
 ab (aG (az 1 t3 (.val (.int .i64 0)) z)) fun _ z=>
 Ev Tryz.prog 40 [(.fn (.func 71) [t3]),t0] z (fun t6 z=>
 ab (ae z (aj false 1 t3 z)) fun t7 z=>
 k t7 z) kp
theorem EF (h:F39 t0 z k kp):Ev Tryz.prog 39 [t0] z k kp:=evF mixed Tryz.func39 [(0,[0]),(1,[0,3]),(2,[3]),(3,[2])] (by kernel_rfl) (by kernel_rfl) h
def F38 (t0 t1:AV) (z:ah) (k kp:AV→ah→Prop):Prop:=
 ab (bq t0 z) fun t2 z=>
 ab (ae z (ar .sub .prim t1 (.val (.int .i64 1)))) fun t7 z=>
 ab (ae z (ag 0 t2)) fun t8 z=>
 ab (ae z (ag 4 t8)) fun t9 z=>
 ab (ae z (aj false 1 t9 z)) fun t10 z=>
 ab (ae z (aE .str t10 z)) fun t11 z=>
 ab (ae z (ar .gtr .prim t11 (.val (.int .i64 100)))) fun t12 z=>
 gK t12 false (fun K=>ab (ae z (ag 0 t2)) K) (fun t14 z=>
 gK t12 false (fun K=>ab (ae z (ag 5 t14)) K) (fun t15 z=>
 gK t12 false (fun K=>ab (ae z (aj false 1 t15 z)) K) (fun t16 z=>
 gK t12 false (fun K=>ab (ae z (aE .str t16 z)) K) (fun t17 z=>
 gK t12 false (fun K=>ab (ae z (ar .gtr .prim t17 (.val (.int .i64 100)))) K) (fun t18 z=>
 ab (ae z (aF t12 (.val (.bool true)) t18)) fun t19 z=>
 gK t19 false (fun K=>ab (ae z (ag 0 t2)) K) (fun t21 z=>
 gK t19 false (fun K=>ab (ae z (ag 6 t21)) K) (fun t22 z=>
 gK t19 false (fun K=>ab (ae z (aj false 1 t22 z)) K) (fun t23 z=>
 gK t19 false (fun K=>ab (ae z (aE .str t23 z)) K) (fun t24 z=>
 gK t19 false (fun K=>ab (ae z (ar .gtr .prim t24 (.val (.int .i64 100)))) K) (fun t25 z=>
 ab (ae z (aF t19 (.val (.bool true)) t25)) fun t26 z=>
 gK t26 false (fun K=>ab (ae z (ag 8 t2)) K) (fun t28 z=>
 gK t26 false (fun K=>ab (ae z (aj false 1 t28 z)) K) (fun t29 z=>
 gK t26 false (fun K=>ab (ae z (aE .slice t29 z)) K) (fun t30 z=>
 gK t26 false (fun K=>ab (ae z (ar .gtr .prim t30 (.val (.int .i64 50)))) K) (fun t31 z=>
 ab (ae z (aF t26 (.val (.bool true)) t31)) fun t32 z=>
 gK t32 false (fun K=>ab (ae z (ag 9 t2)) K) (fun t34 z=>
 gK t32 false (fun K=>ab (ae z (aj false 1 t34 z)) K) (fun t35 z=>
 gK t32 false (fun K=>Ev Tryz.prog 69 [t35] z K kp) (fun t36 z=>
 ab (ae z (aF t32 (.val (.bool true)) t36)) fun t37 z=>
 gK t37 false (fun K=>ab (ae z (ag 10 t2)) K) (fun t39 z=>
 gK t37 false (fun K=>ab (ae z (aj true 4 t39 z)) K) (fun t40 z=>
 gK t37 false (fun K=>Ev Tryz.prog 70 [t40] z K kp) (fun t41 z=>
 ab (ae z (aF t37 (.val (.bool true)) t41)) fun t42 z=>
 gK t42 false (fun K=>ab (ae z (ag 14 t2)) K) (fun t44 z=>
 gK t42 false (fun K=>ab (ae z (aj true 4 t44 z)) K) (fun t45 z=>
 gK t42 false (fun K=>Ev Tryz.prog 70 [t45] z K kp) (fun t46 z=>
 ab (ae z (aF t42 (.val (.bool true)) t46)) fun t47 z=>
 ay t47 (
 k (.val (.int .i64 (-1))) z
 ) (
 bk (fun fr z=>(
 k (aa fr 1) z
 )) (fun j1=>(
 bj (fun fr z again=>(
 ab (ae z (ag 18 (aa fr 2))) fun t49 z=>
 ab (ae z (aj false 1 t49 z)) fun t50 z=>
 ab (ae z (aE .slice t50 z)) fun t51 z=>
 ab (ae z (ar .lss .prim (aa fr 5) t51)) fun t52 z=>
 gK t52 true (fun K=>K (aa fr 1) z) (fun t54 z=>
 gK t52 true (fun K=>ab (ae z (ar .geq .prim t54 (.val (.int .i64 0)))) K) (fun t55 z=>
 ab (ae z (aF t52 t55 (.val (.bool false)))) fun t56 z=>
 ay t56 (
 ab (ae z (ag 18 (aa fr 2))) fun t59 z=>
 ab (ae z (aj false 1 t59 z)) fun t60 z=>
 ab (ae z (ak 19 t60 (aa fr 5) z)) fun t62 z=>
 ab (ae z (aj true 19 t62 z)) fun t63 z=>
 Ev Tryz.prog 38 [t63,(aa fr 1)] z (fun t65 z=>
 ab (ae z (ar .add .prim (aa fr 5) (.val (.int .i64 1)))) fun t58 z=>
 again [(1,t65),(2,(aa fr 2)),(5,t58)] z
 ) kp) (
 j1 [(1,(aa fr 1))] z
 )
 ) z) z)) [(1,t7),(2,t2),(5,(.val (.int .i64 0)))] z
 ))
 )) z) z) z) z) z) z) z) z) z) z) z) z) z) z) z) z) z) z) z) z) z) z) z
theorem EE (h:F38 t0 t1 z k kp):Ev Tryz.prog 38 [t0,t1] z k kp:=evF mixed Tryz.func38 [(0,[1,2]),(1,[1,2]),(2,[1,2,47]),(3,[4]),(3009,[1]),(4,[1,2,5]),(5,[1,2,5,56]),(7,[1,2,5]),(6,[1,2,5]),(1005,[1,2,5]),(8,[4])] (by kernel_rfl) (by kernel_rfl) h
def F40 (t0 t1:AV) (z:ah) (k kp:AV→ah→Prop):Prop:=
 bk (fun fr z=>(
 k (.val (.bool true)) z
 )) (fun j1=>(
 ab (ae z (aE .slice t1 z)) fun t8 z=>
 bj (fun fr z again=>(
 ab (ae z (ar .lss .prim (aa fr 9) (aa fr 8))) fun t10 z=>
 ay t10 (
 ab (ae z (ak 19 (aa fr 7) (aa fr 9) z)) fun t11 z=>
 ab (ae z (aj true 19 t11 z)) fun t12 z=>
 ab (aR [.val (.int .u8 0),.val (.int .u8 0),.val (.int .i64 0),.val (.int .i64 0),.val (.string ByteArray.empty),.val (.string ByteArray.empty),.val (.string ByteArray.empty),.val (.int .i64 0),.val (.slice none 0 0),.val (.slice none 0 0),.val (.int .u8 0),.val (.int .i64 0),.val (.slice none 0 0),.val (.slice none 0 0),.val (.int .u8 0),.val (.int .i64 0),.val (.slice none 0 0),.val (.slice none 0 0),.val (.slice none 0 0)] z) fun t6 z=>
 ab (aG (az 19 t6 t12 z)) fun _ z=>
 ab (ae z (aj true 19 t6 z)) fun t14 z=>
 fX Tryz.prog (aa fr 0) [t14] z (fun t15 z=>
 ab (ae z (bC t15)) fun t16 z=>
 gK t16 false (fun K=>K (aa fr 0) z) (fun t18 z=>
 gK t16 false (fun K=>ab (ae z (ag 18 t6)) K) (fun t19 z=>
 gK t16 false (fun K=>ab (ae z (aj false 1 t19 z)) K) (fun t20 z=>
 gK t16 false (fun K=>Ev Tryz.prog 40 [t18,t20] z K kp) (fun t21 z=>
 gK t16 false (fun K=>ab (ae z (bC t21)) K) (fun t22 z=>
 ab (ae z (aF t16 (.val (.bool true)) t22)) fun t23 z=>
 ay t23 (
 k (.val (.bool false)) z
 ) (
 ab (ae z (ar .add .prim (aa fr 9) (.val (.int .i64 1)))) fun t24 z=>
 again [(0,(aa fr 0)),(7,(aa fr 7)),(8,(aa fr 8)),(9,t24)] z
 )
 ) z) z) z) z) z) kp) (
 j1 [(0,(aa fr 0))] z
 )
 )) [(0,t0),(7,t1),(8,t8),(9,(.val (.int .i64 0)))] z
 ))
theorem xT (h:F40 t0 t1 z k kp):Ev Tryz.prog 40 [t0,t1] z k kp:=evF mixed Tryz.func40 [(0,[0,1]),(3008,[0]),(1,[0,7,8,9]),(2,[0,7,8,9,10]),(3,[0,6,7,8,9]),(4,[0,7,8,9,23]),(5,[4]),(6,[0,7,8,9]),(1002,[0,7,8,9]),(7,[4])] (by kernel_rfl) (by kernel_rfl) h
def F41 (t0:AV) (z:ah) (k kp:AV→ah→Prop):Prop:=
 ab (bq t0 z) fun t1 z=>
 ab (ae z (ag 0 t1)) fun t4 z=>
 ab (ae z (ag 0 t4)) fun t5 z=>
 ab (ae z (aj false 1 t5 z)) fun t6 z=>
 Ev Tryz.prog 72 [t6] z (fun t7 z=>
 ab (aR [.val (.bool false),.val (.bool false),.val (.bool false),.val (.bool false),.val (.bool false)] z) fun t3 z=>
 ab (aG (az 5 t3 t7 z)) fun _ z=>
 bk (fun fr z=>(
 ay (aa fr 8) (
 k (.val (.bool false)) z
 ) (
 bk (fun fr z=>(
 ay (aa fr 26) (
 k (.val (.bool false)) z
 ) (
 ab (ae z (ag 3 (aa fr 3))) fun t44 z=>
 ab (ae z (aj false 1 t44 z)) fun t45 z=>
 ab (ae z (ag 10 (aa fr 1))) fun t46 z=>
 ab (ae z (aj true 4 t46 z)) fun t47 z=>
 Ev Tryz.prog 77 [t45,t47] z (fun t48 z=>
 gK t48 true (fun K=>ab (ae z (ag 4 (aa fr 3))) K) (fun t50 z=>
 gK t48 true (fun K=>ab (ae z (aj false 1 t50 z)) K) (fun t51 z=>
 gK t48 true (fun K=>ab (ae z (ag 14 (aa fr 1))) K) (fun t52 z=>
 gK t48 true (fun K=>ab (ae z (aj true 4 t52 z)) K) (fun t53 z=>
 gK t48 true (fun K=>Ev Tryz.prog 77 [t51,t53] z K kp) (fun t54 z=>
 ab (ae z (aF t48 t54 (.val (.bool false)))) fun t55 z=>
 k t55 z
 ) z) z) z) z) z) kp)
 )) (fun j2=>(
 ab (ae z (ag 2 (aa fr 3))) fun t27 z=>
 ab (ae z (aj false 1 t27 z)) fun t28 z=>
 gK t28 true (fun K=>ab (ae z (ag 9 (aa fr 1))) K) (fun t30 z=>
 gK t28 true (fun K=>ab (ae z (aj false 1 t30 z)) K) (fun t31 z=>
 gK t28 true (fun K=>Ev Tryz.prog 76 [t31] z K kp) (fun t32 z=>
 gK t28 true (fun K=>ab (ae z (bC t32)) K) (fun t33 z=>
 ab (ae z (aF t28 t33 (.val (.bool false)))) fun t34 z=>
 ay t34 (
 j2 [(1,(aa fr 1)),(3,(aa fr 3)),(26,t34)] z
 ) (
 ab (ae z (ag 2 (aa fr 3))) fun t35 z=>
 ab (ae z (aj false 1 t35 z)) fun t36 z=>
 ab (ae z (bC t36)) fun t37 z=>
 gK t37 true (fun K=>ab (ae z (ag 9 (aa fr 1))) K) (fun t39 z=>
 gK t37 true (fun K=>ab (ae z (aj false 1 t39 z)) K) (fun t40 z=>
 gK t37 true (fun K=>ab (ae z (aE .slice t40 z)) K) (fun t41 z=>
 gK t37 true (fun K=>ab (ae z (ar .gtr .prim t41 (.val (.int .i64 0)))) K) (fun t42 z=>
 ab (ae z (aF t37 t42 (.val (.bool false)))) fun t43 z=>
 j2 [(1,(aa fr 1)),(3,(aa fr 3)),(26,t43)] z
 ) z) z) z) z)
 ) z) z) z) z))
 )
 )) (fun j1=>(
 ab (ae z (aj true 19 t1 z)) fun t9 z=>
 Ev Tryz.prog 73 [t9] z (fun t10 z=>
 ab (ae z (bC t10)) fun t11 z=>
 ay t11 (
 j1 [(1,t1),(3,t3),(8,t11)] z
 ) (
 ab (ae z (aj true 19 t1 z)) fun t12 z=>
 ab (ae z (aj true 5 t3 z)) fun t13 z=>
 Ev Tryz.prog 74 [t12,t13] z (fun t14 z=>
 ab (ae z (bC t14)) fun t15 z=>
 ay t15 (
 j1 [(1,t1),(3,t3),(8,t15)] z
 ) (
 ab (ae z (ag 0 t1)) fun t16 z=>
 ab (ae z (ag 0 t16)) fun t17 z=>
 ab (ae z (aj false 1 t17 z)) fun t18 z=>
 ab (ae z (ar .eql .prim t18 (.val (.int .u8 13)))) fun t19 z=>
 gK t19 true (fun K=>ab (ae z (ag 8 t1)) K) (fun t21 z=>
 gK t19 true (fun K=>ab (ae z (aj false 1 t21 z)) K) (fun t22 z=>
 gK t19 true (fun K=>Ev Tryz.prog 75 [t22] z K kp) (fun t23 z=>
 gK t19 true (fun K=>ab (ae z (bC t23)) K) (fun t24 z=>
 ab (ae z (aF t19 t24 (.val (.bool false)))) fun t25 z=>
 j1 [(1,t1),(3,t3),(8,t25)] z
 ) z) z) z) z)
 ) kp)
 ) kp))) kp
theorem EG (h:F41 t0 z k kp):Ev Tryz.prog 41 [t0] z k kp:=evF mixed Tryz.func41 [(0,[1]),(1,[1,3]),(3006,[1,3,8]),(2,[1,3,8]),(3,[1,3,8]),(4,[1,3,8]),(5,[2]),(3009,[1,3,26]),(6,[1,3,26]),(7,[1,3,26]),(8,[2]),(9,[2])] (by kernel_rfl) (by kernel_rfl) h
def F71 (t0 t1:AV) (z:ah) (k kp:AV→ah→Prop):Prop:=
 ab (bq t0 z) fun t2 z=>
 ab (ae z (aj false 1 t1 z)) fun t4 z=>
 ab (ae z (ar .add .prim t4 (.val (.int .i64 1)))) fun t5 z=>
 ab (aG (az 1 t1 t5 z)) fun _ z=>
 k (.val (.bool true)) z
theorem EZ (h:F71 t0 t1 z k kp):Ev Tryz.prog 71 [t0,t1] z k kp:=evF mixed Tryz.func71 [(0,[1]),(1,[]),(2,[3])] (by kernel_rfl) (by kernel_rfl) h
def F69 (t0:AV) (z:ah) (k kp:AV→ah→Prop):Prop:=
 ab (ae z (aE .slice t0 z)) fun t5 z=>
 ab (ae z (ar .gtr .prim t5 (.val (.int .i64 100)))) fun t6 z=>
 ay t6 (
 k (.val (.bool true)) z
 ) (
 bk (fun fr z=>(
 k (.val (.bool false)) z
 )) (fun j1=>(
 ab (ae z (aE .slice t0 z)) fun t8 z=>
 bj (fun fr z again=>(
 ab (ae z (ar .lss .prim (aa fr 9) (aa fr 8))) fun t10 z=>
 ay t10 (
 ab (ae z (ak 3 (aa fr 0) (aa fr 9) z)) fun t14 z=>
 ab (ae z (ag 2 t14)) fun t15 z=>
 ab (ae z (aj false 1 t15 z)) fun t16 z=>
 ab (ae z (aE .str t16 z)) fun t17 z=>
 ab (ae z (ar .gtr .prim t17 (.val (.int .i64 100)))) fun t18 z=>
 ay t18 (
 k (.val (.bool true)) z
 ) (
 ab (ae z (ar .add .prim (aa fr 9) (.val (.int .i64 1)))) fun t19 z=>
 again [(0,(aa fr 0)),(8,(aa fr 8)),(9,t19)] z
 )
 ) (
 j1 [(0,(aa fr 0))] z
 )
 )) [(0,t0),(8,t8),(9,(.val (.int .i64 0)))] z
 ))
 )
theorem EX (h:F69 t0 z k kp):Ev Tryz.prog 69 [t0] z k kp:=evF mixed Tryz.func69 [(0,[0]),(1,[0,6]),(2,[2]),(3010,[0]),(3,[0,8,9]),(4,[0,8,9,10]),(5,[0,3,8,9]),(6,[0,8,9,18]),(7,[2]),(8,[0,8,9]),(1004,[0,8,9]),(9,[2])] (by kernel_rfl) (by kernel_rfl) h
def F70 (t0:AV) (z:ah) (k kp:AV→ah→Prop):Prop:=
 ab (bq t0 z) fun t1 z=>
 ab (ae z (aj true 4 t1 z)) fun t3 z=>
 Ev Tryz.prog 112 [t3,(.val (.int .i64 100))] z (fun t4 z=>
 ab (ae z (ar .lss .prim t4 (.val (.int .i64 0)))) fun t5 z=>
 k t5 z) kp
theorem EY (h:F70 t0 z k kp):Ev Tryz.prog 70 [t0] z k kp:=evF mixed Tryz.func70 [(0,[1]),(1,[2])] (by kernel_rfl) (by kernel_rfl) h
def F72 (t0:AV) (z:ah) (k kp:AV→ah→Prop):Prop:=
 ab (aR [.val (.bool false),.val (.bool false),.val (.bool false),.val (.bool false),.val (.bool false)] z) fun t2 z=>
 bk (fun fr z=>(
 ay (aa fr 4) (
 ab (ae z (aN [.val (.bool false),.val (.bool false),.val (.bool false),.val (.bool false),.val (.bool false)] [(0,1,(.val (.bool true)))])) fun t8 z=>
 ab (aG (az 5 (aa fr 2) t8 z)) fun _ z=>
 aW (aj true 5 (aa fr 2) z) fun r0=>
 k r0 z
 ) (
 ab (ae z (ar .eql .prim (aa fr 3) (.val (.int .u8 11)))) fun t10 z=>
 ay t10 (
 ab (ae z (aN [.val (.bool false),.val (.bool false),.val (.bool false),.val (.bool false),.val (.bool false)] [(0,1,(.val (.bool true))),(2,1,(.val (.bool true))),(3,1,(.val (.bool true)))])) fun t11 z=>
 ab (aG (az 5 (aa fr 2) t11 z)) fun _ z=>
 aW (aj true 5 (aa fr 2) z) fun r0=>
 k r0 z
 ) (
 ab (ae z (ar .eql .prim (aa fr 3) (.val (.int .u8 13)))) fun t13 z=>
 ay t13 (
 ab (ae z (aN [.val (.bool false),.val (.bool false),.val (.bool false),.val (.bool false),.val (.bool false)] [(0,1,(.val (.bool true))),(1,1,(.val (.bool true))),(2,1,(.val (.bool true))),(3,1,(.val (.bool true))),(4,1,(.val (.bool true)))])) fun t14 z=>
 ab (aG (az 5 (aa fr 2) t14 z)) fun _ z=>
 aW (aj true 5 (aa fr 2) z) fun r0=>
 k r0 z
 ) (
 ab (ae z (ar .eql .prim (aa fr 3) (.val (.int .u8 15)))) fun t16 z=>
 ay t16 (
 ab (ae z (aN [.val (.bool false),.val (.bool false),.val (.bool false),.val (.bool false),.val (.bool false)] [(3,1,(.val (.bool true)))])) fun t17 z=>
 ab (aG (az 5 (aa fr 2) t17 z)) fun _ z=>
 aW (aj true 5 (aa fr 2) z) fun r0=>
 k r0 z
 ) (
 ab (ae z (ar .eql .prim (aa fr 3) (.val (.int .u8 18)))) fun t19 z=>
 ay t19 (
 ab (ae z (aN [.val (.bool false),.val (.bool false),.val (.bool false),.val (.bool false),.val (.bool false)] [(0,1,(.val (.bool true))),(1,1,(.val (.bool true))),(2,1,(.val (.bool true)))])) fun t20 z=>
 ab (aG (az 5 (aa fr 2) t20 z)) fun _ z=>
 aW (aj true 5 (aa fr 2) z) fun r0=>
 k r0 z
 ) (
 ab (ae z (aN [.val (.bool false),.val (.bool false),.val (.bool false),.val (.bool false),.val (.bool false)] [])) fun t21 z=>
 ab (aG (az 5 (aa fr 2) t21 z)) fun _ z=>
 aW (aj true 5 (aa fr 2) z) fun r0=>
 k r0 z
 )
 )
 )
 )
 )
 )) (fun j1=>(
 ab (ae z (ar .eql .prim t0 (.val (.int .u8 3)))) fun t5 z=>
 ay t5 (
 j1 [(2,t2),(3,t0),(4,t5)] z
 ) (
 ab (ae z (ar .eql .prim t0 (.val (.int .u8 6)))) fun t6 z=>
 ay t6 (
 j1 [(2,t2),(3,t0),(4,t6)] z
 ) (
 ab (ae z (ar .eql .prim t0 (.val (.int .u8 17)))) fun t7 z=>
 j1 [(2,t2),(3,t0),(4,t7)] z
 )
 )
 ))
theorem E1 (h:F72 t0 z k kp):Ev Tryz.prog 72 [t0] z k kp:=evF mixed Tryz.func72 [(0,[0,2]),(1,[2,3]),(3006,[2,3,4]),(2,[2,3,4]),(3,[2,3,4]),(4,[2,3,4]),(5,[2]),(6,[2,3,9]),(7,[2]),(8,[2,3,12]),(9,[2]),(10,[2,3,15]),(11,[2]),(12,[2,18]),(13,[2]),(14,[2])] (by kernel_rfl) (by kernel_rfl) h
def F73 (t0:AV) (z:ah) (k kp:AV→ah→Prop):Prop:=
 ab (bq t0 z) fun t1 z=>
 bk (fun fr z=>(
 ab (ae z (ag 18 (aa fr 1))) fun t31 z=>
 ab (ae z (aj false 1 t31 z)) fun t32 z=>
 ab (ae z (aE .slice t32 z)) fun t33 z=>
 ab (ae z (ar .leq .prim t33 (.val (.int .i64 3)))) fun t34 z=>
 gK t34 true (fun K=>ab (ae z (aj true 19 (aa fr 1) z)) K) (fun t36 z=>
 gK t34 true (fun K=>Ev Tryz.prog 114 [t36] z K kp) (fun t37 z=>
 gK t34 true (fun K=>Ev Tryz.prog 113 [t37] z K kp) (fun t38 z=>
 ab (ae z (aF t34 t38 (.val (.bool false)))) fun t39 z=>
 k t39 z
 ) z) z) z)) (fun j1=>(
 ab (ae z (ag 0 t1)) fun t3 z=>
 ab (ae z (ag 0 t3)) fun t4 z=>
 ab (ae z (aj false 1 t4 z)) fun t5 z=>
 ab (ae z (ar .eql .prim t5 (.val (.int .u8 17)))) fun t7 z=>
 ay t7 (
 ab (ae z (ag 0 t1)) fun t8 z=>
 ab (ae z (aj true 7 t8 z)) fun t9 z=>
 ab (ae z (ag 0 t1)) fun t10 z=>
 ab (ae z (ag 2 t10)) fun t11 z=>
 ab (ae z (aj false 1 t11 z)) fun t12 z=>
 ab (ae z (aN [.val (.int .u8 0),.val (.int .u8 0),.val (.int .i64 0),.val (.int .i64 0),.val (.string ByteArray.empty),.val (.string ByteArray.empty),.val (.string ByteArray.empty)] [(0,1,(.val (.int .u8 17))),(2,1,t12)])) fun t13 z=>
 ab (ae z (ar .eql (.agg [.i,.i,.i,.i,.s,.s,.s]) t9 t13)) fun t14 z=>
 gK t14 true (fun K=>ab (ae z (ag 0 t1)) K) (fun t16 z=>
 gK t14 true (fun K=>ab (ae z (ag 2 t16)) K) (fun t17 z=>
 gK t14 true (fun K=>ab (ae z (aj false 1 t17 z)) K) (fun t18 z=>
 gK t14 true (fun K=>ab (ae z (ar .geq .prim t18 (.val (.int .i64 0)))) K) (fun t19 z=>
 ab (ae z (aF t14 t19 (.val (.bool false)))) fun t20 z=>
 gK t20 true (fun K=>ab (ae z (ag 18 t1)) K) (fun t22 z=>
 gK t20 true (fun K=>ab (ae z (aj false 1 t22 z)) K) (fun t23 z=>
 gK t20 true (fun K=>ab (ae z (aE .slice t23 z)) K) (fun t24 z=>
 gK t20 true (fun K=>ab (ae z (ar .eql .prim t24 (.val (.int .i64 1)))) K) (fun t25 z=>
 ab (ae z (aF t20 t25 (.val (.bool false)))) fun t26 z=>
 k t26 z
 ) z) z) z) z) z) z) z) z) (
 ab (ae z (ar .eql .prim t5 (.val (.int .u8 18)))) fun t28 z=>
 ay t28 (
 ab (ae z (ag 0 t1)) fun t29 z=>
 ab (ae z (ag 0 t29)) fun t30 z=>
 ab (aG (az 1 t30 (.val (.int .u8 2)) z)) fun _ z=>
 j1 [(1,t1)] z
 ) (
 j1 [(1,t1)] z
 )
 )
 ))
theorem E2 (h:F73 t0 z k kp):Ev Tryz.prog 73 [t0] z k kp:=evF mixed Tryz.func73 [(0,[1]),(3007,[1]),(1,[1,5]),(2,[1,5,6]),(3,[2]),(4,[1,27]),(5,[1]),(6,[2])] (by kernel_rfl) (by kernel_rfl) h
def F74 (t0 t1:AV) (z:ah) (k kp:AV→ah→Prop):Prop:=
 ab (bq t0 z) fun t2 z=>
 ab (bq t1 z) fun t3 z=>
 ab (aR [.val (.int .i64 0)] z) fun t5 z=>
 ab (aG (az 1 t5 (.val (.int .i64 0)) z)) fun _ z=>
 bk (fun fr z=>(
 ab (ae z (ag 7 (aa fr 2))) fun t11 z=>
 ab (ae z (aj false 1 t11 z)) fun t12 z=>
 ab (ae z (ar .lss .prim t12 (.val (.int .i64 0)))) fun t13 z=>
 gK t13 false (fun K=>ab (ae z (ag 0 (aa fr 2))) K) (fun t15 z=>
 gK t13 false (fun K=>ab (ae z (ag 0 t15)) K) (fun t16 z=>
 gK t13 false (fun K=>ab (ae z (aj false 1 t16 z)) K) (fun t17 z=>
 gK t13 false (fun K=>ab (ae z (ar .eql .prim t17 (.val (.int .u8 17)))) K) (fun t18 z=>
 gK t13 false (fun K=>K t18 z) (fun t19 z=>
 gK t19 true (fun K=>ab (ae z (ag 7 (aa fr 2))) K) (fun t20 z=>
 gK t19 true (fun K=>ab (ae z (aj false 1 t20 z)) K) (fun t21 z=>
 gK t19 true (fun K=>ab (ae z (ar .lss .prim t21 (.val (.int .i64 1)))) K) (fun t22 z=>
 gK t13 false (fun K=>ab (ae z (aF t19 t22 (.val (.bool false)))) K) (fun t23 z=>
 ab (ae z (aF t13 (.val (.bool true)) t23)) fun t24 z=>
 ab (ae z (ag 0 (aa fr 3))) fun t25 z=>
 ab (ae z (aj false 1 t25 z)) fun t26 z=>
 ab (ae z (bC t26)) fun t27 z=>
 gK t27 true (fun K=>ab (ae z (ag 7 (aa fr 2))) K) (fun t29 z=>
 gK t27 true (fun K=>ab (ae z (aj false 1 t29 z)) K) (fun t30 z=>
 gK t27 true (fun K=>ab (ae z (ar .neq .prim t30 (.val (.int .i64 0)))) K) (fun t31 z=>
 ab (ae z (aF t27 t31 (.val (.bool false)))) fun t32 z=>
 gK t32 false (fun K=>K t24 z) (fun t34 z=>
 ab (ae z (aF t32 (.val (.bool true)) t34)) fun t35 z=>
 gK t35 false (fun K=>ab (ae z (ag 1 (aa fr 3))) K) (fun t37 z=>
 gK t35 false (fun K=>ab (ae z (aj false 1 t37 z)) K) (fun t38 z=>
 gK t35 false (fun K=>ab (ae z (bC t38)) K) (fun t39 z=>
 gK t35 false (fun K=>K t39 z) (fun t40 z=>
 gK t40 true (fun K=>ab (ae z (ag 8 (aa fr 2))) K) (fun t41 z=>
 gK t40 true (fun K=>ab (ae z (aj false 1 t41 z)) K) (fun t42 z=>
 gK t40 true (fun K=>ab (ae z (aE .slice t42 z)) K) (fun t43 z=>
 gK t40 true (fun K=>ab (ae z (ar .gtr .prim t43 (.val (.int .i64 0)))) K) (fun t44 z=>
 gK t35 false (fun K=>ab (ae z (aF t40 t44 (.val (.bool false)))) K) (fun t45 z=>
 ab (ae z (aF t35 (.val (.bool true)) t45)) fun t46 z=>
 ay t46 (
 k (.val (.bool false)) z
 ) (
 ab (ae z (ag 8 (aa fr 2))) fun t47 z=>
 ab (ae z (aj false 1 t47 z)) fun t48 z=>
 Ev Tryz.prog 115 [t48,(.fn (.func 116) [(aa fr 5)])] z (fun t50 z=>
 ab (ae z (bC t50)) fun t51 z=>
 k t51 z
 ) kp)
 ) z) z) z) z) z) z) z) z) z) z) z) z) z) z) z) z) z) z) z) z) z) z)) (fun j1=>(
 ab (ae z (ag 0 t2)) fun t7 z=>
 ab (ae z (ag 0 t7)) fun t8 z=>
 ab (ae z (aj false 1 t8 z)) fun t9 z=>
 ab (ae z (ar .eql .prim t9 (.val (.int .u8 13)))) fun t10 z=>
 ay t10 (
 ab (aG (az 1 t5 (.val (.int .i64 1)) z)) fun _ z=>
 j1 [(2,t2),(3,t3),(5,t5)] z
 ) (
 j1 [(2,t2),(3,t3),(5,t5)] z
 )
 ))
theorem E3 (h:F74 t0 t1 z k kp):Ev Tryz.prog 74 [t0,t1] z k kp:=evF mixed Tryz.func74 [(0,[2,3]),(1,[2,3,5]),(3005,[2,3,5]),(2,[2,3,5,10]),(3,[2,3,5]),(4,[2,3,5,6]),(5,[2,5,46]),(6,[4]),(7,[4])] (by kernel_rfl) (by kernel_rfl) h
def F77 (t0 t1:AV) (z:ah) (k kp:AV→ah→Prop):Prop:=
 ab (bq t1 z) fun t3 z=>
 ay t0 (
 ab (ae z (aj true 4 t3 z)) fun t6 z=>
 ab (ae z (aV 1 4 [.val (.int .u8 0),.val (.int .i64 0),.val (.slice none 0 0),.val (.slice none 0 0)] [(0,t6)])) fun t7 z=>
 Ev Tryz.prog 122 [t7] z (fun t8 z=>
 k t8 z
 ) kp) (
 ab (ae z (ag 0 t3)) fun t9 z=>
 ab (ae z (aj false 1 t9 z)) fun t10 z=>
 ab (ae z (ar .eql .prim t10 (.val (.int .u8 0)))) fun t11 z=>
 gK t11 true (fun K=>ab (ae z (ag 1 t3)) K) (fun t13 z=>
 gK t11 true (fun K=>ab (ae z (aj false 1 t13 z)) K) (fun t14 z=>
 gK t11 true (fun K=>ab (ae z (ar .eql .prim t14 (.val (.int .i64 0)))) K) (fun t15 z=>
 ab (ae z (aF t11 t15 (.val (.bool false)))) fun t16 z=>
 gK t16 true (fun K=>ab (ae z (ag 2 t3)) K) (fun t18 z=>
 gK t16 true (fun K=>ab (ae z (aj false 1 t18 z)) K) (fun t19 z=>
 gK t16 true (fun K=>ab (ae z (aE .slice t19 z)) K) (fun t20 z=>
 gK t16 true (fun K=>ab (ae z (ag 3 t3)) K) (fun t21 z=>
 gK t16 true (fun K=>ab (ae z (aj false 1 t21 z)) K) (fun t22 z=>
 gK t16 true (fun K=>ab (ae z (aE .slice t22 z)) K) (fun t23 z=>
 gK t16 true (fun K=>ab (ae z (ar .add .prim t20 t23)) K) (fun t24 z=>
 gK t16 true (fun K=>ab (ae z (ar .eql .prim t24 (.val (.int .i64 0)))) K) (fun t25 z=>
 ab (ae z (aF t16 t25 (.val (.bool false)))) fun t26 z=>
 k t26 z
 ) z) z) z) z) z) z) z) z) z) z) z)
theorem E5 (h:F77 t0 t1 z k kp):Ev Tryz.prog 77 [t0,t1] z k kp:=evF mixed Tryz.func77 [(0,[0,3]),(1,[3,5]),(2,[4]),(4002,[1]),(3,[4])] (by kernel_rfl) (by kernel_rfl) h
def F112 (t0 t1:AV) (z:ah) (k kp:AV→ah→Prop):Prop:=
 ab (bq t0 z) fun t2 z=>
 ab (ae z (ar .sub .prim t1 (.val (.int .i64 1)))) fun t7 z=>
 ab (ae z (ag 2 t2)) fun t8 z=>
 ab (ae z (aj false 1 t8 z)) fun t9 z=>
 Ev Tryz.prog 69 [t9] z (fun t10 z=>
 ay t10 (
 k (.val (.int .i64 (-1))) z
 ) (
 bk (fun fr z=>(
 k (aa fr 1) z
 )) (fun j1=>(
 bj (fun fr z again=>(
 ab (ae z (ag 3 (aa fr 2))) fun t12 z=>
 ab (ae z (aj false 1 t12 z)) fun t13 z=>
 ab (ae z (aE .slice t13 z)) fun t14 z=>
 ab (ae z (ar .lss .prim (aa fr 5) t14)) fun t15 z=>
 gK t15 true (fun K=>K (aa fr 1) z) (fun t17 z=>
 gK t15 true (fun K=>ab (ae z (ar .geq .prim t17 (.val (.int .i64 0)))) K) (fun t18 z=>
 ab (ae z (aF t15 t18 (.val (.bool false)))) fun t19 z=>
 ay t19 (
 ab (ae z (ag 3 (aa fr 2))) fun t22 z=>
 ab (ae z (aj false 1 t22 z)) fun t23 z=>
 ab (ae z (ak 4 t23 (aa fr 5) z)) fun t25 z=>
 ab (ae z (aj true 4 t25 z)) fun t26 z=>
 Ev Tryz.prog 112 [t26,(aa fr 1)] z (fun t28 z=>
 ab (ae z (ar .add .prim (aa fr 5) (.val (.int .i64 1)))) fun t21 z=>
 again [(1,t28),(2,(aa fr 2)),(5,t21)] z
 ) kp) (
 j1 [(1,(aa fr 1))] z
 )
 ) z) z)) [(1,t7),(2,t2),(5,(.val (.int .i64 0)))] z
 ))
 )) kp
theorem Ax (h:F112 t0 t1 z k kp):Ev Tryz.prog 112 [t0,t1] z k kp:=evF mixed Tryz.func112 [(0,[1,2]),(1,[1,2]),(2,[1,2,10]),(3,[4]),(3009,[1]),(4,[1,2,5]),(5,[1,2,5,19]),(7,[1,2,5]),(6,[1,2,5]),(1005,[1,2,5]),(8,[4])] (by kernel_rfl) (by kernel_rfl) h
def F113 (t0:AV) (z:ah) (k kp:AV→ah→Prop):Prop:=
 ab (bq t0 z) fun t1 z=>
 ab (ae z (aj true 8 t1 z)) fun t3 z=>
 ab (ae z (aV 1 8 [.val (.int .u8 0),.val (.int .u8 0),.val (.int .i64 0),.val (.int .i64 0),.val (.string ByteArray.empty),.val (.string ByteArray.empty),.val (.string ByteArray.empty),.val (.slice none 0 0)] [(0,t3)])) fun t4 z=>
 Ev Tryz.prog 156 [t4] z (fun t5 z=>
 ab (ae z (ar .leq .prim t5 (.val (.int .i64 4000)))) fun t6 z=>
 gK t6 true (fun K=>ab (ae z (aj true 8 t1 z)) K) (fun t8 z=>
 gK t6 true (fun K=>ab (ae z (aV 1 8 [.val (.int .u8 0),.val (.int .u8 0),.val (.int .i64 0),.val (.int .i64 0),.val (.string ByteArray.empty),.val (.string ByteArray.empty),.val (.string ByteArray.empty),.val (.slice none 0 0)] [(0,t8)])) K) (fun t9 z=>
 gK t6 true (fun K=>Ev Tryz.prog 157 [(.fn (.func 158) []),t9] z K kp) (fun t10 z=>
 ab (ae z (aF t6 t10 (.val (.bool false)))) fun t11 z=>
 k t11 z) z) z) z) kp
theorem Ay (h:F113 t0 z k kp):Ev Tryz.prog 113 [t0] z k kp:=evF mixed Tryz.func113 [(0,[1]),(1,[2]),(4001,[1])] (by kernel_rfl) (by kernel_rfl) h
def F114 (t0:AV) (z:ah) (k kp:AV→ah→Prop):Prop:=
 ab (bq t0 z) fun t1 z=>
 ab (aR [.val (.int .u8 0),.val (.int .u8 0),.val (.int .i64 0),.val (.int .i64 0),.val (.string ByteArray.empty),.val (.string ByteArray.empty),.val (.string ByteArray.empty),.val (.slice none 0 0)] z) fun t2 z=>
 ab (ae z (ag 0 t1)) fun t4 z=>
 ab (ae z (aj true 7 t4 z)) fun t5 z=>
 ab (ae z (aN [.val (.int .u8 0),.val (.int .u8 0),.val (.int .i64 0),.val (.int .i64 0),.val (.string ByteArray.empty),.val (.string ByteArray.empty),.val (.string ByteArray.empty),.val (.slice none 0 0)] [(0,7,t5)])) fun t6 z=>
 ab (aR [.val (.int .u8 0),.val (.int .u8 0),.val (.int .i64 0),.val (.int .i64 0),.val (.string ByteArray.empty),.val (.string ByteArray.empty),.val (.string ByteArray.empty),.val (.slice none 0 0)] z) fun t3 z=>
 ab (aG (az 8 t3 t6 z)) fun _ z=>
 bk (fun fr z=>(
 ab (ae z (aj true 8 (aa fr 3) z)) fun t20 z=>
 ab (aG (az 8 (aa fr 2) t20 z)) fun _ z=>
 aW (aj true 8 (aa fr 2) z) fun r0=>
 k r0 z
 )) (fun j1=>(
 ab (ae z (ag 18 t1)) fun t7 z=>
 ab (ae z (aj false 1 t7 z)) fun t8 z=>
 ab (ae z (aE .slice t8 z)) fun t9 z=>
 bj (fun fr z again=>(
 ab (ae z (ar .lss .prim (aa fr 10) (aa fr 9))) fun t11 z=>
 ay t11 (
 ab (ae z (ag 7 (aa fr 3))) fun t12 z=>
 ab (ae z (aj false 1 t12 z)) fun t13 z=>
 ab (ae z (aN [.val (.int .u8 0),.val (.int .u8 0),.val (.int .i64 0),.val (.int .i64 0),.val (.string ByteArray.empty),.val (.string ByteArray.empty),.val (.string ByteArray.empty)] [(0,1,(.val (.int .u8 1)))])) fun t14 z=>
 ab (ae z (aN [.val (.int .u8 0),.val (.int .u8 0),.val (.int .i64 0),.val (.int .i64 0),.val (.string ByteArray.empty),.val (.string ByteArray.empty),.val (.string ByteArray.empty),.val (.slice none 0 0)] [(0,7,t14)])) fun t15 z=>
 ab (ae z (aV 1 8 [.val (.int .u8 0),.val (.int .u8 0),.val (.int .i64 0),.val (.int .i64 0),.val (.string ByteArray.empty),.val (.string ByteArray.empty),.val (.string ByteArray.empty),.val (.slice none 0 0)] [(0,t15)])) fun t16 z=>
 ab (aY 8 96 t13 t16 z) fun t17 z=>
 ab (ae z (ag 7 (aa fr 3))) fun t18 z=>
 ab (aG (az 1 t18 t17 z)) fun _ z=>
 ab (ae z (ar .add .prim (aa fr 10) (.val (.int .i64 1)))) fun t19 z=>
 again [(2,(aa fr 2)),(3,(aa fr 3)),(9,(aa fr 9)),(10,t19)] z
 ) (
 j1 [(2,(aa fr 2)),(3,(aa fr 3))] z
 )
 )) [(2,t2),(3,t3),(9,t9),(10,(.val (.int .i64 0)))] z
 ))
theorem Az (h:F114 t0 z k kp):Ev Tryz.prog 114 [t0] z k kp:=evF mixed Tryz.func114 [(0,[1,2]),(1,[1,2,3]),(3007,[2,3]),(2,[2,3,9,10]),(3,[2,3,9,10,11]),(4,[2,3,9,10]),(4004,[1]),(5,[2,3,9,10]),(1003,[2,3,9,10]),(6,[2])] (by kernel_rfl) (by kernel_rfl) h
def F115 (t0 t1:AV) (z:ah) (k kp:AV→ah→Prop):Prop:=
 Ev Tryz.prog 159 [t0,t1] z (fun t7 z=>
 ab (ae z (ar .geq .prim t7 (.val (.int .i64 0)))) fun t8 z=>
 k t8 z) kp
theorem AA (h:F115 t0 t1 z k kp):Ev Tryz.prog 115 [t0,t1] z k kp:=evF mixed Tryz.func115 [(0,[0,1]),(1,[4])] (by kernel_rfl) (by kernel_rfl) h
def F116 (t0 t1:AV) (z:ah) (k kp:AV→ah→Prop):Prop:=
 ab (ae z (aj false 1 t1 z)) fun t5 z=>
 ab (ae z (ar .lss .prim t0 t5)) fun t6 z=>
 k t6 z
theorem AB (h:F116 t0 t1 z k kp):Ev Tryz.prog 116 [t0,t1] z k kp:=evF mixed Tryz.func116 [(0,[0,1]),(1,[3])] (by kernel_rfl) (by kernel_rfl) h
def F156 (t0:AV) (z:ah) (k kp:AV→ah→Prop):Prop:=
 ab (aR [.val (.int .i64 0)] z) fun t3 z=>
 ab (aG (az 1 t3 (.val (.int .i64 0)) z)) fun _ z=>
 Ev Tryz.prog 157 [(.fn (.func 178) [t3]),t0] z (fun t6 z=>
 ab (ae z (aj false 1 t3 z)) fun t7 z=>
 k t7 z) kp
theorem Be (h:F156 t0 z k kp):Ev Tryz.prog 156 [t0] z k kp:=evF mixed Tryz.func156 [(0,[0]),(1,[0,3]),(2,[3]),(3,[2])] (by kernel_rfl) (by kernel_rfl) h
def Ea (t0 t1:AV) (z:ah) (k kp:AV→ah→Prop):Prop:=
 bk (fun fr z=>(
 k (.val (.bool true)) z
 )) (fun j1=>(
 ab (ae z (aE .slice t1 z)) fun t8 z=>
 bj (fun fr z again=>(
 ab (ae z (ar .lss .prim (aa fr 9) (aa fr 8))) fun t10 z=>
 ay t10 (
 ab (ae z (ak 8 (aa fr 7) (aa fr 9) z)) fun t11 z=>
 ab (ae z (aj true 8 t11 z)) fun t12 z=>
 ab (aR [.val (.int .u8 0),.val (.int .u8 0),.val (.int .i64 0),.val (.int .i64 0),.val (.string ByteArray.empty),.val (.string ByteArray.empty),.val (.string ByteArray.empty),.val (.slice none 0 0)] z) fun t6 z=>
 ab (aG (az 8 t6 t12 z)) fun _ z=>
 ab (ae z (aj true 8 t6 z)) fun t14 z=>
 fX Tryz.prog (aa fr 0) [t14] z (fun t15 z=>
 ab (ae z (bC t15)) fun t16 z=>
 gK t16 false (fun K=>K (aa fr 0) z) (fun t18 z=>
 gK t16 false (fun K=>ab (ae z (ag 7 t6)) K) (fun t19 z=>
 gK t16 false (fun K=>ab (ae z (aj false 1 t19 z)) K) (fun t20 z=>
 gK t16 false (fun K=>Ev Tryz.prog 157 [t18,t20] z K kp) (fun t21 z=>
 gK t16 false (fun K=>ab (ae z (bC t21)) K) (fun t22 z=>
 ab (ae z (aF t16 (.val (.bool true)) t22)) fun t23 z=>
 ay t23 (
 k (.val (.bool false)) z
 ) (
 ab (ae z (ar .add .prim (aa fr 9) (.val (.int .i64 1)))) fun t24 z=>
 again [(0,(aa fr 0)),(7,(aa fr 7)),(8,(aa fr 8)),(9,t24)] z
 )
 ) z) z) z) z) z) kp) (
 j1 [(0,(aa fr 0))] z
 )
 )) [(0,t0),(7,t1),(8,t8),(9,(.val (.int .i64 0)))] z
 ))
theorem vc (h:Ea t0 t1 z k kp):Ev Tryz.prog 157 [t0,t1] z k kp:=evF mixed Tryz.func157 [(0,[0,1]),(3008,[0]),(1,[0,7,8,9]),(2,[0,7,8,9,10]),(3,[0,6,7,8,9]),(4,[0,7,8,9,23]),(5,[4]),(6,[0,7,8,9]),(1002,[0,7,8,9]),(7,[4])] (by kernel_rfl) (by kernel_rfl) h
def F158 (t0:AV) (z:ah) (k kp:AV→ah→Prop):Prop:=
 ab (bq t0 z) fun t1 z=>
 Ev Tryz.prog 179 [] z (fun t6 z=>
 ab (ae z (ag 0 t1)) fun t7 z=>
 ab (ae z (ag 0 t7)) fun t8 z=>
 ab (ae z (aj false 1 t8 z)) fun t9 z=>
 ab (ae z (ar .lss .prim t9 (.val (.int .u8 1)))) fun t10 z=>
 gK t10 false (fun K=>ab (ae z (ag 0 t1)) K) (fun t12 z=>
 gK t10 false (fun K=>ab (ae z (ag 0 t12)) K) (fun t13 z=>
 gK t10 false (fun K=>ab (ae z (aj false 1 t13 z)) K) (fun t14 z=>
 gK t10 false (fun K=>ab (ae z (iW (.int .i64) t14)) K) (fun t15 z=>
 gK t10 false (fun K=>K t6 z) (fun t16 z=>
 gK t10 false (fun K=>ab (ae z (aE .slice t16 z)) K) (fun t17 z=>
 gK t10 false (fun K=>ab (ae z (ar .gtr .prim t15 t17)) K) (fun t18 z=>
 ab (ae z (aF t10 (.val (.bool true)) t18)) fun t19 z=>
 gK t19 false (fun K=>ab (ae z (ag 0 t1)) K) (fun t21 z=>
 gK t19 false (fun K=>ab (ae z (ag 2 t21)) K) (fun t22 z=>
 gK t19 false (fun K=>ab (ae z (aj false 1 t22 z)) K) (fun t23 z=>
 gK t19 false (fun K=>ab (ae z (ar .lss .prim t23 (.val (.int .i64 0)))) K) (fun t24 z=>
 ab (ae z (aF t19 (.val (.bool true)) t24)) fun t25 z=>
 ay t25 (
 k (.val (.bool false)) z
 ) (
 ab (ae z (ag 0 t1)) fun t27 z=>
 ab (ae z (ag 0 t27)) fun t28 z=>
 ab (ae z (aj false 1 t28 z)) fun t29 z=>
 ab (ae z (ar .sub .prim t29 (.val (.int .u8 1)))) fun t30 z=>
 ab (ae z (ak 2 t6 t30 z)) fun t31 z=>
 ab (ae z (aj true 2 t31 z)) fun t32 z=>
 ab (aR [.val (.int .i64 0),.val (.string ByteArray.empty)] z) fun t4 z=>
 ab (aG (az 2 t4 t32 z)) fun _ z=>
 ab (ae z (ag 0 t1)) fun t33 z=>
 ab (ae z (ag 1 t33)) fun t34 z=>
 ab (ae z (aj false 1 t34 z)) fun t35 z=>
 ab (ae z (ar .geq .prim t35 (.val (.int .u8 1)))) fun t36 z=>
 gK t36 true (fun K=>ab (ae z (ag 0 t1)) K) (fun t38 z=>
 gK t36 true (fun K=>ab (ae z (ag 1 t38)) K) (fun t39 z=>
 gK t36 true (fun K=>ab (ae z (aj false 1 t39 z)) K) (fun t40 z=>
 gK t36 true (fun K=>ab (ae z (ar .leq .prim t40 (.val (.int .u8 5)))) K) (fun t41 z=>
 ab (ae z (aF t36 t41 (.val (.bool false)))) fun t42 z=>
 bk (fun fr z=>(
 ay (aa fr 43) (
 k (.val (.bool false)) z
 ) (
 ab (ae z (ag 0 (aa fr 1))) fun t68 z=>
 ab (ae z (ag 3 t68)) fun t69 z=>
 ab (ae z (aj false 1 t69 z)) fun t70 z=>
 ab (ae z (ar .lss .prim t70 (.val (.int .i64 0)))) fun t71 z=>
 gK t71 false (fun K=>ab (ae z (ag 0 (aa fr 1))) K) (fun t73 z=>
 gK t71 false (fun K=>ab (ae z (ag 3 t73)) K) (fun t74 z=>
 gK t71 false (fun K=>ab (ae z (aj false 1 t74 z)) K) (fun t75 z=>
 gK t71 false (fun K=>ab (ae z (ar .gtr .prim t75 (.val (.int .i64 2147483647)))) K) (fun t76 z=>
 ab (ae z (aF t71 (.val (.bool true)) t76)) fun t77 z=>
 gK t77 false (fun K=>ab (ae z (aj true 2 (aa fr 4) z)) K) (fun t79 z=>
 gK t77 false (fun K=>Ev Tryz.prog 180 [t79,(.val (.int .u8 110))] z K kp) (fun t80 z=>
 gK t77 false (fun K=>ab (ae z (bC t80)) K) (fun t81 z=>
 gK t77 false (fun K=>K t81 z) (fun t82 z=>
 gK t82 true (fun K=>ab (ae z (ag 0 (aa fr 1))) K) (fun t83 z=>
 gK t82 true (fun K=>ab (ae z (ag 3 t83)) K) (fun t84 z=>
 gK t82 true (fun K=>ab (ae z (aj false 1 t84 z)) K) (fun t85 z=>
 gK t82 true (fun K=>ab (ae z (ar .neq .prim t85 (.val (.int .i64 0)))) K) (fun t86 z=>
 gK t77 false (fun K=>ab (ae z (aF t82 t86 (.val (.bool false)))) K) (fun t87 z=>
 ab (ae z (aF t77 (.val (.bool true)) t87)) fun t88 z=>
 ay t88 (
 k (.val (.bool false)) z
 ) (
 ab (ae z (aj true 2 (aa fr 4) z)) fun t89 z=>
 ab (ae z (ag 0 (aa fr 1))) fun t90 z=>
 ab (ae z (ag 4 t90)) fun t91 z=>
 ab (ae z (aj false 1 t91 z)) fun t92 z=>
 Ev Tryz.prog 181 [t89,(.val (.int .u8 109)),t92,(.fn (.func 182) [])] z (fun t93 z=>
 gK t93 true (fun K=>ab (ae z (aj true 2 (aa fr 4) z)) K) (fun t95 z=>
 gK t93 true (fun K=>ab (ae z (ag 0 (aa fr 1))) K) (fun t96 z=>
 gK t93 true (fun K=>ab (ae z (ag 5 t96)) K) (fun t97 z=>
 gK t93 true (fun K=>ab (ae z (aj false 1 t97 z)) K) (fun t98 z=>
 gK t93 true (fun K=>Ev Tryz.prog 181 [t95,(.val (.int .u8 97)),t98,(.fn (.func 182) [])] z K kp) (fun t99 z=>
 ab (ae z (aF t93 t99 (.val (.bool false)))) fun t100 z=>
 gK t100 true (fun K=>ab (ae z (aj true 2 (aa fr 4) z)) K) (fun t102 z=>
 gK t100 true (fun K=>ab (ae z (ag 0 (aa fr 1))) K) (fun t103 z=>
 gK t100 true (fun K=>ab (ae z (ag 6 t103)) K) (fun t104 z=>
 gK t100 true (fun K=>ab (ae z (aj false 1 t104 z)) K) (fun t105 z=>
 gK t100 true (fun K=>Ev Tryz.prog 181 [t102,(.val (.int .u8 101)),t105,(.fn (.func 163) [])] z K kp) (fun t106 z=>
 ab (ae z (aF t100 t106 (.val (.bool false)))) fun t107 z=>
 k t107 z
 ) z) z) z) z) z) z) z) z) z) z) kp)
 ) z) z) z) z) z) z) z) z) z) z) z) z) z)
 )) (fun j1=>(
 ab (ae z (ag 7 t1)) fun t44 z=>
 ab (ae z (aj false 1 t44 z)) fun t45 z=>
 ab (ae z (aE .slice t45 z)) fun t46 z=>
 ab (ae z (ag 0 t4)) fun t47 z=>
 ab (ae z (aj false 1 t47 z)) fun t48 z=>
 ab (ae z (ar .neq .prim t46 t48)) fun t49 z=>
 ay t49 (
 j1 [(1,t1),(4,t4),(43,t49)] z
 ) (
 ab (ae z (aj true 2 t4 z)) fun t50 z=>
 Ev Tryz.prog 180 [t50,(.val (.int .u8 111))] z (fun t51 z=>
 gK t51 true (fun K=>K t42 z) (fun t53 z=>
 gK t51 true (fun K=>ab (ae z (bC t53)) K) (fun t54 z=>
 ab (ae z (aF t51 t54 (.val (.bool false)))) fun t55 z=>
 gK t55 false (fun K=>ab (ae z (aj true 2 t4 z)) K) (fun t57 z=>
 gK t55 false (fun K=>Ev Tryz.prog 180 [t57,(.val (.int .u8 111))] z K kp) (fun t58 z=>
 gK t55 false (fun K=>ab (ae z (bC t58)) K) (fun t59 z=>
 gK t55 false (fun K=>K t59 z) (fun t60 z=>
 gK t60 true (fun K=>ab (ae z (ag 0 t1)) K) (fun t61 z=>
 gK t60 true (fun K=>ab (ae z (ag 1 t61)) K) (fun t62 z=>
 gK t60 true (fun K=>ab (ae z (aj false 1 t62 z)) K) (fun t63 z=>
 gK t60 true (fun K=>ab (ae z (ar .neq .prim t63 (.val (.int .u8 0)))) K) (fun t64 z=>
 gK t55 false (fun K=>ab (ae z (aF t60 t64 (.val (.bool false)))) K) (fun t65 z=>
 ab (ae z (aF t55 (.val (.bool true)) t65)) fun t66 z=>
 j1 [(1,t1),(4,t4),(43,t66)] z
 ) z) z) z) z) z) z) z) z) z) z) z) kp)
 ))
 ) z) z) z) z)) z) z) z) z) z) z) z) z) z) z) z) kp
theorem Bf (h:F158 t0 z k kp):Ev Tryz.prog 158 [t0] z k kp:=evF mixed Tryz.func158 [(0,[1]),(1,[1,3]),(2,[1,3,25]),(3,[2]),(4,[1,4]),(5,[1,4,5]),(3009,[1,4,43]),(6,[1,4,5,43]),(7,[1,4,43]),(8,[2]),(9,[1,4,67]),(10,[2]),(11,[2])] (by kernel_rfl) (by kernel_rfl) h
def F159 (t0 t1:AV) (z:ah) (k kp:AV→ah→Prop):Prop:=
 bk (fun fr z=>(
 k (.val (.int .i64 (-1))) z
 )) (fun j1=>(
 ab (ae z (aE .slice t0 z)) fun t7 z=>
 bj (fun fr z again=>(
 ab (ae z (ar .lss .prim (aa fr 8) (aa fr 7))) fun t9 z=>
 ay t9 (
 ab (ae z (ak 1 (aa fr 0) (aa fr 8) z)) fun t14 z=>
 ab (ae z (aj false 1 t14 z)) fun t15 z=>
 fX Tryz.prog (aa fr 1) [t15] z (fun t16 z=>
 ay t16 (
 k (aa fr 8) z
 ) (
 ab (ae z (ar .add .prim (aa fr 8) (.val (.int .i64 1)))) fun t18 z=>
 again [(0,(aa fr 0)),(1,(aa fr 1)),(7,(aa fr 7)),(8,t18)] z
 )
 ) kp) (
 j1 [(0,(aa fr 0))] z
 )
 )) [(0,t0),(1,t1),(7,t7),(8,(.val (.int .i64 0)))] z
 ))
theorem Bg (h:F159 t0 t1 z k kp):Ev Tryz.prog 159 [t0,t1] z k kp:=evF mixed Tryz.func159 [(0,[0,1]),(3008,[0]),(1,[0,1,7,8]),(2,[0,1,7,8,9]),(3,[0,1,5,7,8]),(4,[0,1,5,7,8,16]),(5,[4]),(6,[0,1,7,8]),(1002,[0,1,7,8]),(7,[4])] (by kernel_rfl) (by kernel_rfl) h
def F178 (t0 t1:AV) (z:ah) (k kp:AV→ah→Prop):Prop:=
 ab (bq t0 z) fun t2 z=>
 ab (ae z (aj false 1 t1 z)) fun t4 z=>
 ab (ae z (ar .add .prim t4 (.val (.int .i64 1)))) fun t5 z=>
 ab (aG (az 1 t1 t5 z)) fun _ z=>
 k (.val (.bool true)) z
theorem Bw (h:F178 t0 t1 z k kp):Ev Tryz.prog 178 [t0,t1] z k kp:=evF mixed Tryz.func178 [(0,[1]),(1,[]),(2,[3])] (by kernel_rfl) (by kernel_rfl) h
def F179 (z:ah) (k kp:AV→ah→Prop):Prop:=
 ab (ae z (aN [.val (.int .i64 0),.val (.string ByteArray.empty)] [(0,1,(.val (.int .i64 0))),(1,1,(.val (.string {data:=#[110]})))])) fun t1 z=>
 ab (ae z (aN [.val (.int .i64 0),.val (.string ByteArray.empty)] [(0,1,(.val (.int .i64 0))),(1,1,(.val (.string {data:=#[109]})))])) fun t2 z=>
 ab (ae z (aN [.val (.int .i64 0),.val (.string ByteArray.empty)] [(0,1,(.val (.int .i64 2))),(1,1,(.val (.string {data:=#[]})))])) fun t3 z=>
 ab (ae z (aN [.val (.int .i64 0),.val (.string ByteArray.empty)] [(0,1,(.val (.int .i64 1))),(1,1,(.val (.string {data:=#[]})))])) fun t4 z=>
 ab (ae z (aN [.val (.int .i64 0),.val (.string ByteArray.empty)] [(0,1,(.val (.int .i64 1))),(1,1,(.val (.string {data:=#[]})))])) fun t5 z=>
 ab (ae z (aN [.val (.int .i64 0),.val (.string ByteArray.empty)] [(0,1,(.val (.int .i64 1))),(1,1,(.val (.string {data:=#[]})))])) fun t6 z=>
 ab (ae z (aN [.val (.int .i64 0),.val (.string ByteArray.empty)] [(0,1,(.val (.int .i64 1))),(1,1,(.val (.string {data:=#[]})))])) fun t7 z=>
 ab (ae z (aN [.val (.int .i64 0),.val (.string ByteArray.empty)] [(0,1,(.val (.int .i64 2))),(1,1,(.val (.string {data:=#[]})))])) fun t8 z=>
 ab (ae z (aN [.val (.int .i64 0),.val (.string ByteArray.empty)] [(0,1,(.val (.int .i64 2))),(1,1,(.val (.string {data:=#[111]})))])) fun t9 z=>
 ab (ae z (aN [.val (.int .i64 0),.val (.string ByteArray.empty)] [(0,1,(.val (.int .i64 2))),(1,1,(.val (.string {data:=#[]})))])) fun t10 z=>
 ab (ae z (aN [.val (.int .i64 0),.val (.string ByteArray.empty)] [(0,1,(.val (.int .i64 1))),(1,1,(.val (.string {data:=#[97]})))])) fun t11 z=>
 ab (ae z (aN [.val (.int .i64 0),.val (.string ByteArray.empty)] [(0,1,(.val (.int .i64 2))),(1,1,(.val (.string {data:=#[109]})))])) fun t12 z=>
 ab (ae z (aN [.val (.int .i64 0),.val (.string ByteArray.empty)] [(0,1,(.val (.int .i64 2))),(1,1,(.val (.string {data:=#[109,97]})))])) fun t13 z=>
 ab (ae z (aN [.val (.int .i64 0),.val (.string ByteArray.empty)] [(0,1,(.val (.int .i64 3))),(1,1,(.val (.string {data:=#[]})))])) fun t14 z=>
 ab (ae z (aN [.val (.int .i64 0),.val (.string ByteArray.empty)] [(0,1,(.val (.int .i64 1))),(1,1,(.val (.string {data:=#[101]})))])) fun t15 z=>
 ab (ae z (aN [.val (.int .i64 0),.val (.string ByteArray.empty)] [(0,1,(.val (.int .i64 2))),(1,1,(.val (.string {data:=#[101,97]})))])) fun t16 z=>
 ab (ae z (aV 16 2 [.val (.int .i64 0),.val (.string ByteArray.empty)] [(0,t1),(1,t2),(2,t3),(3,t4),(4,t5),(5,t6),(6,t7),(7,t8),(8,t9),(9,t10),(10,t11),(11,t12),(12,t13),(13,t14),(14,t15),(15,t16)])) fun t17 z=>
 k t17 z
theorem Bx (h:F179 z k kp):Ev Tryz.prog 179 [] z k kp:=evF mixed Tryz.func179 [(0,[]),(1,[0]),(4001,[1])] (by kernel_rfl) (by kernel_rfl) h
def F180 (t0 t1:AV) (z:ah) (k kp:AV→ah→Prop):Prop:=
 ab (bq t0 z) fun t2 z=>
 ab (ae z (ag 1 t2)) fun t5 z=>
 ab (ae z (aj false 1 t5 z)) fun t6 z=>
 ab (ae z (iW .bytes t6)) fun t7 z=>
 Ev Tryz.prog 193 [t7,t1] z (fun t9 z=>
 k t9 z) kp
theorem By (h:F180 t0 t1 z k kp):Ev Tryz.prog 180 [t0,t1] z k kp:=evF mixed Tryz.func180 [(0,[1,2]),(1,[4])] (by kernel_rfl) (by kernel_rfl) h
def F181 (t0 t1 t2 t3:AV) (z:ah) (k kp:AV→ah→Prop):Prop:=
 ab (bq t0 z) fun t4 z=>
 ab (ae z (aj true 2 t4 z)) fun t9 z=>
 Ev Tryz.prog 180 [t9,t1] z (fun t11 z=>
 ab (ae z (bC t11)) fun t12 z=>
 ay t12 (
 ab (ae z (ar .eql .prim t2 (.val (.string {data:=#[]})))) fun t14 z=>
 k t14 z
 ) (
 ab (ae z (aV 1 1 [.val (.string ByteArray.empty)] [(0,t2)])) fun t17 z=>
 fX Tryz.prog t3 [t17] z (fun t18 z=>
 k t18 z
 ) kp)) kp
theorem Bz (h:F181 t0 t1 t2 t3 z k kp):Ev Tryz.prog 181 [t0,t1,t2,t3] z k kp:=evF mixed Tryz.func181 [(0,[1,2,3,4]),(1,[2,3,12]),(2,[8]),(3,[8]),(4003,[1])] (by kernel_rfl) (by kernel_rfl) h
def F193 (t0 t1:AV) (z:ah) (k kp:AV→ah→Prop):Prop:=
 Ev Tryz.prog 211 [t0,t1] z (fun t7 z=>
 ab (ae z (ar .geq .prim t7 (.val (.int .i64 0)))) fun t8 z=>
 k t8 z) kp
theorem BF (h:F193 t0 t1 z k kp):Ev Tryz.prog 193 [t0,t1] z k kp:=evF mixed Tryz.func193 [(0,[0,1]),(1,[4])] (by kernel_rfl) (by kernel_rfl) h
def F211 (t0 t1:AV) (z:ah) (k kp:AV→ah→Prop):Prop:=
 bk (fun fr z=>(
 k (.val (.int .i64 (-1))) z
 )) (fun j1=>(
 ab (ae z (aE .slice t0 z)) fun t7 z=>
 bj (fun fr z again=>(
 ab (ae z (ar .lss .prim (aa fr 8) (aa fr 7))) fun t9 z=>
 ay t9 (
 ab (ae z (ak 1 (aa fr 0) (aa fr 8) z)) fun t14 z=>
 ab (ae z (aj false 1 t14 z)) fun t15 z=>
 ab (ae z (ar .eql .prim (aa fr 1) t15)) fun t16 z=>
 ay t16 (
 k (aa fr 8) z
 ) (
 ab (ae z (ar .add .prim (aa fr 8) (.val (.int .i64 1)))) fun t18 z=>
 again [(0,(aa fr 0)),(1,(aa fr 1)),(7,(aa fr 7)),(8,t18)] z
 )
 ) (
 j1 [(0,(aa fr 0))] z
 )
 )) [(0,t0),(1,t1),(7,t7),(8,(.val (.int .i64 0)))] z
 ))
theorem BM (h:F211 t0 t1 z k kp):Ev Tryz.prog 211 [t0,t1] z k kp:=evF mixed Tryz.func211 [(0,[0,1]),(3008,[0]),(1,[0,1,7,8]),(2,[0,1,7,8,9]),(3,[0,1,5,7,8]),(4,[0,1,5,7,8,16]),(5,[4]),(6,[0,1,7,8]),(1002,[0,1,7,8]),(7,[4])] (by kernel_rfl) (by kernel_rfl) h
def F10 (t0:AV) (z:ah) (k kp:AV→ah→Prop):Prop:=
 ab (bq t0 z) fun t1 z=>
 ab (ae z (aj true 19 t1 z)) fun t3 z=>
 Ev Tryz.prog 22 [t3] z (fun t4 z=>
 gK t4 false (fun K=>ab (ae z (aj true 19 t1 z)) K) (fun t6 z=>
 gK t4 false (fun K=>Ev Tryz.prog 14 [t6] z K kp) (fun t7 z=>
 gK t4 false (fun K=>ab (ae z (aE .slice t7 z)) K) (fun t8 z=>
 gK t4 false (fun K=>ab (ae z (ar .gtr .prim t8 (.val (.int .i64 150)))) K) (fun t9 z=>
 ab (ae z (aF t4 (.val (.bool true)) t9)) fun t10 z=>
 k t10 z) z) z) z) z) kp
theorem D4 (h:F10 t0 z k kp):Ev Tryz.prog 10 [t0] z k kp:=evF mixed Tryz.func10 [(0,[1]),(1,[2])] (by kernel_rfl) (by kernel_rfl) h
def F23 (t0:AV) (z:ah) (k kp:AV→ah→Prop):Prop:=
 ab (aR [.val (.int .u8 0),.val (.int .u8 0),.val (.int .i64 0),.val (.int .i64 0),.val (.string ByteArray.empty),.val (.string ByteArray.empty),.val (.string ByteArray.empty),.val (.int .i64 0),.val (.slice none 0 0),.val (.slice none 0 0),.val (.int .u8 0),.val (.int .i64 0),.val (.slice none 0 0),.val (.slice none 0 0),.val (.int .u8 0),.val (.int .i64 0),.val (.slice none 0 0),.val (.slice none 0 0),.val (.slice none 0 0)] z) fun t2 z=>
 ab (ae z (aN [.val (.int .u8 0),.val (.int .u8 0),.val (.int .i64 0),.val (.int .i64 0),.val (.string ByteArray.empty),.val (.string ByteArray.empty),.val (.string ByteArray.empty)] [(0,1,(.val (.int .u8 1))),(3,1,t0)])) fun t4 z=>
 ab (ae z (aN [.val (.int .u8 0),.val (.int .u8 0),.val (.int .i64 0),.val (.int .i64 0),.val (.string ByteArray.empty),.val (.string ByteArray.empty),.val (.string ByteArray.empty),.val (.int .i64 0),.val (.slice none 0 0),.val (.slice none 0 0),.val (.int .u8 0),.val (.int .i64 0),.val (.slice none 0 0),.val (.slice none 0 0),.val (.int .u8 0),.val (.int .i64 0),.val (.slice none 0 0),.val (.slice none 0 0),.val (.slice none 0 0)] [(0,7,t4)])) fun t5 z=>
 ab (aG (az 19 t2 t5 z)) fun _ z=>
 aW (aj true 19 t2 z) fun r0=>
 k r0 z
theorem Ep (h:F23 t0 z k kp):Ev Tryz.prog 23 [t0] z k kp:=evF mixed Tryz.func23 [(0,[0,2]),(1,[2])] (by kernel_rfl) (by kernel_rfl) h
end Go.Proofs.AtD
namespace Go.Proofs.AtD
open Go Go.Abs
variable {t0 t1 t2 t3 t4 t5 t6 t7:AV} {z:ah} {k kp:AV→ah→Prop}
def F15 (t0:AV) (z:ah) (k kp:AV→ah→Prop):Prop:=
 ab (bq t0 z) fun t1 z=>
 ab (ae z (aj true 19 t1 z)) fun t5 z=>
 Ev Tryz.prog 14 [t5] z (fun t6 z=>
 ab (ae z (aE .slice t6 z)) fun t8 z=>
 ab (ae z (ar .gtr .prim t8 (.val (.int .i64 40000)))) fun t9 z=>
 ay t9 (
 k (.val (.bool false)) z
 ) (
 bk (fun fr z=>(
 k (.val (.bool true)) z
 )) (fun j1=>(
 ab (ae z (aE .slice t6 z)) fun t11 z=>
 bj (fun fr z again=>(
 ab (ae z (ar .lss .prim (aa fr 12) (aa fr 11))) fun t13 z=>
 ay t13 (
 ab (ae z (ak 19 (aa fr 3) (aa fr 12) z)) fun t17 z=>
 ab (ae z (aj true 19 t17 z)) fun t18 z=>
 Ev Tryz.prog 33 [t18] z (fun t19 z=>
 ab (ae z (bC t19)) fun t20 z=>
 ay t20 (
 k (.val (.bool false)) z
 ) (
 ab (ae z (ar .add .prim (aa fr 12) (.val (.int .i64 1)))) fun t21 z=>
 again [(3,(aa fr 3)),(11,(aa fr 11)),(12,t21)] z
 )
 ) kp) (
 j1 [(0,.any)] z
 )
 )) [(3,t6),(11,t11),(12,(.val (.int .i64 0)))] z
 ))
 )) kp
theorem Eb (h:F15 t0 z k kp):Ev Tryz.prog 15 [t0] z k kp:=evF mixed Tryz.func15 [(0,[1]),(1,[3]),(2,[3,9]),(3,[2]),(3011,[0]),(4,[3,11,12]),(5,[3,11,12,13]),(6,[3,4,11,12]),(7,[3,11,12,20]),(8,[2]),(9,[3,11,12]),(1005,[3,11,12]),(10,[2])] (by kernel_rfl) (by kernel_rfl) h
def F33 (t0:AV) (z:ah) (k kp:AV→ah→Prop):Prop:=
 ab (bq t0 z) fun t1 z=>
 ab (ae z (ag 0 t1)) fun t5 z=>
 ab (ae z (ag 0 t5)) fun t6 z=>
 ab (ae z (aj false 1 t6 z)) fun t7 z=>
 ab (ae z (aj true 19 t1 z)) fun t8 z=>
 Ev Tryz.prog 60 [t8] z (fun t9 z=>
 ab (ae z (bC t9)) fun t10 z=>
 gK t10 false (fun K=>ab (ae z (ag 7 t1)) K) (fun t12 z=>
 gK t10 false (fun K=>ab (ae z (aj false 1 t12 z)) K) (fun t13 z=>
 gK t10 false (fun K=>ab (ae z (ar .lss .prim t13 (.val (.int .i64 0)))) K) (fun t14 z=>
 ab (ae z (aF t10 (.val (.bool true)) t14)) fun t15 z=>
 gK t15 false (fun K=>K t7 z) (fun t17 z=>
 gK t15 false (fun K=>ab (ae z (ar .eql .prim t17 (.val (.int .u8 17)))) K) (fun t18 z=>
 gK t15 false (fun K=>K t18 z) (fun t19 z=>
 gK t19 true (fun K=>ab (ae z (ag 7 t1)) K) (fun t20 z=>
 gK t19 true (fun K=>ab (ae z (aj false 1 t20 z)) K) (fun t21 z=>
 gK t19 true (fun K=>ab (ae z (ar .eql .prim t21 (.val (.int .i64 0)))) K) (fun t22 z=>
 gK t15 false (fun K=>ab (ae z (aF t19 t22 (.val (.bool false)))) K) (fun t23 z=>
 ab (ae z (aF t15 (.val (.bool true)) t23)) fun t24 z=>
 gK t24 false (fun K=>ab (ae z (aV 6 1 [.val (.int .u8 0)] [(0,(.val (.int .u8 3))),(1,(.val (.int .u8 6))),(2,(.val (.int .u8 11))),(3,(.val (.int .u8 13))),(4,(.val (.int .u8 17))),(5,(.val (.int .u8 18)))])) K) (fun t26 z=>
 gK t24 false (fun K=>K t7 z) (fun t27 z=>
 gK t24 false (fun K=>Ev Tryz.prog 61 [t26,t27] z K kp) (fun t28 z=>
 gK t24 false (fun K=>ab (ae z (bC t28)) K) (fun t29 z=>
 gK t24 false (fun K=>K t29 z) (fun t30 z=>
 gK t30 true (fun K=>ab (ae z (ag 7 t1)) K) (fun t31 z=>
 gK t30 true (fun K=>ab (ae z (aj false 1 t31 z)) K) (fun t32 z=>
 gK t30 true (fun K=>ab (ae z (ar .neq .prim t32 (.val (.int .i64 0)))) K) (fun t33 z=>
 gK t24 false (fun K=>ab (ae z (aF t30 t33 (.val (.bool false)))) K) (fun t34 z=>
 ab (ae z (aF t24 (.val (.bool true)) t34)) fun t35 z=>
 ay t35 (
 k (.val (.bool false)) z
 ) (
 ab (ae z (ar .neq .prim t7 (.val (.int .u8 13)))) fun t37 z=>
 gK t37 true (fun K=>K t7 z) (fun t39 z=>
 gK t37 true (fun K=>ab (ae z (ar .neq .prim t39 (.val (.int .u8 18)))) K) (fun t40 z=>
 ab (ae z (aF t37 t40 (.val (.bool false)))) fun t41 z=>
 gK t41 true (fun K=>ab (ae z (ag 8 t1)) K) (fun t43 z=>
 gK t41 true (fun K=>ab (ae z (aj false 1 t43 z)) K) (fun t44 z=>
 gK t41 true (fun K=>ab (ae z (aE .slice t44 z)) K) (fun t45 z=>
 gK t41 true (fun K=>ab (ae z (ar .gtr .prim t45 (.val (.int .i64 0)))) K) (fun t46 z=>
 ab (ae z (aF t41 t46 (.val (.bool false)))) fun t47 z=>
 ay t47 (
 k (.val (.bool false)) z
 ) (
 bk (fun fr z=>(
 ab (ae z (aV 3 1 [.val (.int .u8 0)] [(0,(.val (.int .u8 11))),(1,(.val (.int .u8 13))),(2,(.val (.int .u8 18)))])) fun t85 z=>
 Ev Tryz.prog 61 [t85,(aa fr 3)] z (fun t87 z=>
 ab (ae z (bC t87)) fun t88 z=>
 gK t88 true (fun K=>ab (ae z (ag 9 (aa fr 1))) K) (fun t90 z=>
 gK t88 true (fun K=>ab (ae z (aj false 1 t90 z)) K) (fun t91 z=>
 gK t88 true (fun K=>ab (ae z (aE .slice t91 z)) K) (fun t92 z=>
 gK t88 true (fun K=>ab (ae z (ar .gtr .prim t92 (.val (.int .i64 0)))) K) (fun t93 z=>
 ab (ae z (aF t88 t93 (.val (.bool false)))) fun t94 z=>
 gK t94 false (fun K=>ab (ae z (ag 9 (aa fr 1))) K) (fun t96 z=>
 gK t94 false (fun K=>ab (ae z (aj false 1 t96 z)) K) (fun t97 z=>
 gK t94 false (fun K=>Ev Tryz.prog 62 [t97] z K kp) (fun t98 z=>
 gK t94 false (fun K=>ab (ae z (bC t98)) K) (fun t99 z=>
 ab (ae z (aF t94 (.val (.bool true)) t99)) fun t100 z=>
 ay t100 (
 k (.val (.bool false)) z
 ) (
 ab (ae z (aV 3 1 [.val (.int .u8 0)] [(0,(.val (.int .u8 11))),(1,(.val (.int .u8 13))),(2,(.val (.int .u8 15)))])) fun t101 z=>
 Ev Tryz.prog 61 [t101,(aa fr 3)] z (fun t103 z=>
 gK t103 true (fun K=>ab (ae z (ag 10 (aa fr 1))) K) (fun t105 z=>
 gK t103 true (fun K=>ab (ae z (aj true 4 t105 z)) K) (fun t106 z=>
 gK t103 true (fun K=>Ev Tryz.prog 63 [t106] z K kp) (fun t107 z=>
 gK t103 true (fun K=>ab (ae z (bC t107)) K) (fun t108 z=>
 ab (ae z (aF t103 t108 (.val (.bool false)))) fun t109 z=>
 gK t109 false (fun K=>ab (ae z (aV 3 1 [.val (.int .u8 0)] [(0,(.val (.int .u8 11))),(1,(.val (.int .u8 13))),(2,(.val (.int .u8 15)))])) K) (fun t111 z=>
 gK t109 false (fun K=>K (aa fr 3) z) (fun t112 z=>
 gK t109 false (fun K=>Ev Tryz.prog 61 [t111,t112] z K kp) (fun t113 z=>
 gK t109 false (fun K=>ab (ae z (bC t113)) K) (fun t114 z=>
 gK t109 false (fun K=>K t114 z) (fun t115 z=>
 gK t115 true (fun K=>ab (ae z (ag 10 (aa fr 1))) K) (fun t116 z=>
 gK t115 true (fun K=>ab (ae z (aj true 4 t116 z)) K) (fun t117 z=>
 gK t115 true (fun K=>Ev Tryz.prog 64 [t117] z K kp) (fun t118 z=>
 gK t115 true (fun K=>ab (ae z (bC t118)) K) (fun t119 z=>
 gK t109 false (fun K=>ab (ae z (aF t115 t119 (.val (.bool false)))) K) (fun t120 z=>
 ab (ae z (aF t109 (.val (.bool true)) t120)) fun t121 z=>
 ay t121 (
 k (.val (.bool false)) z
 ) (
 ab (ae z (ar .eql .prim (aa fr 3) (.val (.int .u8 13)))) fun t123 z=>
 gK t123 true (fun K=>ab (ae z (ag 14 (aa fr 1))) K) (fun t125 z=>
 gK t123 true (fun K=>ab (ae z (aj true 4 t125 z)) K) (fun t126 z=>
 gK t123 true (fun K=>Ev Tryz.prog 63 [t126] z K kp) (fun t127 z=>
 ab (ae z (aF t123 t127 (.val (.bool false)))) fun t128 z=>
 gK t128 false (fun K=>K (aa fr 3) z) (fun t130 z=>
 gK t128 false (fun K=>ab (ae z (ar .neq .prim t130 (.val (.int .u8 13)))) K) (fun t131 z=>
 gK t128 false (fun K=>K t131 z) (fun t132 z=>
 gK t132 true (fun K=>ab (ae z (ag 14 (aa fr 1))) K) (fun t133 z=>
 gK t132 true (fun K=>ab (ae z (aj true 4 t133 z)) K) (fun t134 z=>
 gK t132 true (fun K=>Ev Tryz.prog 64 [t134] z K kp) (fun t135 z=>
 gK t128 false (fun K=>ab (ae z (aF t132 t135 (.val (.bool false)))) K) (fun t136 z=>
 ab (ae z (aF t128 (.val (.bool true)) t136)) fun t137 z=>
 k t137 z
 ) z) z) z) z) z) z) z) z) z) z)
 ) z) z) z) z) z) z) z) z) z) z) z) z) z) z) kp)
 ) z) z) z) z) z) z) z) z) kp)) (fun j1=>(
 ab (ae z (ag 8 t1)) fun t48 z=>
 ab (ae z (aj false 1 t48 z)) fun t49 z=>
 ab (ae z (aE .slice t49 z)) fun t50 z=>
 bj (fun fr z again=>(
 ab (ae z (ar .lss .prim (aa fr 51) (aa fr 50))) fun t52 z=>
 ay t52 (
 ab (ae z (ag 8 (aa fr 1))) fun t54 z=>
 ab (ae z (aj false 1 t54 z)) fun t55 z=>
 ab (ae z (ak 1 t55 (aa fr 51) z)) fun t57 z=>
 ab (ae z (aj false 1 t57 z)) fun t58 z=>
 ab (ae z (ar .lss .prim t58 (.val (.int .i64 0)))) fun t59 z=>
 gK t59 false (fun K=>K (aa fr 3) z) (fun t61 z=>
 gK t59 false (fun K=>ab (ae z (ar .eql .prim t61 (.val (.int .u8 13)))) K) (fun t62 z=>
 gK t59 false (fun K=>K t62 z) (fun t63 z=>
 gK t63 true (fun K=>ab (ae z (ag 8 (aa fr 1))) K) (fun t64 z=>
 gK t63 true (fun K=>ab (ae z (aj false 1 t64 z)) K) (fun t65 z=>
 gK t63 true (fun K=>K (aa fr 51) z) (fun t66 z=>
 gK t63 true (fun K=>ab (ae z (ak 1 t65 t66 z)) K) (fun t67 z=>
 gK t63 true (fun K=>ab (ae z (aj false 1 t67 z)) K) (fun t68 z=>
 gK t63 true (fun K=>ab (ae z (ar .eql .prim t68 (.val (.int .i64 0)))) K) (fun t69 z=>
 gK t63 true (fun K=>K t69 z) (fun t70 z=>
 gK t70 false (fun K=>ab (ae z (ag 8 (aa fr 1))) K) (fun t71 z=>
 gK t70 false (fun K=>ab (ae z (aj false 1 t71 z)) K) (fun t72 z=>
 gK t70 false (fun K=>K (aa fr 51) z) (fun t73 z=>
 gK t70 false (fun K=>ab (ae z (dJ 1 t72 none (some t73) none)) K) (fun t74 z=>
 gK t70 false (fun K=>ab (ae z (ag 8 (aa fr 1))) K) (fun t75 z=>
 gK t70 false (fun K=>ab (ae z (aj false 1 t75 z)) K) (fun t76 z=>
 gK t70 false (fun K=>K (aa fr 51) z) (fun t77 z=>
 gK t70 false (fun K=>ab (ae z (ak 1 t76 t77 z)) K) (fun t78 z=>
 gK t70 false (fun K=>ab (ae z (aj false 1 t78 z)) K) (fun t79 z=>
 gK t70 false (fun K=>Ev Tryz.prog 19 [t74,t79] z K kp) (fun t80 z=>
 gK t63 true (fun K=>ab (ae z (aF t70 (.val (.bool true)) t80)) K) (fun t81 z=>
 gK t59 false (fun K=>ab (ae z (aF t63 t81 (.val (.bool false)))) K) (fun t82 z=>
 ab (ae z (aF t59 (.val (.bool true)) t82)) fun t83 z=>
 ay t83 (
 k (.val (.bool false)) z
 ) (
 ab (ae z (ar .add .prim (aa fr 51) (.val (.int .i64 1)))) fun t84 z=>
 again [(1,(aa fr 1)),(3,(aa fr 3)),(50,(aa fr 50)),(51,t84)] z
 )
 ) z) z) z) z) z) z) z) z) z) z) z) z) z) z) z) z) z) z) z) z) z) z) (
 j1 [(1,(aa fr 1)),(3,(aa fr 3))] z
 )
 )) [(1,t1),(3,t7),(50,t50),(51,(.val (.int .i64 0)))] z
 ))
 )
 ) z) z) z) z) z) z)) z) z) z) z) z) z) z) z) z) z) z) z) z) z) z) z) z) z) z) kp
theorem Ez (h:F33 t0 z k kp):Ev Tryz.prog 33 [t0] z k kp:=evF mixed Tryz.func33 [(0,[1]),(1,[1,3]),(2,[1,3,35]),(4002,[1]),(3,[2]),(4,[1,3,47]),(5,[2]),(3013,[1,3]),(6,[1,3,50,51]),(7,[1,3,50,51,52]),(8,[1,3,4,50,51]),(9,[1,3,50,51,83]),(2009,[0,1,2,3,4,5,6,7,8,9,10,11,12,13,14,15,16,17,18,19,20,21,22,23,24,25,26,27,28,29]),(10,[2]),(11,[1,3,50,51]),(1007,[1,3,50,51]),(12,[1,3,100]),(4012,[1]),(13,[2]),(14,[1,3,121]),(4014,[1]),(15,[2]),(16,[2])] (by kernel_rfl) (by kernel_rfl) h
def F104 (t0:AV) (z:ah) (k kp:AV→ah→Prop):Prop:=
 ab (bq t0 z) fun t1 z=>
 ab (ae z (ag 0 t1)) fun t7 z=>
 ab (ae z (ag 0 t7)) fun t8 z=>
 ab (ae z (aj false 1 t8 z)) fun t9 z=>
 Ev Tryz.prog 136 [t9] z (fun t11 z=>
 ab (ae z (ar .lss .prim t11 (.val (.int .i64 0)))) fun t12 z=>
 gK t12 false (fun K=>ab (ae z (ag 7 t1)) K) (fun t14 z=>
 gK t12 false (fun K=>ab (ae z (aj false 1 t14 z)) K) (fun t15 z=>
 gK t12 false (fun K=>ab (ae z (aE .slice t15 z)) K) (fun t16 z=>
 gK t12 false (fun K=>K t9 z) (fun t17 z=>
 gK t12 false (fun K=>Ev Tryz.prog 136 [t17] z K kp) (fun t18 z=>
 (gK t12 false (fun K=>ab (ae z (aj false 1 t14 z)) K) (fun y w=>y=t15∧w=z) z)∧(
 (gK t12 false (fun K=>ab (ae z (aE .slice t15 z)) K) (fun y w=>y=t16∧w=z) z)∧(
 gK t12 false (fun K=>ab (ae z (ar .neq .prim t16 t18)) K) (fun t19 z=>
 ab (ae z (aF t12 (.val (.bool true)) t19)) fun t20 z=>
 gK t20 false (fun K=>ab (ae z (ag 0 t1)) K) (fun t22 z=>
 gK t20 false (fun K=>ab (ae z (ag 2 t22)) K) (fun t23 z=>
 gK t20 false (fun K=>ab (ae z (aj false 1 t23 z)) K) (fun t24 z=>
 gK t20 false (fun K=>ab (ae z (ar .lss .prim t24 (.val (.int .i64 0)))) K) (fun t25 z=>
 ab (ae z (aF t20 (.val (.bool true)) t25)) fun t26 z=>
 ay t26 (
 k (.val (.bool false)) z
 ) (
 ab (ae z (ar .eql .prim t9 (.val (.int .u8 9)))) fun t28 z=>
 gK t28 true (fun K=>ab (ae z (ag 0 t1)) K) (fun t30 z=>
 gK t28 true (fun K=>ab (ae z (ag 1 t30)) K) (fun t31 z=>
 gK t28 true (fun K=>ab (ae z (aj false 1 t31 z)) K) (fun t32 z=>
 gK t28 true (fun K=>ab (ae z (ar .lss .prim t32 (.val (.int .u8 1)))) K) (fun t33 z=>
 gK t28 true (fun K=>K t33 z) (fun t34 z=>
 gK t34 false (fun K=>ab (ae z (ag 0 t1)) K) (fun t35 z=>
 gK t34 false (fun K=>ab (ae z (ag 1 t35)) K) (fun t36 z=>
 gK t34 false (fun K=>ab (ae z (aj false 1 t36 z)) K) (fun t37 z=>
 gK t34 false (fun K=>ab (ae z (ar .gtr .prim t37 (.val (.int .u8 5)))) K) (fun t38 z=>
 gK t28 true (fun K=>ab (ae z (aF t34 (.val (.bool true)) t38)) K) (fun t39 z=>
 ab (ae z (aF t28 t39 (.val (.bool false)))) fun t40 z=>
 gK t40 false (fun K=>K t9 z) (fun t42 z=>
 gK t40 false (fun K=>ab (ae z (ar .neq .prim t42 (.val (.int .u8 9)))) K) (fun t43 z=>
 gK t40 false (fun K=>K t43 z) (fun t44 z=>
 gK t44 true (fun K=>ab (ae z (ag 0 t1)) K) (fun t45 z=>
 gK t44 true (fun K=>ab (ae z (ag 1 t45)) K) (fun t46 z=>
 gK t44 true (fun K=>ab (ae z (aj false 1 t46 z)) K) (fun t47 z=>
 gK t44 true (fun K=>ab (ae z (ar .neq .prim t47 (.val (.int .u8 0)))) K) (fun t48 z=>
 gK t40 false (fun K=>ab (ae z (aF t44 t48 (.val (.bool false)))) K) (fun t49 z=>
 ab (ae z (aF t40 (.val (.bool true)) t49)) fun t50 z=>
 ay t50 (
 k (.val (.bool false)) z
 ) (
 ab (ae z (ag 0 t1)) fun t51 z=>
 ab (ae z (ag 3 t51)) fun t52 z=>
 ab (ae z (aj false 1 t52 z)) fun t53 z=>
 ab (ae z (ar .lss .prim t53 (.val (.int .i64 0)))) fun t54 z=>
 gK t54 false (fun K=>ab (ae z (ag 0 t1)) K) (fun t56 z=>
 gK t54 false (fun K=>ab (ae z (ag 3 t56)) K) (fun t57 z=>
 gK t54 false (fun K=>ab (ae z (aj false 1 t57 z)) K) (fun t58 z=>
 gK t54 false (fun K=>ab (ae z (ar .gtr .prim t58 (.val (.int .i64 2147483647)))) K) (fun t59 z=>
 ab (ae z (aF t54 (.val (.bool true)) t59)) fun t60 z=>
 gK t60 false (fun K=>K t9 z) (fun t62 z=>
 gK t60 false (fun K=>ab (ae z (ar .neq .prim t62 (.val (.int .u8 1)))) K) (fun t63 z=>
 gK t60 false (fun K=>K t63 z) (fun t64 z=>
 gK t64 true (fun K=>ab (ae z (ag 0 t1)) K) (fun t65 z=>
 gK t64 true (fun K=>ab (ae z (ag 3 t65)) K) (fun t66 z=>
 gK t64 true (fun K=>ab (ae z (aj false 1 t66 z)) K) (fun t67 z=>
 gK t64 true (fun K=>ab (ae z (ar .neq .prim t67 (.val (.int .i64 0)))) K) (fun t68 z=>
 gK t60 false (fun K=>ab (ae z (aF t64 t68 (.val (.bool false)))) K) (fun t69 z=>
 ab (ae z (aF t60 (.val (.bool true)) t69)) fun t70 z=>
 ay t70 (
 k (.val (.bool false)) z
 ) (
 ab (ae z (ar .eql .prim t9 (.val (.int .u8 2)))) fun t72 z=>
 gK t72 false (fun K=>K t9 z) (fun t74 z=>
 gK t72 false (fun K=>ab (ae z (ar .eql .prim t74 (.val (.int .u8 12)))) K) (fun t75 z=>
 ab (ae z (aF t72 (.val (.bool true)) t75)) fun t76 z=>
 gK t76 false (fun K=>K t9 z) (fun t78 z=>
 gK t76 false (fun K=>ab (ae z (ar .eql .prim t78 (.val (.int .u8 13)))) K) (fun t79 z=>
 ab (ae z (aF t76 (.val (.bool true)) t79)) fun t80 z=>
 ab (ae z (ar .eql .prim t9 (.val (.int .u8 11)))) fun t82 z=>
 gK t82 false (fun K=>K t9 z) (fun t84 z=>
 gK t82 false (fun K=>ab (ae z (ar .eql .prim t84 (.val (.int .u8 13)))) K) (fun t85 z=>
 ab (ae z (aF t82 (.val (.bool true)) t85)) fun t86 z=>
 gK t86 false (fun K=>K t9 z) (fun t88 z=>
 gK t86 false (fun K=>ab (ae z (ar .eql .prim t88 (.val (.int .u8 16)))) K) (fun t89 z=>
 ab (ae z (aF t86 (.val (.bool true)) t89)) fun t90 z=>
 ab (ae z (ar .eql .prim t9 (.val (.int .u8 15)))) fun t92 z=>
 gK t92 false (fun K=>K t9 z) (fun t94 z=>
 gK t92 false (fun K=>ab (ae z (ar .eql .prim t94 (.val (.int .u8 16)))) K) (fun t95 z=>
 ab (ae z (aF t92 (.val (.bool true)) t95)) fun t96 z=>
 ab (ae z (ag 0 t1)) fun t98 z=>
 ab (ae z (ag 4 t98)) fun t99 z=>
 ab (ae z (aj false 1 t99 z)) fun t100 z=>
 ab (ae z (ag 0 t1)) fun t101 z=>
 ab (ae z (ag 4 t101)) fun t102 z=>
 ab (ae z (aj false 1 t102 z)) fun t103 z=>
 Ev Tryz.prog 103 [t103] z (fun t104 z=>
 (ab (ae z (aj false 1 t99 z)) (fun y w=>y=t100∧w=z))∧(
 Ev Tryz.prog 137 [t80,t100,t104] z (fun t105 z=>
 gK t105 true (fun K=>K t90 z) (fun t107 z=>
 gK t105 true (fun K=>ab (ae z (ag 0 t1)) K) (fun t108 z=>
 gK t105 true (fun K=>ab (ae z (ag 5 t108)) K) (fun t109 z=>
 gK t105 true (fun K=>ab (ae z (aj false 1 t109 z)) K) (fun t110 z=>
 gK t105 true (fun K=>ab (ae z (ag 0 t1)) K) (fun t111 z=>
 gK t105 true (fun K=>ab (ae z (ag 5 t111)) K) (fun t112 z=>
 gK t105 true (fun K=>ab (ae z (aj false 1 t112 z)) K) (fun t113 z=>
 gK t105 true (fun K=>Ev Tryz.prog 103 [t113] z K kp) (fun t114 z=>
 (gK t105 true (fun K=>ab (ae z (aj false 1 t109 z)) K) (fun y w=>y=t110∧w=z) z)∧(
 gK t105 true (fun K=>Ev Tryz.prog 137 [t107,t110,t114] z K kp) (fun t115 z=>
 ab (ae z (aF t105 t115 (.val (.bool false)))) fun t116 z=>
 gK t116 true (fun K=>K t96 z) (fun t118 z=>
 gK t116 true (fun K=>ab (ae z (ag 0 t1)) K) (fun t119 z=>
 gK t116 true (fun K=>ab (ae z (ag 6 t119)) K) (fun t120 z=>
 gK t116 true (fun K=>ab (ae z (aj false 1 t120 z)) K) (fun t121 z=>
 gK t116 true (fun K=>ab (ae z (ag 0 t1)) K) (fun t122 z=>
 gK t116 true (fun K=>ab (ae z (ag 6 t122)) K) (fun t123 z=>
 gK t116 true (fun K=>ab (ae z (aj false 1 t123 z)) K) (fun t124 z=>
 gK t116 true (fun K=>Ev Tryz.prog 138 [t124] z K kp) (fun t125 z=>
 (gK t116 true (fun K=>ab (ae z (aj false 1 t120 z)) K) (fun y w=>y=t121∧w=z) z)∧(
 gK t116 true (fun K=>Ev Tryz.prog 137 [t118,t121,t125] z K kp) (fun t126 z=>
 ab (ae z (aF t116 t126 (.val (.bool false)))) fun t127 z=>
 k t127 z
 ) z)) z) z) z) z) z) z) z) z) z)) z) z) z) z) z) z) z) z) kp)) kp) z) z) z) z) z) z) z) z) z) z)
 ) z) z) z) z) z) z) z) z) z) z) z) z)
 ) z) z) z) z) z) z) z) z) z) z) z) z) z) z) z) z) z) z)) z) z) z) z) z))) z) z) z) z) z) kp
theorem Ap (h:F104 t0 z k kp):Ev Tryz.prog 104 [t0] z k kp:=evF mixed Tryz.func104 [(0,[1]),(1,[1,3]),(2,[1,3,26]),(2002,[0,1,2,3,4,5,6,7,8,9,10,11,12,13,14,15,16]),(102008,[5,6]),(3,[2]),(4,[1,3,50]),(5,[2]),(6,[1,3,70]),(7,[2]),(8,[1,3,4]),(9,[1,3,4,5]),(10,[1,4,5,6]),(11,[2]),(2011,[0,1,2,3,4,5,6,7,8,9,10,11,12,13,14,15,16,17,18,19,20,21,22,23,24,25,26,27,28,29,30,31]),(111007,[3]),(111017,[13]),(111028,[24])] (by kernel_rfl) (by kernel_rfl) h
def F60 (t0:AV) (z:ah) (k kp:AV→ah→Prop):Prop:=
 ab (bq t0 z) fun t1 z=>
 ab (ae z (ag 0 t1)) fun t7 z=>
 ab (ae z (aj true 7 t7 z)) fun t8 z=>
 ab (aR [.val (.int .u8 0),.val (.int .u8 0),.val (.int .i64 0),.val (.int .i64 0),.val (.string ByteArray.empty),.val (.string ByteArray.empty),.val (.string ByteArray.empty)] z) fun t3 z=>
 ab (aG (az 7 t3 t8 z)) fun _ z=>
 ab (ae z (ag 1 t3)) fun t9 z=>
 ab (ae z (aj false 1 t9 z)) fun t10 z=>
 ab (ae z (ar .eql .prim t10 (.val (.int .u8 0)))) fun t11 z=>
 gK t11 true (fun K=>ab (ae z (ag 3 t3)) K) (fun t13 z=>
 gK t11 true (fun K=>ab (ae z (aj false 1 t13 z)) K) (fun t14 z=>
 gK t11 true (fun K=>ab (ae z (ar .eql .prim t14 (.val (.int .i64 0)))) K) (fun t15 z=>
 ab (ae z (aF t11 t15 (.val (.bool false)))) fun t16 z=>
 gK t16 true (fun K=>ab (ae z (ag 5 t3)) K) (fun t18 z=>
 gK t16 true (fun K=>ab (ae z (aj false 1 t18 z)) K) (fun t19 z=>
 gK t16 true (fun K=>ab (ae z (ar .eql .prim t19 (.val (.string {data:=#[]})))) K) (fun t20 z=>
 ab (ae z (aF t16 t20 (.val (.bool false)))) fun t21 z=>
 gK t21 true (fun K=>ab (ae z (ag 6 t3)) K) (fun t23 z=>
 gK t21 true (fun K=>ab (ae z (aj false 1 t23 z)) K) (fun t24 z=>
 gK t21 true (fun K=>ab (ae z (ar .eql .prim t24 (.val (.string {data:=#[]})))) K) (fun t25 z=>
 ab (ae z (aF t21 t25 (.val (.bool false)))) fun t26 z=>
 ab (ae z (ag 0 t1)) fun t27 z=>
 ab (ae z (ag 0 t27)) fun t28 z=>
 ab (ae z (aj false 1 t28 z)) fun t29 z=>
 ab (ae z (ar .eql .prim t29 (.val (.int .u8 17)))) fun t30 z=>
 ay t30 (
 gK t26 true (fun K=>ab (ae z (ag 4 t3)) K) (fun t33 z=>
 gK t26 true (fun K=>ab (ae z (aj false 1 t33 z)) K) (fun t34 z=>
 gK t26 true (fun K=>ab (ae z (ar .eql .prim t34 (.val (.string {data:=#[]})))) K) (fun t35 z=>
 ab (ae z (aF t26 t35 (.val (.bool false)))) fun t36 z=>
 gK t36 true (fun K=>ab (ae z (ag 2 t3)) K) (fun t38 z=>
 gK t36 true (fun K=>ab (ae z (aj false 1 t38 z)) K) (fun t39 z=>
 gK t36 true (fun K=>ab (ae z (ar .geq .prim t39 (.val (.int .i64 0)))) K) (fun t40 z=>
 ab (ae z (aF t36 t40 (.val (.bool false)))) fun t41 z=>
 gK t41 true (fun K=>ab (ae z (ag 18 t1)) K) (fun t43 z=>
 gK t41 true (fun K=>ab (ae z (aj false 1 t43 z)) K) (fun t44 z=>
 gK t41 true (fun K=>ab (ae z (aE .slice t44 z)) K) (fun t45 z=>
 gK t41 true (fun K=>ab (ae z (ar .eql .prim t45 (.val (.int .i64 1)))) K) (fun t46 z=>
 ab (ae z (aF t41 t46 (.val (.bool false)))) fun t47 z=>
 k t47 z
 ) z) z) z) z) z) z) z) z) z) z) (
 ab (ae z (ag 0 t1)) fun t48 z=>
 ab (ae z (ag 0 t48)) fun t49 z=>
 ab (ae z (aj false 1 t49 z)) fun t50 z=>
 ab (ae z (ar .eql .prim t50 (.val (.int .u8 18)))) fun t51 z=>
 ay t51 (
 gK t26 true (fun K=>ab (ae z (ag 4 t3)) K) (fun t54 z=>
 gK t26 true (fun K=>ab (ae z (aj false 1 t54 z)) K) (fun t55 z=>
 gK t26 true (fun K=>Ev Tryz.prog 103 [t55] z K kp) (fun t56 z=>
 ab (ae z (aF t26 t56 (.val (.bool false)))) fun t57 z=>
 gK t57 true (fun K=>ab (ae z (ag 2 t3)) K) (fun t59 z=>
 gK t57 true (fun K=>ab (ae z (aj false 1 t59 z)) K) (fun t60 z=>
 gK t57 true (fun K=>ab (ae z (ar .geq .prim t60 (.val (.int .i64 0)))) K) (fun t61 z=>
 ab (ae z (aF t57 t61 (.val (.bool false)))) fun t62 z=>
 gK t62 true (fun K=>ab (ae z (ag 18 t1)) K) (fun t64 z=>
 gK t62 true (fun K=>ab (ae z (aj false 1 t64 z)) K) (fun t65 z=>
 gK t62 true (fun K=>ab (ae z (aE .slice t65 z)) K) (fun t66 z=>
 gK t62 true (fun K=>ab (ae z (ar .eql .prim t66 (.val (.int .i64 0)))) K) (fun t67 z=>
 ab (ae z (aF t62 t67 (.val (.bool false)))) fun t68 z=>
 k t68 z
 ) z) z) z) z) z) z) z) z) z) z) (
 ab (ae z (aj true 7 t3 z)) fun t69 z=>
 ab (ae z (aN [.val (.int .u8 0),.val (.int .u8 0),.val (.int .i64 0),.val (.int .i64 0),.val (.string ByteArray.empty),.val (.string ByteArray.empty),.val (.string ByteArray.empty),.val (.slice none 0 0)] [(0,7,t69)])) fun t70 z=>
 ab (aR [.val (.int .u8 0),.val (.int .u8 0),.val (.int .i64 0),.val (.int .i64 0),.val (.string ByteArray.empty),.val (.string ByteArray.empty),.val (.string ByteArray.empty),.val (.slice none 0 0)] z) fun t5 z=>
 ab (aG (az 8 t5 t70 z)) fun _ z=>
 bk (fun fr z=>(
 ab (ae z (aj true 8 (aa fr 5) z)) fun t88 z=>
 Ev Tryz.prog 104 [t88] z (fun t89 z=>
 k t89 z
 ) kp)) (fun j1=>(
 bj (fun fr z again=>(
 ab (ae z (ag 18 (aa fr 1))) fun t72 z=>
 ab (ae z (aj false 1 t72 z)) fun t73 z=>
 ab (ae z (aE .slice t73 z)) fun t74 z=>
 ab (ae z (ar .lss .prim (aa fr 6) t74)) fun t75 z=>
 gK t75 true (fun K=>K (aa fr 6) z) (fun t77 z=>
 gK t75 true (fun K=>ab (ae z (ar .lss .prim t77 (.val (.int .i64 4)))) K) (fun t78 z=>
 ab (ae z (aF t75 t78 (.val (.bool false)))) fun t79 z=>
 ay t79 (
 ab (ae z (ag 7 (aa fr 5))) fun t82 z=>
 ab (ae z (aj false 1 t82 z)) fun t83 z=>
 ab (ae z (aN [.val (.int .u8 0),.val (.int .u8 0),.val (.int .i64 0),.val (.int .i64 0),.val (.string ByteArray.empty),.val (.string ByteArray.empty),.val (.string ByteArray.empty),.val (.slice none 0 0)] [])) fun t84 z=>
 ab (ae z (aV 1 8 [.val (.int .u8 0),.val (.int .u8 0),.val (.int .i64 0),.val (.int .i64 0),.val (.string ByteArray.empty),.val (.string ByteArray.empty),.val (.string ByteArray.empty),.val (.slice none 0 0)] [(0,t84)])) fun t85 z=>
 ab (aY 8 96 t83 t85 z) fun t86 z=>
 ab (ae z (ag 7 (aa fr 5))) fun t87 z=>
 ab (aG (az 1 t87 t86 z)) fun _ z=>
 ab (ae z (ar .add .prim (aa fr 6) (.val (.int .i64 1)))) fun t81 z=>
 again [(1,(aa fr 1)),(5,(aa fr 5)),(6,t81)] z
 ) (
 j1 [(5,(aa fr 5))] z
 )
 ) z) z)) [(1,t1),(5,t5),(6,(.val (.int .i64 0)))] z
 ))
 )
 )) z) z) z) z) z) z) z) z) z
theorem EO (h:F60 t0 z k kp):Ev Tryz.prog 60 [t0] z k kp:=evF mixed Tryz.func60 [(0,[1]),(1,[1,3]),(2,[1,3,4]),(3,[1,3,4,30]),(4,[2]),(5,[1,3,4,51]),(6,[2]),(7,[1,5]),(3013,[5]),(8,[1,5,6]),(9,[1,5,6,79]),(11,[1,5,6]),(4011,[1]),(10,[1,5,6]),(1009,[1,5,6]),(12,[2])] (by kernel_rfl) (by kernel_rfl) h
def F61 (t0 t1:AV) (z:ah) (k kp:AV→ah→Prop):Prop:=
 bk (fun fr z=>(
 k (.val (.bool false)) z
 )) (fun j1=>(
 ab (ae z (aE .slice t0 z)) fun t7 z=>
 bj (fun fr z again=>(
 ab (ae z (ar .lss .prim (aa fr 8) (aa fr 7))) fun t9 z=>
 ay t9 (
 ab (ae z (ak 1 (aa fr 0) (aa fr 8) z)) fun t13 z=>
 ab (ae z (aj false 1 t13 z)) fun t14 z=>
 ab (ae z (ar .eql .prim t14 (aa fr 1))) fun t16 z=>
 ay t16 (
 k (.val (.bool true)) z
 ) (
 ab (ae z (ar .add .prim (aa fr 8) (.val (.int .i64 1)))) fun t17 z=>
 again [(0,(aa fr 0)),(1,(aa fr 1)),(7,(aa fr 7)),(8,t17)] z
 )
 ) (
 j1 [(0,(aa fr 0))] z
 )
 )) [(0,t0),(1,t1),(7,t7),(8,(.val (.int .i64 0)))] z
 ))
theorem EP (h:F61 t0 t1 z k kp):Ev Tryz.prog 61 [t0,t1] z k kp:=evF mixed Tryz.func61 [(0,[0,1]),(3008,[0]),(1,[0,1,7,8]),(2,[0,1,7,8,9]),(3,[0,1,5,7,8]),(4,[0,1,7,8,16]),(5,[4]),(6,[0,1,7,8]),(1002,[0,1,7,8]),(7,[4])] (by kernel_rfl) (by kernel_rfl) h
def F62 (t0:AV) (z:ah) (k kp:AV→ah→Prop):Prop:=
 bk (fun fr z=>(
 k (.val (.bool true)) z
 )) (fun j1=>(
 ab (ae z (aE .slice t0 z)) fun t5 z=>
 bj (fun fr z again=>(
 ab (ae z (ar .lss .prim (aa fr 6) (aa fr 5))) fun t7 z=>
 ay t7 (
 ab (ae z (ak 3 (aa fr 0) (aa fr 6) z)) fun t11 z=>
 ab (ae z (aj true 3 t11 z)) fun t12 z=>
 Ev Tryz.prog 105 [t12] z (fun t13 z=>
 ab (ae z (bC t13)) fun t14 z=>
 gK t14 false (fun K=>K (aa fr 6) z) (fun t16 z=>
 gK t14 false (fun K=>ab (ae z (ar .gtr .prim t16 (.val (.int .i64 0)))) K) (fun t17 z=>
 gK t14 false (fun K=>K t17 z) (fun t18 z=>
 gK t18 true (fun K=>K (aa fr 0) z) (fun t19 z=>
 gK t18 true (fun K=>K (aa fr 6) z) (fun t20 z=>
 gK t18 true (fun K=>ab (ae z (ar .sub .prim t20 (.val (.int .i64 1)))) K) (fun t21 z=>
 gK t18 true (fun K=>ab (ae z (ak 3 t19 t21 z)) K) (fun t22 z=>
 gK t18 true (fun K=>ab (ae z (aj true 3 t22 z)) K) (fun t23 z=>
 gK t18 true (fun K=>K (aa fr 0) z) (fun t24 z=>
 gK t18 true (fun K=>K (aa fr 6) z) (fun t25 z=>
 gK t18 true (fun K=>ab (ae z (ak 3 t24 t25 z)) K) (fun t26 z=>
 gK t18 true (fun K=>ab (ae z (aj true 3 t26 z)) K) (fun t27 z=>
 gK t18 true (fun K=>Ev Tryz.prog 106 [t23,t27] z K kp) (fun t28 z=>
 gK t18 true (fun K=>ab (ae z (bC t28)) K) (fun t29 z=>
 gK t14 false (fun K=>ab (ae z (aF t18 t29 (.val (.bool false)))) K) (fun t30 z=>
 ab (ae z (aF t14 (.val (.bool true)) t30)) fun t31 z=>
 ay t31 (
 k (.val (.bool false)) z
 ) (
 ab (ae z (ar .add .prim (aa fr 6) (.val (.int .i64 1)))) fun t32 z=>
 again [(0,(aa fr 0)),(5,(aa fr 5)),(6,t32)] z
 )
 ) z) z) z) z) z) z) z) z) z) z) z) z) z) z) z) kp) (
 j1 [(0,(aa fr 0))] z
 )
 )) [(0,t0),(5,t5),(6,(.val (.int .i64 0)))] z
 ))
theorem ER (h:F62 t0 z k kp):Ev Tryz.prog 62 [t0] z k kp:=evF mixed Tryz.func62 [(0,[0]),(3008,[0]),(1,[0,5,6]),(2,[0,5,6,7]),(3,[0,3,5,6]),(4,[0,5,6,31]),(2004,[0,1,2,3,4,5,6,7,8,9,10,11,12,13,14,15,16,17,18,19,20,21,22]),(5,[2]),(6,[0,5,6]),(1002,[0,5,6]),(7,[2])] (by kernel_rfl) (by kernel_rfl) h
def F63 (t0:AV) (z:ah) (k kp:AV→ah→Prop):Prop:=
 ab (bq t0 z) fun t1 z=>
 bk (fun fr z=>(
 bk (fun fr z=>(
 ab (ae z (ag 0 (aa fr 1))) fun t16 z=>
 ab (ae z (aj false 1 t16 z)) fun t17 z=>
 ab (ae z (ar .lss .prim t17 (.val (.int .u8 1)))) fun t18 z=>
 gK t18 false (fun K=>ab (ae z (ag 0 (aa fr 1))) K) (fun t20 z=>
 gK t18 false (fun K=>ab (ae z (aj false 1 t20 z)) K) (fun t21 z=>
 gK t18 false (fun K=>ab (ae z (ar .gtr .prim t21 (.val (.int .u8 4)))) K) (fun t22 z=>
 ab (ae z (aF t18 (.val (.bool true)) t22)) fun t23 z=>
 gK t23 false (fun K=>ab (ae z (ag 3 (aa fr 1))) K) (fun t25 z=>
 gK t23 false (fun K=>ab (ae z (aj false 1 t25 z)) K) (fun t26 z=>
 gK t23 false (fun K=>ab (ae z (aE .slice t26 z)) K) (fun t27 z=>
 gK t23 false (fun K=>K (aa fr 3) z) (fun t28 z=>
 gK t23 false (fun K=>ab (ae z (ar .neq .prim t27 t28)) K) (fun t29 z=>
 ab (ae z (aF t23 (.val (.bool true)) t29)) fun t30 z=>
 gK t30 false (fun K=>ab (ae z (ag 1 (aa fr 1))) K) (fun t32 z=>
 gK t30 false (fun K=>ab (ae z (aj false 1 t32 z)) K) (fun t33 z=>
 gK t30 false (fun K=>ab (ae z (ar .lss .prim t33 (.val (.int .i64 0)))) K) (fun t34 z=>
 ab (ae z (aF t30 (.val (.bool true)) t34)) fun t35 z=>
 gK t35 false (fun K=>ab (ae z (ag 0 (aa fr 1))) K) (fun t37 z=>
 gK t35 false (fun K=>ab (ae z (aj false 1 t37 z)) K) (fun t38 z=>
 gK t35 false (fun K=>ab (ae z (ar .eql .prim t38 (.val (.int .u8 1)))) K) (fun t39 z=>
 gK t35 false (fun K=>K t39 z) (fun t40 z=>
 gK t40 true (fun K=>ab (ae z (ag 1 (aa fr 1))) K) (fun t41 z=>
 gK t40 true (fun K=>ab (ae z (aj false 1 t41 z)) K) (fun t42 z=>
 gK t40 true (fun K=>ab (ae z (ar .gtr .prim t42 (.val (.int .i64 0)))) K) (fun t43 z=>
 gK t35 false (fun K=>ab (ae z (aF t40 t43 (.val (.bool false)))) K) (fun t44 z=>
 ab (ae z (aF t35 (.val (.bool true)) t44)) fun t45 z=>
 gK t45 false (fun K=>ab (ae z (ag 0 (aa fr 1))) K) (fun t47 z=>
 gK t45 false (fun K=>ab (ae z (aj false 1 t47 z)) K) (fun t48 z=>
 gK t45 false (fun K=>ab (ae z (ar .neq .prim t48 (.val (.int .u8 4)))) K) (fun t49 z=>
 gK t45 false (fun K=>K t49 z) (fun t50 z=>
 gK t50 true (fun K=>ab (ae z (ag 2 (aa fr 1))) K) (fun t51 z=>
 gK t50 true (fun K=>ab (ae z (aj false 1 t51 z)) K) (fun t52 z=>
 gK t50 true (fun K=>ab (ae z (aE .slice t52 z)) K) (fun t53 z=>
 gK t50 true (fun K=>ab (ae z (ar .gtr .prim t53 (.val (.int .i64 0)))) K) (fun t54 z=>
 gK t45 false (fun K=>ab (ae z (aF t50 t54 (.val (.bool false)))) K) (fun t55 z=>
 ab (ae z (aF t45 (.val (.bool true)) t55)) fun t56 z=>
 gK t56 false (fun K=>ab (ae z (ag 2 (aa fr 1))) K) (fun t58 z=>
 gK t56 false (fun K=>ab (ae z (aj false 1 t58 z)) K) (fun t59 z=>
 gK t56 false (fun K=>Ev Tryz.prog 62 [t59] z K kp) (fun t60 z=>
 gK t56 false (fun K=>ab (ae z (bC t60)) K) (fun t61 z=>
 ab (ae z (aF t56 (.val (.bool true)) t61)) fun t62 z=>
 ay t62 (
 k (.val (.bool false)) z
 ) (
 bk (fun fr z=>(
 k (.val (.bool true)) z
 )) (fun j3=>(
 ab (ae z (ag 3 (aa fr 1))) fun t63 z=>
 ab (ae z (aj false 1 t63 z)) fun t64 z=>
 ab (ae z (aE .slice t64 z)) fun t65 z=>
 bj (fun fr z again=>(
 ab (ae z (ar .lss .prim (aa fr 66) (aa fr 65))) fun t67 z=>
 ay t67 (
 ab (ae z (ag 3 (aa fr 1))) fun t69 z=>
 ab (ae z (aj false 1 t69 z)) fun t70 z=>
 ab (ae z (ak 4 t70 (aa fr 66) z)) fun t72 z=>
 ab (ae z (aj true 4 t72 z)) fun t73 z=>
 Ev Tryz.prog 63 [t73] z (fun t74 z=>
 ab (ae z (bC t74)) fun t75 z=>
 ay t75 (
 k (.val (.bool false)) z
 ) (
 ab (ae z (ar .add .prim (aa fr 66) (.val (.int .i64 1)))) fun t76 z=>
 again [(1,(aa fr 1)),(65,(aa fr 65)),(66,t76)] z
 )
 ) kp) (
 j3 [(0,.any)] z
 )
 )) [(1,(aa fr 1)),(65,t65),(66,(.val (.int .i64 0)))] z
 ))
 )
 ) z) z) z) z) z) z) z) z) z) z) z) z) z) z) z) z) z) z) z) z) z) z) z) z) z) z) z) z) z) z) z) z)) (fun j2=>(
 ab (ae z (ag 0 (aa fr 1))) fun t13 z=>
 ab (ae z (aj false 1 t13 z)) fun t14 z=>
 ab (ae z (ar .eql .prim t14 (.val (.int .u8 3)))) fun t15 z=>
 ay t15 (
 j2 [(1,(aa fr 1)),(3,(.val (.int .i64 1)))] z
 ) (
 j2 [(1,(aa fr 1)),(3,(aa fr 3))] z
 )
 ))
 )) (fun j1=>(
 ab (ae z (ag 0 t1)) fun t5 z=>
 ab (ae z (aj false 1 t5 z)) fun t6 z=>
 ab (ae z (ar .eql .prim t6 (.val (.int .u8 2)))) fun t7 z=>
 gK t7 false (fun K=>ab (ae z (ag 0 t1)) K) (fun t9 z=>
 gK t7 false (fun K=>ab (ae z (aj false 1 t9 z)) K) (fun t10 z=>
 gK t7 false (fun K=>ab (ae z (ar .eql .prim t10 (.val (.int .u8 4)))) K) (fun t11 z=>
 ab (ae z (aF t7 (.val (.bool true)) t11)) fun t12 z=>
 ay t12 (
 j1 [(1,t1),(3,(.val (.int .i64 2)))] z
 ) (
 j1 [(1,t1),(3,(.val (.int .i64 0)))] z
 )
 ) z) z) z))
theorem ES (h:F63 t0 z k kp):Ev Tryz.prog 63 [t0] z k kp:=evF mixed Tryz.func63 [(0,[1]),(1,[1,3]),(3005,[1,3]),(2,[1,3,12]),(3,[1,3]),(3007,[1,3]),(4,[1,3,15]),(5,[1,3]),(6,[1,62]),(7,[2]),(3015,[0]),(8,[1,65,66]),(9,[1,65,66,67]),(10,[1,4,65,66]),(11,[1,65,66,75]),(12,[2]),(13,[1,65,66]),(1009,[1,65,66]),(14,[2])] (by kernel_rfl) (by kernel_rfl) h
def F64 (t0:AV) (z:ah) (k kp:AV→ah→Prop):Prop:=
 ab (bq t0 z) fun t1 z=>
 ab (ae z (ag 0 t1)) fun t3 z=>
 ab (ae z (aj false 1 t3 z)) fun t4 z=>
 ab (ae z (ar .eql .prim t4 (.val (.int .u8 0)))) fun t5 z=>
 gK t5 true (fun K=>ab (ae z (ag 1 t1)) K) (fun t7 z=>
 gK t5 true (fun K=>ab (ae z (aj false 1 t7 z)) K) (fun t8 z=>
 gK t5 true (fun K=>ab (ae z (ar .eql .prim t8 (.val (.int .i64 0)))) K) (fun t9 z=>
 ab (ae z (aF t5 t9 (.val (.bool false)))) fun t10 z=>
 gK t10 true (fun K=>ab (ae z (ag 2 t1)) K) (fun t12 z=>
 gK t10 true (fun K=>ab (ae z (aj false 1 t12 z)) K) (fun t13 z=>
 gK t10 true (fun K=>ab (ae z (aE .slice t13 z)) K) (fun t14 z=>
 gK t10 true (fun K=>ab (ae z (ar .eql .prim t14 (.val (.int .i64 0)))) K) (fun t15 z=>
 ab (ae z (aF t10 t15 (.val (.bool false)))) fun t16 z=>
 gK t16 true (fun K=>ab (ae z (ag 3 t1)) K) (fun t18 z=>
 gK t16 true (fun K=>ab (ae z (aj false 1 t18 z)) K) (fun t19 z=>
 gK t16 true (fun K=>ab (ae z (aE .slice t19 z)) K) (fun t20 z=>
 gK t16 true (fun K=>ab (ae z (ar .eql .prim t20 (.val (.int .i64 0)))) K) (fun t21 z=>
 ab (ae z (aF t16 t21 (.val (.bool false)))) fun t22 z=>
 k t22 z) z) z) z) z) z) z) z) z) z) z) z
theorem ET (h:F64 t0 z k kp):Ev Tryz.prog 64 [t0] z k kp:=evF mixed Tryz.func64 [(0,[1]),(1,[2])] (by kernel_rfl) (by kernel_rfl) h
def F136 (t0:AV) (z:ah) (k kp:AV→ah→Prop):Prop:=
 bk (fun fr z=>(
 ay (aa fr 4) (
 k (.val (.int .i64 0)) z
 ) (
 bk (fun fr z=>(
 ay (aa fr 7) (
 k (.val (.int .i64 1)) z
 ) (
 bk (fun fr z=>(
 ay (aa fr 14) (
 k (.val (.int .i64 2)) z
 ) (
 ab (ae z (ar .eql .prim (aa fr 3) (.val (.int .u8 14)))) fun t23 z=>
 ay t23 (
 k (.val (.int .i64 3)) z
 ) (
 k (.val (.int .i64 (-1))) z
 )
 )
 )) (fun j3=>(
 ab (ae z (ar .eql .prim (aa fr 3) (.val (.int .u8 3)))) fun t15 z=>
 ay t15 (
 j3 [(3,(aa fr 3)),(14,t15)] z
 ) (
 ab (ae z (ar .eql .prim (aa fr 3) (.val (.int .u8 8)))) fun t16 z=>
 ay t16 (
 j3 [(3,(aa fr 3)),(14,t16)] z
 ) (
 ab (ae z (ar .eql .prim (aa fr 3) (.val (.int .u8 9)))) fun t17 z=>
 ay t17 (
 j3 [(3,(aa fr 3)),(14,t17)] z
 ) (
 ab (ae z (ar .eql .prim (aa fr 3) (.val (.int .u8 10)))) fun t18 z=>
 ay t18 (
 j3 [(3,(aa fr 3)),(14,t18)] z
 ) (
 ab (ae z (ar .eql .prim (aa fr 3) (.val (.int .u8 12)))) fun t19 z=>
 ay t19 (
 j3 [(3,(aa fr 3)),(14,t19)] z
 ) (
 ab (ae z (ar .eql .prim (aa fr 3) (.val (.int .u8 13)))) fun t20 z=>
 ay t20 (
 j3 [(3,(aa fr 3)),(14,t20)] z
 ) (
 ab (ae z (ar .eql .prim (aa fr 3) (.val (.int .u8 16)))) fun t21 z=>
 j3 [(3,(aa fr 3)),(14,t21)] z
 )
 )
 )
 )
 )
 )
 ))
 )
 )) (fun j2=>(
 ab (ae z (ar .eql .prim (aa fr 3) (.val (.int .u8 4)))) fun t8 z=>
 ay t8 (
 j2 [(3,(aa fr 3)),(7,t8)] z
 ) (
 ab (ae z (ar .eql .prim (aa fr 3) (.val (.int .u8 5)))) fun t9 z=>
 ay t9 (
 j2 [(3,(aa fr 3)),(7,t9)] z
 ) (
 ab (ae z (ar .eql .prim (aa fr 3) (.val (.int .u8 6)))) fun t10 z=>
 ay t10 (
 j2 [(3,(aa fr 3)),(7,t10)] z
 ) (
 ab (ae z (ar .eql .prim (aa fr 3) (.val (.int .u8 7)))) fun t11 z=>
 ay t11 (
 j2 [(3,(aa fr 3)),(7,t11)] z
 ) (
 ab (ae z (ar .eql .prim (aa fr 3) (.val (.int .u8 11)))) fun t12 z=>
 ay t12 (
 j2 [(3,(aa fr 3)),(7,t12)] z
 ) (
 ab (ae z (ar .eql .prim (aa fr 3) (.val (.int .u8 15)))) fun t13 z=>
 j2 [(3,(aa fr 3)),(7,t13)] z
 )
 )
 )
 )
 )
 ))
 )
 )) (fun j1=>(
 ab (ae z (ar .eql .prim t0 (.val (.int .u8 1)))) fun t5 z=>
 ay t5 (
 j1 [(3,t0),(4,t5)] z
 ) (
 ab (ae z (ar .eql .prim t0 (.val (.int .u8 2)))) fun t6 z=>
 j1 [(3,t0),(4,t6)] z
 )
 ))
theorem AO (h:F136 t0 z k kp):Ev Tryz.prog 136 [t0] z k kp:=evF mixed Tryz.func136 [(0,[0]),(1,[3]),(3005,[3,4]),(2,[3,4]),(3,[3,4]),(4,[2]),(3012,[3,7]),(5,[3,7]),(6,[3,7]),(7,[3,7]),(8,[3,7]),(9,[3,7]),(10,[3,7]),(11,[2]),(3020,[3,14]),(12,[3,14]),(13,[3,14]),(14,[3,14]),(15,[3,14]),(16,[3,14]),(17,[3,14]),(18,[3,14]),(19,[2]),(20,[22]),(21,[2]),(22,[2])] (by kernel_rfl) (by kernel_rfl) h
def F137 (t0 t1 t2:AV) (z:ah) (k kp:AV→ah→Prop):Prop:=
 gK t0 true (fun K=>K t2 z) (fun t9 z=>
 ab (ae z (aF t0 t9 (.val (.bool false)))) fun t10 z=>
 gK t10 false (fun K=>K t0 z) (fun t12 z=>
 gK t10 false (fun K=>ab (ae z (bC t12)) K) (fun t13 z=>
 gK t10 false (fun K=>K t13 z) (fun t14 z=>
 gK t14 true (fun K=>K t1 z) (fun t15 z=>
 gK t14 true (fun K=>ab (ae z (ar .eql .prim t15 (.val (.string {data:=#[]})))) K) (fun t16 z=>
 gK t10 false (fun K=>ab (ae z (aF t14 t16 (.val (.bool false)))) K) (fun t17 z=>
 ab (ae z (aF t10 (.val (.bool true)) t17)) fun t18 z=>
 k t18 z) z) z) z) z) z) z) z
theorem AP (h:F137 t0 t1 t2 z k kp):Ev Tryz.prog 137 [t0,t1,t2] z k kp:=evF mixed Tryz.func137 [(0,[0,1,2]),(1,[6])] (by kernel_rfl) (by kernel_rfl) h
def F103 (t0:AV) (z:ah) (k kp:AV→ah→Prop):Prop:=
 Ev Tryz.prog 134 [t0,(.val (.int .u8 3))] z (fun t4 z=>
 gK t4 true (fun K=>K t0 z) (fun t6 z=>
 gK t4 true (fun K=>Ev Tryz.prog 135 [t6] z K kp) (fun t7 z=>
 gK t4 true (fun K=>ab (ae z (ar .eql .prim t7 (.val (.int .i64 0)))) K) (fun t8 z=>
 ab (ae z (aF t4 t8 (.val (.bool false)))) fun t9 z=>
 k t9 z) z) z) z) kp
theorem Ao (h:F103 t0 z k kp):Ev Tryz.prog 103 [t0] z k kp:=evF mixed Tryz.func103 [(0,[0]),(1,[2])] (by kernel_rfl) (by kernel_rfl) h
def F106 (t0 t1:AV) (z:ah) (k kp:AV→ah→Prop):Prop:=
 ab (bq t0 z) fun t2 z=>
 ab (bq t1 z) fun t3 z=>
 ab (ae z (ag 0 t2)) fun t5 z=>
 ab (ae z (aj false 1 t5 z)) fun t6 z=>
 ab (ae z (ag 0 t3)) fun t7 z=>
 ab (ae z (aj false 1 t7 z)) fun t8 z=>
 ab (ae z (ar .neq .prim t6 t8)) fun t9 z=>
 ay t9 (
 ab (ae z (ag 0 t2)) fun t10 z=>
 ab (ae z (aj false 1 t10 z)) fun t11 z=>
 ab (ae z (ag 0 t3)) fun t12 z=>
 ab (ae z (aj false 1 t12 z)) fun t13 z=>
 ab (ae z (ar .lss .prim t11 t13)) fun t14 z=>
 k t14 z
 ) (
 ab (ae z (ag 1 t2)) fun t15 z=>
 ab (ae z (aj false 1 t15 z)) fun t16 z=>
 ab (ae z (ag 1 t3)) fun t17 z=>
 ab (ae z (aj false 1 t17 z)) fun t18 z=>
 ab (ae z (ar .neq .prim t16 t18)) fun t19 z=>
 ay t19 (
 ab (ae z (ag 1 t2)) fun t20 z=>
 ab (ae z (aj false 1 t20 z)) fun t21 z=>
 ab (ae z (ag 1 t3)) fun t22 z=>
 ab (ae z (aj false 1 t22 z)) fun t23 z=>
 ab (ae z (ar .lss .prim t21 t23)) fun t24 z=>
 k t24 z
 ) (
 ab (ae z (ag 2 t2)) fun t25 z=>
 ab (ae z (aj false 1 t25 z)) fun t26 z=>
 ab (ae z (ag 2 t3)) fun t27 z=>
 ab (ae z (aj false 1 t27 z)) fun t28 z=>
 ab (ae z (ar .lss .prim t26 t28)) fun t29 z=>
 k t29 z
 )
 )
theorem Ar (h:F106 t0 t1 z k kp):Ev Tryz.prog 106 [t0,t1] z k kp:=evF mixed Tryz.func106 [(0,[2,3]),(1,[2,3,9]),(2,[4]),(3,[2,3,19]),(4,[4]),(5,[4])] (by kernel_rfl) (by kernel_rfl) h
def F135 (t0:AV) (z:ah) (k kp:AV→ah→Prop):Prop:=
 Ev Tryz.prog 174 [] z (fun t5 z=>
 bk (fun fr z=>(
 k (.val (.int .i64 0)) z
 )) (fun j1=>(
 ab (ae z (aE .slice t5 z)) fun t7 z=>
 bj (fun fr z again=>(
 ab (ae z (ar .lss .prim (aa fr 8) (aa fr 7))) fun t9 z=>
 ay t9 (
 ab (ae z (ak 1 (aa fr 3) (aa fr 8) z)) fun t13 z=>
 ab (ae z (aj false 1 t13 z)) fun t14 z=>
 ab (ae z (ar .eql .prim t14 (aa fr 0))) fun t16 z=>
 ay t16 (
 ab (ae z (ar .add .prim (aa fr 8) (.val (.int .i64 1)))) fun t18 z=>
 k t18 z
 ) (
 ab (ae z (ar .add .prim (aa fr 8) (.val (.int .i64 1)))) fun t19 z=>
 again [(0,(aa fr 0)),(3,(aa fr 3)),(7,(aa fr 7)),(8,t19)] z
 )
 ) (
 j1 [(0,(aa fr 0))] z
 )
 )) [(0,t0),(3,t5),(7,t7),(8,(.val (.int .i64 0)))] z
 ))) kp
theorem AN (h:F135 t0 z k kp):Ev Tryz.prog 135 [t0] z k kp:=evF mixed Tryz.func135 [(0,[0]),(1,[0,3]),(3009,[0]),(2,[0,3,7,8]),(3,[0,3,7,8,9]),(4,[0,3,4,7,8]),(5,[0,3,4,7,8,16]),(6,[2]),(7,[0,3,7,8]),(1003,[0,3,7,8]),(8,[2])] (by kernel_rfl) (by kernel_rfl) h
def F174 (z:ah) (k kp:AV→ah→Prop):Prop:=
 ab (ae z (aV 14 1 [.val (.string ByteArray.empty)] [(0,(.val (.string {data:=#[108,101,116]}))),(1,(.val (.string {data:=#[108,101,116,114,101,99]}))),(2,(.val (.string {data:=#[105,110]}))),(3,(.val (.string {data:=#[102,110]}))),(4,(.val (.string {data:=#[105,102]}))),(5,(.val (.string {data:=#[116,104,101,110]}))),(6,(.val (.string {data:=#[101,108,115,101]}))),(7,(.val (.string {data:=#[114,97,105,115,101]}))),(8,(.val (.string {data:=#[116,114,121]}))),(9,(.val (.string {data:=#[119,105,116,104]}))),(10,(.val (.string {data:=#[114,101,102]}))),(11,(.val (.string {data:=#[102,115,116]}))),(12,(.val (.string {data:=#[115,110,100]}))),(13,(.val (.string {data:=#[101,120,110]})))])) fun t1 z=>
 k t1 z
theorem Br (h:F174 z k kp):Ev Tryz.prog 174 [] z k kp:=evF mixed Tryz.func174 [(0,[]),(1,[0]),(4001,[1])] (by kernel_rfl) (by kernel_rfl) h
end Go.Proofs.AtD
namespace Go.Proofs.AtD
open Go Go.Abs
variable {t0 t1 t2 t3 t4 t5 t6 t7:AV} {z:ah} {k kp:AV→ah→Prop}
def F182 (t0:AV) (z:ah) (k kp:AV→ah→Prop):Prop:=
 Ev Tryz.prog 186 [(.fn (.func 194) []),t0] z (fun t4 z=>
 k t4 z) kp
theorem BA (h:F182 t0 z k kp):Ev Tryz.prog 182 [t0] z k kp:=evF mixed Tryz.func182 [(0,[0]),(1,[2])] (by kernel_rfl) (by kernel_rfl) h
def F194 (t0:AV) (z:ah) (k kp:AV→ah→Prop):Prop:=
 Ev Tryz.prog 188 [t0,(.val (.int .u8 3))] z (fun t4 z=>
 gK t4 true (fun K=>K t0 z) (fun t6 z=>
 gK t4 true (fun K=>Ev Tryz.prog 195 [t6] z K kp) (fun t7 z=>
 gK t4 true (fun K=>ab (ae z (ar .eql .prim t7 (.val (.int .i64 0)))) K) (fun t8 z=>
 ab (ae z (aF t4 t8 (.val (.bool false)))) fun t9 z=>
 k t9 z) z) z) z) kp
theorem BG (h:F194 t0 z k kp):Ev Tryz.prog 194 [t0] z k kp:=evF mixed Tryz.func194 [(0,[0]),(1,[2])] (by kernel_rfl) (by kernel_rfl) h
def F195 (t0:AV) (z:ah) (k kp:AV→ah→Prop):Prop:=
 ab (ae z (ar .eql .prim t0 (.val (.string {data:=#[]})))) fun t4 z=>
 ay t4 (
 k (.val (.int .i64 0)) z
 ) (
 Ev Tryz.prog 213 [] z (fun t5 z=>
 Ev Tryz.prog 212 [t5,t0] z (fun t7 z=>
 ab (ae z (qK (.val (.int .i64 0)) t7)) fun t8 z=>
 k t8 z
 ) kp) kp)
theorem BH (h:F195 t0 z k kp):Ev Tryz.prog 195 [t0] z k kp:=evF mixed Tryz.func195 [(0,[0]),(1,[0,4]),(2,[2]),(3,[2])] (by kernel_rfl) (by kernel_rfl) h
def F212 (t0 t1:AV) (z:ah) (k kp:AV→ah→Prop):Prop:=
 bk (fun fr z=>(
 k (.val (.int .i64 (-1))) z
 )) (fun j1=>(
 ab (ae z (aE .slice t0 z)) fun t7 z=>
 bj (fun fr z again=>(
 ab (ae z (ar .lss .prim (aa fr 8) (aa fr 7))) fun t9 z=>
 ay t9 (
 ab (ae z (ak 1 (aa fr 0) (aa fr 8) z)) fun t14 z=>
 ab (ae z (aj false 1 t14 z)) fun t15 z=>
 ab (ae z (ar .eql .prim (aa fr 1) t15)) fun t16 z=>
 ay t16 (
 k (aa fr 8) z
 ) (
 ab (ae z (ar .add .prim (aa fr 8) (.val (.int .i64 1)))) fun t18 z=>
 again [(0,(aa fr 0)),(1,(aa fr 1)),(7,(aa fr 7)),(8,t18)] z
 )
 ) (
 j1 [(0,(aa fr 0))] z
 )
 )) [(0,t0),(1,t1),(7,t7),(8,(.val (.int .i64 0)))] z
 ))
theorem BN (h:F212 t0 t1 z k kp):Ev Tryz.prog 212 [t0,t1] z k kp:=evF mixed Tryz.func212 [(0,[0,1]),(3008,[0]),(1,[0,1,7,8]),(2,[0,1,7,8,9]),(3,[0,1,5,7,8]),(4,[0,1,5,7,8,16]),(5,[4]),(6,[0,1,7,8]),(1002,[0,1,7,8]),(7,[4])] (by kernel_rfl) (by kernel_rfl) h
def F213 (z:ah) (k kp:AV→ah→Prop):Prop:=
 Ev Tryz.prog 223 [(.val (.string {data:=#[32,108,101,116,32,108,101,116,114,101,99,32,105,110,32,102,110,32,105,102,32,116,104,101,110,32,101,108,115,101,32,114,97,105,115,101,32,116,114,121,32,119,105,116,104,32,114,101,102,32,102,115,116,32,115,110,100,32,101,120,110]})),(.val (.string {data:=#[32]}))] z (fun t1 z=>
 k t1 z) kp
theorem BO (h:F213 z k kp):Ev Tryz.prog 213 [] z k kp:=evF mixed Tryz.func213 [(0,[]),(1,[0])] (by kernel_rfl) (by kernel_rfl) h
def F223 (t0 t1:AV) (z:ah) (k kp:AV→ah→Prop):Prop:=
 Ev Tryz.prog 226 [t0,t1,(.val (.int .i64 0)),(.val (.int .i64 (-1)))] z (fun t7 z=>
 k t7 z) kp
theorem BT (h:F223 t0 t1 z k kp):Ev Tryz.prog 223 [t0,t1] z k kp:=evF mixed Tryz.func223 [(0,[0,1]),(1,[4])] (by kernel_rfl) (by kernel_rfl) h
def F226 (t0 t1 t2 t3:AV) (z:ah) (k kp:AV→ah→Prop):Prop:=
 ab (ae z (ar .eql .prim t3 (.val (.int .i64 0)))) fun t13 z=>
 ay t13 (
 k (.val (.slice Option.none 0 0)) z
 ) (
 ab (ae z (ar .eql .prim t1 (.val (.string {data:=#[]})))) fun t15 z=>
 ay t15 (
 Ev Tryz.prog 228 [t0,t3] z (fun t18 z=>
 k t18 z
 ) kp) (
 bk (fun fr z=>(
 ab (ae z (aE .str (aa fr 0) z)) fun t27 z=>
 ab (ae z (ar .add .prim t27 (.val (.int .i64 1)))) fun t28 z=>
 ab (ae z (rO (aa fr 3) t28)) fun t29 z=>
 ab (fV 1 16 [.val (.string ByteArray.empty)] t29 t29 z) fun t31 z=>
 ab (ae z (ar .sub .prim t29 (.val (.int .i64 1)))) fun t33 z=>
 bk (fun fr z=>(
 ab (ae z (ak 1 (aa fr 9) (aa fr 10) z)) fun t61 z=>
 ab (aG (az 1 t61 (aa fr 0) z)) fun _ z=>
 ab (ae z (ar .add .prim (aa fr 10) (.val (.int .i64 1)))) fun t64 z=>
 ab (ae z (dJ 1 (aa fr 9) none (some t64) none)) fun t65 z=>
 k t65 z
 )) (fun j2=>(
 bj (fun fr z again=>(
 ab (ae z (ar .lss .prim (aa fr 10) (aa fr 3))) fun t36 z=>
 ay t36 (
 Ev Tryz.prog 230 [(aa fr 0),(aa fr 1)] z (fun t39 z=>
 ab (ae z (ar .lss .prim t39 (.val (.int .i64 0)))) fun t41 z=>
 ay t41 (
 j2 [(0,(aa fr 0)),(9,(aa fr 9)),(10,(aa fr 10))] z
 ) (
 ab (ae z (ar .add .prim t39 (aa fr 2))) fun t47 z=>
 ab (ae z (cP (aa fr 0) none (some t47))) fun t48 z=>
 ab (ae z (ak 1 (aa fr 9) (aa fr 10) z)) fun t49 z=>
 ab (aG (az 1 t49 t48 z)) fun _ z=>
 ab (ae z (aE .str (aa fr 1) z)) fun t53 z=>
 ab (ae z (ar .add .prim t39 t53)) fun t54 z=>
 ab (ae z (cP (aa fr 0) (some t54) none)) fun t55 z=>
 ab (ae z (ar .add .prim (aa fr 10) (.val (.int .i64 1)))) fun t57 z=>
 again [(0,t55),(1,(aa fr 1)),(2,(aa fr 2)),(3,(aa fr 3)),(9,(aa fr 9)),(10,t57)] z
 )
 ) kp) (
 j2 [(0,(aa fr 0)),(9,(aa fr 9)),(10,(aa fr 10))] z
 )
 )) [(0,(aa fr 0)),(1,(aa fr 1)),(2,(aa fr 2)),(3,t33),(9,t31),(10,(.val (.int .i64 0)))] z
 ))
 )) (fun j1=>(
 ab (ae z (ar .lss .prim t3 (.val (.int .i64 0)))) fun t20 z=>
 ay t20 (
 Ev Tryz.prog 229 [t0,t1] z (fun t23 z=>
 ab (ae z (ar .add .prim t23 (.val (.int .i64 1)))) fun t24 z=>
 j1 [(0,t0),(1,t1),(2,t2),(3,t24)] z
 ) kp) (
 j1 [(0,t0),(1,t1),(2,t2),(3,t3)] z
 )
 ))
 )
 )
theorem BU (h:F226 t0 t1 t2 t3 z k kp):Ev Tryz.prog 226 [t0,t1,t2,t3] z k kp:=evF mixed Tryz.func226 [(0,[0,1,2,3]),(1,[0,1,2,3,13]),(2,[8]),(3,[0,1,2,3,15]),(4,[8]),(3008,[0,1,2,3]),(5,[0,1,2,3,20]),(6,[0,1,2,3]),(7,[0,1,2,3]),(8,[0,1,2,3,9]),(9,[0,1,2,3,9]),(10,[0,1,2,3,9,10]),(3018,[0,9,10]),(11,[0,1,2,3,9,10,36]),(12,[0,1,2,3,9,10,11]),(13,[0,1,2,3,9,10,11,41]),(14,[0,1,2,3,9,10,11]),(15,[0,1,2,3,9,10]),(16,[0,1,2,3,9,10]),(1011,[0,1,2,3,9,10]),(17,[9,10]),(18,[8])] (by kernel_rfl) (by kernel_rfl) h
def F229 (t0 t1:AV) (z:ah) (k kp:AV→ah→Prop):Prop:=
 ab (ae z (aE .str t1 z)) fun t8 z=>
 ab (ae z (ar .eql .prim t8 (.val (.int .i64 0)))) fun t9 z=>
 ay t9 (
 Ev Tryz.prog 231 [t0] z (fun t11 z=>
 ab (ae z (ar .add .prim t11 (.val (.int .i64 1)))) fun t12 z=>
 k t12 z
 ) kp) (
 ab (ae z (aE .str t1 z)) fun t14 z=>
 ab (ae z (ar .eql .prim t14 (.val (.int .i64 1)))) fun t15 z=>
 ay t15 (
 ab (ae z (bG t1 (.val (.int .i64 0)))) fun t18 z=>
 Ev Tryz.prog 233 [t0,t18] z (fun t19 z=>
 k t19 z
 ) kp) (
 bj (fun fr z again=>(
 Ev Tryz.prog 230 [(aa fr 0),(aa fr 1)] z (fun t22 z=>
 ab (ae z (ar .eql .prim t22 (.val (.int .i64 (-1))))) fun t24 z=>
 ay t24 (
 k (aa fr 5) z
 ) (
 ab (ae z (ar .add .prim (aa fr 5) (.val (.int .i64 1)))) fun t27 z=>
 ab (ae z (aE .str (aa fr 1) z)) fun t31 z=>
 ab (ae z (ar .add .prim t22 t31)) fun t32 z=>
 ab (ae z (cP (aa fr 0) (some t32) none)) fun t33 z=>
 again [(0,t33),(1,(aa fr 1)),(5,t27)] z
 )
 ) kp)) [(0,t0),(1,t1),(5,(.val (.int .i64 0)))] z
 )
 )
theorem BV (h:F229 t0 t1 z k kp):Ev Tryz.prog 229 [t0,t1] z k kp:=evF mixed Tryz.func229 [(0,[0,1]),(1,[0,1,9]),(2,[4]),(3,[0,1,15]),(4,[4]),(5,[0,1,5]),(6,[0,1,5,6]),(7,[0,1,5,6,24]),(8,[4]),(9,[0,1,5,6]),(10,[0,1,5]),(1006,[0,1,5])] (by kernel_rfl) (by kernel_rfl) h
def F230 (t0 t1:AV) (z:ah) (k kp:AV→ah→Prop):Prop:=
 Ev Tryz.prog 234 [t0,t1] z (fun t7 z=>
 k t7 z) kp
theorem BW (h:F230 t0 t1 z k kp):Ev Tryz.prog 230 [t0,t1] z k kp:=evF mixed Tryz.func230 [(0,[0,1]),(1,[4])] (by kernel_rfl) (by kernel_rfl) h
def F234 (t0 t1:AV) (z:ah) (k kp:AV→ah→Prop):Prop:=
 ab (ae z (aE .str t1 z)) fun t15 z=>
 ab (ae z (ar .eql .prim t15 (.val (.int .i64 0)))) fun t18 z=>
 gK t18 false (fun K=>K t1 z) (fun t20 z=>
 gK t18 false (fun K=>K t0 z) (fun t21 z=>
 gK t18 false (fun K=>ab (ae z (ar .eql .prim t20 t21)) K) (fun t22 z=>
 ab (ae z (aF t18 (.val (.bool true)) t22)) fun t23 z=>
 ay t23 (
 k (.val (.int .i64 0)) z
 ) (
 ab (ae z (ar .eql .prim t15 (.val (.int .i64 1)))) fun t26 z=>
 ay t26 (
 ab (ae z (bG t1 (.val (.int .i64 0)))) fun t29 z=>
 Ev Tryz.prog 225 [t0,t29] z (fun t30 z=>
 k t30 z
 ) kp) (
 ab (ae z (aE .str t0 z)) fun t34 z=>
 ab (ae z (ar .geq .prim t15 t34)) fun t35 z=>
 ay t35 (
 k (.val (.int .i64 (-1))) z
 ) (
 ab (ae z (aj false 1 (.val (.pointer (some ⟨0,0,none⟩))) z)) fun t38 z=>
 ab (ae z (ar .leq .prim t15 t38)) fun t39 z=>
 gK t39 true (fun K=>K t0 z) (fun t41 z=>
 gK t39 true (fun K=>ab (ae z (aE .str t41 z)) K) (fun t42 z=>
 gK t39 true (fun K=>ab (ae z (ar .leq .prim t42 (.val (.int .i64 64)))) K) (fun t43 z=>
 ab (ae z (aF t39 t43 (.val (.bool false)))) fun t44 z=>
 ay t44 (
 Ev Tryz.prog 236 [t0,t1] z (fun t47 z=>
 k t47 z
 ) kp) (
 ab (ae z (bG t1 (.val (.int .i64 0)))) fun t49 z=>
 ab (ae z (bG t1 (.val (.int .i64 1)))) fun t51 z=>
 ab (ae z (aE .str t0 z)) fun t53 z=>
 ab (ae z (ar .sub .prim t53 t15)) fun t55 z=>
 ab (ae z (ar .add .prim t55 (.val (.int .i64 1)))) fun t56 z=>
 bk (fun fr z=>(
 k (.val (.int .i64 (-1))) z
 )) (fun j1=>(
 bj (fun fr z again=>(
 ab (ae z (ar .lss .prim (aa fr 8) (aa fr 9))) fun t59 z=>
 ay t59 (
 bk (fun fr z=>(
 ab (ae z (ar .add .prim (aa fr 8) (.val (.int .i64 1)))) fun t80 z=>
 ab (ae z (bG (aa fr 0) t80)) fun t81 z=>
 ab (ae z (ar .eql .prim t81 (aa fr 7))) fun t83 z=>
 gK t83 true (fun K=>K (aa fr 0) z) (fun t85 z=>
 gK t83 true (fun K=>K (aa fr 8) z) (fun t86 z=>
 gK t83 true (fun K=>K (aa fr 8) z) (fun t87 z=>
 gK t83 true (fun K=>K (aa fr 5) z) (fun t88 z=>
 gK t83 true (fun K=>ab (ae z (ar .add .prim t87 t88)) K) (fun t89 z=>
 gK t83 true (fun K=>ab (ae z (cP t85 (some t86) (some t89))) K) (fun t90 z=>
 gK t83 true (fun K=>K (aa fr 1) z) (fun t91 z=>
 gK t83 true (fun K=>ab (ae z (ar .eql .prim t90 t91)) K) (fun t92 z=>
 ab (ae z (aF t83 t92 (.val (.bool false)))) fun t93 z=>
 ay t93 (
 k (aa fr 8) z
 ) (
 ab (ae z (ar .add .prim (aa fr 8) (.val (.int .i64 1)))) fun t96 z=>
 ab (ae z (ar .add .prim (aa fr 10) (.val (.int .i64 1)))) fun t98 z=>
 ab (ae z (aj false 1 (.val (.pointer (some ⟨0,0,none⟩))) z)) fun t100 z=>
 ab (ae z (ar .leq .prim (aa fr 5) t100)) fun t101 z=>
 gK t101 true (fun K=>K t98 z) (fun t103 z=>
 gK t101 true (fun K=>K t96 z) (fun t104 z=>
 gK t101 true (fun K=>Ev Tryz.prog 237 [t104] z K kp) (fun t105 z=>
 gK t101 true (fun K=>ab (ae z (ar .gtr .prim t103 t105)) K) (fun t106 z=>
 ab (ae z (aF t101 t106 (.val (.bool false)))) fun t107 z=>
 ay t107 (
 ab (ae z (cP (aa fr 0) (some t96) none)) fun t110 z=>
 Ev Tryz.prog 236 [t110,(aa fr 1)] z (fun t112 z=>
 ab (ae z (ar .geq .prim t112 (.val (.int .i64 0)))) fun t114 z=>
 ay t114 (
 ab (ae z (ar .add .prim t112 t96)) fun t117 z=>
 k t117 z
 ) (
 k (.val (.int .i64 (-1))) z
 )
 ) kp) (
 ab (ae z (aj false 1 (.val (.pointer (some ⟨0,0,none⟩))) z)) fun t119 z=>
 ab (ae z (ar .gtr .prim (aa fr 5) t119)) fun t120 z=>
 gK t120 true (fun K=>K t98 z) (fun t122 z=>
 gK t120 true (fun K=>K t96 z) (fun t123 z=>
 gK t120 true (fun K=>ab (ae z (ar .shr .prim t123 (.val (.int .u64 4)))) K) (fun t124 z=>
 gK t120 true (fun K=>ab (ae z (ar .add .prim (.val (.int .i64 4)) t124)) K) (fun t125 z=>
 gK t120 true (fun K=>ab (ae z (ar .geq .prim t122 t125)) K) (fun t126 z=>
 ab (ae z (aF t120 t126 (.val (.bool false)))) fun t127 z=>
 gK t127 true (fun K=>K t96 z) (fun t129 z=>
 gK t127 true (fun K=>K (aa fr 9) z) (fun t130 z=>
 gK t127 true (fun K=>ab (ae z (ar .lss .prim t129 t130)) K) (fun t131 z=>
 ab (ae z (aF t127 t131 (.val (.bool false)))) fun t132 z=>
 ay t132 (
 ab (ae z (cP (aa fr 0) (some t96) none)) fun t135 z=>
 Ev Tryz.prog 238 [t135,(aa fr 1)] z (fun t137 z=>
 ab (ae z (ar .lss .prim t137 (.val (.int .i64 0)))) fun t139 z=>
 ay t139 (
 k (.val (.int .i64 (-1))) z
 ) (
 ab (ae z (ar .add .prim t96 t137)) fun t142 z=>
 k t142 z
 )
 ) kp) (
 again [(0,(aa fr 0)),(1,(aa fr 1)),(5,(aa fr 5)),(6,(aa fr 6)),(7,(aa fr 7)),(8,t96),(9,(aa fr 9)),(10,t98)] z
 )
 ) z) z) z) z) z) z) z) z)
 ) z) z) z) z)
 ) z) z) z) z) z) z) z) z)) (fun j2=>(
 ab (ae z (bG (aa fr 0) (aa fr 8))) fun t62 z=>
 ab (ae z (ar .neq .prim t62 (aa fr 6))) fun t64 z=>
 ay t64 (
 ab (ae z (ar .add .prim (aa fr 8) (.val (.int .i64 1)))) fun t67 z=>
 ab (ae z (cP (aa fr 0) (some t67) (some (aa fr 9)))) fun t69 z=>
 Ev Tryz.prog 225 [t69,(aa fr 6)] z (fun t71 z=>
 ab (ae z (ar .lss .prim t71 (.val (.int .i64 0)))) fun t73 z=>
 ay t73 (
 k (.val (.int .i64 (-1))) z
 ) (
 ab (ae z (ar .add .prim t71 (.val (.int .i64 1)))) fun t76 z=>
 ab (ae z (ar .add .prim (aa fr 8) t76)) fun t77 z=>
 j2 [(0,(aa fr 0)),(1,(aa fr 1)),(5,(aa fr 5)),(6,(aa fr 6)),(7,(aa fr 7)),(8,t77),(9,(aa fr 9)),(10,(aa fr 10))] z
 )
 ) kp) (
 j2 [(0,(aa fr 0)),(1,(aa fr 1)),(5,(aa fr 5)),(6,(aa fr 6)),(7,(aa fr 7)),(8,(aa fr 8)),(9,(aa fr 9)),(10,(aa fr 10))] z
 )
 ))
 ) (
 j1 [(0,(aa fr 0))] z
 )
 )) [(0,t0),(1,t1),(5,t15),(6,t49),(7,t51),(8,(.val (.int .i64 0))),(9,t56),(10,(.val (.int .i64 0)))] z
 ))
 )
 ) z) z) z)
 )
 )) z) z) z
theorem BX (h:F234 t0 t1 z k kp):Ev Tryz.prog 234 [t0,t1] z k kp:=evF mixed Tryz.func234 [(0,[0,1]),(1,[0,1,5]),(2,[0,1,5,16]),(3,[4]),(4,[0,1,5,24]),(5,[4]),(6,[0,1,5,31]),(7,[4]),(8,[0,1,5,36]),(9,[4]),(10,[0,1,5,6]),(11,[0,1,5,6,7]),(12,[0,1,5,6,7,8]),(13,[0,1,5,6,7,8,9]),(14,[0,1,5,6,7,8,9,10]),(3036,[0]),(15,[0,1,5,6,7,8,9,10,59]),(3022,[0,1,5,6,7,8,9,10]),(16,[0,1,5,6,7,8,9,10,64]),(17,[0,1,5,6,7,8,9,10,11]),(18,[0,1,5,6,7,8,9,10,11,73]),(19,[4]),(20,[0,1,5,6,7,8,9,10]),(21,[0,1,5,6,7,8,9,10,93]),(22,[4]),(23,[0,1,5,6,7,8,9,10]),(24,[0,1,5,6,7,8,9,10]),(25,[0,1,5,6,7,8,9,10,107]),(26,[8,12]),(27,[8,12,114]),(28,[4]),(29,[4]),(30,[0,1,5,6,7,8,9,10,132]),(31,[8,13]),(32,[8,13,139]),(33,[4]),(34,[4]),(1015,[0,1,5,6,7,8,9,10]),(35,[4])] (by kernel_rfl) (by kernel_rfl) h
end Go.Proofs.AtD
namespace Go.Proofs.AtD
open Go Go.Abs
variable {t0 t1 t2 t3 t4 t5 t6 t7:AV} {z:ah} {k kp:AV→ah→Prop}
def F76 (t0:AV) (z:ah) (k kp:AV→ah→Prop):Prop:=
 bk (fun fr z=>(
 k (.val (.bool true)) z
 )) (fun j1=>(
 ab (ae z (aE .slice t0 z)) fun t6 z=>
 bj (fun fr z again=>(
 ab (ae z (ar .lss .prim (aa fr 7) (aa fr 6))) fun t8 z=>
 ay t8 (
 ab (ae z (ak 3 (aa fr 5) (aa fr 7) z)) fun t10 z=>
 ab (ae z (aj true 3 t10 z)) fun t11 z=>
 ab (aR [.val (.int .u8 0),.val (.int .i64 0),.val (.string ByteArray.empty)] z) fun t4 z=>
 ab (aG (az 3 t4 t11 z)) fun _ z=>
 ab (ae z (aj true 3 t4 z)) fun t12 z=>
 Ev Tryz.prog 120 [t12] z (fun t13 z=>
 ab (ae z (bC t13)) fun t14 z=>
 gK t14 false (fun K=>K (aa fr 7) z) (fun t16 z=>
 gK t14 false (fun K=>ab (ae z (ar .gtr .prim t16 (.val (.int .i64 0)))) K) (fun t17 z=>
 gK t14 false (fun K=>K t17 z) (fun t18 z=>
 gK t18 true (fun K=>K (aa fr 0) z) (fun t19 z=>
 gK t18 true (fun K=>K (aa fr 7) z) (fun t20 z=>
 gK t18 true (fun K=>ab (ae z (ar .sub .prim t20 (.val (.int .i64 1)))) K) (fun t21 z=>
 gK t18 true (fun K=>ab (ae z (ak 3 t19 t21 z)) K) (fun t22 z=>
 gK t18 true (fun K=>ab (ae z (aj true 3 t22 z)) K) (fun t23 z=>
 gK t18 true (fun K=>ab (ae z (aj true 3 t4 z)) K) (fun t24 z=>
 gK t18 true (fun K=>Ev Tryz.prog 121 [t23,t24] z K kp) (fun t25 z=>
 gK t18 true (fun K=>ab (ae z (ar .geq .prim t25 (.val (.int .i64 0)))) K) (fun t26 z=>
 gK t14 false (fun K=>ab (ae z (aF t18 t26 (.val (.bool false)))) K) (fun t27 z=>
 ab (ae z (aF t14 (.val (.bool true)) t27)) fun t28 z=>
 ay t28 (
 k (.val (.bool false)) z
 ) (
 ab (ae z (ar .add .prim (aa fr 7) (.val (.int .i64 1)))) fun t29 z=>
 again [(0,(aa fr 0)),(5,(aa fr 5)),(6,(aa fr 6)),(7,t29)] z
 )
 ) z) z) z) z) z) z) z) z) z) z) z) z) kp) (
 j1 [(0,(aa fr 0))] z
 )
 )) [(0,t0),(5,t0),(6,t6),(7,(.val (.int .i64 0)))] z
 ))
theorem E4 (h:F76 t0 z k kp):Ev Tryz.prog 76 [t0] z k kp:=evF mixed Tryz.func76 [(0,[0]),(3008,[0]),(1,[0,5,6,7]),(2,[0,5,6,7,8]),(3,[0,3,4,5,6,7]),(4,[0,5,6,7,28]),(2004,[0,1,2,3,4,5,6,7,8,9,10,11,12,13,14,15,16]),(5,[2]),(6,[0,5,6,7]),(1002,[0,5,6,7]),(7,[2])] (by kernel_rfl) (by kernel_rfl) h
def F121 (t0 t1:AV) (z:ah) (k kp:AV→ah→Prop):Prop:=
 ab (bq t0 z) fun t2 z=>
 ab (bq t1 z) fun t3 z=>
 ab (ae z (ag 0 t2)) fun t5 z=>
 ab (ae z (aj false 1 t5 z)) fun t6 z=>
 ab (ae z (ag 0 t3)) fun t7 z=>
 ab (ae z (aj false 1 t7 z)) fun t8 z=>
 ab (ae z (ag 1 t2)) fun t10 z=>
 ab (ae z (aj false 1 t10 z)) fun t11 z=>
 ab (ae z (ag 1 t3)) fun t12 z=>
 ab (ae z (aj false 1 t12 z)) fun t13 z=>
 ab (ae z (ag 2 t2)) fun t15 z=>
 ab (ae z (aj false 1 t15 z)) fun t16 z=>
 ab (ae z (ag 2 t3)) fun t17 z=>
 ab (ae z (aj false 1 t17 z)) fun t18 z=>
 Ev Tryz.prog 165 [t6,t8] z (fun t9 z=>
 (ab (ae z (aj false 1 t10 z)) (fun y w=>y=t11∧w=z))∧(
 (ab (ae z (aj false 1 t12 z)) (fun y w=>y=t13∧w=z))∧(
 (ab (ae z (aj false 1 t15 z)) (fun y w=>y=t16∧w=z))∧(
 (ab (ae z (aj false 1 t17 z)) (fun y w=>y=t18∧w=z))∧(
 Ev Tryz.prog 166 [t11,t13] z (fun t14 z=>
 (ab (ae z (aj false 1 t15 z)) (fun y w=>y=t16∧w=z))∧(
 (ab (ae z (aj false 1 t17 z)) (fun y w=>y=t18∧w=z))∧(
 Ev Tryz.prog 167 [t16,t18] z (fun t19 z=>
 ab (ae z (aV 3 1 [.val (.int .i64 0)] [(0,t9),(1,t14),(2,t19)])) fun t20 z=>
 Ev Tryz.prog 164 [t20] z (fun t21 z=>
 k t21 z) kp) kp))) kp))))) kp
theorem AE (h:F121 t0 t1 z k kp):Ev Tryz.prog 121 [t0,t1] z k kp:=evF mixed Tryz.func121 [(0,[2,3]),(1,[4]),(2001,[0,1,2,3,5,6,7,8,10,11,12,13,4,9,14,15,16,17]),(101004,[6,8,11,13]),(101009,[11,13])] (by kernel_rfl) (by kernel_rfl) h
def D7 (t0:AV) (z:ah) (k kp:AV→ah→Prop):Prop:=
 Ev Tryz.prog 168 [t0,(.fn (.func 169) [])] z (fun t4 z=>
 ab (ae z (bC t4)) fun t5 z=>
 k t5 z) kp
theorem vb (h:D7 t0 z k kp):Ev Tryz.prog 122 [t0] z k kp:=evF mixed Tryz.func122 [(0,[0]),(1,[2])] (by kernel_rfl) (by kernel_rfl) h
def F164 (t0:AV) (z:ah) (k kp:AV→ah→Prop):Prop:=
 bk (fun fr z=>(
 k (aa fr 3) z
 )) (fun j1=>(
 ab (ae z (aE .slice t0 z)) fun t7 z=>
 bj (fun fr z again=>(
 ab (ae z (ar .lss .prim (aa fr 8) (aa fr 7))) fun t9 z=>
 ay t9 (
 ab (ae z (ak 1 (aa fr 6) (aa fr 8) z)) fun t10 z=>
 ab (ae z (aj false 1 t10 z)) fun t11 z=>
 ab (ae z (ar .neq .prim t11 (aa fr 3))) fun t14 z=>
 ay t14 (
 k t11 z
 ) (
 ab (ae z (ar .add .prim (aa fr 8) (.val (.int .i64 1)))) fun t16 z=>
 again [(3,(aa fr 3)),(6,(aa fr 6)),(7,(aa fr 7)),(8,t16)] z
 )
 ) (
 j1 [(3,(aa fr 3))] z
 )
 )) [(3,(.val (.int .i64 0))),(6,t0),(7,t7),(8,(.val (.int .i64 0)))] z
 ))
theorem Bi (h:F164 t0 z k kp):Ev Tryz.prog 164 [t0] z k kp:=evF mixed Tryz.func164 [(0,[0]),(1,[0,3]),(3009,[3]),(2,[3,6,7,8]),(3,[3,6,7,8,9]),(4,[3,5,6,7,8]),(5,[3,5,6,7,8,14]),(6,[2]),(7,[3,6,7,8]),(1003,[3,6,7,8]),(8,[2])] (by kernel_rfl) (by kernel_rfl) h
def F165 (t0 t1:AV) (z:ah) (k kp:AV→ah→Prop):Prop:=
 Ev Tryz.prog 189 [t0] z (fun t8 z=>
 Ev Tryz.prog 189 [t1] z (fun t10 z=>
 ay t8 (
 ay t10 (
 k (.val (.int .i64 0)) z
 ) (
 k (.val (.int .i64 (-1))) z
 )
 ) (
 ay t10 (
 k (.val (.int .i64 1)) z
 ) (
 ab (ae z (ar .lss .prim t0 t1)) fun t16 z=>
 ay t16 (
 k (.val (.int .i64 (-1))) z
 ) (
 ab (ae z (ar .gtr .prim t0 t1)) fun t19 z=>
 ay t19 (
 k (.val (.int .i64 1)) z
 ) (
 k (.val (.int .i64 0)) z
 )
 )
 )
 )) kp) kp
theorem Bj (h:F165 t0 t1 z k kp):Ev Tryz.prog 165 [t0,t1] z k kp:=evF mixed Tryz.func165 [(0,[0,1]),(1,[0,1,5]),(2,[0,1,5,6]),(3,[0,1,6,11]),(4,[12]),(5,[4]),(6,[4]),(7,[0,1,13]),(8,[4]),(9,[0,1,16]),(10,[4]),(11,[19]),(12,[4]),(13,[4])] (by kernel_rfl) (by kernel_rfl) h
def F166 (t0 t1:AV) (z:ah) (k kp:AV→ah→Prop):Prop:=
 Ev Tryz.prog 190 [t0] z (fun t8 z=>
 Ev Tryz.prog 190 [t1] z (fun t10 z=>
 ay t8 (
 ay t10 (
 k (.val (.int .i64 0)) z
 ) (
 k (.val (.int .i64 (-1))) z
 )
 ) (
 ay t10 (
 k (.val (.int .i64 1)) z
 ) (
 ab (ae z (ar .lss .prim t0 t1)) fun t16 z=>
 ay t16 (
 k (.val (.int .i64 (-1))) z
 ) (
 ab (ae z (ar .gtr .prim t0 t1)) fun t19 z=>
 ay t19 (
 k (.val (.int .i64 1)) z
 ) (
 k (.val (.int .i64 0)) z
 )
 )
 )
 )) kp) kp
theorem Bk (h:F166 t0 t1 z k kp):Ev Tryz.prog 166 [t0,t1] z k kp:=evF mixed Tryz.func166 [(0,[0,1]),(1,[0,1,5]),(2,[0,1,5,6]),(3,[0,1,6,11]),(4,[12]),(5,[4]),(6,[4]),(7,[0,1,13]),(8,[4]),(9,[0,1,16]),(10,[4]),(11,[19]),(12,[4]),(13,[4])] (by kernel_rfl) (by kernel_rfl) h
def F167 (t0 t1:AV) (z:ah) (k kp:AV→ah→Prop):Prop:=
 Ev Tryz.prog 191 [t0] z (fun t8 z=>
 Ev Tryz.prog 191 [t1] z (fun t10 z=>
 ay t8 (
 ay t10 (
 k (.val (.int .i64 0)) z
 ) (
 k (.val (.int .i64 (-1))) z
 )
 ) (
 ay t10 (
 k (.val (.int .i64 1)) z
 ) (
 ab (ae z (ar .lss .prim t0 t1)) fun t16 z=>
 ay t16 (
 k (.val (.int .i64 (-1))) z
 ) (
 ab (ae z (ar .gtr .prim t0 t1)) fun t19 z=>
 ay t19 (
 k (.val (.int .i64 1)) z
 ) (
 k (.val (.int .i64 0)) z
 )
 )
 )
 )) kp) kp
theorem Bl (h:F167 t0 t1 z k kp):Ev Tryz.prog 167 [t0,t1] z k kp:=evF mixed Tryz.func167 [(0,[0,1]),(1,[0,1,5]),(2,[0,1,5,6]),(3,[0,1,6,11]),(4,[12]),(5,[4]),(6,[4]),(7,[0,1,13]),(8,[4]),(9,[0,1,16]),(10,[4]),(11,[19]),(12,[4]),(13,[4])] (by kernel_rfl) (by kernel_rfl) h
def Ec (t0 t1:AV) (z:ah) (k kp:AV→ah→Prop):Prop:=
 Ev Tryz.prog 192 [t0,t1] z (fun t7 z=>
 ab (ae z (ar .geq .prim t7 (.val (.int .i64 0)))) fun t8 z=>
 k t8 z) kp
theorem vd (h:Ec t0 t1 z k kp):Ev Tryz.prog 168 [t0,t1] z k kp:=evF mixed Tryz.func168 [(0,[0,1]),(1,[4])] (by kernel_rfl) (by kernel_rfl) h
def F169 (t0:AV) (z:ah) (k kp:AV→ah→Prop):Prop:=
 ab (bq t0 z) fun t1 z=>
 ab (ae z (aj true 4 t1 z)) fun t3 z=>
 Ev Tryz.prog 170 [t3] z (fun t4 z=>
 ab (ae z (bC t4)) fun t5 z=>
 gK t5 false (fun K=>ab (ae z (ag 3 t1)) K) (fun t7 z=>
 gK t5 false (fun K=>ab (ae z (aj false 1 t7 z)) K) (fun t8 z=>
 gK t5 false (fun K=>Ev Tryz.prog 122 [t8] z K kp) (fun t9 z=>
 gK t5 false (fun K=>ab (ae z (bC t9)) K) (fun t10 z=>
 ab (ae z (aF t5 (.val (.bool true)) t10)) fun t11 z=>
 k t11 z) z) z) z) z) kp
theorem Bm (h:F169 t0 z k kp):Ev Tryz.prog 169 [t0] z k kp:=evF mixed Tryz.func169 [(0,[1]),(1,[2])] (by kernel_rfl) (by kernel_rfl) h
def F170 (t0:AV) (z:ah) (k kp:AV→ah→Prop):Prop:=
 ab (bq t0 z) fun t1 z=>
 ab (ae z (ag 0 t1)) fun t3 z=>
 ab (ae z (aj false 1 t3 z)) fun t4 z=>
 ab (ae z (ar .eql .prim t4 (.val (.int .u8 1)))) fun t6 z=>
 ay t6 (
 ab (ae z (ag 1 t1)) fun t7 z=>
 ab (ae z (aj false 1 t7 z)) fun t8 z=>
 ab (ae z (ar .eql .prim t8 (.val (.int .i64 0)))) fun t9 z=>
 gK t9 true (fun K=>ab (ae z (ag 2 t1)) K) (fun t11 z=>
 gK t9 true (fun K=>ab (ae z (aj false 1 t11 z)) K) (fun t12 z=>
 gK t9 true (fun K=>ab (ae z (aE .slice t12 z)) K) (fun t13 z=>
 gK t9 true (fun K=>ab (ae z (ar .eql .prim t13 (.val (.int .i64 0)))) K) (fun t14 z=>
 ab (ae z (aF t9 t14 (.val (.bool false)))) fun t15 z=>
 gK t15 true (fun K=>ab (ae z (ag 3 t1)) K) (fun t17 z=>
 gK t15 true (fun K=>ab (ae z (aj false 1 t17 z)) K) (fun t18 z=>
 gK t15 true (fun K=>ab (ae z (aE .slice t18 z)) K) (fun t19 z=>
 gK t15 true (fun K=>ab (ae z (ar .eql .prim t19 (.val (.int .i64 0)))) K) (fun t20 z=>
 ab (ae z (aF t15 t20 (.val (.bool false)))) fun t21 z=>
 k t21 z
 ) z) z) z) z) z) z) z) z) (
 ab (ae z (ar .eql .prim t4 (.val (.int .u8 2)))) fun t23 z=>
 ay t23 (
 ab (ae z (ag 1 t1)) fun t24 z=>
 ab (ae z (aj false 1 t24 z)) fun t25 z=>
 ab (ae z (ar .geq .prim t25 (.val (.int .i64 0)))) fun t26 z=>
 gK t26 true (fun K=>ab (ae z (ag 2 t1)) K) (fun t28 z=>
 gK t26 true (fun K=>ab (ae z (aj false 1 t28 z)) K) (fun t29 z=>
 gK t26 true (fun K=>ab (ae z (aE .slice t29 z)) K) (fun t30 z=>
 gK t26 true (fun K=>ab (ae z (ar .eql .prim t30 (.val (.int .i64 0)))) K) (fun t31 z=>
 ab (ae z (aF t26 t31 (.val (.bool false)))) fun t32 z=>
 gK t32 true (fun K=>ab (ae z (ag 3 t1)) K) (fun t34 z=>
 gK t32 true (fun K=>ab (ae z (aj false 1 t34 z)) K) (fun t35 z=>
 gK t32 true (fun K=>ab (ae z (aE .slice t35 z)) K) (fun t36 z=>
 gK t32 true (fun K=>ab (ae z (ar .eql .prim t36 (.val (.int .i64 2)))) K) (fun t37 z=>
 ab (ae z (aF t32 t37 (.val (.bool false)))) fun t38 z=>
 k t38 z
 ) z) z) z) z) z) z) z) z) (
 ab (ae z (ar .eql .prim t4 (.val (.int .u8 3)))) fun t40 z=>
 ay t40 (
 ab (ae z (ag 1 t1)) fun t41 z=>
 ab (ae z (aj false 1 t41 z)) fun t42 z=>
 ab (ae z (ar .geq .prim t42 (.val (.int .i64 0)))) fun t43 z=>
 gK t43 true (fun K=>ab (ae z (ag 2 t1)) K) (fun t45 z=>
 gK t43 true (fun K=>ab (ae z (aj false 1 t45 z)) K) (fun t46 z=>
 gK t43 true (fun K=>ab (ae z (aE .slice t46 z)) K) (fun t47 z=>
 gK t43 true (fun K=>ab (ae z (ar .eql .prim t47 (.val (.int .i64 0)))) K) (fun t48 z=>
 ab (ae z (aF t43 t48 (.val (.bool false)))) fun t49 z=>
 gK t49 true (fun K=>ab (ae z (ag 3 t1)) K) (fun t51 z=>
 gK t49 true (fun K=>ab (ae z (aj false 1 t51 z)) K) (fun t52 z=>
 gK t49 true (fun K=>ab (ae z (aE .slice t52 z)) K) (fun t53 z=>
 gK t49 true (fun K=>ab (ae z (ar .eql .prim t53 (.val (.int .i64 1)))) K) (fun t54 z=>
 ab (ae z (aF t49 t54 (.val (.bool false)))) fun t55 z=>
 k t55 z
 ) z) z) z) z) z) z) z) z) (
 ab (ae z (ar .eql .prim t4 (.val (.int .u8 4)))) fun t57 z=>
 ay t57 (
 ab (ae z (ag 1 t1)) fun t58 z=>
 ab (ae z (aj false 1 t58 z)) fun t59 z=>
 ab (ae z (ar .geq .prim t59 (.val (.int .i64 0)))) fun t60 z=>
 gK t60 true (fun K=>ab (ae z (ag 2 t1)) K) (fun t62 z=>
 gK t60 true (fun K=>ab (ae z (aj false 1 t62 z)) K) (fun t63 z=>
 gK t60 true (fun K=>Ev Tryz.prog 76 [t63] z K kp) (fun t64 z=>
 ab (ae z (aF t60 t64 (.val (.bool false)))) fun t65 z=>
 gK t65 true (fun K=>ab (ae z (ag 3 t1)) K) (fun t67 z=>
 gK t65 true (fun K=>ab (ae z (aj false 1 t67 z)) K) (fun t68 z=>
 gK t65 true (fun K=>ab (ae z (aE .slice t68 z)) K) (fun t69 z=>
 gK t65 true (fun K=>ab (ae z (ar .eql .prim t69 (.val (.int .i64 2)))) K) (fun t70 z=>
 ab (ae z (aF t65 t70 (.val (.bool false)))) fun t71 z=>
 k t71 z
 ) z) z) z) z) z) z) z) (
 k (.val (.bool false)) z
 )
 )
 )
 )
theorem Bn (h:F170 t0 z k kp):Ev Tryz.prog 170 [t0] z k kp:=evF mixed Tryz.func170 [(0,[1]),(1,[1,4]),(2,[1,4,5]),(3,[2]),(4,[1,4,22]),(5,[2]),(6,[1,4,39]),(7,[2]),(8,[1,56]),(9,[2]),(10,[2])] (by kernel_rfl) (by kernel_rfl) h
def Ef (t0:AV) (z:ah) (k kp:AV→ah→Prop):Prop:=
 ab (ae z (ar .neq .prim t0 t0)) fun t5 z=>
 k t5 z
theorem vg (h:Ef t0 z k kp):Ev Tryz.prog 189 [t0] z k kp:=evF mixed Tryz.func189 [(0,[0]),(1,[2])] (by kernel_rfl) (by kernel_rfl) h
def Eg (t0:AV) (z:ah) (k kp:AV→ah→Prop):Prop:=
 ab (ae z (ar .neq .prim t0 t0)) fun t5 z=>
 k t5 z
theorem vj (h:Eg t0 z k kp):Ev Tryz.prog 190 [t0] z k kp:=evF mixed Tryz.func190 [(0,[0]),(1,[2])] (by kernel_rfl) (by kernel_rfl) h
def Eh (t0:AV) (z:ah) (k kp:AV→ah→Prop):Prop:=
 ab (ae z (ar .neq .prim t0 t0)) fun t5 z=>
 k t5 z
theorem vk (h:Eh t0 z k kp):Ev Tryz.prog 191 [t0] z k kp:=evF mixed Tryz.func191 [(0,[0]),(1,[2])] (by kernel_rfl) (by kernel_rfl) h
def Ei (t0 t1:AV) (z:ah) (k kp:AV→ah→Prop):Prop:=
 bk (fun fr z=>(
 k (.val (.int .i64 (-1))) z
 )) (fun j1=>(
 ab (ae z (aE .slice t0 z)) fun t7 z=>
 bj (fun fr z again=>(
 ab (ae z (ar .lss .prim (aa fr 8) (aa fr 7))) fun t9 z=>
 ay t9 (
 ab (ae z (ak 4 (aa fr 0) (aa fr 8) z)) fun t14 z=>
 ab (ae z (aj true 4 t14 z)) fun t15 z=>
 fX Tryz.prog (aa fr 1) [t15] z (fun t16 z=>
 ay t16 (
 k (aa fr 8) z
 ) (
 ab (ae z (ar .add .prim (aa fr 8) (.val (.int .i64 1)))) fun t18 z=>
 again [(0,(aa fr 0)),(1,(aa fr 1)),(7,(aa fr 7)),(8,t18)] z
 )
 ) kp) (
 j1 [(0,(aa fr 0))] z
 )
 )) [(0,t0),(1,t1),(7,t7),(8,(.val (.int .i64 0)))] z
 ))
theorem vn (h:Ei t0 t1 z k kp):Ev Tryz.prog 192 [t0,t1] z k kp:=evF mixed Tryz.func192 [(0,[0,1]),(3008,[0]),(1,[0,1,7,8]),(2,[0,1,7,8,9]),(3,[0,1,5,7,8]),(4,[0,1,5,7,8,16]),(5,[4]),(6,[0,1,7,8]),(1002,[0,1,7,8]),(7,[4])] (by kernel_rfl) (by kernel_rfl) h
end Go.Proofs.AtD
