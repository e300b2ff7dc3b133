import Derived.Test.YtjilebpcaemopaaGreatDoorAbsK
import Derived.Test.YtjilebpcaemopaaGreatDoorProg
import Derived.KernelRfl
set_option maxRecDepth 100000
set_option linter.unusedVariables false
namespace Go.Proofs.MacD
open Go Go.Abs
def zMacDec_0:List AV:=[.val (.int .u8 0),.val (.bool false),.val (.int .i64 0),.val (.string ByteArray.empty),.val (.int .i64 0),.val (.int .i64 0),.val (.int .i64 0),.val (.int .i64 0)]
@[simp ↓] theorem zMacDec_0_eq:zMacDec_0=[.val (.int .u8 0),.val (.bool false),.val (.int .i64 0),.val (.string ByteArray.empty),.val (.int .i64 0),.val (.int .i64 0),.val (.int .i64 0),.val (.int .i64 0)]:=nr0 rfl
def zMacDec_1:List AV:=[.val (.pointer none),.val (.int .i64 0),.val (.int .i64 0),.val (.slice none 0 0),.val (.slice none 0 0)]
@[simp ↓] theorem zMacDec_1_eq:zMacDec_1=[.val (.pointer none),.val (.int .i64 0),.val (.int .i64 0),.val (.slice none 0 0),.val (.slice none 0 0)]:=nr0 rfl
def zMacDec_2:List AV:=[.val (.int .u8 0),.val (.bool false),.val (.int .i64 0),.val (.string ByteArray.empty)]
@[simp ↓] theorem zMacDec_2_eq:zMacDec_2=[.val (.int .u8 0),.val (.bool false),.val (.int .i64 0),.val (.string ByteArray.empty)]:=nr0 rfl
def zMacDec_3:List AV:=[.val (.int .i64 0),.val (.int .i64 0),.val (.map none),.val (.slice none 0 0),.val (.int .i64 0),.val (.int .i64 0),.val (.int .i64 0)]
@[simp ↓] theorem zMacDec_3_eq:zMacDec_3=[.val (.int .i64 0),.val (.int .i64 0),.val (.map none),.val (.slice none 0 0),.val (.int .i64 0),.val (.int .i64 0),.val (.int .i64 0)]:=nr0 rfl
def zMacDec_4:List AV:=[.val (.pointer none),.val (.pointer none),.val (.pointer none),.val (.int .u8 0),.val (.int .i64 0),.val (.int .i64 0),.val (.int .i64 0),.val (.bool false),.val (.string ByteArray.empty)]
@[simp ↓] theorem zMacDec_4_eq:zMacDec_4=[.val (.pointer none),.val (.pointer none),.val (.pointer none),.val (.int .u8 0),.val (.int .i64 0),.val (.int .i64 0),.val (.int .i64 0),.val (.bool false),.val (.string ByteArray.empty)]:=nr0 rfl
def zMacDec_5:List AV:=[.val (.pointer none),.val (.pointer none),.val (.pointer none),.val (.slice none 0 0)]
@[simp ↓] theorem zMacDec_5_eq:zMacDec_5=[.val (.pointer none),.val (.pointer none),.val (.pointer none),.val (.slice none 0 0)]:=nr0 rfl
def zMacDec_6:List AV:=[.val (.pointer none),.val (.string ByteArray.empty),.val (.pointer none),.val (.pointer none),.val (.slice none 0 0)]
@[simp ↓] theorem zMacDec_6_eq:zMacDec_6=[.val (.pointer none),.val (.string ByteArray.empty),.val (.pointer none),.val (.pointer none),.val (.slice none 0 0)]:=nr0 rfl
def zMacDec_7:List AV:=[.val (.int .u8 0),.val (.int .i64 0),.val (.int .i64 0),.val (.int .i64 0)]
@[simp ↓] theorem zMacDec_7_eq:zMacDec_7=[.val (.int .u8 0),.val (.int .i64 0),.val (.int .i64 0),.val (.int .i64 0)]:=nr0 rfl
def zMacDec_8:List AV:=[.val (.pointer none),.val (.pointer none)]
@[simp ↓] theorem zMacDec_8_eq:zMacDec_8=[.val (.pointer none),.val (.pointer none)]:=nr0 rfl
def zMacDec_9:List AV:=[.val (.int .i64 0),.val (.int .i64 0),.val (.pointer none)]
@[simp ↓] theorem zMacDec_9_eq:zMacDec_9=[.val (.int .i64 0),.val (.int .i64 0),.val (.pointer none)]:=nr0 rfl
def zMacDec_10:List AV:=[.val (.int .u8 0),.val (.int .u8 0),.val (.int .i64 0),.val (.int .i64 0),.val (.int .i64 0),.val (.int .u8 0),.val (.int .i64 0),.val (.int .i64 0),.val (.int .i64 0),.val (.int .i64 0)]
@[simp ↓] theorem zMacDec_10_eq:zMacDec_10=[.val (.int .u8 0),.val (.int .u8 0),.val (.int .i64 0),.val (.int .i64 0),.val (.int .i64 0),.val (.int .u8 0),.val (.int .i64 0),.val (.int .i64 0),.val (.int .i64 0),.val (.int .i64 0)]:=nr0 rfl
def zMacDec_11:List AV:=[.val (.string ByteArray.empty),.val (.int .u8 0),.val (.int .i64 0),.val (.int .i64 0),.val (.int .i64 0),.val (.bool false),.val (.pointer none)]
@[simp ↓] theorem zMacDec_11_eq:zMacDec_11=[.val (.string ByteArray.empty),.val (.int .u8 0),.val (.int .i64 0),.val (.int .i64 0),.val (.int .i64 0),.val (.bool false),.val (.pointer none)]:=nr0 rfl
variable {s:AHeap} {k kp:KP}
theorem mixed:Tryz.prog.follows .mixedOrders=true:=by kernel_rfl
def F12 (t0 t1 t2:AV) (s:AHeap) (k kp:KP):Prop :=
stepK (aBox t0 s) fun t3 s =>
stepK (aBox t2 s) fun t5 s =>
aC zMacDec_0 s fun t6 s =>
lT 19 t3 s fun t10 s =>
Ev Tryz.prog 24 [t10] s (fun t11 s =>
stepK (pureR s (aNot t11)) fun t12 s =>
condK t12 (
stepK (pureR s (aBuild zMacDec_0 [])) fun t13 s =>
sT 8 t6 t13 s fun s =>
stepV (aLoad true 8 t6 s) fun r0 =>
k (.tup [r0,(.val (.int .i64 1))]) s
) (
lT 2 t5 s fun t14 s =>
Ev Tryz.prog 25 [t14] s (fun t15 s =>
stepK (pureR s (aMin t1 (.val (.int .i64 1099511627776)))) fun t17 s =>
stepK (pureR s (aMax (.val (.int .i64 0)) t17)) fun t18 s =>
stepK (pureR s (aBuild zMacDec_1 [(0,1,t15),(1,1,t18)])) fun t19 s =>
stepK (aBox t19 s) fun t20 s =>
Ev Tryz.prog 26 [t20,t3] s (fun t22 s =>
aC zMacDec_2 s fun t9 s =>
sT 4 t9 t22 s fun s =>
lT 4 t9 s fun t23 s =>
stepK (pureR s (aNilCheck t20)) fun t25 s =>
fA 2 t25 s fun t26 s =>
lF t26 s fun t27 s =>
stepK (pureR s (aNilCheck t20)) fun t29 s =>
fA 0 t29 s fun t30 s =>
lF t30 s fun t31 s =>
stepK (pureR s (aNilCheck t20)) fun t34 s =>
fA 0 t34 s fun t35 s =>
lF t35 s fun t36 s =>
stepK (pureR s (aNilCheck t20)) fun t39 s =>
fA 0 t39 s fun t40 s =>
lF t40 s fun t41 s =>
Ev Tryz.prog 27 [t31] s (fun t32 s =>
rg s (aLoad true 4 t9 s) t23 (
rg s (aLoad false 1 t26 s) t27 (
rg s (aLoad false 1 t35 s) t36 (
rg s (aLoad false 1 t40 s) t41 (
Ev Tryz.prog 28 [t36] s (fun t37 s =>
rg s (aLoad true 4 t9 s) t23 (
rg s (aLoad false 1 t26 s) t27 (
rg s (aLoad false 1 t40 s) t41 (
Ev Tryz.prog 29 [t41] s (fun t42 s =>
rg s (aLoad true 4 t9 s) t23 (
rg s (aLoad false 1 t26 s) t27 (
stepK (pureR s (aBuild zMacDec_0 [(0,4,t23),(4,1,t27),(5,1,t32),(6,1,t37),(7,1,t42)])) fun t43 s =>
sT 8 t6 t43 s fun s =>
stepV (aLoad true 8 t6 s) fun r0 =>
k (.tup [r0,(.val (.int .i64 0))]) s
))) kp)))) kp))))) kp) kp) kp)) kp
theorem F12_ev {t0 t1 t2:AV} (h:F12 t0 t1 t2 s k kp):Ev Tryz.prog 12 [t0,t1,t2] s k kp:=evA mixed Tryz.func12 [(0,[1,3,5,6]),(1,[1,3,5,6,12]),(2,[6,7]),(3,[3,6,8]),(4,[6,8,9]),(5,[6,7]),(2005,[0,1,2,3,4,5,6,7,8,10,11,12,13,15,16,17,18,9,14,19,20,21,22]),(105009,[0,4,13,18]),(105014,[0,4,18]),(105019,[0,4])] (by kernel_rfl) (by kernel_rfl) h
def F25 (t0:AV) (s:AHeap) (k kp:KP):Prop :=
stepK (aBox t0 s) fun t1 s =>
fA 0 t1 s fun t3 s =>
lF t3 s fun t4 s =>
stepK (pureR s (aMin t4 (.val (.int .i64 1048576)))) fun t5 s =>
stepK (pureR s (aMax (.val (.int .i64 1)) t5)) fun t6 s =>
fA 0 t1 s fun t7 s =>
sT 1 t7 t6 s fun s =>
fA 1 t1 s fun t8 s =>
lF t8 s fun t9 s =>
stepK (pureR s (aMin t9 (.val (.int .i64 4194304)))) fun t10 s =>
stepK (pureR s (aMax (.val (.int .i64 0)) t10)) fun t11 s =>
fA 1 t1 s fun t12 s =>
sT 1 t12 t11 s fun s =>
lT 2 t1 s fun t13 s =>
stepK (aMakeMap s) fun t14 s =>
stepK (unitR (aMapUpdate (.int .i64) t14 (.val (.int .i64 0)) (.val (.slice Option.none 0 0)) s)) fun _ s =>
stepK (aBuildSlice 1 1 [.val (.int .i64 0)] [(0,(.val (.int .i64 0)))] s) fun t16 s =>
stepK (pureR s (aBuild zMacDec_3 [(0,2,t13),(2,1,t14),(3,1,t16),(4,1,(.val (.int .i64 1)))])) fun t17 s =>
stepK (aBox t17 s) fun t18 s =>
k t18 s
theorem F25_ev {t0:AV} (h:F25 t0 s k kp):Ev Tryz.prog 25 [t0] s k kp:=evA mixed Tryz.func25 [(0,[1]),(1,[1]),(2,[1]),(3,[2])] (by kernel_rfl) (by kernel_rfl) h
def F27 (t0:AV) (s:AHeap) (k kp:KP):Prop :=
stepK (pureR s (aBin .eql .ptr t0 (.val (.pointer Option.none)))) fun t4 s =>
condK t4 (
k (.val (.int .i64 0)) s
) (
stepK (pureR s (aNilCheck t0)) fun t6 s =>
fA 3 t6 s fun t7 s =>
lF t7 s fun t8 s =>
stepK (pureR s (aLenK .slice t8 s)) fun t9 s =>
k t9 s
)
theorem F27_ev {t0:AV} (h:F27 t0 s k kp):Ev Tryz.prog 27 [t0] s k kp:=evA mixed Tryz.func27 [(0,[0]),(1,[0,4]),(2,[2]),(3,[2])] (by kernel_rfl) (by kernel_rfl) h
def F28 (t0:AV) (s:AHeap) (k kp:KP):Prop :=
stepK (pureR s (aBin .eql .ptr t0 (.val (.pointer Option.none)))) fun t4 s =>
condK t4 (
k (.val (.int .i64 0)) s
) (
stepK (pureR s (aNilCheck t0)) fun t6 s =>
fA 5 t6 s fun t7 s =>
lF t7 s fun t8 s =>
k t8 s
)
theorem F28_ev {t0:AV} (h:F28 t0 s k kp):Ev Tryz.prog 28 [t0] s k kp:=evA mixed Tryz.func28 [(0,[0]),(1,[0,4]),(2,[2]),(3,[2])] (by kernel_rfl) (by kernel_rfl) h
def F29 (t0:AV) (s:AHeap) (k kp:KP):Prop :=
stepK (pureR s (aBin .eql .ptr t0 (.val (.pointer Option.none)))) fun t4 s =>
condK t4 (
k (.val (.int .i64 0)) s
) (
stepK (pureR s (aNilCheck t0)) fun t6 s =>
fA 6 t6 s fun t7 s =>
lF t7 s fun t8 s =>
k t8 s
)
theorem F29_ev {t0:AV} (h:F29 t0 s k kp):Ev Tryz.prog 29 [t0] s k kp:=evA mixed Tryz.func29 [(0,[0]),(1,[0,4]),(2,[2]),(3,[2])] (by kernel_rfl) (by kernel_rfl) h
def F43 (t0 t1 t2:AV) (s:AHeap) (k kp:KP):Prop :=
stepK (aBox t2 s) fun t5 s =>
aC zMacDec_4 s fun t6 s =>
stepK (pureR s (aNilCheck t1)) fun t12 s =>
fA 0 t12 s fun t13 s =>
fA 0 t13 s fun t14 s =>
lF t14 s fun t15 s =>
bP .eql t15 (.val (.int .u8 17)) s fun t16 s =>
condK t16 (
stepK (pureR s (aNilCheck t0)) fun t19 s =>
fA 0 t19 s fun t20 s =>
lF t20 s fun t21 s =>
Ev Tryz.prog 78 [t21] s (fun t22 s =>
eX 0 t22 s fun t23 s =>
eX 1 t22 s fun t24 s =>
Ev Tryz.prog 79 [t24,(.val (.int .u8 4))] s (fun t26 s =>
stepK (pureR s (aNilCheck t0)) fun t29 s =>
fA 4 t29 s fun t30 s =>
lF t30 s fun t31 s =>
lT 2 t5 s fun t33 s =>
stepK (pureR s (aBuild zMacDec_5 [(0,1,t1),(1,2,t33),(3,1,(.val (.slice Option.none 0 0)))])) fun t34 s =>
stepK (pureR s (aBuildSl 1 4 zMacDec_5 [(0,t34)])) fun t35 s =>
stepK (aAppend 4 48 t31 t35 s) fun t36 s =>
stepK (pureR s (aNilCheck t0)) fun t37 s =>
fA 4 t37 s fun t38 s =>
sT 1 t38 t36 s fun s =>
stepK (pureR s (aNilCheck t1)) fun t40 s =>
fA 18 t40 s fun t41 s =>
lF t41 s fun t42 s =>
iA 19 t42 (.val (.int .i64 0)) s fun t43 s =>
lT 2 t5 s fun t44 s =>
stepK (pureR s (aNilCheck t1)) fun t46 s =>
fA 7 t46 s fun t47 s =>
lF t47 s fun t48 s =>
Ev Tryz.prog 80 [t44,t48,t23] s (fun t50 s =>
rg s (aLoad false 1 t41 s) t42 (
rg s (aIndexAddr 19 t42 (.val (.int .i64 0)) s) t43 (
stepK (pureR s (aBuild zMacDec_4 [(0,1,t43),(1,2,t50)])) fun t51 s =>
sT 9 t6 t51 s fun s =>
stepV (aLoad true 9 t6 s) fun r0 =>
k r0 s
))) kp) kp) kp) (
Ev Tryz.prog 81 [t0] s (fun t53 s =>
stepK (pureR s (aNilCheck t1)) fun t55 s =>
fA 0 t55 s fun t56 s =>
fA 0 t56 s fun t57 s =>
lF t57 s fun t58 s =>
bP .eql t58 (.val (.int .u8 1)) s fun t60 s =>
condK t60 (
stepK (pureR s (aNilCheck t1)) fun t62 s =>
fA 0 t62 s fun t63 s =>
fA 3 t63 s fun t64 s =>
lF t64 s fun t65 s =>
Ev Tryz.prog 83 [t65] s (fun t66 s =>
Ev Tryz.prog 82 [t66] s (fun t67 s =>
sT 9 t6 t67 s fun s =>
stepV (aLoad true 9 t6 s) fun r0 =>
k r0 s
) kp) kp) (
bP .eql t58 (.val (.int .u8 2)) s fun t69 s =>
condK t69 (
lT 2 t5 s fun t70 s =>
stepK (pureR s (aNilCheck t1)) fun t72 s =>
fA 0 t72 s fun t73 s =>
fA 4 t73 s fun t74 s =>
lF t74 s fun t75 s =>
Ev Tryz.prog 84 [t70,t75] s (fun t76 s =>
stepK (pureR s (aBin .neq .ptr t76 (.val (.pointer Option.none)))) fun t78 s =>
gK t78 true (fun K=>K t76 s) (fun t80 s =>
gR t78 true (aNilCheck t80) (fun t81 s =>
gR t78 true (aFieldAddr 5 t81) (fun t82 s =>
gR t78 true (aLoad false 1 t82 s) (fun t83 s =>
gR t78 true (aNot t83) (fun t84 s =>
pK t78 t84 (.val (.bool false)) s fun t85 s =>
Ev Tryz.prog 79 [t85,(.val (.int .u8 6))] s (fun t86 s =>
stepK (pureR s (aNilCheck t76)) fun t88 s =>
fA 1 t88 s fun t89 s =>
lT 4 t89 s fun t90 s =>
Ev Tryz.prog 82 [t90] s (fun t91 s =>
sT 9 t6 t91 s fun s =>
stepV (aLoad true 9 t6 s) fun r0 =>
k r0 s
) kp) kp) s) s) s) s) s) kp) (
bP .eql t58 (.val (.int .u8 18)) s fun t93 s =>
condK t93 (
lT 2 t5 s fun t96 s =>
Ev Tryz.prog 85 [t0,t1,t96] s (fun t97 s =>
Ev Tryz.prog 82 [t97] s (fun t98 s =>
sT 9 t6 t98 s fun s =>
stepV (aLoad true 9 t6 s) fun r0 =>
k r0 s
) kp) kp) (
bP .eql t58 (.val (.int .u8 11)) s fun t100 s =>
condK t100 (
lT 2 t5 s fun t102 s =>
stepK (pureR s (aNilCheck t1)) fun t104 s =>
fA 7 t104 s fun t105 s =>
lF t105 s fun t106 s =>
stepK (pureR s (aNilCheck t1)) fun t109 s =>
fA 18 t109 s fun t110 s =>
lF t110 s fun t111 s =>
iA 19 t111 (.val (.int .i64 0)) s fun t112 s =>
stepK (pureR s (aNilCheck t1)) fun t114 s =>
fA 0 t114 s fun t115 s =>
fA 5 t115 s fun t116 s =>
lF t116 s fun t117 s =>
lT 2 t5 s fun t118 s =>
stepK (pureR s (aBuild zMacDec_6 [(0,1,t112),(1,1,t117),(2,2,t118),(4,1,(.val (.slice Option.none 0 0)))])) fun t119 s =>
Ev Tryz.prog 87 [t0,t119] s (fun t120 s =>
rg s (aLoad true 2 t5 s) t102 (
rg s (aLoad false 1 t105 s) t106 (
Ev Tryz.prog 86 [t0,t102,t106,t120] s (fun t121 s =>
Ev Tryz.prog 82 [t121] s (fun t122 s =>
sT 9 t6 t122 s fun s =>
stepV (aLoad true 9 t6 s) fun r0 =>
k r0 s
) kp) kp))) kp) (
bP .eql t58 (.val (.int .u8 13)) s fun t124 s =>
condK t124 (
seqW (fun fr s=>(
lT 2 (lq fr 5) s fun t150 s =>
stepK (pureR s (aNilCheck (lq fr 1))) fun t152 s =>
fA 0 t152 s fun t153 s =>
fA 4 t153 s fun t154 s =>
lF t154 s fun t155 s =>
lT 4 (lq fr 10) s fun t156 s =>
Ev Tryz.prog 88 [t150,t155,t156,(.val (.bool true))] s (fun t157 s =>
sT 2 (lq fr 5) t157 s fun s =>
stepK (pureR s (aNilCheck (lq fr 0))) fun t159 s =>
fA 3 t159 s fun t160 s =>
lF t160 s fun t161 s =>
stepK (pureR s (aNilCheck (lq fr 0))) fun t163 s =>
fA 3 t163 s fun t164 s =>
lF t164 s fun t165 s =>
stepK (pureR s (aLenK .slice t165 s)) fun t166 s =>
bP .sub t166 (.val (.int .i64 1)) s fun t167 s =>
lT 2 (lq fr 5) s fun t168 s =>
iA 5 t161 t167 s fun t169 s =>
fA 2 t169 s fun t170 s =>
sT 2 t170 t168 s fun s =>
stepK (pureR s (aNilCheck (lq fr 1))) fun t172 s =>
fA 18 t172 s fun t173 s =>
lF t173 s fun t174 s =>
iA 19 t174 (.val (.int .i64 1)) s fun t175 s =>
lT 2 (lq fr 5) s fun t176 s =>
stepK (pureR s (aBuild zMacDec_4 [(0,1,t175),(1,2,t176)])) fun t177 s =>
sT 9 (lq fr 6) t177 s fun s =>
stepV (aLoad true 9 (lq fr 6) s) fun r0 =>
k r0 s
) kp)) (fun j1=>(
(
lT 2 t5 s fun t126 s =>
stepK (pureR s (aNilCheck t1)) fun t128 s =>
fA 7 t128 s fun t129 s =>
lF t129 s fun t130 s =>
stepK (pureR s (aNilCheck t1)) fun t133 s =>
fA 18 t133 s fun t134 s =>
lF t134 s fun t135 s =>
iA 19 t135 (.val (.int .i64 0)) s fun t136 s =>
stepK (pureR s (aNilCheck t1)) fun t138 s =>
fA 0 t138 s fun t139 s =>
fA 5 t139 s fun t140 s =>
lF t140 s fun t141 s =>
lT 2 t5 s fun t142 s =>
stepK (pureR s (aNilCheck t1)) fun t144 s =>
fA 8 t144 s fun t145 s =>
lF t145 s fun t146 s =>
stepK (pureR s (aBuild zMacDec_6 [(0,1,t136),(1,1,t141),(2,2,t142),(4,1,t146)])) fun t147 s =>
Ev Tryz.prog 87 [t0,t147] s (fun t148 s =>
rg s (aLoad true 2 t5 s) t126 (
rg s (aLoad false 1 t129 s) t130 (
Ev Tryz.prog 86 [t0,t126,t130,t148] s (fun t149 s =>
aC zMacDec_7 s fun t10 s =>
rg s (aLoad true 2 t5 s) t126 (
rg s (aLoad false 1 t129 s) t130 (
rg s (aLoad false 1 t134 s) t135 (
rg s (aIndexAddr 19 t135 (.val (.int .i64 0)) s) t136 (
rg s (aLoad false 1 t140 s) t141 (
rg s (aLoad true 2 t5 s) t142 (
rg s (aLoad false 1 t145 s) t146 (
sT 4 t10 t149 s fun s =>
j1 [(0,t0),(1,t1),(5,t5),(6,t6),(10,t10)] s
)))))))) kp))) kp)∧(
(
lT 2 t5 s fun t126 s =>
stepK (pureR s (aNilCheck t1)) fun t128 s =>
fA 7 t128 s fun t129 s =>
lF t129 s fun t130 s =>
stepK (pureR s (aNilCheck t1)) fun t133 s =>
fA 18 t133 s fun t134 s =>
lF t134 s fun t135 s =>
iA 19 t135 (.val (.int .i64 0)) s fun t136 s =>
stepK (pureR s (aNilCheck t1)) fun t138 s =>
fA 0 t138 s fun t139 s =>
fA 5 t139 s fun t140 s =>
lF t140 s fun t141 s =>
lT 2 t5 s fun t142 s =>
stepK (pureR s (aNilCheck t1)) fun t144 s =>
fA 8 t144 s fun t145 s =>
lF t145 s fun t146 s =>
stepK (pureR s (aBuild zMacDec_6 [(0,1,t136),(1,1,t141),(2,2,t142),(4,1,t146)])) fun t147 s =>
Ev Tryz.prog 87 [t0,t147] s (fun t148 s =>
rg s (aLoad true 2 t5 s) t126 (
rg s (aLoad false 1 t129 s) t130 (
aC zMacDec_7 s fun t10 s =>
rg s (aLoad true 2 t5 s) t126 (
rg s (aLoad false 1 t129 s) t130 (
rg s (aLoad false 1 t134 s) t135 (
rg s (aIndexAddr 19 t135 (.val (.int .i64 0)) s) t136 (
rg s (aLoad false 1 t140 s) t141 (
rg s (aLoad true 2 t5 s) t142 (
rg s (aLoad false 1 t145 s) t146 (
Ev Tryz.prog 86 [t0,t126,t130,t148] s (fun t149 s =>
sT 4 t10 t149 s fun s =>
j1 [(0,t0),(1,t1),(5,t5),(6,t6),(10,t10)] s
) kp)))))))))) kp)∧(
lT 2 t5 s fun t126 s =>
stepK (pureR s (aNilCheck t1)) fun t128 s =>
fA 7 t128 s fun t129 s =>
lF t129 s fun t130 s =>
stepK (pureR s (aNilCheck t1)) fun t133 s =>
fA 18 t133 s fun t134 s =>
lF t134 s fun t135 s =>
iA 19 t135 (.val (.int .i64 0)) s fun t136 s =>
stepK (pureR s (aNilCheck t1)) fun t138 s =>
fA 0 t138 s fun t139 s =>
fA 5 t139 s fun t140 s =>
lF t140 s fun t141 s =>
lT 2 t5 s fun t142 s =>
stepK (pureR s (aNilCheck t1)) fun t144 s =>
fA 8 t144 s fun t145 s =>
lF t145 s fun t146 s =>
stepK (pureR s (aBuild zMacDec_6 [(0,1,t136),(1,1,t141),(2,2,t142),(4,1,t146)])) fun t147 s =>
aC zMacDec_7 s fun t10 s =>
rg s (aLoad true 2 t5 s) t126 (
rg s (aLoad false 1 t129 s) t130 (
rg s (aLoad false 1 t134 s) t135 (
rg s (aIndexAddr 19 t135 (.val (.int .i64 0)) s) t136 (
rg s (aLoad false 1 t140 s) t141 (
rg s (aLoad true 2 t5 s) t142 (
rg s (aLoad false 1 t145 s) t146 (
Ev Tryz.prog 87 [t0,t147] s (fun t148 s =>
rg s (aLoad true 2 t5 s) t126 (
rg s (aLoad false 1 t129 s) t130 (
Ev Tryz.prog 86 [t0,t126,t130,t148] s (fun t149 s =>
sT 4 t10 t149 s fun s =>
j1 [(0,t0),(1,t1),(5,t5),(6,t6),(10,t10)] s
) kp))) kp)))))))))))
) (
lT 2 t5 s fun t180 s =>
Ev Tryz.prog 89 [t0,t1,t180] s (fun t181 s =>
sT 9 t6 t181 s fun s =>
stepV (aLoad true 9 t6 s) fun r0 =>
k r0 s
) kp)
)
)
)
)
) kp)
theorem F43_ev {t0 t1 t2:AV} (h:F43 t0 t1 t2 s k kp):Ev Tryz.prog 43 [t0,t1,t2] s k kp:=evA mixed Tryz.func43 [(0,[0,1,5,6]),(1,[0,1,5,6,16]),(2,[0,1,5,6,7,8]),(3,[0,1,5,6,7]),(4,[1,5,6,7]),(2004,[0,1,2,3,4,5,6,7,8,9,10,11,12]),(5,[6]),(2005,[0,1,2,3,4,5,6,7,8,9,10,11,12,13]),(105011,[3,4]),(6,[0,1,5,6]),(7,[0,1,5,6,58]),(8,[0,1,5,6,58,59]),(9,[6]),(10,[0,1,5,6,58,68]),(11,[6,9]),(2011,[0,1,2,3,4,5,6,7]),(12,[6,9]),(13,[6]),(14,[0,1,5,6,58,92]),(15,[6]),(16,[0,1,5,6,58,99]),(17,[6]),(2017,[0,1,2,3,4,5,6,7,8,9,10,11,12,13,14,15,16,17,18,19,20,21,22]),(117019,[1,5]),(18,[0,1,5,6,123]),(3021,[0,1,5,6,10]),(19,[0,1,5,6,10]),(2019,[0,1,2,3,4,5,6,7,8,9,10,11,12,13,14,15,16,17,18,19,20,21,22,23,24,25,26]),(119023,[1,5]),(119025,[1,5,10,11,16,17,21]),(60019,[1,2]),(19000019,[0,1,2,3,4,5,6,7,8,9,10,11,12,13,14,15,16,17,18,19,20,21,22,23,25,24,26]),(10019023,[1,5]),(10019025,[1,5,10,11,16,17,21]),(29000019,[0,1,2,3,4,5,6,7,8,9,10,11,12,13,14,15,16,17,18,19,20,21,22,25,23,24,26]),(20019023,[1,5]),(20019025,[1,5,10,11,16,17,21]),(20,[0,1,5,6]),(2020,[0,1,2,3,4,5,6,7,8]),(21,[1,5,6]),(2021,[0,1,2,3,4,5,6,7,8,9,10,11,12,13]),(22,[6]),(2022,[0,1,2,3,4,5,6,7]),(23,[6])] (by kernel_rfl) (by kernel_rfl) h
def F44 (t0 t1:AV) (s:AHeap) (k kp:KP):Prop :=
stepK (aBox t1 s) fun t3 s =>
aC zMacDec_4 s fun t4 s =>
seqW (fun fr s=>(
lT 9 (lq fr 3) s fun t63 s =>
sT 9 (lq fr 4) t63 s fun s =>
stepV (aLoad true 9 (lq fr 4) s) fun r0 =>
k (.tup [r0,(.val (.bool false))]) s
)) (fun j1=>(
loopW (fun fr s again=>(
stepK (pureR s (aNilCheck (lq fr 0))) fun t8 s =>
fA 4 t8 s fun t9 s =>
lF t9 s fun t10 s =>
stepK (pureR s (aLenK .slice t10 s)) fun t11 s =>
bP .gtr t11 (.val (.int .i64 0)) s fun t12 s =>
condK t12 (
Ev Tryz.prog 90 [(lq fr 0)] s (fun t14 s =>
aC zMacDec_5 s fun t6 s =>
sT 4 t6 t14 s fun s =>
seqW (fun fr s=>(
fA 0 (lq fr 6) s fun t27 s =>
lF t27 s fun t28 s =>
stepK (pureR s (aNilCheck t28)) fun t29 s =>
fA 0 t29 s fun t30 s =>
fA 0 t30 s fun t31 s =>
lF t31 s fun t32 s =>
bP .eql t32 (.val (.int .u8 16)) s fun t33 s =>
gR t33 true (aFieldAddr 0 (lq fr 6)) (fun t35 s =>
gR t33 true (aLoad false 1 t35 s) (fun t36 s =>
gR t33 true (aNilCheck t36) (fun t37 s =>
gR t33 true (aFieldAddr 0 t37) (fun t38 s =>
gR t33 true (aFieldAddr 6 t38) (fun t39 s =>
gR t33 true (aLoad false 1 t39 s) (fun t40 s =>
gR t33 true (aFieldAddr 8 (lq fr 3)) (fun t41 s =>
gR t33 true (aLoad false 1 t41 s) (fun t42 s =>
gR t33 true (aBin .eql .prim t40 t42) (fun t43 s =>
pK t33 t43 (.val (.bool false)) s fun t44 s =>
condK t44 (
fA 0 (lq fr 6) s fun t45 s =>
lF t45 s fun t46 s =>
stepK (pureR s (aNilCheck t46)) fun t47 s =>
fA 18 t47 s fun t48 s =>
lF t48 s fun t49 s =>
iA 19 t49 (.val (.int .i64 1)) s fun t50 s =>
fA 1 (lq fr 6) s fun t51 s =>
lT 2 t51 s fun t52 s =>
fA 0 (lq fr 6) s fun t53 s =>
lF t53 s fun t54 s =>
stepK (pureR s (aNilCheck t54)) fun t55 s =>
fA 0 t55 s fun t56 s =>
fA 5 t56 s fun t57 s =>
lF t57 s fun t58 s =>
fA 3 (lq fr 3) s fun t59 s =>
lT 4 t59 s fun t60 s =>
Ev Tryz.prog 88 [t52,t58,t60,(.val (.bool false))] s (fun t61 s =>
rg s (aLoad false 1 t45 s) t46 (
rg s (aLoad false 1 t48 s) t49 (
rg s (aIndexAddr 19 t49 (.val (.int .i64 1)) s) t50 (
stepK (pureR s (aBuild zMacDec_4 [(0,1,t50),(1,2,t61)])) fun t62 s =>
sT 9 (lq fr 4) t62 s fun s =>
stepV (aLoad true 9 (lq fr 4) s) fun r0 =>
k (.tup [r0,(.val (.bool true))]) s
)))) kp) (
again [(0,(lq fr 0)),(3,(lq fr 3)),(4,(lq fr 4))] s
)
) s) s) s) s) s) s) s) s) s)) (fun j2=>(
fA 0 t6 s fun t15 s =>
lF t15 s fun t16 s =>
stepK (pureR s (aNilCheck t16)) fun t17 s =>
fA 0 t17 s fun t18 s =>
fA 0 t18 s fun t19 s =>
lF t19 s fun t20 s =>
bP .eql t20 (.val (.int .u8 17)) s fun t21 s =>
condK t21 (
stepK (pureR s (aNilCheck (lq fr 0))) fun t23 s =>
fA 0 t23 s fun t24 s =>
lF t24 s fun t25 s =>
Ev Tryz.prog 91 [t25] s (fun t26 s =>
j2 [(0,(lq fr 0)),(3,(lq fr 3)),(4,(lq fr 4)),(6,t6)] s
) kp) (
j2 [(0,(lq fr 0)),(3,(lq fr 3)),(4,(lq fr 4)),(6,t6)] s
)
))
) kp) (
j1 [(3,(lq fr 3)),(4,(lq fr 4))] s
)
)) [(0,t0),(3,t3),(4,t4)] s
))
theorem F44_ev {t0 t1:AV} (h:F44 t0 t1 s k kp):Ev Tryz.prog 44 [t0,t1] s k kp:=evA mixed Tryz.func44 [(0,[0,3,4]),(3008,[3,4]),(1,[0,3,4,12]),(2,[0,3,4,6]),(3006,[0,3,4,6]),(3,[0,3,4,6,21]),(4,[0,3,4,6]),(5,[0,3,4,6,44]),(2005,[0,1,2,3,4,5,6,7,8,9,10,11,12,13,14,15,16,17]),(6,[4,5]),(2006,[0,1,2,3,4,5,6,7,8,9,10,11,12,13,14,15,16,17,18,19]),(106016,[1,4,5]),(1001,[0,3,4]),(7,[4,5])] (by kernel_rfl) (by kernel_rfl) h
def F45 (t0 t1:AV) (s:AHeap) (k kp:KP):Prop :=
aC zMacDec_2 s fun t4 s =>
stepK (pureR s (aBuild zMacDec_2 [(0,1,(.val (.int .u8 2))),(2,1,t1),(3,1,t0)])) fun t7 s =>
sT 4 t4 t7 s fun s =>
stepV (aLoad true 4 t4 s) fun r0 =>
k r0 s
theorem F45_ev {t0 t1:AV} (h:F45 t0 t1 s k kp):Ev Tryz.prog 45 [t0,t1] s k kp:=evA mixed Tryz.func45 [(0,[0,1,4]),(1,[4])] (by kernel_rfl) (by kernel_rfl) h
def F46 (t0:AV) (s:AHeap) (k kp:KP):Prop :=
aC zMacDec_2 s fun t2 s =>
stepK (pureR s (aBuild zMacDec_2 [(0,1,(.val (.int .u8 1))),(1,1,(.val (.bool true))),(2,1,t0)])) fun t4 s =>
sT 4 t2 t4 s fun s =>
stepV (aLoad true 4 t2 s) fun r0 =>
k r0 s
theorem F46_ev {t0:AV} (h:F46 t0 s k kp):Ev Tryz.prog 46 [t0] s k kp:=evA mixed Tryz.func46 [(0,[0,2]),(1,[2])] (by kernel_rfl) (by kernel_rfl) h
def F47 (s:AHeap) (k kp:KP):Prop :=
aC zMacDec_2 s fun t0 s =>
stepK (pureR s (aBuild zMacDec_2 [(0,1,(.val (.int .u8 1)))])) fun t1 s =>
sT 4 t0 t1 s fun s =>
stepV (aLoad true 4 t0 s) fun r0 =>
k r0 s
theorem F47_ev (h:F47 s k kp):Ev Tryz.prog 47 [] s k kp:=evA mixed Tryz.func47 [(0,[0]),(1,[0])] (by kernel_rfl) (by kernel_rfl) h
def F48 (t0 t1:AV) (s:AHeap) (k kp:KP):Prop :=
stepK (aBox t1 s) fun t3 s =>
aC zMacDec_4 s fun t4 s =>
Ev Tryz.prog 92 [t0] s (fun t11 s =>
stepK (pureR s (aNilCheck t11)) fun t14 s =>
fA 3 t14 s fun t15 s =>
lF t15 s fun t16 s =>
lT 4 t3 s fun t17 s =>
stepK (pureR s (aBuildSl 1 4 zMacDec_7 [(0,t17)])) fun t18 s =>
stepK (aAppend 4 32 t16 t18 s) fun t19 s =>
stepK (pureR s (aNilCheck t11)) fun t20 s =>
fA 3 t20 s fun t21 s =>
sT 1 t21 t19 s fun s =>
stepK (pureR s (aNilCheck t11)) fun t23 s =>
fA 0 t23 s fun t24 s =>
lF t24 s fun t25 s =>
stepK (pureR s (aNilCheck t11)) fun t27 s =>
fA 3 t27 s fun t28 s =>
lF t28 s fun t29 s =>
stepK (pureR s (aLenK .slice t29 s)) fun t30 s =>
stepK (pureR s (aNilCheck t25)) fun t32 s =>
fA 0 t32 s fun t33 s =>
fA 0 t33 s fun t34 s =>
lF t34 s fun t35 s =>
bP .eql t35 (.val (.int .u8 17)) s fun t37 s =>
condK t37 (
Ev Tryz.prog 90 [t0] s (fun t39 s =>
stepK (pureR s (aNilCheck t0)) fun t41 s =>
fA 0 t41 s fun t42 s =>
lF t42 s fun t43 s =>
Ev Tryz.prog 91 [t43] s (fun t44 s =>
lT 4 t3 s fun t45 s =>
Ev Tryz.prog 82 [t45] s (fun t46 s =>
sT 9 t4 t46 s fun s =>
stepV (aLoad true 9 t4 s) fun r0 =>
k r0 s
) kp) kp) kp) (
bP .eql t35 (.val (.int .u8 16)) s fun t48 s =>
condK t48 (
Ev Tryz.prog 90 [t0] s (fun t50 s =>
lT 4 t3 s fun t51 s =>
Ev Tryz.prog 82 [t51] s (fun t52 s =>
sT 9 t4 t52 s fun s =>
stepV (aLoad true 9 t4 s) fun r0 =>
k r0 s
) kp) kp) (
bP .eql t35 (.val (.int .u8 12)) s fun t54 s =>
condK t54 (
Ev Tryz.prog 90 [t0] s (fun t56 s =>
stepK (pureR s (aField 1 true 2 t56)) fun t57 s =>
aC zMacDec_8 s fun t8 s =>
sT 2 t8 t57 s fun s =>
stepK (pureR s (aNilCheck t25)) fun t59 s =>
fA 18 t59 s fun t60 s =>
lF t60 s fun t61 s =>
iA 19 t61 (.val (.int .i64 1)) s fun t62 s =>
lT 2 t8 s fun t63 s =>
stepK (pureR s (aNilCheck t25)) fun t65 s =>
fA 0 t65 s fun t66 s =>
fA 4 t66 s fun t67 s =>
lF t67 s fun t68 s =>
lT 4 t3 s fun t69 s =>
Ev Tryz.prog 88 [t63,t68,t69,(.val (.bool false))] s (fun t70 s =>
rg s (aLoad false 1 t60 s) t61 (
rg s (aIndexAddr 19 t61 (.val (.int .i64 1)) s) t62 (
stepK (pureR s (aBuild zMacDec_4 [(0,1,t62),(1,2,t70)])) fun t71 s =>
sT 9 t4 t71 s fun s =>
stepV (aLoad true 9 t4 s) fun r0 =>
k r0 s
))) kp) kp) (
bP .eql t35 (.val (.int .u8 14)) s fun t73 s =>
condK t73 (
Ev Tryz.prog 90 [t0] s (fun t75 s =>
stepK (pureR s (aField 1 true 2 t75)) fun t76 s =>
aC zMacDec_8 s fun t9 s =>
sT 2 t9 t76 s fun s =>
lT 4 t3 s fun t77 s =>
Ev Tryz.prog 93 [t77] s (fun t78 s =>
bP .neq t78 (.val (.int .i64 0)) s fun t79 s =>
condK t79 (
stepK (pureR s (aNilCheck t25)) fun t81 s =>
fA 18 t81 s fun t82 s =>
lF t82 s fun t83 s =>
iA 19 t83 (.val (.int .i64 1)) s fun t84 s =>
lT 2 t9 s fun t85 s =>
stepK (pureR s (aBuild zMacDec_4 [(0,1,t84),(1,2,t85)])) fun t86 s =>
sT 9 t4 t86 s fun s =>
stepV (aLoad true 9 t4 s) fun r0 =>
k r0 s
) (
stepK (pureR s (aNilCheck t25)) fun t88 s =>
fA 18 t88 s fun t89 s =>
lF t89 s fun t90 s =>
iA 19 t90 (.val (.int .i64 2)) s fun t91 s =>
lT 2 t9 s fun t92 s =>
stepK (pureR s (aBuild zMacDec_4 [(0,1,t91),(1,2,t92)])) fun t93 s =>
sT 9 t4 t93 s fun s =>
stepV (aLoad true 9 t4 s) fun r0 =>
k r0 s
)
) kp) kp) (
stepK (pureR s (aNilCheck t25)) fun t96 s =>
fA 18 t96 s fun t97 s =>
lF t97 s fun t98 s =>
stepK (pureR s (aLenK .slice t98 s)) fun t99 s =>
bP .lss t30 t99 s fun t100 s =>
condK t100 (
stepK (pureR s (aNilCheck t25)) fun t102 s =>
fA 18 t102 s fun t103 s =>
lF t103 s fun t104 s =>
iA 19 t104 t30 s fun t106 s =>
stepK (pureR s (aNilCheck t11)) fun t108 s =>
fA 1 t108 s fun t109 s =>
lT 2 t109 s fun t110 s =>
stepK (pureR s (aBuild zMacDec_4 [(0,1,t106),(1,2,t110)])) fun t111 s =>
sT 9 t4 t111 s fun s =>
stepV (aLoad true 9 t4 s) fun r0 =>
k r0 s
) (
Ev Tryz.prog 90 [t0] s (fun t114 s =>
Ev Tryz.prog 94 [t0,t114] s (fun t115 s =>
sT 9 t4 t115 s fun s =>
stepV (aLoad true 9 t4 s) fun r0 =>
k r0 s
) kp) kp)
)
)
)
)) kp
theorem F48_ev {t0 t1:AV} (h:F48 t0 t1 s k kp):Ev Tryz.prog 48 [t0,t1] s k kp:=evA mixed Tryz.func48 [(0,[0,3,4]),(1,[0,3,4,5]),(2,[0,3,4,5]),(2002,[0,1,2,3,4,5,6,7,8,9,10]),(3,[0,3,4,5,6,7]),(2003,[0,1,2,3,4,5,6,7,8,9,10]),(4,[0,3,4,5,6,7,35]),(5,[0,3,4,5,6,7,35,36]),(6,[0,3,4]),(7,[3,4]),(8,[4]),(9,[0,3,4,5,6,7,35,47]),(10,[3,4]),(11,[4]),(12,[0,3,4,5,6,7,35,53]),(13,[3,4,6,8]),(14,[4]),(2014,[0,1,2,3,4,5,6,7,8,9,10,11,12,13,14]),(114012,[3,4]),(15,[0,3,4,5,6,7,72]),(16,[3,4,6,9]),(17,[4,6,9,79]),(18,[4]),(2018,[0,1,2,3,4,5,6,7]),(19,[4]),(2019,[0,1,2,3,4,5,6,7]),(20,[0,4,5,6,7,100]),(21,[4]),(2021,[0,1,2,3,4,5,6,7,8,9,10,11]),(22,[4])] (by kernel_rfl) (by kernel_rfl) h
def F78 (t0:AV) (s:AHeap) (k kp:KP):Prop :=
stepK (pureR s (aBin .eql .ptr t0 (.val (.pointer Option.none)))) fun t6 s =>
gK t6 false (fun K=>K t0 s) (fun t8 s =>
gR t6 false (aNilCheck t8) (fun t9 s =>
gR t6 false (aFieldAddr 3 t9) (fun t10 s =>
gR t6 false (aLoad false 1 t10 s) (fun t11 s =>
gR t6 false (aLenK .slice t11 s) (fun t12 s =>
gK t6 false (fun K=>K t0 s) (fun t13 s =>
gR t6 false (aNilCheck t13) (fun t14 s =>
gR t6 false (aFieldAddr 0 t14) (fun t15 s =>
gR t6 false (aFieldAddr 0 t15) (fun t16 s =>
gR t6 false (aLoad false 1 t16 s) (fun t17 s =>
gR t6 false (aBin .geq .prim t12 t17) (fun t18 s =>
pK t6 (.val (.bool true)) t18 s fun t19 s =>
condK t19 (
k (.tup [(.val (.int .i64 0)),(.val (.bool false))]) s
) (
stepK (pureR s (aNilCheck t0)) fun t21 s =>
fA 4 t21 s fun t22 s =>
lF t22 s fun t23 s =>
stepK (pureR s (aNilCheck t0)) fun t25 s =>
fA 4 t25 s fun t26 s =>
lF t26 s fun t27 s =>
bP .add t27 (.val (.int .i64 1)) s fun t28 s =>
stepK (pureR s (aNilCheck t0)) fun t29 s =>
fA 4 t29 s fun t30 s =>
sT 1 t30 t28 s fun s =>
stepK (pureR s (aNilCheck t0)) fun t33 s =>
fA 3 t33 s fun t34 s =>
lF t34 s fun t35 s =>
stepK (aBuildSlice 1 1 [.val (.int .i64 0)] [(0,t23)] s) fun t37 s =>
stepK (aAppend 1 8 t35 t37 s) fun t38 s =>
stepK (pureR s (aNilCheck t0)) fun t39 s =>
fA 3 t39 s fun t40 s =>
sT 1 t40 t38 s fun s =>
stepK (pureR s (aNilCheck t0)) fun t42 s =>
fA 2 t42 s fun t43 s =>
lF t43 s fun t44 s =>
stepK (unitR (aMapUpdate (.int .i64) t44 t23 (.val (.slice Option.none 0 0)) s)) fun _ s =>
k (.tup [t23,(.val (.bool true))]) s
)) s) s) s) s) s) s) s) s) s) s) s
theorem F78_ev {t0:AV} (h:F78 t0 s k kp):Ev Tryz.prog 78 [t0] s k kp:=evA mixed Tryz.func78 [(0,[0]),(1,[0,19]),(2001,[0,1,2,3,4,5,6,7,8,9,10,11,12,13,14]),(2,[2,3]),(3,[0,4]),(4,[0,4]),(5,[0,4]),(6,[4]),(7,[2,3])] (by kernel_rfl) (by kernel_rfl) h
def F79 (t0 t1:AV) (s:AHeap) (k kp:KP):Prop :=
stepK (pureR s (aNot t0)) fun t5 s =>
condK t5 (
stepK (pureR s (aBuild [.val (.int .u8 0)] [(0,1,t1)])) fun t7 s =>
stepK (some (.iface 102 t7,s)) fun t8 s =>
  panicK t8 s kp
) (
k (.tup []) s
)
theorem F79_ev {t0 t1:AV} (h:F79 t0 t1 s k kp):Ev Tryz.prog 79 [t0,t1] s k kp:=evA mixed Tryz.func79 [(0,[1,5]),(1,[])] (by kernel_rfl) (by kernel_rfl) h
def F80 (t0 t1 t2:AV) (s:AHeap) (k kp:KP):Prop :=
stepK (aBox t0 s) fun t3 s =>
aC zMacDec_8 s fun t6 s =>
fA 1 t3 s fun t9 s =>
lF t9 s fun t10 s =>
stepK (pureR s (aBuild zMacDec_9 [(0,1,t1),(1,1,t2),(2,1,t10)])) fun t11 s =>
stepK (aBox t11 s) fun t12 s =>
fA 1 t3 s fun t13 s =>
sT 1 t13 t12 s fun s =>
lT 2 t3 s fun t14 s =>
sT 2 t6 t14 s fun s =>
stepV (aLoad true 2 t6 s) fun r0 =>
k r0 s
theorem F80_ev {t0 t1 t2:AV} (h:F80 t0 t1 t2 s k kp):Ev Tryz.prog 80 [t0,t1,t2] s k kp:=evA mixed Tryz.func80 [(0,[1,2,3,6]),(1,[3,6]),(2,[6])] (by kernel_rfl) (by kernel_rfl) h
def F81 (t0:AV) (s:AHeap) (k kp:KP):Prop :=
stepK (pureR s (aNilCheck t0)) fun t3 s =>
fA 2 t3 s fun t4 s =>
lF t4 s fun t5 s =>
stepK (pureR s (aNilCheck t0)) fun t7 s =>
fA 1 t7 s fun t8 s =>
lF t8 s fun t9 s =>
bP .lss t5 t9 s fun t10 s =>
Ev Tryz.prog 79 [t10,(.val (.int .u8 3))] s (fun t11 s =>
stepK (pureR s (aNilCheck t0)) fun t13 s =>
fA 2 t13 s fun t14 s =>
lF t14 s fun t15 s =>
bP .add t15 (.val (.int .i64 1)) s fun t16 s =>
stepK (pureR s (aNilCheck t0)) fun t17 s =>
fA 2 t17 s fun t18 s =>
sT 1 t18 t16 s fun s =>
k (.tup []) s) kp
theorem F81_ev {t0:AV} (h:F81 t0 s k kp):Ev Tryz.prog 81 [t0] s k kp:=evA mixed Tryz.func81 [(0,[0]),(2000,[0,1,2,3,4,5,6,7,8,9]),(1,[])] (by kernel_rfl) (by kernel_rfl) h
def F82 (t0:AV) (s:AHeap) (k kp:KP):Prop :=
stepK (aBox t0 s) fun t1 s =>
aC zMacDec_4 s fun t2 s =>
lT 4 t1 s fun t3 s =>
stepK (pureR s (aBuild zMacDec_4 [(3,4,t3)])) fun t4 s =>
sT 9 t2 t4 s fun s =>
stepV (aLoad true 9 t2 s) fun r0 =>
k r0 s
theorem F82_ev {t0:AV} (h:F82 t0 s k kp):Ev Tryz.prog 82 [t0] s k kp:=evA mixed Tryz.func82 [(0,[1,2]),(1,[2])] (by kernel_rfl) (by kernel_rfl) h
def F83 (t0:AV) (s:AHeap) (k kp:KP):Prop :=
aC zMacDec_7 s fun t2 s =>
stepK (pureR s (aBuild zMacDec_7 [(0,1,(.val (.int .u8 1))),(1,1,t0)])) fun t4 s =>
sT 4 t2 t4 s fun s =>
stepV (aLoad true 4 t2 s) fun r0 =>
k r0 s
theorem F83_ev {t0:AV} (h:F83 t0 s k kp):Ev Tryz.prog 83 [t0] s k kp:=evA mixed Tryz.func83 [(0,[0,2]),(1,[2])] (by kernel_rfl) (by kernel_rfl) h
def F84 (t0 t1:AV) (s:AHeap) (k kp:KP):Prop :=
stepK (aBox t0 s) fun t2 s =>
seqW (fun fr s=>(
k (.val (.pointer Option.none)) s
)) (fun j1=>(
fA 0 t2 s fun t6 s =>
lF t6 s fun t7 s =>
loopW (fun fr s again=>(
stepK (pureR s (aBin .neq .ptr (lq fr 5) (.val (.pointer Option.none)))) fun t9 s =>
condK t9 (
stepK (pureR s (aNilCheck (lq fr 5))) fun t15 s =>
fA 0 t15 s fun t16 s =>
lF t16 s fun t17 s =>
bP .eql t17 (lq fr 1) s fun t19 s =>
condK t19 (
k (lq fr 5) s
) (
stepK (pureR s (aNilCheck (lq fr 5))) fun t11 s =>
fA 6 t11 s fun t12 s =>
lF t12 s fun t13 s =>
again [(1,(lq fr 1)),(5,t13)] s
)
) (
j1 [(0,.any)] s
)
)) [(1,t1),(5,t7)] s
))
theorem F84_ev {t0 t1:AV} (h:F84 t0 t1 s k kp):Ev Tryz.prog 84 [t0,t1] s k kp:=evA mixed Tryz.func84 [(0,[1,2]),(3007,[0]),(1,[1,5]),(2,[1,5,9]),(4,[1,5,19]),(5,[4]),(3,[1,5]),(1002,[1,5]),(6,[4])] (by kernel_rfl) (by kernel_rfl) h
def F85 (t0 t1 t2:AV) (s:AHeap) (k kp:KP):Prop :=
stepK (aBox t2 s) fun t5 s =>
aC zMacDec_7 s fun t6 s =>
lT 2 t5 s fun t14 s =>
stepK (pureR s (aNilCheck t1)) fun t16 s =>
fA 0 t16 s fun t17 s =>
fA 4 t17 s fun t18 s =>
lF t18 s fun t19 s =>
Ev Tryz.prog 84 [t14,t19] s (fun t20 s =>
stepK (pureR s (aBin .neq .ptr t20 (.val (.pointer Option.none)))) fun t22 s =>
gK t22 true (fun K=>K t20 s) (fun t24 s =>
gR t22 true (aNilCheck t24) (fun t25 s =>
gR t22 true (aFieldAddr 5 t25) (fun t26 s =>
gR t22 true (aLoad false 1 t26 s) (fun t27 s =>
pK t22 t27 (.val (.bool false)) s fun t28 s =>
Ev Tryz.prog 79 [t28,(.val (.int .u8 6))] s (fun t29 s =>
seqW (fun fr s=>(
fA 4 (lq fr 8) s fun t43 s =>
lF t43 s fun t44 s =>
stepK (pureR s (aLenK .slice t44 s)) fun t45 s =>
stepK (pureR s (aNilCheck (lq fr 1))) fun t47 s =>
fA 8 t47 s fun t48 s =>
lF t48 s fun t49 s =>
stepK (pureR s (aLenK .slice t49 s)) fun t50 s =>
bP .eql t45 t50 s fun t51 s =>
Ev Tryz.prog 79 [t51,(.val (.int .u8 6))] s (fun t52 s =>
fA 2 (lq fr 8) s fun t53 s =>
lT 2 t53 s fun t54 s =>
aC zMacDec_8 s fun t9 s =>
sT 2 t9 t54 s fun s =>
seqW (fun fr s=>(
lT 2 (lq fr 5) s fun t83 s =>
stepK (pureR s (aNilCheck (lq fr 1))) fun t85 s =>
fA 7 t85 s fun t86 s =>
lF t86 s fun t87 s =>
fA 0 (lq fr 8) s fun t89 s =>
lF t89 s fun t90 s =>
fA 1 (lq fr 8) s fun t91 s =>
lF t91 s fun t92 s =>
lT 2 (lq fr 9) s fun t93 s =>
stepK (pureR s (aBuild zMacDec_6 [(0,1,t90),(1,1,t92),(2,2,t93),(4,1,(.val (.slice Option.none 0 0)))])) fun t94 s =>
Ev Tryz.prog 87 [(lq fr 0),t94] s (fun t95 s =>
rg s (aLoad true 2 (lq fr 5) s) t83 (
rg s (aLoad false 1 t86 s) t87 (
Ev Tryz.prog 86 [(lq fr 0),t83,t87,t95] s (fun t96 s =>
sT 4 (lq fr 6) t96 s fun s =>
stepV (aLoad true 4 (lq fr 6) s) fun r0 =>
k r0 s
) kp))) kp)) (fun j2=>(
stepK (pureR s (aNilCheck (lq fr 1))) fun t56 s =>
fA 8 t56 s fun t57 s =>
lF t57 s fun t58 s =>
stepK (pureR s (aLenK .slice t58 s)) fun t59 s =>
loopW (fun fr s again=>(
bP .lss (lq fr 60) (lq fr 59) s fun t61 s =>
condK t61 (
iA 1 (lq fr 58) (lq fr 60) s fun t63 s =>
lF t63 s fun t64 s =>
lT 2 (lq fr 5) s fun t66 s =>
Ev Tryz.prog 124 [t66,t64] s (fun t68 s =>
eX 0 t68 s fun t69 s =>
eX 1 t68 s fun t70 s =>
Ev Tryz.prog 79 [t70,(.val (.int .u8 5))] s (fun t72 s =>
lT 2 (lq fr 9) s fun t73 s =>
fA 4 (lq fr 8) s fun t74 s =>
lF t74 s fun t75 s =>
iA 1 t75 (lq fr 60) s fun t77 s =>
lF t77 s fun t78 s =>
Ev Tryz.prog 80 [t73,t78,t69] s (fun t80 s =>
sT 2 (lq fr 9) t80 s fun s =>
bP .add (lq fr 60) (.val (.int .i64 1)) s fun t81 s =>
again [(0,(lq fr 0)),(1,(lq fr 1)),(5,(lq fr 5)),(6,(lq fr 6)),(8,(lq fr 8)),(9,(lq fr 9)),(58,(lq fr 58)),(59,(lq fr 59)),(60,t81)] s
) kp) kp) kp) (
j2 [(0,(lq fr 0)),(1,(lq fr 1)),(5,(lq fr 5)),(6,(lq fr 6)),(8,(lq fr 8)),(9,(lq fr 9))] s
)
)) [(0,(lq fr 0)),(1,(lq fr 1)),(5,(lq fr 5)),(6,(lq fr 6)),(8,(lq fr 8)),(9,t9),(58,t58),(59,t59),(60,(.val (.int .i64 0)))] s
))
) kp)) (fun j1=>(
(
stepK (pureR s (aNilCheck t0)) fun t31 s =>
fA 3 t31 s fun t32 s =>
lF t32 s fun t33 s =>
stepK (pureR s (aNilCheck t20)) fun t36 s =>
fA 1 t36 s fun t37 s =>
lT 4 t37 s fun t38 s =>
Ev Tryz.prog 123 [t0,t38,(.val (.int .u8 3))] s (fun t39 s =>
rg s (aLoad false 1 t32 s) t33 (
stepK (pureR s (aField 9 false 1 t39)) fun t40 s =>
iA 5 t33 t40 s fun t41 s =>
lT 5 t41 s fun t42 s =>
aC zMacDec_6 s fun t8 s =>
rg s (aLoad false 1 t32 s) t33 (
rg s (aLoad true 4 t37 s) t38 (
rg s (aIndexAddr 5 t33 t40 s) t41 (
rg s (aLoad true 5 t41 s) t42 (
sT 5 t8 t42 s fun s =>
j1 [(0,t0),(1,t1),(5,t5),(6,t6),(8,t8)] s
)))))) kp)∧(
stepK (pureR s (aNilCheck t0)) fun t31 s =>
fA 3 t31 s fun t32 s =>
lF t32 s fun t33 s =>
stepK (pureR s (aNilCheck t20)) fun t36 s =>
fA 1 t36 s fun t37 s =>
lT 4 t37 s fun t38 s =>
aC zMacDec_6 s fun t8 s =>
rg s (aLoad false 1 t32 s) t33 (
rg s (aLoad true 4 t37 s) t38 (
Ev Tryz.prog 123 [t0,t38,(.val (.int .u8 3))] s (fun t39 s =>
rg s (aLoad false 1 t32 s) t33 (
stepK (pureR s (aField 9 false 1 t39)) fun t40 s =>
iA 5 t33 t40 s fun t41 s =>
lT 5 t41 s fun t42 s =>
sT 5 t8 t42 s fun s =>
j1 [(0,t0),(1,t1),(5,t5),(6,t6),(8,t8)] s
)) kp)))))) kp) s) s) s) s) kp
theorem F85_ev {t0 t1 t2:AV} (h:F85 t0 t1 t2 s k kp):Ev Tryz.prog 85 [t0,t1,t2] s k kp:=evA mixed Tryz.func85 [(0,[0,1,5,6]),(1,[0,1,5,6,7]),(2001,[0,1,2,3,4,5,6,7]),(2,[0,1,5,6,7]),(3005,[0,1,5,6,8]),(3,[0,1,5,6,8]),(2003,[0,1,2,3,4,5,6,7,8,9,10,11,12,13,14]),(103009,[3]),(103013,[3,8,11,12]),(60003,[1]),(19000003,[0,1,2,3,4,5,6,7,8,13,9,10,11,12,14]),(10003009,[3]),(10003013,[3,8]),(4,[0,1,5,6,8]),(2004,[0,1,2,3,4,5,6,7,8,9]),(5,[0,1,5,6,8,9]),(3014,[0,1,5,6,8,9]),(6,[0,1,5,6,8,9,58,59,60]),(7,[0,1,5,6,8,9,58,59,60,61]),(8,[0,1,5,6,8,9,10,11,58,59,60]),(9,[0,1,5,6,8,9,10,12,13,58,59,60]),(10,[0,1,5,6,8,9,10,12,58,59,60]),(11,[0,1,5,6,8,9,58,59,60]),(2011,[0,1,2,3,4,5,6,7,8]),(12,[0,1,5,6,8,9,58,59,60]),(1007,[0,1,5,6,8,9,58,59,60]),(13,[6]),(2013,[0,1,2,3,4,5,6,7,8,9,10,11,12,13,14,15]),(113013,[1,5])] (by kernel_rfl) (by kernel_rfl) h
def F86 (t0 t1 t2 t3:AV) (s:AHeap) (k kp:KP):Prop :=
stepK (aBox t1 s) fun t5 s =>
stepK (aBox t3 s) fun t7 s =>
aC zMacDec_7 s fun t8 s =>
lT 2 t5 s fun t14 s =>
Ev Tryz.prog 124 [t14,t2] s (fun t16 s =>
eX 0 t16 s fun t17 s =>
eX 1 t16 s fun t18 s =>
gK t18 true (fun K=>K t0 s) (fun t21 s =>
gR t18 true (aNilCheck t21) (fun t22 s =>
gR t18 true (aFieldAddr 0 t22) (fun t23 s =>
gR t18 true (aLoad false 1 t23 s) (fun t24 s =>
gK t18 true (fun K=>K t17 s) (fun t25 s =>
gK t18 true (fun K=>stepK (aBuildSlice 1 1 [.val (.int .i64 0)] [(0,t25)] s) K) (fun t26 s =>
gK t18 true (fun K=>Ev Tryz.prog 125 [t24,t26] s K kp) (fun t27 s =>
pK t18 t27 (.val (.bool false)) s fun t28 s =>
Ev Tryz.prog 79 [t28,(.val (.int .u8 5))] s (fun t29 s =>
seqW (fun fr s=>(
bP .eql (lq fr 12) (.val (.int .i64 0)) s fun t41 s =>
Ev Tryz.prog 79 [t41,(.val (.int .u8 4))] s (fun t42 s =>
lT 4 (lq fr 11) s fun t43 s =>
sT 4 (lq fr 8) t43 s fun s =>
stepV (aLoad true 4 (lq fr 8) s) fun r0 =>
k r0 s
) kp)) (fun j1=>(
(
stepK (pureR s (aNilCheck t0)) fun t32 s =>
fA 0 t32 s fun t33 s =>
lF t33 s fun t34 s =>
lT 10 t7 s fun t36 s =>
Ev Tryz.prog 126 [t34,t17,t36] s (fun t37 s =>
eX 0 t37 s fun t38 s =>
eX 1 t37 s fun t39 s =>
aC zMacDec_7 s fun t11 s =>
rg s (aLoad false 1 t33 s) t34 (
rg s (aLoad true 10 t7 s) t36 (
sT 4 t11 t38 s fun s =>
j1 [(8,t8),(11,t11),(12,t39)] s
))) kp)∧(
stepK (pureR s (aNilCheck t0)) fun t32 s =>
fA 0 t32 s fun t33 s =>
lF t33 s fun t34 s =>
lT 10 t7 s fun t36 s =>
aC zMacDec_7 s fun t11 s =>
rg s (aLoad false 1 t33 s) t34 (
rg s (aLoad true 10 t7 s) t36 (
Ev Tryz.prog 126 [t34,t17,t36] s (fun t37 s =>
eX 0 t37 s fun t38 s =>
eX 1 t37 s fun t39 s =>
sT 4 t11 t38 s fun s =>
j1 [(8,t8),(11,t11),(12,t39)] s
) kp)))))) kp) s) s) s) s) s) s) s) kp
theorem F86_ev {t0 t1 t2 t3:AV} (h:F86 t0 t1 t2 t3 s k kp):Ev Tryz.prog 86 [t0,t1,t2,t3] s k kp:=evA mixed Tryz.func86 [(0,[0,2,5,7,8]),(1,[0,7,8,9,10]),(2,[0,7,8,9]),(3005,[8,11,12]),(3,[8,11,12]),(2003,[0,1,2,3,4,5,6,7,8,9,10,11,12]),(103010,[3,5]),(60003,[1]),(19000003,[0,1,2,3,4,5,10,6,7,8,9,11,12]),(10003010,[3,5]),(4,[8,11]),(5,[8])] (by kernel_rfl) (by kernel_rfl) h
def F87 (t0 t1:AV) (s:AHeap) (k kp:KP):Prop :=
stepK (aBox t1 s) fun t3 s =>
aC zMacDec_10 s fun t4 s =>
stepK (pureR s (aNilCheck t0)) fun t7 s =>
fA 3 t7 s fun t8 s =>
lF t8 s fun t9 s =>
lT 5 t3 s fun t10 s =>
stepK (pureR s (aBuildSl 1 5 zMacDec_6 [(0,t10)])) fun t11 s =>
stepK (aAppend 5 64 t9 t11 s) fun t12 s =>
stepK (pureR s (aNilCheck t0)) fun t13 s =>
fA 3 t13 s fun t14 s =>
sT 1 t14 t12 s fun s =>
stepK (pureR s (aNilCheck t0)) fun t16 s =>
fA 3 t16 s fun t17 s =>
lF t17 s fun t18 s =>
stepK (pureR s (aLenK .slice t18 s)) fun t19 s =>
bP .sub t19 (.val (.int .i64 1)) s fun t20 s =>
stepK (pureR s (aBuild zMacDec_10 [(0,1,(.val (.int .u8 3))),(9,1,t20)])) fun t21 s =>
sT 10 t4 t21 s fun s =>
stepV (aLoad true 10 t4 s) fun r0 =>
k r0 s
theorem F87_ev {t0 t1:AV} (h:F87 t0 t1 s k kp):Ev Tryz.prog 87 [t0,t1] s k kp:=evA mixed Tryz.func87 [(0,[0,3,4]),(1,[0,4]),(2001,[0,1,2,3,4,5,6,7,8,9,10]),(2,[4])] (by kernel_rfl) (by kernel_rfl) h
def F88 (t0 t1 t2 t3:AV) (s:AHeap) (k kp:KP):Prop :=
stepK (aBox t0 s) fun t4 s =>
stepK (aBox t2 s) fun t6 s =>
aC zMacDec_8 s fun t8 s =>
lT 4 t6 s fun t10 s =>
fA 0 t4 s fun t12 s =>
lF t12 s fun t13 s =>
stepK (pureR s (aBuild zMacDec_11 [(0,1,t1),(1,4,t10),(5,1,t3),(6,1,t13)])) fun t14 s =>
stepK (aBox t14 s) fun t15 s =>
fA 0 t4 s fun t16 s =>
sT 1 t16 t15 s fun s =>
lT 2 t4 s fun t17 s =>
sT 2 t8 t17 s fun s =>
stepV (aLoad true 2 t8 s) fun r0 =>
k r0 s
theorem F88_ev {t0 t1 t2 t3:AV} (h:F88 t0 t1 t2 t3 s k kp):Ev Tryz.prog 88 [t0,t1,t2,t3] s k kp:=evA mixed Tryz.func88 [(0,[1,3,4,6,8]),(1,[4,8]),(2,[8])] (by kernel_rfl) (by kernel_rfl) h
def F89 (t0 t1 t2:AV) (s:AHeap) (k kp:KP):Prop :=
stepK (aBox t2 s) fun t5 s =>
aC zMacDec_4 s fun t6 s =>
stepK (pureR s (aNilCheck t0)) fun t9 s =>
fA 4 t9 s fun t10 s =>
lF t10 s fun t11 s =>
lT 2 t5 s fun t13 s =>
stepK (pureR s (aBuild zMacDec_5 [(0,1,t1),(1,2,t13),(3,1,(.val (.slice Option.none 0 0)))])) fun t14 s =>
stepK (pureR s (aBuildSl 1 4 zMacDec_5 [(0,t14)])) fun t15 s =>
stepK (aAppend 4 48 t11 t15 s) fun t16 s =>
stepK (pureR s (aNilCheck t0)) fun t17 s =>
fA 4 t17 s fun t18 s =>
sT 1 t18 t16 s fun s =>
stepK (pureR s (aNilCheck t1)) fun t20 s =>
fA 18 t20 s fun t21 s =>
lF t21 s fun t22 s =>
iA 19 t22 (.val (.int .i64 0)) s fun t23 s =>
lT 2 t5 s fun t24 s =>
stepK (pureR s (aBuild zMacDec_4 [(0,1,t23),(1,2,t24)])) fun t25 s =>
sT 9 t6 t25 s fun s =>
stepV (aLoad true 9 t6 s) fun r0 =>
k r0 s
theorem F89_ev {t0 t1 t2:AV} (h:F89 t0 t1 t2 s k kp):Ev Tryz.prog 89 [t0,t1,t2] s k kp:=evA mixed Tryz.func89 [(0,[0,1,5,6]),(1,[1,5,6]),(2001,[0,1,2,3,4,5,6,7,8,9,10,11,12]),(2,[6]),(2002,[0,1,2,3,4,5,6,7])] (by kernel_rfl) (by kernel_rfl) h
def F90 (t0:AV) (s:AHeap) (k kp:KP):Prop :=
aC zMacDec_5 s fun t2 s =>
Ev Tryz.prog 92 [t0] s (fun t5 s =>
stepK (pureR s (aNilCheck t5)) fun t6 s =>
lT 4 t6 s fun t7 s =>
aC zMacDec_5 s fun t3 s =>
sT 4 t3 t7 s fun s =>
stepK (pureR s (aNilCheck t0)) fun t10 s =>
fA 4 t10 s fun t11 s =>
lF t11 s fun t12 s =>
stepK (pureR s (aNilCheck t0)) fun t14 s =>
fA 4 t14 s fun t15 s =>
lF t15 s fun t16 s =>
stepK (pureR s (aLenK .slice t16 s)) fun t17 s =>
bP .sub t17 (.val (.int .i64 1)) s fun t18 s =>
stepK (pureR s (aSlice 4 t12 none (some t18) none)) fun t19 s =>
stepK (pureR s (aNilCheck t0)) fun t20 s =>
fA 4 t20 s fun t21 s =>
sT 1 t21 t19 s fun s =>
lT 4 t3 s fun t22 s =>
sT 4 t2 t22 s fun s =>
stepV (aLoad true 4 t2 s) fun r0 =>
k r0 s) kp
theorem F90_ev {t0:AV} (h:F90 t0 s k kp):Ev Tryz.prog 90 [t0] s k kp:=evA mixed Tryz.func90 [(0,[0,2]),(1,[0,2,3]),(2,[2,3]),(2002,[0,1,2,3,4,5,6,7,8,9,10,11,12,13,14]),(3,[2])] (by kernel_rfl) (by kernel_rfl) h
def F91 (t0:AV) (s:AHeap) (k kp:KP):Prop :=
stepK (pureR s (aBin .eql .ptr t0 (.val (.pointer Option.none)))) fun t5 s =>
gK t5 false (fun K=>K t0 s) (fun t7 s =>
gR t5 false (aNilCheck t7) (fun t8 s =>
gR t5 false (aFieldAddr 3 t8) (fun t9 s =>
gR t5 false (aLoad false 1 t9 s) (fun t10 s =>
gR t5 false (aLenK .slice t10 s) (fun t11 s =>
gR t5 false (aBin .lss .prim t11 (.val (.int .i64 2))) (fun t12 s =>
pK t5 (.val (.bool true)) t12 s fun t13 s =>
condK t13 (
k (.val (.bool false)) s
) (
stepK (pureR s (aNilCheck t0)) fun t15 s =>
fA 3 t15 s fun t16 s =>
lF t16 s fun t17 s =>
stepK (pureR s (aNilCheck t0)) fun t19 s =>
fA 3 t19 s fun t20 s =>
lF t20 s fun t21 s =>
stepK (pureR s (aLenK .slice t21 s)) fun t22 s =>
bP .sub t22 (.val (.int .i64 1)) s fun t23 s =>
iA 1 t17 t23 s fun t24 s =>
lF t24 s fun t25 s =>
stepK (pureR s (aNilCheck t0)) fun t28 s =>
fA 3 t28 s fun t29 s =>
lF t29 s fun t30 s =>
stepK (pureR s (aNilCheck t0)) fun t32 s =>
fA 3 t32 s fun t33 s =>
lF t33 s fun t34 s =>
stepK (pureR s (aLenK .slice t34 s)) fun t35 s =>
bP .sub t35 (.val (.int .i64 1)) s fun t36 s =>
stepK (pureR s (aSlice 1 t30 none (some t36) none)) fun t37 s =>
stepK (pureR s (aNilCheck t0)) fun t38 s =>
fA 3 t38 s fun t39 s =>
sT 1 t39 t37 s fun s =>
stepK (pureR s (aNilCheck t0)) fun t41 s =>
fA 5 t41 s fun t42 s =>
lF t42 s fun t43 s =>
stepK (pureR s (aNilCheck t0)) fun t45 s =>
fA 2 t45 s fun t46 s =>
lF t46 s fun t47 s =>
stepK (pureR s (aLookup (.int .i64) (.val (.slice none 0 0)) false t47 t25 s)) fun t49 s =>
stepK (pureR s (aLenK .slice t49 s)) fun t50 s =>
bP .sub t43 t50 s fun t51 s =>
stepK (pureR s (aNilCheck t0)) fun t52 s =>
fA 5 t52 s fun t53 s =>
sT 1 t53 t51 s fun s =>
stepK (pureR s (aNilCheck t0)) fun t55 s =>
fA 2 t55 s fun t56 s =>
lF t56 s fun t57 s =>
stepK ((aMapDelete (.int .i64) t57 t25 s).map fun s=>(.val (.tuple #[]),s)) fun _ s =>
k (.val (.bool true)) s
)) s) s) s) s) s) s
theorem F91_ev {t0:AV} (h:F91 t0 s k kp):Ev Tryz.prog 91 [t0] s k kp:=evA mixed Tryz.func91 [(0,[0]),(1,[0,13]),(2,[2]),(3,[0,3]),(2003,[0,1,2,3,4,5,6,7,8,9,10,11,12]),(4,[0,3]),(2004,[0,1,2,3,4,5,6,7,8,9,10,11,12,13,14]),(5,[0,3]),(2005,[0,1,2,3,4,5,6,7,8,9,10,11,12,13,14]),(6,[]),(7,[2])] (by kernel_rfl) (by kernel_rfl) h
def F92 (t0:AV) (s:AHeap) (k kp:KP):Prop :=
stepK (pureR s (aNilCheck t0)) fun t4 s =>
fA 4 t4 s fun t5 s =>
lF t5 s fun t6 s =>
stepK (pureR s (aNilCheck t0)) fun t8 s =>
fA 4 t8 s fun t9 s =>
lF t9 s fun t10 s =>
stepK (pureR s (aLenK .slice t10 s)) fun t11 s =>
bP .sub t11 (.val (.int .i64 1)) s fun t12 s =>
iA 4 t6 t12 s fun t13 s =>
k t13 s
theorem F92_ev {t0:AV} (h:F92 t0 s k kp):Ev Tryz.prog 92 [t0] s k kp:=evA mixed Tryz.func92 [(0,[0]),(1,[2]),(2001,[0,1,2,3,4,5,6,7,8,9,10,11])] (by kernel_rfl) (by kernel_rfl) h
def F93 (t0:AV) (s:AHeap) (k kp:KP):Prop :=
stepK (aBox t0 s) fun t1 s =>
fA 0 t1 s fun t3 s =>
lF t3 s fun t4 s =>
bP .eql t4 (.val (.int .u8 1)) s fun t5 s =>
Ev Tryz.prog 79 [t5,(.val (.int .u8 6))] s (fun t6 s =>
fA 1 t1 s fun t7 s =>
lF t7 s fun t8 s =>
k t8 s) kp
theorem F93_ev {t0:AV} (h:F93 t0 s k kp):Ev Tryz.prog 93 [t0] s k kp:=evA mixed Tryz.func93 [(0,[1]),(1,[1]),(2,[2])] (by kernel_rfl) (by kernel_rfl) h
def F94 (t0 t1:AV) (s:AHeap) (k kp:KP):Prop :=
stepK (aBox t1 s) fun t3 s =>
aC zMacDec_4 s fun t4 s =>
fA 0 t3 s fun t8 s =>
lF t8 s fun t9 s =>
fA 3 t3 s fun t10 s =>
lF t10 s fun t11 s =>
stepK (pureR s (aNilCheck t9)) fun t13 s =>
fA 0 t13 s fun t14 s =>
fA 0 t14 s fun t15 s =>
lF t15 s fun t16 s =>
bP .eql t16 (.val (.int .u8 3)) s fun t18 s =>
condK t18 (
fA 1 t3 s fun t20 s =>
lT 2 t20 s fun t21 s =>
stepK (pureR s (aNilCheck t9)) fun t23 s =>
fA 7 t23 s fun t24 s =>
lF t24 s fun t25 s =>
iA 4 t11 (.val (.int .i64 0)) s fun t27 s =>
lT 4 t27 s fun t28 s =>
iA 4 t11 (.val (.int .i64 1)) s fun t30 s =>
lT 4 t30 s fun t31 s =>
stepK (pureR s (aBuild zMacDec_10 [(0,1,(.val (.int .u8 1))),(1,4,t28),(5,4,t31)])) fun t32 s =>
Ev Tryz.prog 86 [t0,t21,t25,t32] s (fun t33 s =>
Ev Tryz.prog 82 [t33] s (fun t34 s =>
sT 9 t4 t34 s fun s =>
stepV (aLoad true 9 t4 s) fun r0 =>
k r0 s
) kp) kp) (
bP .eql t16 (.val (.int .u8 4)) s fun t36 s =>
condK t36 (
iA 4 t11 (.val (.int .i64 0)) s fun t39 s =>
lT 4 t39 s fun t40 s =>
Ev Tryz.prog 123 [t0,t40,(.val (.int .u8 1))] s (fun t41 s =>
stepK (pureR s (aField 1 true 4 t41)) fun t42 s =>
Ev Tryz.prog 82 [t42] s (fun t43 s =>
sT 9 t4 t43 s fun s =>
stepV (aLoad true 9 t4 s) fun r0 =>
k r0 s
) kp) kp) (
bP .eql t16 (.val (.int .u8 5)) s fun t45 s =>
condK t45 (
iA 4 t11 (.val (.int .i64 0)) s fun t48 s =>
lT 4 t48 s fun t49 s =>
Ev Tryz.prog 123 [t0,t49,(.val (.int .u8 1))] s (fun t50 s =>
stepK (pureR s (aField 5 true 4 t50)) fun t51 s =>
Ev Tryz.prog 82 [t51] s (fun t52 s =>
sT 9 t4 t52 s fun s =>
stepV (aLoad true 9 t4 s) fun r0 =>
k r0 s
) kp) kp) (
bP .eql t16 (.val (.int .u8 6)) s fun t54 s =>
condK t54 (
fA 1 t3 s fun t56 s =>
lT 2 t56 s fun t57 s =>
stepK (pureR s (aNilCheck t9)) fun t59 s =>
fA 7 t59 s fun t60 s =>
lF t60 s fun t61 s =>
iA 4 t11 (.val (.int .i64 0)) s fun t63 s =>
lT 4 t63 s fun t64 s =>
stepK (pureR s (aBuild zMacDec_10 [(0,1,(.val (.int .u8 2))),(1,4,t64)])) fun t65 s =>
Ev Tryz.prog 86 [t0,t57,t61,t65] s (fun t66 s =>
Ev Tryz.prog 82 [t66] s (fun t67 s =>
sT 9 t4 t67 s fun s =>
stepV (aLoad true 9 t4 s) fun r0 =>
k r0 s
) kp) kp) (
bP .eql t16 (.val (.int .u8 7)) s fun t69 s =>
condK t69 (
iA 4 t11 (.val (.int .i64 0)) s fun t72 s =>
lT 4 t72 s fun t73 s =>
Ev Tryz.prog 123 [t0,t73,(.val (.int .u8 2))] s (fun t74 s =>
stepK (pureR s (aField 1 true 4 t74)) fun t75 s =>
Ev Tryz.prog 82 [t75] s (fun t76 s =>
sT 9 t4 t76 s fun s =>
stepV (aLoad true 9 t4 s) fun r0 =>
k r0 s
) kp) kp) (
bP .eql t16 (.val (.int .u8 8)) s fun t78 s =>
condK t78 (
iA 4 t11 (.val (.int .i64 0)) s fun t81 s =>
lT 4 t81 s fun t82 s =>
Ev Tryz.prog 123 [t0,t82,(.val (.int .u8 2))] s (fun t83 s =>
stepK (pureR s (aNilCheck t0)) fun t85 s =>
fA 0 t85 s fun t86 s =>
lF t86 s fun t87 s =>
iA 4 t11 (.val (.int .i64 0)) s fun t89 s =>
lT 4 t89 s fun t90 s =>
iA 4 t11 (.val (.int .i64 1)) s fun t92 s =>
lT 4 t92 s fun t93 s =>
stepK (pureR s (aBuild zMacDec_10 [(0,1,(.val (.int .u8 2))),(1,4,t93)])) fun t94 s =>
Ev Tryz.prog 127 [t87,t90,t94] s (fun t95 s =>
Ev Tryz.prog 83 [(.val (.int .i64 0))] s (fun t96 s =>
Ev Tryz.prog 82 [t96] s (fun t97 s =>
sT 9 t4 t97 s fun s =>
stepV (aLoad true 9 t4 s) fun r0 =>
k r0 s
) kp) kp) kp) kp) (
bP .eql t16 (.val (.int .u8 9)) s fun t99 s =>
condK t99 (
stepK (pureR s (aNilCheck t9)) fun t101 s =>
fA 0 t101 s fun t102 s =>
fA 1 t102 s fun t103 s =>
lF t103 s fun t104 s =>
iA 4 t11 (.val (.int .i64 0)) s fun t106 s =>
lT 4 t106 s fun t107 s =>
iA 4 t11 (.val (.int .i64 1)) s fun t110 s =>
lT 4 t110 s fun t111 s =>
Ev Tryz.prog 93 [t107] s (fun t108 s =>
rg s (aLoad false 1 t103 s) t104 (
rg s (aIndexAddr 4 t11 (.val (.int .i64 1)) s) t110 (
rg s (aLoad true 4 t110 s) t111 (
Ev Tryz.prog 93 [t111] s (fun t112 s =>
rg s (aLoad false 1 t103 s) t104 (
Ev Tryz.prog 128 [t104,t108,t112] s (fun t113 s =>
Ev Tryz.prog 83 [t113] s (fun t114 s =>
Ev Tryz.prog 82 [t114] s (fun t115 s =>
sT 9 t4 t115 s fun s =>
stepV (aLoad true 9 t4 s) fun r0 =>
k r0 s
) kp) kp) kp)) kp)))) kp) (
bP .eql t16 (.val (.int .u8 15)) s fun t117 s =>
condK t117 (
iA 4 t11 (.val (.int .i64 0)) s fun t119 s =>
lT 4 t119 s fun t120 s =>
stepK (pureR s (aNilCheck t9)) fun t124 s =>
fA 0 t124 s fun t125 s =>
fA 6 t125 s fun t126 s =>
lF t126 s fun t127 s =>
Ev Tryz.prog 93 [t120] s (fun t121 s =>
rg s (aLoad false 1 t126 s) t127 (
Ev Tryz.prog 83 [t121] s (fun t122 s =>
rg s (aLoad false 1 t126 s) t127 (
stepK (pureR s (aBuild zMacDec_4 [(3,4,t122),(7,1,(.val (.bool true))),(8,1,t127)])) fun t128 s =>
sT 9 t4 t128 s fun s =>
stepV (aLoad true 9 t4 s) fun r0 =>
k r0 s
)) kp)) kp) (
seqW (fun fr s=>(
fA 0 (lq fr 7) s fun t141 s =>
lF t141 s fun t142 s =>
fA 2 (lq fr 7) s fun t143 s =>
lT 2 t143 s fun t144 s =>
fA 1 (lq fr 7) s fun t145 s =>
lF t145 s fun t146 s =>
iA 4 (lq fr 6) (.val (.int .i64 1)) s fun t148 s =>
lT 4 t148 s fun t149 s =>
Ev Tryz.prog 88 [t144,t146,t149,(.val (.bool false))] s (fun t150 s =>
rg s (aLoad false 1 t141 s) t142 (
stepK (pureR s (aBuild zMacDec_4 [(0,1,t142),(1,2,t150)])) fun t151 s =>
sT 9 (lq fr 4) t151 s fun s =>
stepV (aLoad true 9 (lq fr 4) s) fun r0 =>
k r0 s
)) kp)) (fun j1=>(
(
stepK (pureR s (aNilCheck t0)) fun t130 s =>
fA 3 t130 s fun t131 s =>
lF t131 s fun t132 s =>
iA 4 t11 (.val (.int .i64 0)) s fun t135 s =>
lT 4 t135 s fun t136 s =>
Ev Tryz.prog 123 [t0,t136,(.val (.int .u8 3))] s (fun t137 s =>
rg s (aLoad false 1 t131 s) t132 (
stepK (pureR s (aField 9 false 1 t137)) fun t138 s =>
iA 5 t132 t138 s fun t139 s =>
lT 5 t139 s fun t140 s =>
aC zMacDec_6 s fun t7 s =>
rg s (aLoad false 1 t131 s) t132 (
rg s (aIndexAddr 4 t11 (.val (.int .i64 0)) s) t135 (
rg s (aLoad true 4 t135 s) t136 (
rg s (aIndexAddr 5 t132 t138 s) t139 (
rg s (aLoad true 5 t139 s) t140 (
sT 5 t7 t140 s fun s =>
j1 [(4,t4),(6,t11),(7,t7)] s
))))))) kp)∧(
stepK (pureR s (aNilCheck t0)) fun t130 s =>
fA 3 t130 s fun t131 s =>
lF t131 s fun t132 s =>
iA 4 t11 (.val (.int .i64 0)) s fun t135 s =>
lT 4 t135 s fun t136 s =>
aC zMacDec_6 s fun t7 s =>
rg s (aLoad false 1 t131 s) t132 (
rg s (aIndexAddr 4 t11 (.val (.int .i64 0)) s) t135 (
rg s (aLoad true 4 t135 s) t136 (
Ev Tryz.prog 123 [t0,t136,(.val (.int .u8 3))] s (fun t137 s =>
rg s (aLoad false 1 t131 s) t132 (
stepK (pureR s (aField 9 false 1 t137)) fun t138 s =>
iA 5 t132 t138 s fun t139 s =>
lT 5 t139 s fun t140 s =>
sT 5 t7 t140 s fun s =>
j1 [(4,t4),(6,t11),(7,t7)] s
)) kp))))))
)
)
)
)
)
)
)
)
theorem F94_ev {t0 t1:AV} (h:F94 t0 t1 s k kp):Ev Tryz.prog 94 [t0,t1] s k kp:=evA mixed Tryz.func94 [(0,[0,3,4]),(1,[0,3,4,5,6]),(2001,[0,1,2,3,4,5]),(2,[0,3,4,5,6,16]),(3,[0,3,4,5,6,16,17]),(4,[4]),(2004,[0,1,2,3,4,5,6,7,8,9,10,11,12,13,14,15,16]),(5,[0,3,4,5,6,16,35]),(6,[4]),(7,[0,3,4,5,6,16,44]),(8,[4]),(9,[0,3,4,5,6,16,53]),(10,[4]),(2010,[0,1,2,3,4,5,6,7,8,9,10,11,12,13]),(11,[0,4,5,6,16,68]),(12,[4]),(13,[0,4,5,6,16,77]),(14,[0,4,6]),(15,[4]),(2015,[0,1,2,3,4,5,6,7,8,9,10,11]),(16,[4]),(17,[0,4,5,6,16,98]),(18,[4]),(2018,[0,1,2,3,4,5,6,7,9,10,11,8,12,13,14,15,16]),(118008,[4,10,11]),(118012,[4]),(19,[0,4,5,6,116]),(20,[4]),(2020,[0,1,2,5,6,7,8,9,3,4,10,11]),(120003,[9]),(120004,[9]),(3023,[4,6,7]),(21,[4,6,7]),(2021,[0,1,2,3,4,5,6,7,8,9,10,11,12,13]),(121008,[3]),(121012,[3,6,7,10,11]),(60021,[1]),(19000021,[0,1,2,3,4,5,6,7,12,8,9,10,11,13]),(10021008,[3]),(10021012,[3,6,7]),(22,[4]),(2022,[0,1,2,3,4,5,6,7,8,9,10,11]),(122009,[1])] (by kernel_rfl) (by kernel_rfl) h
def F123 (t0 t1 t2:AV) (s:AHeap) (k kp:KP):Prop :=
stepK (aBox t1 s) fun t4 s =>
aC zMacDec_10 s fun t6 s =>
fA 0 t4 s fun t9 s =>
lF t9 s fun t10 s =>
bP .eql t10 (.val (.int .u8 2)) s fun t11 s =>
Ev Tryz.prog 79 [t11,(.val (.int .u8 6))] s (fun t12 s =>
seqW (fun fr s=>(
bP .neq (lq fr 8) (.val (.int .i64 6)) s fun t23 s =>
Ev Tryz.prog 79 [t23,(.val (.int .u8 5))] s (fun t24 s =>
bP .eql (lq fr 8) (.val (.int .i64 0)) s fun t26 s =>
gR t26 true (aFieldAddr 0 (lq fr 7)) (fun t28 s =>
gR t26 true (aLoad false 1 t28 s) (fun t29 s =>
gK t26 true (fun K=>K (lq fr 2) s) (fun t30 s =>
gR t26 true (aBin .eql .prim t29 t30) (fun t31 s =>
pK t26 t31 (.val (.bool false)) s fun t32 s =>
Ev Tryz.prog 79 [t32,(.val (.int .u8 6))] s (fun t33 s =>
lT 10 (lq fr 7) s fun t34 s =>
sT 10 (lq fr 6) t34 s fun s =>
stepV (aLoad true 10 (lq fr 6) s) fun r0 =>
k r0 s
) kp) s) s) s) s) kp)) (fun j1=>(
(
stepK (pureR s (aNilCheck t0)) fun t15 s =>
fA 0 t15 s fun t16 s =>
lF t16 s fun t17 s =>
lT 4 t4 s fun t18 s =>
Ev Tryz.prog 171 [t17,t18] s (fun t19 s =>
eX 0 t19 s fun t20 s =>
eX 1 t19 s fun t21 s =>
aC zMacDec_10 s fun t7 s =>
rg s (aLoad false 1 t16 s) t17 (
rg s (aLoad true 4 t4 s) t18 (
sT 10 t7 t20 s fun s =>
j1 [(2,t2),(6,t6),(7,t7),(8,t21)] s
))) kp)∧(
stepK (pureR s (aNilCheck t0)) fun t15 s =>
fA 0 t15 s fun t16 s =>
lF t16 s fun t17 s =>
lT 4 t4 s fun t18 s =>
aC zMacDec_10 s fun t7 s =>
rg s (aLoad false 1 t16 s) t17 (
rg s (aLoad true 4 t4 s) t18 (
Ev Tryz.prog 171 [t17,t18] s (fun t19 s =>
eX 0 t19 s fun t20 s =>
eX 1 t19 s fun t21 s =>
sT 10 t7 t20 s fun s =>
j1 [(2,t2),(6,t6),(7,t7),(8,t21)] s
) kp)))))) kp
theorem F123_ev {t0 t1 t2:AV} (h:F123 t0 t1 t2 s k kp):Ev Tryz.prog 123 [t0,t1,t2] s k kp:=evA mixed Tryz.func123 [(0,[0,2,4,6]),(1,[0,2,4,6]),(3004,[2,6,7,8]),(2,[2,6,7,8]),(2002,[0,1,2,3,4,5,6,7,8,9,10,11]),(102009,[3,4]),(60002,[1]),(19000002,[0,1,2,3,4,9,5,6,7,8,10,11]),(10002009,[3,4]),(3,[2,6,7,8]),(4,[6,7]),(5,[6])] (by kernel_rfl) (by kernel_rfl) h
def F124 (t0 t1:AV) (s:AHeap) (k kp:KP):Prop :=
stepK (aBox t0 s) fun t2 s =>
seqW (fun fr s=>(
bP .eql (lq fr 1) (.val (.int .i64 0)) s fun t26 s =>
k (.tup [(.val (.int .i64 0)),t26]) s
)) (fun j1=>(
fA 1 t2 s fun t7 s =>
lF t7 s fun t8 s =>
loopW (fun fr s again=>(
stepK (pureR s (aBin .neq .ptr (lq fr 6) (.val (.pointer Option.none)))) fun t10 s =>
condK t10 (
stepK (pureR s (aNilCheck (lq fr 6))) fun t16 s =>
fA 0 t16 s fun t17 s =>
lF t17 s fun t18 s =>
bP .eql t18 (lq fr 1) s fun t20 s =>
condK t20 (
stepK (pureR s (aNilCheck (lq fr 6))) fun t22 s =>
fA 1 t22 s fun t23 s =>
lF t23 s fun t24 s =>
k (.tup [t24,(.val (.bool true))]) s
) (
stepK (pureR s (aNilCheck (lq fr 6))) fun t12 s =>
fA 2 t12 s fun t13 s =>
lF t13 s fun t14 s =>
again [(1,(lq fr 1)),(6,t14)] s
)
) (
j1 [(1,(lq fr 1))] s
)
)) [(1,t1),(6,t8)] s
))
theorem F124_ev {t0 t1:AV} (h:F124 t0 t1 s k kp):Ev Tryz.prog 124 [t0,t1] s k kp:=evA mixed Tryz.func124 [(0,[1,2]),(3007,[1]),(1,[1,6]),(2,[1,6,10]),(4,[1,6,20]),(5,[4,5]),(3,[1,6]),(1002,[1,6]),(6,[4,5])] (by kernel_rfl) (by kernel_rfl) h
def F125 (t0 t1:AV) (s:AHeap) (k kp:KP):Prop :=
seqW (fun fr s=>(
k (.val (.bool true)) s
)) (fun j1=>(
stepK (pureR s (aLenK .slice t1 s)) fun t10 s =>
loopW (fun fr s again=>(
bP .lss (lq fr 11) (lq fr 10) s fun t12 s =>
condK t12 (
iA 1 (lq fr 9) (lq fr 11) s fun t13 s =>
lF t13 s fun t14 s =>
stepK (pureR s (aBin .eql .ptr (lq fr 0) (.val (.pointer Option.none)))) fun t16 s =>
condK t16 (
k (.val (.bool false)) s
) (
stepK (pureR s (aNilCheck (lq fr 0))) fun t19 s =>
fA 2 t19 s fun t20 s =>
lF t20 s fun t21 s =>
stepK (pureR s (aLookup (.int .i64) (.val (.slice none 0 0)) true t21 t14 s)) fun t23 s =>
eX 0 t23 s fun t24 s =>
eX 1 t23 s fun t25 s =>
stepK (pureR s (aNot t25)) fun t27 s =>
condK t27 (
k (.val (.bool false)) s
) (
bP .add (lq fr 11) (.val (.int .i64 1)) s fun t28 s =>
again [(0,(lq fr 0)),(9,(lq fr 9)),(10,(lq fr 10)),(11,t28)] s
)
)
) (
j1 [(0,(lq fr 0))] s
)
)) [(0,t0),(9,t1),(10,t10),(11,(.val (.int .i64 0)))] s
))
theorem F125_ev {t0 t1:AV} (h:F125 t0 t1 s k kp):Ev Tryz.prog 125 [t0,t1] s k kp:=evA mixed Tryz.func125 [(0,[0,1]),(3011,[0]),(1,[0,9,10,11]),(2,[0,9,10,11,12]),(3,[0,6,9,10,11]),(4,[0,6,9,10,11,16]),(5,[4]),(6,[0,8,9,10,11]),(7,[0,9,10,11,27]),(8,[4]),(9,[0,9,10,11]),(1002,[0,9,10,11]),(10,[4])] (by kernel_rfl) (by kernel_rfl) h
def F126 (t0 t1 t2:AV) (s:AHeap) (k kp:KP):Prop :=
stepK (aBox t2 s) fun t5 s =>
aC zMacDec_7 s fun t6 s =>
stepK (aBuildSlice 1 1 [.val (.int .i64 0)] [(0,t1)] s) fun t11 s =>
Ev Tryz.prog 125 [t0,t11] s (fun t12 s =>
stepK (pureR s (aNot t12)) fun t13 s =>
condK t13 (
stepK (pureR s (aBuild zMacDec_7 [])) fun t14 s =>
sT 4 t6 t14 s fun s =>
stepV (aLoad true 4 t6 s) fun r0 =>
k (.tup [r0,(.val (.int .i64 6))]) s
) (
stepK (pureR s (aNilCheck t0)) fun t17 s =>
fA 5 t17 s fun t18 s =>
lF t18 s fun t19 s =>
stepK (pureR s (aNilCheck t0)) fun t21 s =>
fA 0 t21 s fun t22 s =>
fA 1 t22 s fun t23 s =>
lF t23 s fun t24 s =>
bP .geq t19 t24 s fun t25 s =>
condK t25 (
stepK (pureR s (aBuild zMacDec_7 [])) fun t26 s =>
sT 4 t6 t26 s fun s =>
stepV (aLoad true 4 t6 s) fun r0 =>
k (.tup [r0,(.val (.int .i64 3))]) s
) (
stepK (pureR s (aNilCheck t0)) fun t28 s =>
fA 5 t28 s fun t29 s =>
lF t29 s fun t30 s =>
bP .add t30 (.val (.int .i64 1)) s fun t31 s =>
stepK (pureR s (aNilCheck t0)) fun t32 s =>
fA 5 t32 s fun t33 s =>
sT 1 t33 t31 s fun s =>
stepK (pureR s (aNilCheck t0)) fun t36 s =>
fA 6 t36 s fun t37 s =>
lF t37 s fun t38 s =>
stepK (pureR s (aNilCheck t0)) fun t40 s =>
fA 5 t40 s fun t41 s =>
lF t41 s fun t42 s =>
stepK (pureR s (aMax t38 t42)) fun t43 s =>
stepK (pureR s (aNilCheck t0)) fun t44 s =>
fA 6 t44 s fun t45 s =>
sT 1 t45 t43 s fun s =>
stepK (pureR s (aNilCheck t0)) fun t47 s =>
fA 2 t47 s fun t48 s =>
lF t48 s fun t49 s =>
stepK (pureR s (aNilCheck t0)) fun t52 s =>
fA 2 t52 s fun t53 s =>
lF t53 s fun t54 s =>
stepK (pureR s (aLookup (.int .i64) (.val (.slice none 0 0)) false t54 t1 s)) fun t56 s =>
lT 10 t5 s fun t57 s =>
stepK (pureR s (aBuildSl 1 10 zMacDec_10 [(0,t57)])) fun t58 s =>
stepK (aAppend 10 80 t56 t58 s) fun t59 s =>
rg s (aLoad false 1 t48 s) t49 (
stepK (unitR (aMapUpdate (.int .i64) t49 t1 t59 s)) fun _ s =>
stepK (pureR s (aNilCheck t0)) fun t62 s =>
fA 2 t62 s fun t63 s =>
lF t63 s fun t64 s =>
stepK (pureR s (aLookup (.int .i64) (.val (.slice none 0 0)) false t64 t1 s)) fun t66 s =>
stepK (pureR s (aLenK .slice t66 s)) fun t67 s =>
bP .sub t67 (.val (.int .i64 1)) s fun t68 s =>
stepK (pureR s (aBuild zMacDec_7 [(0,1,(.val (.int .u8 2))),(2,1,t1),(3,1,t68)])) fun t69 s =>
sT 4 t6 t69 s fun s =>
stepV (aLoad true 4 t6 s) fun r0 =>
k (.tup [r0,(.val (.int .i64 0))]) s
))
)) kp
theorem F126_ev {t0 t1 t2:AV} (h:F126 t0 t1 t2 s k kp):Ev Tryz.prog 126 [t0,t1,t2] s k kp:=evA mixed Tryz.func126 [(0,[0,1,5,6]),(1,[0,1,5,6,8]),(2,[6,7]),(3,[0,1,5,6,15]),(2003,[0,1,2,3,4,5,6,7,8,9,10]),(4,[6,7]),(5,[0,1,5,6]),(6,[0,1,5,6]),(2006,[0,1,2,3,4,5,6,7,8,9,10,11,12]),(7,[0,1,6]),(2007,[0,1,2,3,4,5,6,7,8,9,10,11,12,13,14]),(107013,[3]),(8,[6,7])] (by kernel_rfl) (by kernel_rfl) h
def F127 (t0 t1 t2:AV) (s:AHeap) (k kp:KP):Prop :=
stepK (aBox t1 s) fun t4 s =>
stepK (aBox t2 s) fun t5 s =>
lT 4 t4 s fun t11 s =>
Ev Tryz.prog 172 [t0,t11] s (fun t12 s =>
eX 0 t12 s fun t13 s =>
eX 1 t12 s fun t14 s =>
seqW (fun fr s=>(
k (lq fr 8) s
)) (fun j1=>(
bP .eql t14 (.val (.int .i64 0)) s fun t16 s =>
condK t16 (
lT 10 t5 s fun t18 s =>
stepK (pureR s (aNilCheck t13)) fun t19 s =>
sT 10 t19 t18 s fun s =>
j1 [(8,t14)] s
) (
j1 [(8,t14)] s
)
))) kp
theorem F127_ev {t0 t1 t2:AV} (h:F127 t0 t1 t2 s k kp):Ev Tryz.prog 127 [t0,t1,t2] s k kp:=evA mixed Tryz.func127 [(0,[0,4,5]),(1,[5,7,8]),(3005,[8]),(2,[5,7,8,16]),(3,[8]),(4,[6])] (by kernel_rfl) (by kernel_rfl) h
def F128 (t0 t1 t2:AV) (s:AHeap) (k kp:KP):Prop :=
seqW (fun fr s=>(
condK (lq fr 7) (
k (.val (.int .i64 1)) s
) (
k (.val (.int .i64 0)) s
)
)) (fun j1=>(
bP .eql t0 (.val (.int .u8 1)) s fun t10 s =>
condK t10 (
bP .add t1 t2 s fun t13 s =>
k t13 s
) (
bP .eql t0 (.val (.int .u8 2)) s fun t15 s =>
condK t15 (
bP .sub t1 t2 s fun t18 s =>
k t18 s
) (
bP .eql t0 (.val (.int .u8 3)) s fun t20 s =>
condK t20 (
bP .mul t1 t2 s fun t23 s =>
k t23 s
) (
bP .eql t0 (.val (.int .u8 4)) s fun t25 s =>
condK t25 (
bP .lss t1 t2 s fun t28 s =>
j1 [(7,t28)] s
) (
bP .eql t0 (.val (.int .u8 5)) s fun t30 s =>
condK t30 (
bP .eql t1 t2 s fun t33 s =>
j1 [(7,t33)] s
) (
j1 [(7,(.val (.bool false)))] s
)
)
)
)
)
))
theorem F128_ev {t0 t1 t2:AV} (h:F128 t0 t1 t2 s k kp):Ev Tryz.prog 128 [t0,t1,t2] s k kp:=evA mixed Tryz.func128 [(0,[0,1,2]),(1,[0,1,2,7]),(3014,[7]),(2,[1,2,7,8]),(3,[1,2,7,8,9]),(4,[6]),(5,[1,2,7,8,14]),(6,[6]),(7,[1,2,7,8,19]),(8,[6]),(9,[1,2,7,8,24]),(10,[7]),(11,[1,2,7,29]),(12,[7]),(13,[34]),(14,[6]),(15,[6])] (by kernel_rfl) (by kernel_rfl) h
def F171 (t0 t1:AV) (s:AHeap) (k kp:KP):Prop :=
stepK (aBox t1 s) fun t3 s =>
aC zMacDec_10 s fun t4 s =>
lT 4 t3 s fun t10 s =>
Ev Tryz.prog 172 [t0,t10] s (fun t11 s =>
eX 0 t11 s fun t12 s =>
eX 1 t11 s fun t13 s =>
bP .neq t13 (.val (.int .i64 0)) s fun t15 s =>
condK t15 (
stepK (pureR s (aBuild zMacDec_10 [])) fun t16 s =>
sT 10 t4 t16 s fun s =>
stepV (aLoad true 10 t4 s) fun r0 =>
k (.tup [r0,t13]) s
) (
stepK (pureR s (aNilCheck t12)) fun t19 s =>
lT 10 t19 s fun t20 s =>
sT 10 t4 t20 s fun s =>
stepV (aLoad true 10 t4 s) fun r0 =>
k (.tup [r0,(.val (.int .i64 0))]) s
)) kp
theorem F171_ev {t0 t1:AV} (h:F171 t0 t1 s k kp):Ev Tryz.prog 171 [t0,t1] s k kp:=evA mixed Tryz.func171 [(0,[0,3,4]),(1,[4,6,7]),(2,[4,6,7,15]),(3,[4,5]),(4,[4,5])] (by kernel_rfl) (by kernel_rfl) h
def F172 (t0 t1:AV) (s:AHeap) (k kp:KP):Prop :=
stepK (aBox t1 s) fun t3 s =>
fA 0 t3 s fun t7 s =>
lF t7 s fun t8 s =>
bP .neq t8 (.val (.int .u8 2)) s fun t9 s =>
gR t9 false (aFieldAddr 1 t3) (fun t11 s =>
gR t9 false (aLoad false 1 t11 s) (fun t12 s =>
gR t9 false (aBin .neq .prim t12 (.val (.int .i64 0))) (fun t13 s =>
pK t9 (.val (.bool true)) t13 s fun t14 s =>
condK t14 (
k (.tup [(.val (.pointer Option.none)),(.val (.int .i64 1))]) s
) (
fA 2 t3 s fun t17 s =>
lF t17 s fun t18 s =>
stepK (aBuildSlice 1 1 [.val (.int .i64 0)] [(0,t18)] s) fun t19 s =>
Ev Tryz.prog 125 [t0,t19] s (fun t20 s =>
stepK (pureR s (aNot t20)) fun t21 s =>
condK t21 (
k (.tup [(.val (.pointer Option.none)),(.val (.int .i64 6))]) s
) (
fA 3 t3 s fun t23 s =>
lF t23 s fun t24 s =>
bP .lss t24 (.val (.int .i64 0)) s fun t25 s =>
gR t25 false (aFieldAddr 3 t3) (fun t27 s =>
gR t25 false (aLoad false 1 t27 s) (fun t28 s =>
gK t25 false (fun K=>K t0 s) (fun t29 s =>
gR t25 false (aNilCheck t29) (fun t30 s =>
gR t25 false (aFieldAddr 2 t30) (fun t31 s =>
gR t25 false (aLoad false 1 t31 s) (fun t32 s =>
gR t25 false (aFieldAddr 2 t3) (fun t33 s =>
gR t25 false (aLoad false 1 t33 s) (fun t34 s =>
gR t25 false (aLookup (.int .i64) (.val (.slice none 0 0)) false t32 t34 s) (fun t35 s =>
gR t25 false (aLenK .slice t35 s) (fun t36 s =>
gR t25 false (aBin .geq .prim t28 t36) (fun t37 s =>
pK t25 (.val (.bool true)) t37 s fun t38 s =>
condK t38 (
k (.tup [(.val (.pointer Option.none)),(.val (.int .i64 1))]) s
) (
stepK (pureR s (aNilCheck t0)) fun t40 s =>
fA 2 t40 s fun t41 s =>
lF t41 s fun t42 s =>
fA 2 t3 s fun t43 s =>
lF t43 s fun t44 s =>
stepK (pureR s (aLookup (.int .i64) (.val (.slice none 0 0)) false t42 t44 s)) fun t45 s =>
fA 3 t3 s fun t46 s =>
lF t46 s fun t47 s =>
iA 10 t45 t47 s fun t48 s =>
k (.tup [t48,(.val (.int .i64 0))]) s
)
) s) s) s) s) s) s) s) s) s) s) s)
) kp)) s) s) s
theorem F172_ev {t0 t1:AV} (h:F172 t0 t1 s k kp):Ev Tryz.prog 172 [t0,t1] s k kp:=evA mixed Tryz.func172 [(0,[0,3]),(1,[0,3,6]),(2,[4,5]),(3,[0,3,15]),(4,[4,5]),(5,[0,3,22]),(2005,[0,1,2,3,4,5,6,7,8,9,10,11,12,13,14,15,16]),(6,[4,5]),(7,[4,5]),(2007,[0,1,2,3,4,5,6,7,8,9,10,11])] (by kernel_rfl) (by kernel_rfl) h
end Go.Proofs.MacD
