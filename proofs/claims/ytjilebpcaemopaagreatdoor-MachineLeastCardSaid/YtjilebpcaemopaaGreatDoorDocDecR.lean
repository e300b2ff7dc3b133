import Derived.Test.YtjilebpcaemopaaGreatDoorAbsK
import Derived.Test.YtjilebpcaemopaaGreatDoorProg
import Derived.KernelRfl
set_option maxRecDepth 100000
set_option linter.unusedVariables false
namespace Go.Proofs.DocD
open Go Go.Abs
def zDocDecR_0:List AV:=[.val (.int .u8 0),.val (.bool false),.val (.int .i64 0),.val (.string ByteArray.empty),.val (.int .i64 0),.val (.int .i64 0),.val (.int .i64 0),.val (.int .i64 0)]
@[simp ↓] theorem zDocDecR_0_eq:zDocDecR_0=[.val (.int .u8 0),.val (.bool false),.val (.int .i64 0),.val (.string ByteArray.empty),.val (.int .i64 0),.val (.int .i64 0),.val (.int .i64 0),.val (.int .i64 0)]:=nr0 rfl
def zDocDecR_1:List AV:=[.val (.int .u8 0),.val (.bool false),.val (.int .i64 0),.val (.string ByteArray.empty)]
@[simp ↓] theorem zDocDecR_1_eq:zDocDecR_1=[.val (.int .u8 0),.val (.bool false),.val (.int .i64 0),.val (.string ByteArray.empty)]:=nr0 rfl
def zDocDecR_2:List AV:=[.val (.slice none 0 0),.val (.slice none 0 0)]
@[simp ↓] theorem zDocDecR_2_eq:zDocDecR_2=[.val (.slice none 0 0),.val (.slice none 0 0)]:=nr0 rfl
def zDocDecR_3:List AV:=[.val (.int .i64 0),.val (.int .i64 0),.val (.slice none 0 0),.val (.int .i64 0),.val (.int .i64 0),.val (.int .i64 0),.val (.slice none 0 0),.val (.int .u8 0),.val (.bool false),.val (.string ByteArray.empty),.val (.int .i64 0)]
@[simp ↓] theorem zDocDecR_3_eq:zDocDecR_3=[.val (.int .i64 0),.val (.int .i64 0),.val (.slice none 0 0),.val (.int .i64 0),.val (.int .i64 0),.val (.int .i64 0),.val (.slice none 0 0),.val (.int .u8 0),.val (.bool false),.val (.string ByteArray.empty),.val (.int .i64 0)]:=nr0 rfl
def zDocDecR_4:List AV:=[.val (.int .u8 0),.val (.int .i64 0),.val (.int .i64 0),.val (.int .i64 0)]
@[simp ↓] theorem zDocDecR_4_eq:zDocDecR_4=[.val (.int .u8 0),.val (.int .i64 0),.val (.int .i64 0),.val (.int .i64 0)]:=nr0 rfl
variable {s:AHeap} {k kp:KP}
theorem mixedD2:Tryz.prog.follows .mixedOrders=true:=by kernel_rfl
def F13 (t0 t1 t2:AV) (s:AHeap) (k kp:KP):Prop :=
stepK (aBox t0 s) fun t3 s =>
stepK (aBox t2 s) fun t5 s =>
aC zDocDecR_0 s fun t6 s =>
lT 19 t3 s fun t11 s =>
Ev Tryz.prog 15 [t11] s (fun t12 s =>
stepK (pureR s (aNot t12)) fun t13 s =>
condK t13 (
stepK (pureR s (aBuild zDocDecR_0 [])) fun t14 s =>
sT 8 t6 t14 s fun s =>
stepV (aLoad true 8 t6 s) fun r0 =>
k (.tup [r0,(.val (.int .i64 1))]) s
) (
seqW (fun fr s=>(
seqW (fun fr s=>(
fA 5 (lq fr 8) s fun t27 s =>
lF t27 s fun t28 s =>
fA 0 (lq fr 8) s fun t29 s =>
fA 3 t29 s fun t30 s =>
lF t30 s fun t31 s =>
stepK (pureR s (aBuild zDocDecR_0 [(4,1,t28),(7,1,t31)])) fun t32 s =>
aC zDocDecR_0 s fun t10 s =>
sT 8 t10 t32 s fun s =>
fA 0 (lq fr 8) s fun t34 s =>
lT 4 t34 s fun t35 s =>
Ev Tryz.prog 32 [t35] s (fun t36 s =>
eX 0 t36 s fun t37 s =>
eX 1 t36 s fun t38 s =>
fA 5 t10 s fun t39 s =>
sT 1 t39 t37 s fun s =>
fA 6 t10 s fun t40 s =>
sT 1 t40 t38 s fun s =>
fA 7 (lq fr 8) s fun t41 s =>
lF t41 s fun t42 s =>
stepK (pureR s (aBuild zDocDecR_1 [(0,1,t42)])) fun t43 s =>
fA 0 t10 s fun t44 s =>
sT 4 t44 t43 s fun s =>
seqW (fun fr s=>(
seqW (fun fr s=>(
lT 8 (lq fr 10) s fun t75 s =>
sT 8 (lq fr 6) t75 s fun s =>
stepV (aLoad true 8 (lq fr 6) s) fun r0 =>
k (.tup [r0,(.val (.int .i64 0))]) s
)) (fun j4=>(
fA 7 (lq fr 8) s fun t58 s =>
lF t58 s fun t59 s =>
bP .eql t59 (.val (.int .u8 0)) s fun t60 s =>
gR t60 true (aFieldAddr 8 (lq fr 8)) (fun t62 s =>
gR t60 true (aLoad false 1 t62 s) (fun t63 s =>
gR t60 true (aNot t63) (fun t64 s =>
pK t60 t64 (.val (.bool false)) s fun t65 s =>
condK t65 (
stepK (pureR s (aBuild zDocDecR_1 [(0,1,(.val (.int .u8 1)))])) fun t66 s =>
fA 0 (lq fr 10) s fun t67 s =>
sT 4 t67 t66 s fun s =>
fA 0 (lq fr 9) s fun t68 s =>
lF t68 s fun t69 s =>
bP .eql t69 (.val (.int .u8 1)) s fun t70 s =>
condK t70 (
fA 1 (lq fr 9) s fun t71 s =>
lF t71 s fun t72 s =>
stepK (pureR s (aBuild zDocDecR_1 [(0,1,(.val (.int .u8 1))),(1,1,(.val (.bool true))),(2,1,t72)])) fun t73 s =>
fA 0 (lq fr 10) s fun t74 s =>
sT 4 t74 t73 s fun s =>
j4 [(6,(lq fr 6)),(10,(lq fr 10))] s
) (
j4 [(6,(lq fr 6)),(10,(lq fr 10))] s
)
) (
j4 [(6,(lq fr 6)),(10,(lq fr 10))] s
)
) s) s) s))
)) (fun j3=>(
fA 7 (lq fr 8) s fun t45 s =>
lF t45 s fun t46 s =>
bP .eql t46 (.val (.int .u8 0)) s fun t47 s =>
gR t47 true (aFieldAddr 8 (lq fr 8)) (fun t49 s =>
gR t47 true (aLoad false 1 t49 s) (fun t50 s =>
pK t47 t50 (.val (.bool false)) s fun t51 s =>
condK t51 (
fA 10 (lq fr 8) s fun t52 s =>
lF t52 s fun t53 s =>
fA 9 (lq fr 8) s fun t54 s =>
lF t54 s fun t55 s =>
stepK (pureR s (aBuild zDocDecR_1 [(0,1,(.val (.int .u8 2))),(2,1,t53),(3,1,t55)])) fun t56 s =>
fA 0 t10 s fun t57 s =>
sT 4 t57 t56 s fun s =>
j3 [(6,(lq fr 6)),(8,(lq fr 8)),(9,(lq fr 9)),(10,t10)] s
) (
j3 [(6,(lq fr 6)),(8,(lq fr 8)),(9,(lq fr 9)),(10,t10)] s
)
) s) s))
) kp)) (fun j2=>(
(
lT 2 (lq fr 5) s fun t18 s =>
lT 19 (lq fr 3) s fun t22 s =>
stepK (pureR s (aBuild zDocDecR_2 [])) fun t23 s =>
Ev Tryz.prog 30 [t18] s (fun t19 s =>
rg s (aLoad true 19 (lq fr 3) s) t22 (
stepK (pureR s (aBuild zDocDecR_3 [(0,4,t19),(4,1,(lq fr 1))])) fun t21 s =>
Ev Tryz.prog 31 [t21,t22,t23] s (fun t24 s =>
eX 0 t24 s fun t25 s =>
eX 1 t24 s fun t26 s =>
aC zDocDecR_3 s fun t8 s =>
rg s (aLoad true 2 (lq fr 5) s) t18 (
rg s (aLoad true 19 (lq fr 3) s) t22 (
aC zDocDecR_4 s fun t9 s =>
rg s (aLoad true 2 (lq fr 5) s) t18 (
rg s (aLoad true 19 (lq fr 3) s) t22 (
sT 11 t8 t25 s fun s =>
sT 4 t9 t26 s fun s =>
j2 [(6,(lq fr 6)),(8,t8),(9,t9)] s
))))) kp)) kp)∧(
(
lT 2 (lq fr 5) s fun t18 s =>
lT 19 (lq fr 3) s fun t22 s =>
stepK (pureR s (aBuild zDocDecR_2 [])) fun t23 s =>
Ev Tryz.prog 30 [t18] s (fun t19 s =>
rg s (aLoad true 19 (lq fr 3) s) t22 (
stepK (pureR s (aBuild zDocDecR_3 [(0,4,t19),(4,1,(lq fr 1))])) fun t21 s =>
Ev Tryz.prog 31 [t21,t22,t23] s (fun t24 s =>
eX 0 t24 s fun t25 s =>
eX 1 t24 s fun t26 s =>
aC zDocDecR_4 s fun t9 s =>
rg s (aLoad true 2 (lq fr 5) s) t18 (
rg s (aLoad true 19 (lq fr 3) s) t22 (
aC zDocDecR_3 s fun t8 s =>
rg s (aLoad true 2 (lq fr 5) s) t18 (
rg s (aLoad true 19 (lq fr 3) s) t22 (
sT 11 t8 t25 s fun s =>
sT 4 t9 t26 s fun s =>
j2 [(6,(lq fr 6)),(8,t8),(9,t9)] s
))))) kp)) kp)∧(
(
lT 2 (lq fr 5) s fun t18 s =>
lT 19 (lq fr 3) s fun t22 s =>
stepK (pureR s (aBuild zDocDecR_2 [])) fun t23 s =>
Ev Tryz.prog 30 [t18] s (fun t19 s =>
rg s (aLoad true 19 (lq fr 3) s) t22 (
stepK (pureR s (aBuild zDocDecR_3 [(0,4,t19),(4,1,(lq fr 1))])) fun t21 s =>
aC zDocDecR_3 s fun t8 s =>
rg s (aLoad true 2 (lq fr 5) s) t18 (
rg s (aLoad true 19 (lq fr 3) s) t22 (
Ev Tryz.prog 31 [t21,t22,t23] s (fun t24 s =>
eX 0 t24 s fun t25 s =>
eX 1 t24 s fun t26 s =>
aC zDocDecR_4 s fun t9 s =>
rg s (aLoad true 2 (lq fr 5) s) t18 (
rg s (aLoad true 19 (lq fr 3) s) t22 (
sT 11 t8 t25 s fun s =>
sT 4 t9 t26 s fun s =>
j2 [(6,(lq fr 6)),(8,t8),(9,t9)] s
))) kp)))) kp)∧(
(
lT 2 (lq fr 5) s fun t18 s =>
lT 19 (lq fr 3) s fun t22 s =>
stepK (pureR s (aBuild zDocDecR_2 [])) fun t23 s =>
Ev Tryz.prog 30 [t18] s (fun t19 s =>
rg s (aLoad true 19 (lq fr 3) s) t22 (
stepK (pureR s (aBuild zDocDecR_3 [(0,4,t19),(4,1,(lq fr 1))])) fun t21 s =>
aC zDocDecR_3 s fun t8 s =>
rg s (aLoad true 2 (lq fr 5) s) t18 (
rg s (aLoad true 19 (lq fr 3) s) t22 (
aC zDocDecR_4 s fun t9 s =>
rg s (aLoad true 2 (lq fr 5) s) t18 (
rg s (aLoad true 19 (lq fr 3) s) t22 (
Ev Tryz.prog 31 [t21,t22,t23] s (fun t24 s =>
eX 0 t24 s fun t25 s =>
eX 1 t24 s fun t26 s =>
sT 11 t8 t25 s fun s =>
sT 4 t9 t26 s fun s =>
j2 [(6,(lq fr 6)),(8,t8),(9,t9)] s
) kp)))))) kp)∧(
(
lT 2 (lq fr 5) s fun t18 s =>
lT 19 (lq fr 3) s fun t22 s =>
stepK (pureR s (aBuild zDocDecR_2 [])) fun t23 s =>
Ev Tryz.prog 30 [t18] s (fun t19 s =>
rg s (aLoad true 19 (lq fr 3) s) t22 (
stepK (pureR s (aBuild zDocDecR_3 [(0,4,t19),(4,1,(lq fr 1))])) fun t21 s =>
aC zDocDecR_4 s fun t9 s =>
rg s (aLoad true 2 (lq fr 5) s) t18 (
rg s (aLoad true 19 (lq fr 3) s) t22 (
Ev Tryz.prog 31 [t21,t22,t23] s (fun t24 s =>
eX 0 t24 s fun t25 s =>
eX 1 t24 s fun t26 s =>
aC zDocDecR_3 s fun t8 s =>
rg s (aLoad true 2 (lq fr 5) s) t18 (
rg s (aLoad true 19 (lq fr 3) s) t22 (
sT 11 t8 t25 s fun s =>
sT 4 t9 t26 s fun s =>
j2 [(6,(lq fr 6)),(8,t8),(9,t9)] s
))) kp)))) kp)∧(
(
lT 2 (lq fr 5) s fun t18 s =>
lT 19 (lq fr 3) s fun t22 s =>
stepK (pureR s (aBuild zDocDecR_2 [])) fun t23 s =>
Ev Tryz.prog 30 [t18] s (fun t19 s =>
rg s (aLoad true 19 (lq fr 3) s) t22 (
stepK (pureR s (aBuild zDocDecR_3 [(0,4,t19),(4,1,(lq fr 1))])) fun t21 s =>
aC zDocDecR_4 s fun t9 s =>
rg s (aLoad true 2 (lq fr 5) s) t18 (
rg s (aLoad true 19 (lq fr 3) s) t22 (
aC zDocDecR_3 s fun t8 s =>
rg s (aLoad true 2 (lq fr 5) s) t18 (
rg s (aLoad true 19 (lq fr 3) s) t22 (
Ev Tryz.prog 31 [t21,t22,t23] s (fun t24 s =>
eX 0 t24 s fun t25 s =>
eX 1 t24 s fun t26 s =>
sT 11 t8 t25 s fun s =>
sT 4 t9 t26 s fun s =>
j2 [(6,(lq fr 6)),(8,t8),(9,t9)] s
) kp)))))) kp)∧(
(
lT 2 (lq fr 5) s fun t18 s =>
lT 19 (lq fr 3) s fun t22 s =>
stepK (pureR s (aBuild zDocDecR_2 [])) fun t23 s =>
aC zDocDecR_3 s fun t8 s =>
rg s (aLoad true 2 (lq fr 5) s) t18 (
rg s (aLoad true 19 (lq fr 3) s) t22 (
Ev Tryz.prog 30 [t18] s (fun t19 s =>
rg s (aLoad true 19 (lq fr 3) s) t22 (
stepK (pureR s (aBuild zDocDecR_3 [(0,4,t19),(4,1,(lq fr 1))])) fun t21 s =>
Ev Tryz.prog 31 [t21,t22,t23] s (fun t24 s =>
eX 0 t24 s fun t25 s =>
eX 1 t24 s fun t26 s =>
aC zDocDecR_4 s fun t9 s =>
rg s (aLoad true 2 (lq fr 5) s) t18 (
rg s (aLoad true 19 (lq fr 3) s) t22 (
sT 11 t8 t25 s fun s =>
sT 4 t9 t26 s fun s =>
j2 [(6,(lq fr 6)),(8,t8),(9,t9)] s
))) kp)) kp)))∧(
(
lT 2 (lq fr 5) s fun t18 s =>
lT 19 (lq fr 3) s fun t22 s =>
stepK (pureR s (aBuild zDocDecR_2 [])) fun t23 s =>
aC zDocDecR_3 s fun t8 s =>
rg s (aLoad true 2 (lq fr 5) s) t18 (
rg s (aLoad true 19 (lq fr 3) s) t22 (
Ev Tryz.prog 30 [t18] s (fun t19 s =>
rg s (aLoad true 19 (lq fr 3) s) t22 (
stepK (pureR s (aBuild zDocDecR_3 [(0,4,t19),(4,1,(lq fr 1))])) fun t21 s =>
aC zDocDecR_4 s fun t9 s =>
rg s (aLoad true 2 (lq fr 5) s) t18 (
rg s (aLoad true 19 (lq fr 3) s) t22 (
Ev Tryz.prog 31 [t21,t22,t23] s (fun t24 s =>
eX 0 t24 s fun t25 s =>
eX 1 t24 s fun t26 s =>
sT 11 t8 t25 s fun s =>
sT 4 t9 t26 s fun s =>
j2 [(6,(lq fr 6)),(8,t8),(9,t9)] s
) kp)))) kp)))∧(
(
lT 2 (lq fr 5) s fun t18 s =>
lT 19 (lq fr 3) s fun t22 s =>
stepK (pureR s (aBuild zDocDecR_2 [])) fun t23 s =>
aC zDocDecR_3 s fun t8 s =>
rg s (aLoad true 2 (lq fr 5) s) t18 (
rg s (aLoad true 19 (lq fr 3) s) t22 (
aC zDocDecR_4 s fun t9 s =>
rg s (aLoad true 2 (lq fr 5) s) t18 (
rg s (aLoad true 19 (lq fr 3) s) t22 (
Ev Tryz.prog 30 [t18] s (fun t19 s =>
rg s (aLoad true 19 (lq fr 3) s) t22 (
stepK (pureR s (aBuild zDocDecR_3 [(0,4,t19),(4,1,(lq fr 1))])) fun t21 s =>
Ev Tryz.prog 31 [t21,t22,t23] s (fun t24 s =>
eX 0 t24 s fun t25 s =>
eX 1 t24 s fun t26 s =>
sT 11 t8 t25 s fun s =>
sT 4 t9 t26 s fun s =>
j2 [(6,(lq fr 6)),(8,t8),(9,t9)] s
) kp)) kp)))))∧(
(
lT 2 (lq fr 5) s fun t18 s =>
lT 19 (lq fr 3) s fun t22 s =>
stepK (pureR s (aBuild zDocDecR_2 [])) fun t23 s =>
aC zDocDecR_4 s fun t9 s =>
rg s (aLoad true 2 (lq fr 5) s) t18 (
rg s (aLoad true 19 (lq fr 3) s) t22 (
Ev Tryz.prog 30 [t18] s (fun t19 s =>
rg s (aLoad true 19 (lq fr 3) s) t22 (
stepK (pureR s (aBuild zDocDecR_3 [(0,4,t19),(4,1,(lq fr 1))])) fun t21 s =>
Ev Tryz.prog 31 [t21,t22,t23] s (fun t24 s =>
eX 0 t24 s fun t25 s =>
eX 1 t24 s fun t26 s =>
aC zDocDecR_3 s fun t8 s =>
rg s (aLoad true 2 (lq fr 5) s) t18 (
rg s (aLoad true 19 (lq fr 3) s) t22 (
sT 11 t8 t25 s fun s =>
sT 4 t9 t26 s fun s =>
j2 [(6,(lq fr 6)),(8,t8),(9,t9)] s
))) kp)) kp)))∧(
(
lT 2 (lq fr 5) s fun t18 s =>
lT 19 (lq fr 3) s fun t22 s =>
stepK (pureR s (aBuild zDocDecR_2 [])) fun t23 s =>
aC zDocDecR_4 s fun t9 s =>
rg s (aLoad true 2 (lq fr 5) s) t18 (
rg s (aLoad true 19 (lq fr 3) s) t22 (
Ev Tryz.prog 30 [t18] s (fun t19 s =>
rg s (aLoad true 19 (lq fr 3) s) t22 (
stepK (pureR s (aBuild zDocDecR_3 [(0,4,t19),(4,1,(lq fr 1))])) fun t21 s =>
aC zDocDecR_3 s fun t8 s =>
rg s (aLoad true 2 (lq fr 5) s) t18 (
rg s (aLoad true 19 (lq fr 3) s) t22 (
Ev Tryz.prog 31 [t21,t22,t23] s (fun t24 s =>
eX 0 t24 s fun t25 s =>
eX 1 t24 s fun t26 s =>
sT 11 t8 t25 s fun s =>
sT 4 t9 t26 s fun s =>
j2 [(6,(lq fr 6)),(8,t8),(9,t9)] s
) kp)))) kp)))∧(
lT 2 (lq fr 5) s fun t18 s =>
lT 19 (lq fr 3) s fun t22 s =>
stepK (pureR s (aBuild zDocDecR_2 [])) fun t23 s =>
aC zDocDecR_4 s fun t9 s =>
rg s (aLoad true 2 (lq fr 5) s) t18 (
rg s (aLoad true 19 (lq fr 3) s) t22 (
aC zDocDecR_3 s fun t8 s =>
rg s (aLoad true 2 (lq fr 5) s) t18 (
rg s (aLoad true 19 (lq fr 3) s) t22 (
Ev Tryz.prog 30 [t18] s (fun t19 s =>
rg s (aLoad true 19 (lq fr 3) s) t22 (
stepK (pureR s (aBuild zDocDecR_3 [(0,4,t19),(4,1,(lq fr 1))])) fun t21 s =>
Ev Tryz.prog 31 [t21,t22,t23] s (fun t24 s =>
eX 0 t24 s fun t25 s =>
eX 1 t24 s fun t26 s =>
sT 11 t8 t25 s fun s =>
sT 4 t9 t26 s fun s =>
j2 [(6,(lq fr 6)),(8,t8),(9,t9)] s
) kp)) kp)))))))))))))))))
)) (fun j1=>(
bP .lss t1 (.val (.int .i64 0)) s fun t16 s =>
condK t16 (
j1 [(1,(.val (.int .i64 0))),(3,t3),(5,t5),(6,t6)] s
) (
j1 [(1,t1),(3,t3),(5,t5),(6,t6)] s
)
))
)) kp
theorem F13_ev {t0 t1 t2:AV} (h:F13 t0 t1 t2 s k kp):Ev Tryz.prog 13 [t0,t1,t2] s k kp:=evA mixedD2 Tryz.func13 [(0,[1,3,5,6]),(1,[1,3,5,6,13]),(2,[6,7]),(3006,[1,3,5,6]),(3,[1,3,5,6,16]),(4,[1,3,5,6]),(3007,[6,8,9]),(5,[6,8,9]),(2005,[0,2,4,5,1,3,6,7,8,9,10,11,12,13]),(105001,[4]),(105010,[0,4]),(105011,[0,4]),(60005,[1,2,3,4,5,6,7,8,9,10,11]),(19000005,[0,2,4,5,1,3,6,7,8,9,11,10,12,13]),(10005001,[4]),(10005010,[0,4]),(10005011,[0,4]),(29000005,[0,2,4,5,1,3,10,6,7,8,9,11,12,13]),(20005001,[4]),(20005010,[0,4]),(20005011,[0,4]),(39000005,[0,2,4,5,1,3,10,11,6,7,8,9,12,13]),(30005001,[4]),(30005010,[0,4]),(30005011,[0,4]),(49000005,[0,2,4,5,1,3,11,6,7,8,9,10,12,13]),(40005001,[4]),(40005010,[0,4]),(40005011,[0,4]),(59000005,[0,2,4,5,1,3,11,10,6,7,8,9,12,13]),(50005001,[4]),(50005010,[0,4]),(50005011,[0,4]),(69000005,[0,2,4,5,10,1,3,6,7,8,9,11,12,13]),(60005001,[4]),(60005010,[0,4]),(60005011,[0,4]),(79000005,[0,2,4,5,10,1,3,11,6,7,8,9,12,13]),(70005001,[4]),(70005010,[0,4]),(70005011,[0,4]),(89000005,[0,2,4,5,10,11,1,3,6,7,8,9,12,13]),(80005001,[4]),(80005010,[0,4]),(80005011,[0,4]),(99000005,[0,2,4,5,11,1,3,6,7,8,9,10,12,13]),(90005001,[4]),(90005010,[0,4]),(90005011,[0,4]),(109000005,[0,2,4,5,11,1,3,10,6,7,8,9,12,13]),(100005001,[4]),(100005010,[0,4]),(100005011,[0,4]),(119000005,[0,2,4,5,11,10,1,3,6,7,8,9,12,13]),(110005001,[4]),(110005010,[0,4]),(110005011,[0,4]),(6,[6,8,9,10]),(7,[6,8,9,10]),(8,[6,8,9,10]),(3012,[6,8,9,10]),(9,[6,8,9,10,51]),(10,[6,8,9,10]),(3016,[6,10]),(11,[6,9,10,65]),(12,[6,9,10]),(13,[6,9,10,70]),(14,[6,10]),(15,[6,7])] (by kernel_rfl) (by kernel_rfl) h
end Go.Proofs.DocD
