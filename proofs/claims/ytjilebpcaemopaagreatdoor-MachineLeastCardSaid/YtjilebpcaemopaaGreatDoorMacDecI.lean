import Derived.Test.YtjilebpcaemopaaGreatDoorAbsK
import Derived.Test.YtjilebpcaemopaaGreatDoorProg
import Derived.KernelRfl
set_option maxRecDepth 100000
set_option linter.unusedVariables false
namespace Go.Proofs.MacD
open Go Go.Abs
def zMacDecI_0:List AV:=[.val (.int .u8 0),.val (.bool false),.val (.int .i64 0),.val (.string ByteArray.empty),.val (.int .i64 0),.val (.int .i64 0),.val (.int .i64 0),.val (.int .i64 0)]
@[simp ↓] theorem zMacDecI_0_eq:zMacDecI_0=[.val (.int .u8 0),.val (.bool false),.val (.int .i64 0),.val (.string ByteArray.empty),.val (.int .i64 0),.val (.int .i64 0),.val (.int .i64 0),.val (.int .i64 0)]:=nr0 rfl
def zMacDecI_1:List AV:=[.val (.int .i64 0),.val (.int .i64 0)]
@[simp ↓] theorem zMacDecI_1_eq:zMacDecI_1=[.val (.int .i64 0),.val (.int .i64 0)]:=nr0 rfl
variable {σ:AHeap} {k kp:KP}
theorem mixedI:Tryz.prog.follows .mixedOrders=true:=by kernel_rfl
def F9 (t0 t1 t2:AV) (σ:AHeap) (k kp:KP):Prop :=
stepK (aBox t0 σ) fun t3 σ =>
lT 19 t3 σ fun t12 σ =>
Ev Tryz.prog 10 [t12] σ (fun t13 σ =>
gK t13 false (fun K=>K t1 σ) (fun t15 σ =>
gR t13 false (aBin .gtr .prim t15 (.val (.int .i64 500))) (fun t16 σ =>
pK t13 (.val (.bool true)) t16 σ fun t17 σ =>
gK t17 false (fun K=>K t2 σ) (fun t19 σ =>
gR t17 false (aLenK .slice t19 σ) (fun t20 σ =>
gR t17 false (aBin .gtr .prim t20 (.val (.int .i64 10))) (fun t21 σ =>
pK t17 (.val (.bool true)) t21 σ fun t22 σ =>
condK t22 (
Ev Tryz.prog 11 [] σ (fun t23 σ =>
k t23 σ
) kp) (
lT 19 t3 σ fun t25 σ =>
Ev Tryz.prog 21 [t25,t1,t2] σ (fun t28 σ =>
eX 0 t28 σ fun t29 σ =>
eX 1 t28 σ fun t30 σ =>
aC zMacDecI_0 σ fun t7 σ =>
sT 8 t7 t29 σ fun σ =>
lT 19 t3 σ fun t32 σ =>
stepK (pureR σ (aBuild zMacDecI_1 [])) fun t34 σ =>
Ev Tryz.prog 13 [t32,t1,t34] σ (fun t35 σ =>
eX 0 t35 σ fun t36 σ =>
eX 1 t35 σ fun t37 σ =>
aC zMacDecI_0 σ fun t9 σ =>
sT 8 t9 t36 σ fun σ =>
seqW (fun fr σ=>(
bP .eql (lq fr 8) (lq fr 10) σ fun t64 σ =>
gR t64 true (aLoad true 8 (lq fr 7) σ) (fun t66 σ =>
gR t64 true (aLoad true 8 (lq fr 9) σ) (fun t67 σ =>
gR t64 true (aBin .eql (.agg [.i,.b,.i,.s,.i,.i,.i,.i]) t66 t67) (fun t68 σ =>
pK t64 t68 (.val (.bool false)) σ fun t69 σ =>
gK t69 true (fun K=>Ev Tryz.prog 11 [] σ K kp) (fun t71 σ =>
pK t69 t71 (.val (.bool false)) σ fun t72 σ =>
k t72 σ
) σ) σ) σ) σ)) (fun j1=>(
loopW (fun fr σ again=>(
stepK (pureR σ (aLenK .slice (lq fr 2) σ)) fun t40 σ =>
bP .lss (lq fr 11) t40 σ fun t41 σ =>
condK t41 (
lT 19 (lq fr 3) σ fun t45 σ =>
iA 2 (lq fr 2) (lq fr 11) σ fun t49 σ =>
lT 2 t49 σ fun t50 σ =>
Ev Tryz.prog 13 [t45,(lq fr 1),t50] σ (fun t51 σ =>
eX 0 t51 σ fun t52 σ =>
eX 1 t51 σ fun t53 σ =>
sT 8 (lq fr 9) t52 σ fun σ =>
bP .neq t53 (.val (.int .i64 0)) σ fun t55 σ =>
gR t55 false (aFieldAddr 0 (lq fr 9)) (fun t57 σ =>
gR t55 false (aFieldAddr 0 t57) (fun t58 σ =>
gR t55 false (aLoad false 1 t58 σ) (fun t59 σ =>
gR t55 false (aBin .neq .prim t59 (.val (.int .u8 4))) (fun t60 σ =>
pK t55 (.val (.bool true)) t60 σ fun t61 σ =>
condK t61 (
j1 [(7,(lq fr 7)),(8,(lq fr 8)),(9,(lq fr 9)),(10,t53)] σ
) (
bP .add (lq fr 11) (.val (.int .i64 1)) σ fun t43 σ =>
again [(1,(lq fr 1)),(2,(lq fr 2)),(3,(lq fr 3)),(7,(lq fr 7)),(8,(lq fr 8)),(9,(lq fr 9)),(10,t53),(11,t43)] σ
)
) σ) σ) σ) σ) kp) (
j1 [(7,(lq fr 7)),(8,(lq fr 8)),(9,(lq fr 9)),(10,(lq fr 10))] σ
)
)) [(1,t1),(2,t2),(3,t3),(7,t7),(8,t30),(9,t9),(10,t37),(11,(.val (.int .i64 0)))] σ
))
) kp) kp)) σ) σ) σ) σ) σ) kp
theorem F9_ev {t0 t1 t2:AV} (h:F9 t0 t1 t2 σ k kp):Ev Tryz.prog 9 [t0,t1,t2] σ k kp:=evA mixedI Tryz.func9 [(0,[1,2,3]),(1,[1,2,3,22]),(2,[6]),(3,[1,2,3,7,8]),(4,[1,2,3,7,8,9,10]),(3011,[7,8,9,10]),(5,[1,2,3,7,8,9,10,11]),(6,[1,2,3,7,8,9,10,11,41]),(8,[1,2,3,7,8,9,10,11]),(2008,[0,1,2,3,4,5,6,7,8,9,10,11]),(9,[1,2,3,7,8,9,10,11,61]),(7,[1,2,3,7,8,9,10,11]),(1006,[1,2,3,7,8,9,10,11]),(10,[6])] (by kernel_rfl) (by kernel_rfl) h
def F21 (t0 t1 t2:AV) (σ:AHeap) (k kp:KP):Prop :=
stepK (aBox t0 σ) fun t3 σ =>
aC zMacDecI_0 σ fun t6 σ =>
stepK (pureR σ (aLenK .slice t2 σ)) fun t13 σ =>
bP .eql t13 (.val (.int .i64 0)) σ fun t14 σ =>
condK t14 (
lT 19 t3 σ fun t15 σ =>
stepK (pureR σ (aBuild zMacDecI_1 [])) fun t17 σ =>
Ev Tryz.prog 12 [t15,t1,t17] σ (fun t18 σ =>
eX 0 t18 σ fun t19 σ =>
eX 1 t18 σ fun t20 σ =>
sT 8 t6 t19 σ fun σ =>
stepV (aLoad true 8 t6 σ) fun r0 =>
k (.tup [r0,t20]) σ
) kp) (
seqW (fun fr σ=>(
lT 19 (lq fr 3) σ fun t49 σ =>
stepK (pureR σ (aLenK .slice (lq fr 2) σ)) fun t53 σ =>
bP .sub t53 (.val (.int .i64 1)) σ fun t54 σ =>
iA 2 (lq fr 2) t54 σ fun t55 σ =>
lT 2 t55 σ fun t56 σ =>
Ev Tryz.prog 12 [t49,(lq fr 1),t56] σ (fun t57 σ =>
eX 0 t57 σ fun t58 σ =>
eX 1 t57 σ fun t59 σ =>
sT 8 (lq fr 6) t58 σ fun σ =>
stepV (aLoad true 8 (lq fr 6) σ) fun r0 =>
k (.tup [r0,t59]) σ
) kp)) (fun j1=>(
stepK (pureR σ (aLenK .slice t2 σ)) fun t23 σ =>
bP .sub t23 (.val (.int .i64 1)) σ fun t24 σ =>
stepK (pureR σ (aSlice 2 t2 none (some t24) none)) fun t25 σ =>
stepK (pureR σ (aLenK .slice t25 σ)) fun t26 σ =>
loopW (fun fr σ again=>(
bP .lss (lq fr 27) (lq fr 26) σ fun t28 σ =>
condK t28 (
iA 2 (lq fr 25) (lq fr 27) σ fun t29 σ =>
lT 2 t29 σ fun t30 σ =>
aC zMacDecI_1 σ fun t9 σ =>
sT 2 t9 t30 σ fun σ =>
lT 19 (lq fr 3) σ fun t32 σ =>
lT 2 t9 σ fun t34 σ =>
Ev Tryz.prog 12 [t32,(lq fr 1),t34] σ (fun t35 σ =>
eX 0 t35 σ fun t36 σ =>
eX 1 t35 σ fun t37 σ =>
aC zMacDecI_0 σ fun t10 σ =>
sT 8 t10 t36 σ fun σ =>
bP .neq t37 (.val (.int .i64 0)) σ fun t39 σ =>
gR t39 false (aFieldAddr 0 t10) (fun t41 σ =>
gR t39 false (aFieldAddr 0 t41) (fun t42 σ =>
gR t39 false (aLoad false 1 t42 σ) (fun t43 σ =>
gR t39 false (aBin .neq .prim t43 (.val (.int .u8 4))) (fun t44 σ =>
pK t39 (.val (.bool true)) t44 σ fun t45 σ =>
condK t45 (
lT 8 t10 σ fun t46 σ =>
sT 8 (lq fr 6) t46 σ fun σ =>
stepV (aLoad true 8 (lq fr 6) σ) fun r0 =>
k (.tup [r0,t37]) σ
) (
bP .add (lq fr 27) (.val (.int .i64 1)) σ fun t48 σ =>
again [(1,(lq fr 1)),(2,(lq fr 2)),(3,(lq fr 3)),(6,(lq fr 6)),(25,(lq fr 25)),(26,(lq fr 26)),(27,t48)] σ
)
) σ) σ) σ) σ) kp) (
j1 [(1,(lq fr 1)),(2,(lq fr 2)),(3,(lq fr 3)),(6,(lq fr 6))] σ
)
)) [(1,t1),(2,t2),(3,t3),(6,t6),(25,t25),(26,t26),(27,(.val (.int .i64 0)))] σ
))
)
theorem F21_ev {t0 t1 t2:AV} (h:F21 t0 t1 t2 σ k kp):Ev Tryz.prog 21 [t0,t1,t2] σ k kp:=evA mixedI Tryz.func21 [(0,[1,2,3,6]),(1,[1,2,3,6,14]),(2,[6,7]),(3011,[1,2,3,6]),(3,[1,2,3,6,25,26,27]),(4,[1,2,3,6,25,26,27,28]),(5,[1,2,3,6,9,25,26,27]),(6,[1,2,3,6,10,11,25,26,27]),(7,[1,2,3,6,10,11,25,26,27,45]),(8,[6,7]),(9,[1,2,3,6,25,26,27]),(1004,[1,2,3,6,25,26,27]),(10,[6,7]),(2010,[0,1,2,3,4,5,6,7,8,9,10,11,12])] (by kernel_rfl) (by kernel_rfl) h
end Go.Proofs.MacD
