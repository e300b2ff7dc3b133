import Derived.Test.YtjilebpcaemopaaGreatDoorAbsK
import Derived.Test.YtjilebpcaemopaaGreatDoorProg
import Derived.KernelRfl
set_option maxRecDepth 100000
set_option linter.unusedVariables false
namespace Go.Proofs.AtD
open Go Go.Abs
def zAtermDecA_0:List AV:=[.val (.int .u8 0),.val (.int .u8 0),.val (.int .i64 0),.val (.int .i64 0),.val (.string ByteArray.empty),.val (.string ByteArray.empty),.val (.string ByteArray.empty),.val (.int .i64 0),.val (.slice none 0 0),.val (.slice none 0 0),.val (.int .u8 0),.val (.int .i64 0),.val (.slice none 0 0),.val (.slice none 0 0),.val (.int .u8 0),.val (.int .i64 0),.val (.slice none 0 0),.val (.slice none 0 0),.val (.slice none 0 0)]
@[simp ↓] theorem zAtermDecA_0_eq:zAtermDecA_0=[.val (.int .u8 0),.val (.int .u8 0),.val (.int .i64 0),.val (.int .i64 0),.val (.string ByteArray.empty),.val (.string ByteArray.empty),.val (.string ByteArray.empty),.val (.int .i64 0),.val (.slice none 0 0),.val (.slice none 0 0),.val (.int .u8 0),.val (.int .i64 0),.val (.slice none 0 0),.val (.slice none 0 0),.val (.int .u8 0),.val (.int .i64 0),.val (.slice none 0 0),.val (.slice none 0 0),.val (.slice none 0 0)]:=nr0 rfl
def zAtermDecA_1:List AV:=[.val (.bool false),.val (.bool false),.val (.bool false),.val (.bool false),.val (.bool false)]
@[simp ↓] theorem zAtermDecA_1_eq:zAtermDecA_1=[.val (.bool false),.val (.bool false),.val (.bool false),.val (.bool false),.val (.bool false)]:=nr0 rfl
def zAtermDecA_2:List AV:=[.val (.int .u8 0),.val (.int .u8 0),.val (.int .i64 0),.val (.int .i64 0),.val (.string ByteArray.empty),.val (.string ByteArray.empty),.val (.string ByteArray.empty)]
@[simp ↓] theorem zAtermDecA_2_eq:zAtermDecA_2=[.val (.int .u8 0),.val (.int .u8 0),.val (.int .i64 0),.val (.int .i64 0),.val (.string ByteArray.empty),.val (.string ByteArray.empty),.val (.string ByteArray.empty)]:=nr0 rfl
def zAtermDecA_3:List AV:=[.val (.int .u8 0),.val (.int .i64 0),.val (.slice none 0 0),.val (.slice none 0 0)]
@[simp ↓] theorem zAtermDecA_3_eq:zAtermDecA_3=[.val (.int .u8 0),.val (.int .i64 0),.val (.slice none 0 0),.val (.slice none 0 0)]:=nr0 rfl
def zAtermDecA_4:List AV:=[.val (.int .u8 0),.val (.int .u8 0),.val (.int .i64 0),.val (.int .i64 0),.val (.string ByteArray.empty),.val (.string ByteArray.empty),.val (.string ByteArray.empty),.val (.slice none 0 0)]
@[simp ↓] theorem zAtermDecA_4_eq:zAtermDecA_4=[.val (.int .u8 0),.val (.int .u8 0),.val (.int .i64 0),.val (.int .i64 0),.val (.string ByteArray.empty),.val (.string ByteArray.empty),.val (.string ByteArray.empty),.val (.slice none 0 0)]:=nr0 rfl
def zAtermDecA_5:List AV:=[.val (.int .i64 0),.val (.string ByteArray.empty)]
@[simp ↓] theorem zAtermDecA_5_eq:zAtermDecA_5=[.val (.int .i64 0),.val (.string ByteArray.empty)]:=nr0 rfl
variable {σ:AHeap} {k kp:KP}
theorem mixed:Tryz.prog.follows .mixedOrders=true:=by kernel_rfl
def F22 (t0:AV) (σ:AHeap) (k kp:KP):Prop :=
stepK (aBox t0 σ) fun t1 σ =>
lT 19 t1 σ fun t3 σ =>
Ev Tryz.prog 38 [t3,(.val (.int .i64 400))] σ (fun t4 σ =>
bP .lss t4 (.val (.int .i64 0)) σ fun t5 σ =>
k t5 σ) kp
theorem F22_ev {t0:AV} (h:F22 t0 σ k kp):Ev Tryz.prog 22 [t0] σ k kp:=evA mixed Tryz.func22 [(0,[1]),(1,[2])] (by kernel_rfl) (by kernel_rfl) h
def F24 (t0:AV) (σ:AHeap) (k kp:KP):Prop :=
stepK (aBox t0 σ) fun t1 σ =>
lT 19 t1 σ fun t3 σ =>
stepK (pureR σ (aBuildSl 1 19 zAtermDecA_0 [(0,t3)])) fun t4 σ =>
Ev Tryz.prog 39 [t4] σ (fun t5 σ =>
bP .leq t5 (.val (.int .i64 40000)) σ fun t6 σ =>
gR t6 true (aLoad true 19 t1 σ) (fun t8 σ =>
gR t6 true (aBuildSl 1 19 zAtermDecA_0 [(0,t8)]) (fun t9 σ =>
gK t6 true (fun K=>Ev Tryz.prog 40 [(.fn (.func 41) []),t9] σ K kp) (fun t10 σ =>
pK t6 t10 (.val (.bool false)) σ fun t11 σ =>
k t11 σ) σ) σ) σ) kp
theorem F24_ev {t0:AV} (h:F24 t0 σ k kp):Ev Tryz.prog 24 [t0] σ k kp:=evA mixed Tryz.func24 [(0,[1]),(1,[2]),(4001,[1])] (by kernel_rfl) (by kernel_rfl) h
def F39 (t0:AV) (σ:AHeap) (k kp:KP):Prop :=
aC [.val (.int .i64 0)] σ fun t3 σ =>
sT 1 t3 (.val (.int .i64 0)) σ fun σ =>
Ev Tryz.prog 40 [(.fn (.func 71) [t3]),t0] σ (fun t6 σ =>
lF t3 σ fun t7 σ =>
k t7 σ) kp
theorem F39_ev {t0:AV} (h:F39 t0 σ k kp):Ev Tryz.prog 39 [t0] σ k kp:=evA mixed Tryz.func39 [(0,[0]),(1,[0,3]),(2,[3]),(3,[2])] (by kernel_rfl) (by kernel_rfl) h
def F38 (t0 t1:AV) (σ:AHeap) (k kp:KP):Prop :=
stepK (aBox t0 σ) fun t2 σ =>
bP .sub t1 (.val (.int .i64 1)) σ fun t7 σ =>
fA 0 t2 σ fun t8 σ =>
fA 4 t8 σ fun t9 σ =>
lF t9 σ fun t10 σ =>
stepK (pureR σ (aLenK .str t10 σ)) fun t11 σ =>
bP .gtr t11 (.val (.int .i64 100)) σ fun t12 σ =>
gR t12 false (aFieldAddr 0 t2) (fun t14 σ =>
gR t12 false (aFieldAddr 5 t14) (fun t15 σ =>
gR t12 false (aLoad false 1 t15 σ) (fun t16 σ =>
gR t12 false (aLenK .str t16 σ) (fun t17 σ =>
gR t12 false (aBin .gtr .prim t17 (.val (.int .i64 100))) (fun t18 σ =>
pK t12 (.val (.bool true)) t18 σ fun t19 σ =>
gR t19 false (aFieldAddr 0 t2) (fun t21 σ =>
gR t19 false (aFieldAddr 6 t21) (fun t22 σ =>
gR t19 false (aLoad false 1 t22 σ) (fun t23 σ =>
gR t19 false (aLenK .str t23 σ) (fun t24 σ =>
gR t19 false (aBin .gtr .prim t24 (.val (.int .i64 100))) (fun t25 σ =>
pK t19 (.val (.bool true)) t25 σ fun t26 σ =>
gR t26 false (aFieldAddr 8 t2) (fun t28 σ =>
gR t26 false (aLoad false 1 t28 σ) (fun t29 σ =>
gR t26 false (aLenK .slice t29 σ) (fun t30 σ =>
gR t26 false (aBin .gtr .prim t30 (.val (.int .i64 50))) (fun t31 σ =>
pK t26 (.val (.bool true)) t31 σ fun t32 σ =>
gR t32 false (aFieldAddr 9 t2) (fun t34 σ =>
gR t32 false (aLoad false 1 t34 σ) (fun t35 σ =>
gK t32 false (fun K=>Ev Tryz.prog 69 [t35] σ K kp) (fun t36 σ =>
pK t32 (.val (.bool true)) t36 σ fun t37 σ =>
gR t37 false (aFieldAddr 10 t2) (fun t39 σ =>
gR t37 false (aLoad true 4 t39 σ) (fun t40 σ =>
gK t37 false (fun K=>Ev Tryz.prog 70 [t40] σ K kp) (fun t41 σ =>
pK t37 (.val (.bool true)) t41 σ fun t42 σ =>
gR t42 false (aFieldAddr 14 t2) (fun t44 σ =>
gR t42 false (aLoad true 4 t44 σ) (fun t45 σ =>
gK t42 false (fun K=>Ev Tryz.prog 70 [t45] σ K kp) (fun t46 σ =>
pK t42 (.val (.bool true)) t46 σ fun t47 σ =>
condK t47 (
k (.val (.int .i64 (-1))) σ
) (
seqW (fun fr σ=>(
k (lq fr 1) σ
)) (fun j1=>(
loopW (fun fr σ again=>(
fA 18 (lq fr 2) σ fun t49 σ =>
lF t49 σ fun t50 σ =>
stepK (pureR σ (aLenK .slice t50 σ)) fun t51 σ =>
bP .lss (lq fr 5) t51 σ fun t52 σ =>
gK t52 true (fun K=>K (lq fr 1) σ) (fun t54 σ =>
gR t52 true (aBin .geq .prim t54 (.val (.int .i64 0))) (fun t55 σ =>
pK t52 t55 (.val (.bool false)) σ fun t56 σ =>
condK t56 (
fA 18 (lq fr 2) σ fun t59 σ =>
lF t59 σ fun t60 σ =>
iA 19 t60 (lq fr 5) σ fun t62 σ =>
lT 19 t62 σ fun t63 σ =>
Ev Tryz.prog 38 [t63,(lq fr 1)] σ (fun t65 σ =>
bP .add (lq fr 5) (.val (.int .i64 1)) σ fun t58 σ =>
again [(1,t65),(2,(lq fr 2)),(5,t58)] σ
) kp) (
j1 [(1,(lq fr 1))] σ
)
) σ) σ)) [(1,t7),(2,t2),(5,(.val (.int .i64 0)))] σ
))
)) σ) σ) σ) σ) σ) σ) σ) σ) σ) σ) σ) σ) σ) σ) σ) σ) σ) σ) σ) σ) σ) σ) σ
theorem F38_ev {t0 t1:AV} (h:F38 t0 t1 σ k kp):Ev Tryz.prog 38 [t0,t1] σ k kp:=evA mixed Tryz.func38 [(0,[1,2]),(1,[1,2]),(2,[1,2,47]),(3,[4]),(3009,[1]),(4,[1,2,5]),(5,[1,2,5,56]),(7,[1,2,5]),(6,[1,2,5]),(1005,[1,2,5]),(8,[4])] (by kernel_rfl) (by kernel_rfl) h
def F40 (t0 t1:AV) (σ:AHeap) (k kp:KP):Prop :=
seqW (fun fr σ=>(
k (.val (.bool true)) σ
)) (fun j1=>(
stepK (pureR σ (aLenK .slice t1 σ)) fun t8 σ =>
loopW (fun fr σ again=>(
bP .lss (lq fr 9) (lq fr 8) σ fun t10 σ =>
condK t10 (
iA 19 (lq fr 7) (lq fr 9) σ fun t11 σ =>
lT 19 t11 σ fun t12 σ =>
aC zAtermDecA_0 σ fun t6 σ =>
sT 19 t6 t12 σ fun σ =>
lT 19 t6 σ fun t14 σ =>
  callK Tryz.prog (lq fr 0) [t14] σ (fun t15 σ =>
stepK (pureR σ (aNot t15)) fun t16 σ =>
gK t16 false (fun K=>K (lq fr 0) σ) (fun t18 σ =>
gR t16 false (aFieldAddr 18 t6) (fun t19 σ =>
gR t16 false (aLoad false 1 t19 σ) (fun t20 σ =>
gK t16 false (fun K=>Ev Tryz.prog 40 [t18,t20] σ K kp) (fun t21 σ =>
gR t16 false (aNot t21) (fun t22 σ =>
pK t16 (.val (.bool true)) t22 σ fun t23 σ =>
condK t23 (
k (.val (.bool false)) σ
) (
bP .add (lq fr 9) (.val (.int .i64 1)) σ fun t24 σ =>
again [(0,(lq fr 0)),(7,(lq fr 7)),(8,(lq fr 8)),(9,t24)] σ
)
) σ) σ) σ) σ) σ) kp) (
j1 [(0,(lq fr 0))] σ
)
)) [(0,t0),(7,t1),(8,t8),(9,(.val (.int .i64 0)))] σ
))
theorem F40_ev {t0 t1:AV} (h:F40 t0 t1 σ k kp):Ev Tryz.prog 40 [t0,t1] σ k kp:=evA mixed Tryz.func40 [(0,[0,1]),(3008,[0]),(1,[0,7,8,9]),(2,[0,7,8,9,10]),(3,[0,6,7,8,9]),(4,[0,7,8,9,23]),(5,[4]),(6,[0,7,8,9]),(1002,[0,7,8,9]),(7,[4])] (by kernel_rfl) (by kernel_rfl) h
def F41 (t0:AV) (σ:AHeap) (k kp:KP):Prop :=
stepK (aBox t0 σ) fun t1 σ =>
fA 0 t1 σ fun t4 σ =>
fA 0 t4 σ fun t5 σ =>
lF t5 σ fun t6 σ =>
Ev Tryz.prog 72 [t6] σ (fun t7 σ =>
aC zAtermDecA_1 σ fun t3 σ =>
sT 5 t3 t7 σ fun σ =>
seqW (fun fr σ=>(
condK (lq fr 8) (
k (.val (.bool false)) σ
) (
seqW (fun fr σ=>(
condK (lq fr 26) (
k (.val (.bool false)) σ
) (
fA 3 (lq fr 3) σ fun t44 σ =>
lF t44 σ fun t45 σ =>
fA 10 (lq fr 1) σ fun t46 σ =>
lT 4 t46 σ fun t47 σ =>
Ev Tryz.prog 77 [t45,t47] σ (fun t48 σ =>
gR t48 true (aFieldAddr 4 (lq fr 3)) (fun t50 σ =>
gR t48 true (aLoad false 1 t50 σ) (fun t51 σ =>
gR t48 true (aFieldAddr 14 (lq fr 1)) (fun t52 σ =>
gR t48 true (aLoad true 4 t52 σ) (fun t53 σ =>
gK t48 true (fun K=>Ev Tryz.prog 77 [t51,t53] σ K kp) (fun t54 σ =>
pK t48 t54 (.val (.bool false)) σ fun t55 σ =>
k t55 σ
) σ) σ) σ) σ) σ) kp)
)) (fun j2=>(
fA 2 (lq fr 3) σ fun t27 σ =>
lF t27 σ fun t28 σ =>
gR t28 true (aFieldAddr 9 (lq fr 1)) (fun t30 σ =>
gR t28 true (aLoad false 1 t30 σ) (fun t31 σ =>
gK t28 true (fun K=>Ev Tryz.prog 76 [t31] σ K kp) (fun t32 σ =>
gR t28 true (aNot t32) (fun t33 σ =>
pK t28 t33 (.val (.bool false)) σ fun t34 σ =>
condK t34 (
j2 [(1,(lq fr 1)),(3,(lq fr 3)),(26,t34)] σ
) (
fA 2 (lq fr 3) σ fun t35 σ =>
lF t35 σ fun t36 σ =>
stepK (pureR σ (aNot t36)) fun t37 σ =>
gR t37 true (aFieldAddr 9 (lq fr 1)) (fun t39 σ =>
gR t37 true (aLoad false 1 t39 σ) (fun t40 σ =>
gR t37 true (aLenK .slice t40 σ) (fun t41 σ =>
gR t37 true (aBin .gtr .prim t41 (.val (.int .i64 0))) (fun t42 σ =>
pK t37 t42 (.val (.bool false)) σ fun t43 σ =>
j2 [(1,(lq fr 1)),(3,(lq fr 3)),(26,t43)] σ
) σ) σ) σ) σ)
) σ) σ) σ) σ))
)
)) (fun j1=>(
lT 19 t1 σ fun t9 σ =>
Ev Tryz.prog 73 [t9] σ (fun t10 σ =>
stepK (pureR σ (aNot t10)) fun t11 σ =>
condK t11 (
j1 [(1,t1),(3,t3),(8,t11)] σ
) (
lT 19 t1 σ fun t12 σ =>
lT 5 t3 σ fun t13 σ =>
Ev Tryz.prog 74 [t12,t13] σ (fun t14 σ =>
stepK (pureR σ (aNot t14)) fun t15 σ =>
condK t15 (
j1 [(1,t1),(3,t3),(8,t15)] σ
) (
fA 0 t1 σ fun t16 σ =>
fA 0 t16 σ fun t17 σ =>
lF t17 σ fun t18 σ =>
bP .eql t18 (.val (.int .u8 13)) σ fun t19 σ =>
gR t19 true (aFieldAddr 8 t1) (fun t21 σ =>
gR t19 true (aLoad false 1 t21 σ) (fun t22 σ =>
gK t19 true (fun K=>Ev Tryz.prog 75 [t22] σ K kp) (fun t23 σ =>
gR t19 true (aNot t23) (fun t24 σ =>
pK t19 t24 (.val (.bool false)) σ fun t25 σ =>
j1 [(1,t1),(3,t3),(8,t25)] σ
) σ) σ) σ) σ)
) kp)
) kp))) kp
theorem F41_ev {t0:AV} (h:F41 t0 σ k kp):Ev Tryz.prog 41 [t0] σ k kp:=evA mixed Tryz.func41 [(0,[1]),(1,[1,3]),(3006,[1,3,8]),(2,[1,3,8]),(3,[1,3,8]),(4,[1,3,8]),(5,[2]),(3009,[1,3,26]),(6,[1,3,26]),(7,[1,3,26]),(8,[2]),(9,[2])] (by kernel_rfl) (by kernel_rfl) h
def F71 (t0 t1:AV) (σ:AHeap) (k kp:KP):Prop :=
stepK (aBox t0 σ) fun t2 σ =>
lF t1 σ fun t4 σ =>
bP .add t4 (.val (.int .i64 1)) σ fun t5 σ =>
sT 1 t1 t5 σ fun σ =>
k (.val (.bool true)) σ
theorem F71_ev {t0 t1:AV} (h:F71 t0 t1 σ k kp):Ev Tryz.prog 71 [t0,t1] σ k kp:=evA mixed Tryz.func71 [(0,[1]),(1,[]),(2,[3])] (by kernel_rfl) (by kernel_rfl) h
def F69 (t0:AV) (σ:AHeap) (k kp:KP):Prop :=
stepK (pureR σ (aLenK .slice t0 σ)) fun t5 σ =>
bP .gtr t5 (.val (.int .i64 100)) σ fun t6 σ =>
condK t6 (
k (.val (.bool true)) σ
) (
seqW (fun fr σ=>(
k (.val (.bool false)) σ
)) (fun j1=>(
stepK (pureR σ (aLenK .slice t0 σ)) fun t8 σ =>
loopW (fun fr σ again=>(
bP .lss (lq fr 9) (lq fr 8) σ fun t10 σ =>
condK t10 (
iA 3 (lq fr 0) (lq fr 9) σ fun t14 σ =>
fA 2 t14 σ fun t15 σ =>
lF t15 σ fun t16 σ =>
stepK (pureR σ (aLenK .str t16 σ)) fun t17 σ =>
bP .gtr t17 (.val (.int .i64 100)) σ fun t18 σ =>
condK t18 (
k (.val (.bool true)) σ
) (
bP .add (lq fr 9) (.val (.int .i64 1)) σ fun t19 σ =>
again [(0,(lq fr 0)),(8,(lq fr 8)),(9,t19)] σ
)
) (
j1 [(0,(lq fr 0))] σ
)
)) [(0,t0),(8,t8),(9,(.val (.int .i64 0)))] σ
))
)
theorem F69_ev {t0:AV} (h:F69 t0 σ k kp):Ev Tryz.prog 69 [t0] σ k kp:=evA mixed Tryz.func69 [(0,[0]),(1,[0,6]),(2,[2]),(3010,[0]),(3,[0,8,9]),(4,[0,8,9,10]),(5,[0,3,8,9]),(6,[0,8,9,18]),(7,[2]),(8,[0,8,9]),(1004,[0,8,9]),(9,[2])] (by kernel_rfl) (by kernel_rfl) h
def F70 (t0:AV) (σ:AHeap) (k kp:KP):Prop :=
stepK (aBox t0 σ) fun t1 σ =>
lT 4 t1 σ fun t3 σ =>
Ev Tryz.prog 112 [t3,(.val (.int .i64 100))] σ (fun t4 σ =>
bP .lss t4 (.val (.int .i64 0)) σ fun t5 σ =>
k t5 σ) kp
theorem F70_ev {t0:AV} (h:F70 t0 σ k kp):Ev Tryz.prog 70 [t0] σ k kp:=evA mixed Tryz.func70 [(0,[1]),(1,[2])] (by kernel_rfl) (by kernel_rfl) h
def F72 (t0:AV) (σ:AHeap) (k kp:KP):Prop :=
aC zAtermDecA_1 σ fun t2 σ =>
seqW (fun fr σ=>(
condK (lq fr 4) (
stepK (pureR σ (aBuild zAtermDecA_1 [(0,1,(.val (.bool true)))])) fun t8 σ =>
sT 5 (lq fr 2) t8 σ fun σ =>
stepV (aLoad true 5 (lq fr 2) σ) fun r0 =>
k r0 σ
) (
bP .eql (lq fr 3) (.val (.int .u8 11)) σ fun t10 σ =>
condK t10 (
stepK (pureR σ (aBuild zAtermDecA_1 [(0,1,(.val (.bool true))),(2,1,(.val (.bool true))),(3,1,(.val (.bool true)))])) fun t11 σ =>
sT 5 (lq fr 2) t11 σ fun σ =>
stepV (aLoad true 5 (lq fr 2) σ) fun r0 =>
k r0 σ
) (
bP .eql (lq fr 3) (.val (.int .u8 13)) σ fun t13 σ =>
condK t13 (
stepK (pureR σ (aBuild zAtermDecA_1 [(0,1,(.val (.bool true))),(1,1,(.val (.bool true))),(2,1,(.val (.bool true))),(3,1,(.val (.bool true))),(4,1,(.val (.bool true)))])) fun t14 σ =>
sT 5 (lq fr 2) t14 σ fun σ =>
stepV (aLoad true 5 (lq fr 2) σ) fun r0 =>
k r0 σ
) (
bP .eql (lq fr 3) (.val (.int .u8 15)) σ fun t16 σ =>
condK t16 (
stepK (pureR σ (aBuild zAtermDecA_1 [(3,1,(.val (.bool true)))])) fun t17 σ =>
sT 5 (lq fr 2) t17 σ fun σ =>
stepV (aLoad true 5 (lq fr 2) σ) fun r0 =>
k r0 σ
) (
bP .eql (lq fr 3) (.val (.int .u8 18)) σ fun t19 σ =>
condK t19 (
stepK (pureR σ (aBuild zAtermDecA_1 [(0,1,(.val (.bool true))),(1,1,(.val (.bool true))),(2,1,(.val (.bool true)))])) fun t20 σ =>
sT 5 (lq fr 2) t20 σ fun σ =>
stepV (aLoad true 5 (lq fr 2) σ) fun r0 =>
k r0 σ
) (
stepK (pureR σ (aBuild zAtermDecA_1 [])) fun t21 σ =>
sT 5 (lq fr 2) t21 σ fun σ =>
stepV (aLoad true 5 (lq fr 2) σ) fun r0 =>
k r0 σ
)
)
)
)
)
)) (fun j1=>(
bP .eql t0 (.val (.int .u8 3)) σ fun t5 σ =>
condK t5 (
j1 [(2,t2),(3,t0),(4,t5)] σ
) (
bP .eql t0 (.val (.int .u8 6)) σ fun t6 σ =>
condK t6 (
j1 [(2,t2),(3,t0),(4,t6)] σ
) (
bP .eql t0 (.val (.int .u8 17)) σ fun t7 σ =>
j1 [(2,t2),(3,t0),(4,t7)] σ
)
)
))
theorem F72_ev {t0:AV} (h:F72 t0 σ k kp):Ev Tryz.prog 72 [t0] σ k kp:=evA mixed Tryz.func72 [(0,[0,2]),(1,[2,3]),(3006,[2,3,4]),(2,[2,3,4]),(3,[2,3,4]),(4,[2,3,4]),(5,[2]),(6,[2,3,9]),(7,[2]),(8,[2,3,12]),(9,[2]),(10,[2,3,15]),(11,[2]),(12,[2,18]),(13,[2]),(14,[2])] (by kernel_rfl) (by kernel_rfl) h
def F73 (t0:AV) (σ:AHeap) (k kp:KP):Prop :=
stepK (aBox t0 σ) fun t1 σ =>
seqW (fun fr σ=>(
fA 18 (lq fr 1) σ fun t31 σ =>
lF t31 σ fun t32 σ =>
stepK (pureR σ (aLenK .slice t32 σ)) fun t33 σ =>
bP .leq t33 (.val (.int .i64 3)) σ fun t34 σ =>
gR t34 true (aLoad true 19 (lq fr 1) σ) (fun t36 σ =>
gK t34 true (fun K=>Ev Tryz.prog 114 [t36] σ K kp) (fun t37 σ =>
gK t34 true (fun K=>Ev Tryz.prog 113 [t37] σ K kp) (fun t38 σ =>
pK t34 t38 (.val (.bool false)) σ fun t39 σ =>
k t39 σ
) σ) σ) σ)) (fun j1=>(
fA 0 t1 σ fun t3 σ =>
fA 0 t3 σ fun t4 σ =>
lF t4 σ fun t5 σ =>
bP .eql t5 (.val (.int .u8 17)) σ fun t7 σ =>
condK t7 (
fA 0 t1 σ fun t8 σ =>
lT 7 t8 σ fun t9 σ =>
fA 0 t1 σ fun t10 σ =>
fA 2 t10 σ fun t11 σ =>
lF t11 σ fun t12 σ =>
stepK (pureR σ (aBuild zAtermDecA_2 [(0,1,(.val (.int .u8 17))),(2,1,t12)])) fun t13 σ =>
stepK (pureR σ (aBin .eql (.agg [.i,.i,.i,.i,.s,.s,.s]) t9 t13)) fun t14 σ =>
gR t14 true (aFieldAddr 0 t1) (fun t16 σ =>
gR t14 true (aFieldAddr 2 t16) (fun t17 σ =>
gR t14 true (aLoad false 1 t17 σ) (fun t18 σ =>
gR t14 true (aBin .geq .prim t18 (.val (.int .i64 0))) (fun t19 σ =>
pK t14 t19 (.val (.bool false)) σ fun t20 σ =>
gR t20 true (aFieldAddr 18 t1) (fun t22 σ =>
gR t20 true (aLoad false 1 t22 σ) (fun t23 σ =>
gR t20 true (aLenK .slice t23 σ) (fun t24 σ =>
gR t20 true (aBin .eql .prim t24 (.val (.int .i64 1))) (fun t25 σ =>
pK t20 t25 (.val (.bool false)) σ fun t26 σ =>
k t26 σ
) σ) σ) σ) σ) σ) σ) σ) σ) (
bP .eql t5 (.val (.int .u8 18)) σ fun t28 σ =>
condK t28 (
fA 0 t1 σ fun t29 σ =>
fA 0 t29 σ fun t30 σ =>
sT 1 t30 (.val (.int .u8 2)) σ fun σ =>
j1 [(1,t1)] σ
) (
j1 [(1,t1)] σ
)
)
))
theorem F73_ev {t0:AV} (h:F73 t0 σ k kp):Ev Tryz.prog 73 [t0] σ k kp:=evA mixed Tryz.func73 [(0,[1]),(3007,[1]),(1,[1,5]),(2,[1,5,6]),(3,[2]),(4,[1,27]),(5,[1]),(6,[2])] (by kernel_rfl) (by kernel_rfl) h
def F74 (t0 t1:AV) (σ:AHeap) (k kp:KP):Prop :=
stepK (aBox t0 σ) fun t2 σ =>
stepK (aBox t1 σ) fun t3 σ =>
aC [.val (.int .i64 0)] σ fun t5 σ =>
sT 1 t5 (.val (.int .i64 0)) σ fun σ =>
seqW (fun fr σ=>(
fA 7 (lq fr 2) σ fun t11 σ =>
lF t11 σ fun t12 σ =>
bP .lss t12 (.val (.int .i64 0)) σ fun t13 σ =>
gR t13 false (aFieldAddr 0 (lq fr 2)) (fun t15 σ =>
gR t13 false (aFieldAddr 0 t15) (fun t16 σ =>
gR t13 false (aLoad false 1 t16 σ) (fun t17 σ =>
gR t13 false (aBin .eql .prim t17 (.val (.int .u8 17))) (fun t18 σ =>
gK t13 false (fun K=>K t18 σ) (fun t19 σ =>
gR t19 true (aFieldAddr 7 (lq fr 2)) (fun t20 σ =>
gR t19 true (aLoad false 1 t20 σ) (fun t21 σ =>
gR t19 true (aBin .lss .prim t21 (.val (.int .i64 1))) (fun t22 σ =>
gR t13 false (aPick t19 t22 (.val (.bool false))) (fun t23 σ =>
pK t13 (.val (.bool true)) t23 σ fun t24 σ =>
fA 0 (lq fr 3) σ fun t25 σ =>
lF t25 σ fun t26 σ =>
stepK (pureR σ (aNot t26)) fun t27 σ =>
gR t27 true (aFieldAddr 7 (lq fr 2)) (fun t29 σ =>
gR t27 true (aLoad false 1 t29 σ) (fun t30 σ =>
gR t27 true (aBin .neq .prim t30 (.val (.int .i64 0))) (fun t31 σ =>
pK t27 t31 (.val (.bool false)) σ fun t32 σ =>
gK t32 false (fun K=>K t24 σ) (fun t34 σ =>
pK t32 (.val (.bool true)) t34 σ fun t35 σ =>
gR t35 false (aFieldAddr 1 (lq fr 3)) (fun t37 σ =>
gR t35 false (aLoad false 1 t37 σ) (fun t38 σ =>
gR t35 false (aNot t38) (fun t39 σ =>
gK t35 false (fun K=>K t39 σ) (fun t40 σ =>
gR t40 true (aFieldAddr 8 (lq fr 2)) (fun t41 σ =>
gR t40 true (aLoad false 1 t41 σ) (fun t42 σ =>
gR t40 true (aLenK .slice t42 σ) (fun t43 σ =>
gR t40 true (aBin .gtr .prim t43 (.val (.int .i64 0))) (fun t44 σ =>
gR t35 false (aPick t40 t44 (.val (.bool false))) (fun t45 σ =>
pK t35 (.val (.bool true)) t45 σ fun t46 σ =>
condK t46 (
k (.val (.bool false)) σ
) (
fA 8 (lq fr 2) σ fun t47 σ =>
lF t47 σ fun t48 σ =>
Ev Tryz.prog 115 [t48,(.fn (.func 116) [(lq fr 5)])] σ (fun t50 σ =>
stepK (pureR σ (aNot t50)) fun t51 σ =>
k t51 σ
) kp)
) σ) σ) σ) σ) σ) σ) σ) σ) σ) σ) σ) σ) σ) σ) σ) σ) σ) σ) σ) σ) σ) σ)) (fun j1=>(
fA 0 t2 σ fun t7 σ =>
fA 0 t7 σ fun t8 σ =>
lF t8 σ fun t9 σ =>
bP .eql t9 (.val (.int .u8 13)) σ fun t10 σ =>
condK t10 (
sT 1 t5 (.val (.int .i64 1)) σ fun σ =>
j1 [(2,t2),(3,t3),(5,t5)] σ
) (
j1 [(2,t2),(3,t3),(5,t5)] σ
)
))
theorem F74_ev {t0 t1:AV} (h:F74 t0 t1 σ k kp):Ev Tryz.prog 74 [t0,t1] σ k kp:=evA mixed Tryz.func74 [(0,[2,3]),(1,[2,3,5]),(3005,[2,3,5]),(2,[2,3,5,10]),(3,[2,3,5]),(4,[2,3,5,6]),(5,[2,5,46]),(6,[4]),(7,[4])] (by kernel_rfl) (by kernel_rfl) h
def F77 (t0 t1:AV) (σ:AHeap) (k kp:KP):Prop :=
stepK (aBox t1 σ) fun t3 σ =>
condK t0 (
lT 4 t3 σ fun t6 σ =>
stepK (pureR σ (aBuildSl 1 4 zAtermDecA_3 [(0,t6)])) fun t7 σ =>
Ev Tryz.prog 122 [t7] σ (fun t8 σ =>
k t8 σ
) kp) (
fA 0 t3 σ fun t9 σ =>
lF t9 σ fun t10 σ =>
bP .eql t10 (.val (.int .u8 0)) σ fun t11 σ =>
gR t11 true (aFieldAddr 1 t3) (fun t13 σ =>
gR t11 true (aLoad false 1 t13 σ) (fun t14 σ =>
gR t11 true (aBin .eql .prim t14 (.val (.int .i64 0))) (fun t15 σ =>
pK t11 t15 (.val (.bool false)) σ fun t16 σ =>
gR t16 true (aFieldAddr 2 t3) (fun t18 σ =>
gR t16 true (aLoad false 1 t18 σ) (fun t19 σ =>
gR t16 true (aLenK .slice t19 σ) (fun t20 σ =>
gR t16 true (aFieldAddr 3 t3) (fun t21 σ =>
gR t16 true (aLoad false 1 t21 σ) (fun t22 σ =>
gR t16 true (aLenK .slice t22 σ) (fun t23 σ =>
gR t16 true (aBin .add .prim t20 t23) (fun t24 σ =>
gR t16 true (aBin .eql .prim t24 (.val (.int .i64 0))) (fun t25 σ =>
pK t16 t25 (.val (.bool false)) σ fun t26 σ =>
k t26 σ
) σ) σ) σ) σ) σ) σ) σ) σ) σ) σ) σ)
theorem F77_ev {t0 t1:AV} (h:F77 t0 t1 σ k kp):Ev Tryz.prog 77 [t0,t1] σ k kp:=evA mixed Tryz.func77 [(0,[0,3]),(1,[3,5]),(2,[4]),(4002,[1]),(3,[4])] (by kernel_rfl) (by kernel_rfl) h
def F112 (t0 t1:AV) (σ:AHeap) (k kp:KP):Prop :=
stepK (aBox t0 σ) fun t2 σ =>
bP .sub t1 (.val (.int .i64 1)) σ fun t7 σ =>
fA 2 t2 σ fun t8 σ =>
lF t8 σ fun t9 σ =>
Ev Tryz.prog 69 [t9] σ (fun t10 σ =>
condK t10 (
k (.val (.int .i64 (-1))) σ
) (
seqW (fun fr σ=>(
k (lq fr 1) σ
)) (fun j1=>(
loopW (fun fr σ again=>(
fA 3 (lq fr 2) σ fun t12 σ =>
lF t12 σ fun t13 σ =>
stepK (pureR σ (aLenK .slice t13 σ)) fun t14 σ =>
bP .lss (lq fr 5) t14 σ fun t15 σ =>
gK t15 true (fun K=>K (lq fr 1) σ) (fun t17 σ =>
gR t15 true (aBin .geq .prim t17 (.val (.int .i64 0))) (fun t18 σ =>
pK t15 t18 (.val (.bool false)) σ fun t19 σ =>
condK t19 (
fA 3 (lq fr 2) σ fun t22 σ =>
lF t22 σ fun t23 σ =>
iA 4 t23 (lq fr 5) σ fun t25 σ =>
lT 4 t25 σ fun t26 σ =>
Ev Tryz.prog 112 [t26,(lq fr 1)] σ (fun t28 σ =>
bP .add (lq fr 5) (.val (.int .i64 1)) σ fun t21 σ =>
again [(1,t28),(2,(lq fr 2)),(5,t21)] σ
) kp) (
j1 [(1,(lq fr 1))] σ
)
) σ) σ)) [(1,t7),(2,t2),(5,(.val (.int .i64 0)))] σ
))
)) kp
theorem F112_ev {t0 t1:AV} (h:F112 t0 t1 σ k kp):Ev Tryz.prog 112 [t0,t1] σ k kp:=evA mixed Tryz.func112 [(0,[1,2]),(1,[1,2]),(2,[1,2,10]),(3,[4]),(3009,[1]),(4,[1,2,5]),(5,[1,2,5,19]),(7,[1,2,5]),(6,[1,2,5]),(1005,[1,2,5]),(8,[4])] (by kernel_rfl) (by kernel_rfl) h
def F113 (t0:AV) (σ:AHeap) (k kp:KP):Prop :=
stepK (aBox t0 σ) fun t1 σ =>
lT 8 t1 σ fun t3 σ =>
stepK (pureR σ (aBuildSl 1 8 zAtermDecA_4 [(0,t3)])) fun t4 σ =>
Ev Tryz.prog 156 [t4] σ (fun t5 σ =>
bP .leq t5 (.val (.int .i64 4000)) σ fun t6 σ =>
gR t6 true (aLoad true 8 t1 σ) (fun t8 σ =>
gR t6 true (aBuildSl 1 8 zAtermDecA_4 [(0,t8)]) (fun t9 σ =>
gK t6 true (fun K=>Ev Tryz.prog 157 [(.fn (.func 158) []),t9] σ K kp) (fun t10 σ =>
pK t6 t10 (.val (.bool false)) σ fun t11 σ =>
k t11 σ) σ) σ) σ) kp
theorem F113_ev {t0:AV} (h:F113 t0 σ k kp):Ev Tryz.prog 113 [t0] σ k kp:=evA mixed Tryz.func113 [(0,[1]),(1,[2]),(4001,[1])] (by kernel_rfl) (by kernel_rfl) h
def F114 (t0:AV) (σ:AHeap) (k kp:KP):Prop :=
stepK (aBox t0 σ) fun t1 σ =>
aC zAtermDecA_4 σ fun t2 σ =>
fA 0 t1 σ fun t4 σ =>
lT 7 t4 σ fun t5 σ =>
stepK (pureR σ (aBuild zAtermDecA_4 [(0,7,t5)])) fun t6 σ =>
aC zAtermDecA_4 σ fun t3 σ =>
sT 8 t3 t6 σ fun σ =>
seqW (fun fr σ=>(
lT 8 (lq fr 3) σ fun t20 σ =>
sT 8 (lq fr 2) t20 σ fun σ =>
stepV (aLoad true 8 (lq fr 2) σ) fun r0 =>
k r0 σ
)) (fun j1=>(
fA 18 t1 σ fun t7 σ =>
lF t7 σ fun t8 σ =>
stepK (pureR σ (aLenK .slice t8 σ)) fun t9 σ =>
loopW (fun fr σ again=>(
bP .lss (lq fr 10) (lq fr 9) σ fun t11 σ =>
condK t11 (
fA 7 (lq fr 3) σ fun t12 σ =>
lF t12 σ fun t13 σ =>
stepK (pureR σ (aBuild zAtermDecA_2 [(0,1,(.val (.int .u8 1)))])) fun t14 σ =>
stepK (pureR σ (aBuild zAtermDecA_4 [(0,7,t14)])) fun t15 σ =>
stepK (pureR σ (aBuildSl 1 8 zAtermDecA_4 [(0,t15)])) fun t16 σ =>
stepK (aAppend 8 96 t13 t16 σ) fun t17 σ =>
fA 7 (lq fr 3) σ fun t18 σ =>
sT 1 t18 t17 σ fun σ =>
bP .add (lq fr 10) (.val (.int .i64 1)) σ fun t19 σ =>
again [(2,(lq fr 2)),(3,(lq fr 3)),(9,(lq fr 9)),(10,t19)] σ
) (
j1 [(2,(lq fr 2)),(3,(lq fr 3))] σ
)
)) [(2,t2),(3,t3),(9,t9),(10,(.val (.int .i64 0)))] σ
))
theorem F114_ev {t0:AV} (h:F114 t0 σ k kp):Ev Tryz.prog 114 [t0] σ k kp:=evA mixed Tryz.func114 [(0,[1,2]),(1,[1,2,3]),(3007,[2,3]),(2,[2,3,9,10]),(3,[2,3,9,10,11]),(4,[2,3,9,10]),(4004,[1]),(5,[2,3,9,10]),(1003,[2,3,9,10]),(6,[2])] (by kernel_rfl) (by kernel_rfl) h
def F115 (t0 t1:AV) (σ:AHeap) (k kp:KP):Prop :=
Ev Tryz.prog 159 [t0,t1] σ (fun t7 σ =>
bP .geq t7 (.val (.int .i64 0)) σ fun t8 σ =>
k t8 σ) kp
theorem F115_ev {t0 t1:AV} (h:F115 t0 t1 σ k kp):Ev Tryz.prog 115 [t0,t1] σ k kp:=evA mixed Tryz.func115 [(0,[0,1]),(1,[4])] (by kernel_rfl) (by kernel_rfl) h
def F116 (t0 t1:AV) (σ:AHeap) (k kp:KP):Prop :=
lF t1 σ fun t5 σ =>
bP .lss t0 t5 σ fun t6 σ =>
k t6 σ
theorem F116_ev {t0 t1:AV} (h:F116 t0 t1 σ k kp):Ev Tryz.prog 116 [t0,t1] σ k kp:=evA mixed Tryz.func116 [(0,[0,1]),(1,[3])] (by kernel_rfl) (by kernel_rfl) h
def F156 (t0:AV) (σ:AHeap) (k kp:KP):Prop :=
aC [.val (.int .i64 0)] σ fun t3 σ =>
sT 1 t3 (.val (.int .i64 0)) σ fun σ =>
Ev Tryz.prog 157 [(.fn (.func 178) [t3]),t0] σ (fun t6 σ =>
lF t3 σ fun t7 σ =>
k t7 σ) kp
theorem F156_ev {t0:AV} (h:F156 t0 σ k kp):Ev Tryz.prog 156 [t0] σ k kp:=evA mixed Tryz.func156 [(0,[0]),(1,[0,3]),(2,[3]),(3,[2])] (by kernel_rfl) (by kernel_rfl) h
def F157 (t0 t1:AV) (σ:AHeap) (k kp:KP):Prop :=
seqW (fun fr σ=>(
k (.val (.bool true)) σ
)) (fun j1=>(
stepK (pureR σ (aLenK .slice t1 σ)) fun t8 σ =>
loopW (fun fr σ again=>(
bP .lss (lq fr 9) (lq fr 8) σ fun t10 σ =>
condK t10 (
iA 8 (lq fr 7) (lq fr 9) σ fun t11 σ =>
lT 8 t11 σ fun t12 σ =>
aC zAtermDecA_4 σ fun t6 σ =>
sT 8 t6 t12 σ fun σ =>
lT 8 t6 σ fun t14 σ =>
  callK Tryz.prog (lq fr 0) [t14] σ (fun t15 σ =>
stepK (pureR σ (aNot t15)) fun t16 σ =>
gK t16 false (fun K=>K (lq fr 0) σ) (fun t18 σ =>
gR t16 false (aFieldAddr 7 t6) (fun t19 σ =>
gR t16 false (aLoad false 1 t19 σ) (fun t20 σ =>
gK t16 false (fun K=>Ev Tryz.prog 157 [t18,t20] σ K kp) (fun t21 σ =>
gR t16 false (aNot t21) (fun t22 σ =>
pK t16 (.val (.bool true)) t22 σ fun t23 σ =>
condK t23 (
k (.val (.bool false)) σ
) (
bP .add (lq fr 9) (.val (.int .i64 1)) σ fun t24 σ =>
again [(0,(lq fr 0)),(7,(lq fr 7)),(8,(lq fr 8)),(9,t24)] σ
)
) σ) σ) σ) σ) σ) kp) (
j1 [(0,(lq fr 0))] σ
)
)) [(0,t0),(7,t1),(8,t8),(9,(.val (.int .i64 0)))] σ
))
theorem F157_ev {t0 t1:AV} (h:F157 t0 t1 σ k kp):Ev Tryz.prog 157 [t0,t1] σ k kp:=evA mixed Tryz.func157 [(0,[0,1]),(3008,[0]),(1,[0,7,8,9]),(2,[0,7,8,9,10]),(3,[0,6,7,8,9]),(4,[0,7,8,9,23]),(5,[4]),(6,[0,7,8,9]),(1002,[0,7,8,9]),(7,[4])] (by kernel_rfl) (by kernel_rfl) h
def F158 (t0:AV) (σ:AHeap) (k kp:KP):Prop :=
stepK (aBox t0 σ) fun t1 σ =>
Ev Tryz.prog 179 [] σ (fun t6 σ =>
fA 0 t1 σ fun t7 σ =>
fA 0 t7 σ fun t8 σ =>
lF t8 σ fun t9 σ =>
bP .lss t9 (.val (.int .u8 1)) σ fun t10 σ =>
gR t10 false (aFieldAddr 0 t1) (fun t12 σ =>
gR t10 false (aFieldAddr 0 t12) (fun t13 σ =>
gR t10 false (aLoad false 1 t13 σ) (fun t14 σ =>
gR t10 false (aConv (.int .i64) t14) (fun t15 σ =>
gK t10 false (fun K=>K t6 σ) (fun t16 σ =>
gR t10 false (aLenK .slice t16 σ) (fun t17 σ =>
gR t10 false (aBin .gtr .prim t15 t17) (fun t18 σ =>
pK t10 (.val (.bool true)) t18 σ fun t19 σ =>
gR t19 false (aFieldAddr 0 t1) (fun t21 σ =>
gR t19 false (aFieldAddr 2 t21) (fun t22 σ =>
gR t19 false (aLoad false 1 t22 σ) (fun t23 σ =>
gR t19 false (aBin .lss .prim t23 (.val (.int .i64 0))) (fun t24 σ =>
pK t19 (.val (.bool true)) t24 σ fun t25 σ =>
condK t25 (
k (.val (.bool false)) σ
) (
fA 0 t1 σ fun t27 σ =>
fA 0 t27 σ fun t28 σ =>
lF t28 σ fun t29 σ =>
bP .sub t29 (.val (.int .u8 1)) σ fun t30 σ =>
iA 2 t6 t30 σ fun t31 σ =>
lT 2 t31 σ fun t32 σ =>
aC zAtermDecA_5 σ fun t4 σ =>
sT 2 t4 t32 σ fun σ =>
fA 0 t1 σ fun t33 σ =>
fA 1 t33 σ fun t34 σ =>
lF t34 σ fun t35 σ =>
bP .geq t35 (.val (.int .u8 1)) σ fun t36 σ =>
gR t36 true (aFieldAddr 0 t1) (fun t38 σ =>
gR t36 true (aFieldAddr 1 t38) (fun t39 σ =>
gR t36 true (aLoad false 1 t39 σ) (fun t40 σ =>
gR t36 true (aBin .leq .prim t40 (.val (.int .u8 5))) (fun t41 σ =>
pK t36 t41 (.val (.bool false)) σ fun t42 σ =>
seqW (fun fr σ=>(
condK (lq fr 43) (
k (.val (.bool false)) σ
) (
fA 0 (lq fr 1) σ fun t68 σ =>
fA 3 t68 σ fun t69 σ =>
lF t69 σ fun t70 σ =>
bP .lss t70 (.val (.int .i64 0)) σ fun t71 σ =>
gR t71 false (aFieldAddr 0 (lq fr 1)) (fun t73 σ =>
gR t71 false (aFieldAddr 3 t73) (fun t74 σ =>
gR t71 false (aLoad false 1 t74 σ) (fun t75 σ =>
gR t71 false (aBin .gtr .prim t75 (.val (.int .i64 2147483647))) (fun t76 σ =>
pK t71 (.val (.bool true)) t76 σ fun t77 σ =>
gR t77 false (aLoad true 2 (lq fr 4) σ) (fun t79 σ =>
gK t77 false (fun K=>Ev Tryz.prog 180 [t79,(.val (.int .u8 110))] σ K kp) (fun t80 σ =>
gR t77 false (aNot t80) (fun t81 σ =>
gK t77 false (fun K=>K t81 σ) (fun t82 σ =>
gR t82 true (aFieldAddr 0 (lq fr 1)) (fun t83 σ =>
gR t82 true (aFieldAddr 3 t83) (fun t84 σ =>
gR t82 true (aLoad false 1 t84 σ) (fun t85 σ =>
gR t82 true (aBin .neq .prim t85 (.val (.int .i64 0))) (fun t86 σ =>
gR t77 false (aPick t82 t86 (.val (.bool false))) (fun t87 σ =>
pK t77 (.val (.bool true)) t87 σ fun t88 σ =>
condK t88 (
k (.val (.bool false)) σ
) (
lT 2 (lq fr 4) σ fun t89 σ =>
fA 0 (lq fr 1) σ fun t90 σ =>
fA 4 t90 σ fun t91 σ =>
lF t91 σ fun t92 σ =>
Ev Tryz.prog 181 [t89,(.val (.int .u8 109)),t92,(.fn (.func 182) [])] σ (fun t93 σ =>
gR t93 true (aLoad true 2 (lq fr 4) σ) (fun t95 σ =>
gR t93 true (aFieldAddr 0 (lq fr 1)) (fun t96 σ =>
gR t93 true (aFieldAddr 5 t96) (fun t97 σ =>
gR t93 true (aLoad false 1 t97 σ) (fun t98 σ =>
gK t93 true (fun K=>Ev Tryz.prog 181 [t95,(.val (.int .u8 97)),t98,(.fn (.func 182) [])] σ K kp) (fun t99 σ =>
pK t93 t99 (.val (.bool false)) σ fun t100 σ =>
gR t100 true (aLoad true 2 (lq fr 4) σ) (fun t102 σ =>
gR t100 true (aFieldAddr 0 (lq fr 1)) (fun t103 σ =>
gR t100 true (aFieldAddr 6 t103) (fun t104 σ =>
gR t100 true (aLoad false 1 t104 σ) (fun t105 σ =>
gK t100 true (fun K=>Ev Tryz.prog 181 [t102,(.val (.int .u8 101)),t105,(.fn (.func 163) [])] σ K kp) (fun t106 σ =>
pK t100 t106 (.val (.bool false)) σ fun t107 σ =>
k t107 σ
) σ) σ) σ) σ) σ) σ) σ) σ) σ) σ) kp)
) σ) σ) σ) σ) σ) σ) σ) σ) σ) σ) σ) σ) σ)
)) (fun j1=>(
fA 7 t1 σ fun t44 σ =>
lF t44 σ fun t45 σ =>
stepK (pureR σ (aLenK .slice t45 σ)) fun t46 σ =>
fA 0 t4 σ fun t47 σ =>
lF t47 σ fun t48 σ =>
bP .neq t46 t48 σ fun t49 σ =>
condK t49 (
j1 [(1,t1),(4,t4),(43,t49)] σ
) (
lT 2 t4 σ fun t50 σ =>
Ev Tryz.prog 180 [t50,(.val (.int .u8 111))] σ (fun t51 σ =>
gK t51 true (fun K=>K t42 σ) (fun t53 σ =>
gR t51 true (aNot t53) (fun t54 σ =>
pK t51 t54 (.val (.bool false)) σ fun t55 σ =>
gR t55 false (aLoad true 2 t4 σ) (fun t57 σ =>
gK t55 false (fun K=>Ev Tryz.prog 180 [t57,(.val (.int .u8 111))] σ K kp) (fun t58 σ =>
gR t55 false (aNot t58) (fun t59 σ =>
gK t55 false (fun K=>K t59 σ) (fun t60 σ =>
gR t60 true (aFieldAddr 0 t1) (fun t61 σ =>
gR t60 true (aFieldAddr 1 t61) (fun t62 σ =>
gR t60 true (aLoad false 1 t62 σ) (fun t63 σ =>
gR t60 true (aBin .neq .prim t63 (.val (.int .u8 0))) (fun t64 σ =>
gR t55 false (aPick t60 t64 (.val (.bool false))) (fun t65 σ =>
pK t55 (.val (.bool true)) t65 σ fun t66 σ =>
j1 [(1,t1),(4,t4),(43,t66)] σ
) σ) σ) σ) σ) σ) σ) σ) σ) σ) σ) σ) kp)
))
) σ) σ) σ) σ)) σ) σ) σ) σ) σ) σ) σ) σ) σ) σ) σ) kp
theorem F158_ev {t0:AV} (h:F158 t0 σ k kp):Ev Tryz.prog 158 [t0] σ k kp:=evA mixed Tryz.func158 [(0,[1]),(1,[1,3]),(2,[1,3,25]),(3,[2]),(4,[1,4]),(5,[1,4,5]),(3009,[1,4,43]),(6,[1,4,5,43]),(7,[1,4,43]),(8,[2]),(9,[1,4,67]),(10,[2]),(11,[2])] (by kernel_rfl) (by kernel_rfl) h
def F159 (t0 t1:AV) (σ:AHeap) (k kp:KP):Prop :=
seqW (fun fr σ=>(
k (.val (.int .i64 (-1))) σ
)) (fun j1=>(
stepK (pureR σ (aLenK .slice t0 σ)) fun t7 σ =>
loopW (fun fr σ again=>(
bP .lss (lq fr 8) (lq fr 7) σ fun t9 σ =>
condK t9 (
iA 1 (lq fr 0) (lq fr 8) σ fun t14 σ =>
lF t14 σ fun t15 σ =>
  callK Tryz.prog (lq fr 1) [t15] σ (fun t16 σ =>
condK t16 (
k (lq fr 8) σ
) (
bP .add (lq fr 8) (.val (.int .i64 1)) σ fun t18 σ =>
again [(0,(lq fr 0)),(1,(lq fr 1)),(7,(lq fr 7)),(8,t18)] σ
)
) kp) (
j1 [(0,(lq fr 0))] σ
)
)) [(0,t0),(1,t1),(7,t7),(8,(.val (.int .i64 0)))] σ
))
theorem F159_ev {t0 t1:AV} (h:F159 t0 t1 σ k kp):Ev Tryz.prog 159 [t0,t1] σ k kp:=evA mixed Tryz.func159 [(0,[0,1]),(3008,[0]),(1,[0,1,7,8]),(2,[0,1,7,8,9]),(3,[0,1,5,7,8]),(4,[0,1,5,7,8,16]),(5,[4]),(6,[0,1,7,8]),(1002,[0,1,7,8]),(7,[4])] (by kernel_rfl) (by kernel_rfl) h
def F178 (t0 t1:AV) (σ:AHeap) (k kp:KP):Prop :=
stepK (aBox t0 σ) fun t2 σ =>
lF t1 σ fun t4 σ =>
bP .add t4 (.val (.int .i64 1)) σ fun t5 σ =>
sT 1 t1 t5 σ fun σ =>
k (.val (.bool true)) σ
theorem F178_ev {t0 t1:AV} (h:F178 t0 t1 σ k kp):Ev Tryz.prog 178 [t0,t1] σ k kp:=evA mixed Tryz.func178 [(0,[1]),(1,[]),(2,[3])] (by kernel_rfl) (by kernel_rfl) h
def F179 (σ:AHeap) (k kp:KP):Prop :=
stepK (pureR σ (aBuild zAtermDecA_5 [(0,1,(.val (.int .i64 0))),(1,1,(.val (.string { data:=#[110] })))])) fun t1 σ =>
stepK (pureR σ (aBuild zAtermDecA_5 [(0,1,(.val (.int .i64 0))),(1,1,(.val (.string { data:=#[109] })))])) fun t2 σ =>
stepK (pureR σ (aBuild zAtermDecA_5 [(0,1,(.val (.int .i64 2))),(1,1,(.val (.string { data:=#[] })))])) fun t3 σ =>
stepK (pureR σ (aBuild zAtermDecA_5 [(0,1,(.val (.int .i64 1))),(1,1,(.val (.string { data:=#[] })))])) fun t4 σ =>
stepK (pureR σ (aBuild zAtermDecA_5 [(0,1,(.val (.int .i64 1))),(1,1,(.val (.string { data:=#[] })))])) fun t5 σ =>
stepK (pureR σ (aBuild zAtermDecA_5 [(0,1,(.val (.int .i64 1))),(1,1,(.val (.string { data:=#[] })))])) fun t6 σ =>
stepK (pureR σ (aBuild zAtermDecA_5 [(0,1,(.val (.int .i64 1))),(1,1,(.val (.string { data:=#[] })))])) fun t7 σ =>
stepK (pureR σ (aBuild zAtermDecA_5 [(0,1,(.val (.int .i64 2))),(1,1,(.val (.string { data:=#[] })))])) fun t8 σ =>
stepK (pureR σ (aBuild zAtermDecA_5 [(0,1,(.val (.int .i64 2))),(1,1,(.val (.string { data:=#[111] })))])) fun t9 σ =>
stepK (pureR σ (aBuild zAtermDecA_5 [(0,1,(.val (.int .i64 2))),(1,1,(.val (.string { data:=#[] })))])) fun t10 σ =>
stepK (pureR σ (aBuild zAtermDecA_5 [(0,1,(.val (.int .i64 1))),(1,1,(.val (.string { data:=#[97] })))])) fun t11 σ =>
stepK (pureR σ (aBuild zAtermDecA_5 [(0,1,(.val (.int .i64 2))),(1,1,(.val (.string { data:=#[109] })))])) fun t12 σ =>
stepK (pureR σ (aBuild zAtermDecA_5 [(0,1,(.val (.int .i64 2))),(1,1,(.val (.string { data:=#[109,97] })))])) fun t13 σ =>
stepK (pureR σ (aBuild zAtermDecA_5 [(0,1,(.val (.int .i64 3))),(1,1,(.val (.string { data:=#[] })))])) fun t14 σ =>
stepK (pureR σ (aBuild zAtermDecA_5 [(0,1,(.val (.int .i64 1))),(1,1,(.val (.string { data:=#[101] })))])) fun t15 σ =>
stepK (pureR σ (aBuild zAtermDecA_5 [(0,1,(.val (.int .i64 2))),(1,1,(.val (.string { data:=#[101,97] })))])) fun t16 σ =>
stepK (pureR σ (aBuildSl 16 2 zAtermDecA_5 [(0,t1),(1,t2),(2,t3),(3,t4),(4,t5),(5,t6),(6,t7),(7,t8),(8,t9),(9,t10),(10,t11),(11,t12),(12,t13),(13,t14),(14,t15),(15,t16)])) fun t17 σ =>
k t17 σ
theorem F179_ev (h:F179 σ k kp):Ev Tryz.prog 179 [] σ k kp:=evA mixed Tryz.func179 [(0,[]),(1,[0]),(4001,[1])] (by kernel_rfl) (by kernel_rfl) h
def F180 (t0 t1:AV) (σ:AHeap) (k kp:KP):Prop :=
stepK (aBox t0 σ) fun t2 σ =>
fA 1 t2 σ fun t5 σ =>
lF t5 σ fun t6 σ =>
stepK (pureR σ (aConv .bytes t6)) fun t7 σ =>
Ev Tryz.prog 193 [t7,t1] σ (fun t9 σ =>
k t9 σ) kp
theorem F180_ev {t0 t1:AV} (h:F180 t0 t1 σ k kp):Ev Tryz.prog 180 [t0,t1] σ k kp:=evA mixed Tryz.func180 [(0,[1,2]),(1,[4])] (by kernel_rfl) (by kernel_rfl) h
def F181 (t0 t1 t2 t3:AV) (σ:AHeap) (k kp:KP):Prop :=
stepK (aBox t0 σ) fun t4 σ =>
lT 2 t4 σ fun t9 σ =>
Ev Tryz.prog 180 [t9,t1] σ (fun t11 σ =>
stepK (pureR σ (aNot t11)) fun t12 σ =>
condK t12 (
bP .eql t2 (.val (.string { data:=#[] })) σ fun t14 σ =>
k t14 σ
) (
stepK (pureR σ (aBuildSl 1 1 [.val (.string ByteArray.empty)] [(0,t2)])) fun t17 σ =>
  callK Tryz.prog t3 [t17] σ (fun t18 σ =>
k t18 σ
) kp)) kp
theorem F181_ev {t0 t1 t2 t3:AV} (h:F181 t0 t1 t2 t3 σ k kp):Ev Tryz.prog 181 [t0,t1,t2,t3] σ k kp:=evA mixed Tryz.func181 [(0,[1,2,3,4]),(1,[2,3,12]),(2,[8]),(3,[8]),(4003,[1])] (by kernel_rfl) (by kernel_rfl) h
def F193 (t0 t1:AV) (σ:AHeap) (k kp:KP):Prop :=
Ev Tryz.prog 211 [t0,t1] σ (fun t7 σ =>
bP .geq t7 (.val (.int .i64 0)) σ fun t8 σ =>
k t8 σ) kp
theorem F193_ev {t0 t1:AV} (h:F193 t0 t1 σ k kp):Ev Tryz.prog 193 [t0,t1] σ k kp:=evA mixed Tryz.func193 [(0,[0,1]),(1,[4])] (by kernel_rfl) (by kernel_rfl) h
def F211 (t0 t1:AV) (σ:AHeap) (k kp:KP):Prop :=
seqW (fun fr σ=>(
k (.val (.int .i64 (-1))) σ
)) (fun j1=>(
stepK (pureR σ (aLenK .slice t0 σ)) fun t7 σ =>
loopW (fun fr σ again=>(
bP .lss (lq fr 8) (lq fr 7) σ fun t9 σ =>
condK t9 (
iA 1 (lq fr 0) (lq fr 8) σ fun t14 σ =>
lF t14 σ fun t15 σ =>
bP .eql (lq fr 1) t15 σ fun t16 σ =>
condK t16 (
k (lq fr 8) σ
) (
bP .add (lq fr 8) (.val (.int .i64 1)) σ fun t18 σ =>
again [(0,(lq fr 0)),(1,(lq fr 1)),(7,(lq fr 7)),(8,t18)] σ
)
) (
j1 [(0,(lq fr 0))] σ
)
)) [(0,t0),(1,t1),(7,t7),(8,(.val (.int .i64 0)))] σ
))
theorem F211_ev {t0 t1:AV} (h:F211 t0 t1 σ k kp):Ev Tryz.prog 211 [t0,t1] σ k kp:=evA mixed Tryz.func211 [(0,[0,1]),(3008,[0]),(1,[0,1,7,8]),(2,[0,1,7,8,9]),(3,[0,1,5,7,8]),(4,[0,1,5,7,8,16]),(5,[4]),(6,[0,1,7,8]),(1002,[0,1,7,8]),(7,[4])] (by kernel_rfl) (by kernel_rfl) h
def F10 (t0:AV) (σ:AHeap) (k kp:KP):Prop :=
stepK (aBox t0 σ) fun t1 σ =>
lT 19 t1 σ fun t3 σ =>
Ev Tryz.prog 22 [t3] σ (fun t4 σ =>
gR t4 false (aLoad true 19 t1 σ) (fun t6 σ =>
gK t4 false (fun K=>Ev Tryz.prog 14 [t6] σ K kp) (fun t7 σ =>
gR t4 false (aLenK .slice t7 σ) (fun t8 σ =>
gR t4 false (aBin .gtr .prim t8 (.val (.int .i64 150))) (fun t9 σ =>
pK t4 (.val (.bool true)) t9 σ fun t10 σ =>
k t10 σ) σ) σ) σ) σ) kp
theorem F10_ev {t0:AV} (h:F10 t0 σ k kp):Ev Tryz.prog 10 [t0] σ k kp:=evA mixed Tryz.func10 [(0,[1]),(1,[2])] (by kernel_rfl) (by kernel_rfl) h
def F23 (t0:AV) (σ:AHeap) (k kp:KP):Prop :=
aC zAtermDecA_0 σ fun t2 σ =>
stepK (pureR σ (aBuild zAtermDecA_2 [(0,1,(.val (.int .u8 1))),(3,1,t0)])) fun t4 σ =>
stepK (pureR σ (aBuild zAtermDecA_0 [(0,7,t4)])) fun t5 σ =>
sT 19 t2 t5 σ fun σ =>
stepV (aLoad true 19 t2 σ) fun r0 =>
k r0 σ
theorem F23_ev {t0:AV} (h:F23 t0 σ k kp):Ev Tryz.prog 23 [t0] σ k kp:=evA mixed Tryz.func23 [(0,[0,2]),(1,[2])] (by kernel_rfl) (by kernel_rfl) h
end Go.Proofs.AtD
