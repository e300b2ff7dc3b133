import Derived.Test.YtjilebpcaemopaaGreatDoorAbsK
import Derived.Test.YtjilebpcaemopaaGreatDoorProg
import Derived.KernelRfl
set_option maxRecDepth 100000
set_option linter.unusedVariables false
namespace Go.Proofs.MacD
open Go Go.Abs
def zMacDecI_0:List AV:=[.val (.int .u8 0),.val (.bool false),.val (.int .i64 0),.val (.string ByteArray.empty),.val (.int .i64 0),.val (.int .i64 0),.val (.int .i64 0),.val (.int .i64 0)]
@[simp ↓] theorem zMacDecI_0_eq:zMacDecI_0=[.val (.int .u8 0),.val (.bool false),.val (.int .i64 0),.val (.string ByteArray.empty),.val (.int .i64 0),.val (.int .i64 0),.val (.int .i64 0),.val (.int .i64 0)]:=nr0 rfl
variable {σ:AHeap} {k kp:KP}
theorem mixedI:Tryz.prog.follows .mixedOrders=true:=by kernel_rfl
def F3 (t0 t1 t2:AV) (σ:AHeap) (k kp:KP):Prop :=
stepK (aBox t0 σ) fun t3 σ =>
stepK (aBox t2 σ) fun t5 σ =>
lT 19 t3 σ fun t11 σ =>
Ev Tryz.prog 10 [t11] σ (fun t12 σ =>
gK t12 false (fun K=>K t1 σ) (fun t14 σ =>
gR t12 false (aBin .gtr .prim t14 (.val (.int .i64 500))) (fun t15 σ =>
pK t12 (.val (.bool true)) t15 σ fun t16 σ =>
condK t16 (
Ev Tryz.prog 11 [] σ (fun t17 σ =>
k t17 σ
) kp) (
lT 19 t3 σ fun t19 σ =>
lT 2 t5 σ fun t21 σ =>
Ev Tryz.prog 12 [t19,t1,t21] σ (fun t22 σ =>
eX 0 t22 σ fun t23 σ =>
eX 1 t22 σ fun t24 σ =>
aC zMacDecI_0 σ fun t7 σ =>
sT 8 t7 t23 σ fun σ =>
lT 19 t3 σ fun t26 σ =>
lT 2 t5 σ fun t28 σ =>
Ev Tryz.prog 13 [t26,t1,t28] σ (fun t29 σ =>
eX 0 t29 σ fun t30 σ =>
eX 1 t29 σ fun t31 σ =>
aC zMacDecI_0 σ fun t9 σ =>
sT 8 t9 t30 σ fun σ =>
bP .eql t24 t31 σ fun t34 σ =>
gR t34 true (aLoad true 8 t7 σ) (fun t36 σ =>
gR t34 true (aLoad true 8 t9 σ) (fun t37 σ =>
gR t34 true (aBin .eql (.agg [.i,.b,.i,.s,.i,.i,.i,.i]) t36 t37) (fun t38 σ =>
pK t34 t38 (.val (.bool false)) σ fun t39 σ =>
gK t39 true (fun K=>Ev Tryz.prog 11 [] σ K kp) (fun t41 σ =>
pK t39 t41 (.val (.bool false)) σ fun t42 σ =>
k t42 σ
) σ) σ) σ) σ) kp) kp)) σ) σ) kp
theorem F3_ev {t0 t1 t2:AV} (h:F3 t0 t1 t2 σ k kp):Ev Tryz.prog 3 [t0,t1,t2] σ k kp:=evA mixedI Tryz.func3 [(0,[1,3,5]),(1,[1,3,5,16]),(2,[6]),(3,[1,3,5,7,8]),(4,[7,8,9,10]),(5,[6])] (by kernel_rfl) (by kernel_rfl) h
end Go.Proofs.MacD
