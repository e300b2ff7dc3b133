import Derived.Test.YtjilebpcaemopaaGreatDoorAbsK
import Derived.Test.YtjilebpcaemopaaGreatDoorProg
import Derived.KernelRfl
set_option maxRecDepth 100000
set_option linter.unusedVariables false
namespace Go.Proofs.MacD
open Go Go.Abs
def zMacDecL_0:List AV:=[.val (.int .u8 0),.val (.int .u8 0),.val (.int .i64 0),.val (.int .i64 0),.val (.string ByteArray.empty),.val (.string ByteArray.empty),.val (.string ByteArray.empty)]
@[simp ↓] theorem zMacDecL_0_eq:zMacDecL_0=[.val (.int .u8 0),.val (.int .u8 0),.val (.int .i64 0),.val (.int .i64 0),.val (.string ByteArray.empty),.val (.string ByteArray.empty),.val (.string ByteArray.empty)]:=nr0 rfl
def zMacDecL_1:List AV:=[.val (.int .u8 0),.val (.int .u8 0),.val (.int .i64 0),.val (.int .i64 0),.val (.string ByteArray.empty),.val (.string ByteArray.empty),.val (.string ByteArray.empty),.val (.int .i64 0),.val (.slice none 0 0),.val (.slice none 0 0),.val (.int .u8 0),.val (.int .i64 0),.val (.slice none 0 0),.val (.slice none 0 0),.val (.int .u8 0),.val (.int .i64 0),.val (.slice none 0 0),.val (.slice none 0 0),.val (.slice none 0 0)]
@[simp ↓] theorem zMacDecL_1_eq:zMacDecL_1=[.val (.int .u8 0),.val (.int .u8 0),.val (.int .i64 0),.val (.int .i64 0),.val (.string ByteArray.empty),.val (.string ByteArray.empty),.val (.string ByteArray.empty),.val (.int .i64 0),.val (.slice none 0 0),.val (.slice none 0 0),.val (.int .u8 0),.val (.int .i64 0),.val (.slice none 0 0),.val (.slice none 0 0),.val (.int .u8 0),.val (.int .i64 0),.val (.slice none 0 0),.val (.slice none 0 0),.val (.slice none 0 0)]:=nr0 rfl
def zMacDecL_2:List AV:=[.val (.int .i64 0),.val (.int .i64 0)]
@[simp ↓] theorem zMacDecL_2_eq:zMacDecL_2=[.val (.int .i64 0),.val (.int .i64 0)]:=nr0 rfl
def zMacDecL_3:List AV:=[.val (.int .u8 0),.val (.bool false),.val (.int .i64 0),.val (.string ByteArray.empty),.val (.int .i64 0),.val (.int .i64 0),.val (.int .i64 0),.val (.int .i64 0)]
@[simp ↓] theorem zMacDecL_3_eq:zMacDecL_3=[.val (.int .u8 0),.val (.bool false),.val (.int .i64 0),.val (.string ByteArray.empty),.val (.int .i64 0),.val (.int .i64 0),.val (.int .i64 0),.val (.int .i64 0)]:=nr0 rfl
def zMacDecL_4:List AV:=[.val (.int .u8 0),.val (.bool false),.val (.int .i64 0),.val (.string ByteArray.empty)]
@[simp ↓] theorem zMacDecL_4_eq:zMacDecL_4=[.val (.int .u8 0),.val (.bool false),.val (.int .i64 0),.val (.string ByteArray.empty)]:=nr0 rfl
variable {σ:AHeap} {k kp:KP}
theorem mixedL:Tryz.prog.follows .mixedOrders=true:=by kernel_rfl
def F11 (σ:AHeap) (k kp:KP):Prop :=
stepK (pureR σ (aBuild zMacDecL_0 [(0,1,(.val (.int .u8 3)))])) fun t5 σ =>
  callK Tryz.prog (.fn (.func 23) []) [(.val (.int .i64 3))] σ (fun t7 σ =>
  callK Tryz.prog (.fn (.func 23) []) [(.val (.int .i64 4))] σ (fun t9 σ =>
stepK (pureR σ (aBuildSl 2 19 zMacDecL_1 [(0,t7),(1,t9)])) fun t10 σ =>
stepK (pureR σ (aBuild zMacDecL_1 [(0,7,t5),(18,1,t10)])) fun t11 σ =>
aC zMacDecL_1 σ fun t2 σ =>
sT 19 t2 t11 σ fun σ =>
stepK (pureR σ (aBuild zMacDecL_0 [(0,1,(.val (.int .u8 4)))])) fun t13 σ =>
lT 19 t2 σ fun t14 σ =>
stepK (pureR σ (aBuildSl 1 19 zMacDecL_1 [(0,t14)])) fun t15 σ =>
stepK (pureR σ (aBuild zMacDecL_1 [(0,7,t13),(18,1,t15)])) fun t16 σ =>
stepK (pureR σ (aBuild zMacDecL_2 [(0,1,(.val (.int .i64 1))),(1,1,(.val (.int .i64 1)))])) fun t17 σ =>
Ev Tryz.prog 12 [t16,(.val (.int .i64 9)),t17] σ (fun t18 σ =>
eX 0 t18 σ fun t19 σ =>
eX 1 t18 σ fun t20 σ =>
aC zMacDecL_3 σ fun t3 σ =>
sT 8 t3 t19 σ fun σ =>
bP .eql t20 (.val (.int .i64 0)) σ fun t22 σ =>
gR t22 true (aFieldAddr 0 t3) (fun t24 σ =>
gR t22 true (aLoad true 4 t24 σ) (fun t25 σ =>
gR t22 true (aBuild zMacDecL_4 [(0,1,(.val (.int .u8 1))),(1,1,(.val (.bool true))),(2,1,(.val (.int .i64 3)))]) (fun t26 σ =>
gR t22 true (aBin .eql (.agg [.i,.b,.i,.s]) t25 t26) (fun t27 σ =>
pK t22 t27 (.val (.bool false)) σ fun t28 σ =>
gR t28 true (aFieldAddr 4 t3) (fun t30 σ =>
gR t28 true (aLoad false 1 t30 σ) (fun t31 σ =>
gR t28 true (aBin .eql .prim t31 (.val (.int .i64 4))) (fun t32 σ =>
pK t28 t32 (.val (.bool false)) σ fun t33 σ =>
gR t33 true (aFieldAddr 6 t3) (fun t35 σ =>
gR t33 true (aLoad false 1 t35 σ) (fun t36 σ =>
gR t33 true (aBin .eql .prim t36 (.val (.int .i64 1))) (fun t37 σ =>
pK t33 t37 (.val (.bool false)) σ fun t38 σ =>
gR t38 true (aFieldAddr 5 t3) (fun t40 σ =>
gR t38 true (aLoad false 1 t40 σ) (fun t41 σ =>
gR t38 true (aBin .eql .prim t41 (.val (.int .i64 1))) (fun t42 σ =>
pK t38 t42 (.val (.bool false)) σ fun t43 σ =>
k t43 σ) σ) σ) σ) σ) σ) σ) σ) σ) σ) σ) σ) σ) σ) kp) kp) kp
theorem F11_ev (h:F11 σ k kp):Ev Tryz.prog 11 [] σ k kp:=evA mixedL Tryz.func11 [(0,[]),(1,[1]),(2,[2]),(4002,[1]),(3,[3,4]),(4003,[1]),(4,[0])] (by kernel_rfl) (by kernel_rfl) h
end Go.Proofs.MacD
