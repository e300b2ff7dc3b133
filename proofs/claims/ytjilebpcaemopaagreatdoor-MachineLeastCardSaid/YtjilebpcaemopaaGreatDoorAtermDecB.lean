import Derived.Test.YtjilebpcaemopaaGreatDoorAbsK
import Derived.Test.YtjilebpcaemopaaGreatDoorProg
import Derived.KernelRfl
set_option maxRecDepth 100000
set_option linter.unusedVariables false
namespace Go.Proofs.AtD
open Go Go.Abs
def zAtermDecB_0:List AV:=[.val (.int .u8 0),.val (.int .u8 0),.val (.int .i64 0),.val (.int .i64 0),.val (.string ByteArray.empty),.val (.string ByteArray.empty),.val (.string ByteArray.empty),.val (.int .i64 0),.val (.slice none 0 0),.val (.slice none 0 0),.val (.int .u8 0),.val (.int .i64 0),.val (.slice none 0 0),.val (.slice none 0 0),.val (.int .u8 0),.val (.int .i64 0),.val (.slice none 0 0),.val (.slice none 0 0),.val (.slice none 0 0)]
@[simp ↓] theorem zAtermDecB_0_eq:zAtermDecB_0=[.val (.int .u8 0),.val (.int .u8 0),.val (.int .i64 0),.val (.int .i64 0),.val (.string ByteArray.empty),.val (.string ByteArray.empty),.val (.string ByteArray.empty),.val (.int .i64 0),.val (.slice none 0 0),.val (.slice none 0 0),.val (.int .u8 0),.val (.int .i64 0),.val (.slice none 0 0),.val (.slice none 0 0),.val (.int .u8 0),.val (.int .i64 0),.val (.slice none 0 0),.val (.slice none 0 0),.val (.slice none 0 0)]:=nr0 rfl
variable {s:AHeap} {k kp:KP}
theorem mixed:Tryz.prog.follows .mixedOrders=true:=by kernel_rfl
def F14 (t0:AV) (s:AHeap) (k kp:KP):Prop :=
stepK (aBox t0 s) fun t1 s =>
lT 19 t1 s fun t5 s =>
stepK (aBuildSlice 1 19 zAtermDecB_0 [(0,t5)] s) fun t6 s =>
seqW (fun fr s=>(
k (lq fr 3) s
)) (fun j1=>(
fA 18 t1 s fun t7 s =>
lF t7 s fun t8 s =>
stepK (pureR s (aLenK .slice t8 s)) fun t9 s =>
loopW (fun fr s again=>(
bP .lss (lq fr 10) (lq fr 9) s fun t11 s =>
condK t11 (
fA 18 (lq fr 1) s fun t14 s =>
lF t14 s fun t15 s =>
iA 19 t15 (lq fr 10) s fun t17 s =>
lT 19 t17 s fun t18 s =>
Ev Tryz.prog 14 [t18] s (fun t19 s =>
stepK (aAppend 19 280 (lq fr 3) t19 s) fun t20 s =>
bP .add (lq fr 10) (.val (.int .i64 1)) s fun t21 s =>
again [(1,(lq fr 1)),(3,t20),(9,(lq fr 9)),(10,t21)] s
) kp) (
j1 [(3,(lq fr 3))] s
)
)) [(1,t1),(3,t6),(9,t9),(10,(.val (.int .i64 0)))] s
))
theorem F14_ev {t0:AV} (h:F14 t0 s k kp):Ev Tryz.prog 14 [t0] s k kp:=evA mixed Tryz.func14 [(0,[1]),(1,[1,3]),(3008,[3]),(2,[1,3,9,10]),(3,[1,3,9,10,11]),(4,[1,3,4,9,10]),(5,[1,3,9,10]),(6,[1,3,9,10]),(1003,[1,3,9,10]),(7,[2])] (by kernel_rfl) (by kernel_rfl) h
def F19 (t0 t1:AV) (s:AHeap) (k kp:KP):Prop :=
seqW (fun fr s=>(
k (.val (.bool false)) s
)) (fun j1=>(
stepK (pureR s (aLenK .slice t0 s)) fun t7 s =>
loopW (fun fr s again=>(
bP .lss (lq fr 8) (lq fr 7) s fun t9 s =>
condK t9 (
iA 1 (lq fr 0) (lq fr 8) s fun t13 s =>
lF t13 s fun t14 s =>
bP .eql t14 (lq fr 1) s fun t16 s =>
condK t16 (
k (.val (.bool true)) s
) (
bP .add (lq fr 8) (.val (.int .i64 1)) s fun t17 s =>
again [(0,(lq fr 0)),(1,(lq fr 1)),(7,(lq fr 7)),(8,t17)] s
)
) (
j1 [(0,(lq fr 0))] s
)
)) [(0,t0),(1,t1),(7,t7),(8,(.val (.int .i64 0)))] s
))
theorem F19_ev {t0 t1:AV} (h:F19 t0 t1 s k kp):Ev Tryz.prog 19 [t0,t1] s k kp:=evA mixed Tryz.func19 [(0,[0,1]),(3008,[0]),(1,[0,1,7,8]),(2,[0,1,7,8,9]),(3,[0,1,5,7,8]),(4,[0,1,7,8,16]),(5,[4]),(6,[0,1,7,8]),(1002,[0,1,7,8]),(7,[4])] (by kernel_rfl) (by kernel_rfl) h
end Go.Proofs.AtD
