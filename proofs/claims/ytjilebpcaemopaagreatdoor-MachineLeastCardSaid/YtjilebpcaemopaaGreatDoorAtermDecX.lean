import Derived.Test.YtjilebpcaemopaaGreatDoorAbsK
import Derived.Test.YtjilebpcaemopaaGreatDoorProg
import Derived.KernelRfl
set_option maxRecDepth 100000
set_option linter.unusedVariables false
namespace Go.Proofs.AtD
open Go Go.Abs
def zAtermDecX_0:List AV:=[.val (.int .u8 0),.val (.int .i64 0),.val (.string ByteArray.empty)]
@[simp ↓] theorem zAtermDecX_0_eq:zAtermDecX_0=[.val (.int .u8 0),.val (.int .i64 0),.val (.string ByteArray.empty)]:=nr0 rfl
variable {s:AHeap} {k kp:KP}
theorem mixed:Tryz.prog.follows .mixedOrders=true:=by kernel_rfl
def F76 (t0:AV) (s:AHeap) (k kp:KP):Prop :=
seqW (fun fr s=>(
k (.val (.bool true)) s
)) (fun j1=>(
stepK (pureR s (aLenK .slice t0 s)) fun t6 s =>
loopW (fun fr s again=>(
bP .lss (lq fr 7) (lq fr 6) s fun t8 s =>
condK t8 (
iA 3 (lq fr 5) (lq fr 7) s fun t10 s =>
lT 3 t10 s fun t11 s =>
aC zAtermDecX_0 s fun t4 s =>
sT 3 t4 t11 s fun s =>
lT 3 t4 s fun t12 s =>
Ev Tryz.prog 120 [t12] s (fun t13 s =>
stepK (pureR s (aNot t13)) fun t14 s =>
gK t14 false (fun K=>K (lq fr 7) s) (fun t16 s =>
gR t14 false (aBin .gtr .prim t16 (.val (.int .i64 0))) (fun t17 s =>
gK t14 false (fun K=>K t17 s) (fun t18 s =>
gK t18 true (fun K=>K (lq fr 0) s) (fun t19 s =>
gK t18 true (fun K=>K (lq fr 7) s) (fun t20 s =>
gR t18 true (aBin .sub .prim t20 (.val (.int .i64 1))) (fun t21 s =>
gR t18 true (aIndexAddr 3 t19 t21 s) (fun t22 s =>
gR t18 true (aLoad true 3 t22 s) (fun t23 s =>
gR t18 true (aLoad true 3 t4 s) (fun t24 s =>
gK t18 true (fun K=>Ev Tryz.prog 121 [t23,t24] s K kp) (fun t25 s =>
gR t18 true (aBin .geq .prim t25 (.val (.int .i64 0))) (fun t26 s =>
gR t14 false (aPick t18 t26 (.val (.bool false))) (fun t27 s =>
pK t14 (.val (.bool true)) t27 s fun t28 s =>
condK t28 (
k (.val (.bool false)) s
) (
bP .add (lq fr 7) (.val (.int .i64 1)) s fun t29 s =>
again [(0,(lq fr 0)),(5,(lq fr 5)),(6,(lq fr 6)),(7,t29)] s
)
) s) s) s) s) s) s) s) s) s) s) s) s) kp) (
j1 [(0,(lq fr 0))] s
)
)) [(0,t0),(5,t0),(6,t6),(7,(.val (.int .i64 0)))] s
))
theorem F76_ev {t0:AV} (h:F76 t0 s k kp):Ev Tryz.prog 76 [t0] s k kp:=evA mixed Tryz.func76 [(0,[0]),(3008,[0]),(1,[0,5,6,7]),(2,[0,5,6,7,8]),(3,[0,3,4,5,6,7]),(4,[0,5,6,7,28]),(2004,[0,1,2,3,4,5,6,7,8,9,10,11,12,13,14,15,16]),(5,[2]),(6,[0,5,6,7]),(1002,[0,5,6,7]),(7,[2])] (by kernel_rfl) (by kernel_rfl) h
def F121 (t0 t1:AV) (s:AHeap) (k kp:KP):Prop :=
stepK (aBox t0 s) fun t2 s =>
stepK (aBox t1 s) fun t3 s =>
fA 0 t2 s fun t5 s =>
lF t5 s fun t6 s =>
fA 0 t3 s fun t7 s =>
lF t7 s fun t8 s =>
fA 1 t2 s fun t10 s =>
lF t10 s fun t11 s =>
fA 1 t3 s fun t12 s =>
lF t12 s fun t13 s =>
fA 2 t2 s fun t15 s =>
lF t15 s fun t16 s =>
fA 2 t3 s fun t17 s =>
lF t17 s fun t18 s =>
Ev Tryz.prog 165 [t6,t8] s (fun t9 s =>
rg s (aLoad false 1 t10 s) t11 (
rg s (aLoad false 1 t12 s) t13 (
rg s (aLoad false 1 t15 s) t16 (
rg s (aLoad false 1 t17 s) t18 (
Ev Tryz.prog 166 [t11,t13] s (fun t14 s =>
rg s (aLoad false 1 t15 s) t16 (
rg s (aLoad false 1 t17 s) t18 (
Ev Tryz.prog 167 [t16,t18] s (fun t19 s =>
stepK (pureR s (aBuildSl 3 1 [.val (.int .i64 0)] [(0,t9),(1,t14),(2,t19)])) fun t20 s =>
Ev Tryz.prog 164 [t20] s (fun t21 s =>
k t21 s) kp) kp))) kp))))) kp
theorem F121_ev {t0 t1:AV} (h:F121 t0 t1 s k kp):Ev Tryz.prog 121 [t0,t1] s k kp:=evA mixed Tryz.func121 [(0,[2,3]),(1,[4]),(2001,[0,1,2,3,5,6,7,8,10,11,12,13,4,9,14,15,16,17]),(101004,[6,8,11,13]),(101009,[11,13])] (by kernel_rfl) (by kernel_rfl) h
def F122 (t0:AV) (s:AHeap) (k kp:KP):Prop :=
Ev Tryz.prog 168 [t0,(.fn (.func 169) [])] s (fun t4 s =>
stepK (pureR s (aNot t4)) fun t5 s =>
k t5 s) kp
theorem F122_ev {t0:AV} (h:F122 t0 s k kp):Ev Tryz.prog 122 [t0] s k kp:=evA mixed Tryz.func122 [(0,[0]),(1,[2])] (by kernel_rfl) (by kernel_rfl) h
def F164 (t0:AV) (s:AHeap) (k kp:KP):Prop :=
seqW (fun fr s=>(
k (lq fr 3) s
)) (fun j1=>(
stepK (pureR s (aLenK .slice t0 s)) fun t7 s =>
loopW (fun fr s again=>(
bP .lss (lq fr 8) (lq fr 7) s fun t9 s =>
condK t9 (
iA 1 (lq fr 6) (lq fr 8) s fun t10 s =>
lF t10 s fun t11 s =>
bP .neq t11 (lq fr 3) s fun t14 s =>
condK t14 (
k t11 s
) (
bP .add (lq fr 8) (.val (.int .i64 1)) s fun t16 s =>
again [(3,(lq fr 3)),(6,(lq fr 6)),(7,(lq fr 7)),(8,t16)] s
)
) (
j1 [(3,(lq fr 3))] s
)
)) [(3,(.val (.int .i64 0))),(6,t0),(7,t7),(8,(.val (.int .i64 0)))] s
))
theorem F164_ev {t0:AV} (h:F164 t0 s k kp):Ev Tryz.prog 164 [t0] s k kp:=evA mixed Tryz.func164 [(0,[0]),(1,[0,3]),(3009,[3]),(2,[3,6,7,8]),(3,[3,6,7,8,9]),(4,[3,5,6,7,8]),(5,[3,5,6,7,8,14]),(6,[2]),(7,[3,6,7,8]),(1003,[3,6,7,8]),(8,[2])] (by kernel_rfl) (by kernel_rfl) h
def F165 (t0 t1:AV) (s:AHeap) (k kp:KP):Prop :=
Ev Tryz.prog 189 [t0] s (fun t8 s =>
Ev Tryz.prog 189 [t1] s (fun t10 s =>
condK t8 (
condK t10 (
k (.val (.int .i64 0)) s
) (
k (.val (.int .i64 (-1))) s
)
) (
condK t10 (
k (.val (.int .i64 1)) s
) (
bP .lss t0 t1 s fun t16 s =>
condK t16 (
k (.val (.int .i64 (-1))) s
) (
bP .gtr t0 t1 s fun t19 s =>
condK t19 (
k (.val (.int .i64 1)) s
) (
k (.val (.int .i64 0)) s
)
)
)
)) kp) kp
theorem F165_ev {t0 t1:AV} (h:F165 t0 t1 s k kp):Ev Tryz.prog 165 [t0,t1] s k kp:=evA mixed Tryz.func165 [(0,[0,1]),(1,[0,1,5]),(2,[0,1,5,6]),(3,[0,1,6,11]),(4,[12]),(5,[4]),(6,[4]),(7,[0,1,13]),(8,[4]),(9,[0,1,16]),(10,[4]),(11,[19]),(12,[4]),(13,[4])] (by kernel_rfl) (by kernel_rfl) h
def F166 (t0 t1:AV) (s:AHeap) (k kp:KP):Prop :=
Ev Tryz.prog 190 [t0] s (fun t8 s =>
Ev Tryz.prog 190 [t1] s (fun t10 s =>
condK t8 (
condK t10 (
k (.val (.int .i64 0)) s
) (
k (.val (.int .i64 (-1))) s
)
) (
condK t10 (
k (.val (.int .i64 1)) s
) (
bP .lss t0 t1 s fun t16 s =>
condK t16 (
k (.val (.int .i64 (-1))) s
) (
bP .gtr t0 t1 s fun t19 s =>
condK t19 (
k (.val (.int .i64 1)) s
) (
k (.val (.int .i64 0)) s
)
)
)
)) kp) kp
theorem F166_ev {t0 t1:AV} (h:F166 t0 t1 s k kp):Ev Tryz.prog 166 [t0,t1] s k kp:=evA mixed Tryz.func166 [(0,[0,1]),(1,[0,1,5]),(2,[0,1,5,6]),(3,[0,1,6,11]),(4,[12]),(5,[4]),(6,[4]),(7,[0,1,13]),(8,[4]),(9,[0,1,16]),(10,[4]),(11,[19]),(12,[4]),(13,[4])] (by kernel_rfl) (by kernel_rfl) h
def F167 (t0 t1:AV) (s:AHeap) (k kp:KP):Prop :=
Ev Tryz.prog 191 [t0] s (fun t8 s =>
Ev Tryz.prog 191 [t1] s (fun t10 s =>
condK t8 (
condK t10 (
k (.val (.int .i64 0)) s
) (
k (.val (.int .i64 (-1))) s
)
) (
condK t10 (
k (.val (.int .i64 1)) s
) (
bP .lss t0 t1 s fun t16 s =>
condK t16 (
k (.val (.int .i64 (-1))) s
) (
bP .gtr t0 t1 s fun t19 s =>
condK t19 (
k (.val (.int .i64 1)) s
) (
k (.val (.int .i64 0)) s
)
)
)
)) kp) kp
theorem F167_ev {t0 t1:AV} (h:F167 t0 t1 s k kp):Ev Tryz.prog 167 [t0,t1] s k kp:=evA mixed Tryz.func167 [(0,[0,1]),(1,[0,1,5]),(2,[0,1,5,6]),(3,[0,1,6,11]),(4,[12]),(5,[4]),(6,[4]),(7,[0,1,13]),(8,[4]),(9,[0,1,16]),(10,[4]),(11,[19]),(12,[4]),(13,[4])] (by kernel_rfl) (by kernel_rfl) h
def F168 (t0 t1:AV) (s:AHeap) (k kp:KP):Prop :=
Ev Tryz.prog 192 [t0,t1] s (fun t7 s =>
bP .geq t7 (.val (.int .i64 0)) s fun t8 s =>
k t8 s) kp
theorem F168_ev {t0 t1:AV} (h:F168 t0 t1 s k kp):Ev Tryz.prog 168 [t0,t1] s k kp:=evA mixed Tryz.func168 [(0,[0,1]),(1,[4])] (by kernel_rfl) (by kernel_rfl) h
def F169 (t0:AV) (s:AHeap) (k kp:KP):Prop :=
stepK (aBox t0 s) fun t1 s =>
lT 4 t1 s fun t3 s =>
Ev Tryz.prog 170 [t3] s (fun t4 s =>
stepK (pureR s (aNot t4)) fun t5 s =>
gR t5 false (aFieldAddr 3 t1) (fun t7 s =>
gR t5 false (aLoad false 1 t7 s) (fun t8 s =>
gK t5 false (fun K=>Ev Tryz.prog 122 [t8] s K kp) (fun t9 s =>
gR t5 false (aNot t9) (fun t10 s =>
pK t5 (.val (.bool true)) t10 s fun t11 s =>
k t11 s) s) s) s) s) kp
theorem F169_ev {t0:AV} (h:F169 t0 s k kp):Ev Tryz.prog 169 [t0] s k kp:=evA mixed Tryz.func169 [(0,[1]),(1,[2])] (by kernel_rfl) (by kernel_rfl) h
def F170 (t0:AV) (s:AHeap) (k kp:KP):Prop :=
stepK (aBox t0 s) fun t1 s =>
fA 0 t1 s fun t3 s =>
lF t3 s fun t4 s =>
bP .eql t4 (.val (.int .u8 1)) s fun t6 s =>
condK t6 (
fA 1 t1 s fun t7 s =>
lF t7 s fun t8 s =>
bP .eql t8 (.val (.int .i64 0)) s fun t9 s =>
gR t9 true (aFieldAddr 2 t1) (fun t11 s =>
gR t9 true (aLoad false 1 t11 s) (fun t12 s =>
gR t9 true (aLenK .slice t12 s) (fun t13 s =>
gR t9 true (aBin .eql .prim t13 (.val (.int .i64 0))) (fun t14 s =>
pK t9 t14 (.val (.bool false)) s fun t15 s =>
gR t15 true (aFieldAddr 3 t1) (fun t17 s =>
gR t15 true (aLoad false 1 t17 s) (fun t18 s =>
gR t15 true (aLenK .slice t18 s) (fun t19 s =>
gR t15 true (aBin .eql .prim t19 (.val (.int .i64 0))) (fun t20 s =>
pK t15 t20 (.val (.bool false)) s fun t21 s =>
k t21 s
) s) s) s) s) s) s) s) s) (
bP .eql t4 (.val (.int .u8 2)) s fun t23 s =>
condK t23 (
fA 1 t1 s fun t24 s =>
lF t24 s fun t25 s =>
bP .geq t25 (.val (.int .i64 0)) s fun t26 s =>
gR t26 true (aFieldAddr 2 t1) (fun t28 s =>
gR t26 true (aLoad false 1 t28 s) (fun t29 s =>
gR t26 true (aLenK .slice t29 s) (fun t30 s =>
gR t26 true (aBin .eql .prim t30 (.val (.int .i64 0))) (fun t31 s =>
pK t26 t31 (.val (.bool false)) s fun t32 s =>
gR t32 true (aFieldAddr 3 t1) (fun t34 s =>
gR t32 true (aLoad false 1 t34 s) (fun t35 s =>
gR t32 true (aLenK .slice t35 s) (fun t36 s =>
gR t32 true (aBin .eql .prim t36 (.val (.int .i64 2))) (fun t37 s =>
pK t32 t37 (.val (.bool false)) s fun t38 s =>
k t38 s
) s) s) s) s) s) s) s) s) (
bP .eql t4 (.val (.int .u8 3)) s fun t40 s =>
condK t40 (
fA 1 t1 s fun t41 s =>
lF t41 s fun t42 s =>
bP .geq t42 (.val (.int .i64 0)) s fun t43 s =>
gR t43 true (aFieldAddr 2 t1) (fun t45 s =>
gR t43 true (aLoad false 1 t45 s) (fun t46 s =>
gR t43 true (aLenK .slice t46 s) (fun t47 s =>
gR t43 true (aBin .eql .prim t47 (.val (.int .i64 0))) (fun t48 s =>
pK t43 t48 (.val (.bool false)) s fun t49 s =>
gR t49 true (aFieldAddr 3 t1) (fun t51 s =>
gR t49 true (aLoad false 1 t51 s) (fun t52 s =>
gR t49 true (aLenK .slice t52 s) (fun t53 s =>
gR t49 true (aBin .eql .prim t53 (.val (.int .i64 1))) (fun t54 s =>
pK t49 t54 (.val (.bool false)) s fun t55 s =>
k t55 s
) s) s) s) s) s) s) s) s) (
bP .eql t4 (.val (.int .u8 4)) s fun t57 s =>
condK t57 (
fA 1 t1 s fun t58 s =>
lF t58 s fun t59 s =>
bP .geq t59 (.val (.int .i64 0)) s fun t60 s =>
gR t60 true (aFieldAddr 2 t1) (fun t62 s =>
gR t60 true (aLoad false 1 t62 s) (fun t63 s =>
gK t60 true (fun K=>Ev Tryz.prog 76 [t63] s K kp) (fun t64 s =>
pK t60 t64 (.val (.bool false)) s fun t65 s =>
gR t65 true (aFieldAddr 3 t1) (fun t67 s =>
gR t65 true (aLoad false 1 t67 s) (fun t68 s =>
gR t65 true (aLenK .slice t68 s) (fun t69 s =>
gR t65 true (aBin .eql .prim t69 (.val (.int .i64 2))) (fun t70 s =>
pK t65 t70 (.val (.bool false)) s fun t71 s =>
k t71 s
) s) s) s) s) s) s) s) (
k (.val (.bool false)) s
)
)
)
)
theorem F170_ev {t0:AV} (h:F170 t0 s k kp):Ev Tryz.prog 170 [t0] s k kp:=evA mixed Tryz.func170 [(0,[1]),(1,[1,4]),(2,[1,4,5]),(3,[2]),(4,[1,4,22]),(5,[2]),(6,[1,4,39]),(7,[2]),(8,[1,56]),(9,[2]),(10,[2])] (by kernel_rfl) (by kernel_rfl) h
def F189 (t0:AV) (s:AHeap) (k kp:KP):Prop :=
bP .neq t0 t0 s fun t5 s =>
k t5 s
theorem F189_ev {t0:AV} (h:F189 t0 s k kp):Ev Tryz.prog 189 [t0] s k kp:=evA mixed Tryz.func189 [(0,[0]),(1,[2])] (by kernel_rfl) (by kernel_rfl) h
def F190 (t0:AV) (s:AHeap) (k kp:KP):Prop :=
bP .neq t0 t0 s fun t5 s =>
k t5 s
theorem F190_ev {t0:AV} (h:F190 t0 s k kp):Ev Tryz.prog 190 [t0] s k kp:=evA mixed Tryz.func190 [(0,[0]),(1,[2])] (by kernel_rfl) (by kernel_rfl) h
def F191 (t0:AV) (s:AHeap) (k kp:KP):Prop :=
bP .neq t0 t0 s fun t5 s =>
k t5 s
theorem F191_ev {t0:AV} (h:F191 t0 s k kp):Ev Tryz.prog 191 [t0] s k kp:=evA mixed Tryz.func191 [(0,[0]),(1,[2])] (by kernel_rfl) (by kernel_rfl) h
def F192 (t0 t1:AV) (s:AHeap) (k kp:KP):Prop :=
seqW (fun fr s=>(
k (.val (.int .i64 (-1))) s
)) (fun j1=>(
stepK (pureR s (aLenK .slice t0 s)) fun t7 s =>
loopW (fun fr s again=>(
bP .lss (lq fr 8) (lq fr 7) s fun t9 s =>
condK t9 (
iA 4 (lq fr 0) (lq fr 8) s fun t14 s =>
lT 4 t14 s fun t15 s =>
  callK Tryz.prog (lq fr 1) [t15] s (fun t16 s =>
condK t16 (
k (lq fr 8) s
) (
bP .add (lq fr 8) (.val (.int .i64 1)) s fun t18 s =>
again [(0,(lq fr 0)),(1,(lq fr 1)),(7,(lq fr 7)),(8,t18)] s
)
) kp) (
j1 [(0,(lq fr 0))] s
)
)) [(0,t0),(1,t1),(7,t7),(8,(.val (.int .i64 0)))] s
))
theorem F192_ev {t0 t1:AV} (h:F192 t0 t1 s k kp):Ev Tryz.prog 192 [t0,t1] s k kp:=evA mixed Tryz.func192 [(0,[0,1]),(3008,[0]),(1,[0,1,7,8]),(2,[0,1,7,8,9]),(3,[0,1,5,7,8]),(4,[0,1,5,7,8,16]),(5,[4]),(6,[0,1,7,8]),(1002,[0,1,7,8]),(7,[4])] (by kernel_rfl) (by kernel_rfl) h
end Go.Proofs.AtD
