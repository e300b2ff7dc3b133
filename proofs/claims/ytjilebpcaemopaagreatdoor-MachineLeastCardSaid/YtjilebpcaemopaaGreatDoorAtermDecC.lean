import Derived.Test.YtjilebpcaemopaaGreatDoorAbsK
import Derived.Test.YtjilebpcaemopaaGreatDoorProg
import Derived.KernelRfl
set_option maxRecDepth 100000
set_option linter.unusedVariables false
namespace Go.Proofs.AtD
open Go Go.Abs
variable {s:AHeap} {k kp:KP}
theorem mixed:Tryz.prog.follows .mixedOrders=true:=by kernel_rfl
def F138 (t0:AV) (s:AHeap) (k kp:KP):Prop :=
Ev Tryz.prog 134 [t0,(.val (.int .u8 4))] s (fun t4 s =>
k t4 s) kp
theorem F138_ev {t0:AV} (h:F138 t0 s k kp):Ev Tryz.prog 138 [t0] s k kp:=evA mixed Tryz.func138 [(0,[0]),(1,[2])] (by kernel_rfl) (by kernel_rfl) h
def F105 (t0:AV) (s:AHeap) (k kp:KP):Prop :=
stepK (aBox t0 s) fun t1 s =>
fA 0 t1 s fun t3 s =>
lF t3 s fun t4 s =>
bP .eql t4 (.val (.int .u8 3)) s fun t5 s =>
condK t5 (
fA 1 t1 s fun t6 s =>
lF t6 s fun t7 s =>
bP .eql t7 (.val (.int .i64 0)) s fun t8 s =>
gR t8 true (aFieldAddr 2 t1) (fun t10 s =>
gR t8 true (aLoad false 1 t10 s) (fun t11 s =>
gK t8 true (fun K=>Ev Tryz.prog 138 [t11] s K kp) (fun t12 s =>
pK t8 t12 (.val (.bool false)) s fun t13 s =>
k t13 s
) s) s) s) (
fA 0 t1 s fun t14 s =>
lF t14 s fun t15 s =>
bP .eql t15 (.val (.int .u8 1)) s fun t16 s =>
gR t16 false (aFieldAddr 0 t1) (fun t18 s =>
gR t16 false (aLoad false 1 t18 s) (fun t19 s =>
gR t16 false (aBin .eql .prim t19 (.val (.int .u8 2))) (fun t20 s =>
pK t16 (.val (.bool true)) t20 s fun t21 s =>
gR t21 true (aFieldAddr 1 t1) (fun t23 s =>
gR t21 true (aLoad false 1 t23 s) (fun t24 s =>
gR t21 true (aBin .geq .prim t24 (.val (.int .i64 0))) (fun t25 s =>
pK t21 t25 (.val (.bool false)) s fun t26 s =>
gR t26 true (aFieldAddr 2 t1) (fun t28 s =>
gR t26 true (aLoad false 1 t28 s) (fun t29 s =>
gR t26 true (aBin .eql .prim t29 (.val (.string { data:=#[] }))) (fun t30 s =>
pK t26 t30 (.val (.bool false)) s fun t31 s =>
k t31 s
) s) s) s) s) s) s) s) s) s)
theorem F105_ev {t0:AV} (h:F105 t0 s k kp):Ev Tryz.prog 105 [t0] s k kp:=evA mixed Tryz.func105 [(0,[1]),(1,[1,5]),(2,[2]),(3,[2])] (by kernel_rfl) (by kernel_rfl) h
def F120 (t0:AV) (s:AHeap) (k kp:KP):Prop :=
stepK (aBox t0 s) fun t1 s =>
fA 0 t1 s fun t3 s =>
lF t3 s fun t4 s =>
seqW (fun fr s=>(
condK (lq fr 5) (
fA 1 (lq fr 1) s fun t8 s =>
lF t8 s fun t9 s =>
bP .geq t9 (.val (.int .i64 0)) s fun t10 s =>
gR t10 true (aFieldAddr 2 (lq fr 1)) (fun t12 s =>
gR t10 true (aLoad false 1 t12 s) (fun t13 s =>
gR t10 true (aBin .eql .prim t13 (.val (.string { data:=#[] }))) (fun t14 s =>
pK t10 t14 (.val (.bool false)) s fun t15 s =>
k t15 s
) s) s) s) (
bP .eql (lq fr 4) (.val (.int .u8 3)) s fun t17 s =>
condK t17 (
fA 1 (lq fr 1) s fun t18 s =>
lF t18 s fun t19 s =>
bP .eql t19 (.val (.int .i64 0)) s fun t20 s =>
gR t20 true (aFieldAddr 2 (lq fr 1)) (fun t22 s =>
gR t20 true (aLoad false 1 t22 s) (fun t23 s =>
gR t20 true (aBuildSl 1 1 [.val (.string ByteArray.empty)] [(0,t23)]) (fun t24 s =>
gK t20 true (fun K=>Ev Tryz.prog 163 [t24] s K kp) (fun t25 s =>
pK t20 t25 (.val (.bool false)) s fun t26 s =>
k t26 s
) s) s) s) s) (
k (.val (.bool false)) s
)
)
)) (fun j1=>(
bP .eql t4 (.val (.int .u8 1)) s fun t6 s =>
condK t6 (
j1 [(1,t1),(4,t4),(5,t6)] s
) (
bP .eql t4 (.val (.int .u8 2)) s fun t7 s =>
j1 [(1,t1),(4,t4),(5,t7)] s
)
))
theorem F120_ev {t0:AV} (h:F120 t0 s k kp):Ev Tryz.prog 120 [t0] s k kp:=evA mixed Tryz.func120 [(0,[1]),(1,[1,4]),(3005,[1,4,5]),(2,[1,4,5]),(3,[1,4,5]),(4,[2]),(5,[1,16]),(6,[2]),(4006,[1]),(7,[2])] (by kernel_rfl) (by kernel_rfl) h
def F134 (t0 t1:AV) (s:AHeap) (k kp:KP):Prop :=
stepK (pureR s (aLenK .str t0 s)) fun t8 s =>
bP .eql t8 (.val (.int .i64 0)) s fun t9 s =>
gK t9 false (fun K=>K t0 s) (fun t11 s =>
gR t9 false (aLenK .str t11 s) (fun t12 s =>
gR t9 false (aBin .gtr .prim t12 (.val (.int .i64 16))) (fun t13 s =>
pK t9 (.val (.bool true)) t13 s fun t14 s =>
gK t14 false (fun K=>K t0 s) (fun t16 s =>
gR t14 false (aIndexStr t16 (.val (.int .i64 0))) (fun t17 s =>
gK t14 false (fun K=>Ev Tryz.prog 173 [t17] s K kp) (fun t18 s =>
gK t14 false (fun K=>K t1 s) (fun t19 s =>
gR t14 false (aBin .neq .prim t18 t19) (fun t20 s =>
pK t14 (.val (.bool true)) t20 s fun t21 s =>
condK t21 (
k (.val (.bool false)) s
) (
seqW (fun fr s=>(
k (.val (.bool true)) s
)) (fun j1=>(
loopW (fun fr s again=>(
stepK (pureR s (aLenK .str (lq fr 0) s)) fun t24 s =>
bP .lss (lq fr 5) t24 s fun t25 s =>
condK t25 (
stepK (pureR s (aIndexStr (lq fr 0) (lq fr 5))) fun t30 s =>
Ev Tryz.prog 173 [t30] s (fun t31 s =>
bP .lss t31 (.val (.int .u8 2)) s fun t33 s =>
gK t33 false (fun K=>K t31 s) (fun t35 s =>
gR t33 false (aBin .gtr .prim t35 (.val (.int .u8 4))) (fun t36 s =>
pK t33 (.val (.bool true)) t36 s fun t37 s =>
condK t37 (
k (.val (.bool false)) s
) (
bP .add (lq fr 5) (.val (.int .i64 1)) s fun t27 s =>
again [(0,(lq fr 0)),(5,t27)] s
)
) s) s) kp) (
j1 [(0,(lq fr 0))] s
)
)) [(0,t0),(5,(.val (.int .i64 0)))] s
))
)) s) s) s) s) s) s) s) s
theorem F134_ev {t0 t1:AV} (h:F134 t0 t1 s k kp):Ev Tryz.prog 134 [t0,t1] s k kp:=evA mixed Tryz.func134 [(0,[0,1]),(1,[0,21]),(2,[4]),(3010,[0]),(3,[0,5]),(4,[0,5,25]),(6,[0,5,6]),(7,[0,5,37]),(8,[4]),(5,[0,5]),(1004,[0,5]),(9,[4])] (by kernel_rfl) (by kernel_rfl) h
def F163 (t0:AV) (s:AHeap) (k kp:KP):Prop :=
Ev Tryz.prog 186 [(.fn (.func 187) []),t0] s (fun t4 s =>
k t4 s) kp
theorem F163_ev {t0:AV} (h:F163 t0 s k kp):Ev Tryz.prog 163 [t0] s k kp:=evA mixed Tryz.func163 [(0,[0]),(1,[2])] (by kernel_rfl) (by kernel_rfl) h
def F173 (t0:AV) (s:AHeap) (k kp:KP):Prop :=
bP .eql t0 (.val (.int .u8 32)) s fun t6 s =>
gK t6 false (fun K=>K t0 s) (fun t8 s =>
gR t6 false (aBin .eql .prim t8 (.val (.int .u8 9))) (fun t9 s =>
pK t6 (.val (.bool true)) t9 s fun t10 s =>
gK t10 false (fun K=>K t0 s) (fun t12 s =>
gR t10 false (aBin .eql .prim t12 (.val (.int .u8 10))) (fun t13 s =>
pK t10 (.val (.bool true)) t13 s fun t14 s =>
condK t14 (
k (.val (.int .u8 1)) s
) (
bP .geq t0 (.val (.int .u8 48)) s fun t16 s =>
gK t16 true (fun K=>K t0 s) (fun t18 s =>
gR t16 true (aBin .leq .prim t18 (.val (.int .u8 57))) (fun t19 s =>
pK t16 t19 (.val (.bool false)) s fun t20 s =>
condK t20 (
k (.val (.int .u8 2)) s
) (
bP .geq t0 (.val (.int .u8 97)) s fun t22 s =>
gK t22 true (fun K=>K t0 s) (fun t24 s =>
gR t22 true (aBin .leq .prim t24 (.val (.int .u8 122))) (fun t25 s =>
pK t22 t25 (.val (.bool false)) s fun t26 s =>
condK t26 (
k (.val (.int .u8 3)) s
) (
bP .geq t0 (.val (.int .u8 65)) s fun t28 s =>
gK t28 true (fun K=>K t0 s) (fun t30 s =>
gR t28 true (aBin .leq .prim t30 (.val (.int .u8 90))) (fun t31 s =>
pK t28 t31 (.val (.bool false)) s fun t32 s =>
condK t32 (
k (.val (.int .u8 4)) s
) (
stepK (pureR s (aBuildSl 12 1 [.val (.int .u8 0)] [(0,(.val (.int .u8 40))),(1,(.val (.int .u8 41))),(2,(.val (.int .u8 44))),(3,(.val (.int .u8 33))),(4,(.val (.int .u8 58))),(5,(.val (.int .u8 61))),(6,(.val (.int .u8 62))),(7,(.val (.int .u8 43))),(8,(.val (.int .u8 45))),(9,(.val (.int .u8 42))),(10,(.val (.int .u8 60))),(11,(.val (.int .u8 59)))])) fun t33 s =>
seqW (fun fr s=>(
k (.val (.int .u8 0)) s
)) (fun j1=>(
stepK (pureR s (aLenK .slice t33 s)) fun t35 s =>
loopW (fun fr s again=>(
bP .lss (lq fr 36) (lq fr 35) s fun t37 s =>
condK t37 (
iA 1 (lq fr 3) (lq fr 36) s fun t41 s =>
lF t41 s fun t42 s =>
bP .eql t42 (lq fr 0) s fun t44 s =>
condK t44 (
k (.val (.int .u8 5)) s
) (
bP .add (lq fr 36) (.val (.int .i64 1)) s fun t45 s =>
again [(0,(lq fr 0)),(3,(lq fr 3)),(35,(lq fr 35)),(36,t45)] s
)
) (
j1 [(0,(lq fr 0))] s
)
)) [(0,t0),(3,t33),(35,t35),(36,(.val (.int .i64 0)))] s
))
)
) s) s)
) s) s)
) s) s)) s) s) s) s
theorem F173_ev {t0:AV} (h:F173 t0 s k kp):Ev Tryz.prog 173 [t0] s k kp:=evA mixed Tryz.func173 [(0,[0]),(1,[0,14]),(2,[2]),(3,[0,20]),(4,[2]),(5,[0,26]),(6,[2]),(7,[0,32]),(8,[2]),(9,[0,3]),(4009,[1]),(3017,[0]),(10,[0,3,35,36]),(11,[0,3,35,36,37]),(12,[0,3,4,35,36]),(13,[0,3,35,36,44]),(14,[2]),(15,[0,3,35,36]),(1011,[0,3,35,36]),(16,[2])] (by kernel_rfl) (by kernel_rfl) h
def F186 (t0 t1:AV) (s:AHeap) (k kp:KP):Prop :=
stepK (aBox t0 s) fun t2 s =>
Ev Tryz.prog 207 [t1,(.fn (.func 208) [t2])] s (fun t7 s =>
stepK (pureR s (aNot t7)) fun t8 s =>
k t8 s) kp
theorem F186_ev {t0 t1:AV} (h:F186 t0 t1 s k kp):Ev Tryz.prog 186 [t0,t1] s k kp:=evA mixed Tryz.func186 [(0,[1,2]),(1,[4])] (by kernel_rfl) (by kernel_rfl) h
def F187 (t0:AV) (s:AHeap) (k kp:KP):Prop :=
Ev Tryz.prog 188 [t0,(.val (.int .u8 4))] s (fun t4 s =>
k t4 s) kp
theorem F187_ev {t0:AV} (h:F187 t0 s k kp):Ev Tryz.prog 187 [t0] s k kp:=evA mixed Tryz.func187 [(0,[0]),(1,[2])] (by kernel_rfl) (by kernel_rfl) h
def F188 (t0 t1:AV) (s:AHeap) (k kp:KP):Prop :=
bP .eql t0 (.val (.string { data:=#[] })) s fun t6 s =>
gK t6 false (fun K=>K t0 s) (fun t8 s =>
gR t6 false (aLenK .str t8 s) (fun t9 s =>
gR t6 false (aBin .gtr .prim t9 (.val (.int .i64 16))) (fun t10 s =>
pK t6 (.val (.bool true)) t10 s fun t11 s =>
gK t11 false (fun K=>K t0 s) (fun t13 s =>
gR t11 false (aIndexStr t13 (.val (.int .i64 0))) (fun t14 s =>
gK t11 false (fun K=>Ev Tryz.prog 209 [t14] s K kp) (fun t15 s =>
gK t11 false (fun K=>K t1 s) (fun t16 s =>
gR t11 false (aBin .neq .prim t15 t16) (fun t17 s =>
pK t11 (.val (.bool true)) t17 s fun t18 s =>
condK t18 (
k (.val (.bool false)) s
) (
stepK (pureR s (aConv .bytes t0)) fun t20 s =>
stepK (pureR s (aBuildSl 3 1 [.val (.int .u8 0)] [(0,(.val (.int .u8 3))),(1,(.val (.int .u8 4))),(2,(.val (.int .u8 2)))])) fun t21 s =>
Ev Tryz.prog 210 [t20,(.val (.int .i64 0)),t21] s (fun t22 s =>
stepK (pureR s (aLenK .str t0 s)) fun t24 s =>
bP .eql t22 t24 s fun t25 s =>
k t25 s
) kp)) s) s) s) s) s) s) s) s
theorem F188_ev {t0 t1:AV} (h:F188 t0 t1 s k kp):Ev Tryz.prog 188 [t0,t1] s k kp:=evA mixed Tryz.func188 [(0,[0,1]),(1,[0,18]),(2,[4]),(3,[4]),(4003,[1])] (by kernel_rfl) (by kernel_rfl) h
def F207 (t0 t1:AV) (s:AHeap) (k kp:KP):Prop :=
Ev Tryz.prog 219 [t0,t1] s (fun t7 s =>
bP .geq t7 (.val (.int .i64 0)) s fun t8 s =>
k t8 s) kp
theorem F207_ev {t0 t1:AV} (h:F207 t0 t1 s k kp):Ev Tryz.prog 207 [t0,t1] s k kp:=evA mixed Tryz.func207 [(0,[0,1]),(1,[4])] (by kernel_rfl) (by kernel_rfl) h
def F208 (t0 t1:AV) (s:AHeap) (k kp:KP):Prop :=
lF t1 s fun t4 s =>
  callK Tryz.prog t4 [t0] s (fun t6 s =>
stepK (pureR s (aNot t6)) fun t7 s =>
k t7 s) kp
theorem F208_ev {t0 t1:AV} (h:F208 t0 t1 s k kp):Ev Tryz.prog 208 [t0,t1] s k kp:=evA mixed Tryz.func208 [(0,[0,1]),(1,[3])] (by kernel_rfl) (by kernel_rfl) h
def F209 (t0:AV) (s:AHeap) (k kp:KP):Prop :=
Ev Tryz.prog 220 [(.val (.string { data:=#[32,9,10] })),t0] s (fun t5 s =>
bP .geq t5 (.val (.int .i64 0)) s fun t6 s =>
condK t6 (
k (.val (.int .u8 1)) s
) (
bP .geq t0 (.val (.int .u8 48)) s fun t9 s =>
gK t9 true (fun K=>K t0 s) (fun t11 s =>
gR t9 true (aBin .leq .prim t11 (.val (.int .u8 57))) (fun t12 s =>
pK t9 t12 (.val (.bool false)) s fun t13 s =>
condK t13 (
k (.val (.int .u8 2)) s
) (
bP .geq t0 (.val (.int .u8 97)) s fun t16 s =>
gK t16 true (fun K=>K t0 s) (fun t18 s =>
gR t16 true (aBin .leq .prim t18 (.val (.int .u8 122))) (fun t19 s =>
pK t16 t19 (.val (.bool false)) s fun t20 s =>
condK t20 (
k (.val (.int .u8 3)) s
) (
bP .geq t0 (.val (.int .u8 65)) s fun t23 s =>
gK t23 true (fun K=>K t0 s) (fun t25 s =>
gR t23 true (aBin .leq .prim t25 (.val (.int .u8 90))) (fun t26 s =>
pK t23 t26 (.val (.bool false)) s fun t27 s =>
condK t27 (
k (.val (.int .u8 4)) s
) (
Ev Tryz.prog 220 [(.val (.string { data:=#[40,41,44,33,58,61,62,43,45,42,60,59] })),t0] s (fun t30 s =>
bP .geq t30 (.val (.int .i64 0)) s fun t31 s =>
condK t31 (
k (.val (.int .u8 5)) s
) (
k (.val (.int .u8 0)) s
)
) kp)
) s) s)
) s) s)
) s) s)) kp
theorem F209_ev {t0:AV} (h:F209 t0 s k kp):Ev Tryz.prog 209 [t0] s k kp:=evA mixed Tryz.func209 [(0,[0]),(1,[0,3]),(2,[2]),(3,[0,7]),(4,[2]),(5,[0,14]),(6,[2]),(7,[0,21]),(8,[2]),(9,[28]),(10,[2]),(11,[2])] (by kernel_rfl) (by kernel_rfl) h
def F210 (t0 t1 t2:AV) (s:AHeap) (k kp:KP):Prop :=
stepK (aBox t2 s) fun t5 s =>
bP .lss t1 (.val (.int .i64 0)) s fun t9 s =>
gK t9 false (fun K=>K t1 s) (fun t11 s =>
gK t9 false (fun K=>K t0 s) (fun t12 s =>
gR t9 false (aLenK .slice t12 s) (fun t13 s =>
gR t9 false (aBin .geq .prim t11 t13) (fun t14 s =>
pK t9 (.val (.bool true)) t14 s fun t15 s =>
condK t15 (
k (.val (.int .i64 0)) s
) (
stepK (pureR s (aSlice 1 t0 (some t1) none none)) fun t18 s =>
Ev Tryz.prog 221 [t18,(.fn (.func 222) [t5])] s (fun t20 s =>
bP .lss t20 (.val (.int .i64 0)) s fun t22 s =>
condK t22 (
stepK (pureR s (aLenK .slice t0 s)) fun t24 s =>
bP .sub t24 t1 s fun t26 s =>
k t26 s
) (
k t20 s
)
) kp)) s) s) s) s
theorem F210_ev {t0 t1 t2:AV} (h:F210 t0 t1 t2 s k kp):Ev Tryz.prog 210 [t0,t1,t2] s k kp:=evA mixed Tryz.func210 [(0,[0,1,5]),(1,[0,1,5,15]),(2,[6]),(3,[0,1,7]),(4,[0,1,7,22]),(5,[6]),(6,[6])] (by kernel_rfl) (by kernel_rfl) h
def F219 (t0 t1:AV) (s:AHeap) (k kp:KP):Prop :=
seqW (fun fr s=>(
k (.val (.int .i64 (-1))) s
)) (fun j1=>(
stepK (pureR s (aLenK .slice t0 s)) fun t7 s =>
loopW (fun fr s again=>(
bP .lss (lq fr 8) (lq fr 7) s fun t9 s =>
condK t9 (
iA 1 (lq fr 0) (lq fr 8) s fun t14 s =>
lF t14 s fun t15 s =>
  callK Tryz.prog (lq fr 1) [t15] s (fun t16 s =>
condK t16 (
k (lq fr 8) s
) (
bP .add (lq fr 8) (.val (.int .i64 1)) s fun t18 s =>
again [(0,(lq fr 0)),(1,(lq fr 1)),(7,(lq fr 7)),(8,t18)] s
)
) kp) (
j1 [(0,(lq fr 0))] s
)
)) [(0,t0),(1,t1),(7,t7),(8,(.val (.int .i64 0)))] s
))
theorem F219_ev {t0 t1:AV} (h:F219 t0 t1 s k kp):Ev Tryz.prog 219 [t0,t1] s k kp:=evA mixed Tryz.func219 [(0,[0,1]),(3008,[0]),(1,[0,1,7,8]),(2,[0,1,7,8,9]),(3,[0,1,5,7,8]),(4,[0,1,5,7,8,16]),(5,[4]),(6,[0,1,7,8]),(1002,[0,1,7,8]),(7,[4])] (by kernel_rfl) (by kernel_rfl) h
def F220 (t0 t1:AV) (s:AHeap) (k kp:KP):Prop :=
Ev Tryz.prog 225 [t0,t1] s (fun t7 s =>
k t7 s) kp
theorem F220_ev {t0 t1:AV} (h:F220 t0 t1 s k kp):Ev Tryz.prog 220 [t0,t1] s k kp:=evA mixed Tryz.func220 [(0,[0,1]),(1,[4])] (by kernel_rfl) (by kernel_rfl) h
def F221 (t0 t1:AV) (s:AHeap) (k kp:KP):Prop :=
seqW (fun fr s=>(
k (.val (.int .i64 (-1))) s
)) (fun j1=>(
stepK (pureR s (aLenK .slice t0 s)) fun t7 s =>
loopW (fun fr s again=>(
bP .lss (lq fr 8) (lq fr 7) s fun t9 s =>
condK t9 (
iA 1 (lq fr 0) (lq fr 8) s fun t14 s =>
lF t14 s fun t15 s =>
  callK Tryz.prog (lq fr 1) [t15] s (fun t16 s =>
condK t16 (
k (lq fr 8) s
) (
bP .add (lq fr 8) (.val (.int .i64 1)) s fun t18 s =>
again [(0,(lq fr 0)),(1,(lq fr 1)),(7,(lq fr 7)),(8,t18)] s
)
) kp) (
j1 [(0,(lq fr 0))] s
)
)) [(0,t0),(1,t1),(7,t7),(8,(.val (.int .i64 0)))] s
))
theorem F221_ev {t0 t1:AV} (h:F221 t0 t1 s k kp):Ev Tryz.prog 221 [t0,t1] s k kp:=evA mixed Tryz.func221 [(0,[0,1]),(3008,[0]),(1,[0,1,7,8]),(2,[0,1,7,8,9]),(3,[0,1,5,7,8]),(4,[0,1,5,7,8,16]),(5,[4]),(6,[0,1,7,8]),(1002,[0,1,7,8]),(7,[4])] (by kernel_rfl) (by kernel_rfl) h
def F222 (t0 t1:AV) (s:AHeap) (k kp:KP):Prop :=
lF t1 s fun t4 s =>
Ev Tryz.prog 209 [t0] s (fun t6 s =>
rg s (aLoad false 1 t1 s) t4 (
Ev Tryz.prog 193 [t4,t6] s (fun t7 s =>
stepK (pureR s (aNot t7)) fun t8 s =>
k t8 s) kp)) kp
theorem F222_ev {t0 t1:AV} (h:F222 t0 t1 s k kp):Ev Tryz.prog 222 [t0,t1] s k kp:=evA mixed Tryz.func222 [(0,[0,1]),(1,[3]),(2001,[0,1,2,3,4,5]),(101002,[0])] (by kernel_rfl) (by kernel_rfl) h
def F225 (t0 t1:AV) (s:AHeap) (k kp:KP):Prop :=
Ev Tryz.prog 227 [t0,t1] s (fun t7 s =>
k t7 s) kp
theorem F225_ev {t0 t1:AV} (h:F225 t0 t1 s k kp):Ev Tryz.prog 225 [t0,t1] s k kp:=evA mixed Tryz.func225 [(0,[0,1]),(1,[4])] (by kernel_rfl) (by kernel_rfl) h
end Go.Proofs.AtD
