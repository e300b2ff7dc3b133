import Derived.Test.YtjilebpcaemopaaGreatDoorAbsK
import Derived.Test.YtjilebpcaemopaaGreatDoorProg
import Derived.KernelRfl
set_option maxRecDepth 100000
set_option linter.unusedVariables false
namespace Go.Proofs.AtD
open Go Go.Abs
variable {s:AHeap} {k kp:KP}
theorem mixed:Tryz.prog.follows .mixedOrders=true:=by kernel_rfl
def F182 (t0:AV) (s:AHeap) (k kp:KP):Prop :=
Ev Tryz.prog 186 [(.fn (.func 194) []),t0] s (fun t4 s =>
k t4 s) kp
theorem F182_ev {t0:AV} (h:F182 t0 s k kp):Ev Tryz.prog 182 [t0] s k kp:=evA mixed Tryz.func182 [(0,[0]),(1,[2])] (by kernel_rfl) (by kernel_rfl) h
def F194 (t0:AV) (s:AHeap) (k kp:KP):Prop :=
Ev Tryz.prog 188 [t0,(.val (.int .u8 3))] s (fun t4 s =>
gK t4 true (fun K=>K t0 s) (fun t6 s =>
gK t4 true (fun K=>Ev Tryz.prog 195 [t6] s K kp) (fun t7 s =>
gR t4 true (aBin .eql .prim t7 (.val (.int .i64 0))) (fun t8 s =>
pK t4 t8 (.val (.bool false)) s fun t9 s =>
k t9 s) s) s) s) kp
theorem F194_ev {t0:AV} (h:F194 t0 s k kp):Ev Tryz.prog 194 [t0] s k kp:=evA mixed Tryz.func194 [(0,[0]),(1,[2])] (by kernel_rfl) (by kernel_rfl) h
def F195 (t0:AV) (s:AHeap) (k kp:KP):Prop :=
bP .eql t0 (.val (.string { data:=#[] })) s fun t4 s =>
condK t4 (
k (.val (.int .i64 0)) s
) (
Ev Tryz.prog 213 [] s (fun t5 s =>
Ev Tryz.prog 212 [t5,t0] s (fun t7 s =>
stepK (pureR s (aMax (.val (.int .i64 0)) t7)) fun t8 s =>
k t8 s
) kp) kp)
theorem F195_ev {t0:AV} (h:F195 t0 s k kp):Ev Tryz.prog 195 [t0] s k kp:=evA mixed Tryz.func195 [(0,[0]),(1,[0,4]),(2,[2]),(3,[2])] (by kernel_rfl) (by kernel_rfl) h
def F212 (t0 t1:AV) (s:AHeap) (k kp:KP):Prop :=
seqW (fun fr s=>(
k (.val (.int .i64 (-1))) s
)) (fun j1=>(
stepK (pureR s (aLenK .slice t0 s)) fun t7 s =>
loopW (fun fr s again=>(
bP .lss (lq fr 8) (lq fr 7) s fun t9 s =>
condK t9 (
iA 1 (lq fr 0) (lq fr 8) s fun t14 s =>
lF t14 s fun t15 s =>
bP .eql (lq fr 1) t15 s fun t16 s =>
condK t16 (
k (lq fr 8) s
) (
bP .add (lq fr 8) (.val (.int .i64 1)) s fun t18 s =>
again [(0,(lq fr 0)),(1,(lq fr 1)),(7,(lq fr 7)),(8,t18)] s
)
) (
j1 [(0,(lq fr 0))] s
)
)) [(0,t0),(1,t1),(7,t7),(8,(.val (.int .i64 0)))] s
))
theorem F212_ev {t0 t1:AV} (h:F212 t0 t1 s k kp):Ev Tryz.prog 212 [t0,t1] s k kp:=evA mixed Tryz.func212 [(0,[0,1]),(3008,[0]),(1,[0,1,7,8]),(2,[0,1,7,8,9]),(3,[0,1,5,7,8]),(4,[0,1,5,7,8,16]),(5,[4]),(6,[0,1,7,8]),(1002,[0,1,7,8]),(7,[4])] (by kernel_rfl) (by kernel_rfl) h
def F213 (s:AHeap) (k kp:KP):Prop :=
Ev Tryz.prog 223 [(.val (.string { data:=#[32,108,101,116,32,108,101,116,114,101,99,32,105,110,32,102,110,32,105,102,32,116,104,101,110,32,101,108,115,101,32,114,97,105,115,101,32,116,114,121,32,119,105,116,104,32,114,101,102,32,102,115,116,32,115,110,100,32,101,120,110] })),(.val (.string { data:=#[32] }))] s (fun t1 s =>
k t1 s) kp
theorem F213_ev (h:F213 s k kp):Ev Tryz.prog 213 [] s k kp:=evA mixed Tryz.func213 [(0,[]),(1,[0])] (by kernel_rfl) (by kernel_rfl) h
def F223 (t0 t1:AV) (s:AHeap) (k kp:KP):Prop :=
Ev Tryz.prog 226 [t0,t1,(.val (.int .i64 0)),(.val (.int .i64 (-1)))] s (fun t7 s =>
k t7 s) kp
theorem F223_ev {t0 t1:AV} (h:F223 t0 t1 s k kp):Ev Tryz.prog 223 [t0,t1] s k kp:=evA mixed Tryz.func223 [(0,[0,1]),(1,[4])] (by kernel_rfl) (by kernel_rfl) h
def F226 (t0 t1 t2 t3:AV) (s:AHeap) (k kp:KP):Prop :=
bP .eql t3 (.val (.int .i64 0)) s fun t13 s =>
condK t13 (
k (.val (.slice Option.none 0 0)) s
) (
bP .eql t1 (.val (.string { data:=#[] })) s fun t15 s =>
condK t15 (
Ev Tryz.prog 228 [t0,t3] s (fun t18 s =>
k t18 s
) kp) (
seqW (fun fr s=>(
stepK (pureR s (aLenK .str (lq fr 0) s)) fun t27 s =>
bP .add t27 (.val (.int .i64 1)) s fun t28 s =>
stepK (pureR s (aMin (lq fr 3) t28)) fun t29 s =>
stepK (aMakeSlice 1 16 [.val (.string ByteArray.empty)] t29 t29 s) fun t31 s =>
bP .sub t29 (.val (.int .i64 1)) s fun t33 s =>
seqW (fun fr s=>(
iA 1 (lq fr 9) (lq fr 10) s fun t61 s =>
sT 1 t61 (lq fr 0) s fun s =>
bP .add (lq fr 10) (.val (.int .i64 1)) s fun t64 s =>
stepK (pureR s (aSlice 1 (lq fr 9) none (some t64) none)) fun t65 s =>
k t65 s
)) (fun j2=>(
loopW (fun fr s again=>(
bP .lss (lq fr 10) (lq fr 3) s fun t36 s =>
condK t36 (
Ev Tryz.prog 230 [(lq fr 0),(lq fr 1)] s (fun t39 s =>
bP .lss t39 (.val (.int .i64 0)) s fun t41 s =>
condK t41 (
j2 [(0,(lq fr 0)),(9,(lq fr 9)),(10,(lq fr 10))] s
) (
bP .add t39 (lq fr 2) s fun t47 s =>
stepK (pureR s (aSliceStr (lq fr 0) none (some t47))) fun t48 s =>
iA 1 (lq fr 9) (lq fr 10) s fun t49 s =>
sT 1 t49 t48 s fun s =>
stepK (pureR s (aLenK .str (lq fr 1) s)) fun t53 s =>
bP .add t39 t53 s fun t54 s =>
stepK (pureR s (aSliceStr (lq fr 0) (some t54) none)) fun t55 s =>
bP .add (lq fr 10) (.val (.int .i64 1)) s fun t57 s =>
again [(0,t55),(1,(lq fr 1)),(2,(lq fr 2)),(3,(lq fr 3)),(9,(lq fr 9)),(10,t57)] s
)
) kp) (
j2 [(0,(lq fr 0)),(9,(lq fr 9)),(10,(lq fr 10))] s
)
)) [(0,(lq fr 0)),(1,(lq fr 1)),(2,(lq fr 2)),(3,t33),(9,t31),(10,(.val (.int .i64 0)))] s
))
)) (fun j1=>(
bP .lss t3 (.val (.int .i64 0)) s fun t20 s =>
condK t20 (
Ev Tryz.prog 229 [t0,t1] s (fun t23 s =>
bP .add t23 (.val (.int .i64 1)) s fun t24 s =>
j1 [(0,t0),(1,t1),(2,t2),(3,t24)] s
) kp) (
j1 [(0,t0),(1,t1),(2,t2),(3,t3)] s
)
))
)
)
theorem F226_ev {t0 t1 t2 t3:AV} (h:F226 t0 t1 t2 t3 s k kp):Ev Tryz.prog 226 [t0,t1,t2,t3] s k kp:=evA mixed Tryz.func226 [(0,[0,1,2,3]),(1,[0,1,2,3,13]),(2,[8]),(3,[0,1,2,3,15]),(4,[8]),(3008,[0,1,2,3]),(5,[0,1,2,3,20]),(6,[0,1,2,3]),(7,[0,1,2,3]),(8,[0,1,2,3,9]),(9,[0,1,2,3,9]),(10,[0,1,2,3,9,10]),(3018,[0,9,10]),(11,[0,1,2,3,9,10,36]),(12,[0,1,2,3,9,10,11]),(13,[0,1,2,3,9,10,11,41]),(14,[0,1,2,3,9,10,11]),(15,[0,1,2,3,9,10]),(16,[0,1,2,3,9,10]),(1011,[0,1,2,3,9,10]),(17,[9,10]),(18,[8])] (by kernel_rfl) (by kernel_rfl) h
def F229 (t0 t1:AV) (s:AHeap) (k kp:KP):Prop :=
stepK (pureR s (aLenK .str t1 s)) fun t8 s =>
bP .eql t8 (.val (.int .i64 0)) s fun t9 s =>
condK t9 (
Ev Tryz.prog 231 [t0] s (fun t11 s =>
bP .add t11 (.val (.int .i64 1)) s fun t12 s =>
k t12 s
) kp) (
stepK (pureR s (aLenK .str t1 s)) fun t14 s =>
bP .eql t14 (.val (.int .i64 1)) s fun t15 s =>
condK t15 (
stepK (pureR s (aIndexStr t1 (.val (.int .i64 0)))) fun t18 s =>
Ev Tryz.prog 233 [t0,t18] s (fun t19 s =>
k t19 s
) kp) (
loopW (fun fr s again=>(
Ev Tryz.prog 230 [(lq fr 0),(lq fr 1)] s (fun t22 s =>
bP .eql t22 (.val (.int .i64 (-1))) s fun t24 s =>
condK t24 (
k (lq fr 5) s
) (
bP .add (lq fr 5) (.val (.int .i64 1)) s fun t27 s =>
stepK (pureR s (aLenK .str (lq fr 1) s)) fun t31 s =>
bP .add t22 t31 s fun t32 s =>
stepK (pureR s (aSliceStr (lq fr 0) (some t32) none)) fun t33 s =>
again [(0,t33),(1,(lq fr 1)),(5,t27)] s
)
) kp)) [(0,t0),(1,t1),(5,(.val (.int .i64 0)))] s
)
)
theorem F229_ev {t0 t1:AV} (h:F229 t0 t1 s k kp):Ev Tryz.prog 229 [t0,t1] s k kp:=evA mixed Tryz.func229 [(0,[0,1]),(1,[0,1,9]),(2,[4]),(3,[0,1,15]),(4,[4]),(5,[0,1,5]),(6,[0,1,5,6]),(7,[0,1,5,6,24]),(8,[4]),(9,[0,1,5,6]),(10,[0,1,5]),(1006,[0,1,5])] (by kernel_rfl) (by kernel_rfl) h
def F230 (t0 t1:AV) (s:AHeap) (k kp:KP):Prop :=
Ev Tryz.prog 234 [t0,t1] s (fun t7 s =>
k t7 s) kp
theorem F230_ev {t0 t1:AV} (h:F230 t0 t1 s k kp):Ev Tryz.prog 230 [t0,t1] s k kp:=evA mixed Tryz.func230 [(0,[0,1]),(1,[4])] (by kernel_rfl) (by kernel_rfl) h
def F234 (t0 t1:AV) (s:AHeap) (k kp:KP):Prop :=
stepK (pureR s (aLenK .str t1 s)) fun t15 s =>
bP .eql t15 (.val (.int .i64 0)) s fun t18 s =>
gK t18 false (fun K=>K t1 s) (fun t20 s =>
gK t18 false (fun K=>K t0 s) (fun t21 s =>
gR t18 false (aBin .eql .prim t20 t21) (fun t22 s =>
pK t18 (.val (.bool true)) t22 s fun t23 s =>
condK t23 (
k (.val (.int .i64 0)) s
) (
bP .eql t15 (.val (.int .i64 1)) s fun t26 s =>
condK t26 (
stepK (pureR s (aIndexStr t1 (.val (.int .i64 0)))) fun t29 s =>
Ev Tryz.prog 225 [t0,t29] s (fun t30 s =>
k t30 s
) kp) (
stepK (pureR s (aLenK .str t0 s)) fun t34 s =>
bP .geq t15 t34 s fun t35 s =>
condK t35 (
k (.val (.int .i64 (-1))) s
) (
lF (.val (.pointer (some ⟨0,0,none⟩))) s fun t38 s =>
bP .leq t15 t38 s fun t39 s =>
gK t39 true (fun K=>K t0 s) (fun t41 s =>
gR t39 true (aLenK .str t41 s) (fun t42 s =>
gR t39 true (aBin .leq .prim t42 (.val (.int .i64 64))) (fun t43 s =>
pK t39 t43 (.val (.bool false)) s fun t44 s =>
condK t44 (
Ev Tryz.prog 236 [t0,t1] s (fun t47 s =>
k t47 s
) kp) (
stepK (pureR s (aIndexStr t1 (.val (.int .i64 0)))) fun t49 s =>
stepK (pureR s (aIndexStr t1 (.val (.int .i64 1)))) fun t51 s =>
stepK (pureR s (aLenK .str t0 s)) fun t53 s =>
bP .sub t53 t15 s fun t55 s =>
bP .add t55 (.val (.int .i64 1)) s fun t56 s =>
seqW (fun fr s=>(
k (.val (.int .i64 (-1))) s
)) (fun j1=>(
loopW (fun fr s again=>(
bP .lss (lq fr 8) (lq fr 9) s fun t59 s =>
condK t59 (
seqW (fun fr s=>(
bP .add (lq fr 8) (.val (.int .i64 1)) s fun t80 s =>
stepK (pureR s (aIndexStr (lq fr 0) t80)) fun t81 s =>
bP .eql t81 (lq fr 7) s fun t83 s =>
gK t83 true (fun K=>K (lq fr 0) s) (fun t85 s =>
gK t83 true (fun K=>K (lq fr 8) s) (fun t86 s =>
gK t83 true (fun K=>K (lq fr 8) s) (fun t87 s =>
gK t83 true (fun K=>K (lq fr 5) s) (fun t88 s =>
gR t83 true (aBin .add .prim t87 t88) (fun t89 s =>
gR t83 true (aSliceStr t85 (some t86) (some t89)) (fun t90 s =>
gK t83 true (fun K=>K (lq fr 1) s) (fun t91 s =>
gR t83 true (aBin .eql .prim t90 t91) (fun t92 s =>
pK t83 t92 (.val (.bool false)) s fun t93 s =>
condK t93 (
k (lq fr 8) s
) (
bP .add (lq fr 8) (.val (.int .i64 1)) s fun t96 s =>
bP .add (lq fr 10) (.val (.int .i64 1)) s fun t98 s =>
lF (.val (.pointer (some ⟨0,0,none⟩))) s fun t100 s =>
bP .leq (lq fr 5) t100 s fun t101 s =>
gK t101 true (fun K=>K t98 s) (fun t103 s =>
gK t101 true (fun K=>K t96 s) (fun t104 s =>
gK t101 true (fun K=>Ev Tryz.prog 237 [t104] s K kp) (fun t105 s =>
gR t101 true (aBin .gtr .prim t103 t105) (fun t106 s =>
pK t101 t106 (.val (.bool false)) s fun t107 s =>
condK t107 (
stepK (pureR s (aSliceStr (lq fr 0) (some t96) none)) fun t110 s =>
Ev Tryz.prog 236 [t110,(lq fr 1)] s (fun t112 s =>
bP .geq t112 (.val (.int .i64 0)) s fun t114 s =>
condK t114 (
bP .add t112 t96 s fun t117 s =>
k t117 s
) (
k (.val (.int .i64 (-1))) s
)
) kp) (
lF (.val (.pointer (some ⟨0,0,none⟩))) s fun t119 s =>
bP .gtr (lq fr 5) t119 s fun t120 s =>
gK t120 true (fun K=>K t98 s) (fun t122 s =>
gK t120 true (fun K=>K t96 s) (fun t123 s =>
gR t120 true (aBin .shr .prim t123 (.val (.int .u64 4))) (fun t124 s =>
gR t120 true (aBin .add .prim (.val (.int .i64 4)) t124) (fun t125 s =>
gR t120 true (aBin .geq .prim t122 t125) (fun t126 s =>
pK t120 t126 (.val (.bool false)) s fun t127 s =>
gK t127 true (fun K=>K t96 s) (fun t129 s =>
gK t127 true (fun K=>K (lq fr 9) s) (fun t130 s =>
gR t127 true (aBin .lss .prim t129 t130) (fun t131 s =>
pK t127 t131 (.val (.bool false)) s fun t132 s =>
condK t132 (
stepK (pureR s (aSliceStr (lq fr 0) (some t96) none)) fun t135 s =>
Ev Tryz.prog 238 [t135,(lq fr 1)] s (fun t137 s =>
bP .lss t137 (.val (.int .i64 0)) s fun t139 s =>
condK t139 (
k (.val (.int .i64 (-1))) s
) (
bP .add t96 t137 s fun t142 s =>
k t142 s
)
) kp) (
again [(0,(lq fr 0)),(1,(lq fr 1)),(5,(lq fr 5)),(6,(lq fr 6)),(7,(lq fr 7)),(8,t96),(9,(lq fr 9)),(10,t98)] s
)
) s) s) s) s) s) s) s) s)
) s) s) s) s)
) s) s) s) s) s) s) s) s)) (fun j2=>(
stepK (pureR s (aIndexStr (lq fr 0) (lq fr 8))) fun t62 s =>
bP .neq t62 (lq fr 6) s fun t64 s =>
condK t64 (
bP .add (lq fr 8) (.val (.int .i64 1)) s fun t67 s =>
stepK (pureR s (aSliceStr (lq fr 0) (some t67) (some (lq fr 9)))) fun t69 s =>
Ev Tryz.prog 225 [t69,(lq fr 6)] s (fun t71 s =>
bP .lss t71 (.val (.int .i64 0)) s fun t73 s =>
condK t73 (
k (.val (.int .i64 (-1))) s
) (
bP .add t71 (.val (.int .i64 1)) s fun t76 s =>
bP .add (lq fr 8) t76 s fun t77 s =>
j2 [(0,(lq fr 0)),(1,(lq fr 1)),(5,(lq fr 5)),(6,(lq fr 6)),(7,(lq fr 7)),(8,t77),(9,(lq fr 9)),(10,(lq fr 10))] s
)
) kp) (
j2 [(0,(lq fr 0)),(1,(lq fr 1)),(5,(lq fr 5)),(6,(lq fr 6)),(7,(lq fr 7)),(8,(lq fr 8)),(9,(lq fr 9)),(10,(lq fr 10))] s
)
))
) (
j1 [(0,(lq fr 0))] s
)
)) [(0,t0),(1,t1),(5,t15),(6,t49),(7,t51),(8,(.val (.int .i64 0))),(9,t56),(10,(.val (.int .i64 0)))] s
))
)
) s) s) s)
)
)) s) s) s
theorem F234_ev {t0 t1:AV} (h:F234 t0 t1 s k kp):Ev Tryz.prog 234 [t0,t1] s k kp:=evA mixed Tryz.func234 [(0,[0,1]),(1,[0,1,5]),(2,[0,1,5,16]),(3,[4]),(4,[0,1,5,24]),(5,[4]),(6,[0,1,5,31]),(7,[4]),(8,[0,1,5,36]),(9,[4]),(10,[0,1,5,6]),(11,[0,1,5,6,7]),(12,[0,1,5,6,7,8]),(13,[0,1,5,6,7,8,9]),(14,[0,1,5,6,7,8,9,10]),(3036,[0]),(15,[0,1,5,6,7,8,9,10,59]),(3022,[0,1,5,6,7,8,9,10]),(16,[0,1,5,6,7,8,9,10,64]),(17,[0,1,5,6,7,8,9,10,11]),(18,[0,1,5,6,7,8,9,10,11,73]),(19,[4]),(20,[0,1,5,6,7,8,9,10]),(21,[0,1,5,6,7,8,9,10,93]),(22,[4]),(23,[0,1,5,6,7,8,9,10]),(24,[0,1,5,6,7,8,9,10]),(25,[0,1,5,6,7,8,9,10,107]),(26,[8,12]),(27,[8,12,114]),(28,[4]),(29,[4]),(30,[0,1,5,6,7,8,9,10,132]),(31,[8,13]),(32,[8,13,139]),(33,[4]),(34,[4]),(1015,[0,1,5,6,7,8,9,10]),(35,[4])] (by kernel_rfl) (by kernel_rfl) h
end Go.Proofs.AtD
