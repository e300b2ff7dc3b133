import Derived.Test.YtjilebpcaemopaaGreatDoorAbsK
import Derived.Test.YtjilebpcaemopaaGreatDoorProg
import Derived.KernelRfl
set_option maxRecDepth 100000
set_option linter.unusedVariables false
namespace Go.Proofs.DocD
open Go Go.Abs
def zDocDec_0:List AV:=[.val (.int .i64 0),.val (.int .i64 0),.val (.slice none 0 0),.val (.int .i64 0)]
@[simp ↓] theorem zDocDec_0_eq:zDocDec_0=[.val (.int .i64 0),.val (.int .i64 0),.val (.slice none 0 0),.val (.int .i64 0)]:=nr0 rfl
def zDocDec_1:List AV:=[.val (.bool false),.val (.slice none 0 0)]
@[simp ↓] theorem zDocDec_1_eq:zDocDec_1=[.val (.bool false),.val (.slice none 0 0)]:=nr0 rfl
def zDocDec_2:List AV:=[.val (.int .u8 0),.val (.int .u8 0),.val (.int .i64 0),.val (.int .i64 0),.val (.string ByteArray.empty),.val (.string ByteArray.empty),.val (.string ByteArray.empty),.val (.int .i64 0),.val (.slice none 0 0),.val (.slice none 0 0),.val (.int .u8 0),.val (.int .i64 0),.val (.slice none 0 0),.val (.slice none 0 0),.val (.int .u8 0),.val (.int .i64 0),.val (.slice none 0 0),.val (.slice none 0 0),.val (.slice none 0 0),.val (.string ByteArray.empty),.val (.slice none 0 0),.val (.slice none 0 0),.val (.slice none 0 0)]
@[simp ↓] theorem zDocDec_2_eq:zDocDec_2=[.val (.int .u8 0),.val (.int .u8 0),.val (.int .i64 0),.val (.int .i64 0),.val (.string ByteArray.empty),.val (.string ByteArray.empty),.val (.string ByteArray.empty),.val (.int .i64 0),.val (.slice none 0 0),.val (.slice none 0 0),.val (.int .u8 0),.val (.int .i64 0),.val (.slice none 0 0),.val (.slice none 0 0),.val (.int .u8 0),.val (.int .i64 0),.val (.slice none 0 0),.val (.slice none 0 0),.val (.slice none 0 0),.val (.string ByteArray.empty),.val (.slice none 0 0),.val (.slice none 0 0),.val (.slice none 0 0)]:=nr0 rfl
def zDocDec_3:List AV:=[.val (.int .i64 0),.val (.int .i64 0),.val (.slice none 0 0),.val (.int .i64 0),.val (.int .i64 0),.val (.int .i64 0),.val (.slice none 0 0),.val (.int .u8 0),.val (.bool false),.val (.string ByteArray.empty),.val (.int .i64 0)]
@[simp ↓] theorem zDocDec_3_eq:zDocDec_3=[.val (.int .i64 0),.val (.int .i64 0),.val (.slice none 0 0),.val (.int .i64 0),.val (.int .i64 0),.val (.int .i64 0),.val (.slice none 0 0),.val (.int .u8 0),.val (.bool false),.val (.string ByteArray.empty),.val (.int .i64 0)]:=nr0 rfl
def zDocDec_4:List AV:=[.val (.int .u8 0),.val (.int .i64 0),.val (.int .i64 0),.val (.int .i64 0)]
@[simp ↓] theorem zDocDec_4_eq:zDocDec_4=[.val (.int .u8 0),.val (.int .i64 0),.val (.int .i64 0),.val (.int .i64 0)]:=nr0 rfl
def zDocDec_5:List AV:=[.val (.slice none 0 0),.val (.slice none 0 0)]
@[simp ↓] theorem zDocDec_5_eq:zDocDec_5=[.val (.slice none 0 0),.val (.slice none 0 0)]:=nr0 rfl
def zDocDec_6:List AV:=[.val (.int .u8 0),.val (.int .u8 0),.val (.int .i64 0),.val (.int .i64 0),.val (.int .i64 0),.val (.int .u8 0),.val (.int .i64 0),.val (.int .i64 0),.val (.int .i64 0),.val (.int .i64 0)]
@[simp ↓] theorem zDocDec_6_eq:zDocDec_6=[.val (.int .u8 0),.val (.int .u8 0),.val (.int .i64 0),.val (.int .i64 0),.val (.int .i64 0),.val (.int .u8 0),.val (.int .i64 0),.val (.int .i64 0),.val (.int .i64 0),.val (.int .i64 0)]:=nr0 rfl
def zDocDec_7:List AV:=[.val (.string ByteArray.empty),.val (.int .u8 0),.val (.int .i64 0),.val (.int .i64 0),.val (.int .i64 0),.val (.bool false)]
@[simp ↓] theorem zDocDec_7_eq:zDocDec_7=[.val (.string ByteArray.empty),.val (.int .u8 0),.val (.int .i64 0),.val (.int .i64 0),.val (.int .i64 0),.val (.bool false)]:=nr0 rfl
def zDocDec_8:List AV:=[.val (.int .i64 0),.val (.int .i64 0)]
@[simp ↓] theorem zDocDec_8_eq:zDocDec_8=[.val (.int .i64 0),.val (.int .i64 0)]:=nr0 rfl
variable {s:AHeap} {k kp:KP}
theorem mixedD:Tryz.prog.follows .mixedOrders=true:=by kernel_rfl
def F30 (t0:AV) (s:AHeap) (k kp:KP):Prop :=
stepK (aBox t0 s) fun t1 s =>
aC zDocDec_0 s fun t2 s =>
fA 0 t1 s fun t3 s =>
lF t3 s fun t4 s =>
fA 1 t1 s fun t6 s =>
lF t6 s fun t7 s =>
stepK (pureR s (aBuild zDocDec_1 [(0,1,(.val (.bool true)))])) fun t9 s =>
stepK (pureR s (aBuildSl 1 2 zDocDec_1 [(0,t9)])) fun t10 s =>
Ev Tryz.prog 49 [t4,(.val (.int .i64 1)),(.val (.int .i64 1048576))] s (fun t5 s =>
rg s (aLoad false 1 t6 s) t7 (
Ev Tryz.prog 49 [t7,(.val (.int .i64 0)),(.val (.int .i64 4194304))] s (fun t8 s =>
stepK (pureR s (aBuild zDocDec_0 [(0,1,t5),(1,1,t8),(2,1,t10)])) fun t11 s =>
sT 4 t2 t11 s fun s =>
stepV (aLoad true 4 t2 s) fun r0 =>
k r0 s) kp)) kp
theorem F30_ev {t0:AV} (h:F30 t0 s k kp):Ev Tryz.prog 30 [t0] s k kp:=evA mixedD Tryz.func30 [(0,[1,2]),(1,[2]),(2001,[0,1,3,4,6,7,2,5,8,9]),(101002,[4])] (by kernel_rfl) (by kernel_rfl) h
def N17 (t3 t4 t5 t6 t7:AV) (s:AHeap) (k kp:KP):Prop :=
lT 11 t3 s fun t25 s =>
lT 19 t4 s fun t26 s =>
lT 2 t5 s fun t27 s =>
Ev Tryz.prog 50 [t25,t26,t27] s (fun t28 s =>
rv 11 4 t6 t7 t28 s k
) kp
def NFuel (t3 t4 t5 t6 t7:AV) (s:AHeap) (k kp:KP):Prop :=
lT 11 t3 s fun t36 s =>
Ev Tryz.prog 51 [t36,(.val (.int .u8 3))] s (fun t37 s =>
rv 11 4 t6 t7 t37 s k
) kp
def N1 (t3 t4 t5 t6 t7:AV) (s:AHeap) (k kp:KP):Prop :=
lT 11 t3 s fun t49 s =>
fA 0 t4 s fun t50 s =>
fA 3 t50 s fun t51 s =>
lF t51 s fun t52 s =>
Ev Tryz.prog 52 [t52] s (fun t53 s =>
rg s (aLoad true 11 t3 s) t49 (
rt 11 4 t6 t7 t49 t53 s k
)) kp
def N2 (t3 t4 t5 t6 t7:AV) (s:AHeap) (k kp:KP):Prop :=
lT 2 t5 s fun t56 s =>
fA 0 t4 s fun t57 s =>
fA 4 t57 s fun t58 s =>
lF t58 s fun t59 s =>
Ev Tryz.prog 53 [t56,t59] s (fun t60 s =>
bP .lss t60 (.val (.int .i64 0)) s fun t62 s =>
gR t62 false (aFieldAddr 0 t5) (fun t64 s =>
gR t62 false (aLoad false 1 t64 s) (fun t65 s =>
gK t62 false (fun K=>K t60 s) (fun t66 s =>
gR t62 false (aIndexAddr 6 t65 t66 s) (fun t67 s =>
gR t62 false (aFieldAddr 5 t67) (fun t68 s =>
gR t62 false (aLoad false 1 t68 s) (fun t69 s =>
pK t62 (.val (.bool true)) t69 s fun t70 s =>
condK t70 (
lT 11 t3 s fun t71 s =>
Ev Tryz.prog 51 [t71,(.val (.int .u8 6))] s (fun t72 s =>
rv 11 4 t6 t7 t72 s k
) kp) (
lT 11 t3 s fun t75 s =>
fA 0 t5 s fun t76 s =>
lF t76 s fun t77 s =>
iA 6 t77 t60 s fun t79 s =>
fA 1 t79 s fun t80 s =>
lT 4 t80 s fun t81 s =>
sT 11 t6 t75 s fun s =>
rg s (aLoad false 1 t76 s) t77 (
rg s (aIndexAddr 6 t77 t60 s) t79 (
rg s (aLoad true 4 t80 s) t81 (
sT 4 t7 t81 s fun s =>
stepV (aLoad true 11 t6 s) fun r0 =>
stepV (aLoad true 4 t7 s) fun r1 =>
k (.tup [r0,r1]) s
))))
) s) s) s) s) s) s) kp
def N11 (t3 t4 t5 t6 t7:AV) (s:AHeap) (k kp:KP):Prop :=
lT 11 t3 s fun t84 s =>
lT 2 t5 s fun t85 s =>
fA 7 t4 s fun t86 s =>
lF t86 s fun t87 s =>
fA 18 t4 s fun t88 s =>
lF t88 s fun t89 s =>
iA 19 t89 (.val (.int .i64 0)) s fun t90 s =>
lT 19 t90 s fun t91 s =>
fA 0 t4 s fun t92 s =>
fA 5 t92 s fun t93 s =>
lF t93 s fun t94 s =>
lT 2 t5 s fun t95 s =>
stepK (pureR s (aBuild zDocDec_2 [(0,19,t91),(19,1,t94),(20,2,t95)])) fun t96 s =>
Ev Tryz.prog 54 [t84,t85,t87,t96] s (fun t97 s =>
rv 11 4 t6 t7 t97 s k
) kp
def N12J (fr:AFrame) (s:AHeap) (k kp:KP):Prop :=
(
lT 11 (lq fr 9) s fun t112 s =>
Ev Tryz.prog 55 [t112] s (fun t113 s =>
condK t113 (
lT 11 (lq fr 9) s fun t114 s =>
lT 4 (lq fr 10) s fun t115 s =>
sT 11 (lq fr 6) t114 s fun s =>
rg s (aLoad true 4 (lq fr 10) s) t115 (
sT 4 (lq fr 7) t115 s fun s =>
stepV (aLoad true 11 (lq fr 6) s) fun r0 =>
stepV (aLoad true 4 (lq fr 7) s) fun r1 =>
k (.tup [r0,r1]) s
)) (
lT 11 (lq fr 9) s fun t116 s =>
fA 18 (lq fr 4) s fun t117 s =>
lF t117 s fun t118 s =>
iA 19 t118 (.val (.int .i64 1)) s fun t119 s =>
lT 19 t119 s fun t120 s =>
lT 2 (lq fr 5) s fun t121 s =>
fA 0 (lq fr 4) s fun t122 s =>
fA 4 t122 s fun t123 s =>
lF t123 s fun t124 s =>
lT 4 (lq fr 10) s fun t125 s =>
Ev Tryz.prog 56 [t121,t124,t125,(.val (.bool false))] s (fun t126 s =>
rg s (aLoad true 11 (lq fr 9) s) t116 (
rg s (aLoad false 1 t117 s) t118 (
rg s (aIndexAddr 19 t118 (.val (.int .i64 1)) s) t119 (
rg s (aLoad true 19 t119 s) t120 (
Ev Tryz.prog 31 [t116,t120,t126] s (fun t127 s =>
rv 11 4 (lq fr 6) (lq fr 7) t127 s k
) kp))))) kp)
) kp)
def N12O (na nb:Nat) (j1:AFrame→AHeap→Prop) (t3 t4 t5 t6 t7:AV) (s:AHeap) (kp:KP):Prop :=
(
(
lT 11 t3 s fun t103 s =>
fA 18 t4 s fun t104 s =>
lF t104 s fun t105 s =>
iA 19 t105 (.val (.int .i64 0)) s fun t106 s =>
lT 19 t106 s fun t107 s =>
lT 2 t5 s fun t108 s =>
Ev Tryz.prog 31 [t103,t107,t108] s (fun t109 s =>
eX 0 t109 s fun t110 s =>
eX 1 t109 s fun t111 s =>
aC zDocDec_3 s fun t9 s =>
rg s (aLoad true 11 t3 s) t103 (
rg s (aLoad false 1 t104 s) t105 (
rg s (aIndexAddr 19 t105 (.val (.int .i64 0)) s) t106 (
rg s (aLoad true 19 t106 s) t107 (
rg s (aLoad true 2 t5 s) t108 (
aC zDocDec_4 s fun t10 s =>
rg s (aLoad true 11 t3 s) t103 (
rg s (aLoad false 1 t104 s) t105 (
rg s (aIndexAddr 19 t105 (.val (.int .i64 0)) s) t106 (
rg s (aLoad true 19 t106 s) t107 (
rg s (aLoad true 2 t5 s) t108 (
sT 11 t9 t110 s fun s =>
sT 4 t10 t111 s fun s =>
j1 [(4,t4),(5,t5),(6,t6),(7,t7),(na,t9),(nb,t10)] s
))))))))))) kp)∧(
(
lT 11 t3 s fun t103 s =>
fA 18 t4 s fun t104 s =>
lF t104 s fun t105 s =>
iA 19 t105 (.val (.int .i64 0)) s fun t106 s =>
lT 19 t106 s fun t107 s =>
lT 2 t5 s fun t108 s =>
Ev Tryz.prog 31 [t103,t107,t108] s (fun t109 s =>
eX 0 t109 s fun t110 s =>
eX 1 t109 s fun t111 s =>
aC zDocDec_4 s fun t10 s =>
rg s (aLoad true 11 t3 s) t103 (
rg s (aLoad false 1 t104 s) t105 (
rg s (aIndexAddr 19 t105 (.val (.int .i64 0)) s) t106 (
rg s (aLoad true 19 t106 s) t107 (
rg s (aLoad true 2 t5 s) t108 (
aC zDocDec_3 s fun t9 s =>
rg s (aLoad true 11 t3 s) t103 (
rg s (aLoad false 1 t104 s) t105 (
rg s (aIndexAddr 19 t105 (.val (.int .i64 0)) s) t106 (
rg s (aLoad true 19 t106 s) t107 (
rg s (aLoad true 2 t5 s) t108 (
sT 11 t9 t110 s fun s =>
sT 4 t10 t111 s fun s =>
j1 [(4,t4),(5,t5),(6,t6),(7,t7),(na,t9),(nb,t10)] s
))))))))))) kp)∧(
(
lT 11 t3 s fun t103 s =>
fA 18 t4 s fun t104 s =>
lF t104 s fun t105 s =>
iA 19 t105 (.val (.int .i64 0)) s fun t106 s =>
lT 19 t106 s fun t107 s =>
lT 2 t5 s fun t108 s =>
aC zDocDec_3 s fun t9 s =>
rg s (aLoad true 11 t3 s) t103 (
rg s (aLoad false 1 t104 s) t105 (
rg s (aIndexAddr 19 t105 (.val (.int .i64 0)) s) t106 (
rg s (aLoad true 19 t106 s) t107 (
rg s (aLoad true 2 t5 s) t108 (
Ev Tryz.prog 31 [t103,t107,t108] s (fun t109 s =>
eX 0 t109 s fun t110 s =>
eX 1 t109 s fun t111 s =>
aC zDocDec_4 s fun t10 s =>
rg s (aLoad true 11 t3 s) t103 (
rg s (aLoad false 1 t104 s) t105 (
rg s (aIndexAddr 19 t105 (.val (.int .i64 0)) s) t106 (
rg s (aLoad true 19 t106 s) t107 (
rg s (aLoad true 2 t5 s) t108 (
sT 11 t9 t110 s fun s =>
sT 4 t10 t111 s fun s =>
j1 [(4,t4),(5,t5),(6,t6),(7,t7),(na,t9),(nb,t10)] s
)))))) kp))))))∧(
(
lT 11 t3 s fun t103 s =>
fA 18 t4 s fun t104 s =>
lF t104 s fun t105 s =>
iA 19 t105 (.val (.int .i64 0)) s fun t106 s =>
lT 19 t106 s fun t107 s =>
lT 2 t5 s fun t108 s =>
aC zDocDec_3 s fun t9 s =>
rg s (aLoad true 11 t3 s) t103 (
rg s (aLoad false 1 t104 s) t105 (
rg s (aIndexAddr 19 t105 (.val (.int .i64 0)) s) t106 (
rg s (aLoad true 19 t106 s) t107 (
rg s (aLoad true 2 t5 s) t108 (
aC zDocDec_4 s fun t10 s =>
rg s (aLoad true 11 t3 s) t103 (
rg s (aLoad false 1 t104 s) t105 (
rg s (aIndexAddr 19 t105 (.val (.int .i64 0)) s) t106 (
rg s (aLoad true 19 t106 s) t107 (
rg s (aLoad true 2 t5 s) t108 (
Ev Tryz.prog 31 [t103,t107,t108] s (fun t109 s =>
eX 0 t109 s fun t110 s =>
eX 1 t109 s fun t111 s =>
sT 11 t9 t110 s fun s =>
sT 4 t10 t111 s fun s =>
j1 [(4,t4),(5,t5),(6,t6),(7,t7),(na,t9),(nb,t10)] s
) kp)))))))))))∧(
(
lT 11 t3 s fun t103 s =>
fA 18 t4 s fun t104 s =>
lF t104 s fun t105 s =>
iA 19 t105 (.val (.int .i64 0)) s fun t106 s =>
lT 19 t106 s fun t107 s =>
lT 2 t5 s fun t108 s =>
aC zDocDec_4 s fun t10 s =>
rg s (aLoad true 11 t3 s) t103 (
rg s (aLoad false 1 t104 s) t105 (
rg s (aIndexAddr 19 t105 (.val (.int .i64 0)) s) t106 (
rg s (aLoad true 19 t106 s) t107 (
rg s (aLoad true 2 t5 s) t108 (
Ev Tryz.prog 31 [t103,t107,t108] s (fun t109 s =>
eX 0 t109 s fun t110 s =>
eX 1 t109 s fun t111 s =>
aC zDocDec_3 s fun t9 s =>
rg s (aLoad true 11 t3 s) t103 (
rg s (aLoad false 1 t104 s) t105 (
rg s (aIndexAddr 19 t105 (.val (.int .i64 0)) s) t106 (
rg s (aLoad true 19 t106 s) t107 (
rg s (aLoad true 2 t5 s) t108 (
sT 11 t9 t110 s fun s =>
sT 4 t10 t111 s fun s =>
j1 [(4,t4),(5,t5),(6,t6),(7,t7),(na,t9),(nb,t10)] s
)))))) kp))))))∧(
lT 11 t3 s fun t103 s =>
fA 18 t4 s fun t104 s =>
lF t104 s fun t105 s =>
iA 19 t105 (.val (.int .i64 0)) s fun t106 s =>
lT 19 t106 s fun t107 s =>
lT 2 t5 s fun t108 s =>
aC zDocDec_4 s fun t10 s =>
rg s (aLoad true 11 t3 s) t103 (
rg s (aLoad false 1 t104 s) t105 (
rg s (aIndexAddr 19 t105 (.val (.int .i64 0)) s) t106 (
rg s (aLoad true 19 t106 s) t107 (
rg s (aLoad true 2 t5 s) t108 (
aC zDocDec_3 s fun t9 s =>
rg s (aLoad true 11 t3 s) t103 (
rg s (aLoad false 1 t104 s) t105 (
rg s (aIndexAddr 19 t105 (.val (.int .i64 0)) s) t106 (
rg s (aLoad true 19 t106 s) t107 (
rg s (aLoad true 2 t5 s) t108 (
Ev Tryz.prog 31 [t103,t107,t108] s (fun t109 s =>
eX 0 t109 s fun t110 s =>
eX 1 t109 s fun t111 s =>
sT 11 t9 t110 s fun s =>
sT 4 t10 t111 s fun s =>
j1 [(4,t4),(5,t5),(6,t6),(7,t7),(na,t9),(nb,t10)] s
) kp))))))))))))))))
def N12 (t3 t4 t5 t6 t7:AV) (s:AHeap) (k kp:KP):Prop :=
seqW (fun fr s=>N12J fr s k kp) (fun j=>N12O 9 10 j t3 t4 t5 t6 t7 s kp)
def N13J (fr:AFrame) (s:AHeap) (k kp:KP):Prop :=
(
lT 11 (lq fr 11) s fun t151 s =>
Ev Tryz.prog 55 [t151] s (fun t152 s =>
condK t152 (
lT 11 (lq fr 11) s fun t153 s =>
lT 4 (lq fr 12) s fun t154 s =>
sT 11 (lq fr 6) t153 s fun s =>
rg s (aLoad true 4 (lq fr 12) s) t154 (
sT 4 (lq fr 7) t154 s fun s =>
stepV (aLoad true 11 (lq fr 6) s) fun r0 =>
stepV (aLoad true 4 (lq fr 7) s) fun r1 =>
k (.tup [r0,r1]) s
)) (
lT 2 (lq fr 5) s fun t155 s =>
fA 0 (lq fr 4) s fun t156 s =>
fA 4 t156 s fun t157 s =>
lF t157 s fun t158 s =>
lT 4 (lq fr 12) s fun t159 s =>
Ev Tryz.prog 56 [t155,t158,t159,(.val (.bool true))] s (fun t160 s =>
aC zDocDec_5 s fun t13 s =>
sT 2 t13 t160 s fun s =>
stepK (aBuildSlice 0 23 zDocDec_2 [] s) fun t161 s =>
fA 6 (lq fr 11) s fun t162 s =>
lF t162 s fun t163 s =>
stepK (aAppend 23 368 t161 t163 s) fun t164 s =>
stepK (pureR s (aLenK .slice t164 s)) fun t167 s =>
bP .sub t167 (.val (.int .i64 1)) s fun t168 s =>
lT 2 t13 s fun t169 s =>
iA 23 t164 t168 s fun t170 s =>
fA 20 t170 s fun t171 s =>
sT 2 t171 t169 s fun s =>
fA 6 (lq fr 11) s fun t173 s =>
sT 1 t173 t164 s fun s =>
lT 11 (lq fr 11) s fun t174 s =>
fA 18 (lq fr 4) s fun t175 s =>
lF t175 s fun t176 s =>
iA 19 t176 (.val (.int .i64 1)) s fun t177 s =>
lT 19 t177 s fun t178 s =>
lT 2 t13 s fun t179 s =>
Ev Tryz.prog 31 [t174,t178,t179] s (fun t180 s =>
rv 11 4 (lq fr 6) (lq fr 7) t180 s k
) kp) kp)
) kp)
def N13O (na nb:Nat) (j2:AFrame→AHeap→Prop) (t3 t4 t5 t6 t7:AV) (s:AHeap) (kp:KP):Prop :=
(
(
lT 11 t3 s fun t133 s =>
lT 2 t5 s fun t134 s =>
fA 7 t4 s fun t135 s =>
lF t135 s fun t136 s =>
fA 18 t4 s fun t137 s =>
lF t137 s fun t138 s =>
iA 19 t138 (.val (.int .i64 0)) s fun t139 s =>
lT 19 t139 s fun t140 s =>
fA 0 t4 s fun t141 s =>
fA 5 t141 s fun t142 s =>
lF t142 s fun t143 s =>
lT 2 t5 s fun t144 s =>
fA 8 t4 s fun t145 s =>
lF t145 s fun t146 s =>
stepK (pureR s (aBuild zDocDec_2 [(0,19,t140),(19,1,t143),(20,2,t144),(22,1,t146)])) fun t147 s =>
Ev Tryz.prog 54 [t133,t134,t136,t147] s (fun t148 s =>
eX 0 t148 s fun t149 s =>
eX 1 t148 s fun t150 s =>
aC zDocDec_3 s fun t11 s =>
rg s (aLoad true 11 t3 s) t133 (
rg s (aLoad true 2 t5 s) t134 (
rg s (aLoad false 1 t135 s) t136 (
rg s (aLoad false 1 t137 s) t138 (
rg s (aIndexAddr 19 t138 (.val (.int .i64 0)) s) t139 (
rg s (aLoad true 19 t139 s) t140 (
rg s (aLoad false 1 t142 s) t143 (
rg s (aLoad true 2 t5 s) t144 (
rg s (aLoad false 1 t145 s) t146 (
aC zDocDec_4 s fun t12 s =>
rg s (aLoad true 11 t3 s) t133 (
rg s (aLoad true 2 t5 s) t134 (
rg s (aLoad false 1 t135 s) t136 (
rg s (aLoad false 1 t137 s) t138 (
rg s (aIndexAddr 19 t138 (.val (.int .i64 0)) s) t139 (
rg s (aLoad true 19 t139 s) t140 (
rg s (aLoad false 1 t142 s) t143 (
rg s (aLoad true 2 t5 s) t144 (
rg s (aLoad false 1 t145 s) t146 (
sT 11 t11 t149 s fun s =>
sT 4 t12 t150 s fun s =>
j2 [(4,t4),(5,t5),(6,t6),(7,t7),(na,t11),(nb,t12)] s
))))))))))))))))))) kp)∧(
(
lT 11 t3 s fun t133 s =>
lT 2 t5 s fun t134 s =>
fA 7 t4 s fun t135 s =>
lF t135 s fun t136 s =>
fA 18 t4 s fun t137 s =>
lF t137 s fun t138 s =>
iA 19 t138 (.val (.int .i64 0)) s fun t139 s =>
lT 19 t139 s fun t140 s =>
fA 0 t4 s fun t141 s =>
fA 5 t141 s fun t142 s =>
lF t142 s fun t143 s =>
lT 2 t5 s fun t144 s =>
fA 8 t4 s fun t145 s =>
lF t145 s fun t146 s =>
stepK (pureR s (aBuild zDocDec_2 [(0,19,t140),(19,1,t143),(20,2,t144),(22,1,t146)])) fun t147 s =>
Ev Tryz.prog 54 [t133,t134,t136,t147] s (fun t148 s =>
eX 0 t148 s fun t149 s =>
eX 1 t148 s fun t150 s =>
aC zDocDec_4 s fun t12 s =>
rg s (aLoad true 11 t3 s) t133 (
rg s (aLoad true 2 t5 s) t134 (
rg s (aLoad false 1 t135 s) t136 (
rg s (aLoad false 1 t137 s) t138 (
rg s (aIndexAddr 19 t138 (.val (.int .i64 0)) s) t139 (
rg s (aLoad true 19 t139 s) t140 (
rg s (aLoad false 1 t142 s) t143 (
rg s (aLoad true 2 t5 s) t144 (
rg s (aLoad false 1 t145 s) t146 (
aC zDocDec_3 s fun t11 s =>
rg s (aLoad true 11 t3 s) t133 (
rg s (aLoad true 2 t5 s) t134 (
rg s (aLoad false 1 t135 s) t136 (
rg s (aLoad false 1 t137 s) t138 (
rg s (aIndexAddr 19 t138 (.val (.int .i64 0)) s) t139 (
rg s (aLoad true 19 t139 s) t140 (
rg s (aLoad false 1 t142 s) t143 (
rg s (aLoad true 2 t5 s) t144 (
rg s (aLoad false 1 t145 s) t146 (
sT 11 t11 t149 s fun s =>
sT 4 t12 t150 s fun s =>
j2 [(4,t4),(5,t5),(6,t6),(7,t7),(na,t11),(nb,t12)] s
))))))))))))))))))) kp)∧(
(
lT 11 t3 s fun t133 s =>
lT 2 t5 s fun t134 s =>
fA 7 t4 s fun t135 s =>
lF t135 s fun t136 s =>
fA 18 t4 s fun t137 s =>
lF t137 s fun t138 s =>
iA 19 t138 (.val (.int .i64 0)) s fun t139 s =>
lT 19 t139 s fun t140 s =>
fA 0 t4 s fun t141 s =>
fA 5 t141 s fun t142 s =>
lF t142 s fun t143 s =>
lT 2 t5 s fun t144 s =>
fA 8 t4 s fun t145 s =>
lF t145 s fun t146 s =>
stepK (pureR s (aBuild zDocDec_2 [(0,19,t140),(19,1,t143),(20,2,t144),(22,1,t146)])) fun t147 s =>
aC zDocDec_3 s fun t11 s =>
rg s (aLoad true 11 t3 s) t133 (
rg s (aLoad true 2 t5 s) t134 (
rg s (aLoad false 1 t135 s) t136 (
rg s (aLoad false 1 t137 s) t138 (
rg s (aIndexAddr 19 t138 (.val (.int .i64 0)) s) t139 (
rg s (aLoad true 19 t139 s) t140 (
rg s (aLoad false 1 t142 s) t143 (
rg s (aLoad true 2 t5 s) t144 (
rg s (aLoad false 1 t145 s) t146 (
Ev Tryz.prog 54 [t133,t134,t136,t147] s (fun t148 s =>
eX 0 t148 s fun t149 s =>
eX 1 t148 s fun t150 s =>
aC zDocDec_4 s fun t12 s =>
rg s (aLoad true 11 t3 s) t133 (
rg s (aLoad true 2 t5 s) t134 (
rg s (aLoad false 1 t135 s) t136 (
rg s (aLoad false 1 t137 s) t138 (
rg s (aIndexAddr 19 t138 (.val (.int .i64 0)) s) t139 (
rg s (aLoad true 19 t139 s) t140 (
rg s (aLoad false 1 t142 s) t143 (
rg s (aLoad true 2 t5 s) t144 (
rg s (aLoad false 1 t145 s) t146 (
sT 11 t11 t149 s fun s =>
sT 4 t12 t150 s fun s =>
j2 [(4,t4),(5,t5),(6,t6),(7,t7),(na,t11),(nb,t12)] s
)))))))))) kp))))))))))∧(
(
lT 11 t3 s fun t133 s =>
lT 2 t5 s fun t134 s =>
fA 7 t4 s fun t135 s =>
lF t135 s fun t136 s =>
fA 18 t4 s fun t137 s =>
lF t137 s fun t138 s =>
iA 19 t138 (.val (.int .i64 0)) s fun t139 s =>
lT 19 t139 s fun t140 s =>
fA 0 t4 s fun t141 s =>
fA 5 t141 s fun t142 s =>
lF t142 s fun t143 s =>
lT 2 t5 s fun t144 s =>
fA 8 t4 s fun t145 s =>
lF t145 s fun t146 s =>
stepK (pureR s (aBuild zDocDec_2 [(0,19,t140),(19,1,t143),(20,2,t144),(22,1,t146)])) fun t147 s =>
aC zDocDec_3 s fun t11 s =>
rg s (aLoad true 11 t3 s) t133 (
rg s (aLoad true 2 t5 s) t134 (
rg s (aLoad false 1 t135 s) t136 (
rg s (aLoad false 1 t137 s) t138 (
rg s (aIndexAddr 19 t138 (.val (.int .i64 0)) s) t139 (
rg s (aLoad true 19 t139 s) t140 (
rg s (aLoad false 1 t142 s) t143 (
rg s (aLoad true 2 t5 s) t144 (
rg s (aLoad false 1 t145 s) t146 (
aC zDocDec_4 s fun t12 s =>
rg s (aLoad true 11 t3 s) t133 (
rg s (aLoad true 2 t5 s) t134 (
rg s (aLoad false 1 t135 s) t136 (
rg s (aLoad false 1 t137 s) t138 (
rg s (aIndexAddr 19 t138 (.val (.int .i64 0)) s) t139 (
rg s (aLoad true 19 t139 s) t140 (
rg s (aLoad false 1 t142 s) t143 (
rg s (aLoad true 2 t5 s) t144 (
rg s (aLoad false 1 t145 s) t146 (
Ev Tryz.prog 54 [t133,t134,t136,t147] s (fun t148 s =>
eX 0 t148 s fun t149 s =>
eX 1 t148 s fun t150 s =>
sT 11 t11 t149 s fun s =>
sT 4 t12 t150 s fun s =>
j2 [(4,t4),(5,t5),(6,t6),(7,t7),(na,t11),(nb,t12)] s
) kp)))))))))))))))))))∧(
(
lT 11 t3 s fun t133 s =>
lT 2 t5 s fun t134 s =>
fA 7 t4 s fun t135 s =>
lF t135 s fun t136 s =>
fA 18 t4 s fun t137 s =>
lF t137 s fun t138 s =>
iA 19 t138 (.val (.int .i64 0)) s fun t139 s =>
lT 19 t139 s fun t140 s =>
fA 0 t4 s fun t141 s =>
fA 5 t141 s fun t142 s =>
lF t142 s fun t143 s =>
lT 2 t5 s fun t144 s =>
fA 8 t4 s fun t145 s =>
lF t145 s fun t146 s =>
stepK (pureR s (aBuild zDocDec_2 [(0,19,t140),(19,1,t143),(20,2,t144),(22,1,t146)])) fun t147 s =>
aC zDocDec_4 s fun t12 s =>
rg s (aLoad true 11 t3 s) t133 (
rg s (aLoad true 2 t5 s) t134 (
rg s (aLoad false 1 t135 s) t136 (
rg s (aLoad false 1 t137 s) t138 (
rg s (aIndexAddr 19 t138 (.val (.int .i64 0)) s) t139 (
rg s (aLoad true 19 t139 s) t140 (
rg s (aLoad false 1 t142 s) t143 (
rg s (aLoad true 2 t5 s) t144 (
rg s (aLoad false 1 t145 s) t146 (
Ev Tryz.prog 54 [t133,t134,t136,t147] s (fun t148 s =>
eX 0 t148 s fun t149 s =>
eX 1 t148 s fun t150 s =>
aC zDocDec_3 s fun t11 s =>
rg s (aLoad true 11 t3 s) t133 (
rg s (aLoad true 2 t5 s) t134 (
rg s (aLoad false 1 t135 s) t136 (
rg s (aLoad false 1 t137 s) t138 (
rg s (aIndexAddr 19 t138 (.val (.int .i64 0)) s) t139 (
rg s (aLoad true 19 t139 s) t140 (
rg s (aLoad false 1 t142 s) t143 (
rg s (aLoad true 2 t5 s) t144 (
rg s (aLoad false 1 t145 s) t146 (
sT 11 t11 t149 s fun s =>
sT 4 t12 t150 s fun s =>
j2 [(4,t4),(5,t5),(6,t6),(7,t7),(na,t11),(nb,t12)] s
)))))))))) kp))))))))))∧(
lT 11 t3 s fun t133 s =>
lT 2 t5 s fun t134 s =>
fA 7 t4 s fun t135 s =>
lF t135 s fun t136 s =>
fA 18 t4 s fun t137 s =>
lF t137 s fun t138 s =>
iA 19 t138 (.val (.int .i64 0)) s fun t139 s =>
lT 19 t139 s fun t140 s =>
fA 0 t4 s fun t141 s =>
fA 5 t141 s fun t142 s =>
lF t142 s fun t143 s =>
lT 2 t5 s fun t144 s =>
fA 8 t4 s fun t145 s =>
lF t145 s fun t146 s =>
stepK (pureR s (aBuild zDocDec_2 [(0,19,t140),(19,1,t143),(20,2,t144),(22,1,t146)])) fun t147 s =>
aC zDocDec_4 s fun t12 s =>
rg s (aLoad true 11 t3 s) t133 (
rg s (aLoad true 2 t5 s) t134 (
rg s (aLoad false 1 t135 s) t136 (
rg s (aLoad false 1 t137 s) t138 (
rg s (aIndexAddr 19 t138 (.val (.int .i64 0)) s) t139 (
rg s (aLoad true 19 t139 s) t140 (
rg s (aLoad false 1 t142 s) t143 (
rg s (aLoad true 2 t5 s) t144 (
rg s (aLoad false 1 t145 s) t146 (
aC zDocDec_3 s fun t11 s =>
rg s (aLoad true 11 t3 s) t133 (
rg s (aLoad true 2 t5 s) t134 (
rg s (aLoad false 1 t135 s) t136 (
rg s (aLoad false 1 t137 s) t138 (
rg s (aIndexAddr 19 t138 (.val (.int .i64 0)) s) t139 (
rg s (aLoad true 19 t139 s) t140 (
rg s (aLoad false 1 t142 s) t143 (
rg s (aLoad true 2 t5 s) t144 (
rg s (aLoad false 1 t145 s) t146 (
Ev Tryz.prog 54 [t133,t134,t136,t147] s (fun t148 s =>
eX 0 t148 s fun t149 s =>
eX 1 t148 s fun t150 s =>
sT 11 t11 t149 s fun s =>
sT 4 t12 t150 s fun s =>
j2 [(4,t4),(5,t5),(6,t6),(7,t7),(na,t11),(nb,t12)] s
) kp))))))))))))))))))))))))
def N13 (t3 t4 t5 t6 t7:AV) (s:AHeap) (k kp:KP):Prop :=
seqW (fun fr s=>N13J fr s k kp) (fun j=>N13O 11 12 j t3 t4 t5 t6 t7 s kp)
def N14J (fr:AFrame) (s:AHeap) (k kp:KP):Prop :=
(
lT 11 (lq fr 15) s fun t195 s =>
Ev Tryz.prog 55 [t195] s (fun t196 s =>
condK t196 (
lT 11 (lq fr 15) s fun t197 s =>
lT 4 (lq fr 16) s fun t198 s =>
sT 11 (lq fr 6) t197 s fun s =>
rg s (aLoad true 4 (lq fr 16) s) t198 (
sT 4 (lq fr 7) t198 s fun s =>
stepV (aLoad true 11 (lq fr 6) s) fun r0 =>
stepV (aLoad true 4 (lq fr 7) s) fun r1 =>
k (.tup [r0,r1]) s
)) (
fA 0 (lq fr 16) s fun t199 s =>
lF t199 s fun t200 s =>
bP .neq t200 (.val (.int .u8 1)) s fun t201 s =>
condK t201 (
lT 11 (lq fr 15) s fun t202 s =>
Ev Tryz.prog 51 [t202,(.val (.int .u8 6))] s (fun t203 s =>
rv 11 4 (lq fr 6) (lq fr 7) t203 s k
) kp) (
fA 1 (lq fr 16) s fun t206 s =>
lF t206 s fun t207 s =>
bP .neq t207 (.val (.int .i64 0)) s fun t208 s =>
condK t208 (
lT 11 (lq fr 15) s fun t209 s =>
fA 18 (lq fr 4) s fun t210 s =>
lF t210 s fun t211 s =>
iA 19 t211 (.val (.int .i64 1)) s fun t212 s =>
lT 19 t212 s fun t213 s =>
lT 2 (lq fr 5) s fun t214 s =>
Ev Tryz.prog 31 [t209,t213,t214] s (fun t215 s =>
rv 11 4 (lq fr 6) (lq fr 7) t215 s k
) kp) (
lT 11 (lq fr 15) s fun t218 s =>
fA 18 (lq fr 4) s fun t219 s =>
lF t219 s fun t220 s =>
iA 19 t220 (.val (.int .i64 2)) s fun t221 s =>
lT 19 t221 s fun t222 s =>
lT 2 (lq fr 5) s fun t223 s =>
Ev Tryz.prog 31 [t218,t222,t223] s (fun t224 s =>
rv 11 4 (lq fr 6) (lq fr 7) t224 s k
) kp)
)
)
) kp)
def N14 (t3 t4 t5 t6 t7:AV) (s:AHeap) (k kp:KP):Prop :=
seqW (fun fr s=>N14J fr s k kp) (fun j=>N12O 15 16 j t3 t4 t5 t6 t7 s kp)
def N16J (fr:AFrame) (s:AHeap) (k kp:KP):Prop :=
(
fA 7 (lq fr 17) s fun t239 s =>
lF t239 s fun t240 s =>
bP .eql t240 (.val (.int .u8 0)) s fun t241 s =>
gR t241 true (aFieldAddr 8 (lq fr 17)) (fun t243 s =>
gR t241 true (aLoad false 1 t243 s) (fun t244 s =>
pK t241 t244 (.val (.bool false)) s fun t245 s =>
gR t245 true (aFieldAddr 9 (lq fr 17)) (fun t247 s =>
gR t245 true (aLoad false 1 t247 s) (fun t248 s =>
gR t245 true (aFieldAddr 0 (lq fr 4)) (fun t249 s =>
gR t245 true (aFieldAddr 6 t249) (fun t250 s =>
gR t245 true (aLoad false 1 t250 s) (fun t251 s =>
gR t245 true (aBin .eql .prim t248 t251) (fun t252 s =>
pK t245 t252 (.val (.bool false)) s fun t253 s =>
condK t253 (
fA 10 (lq fr 17) s fun t254 s =>
lF t254 s fun t255 s =>
fA 8 (lq fr 17) s fun t256 s =>
sT 1 t256 (.val (.bool false)) s fun s =>
fA 9 (lq fr 17) s fun t257 s =>
sT 1 t257 (.val (.string { data:=#[] })) s fun s =>
fA 10 (lq fr 17) s fun t258 s =>
sT 1 t258 (.val (.int .i64 0)) s fun s =>
lT 11 (lq fr 17) s fun t259 s =>
fA 18 (lq fr 4) s fun t260 s =>
lF t260 s fun t261 s =>
iA 19 t261 (.val (.int .i64 1)) s fun t262 s =>
lT 19 t262 s fun t263 s =>
lT 2 (lq fr 5) s fun t264 s =>
fA 0 (lq fr 4) s fun t265 s =>
fA 5 t265 s fun t266 s =>
lF t266 s fun t267 s =>
Ev Tryz.prog 52 [t255] s (fun t269 s =>
rg s (aLoad true 11 (lq fr 17) s) t259 (
rg s (aLoad false 1 t260 s) t261 (
rg s (aIndexAddr 19 t261 (.val (.int .i64 1)) s) t262 (
rg s (aLoad true 19 t262 s) t263 (
rg s (aLoad true 2 (lq fr 5) s) t264 (
rg s (aLoad false 1 t266 s) t267 (
Ev Tryz.prog 56 [t264,t267,t269,(.val (.bool false))] s (fun t270 s =>
rg s (aLoad true 11 (lq fr 17) s) t259 (
rg s (aLoad false 1 t260 s) t261 (
rg s (aIndexAddr 19 t261 (.val (.int .i64 1)) s) t262 (
rg s (aLoad true 19 t262 s) t263 (
Ev Tryz.prog 31 [t259,t263,t270] s (fun t271 s =>
rv 11 4 (lq fr 6) (lq fr 7) t271 s k
) kp))))) kp))))))) kp) (
lT 11 (lq fr 17) s fun t274 s =>
lT 4 (lq fr 18) s fun t275 s =>
sT 11 (lq fr 6) t274 s fun s =>
rg s (aLoad true 4 (lq fr 18) s) t275 (
sT 4 (lq fr 7) t275 s fun s =>
stepV (aLoad true 11 (lq fr 6) s) fun r0 =>
stepV (aLoad true 4 (lq fr 7) s) fun r1 =>
k (.tup [r0,r1]) s
))
) s) s) s) s) s) s) s) s)
def N16 (t3 t4 t5 t6 t7:AV) (s:AHeap) (k kp:KP):Prop :=
seqW (fun fr s=>N16J fr s k kp) (fun j=>N12O 17 18 j t3 t4 t5 t6 t7 s kp)
def N18 (t3 t4 t5 t6 t7:AV) (s:AHeap) (k kp:KP):Prop :=
lT 11 t3 s fun t278 s =>
lT 19 t4 s fun t279 s =>
lT 2 t5 s fun t280 s =>
Ev Tryz.prog 57 [t278,t279,t280] s (fun t281 s =>
rv 11 4 t6 t7 t281 s k
) kp
def NKids (t3 t4 t5 t6 t7:AV) (s:AHeap) (k kp:KP):Prop :=
lT 11 t3 s fun t285 s =>
lT 19 t4 s fun t286 s =>
lT 2 t5 s fun t287 s =>
Ev Tryz.prog 58 [t285,t286,t287] s (fun t288 s =>
eX 0 t288 s fun t289 s =>
eX 1 t288 s fun t290 s =>
sT 11 t3 t289 s fun s =>
lT 11 t3 s fun t291 s =>
Ev Tryz.prog 55 [t291] s (fun t292 s =>
condK t292 (
lT 11 t3 s fun t293 s =>
stepK (pureR s (aBuild zDocDec_4 [])) fun t294 s =>
rt 11 4 t6 t7 t293 t294 s k
) (
lT 11 t3 s fun t295 s =>
lT 19 t4 s fun t296 s =>
lT 2 t5 s fun t297 s =>
Ev Tryz.prog 59 [t295,t296,t297,t290] s (fun t299 s =>
rv 11 4 t6 t7 t299 s k
) kp)
) kp) kp
def NTail (t3 t4 t5 t6 t7:AV) (s:AHeap) (k kp:KP):Prop :=
fA 5 t3 s fun t40 s =>
lF t40 s fun t41 s =>
bP .add t41 (.val (.int .i64 1)) s fun t42 s =>
fA 5 t3 s fun t43 s =>
sT 1 t43 t42 s fun s =>
fA 0 t4 s fun t44 s =>
fA 0 t44 s fun t45 s =>
lF t45 s fun t46 s =>
bP .eql t46 (.val (.int .u8 1)) s fun t48 s =>
condK t48 (N1 t3 t4 t5 t6 t7 s k kp) (
bP .eql t46 (.val (.int .u8 2)) s fun t55 s =>
condK t55 (N2 t3 t4 t5 t6 t7 s k kp) (
bP .eql t46 (.val (.int .u8 11)) s fun t83 s =>
condK t83 (N11 t3 t4 t5 t6 t7 s k kp) (
bP .eql t46 (.val (.int .u8 12)) s fun t101 s =>
condK t101 (N12 t3 t4 t5 t6 t7 s k kp) (
bP .eql t46 (.val (.int .u8 13)) s fun t131 s =>
condK t131 (N13 t3 t4 t5 t6 t7 s k kp) (
bP .eql t46 (.val (.int .u8 14)) s fun t184 s =>
condK t184 (N14 t3 t4 t5 t6 t7 s k kp) (
bP .eql t46 (.val (.int .u8 16)) s fun t228 s =>
condK t228 (N16 t3 t4 t5 t6 t7 s k kp) (
bP .eql t46 (.val (.int .u8 18)) s fun t277 s =>
condK t277 (N18 t3 t4 t5 t6 t7 s k kp) (NKids t3 t4 t5 t6 t7 s k kp)
)
)
)
)
)
)
)
def F31 (t0 t1 t2:AV) (s:AHeap) (k kp:KP):Prop :=
stepK (aBox t0 s) fun t3 s =>
stepK (aBox t1 s) fun t4 s =>
stepK (aBox t2 s) fun t5 s =>
aC zDocDec_3 s fun t6 s =>
aC zDocDec_4 s fun t7 s =>
fA 0 t4 s fun t21 s =>
fA 0 t21 s fun t22 s =>
lF t22 s fun t23 s =>
bP .eql t23 (.val (.int .u8 17)) s fun t24 s =>
condK t24 (N17 t3 t4 t5 t6 t7 s k kp) (
fA 5 t3 s fun t31 s =>
lF t31 s fun t32 s =>
fA 4 t3 s fun t33 s =>
lF t33 s fun t34 s =>
bP .geq t32 t34 s fun t35 s =>
condK t35 (NFuel t3 t4 t5 t6 t7 s k kp) (NTail t3 t4 t5 t6 t7 s k kp)
)
theorem F31_ev {t0 t1 t2:AV} (h:F31 t0 t1 t2 s k kp):Ev Tryz.prog 31 [t0,t1,t2] s k kp:=evA mixedD Tryz.func31 [(0,[3,4,5,6,7]),(1,[3,4,5,6,7,24]),(2,[6,7]),(3,[3,4,5,6,7,35]),(4,[6,7]),(5,[3,4,5,6,7]),(6,[3,4,5,6,7,46]),(7,[3,4,5,6,7,46,47]),(8,[6,7]),(2008,[0,1,2,3,4,5,6]),(108004,[0]),(9,[3,4,5,6,7,46,54]),(10,[3,5,6,7,8]),(11,[3,5,6,7,8,70]),(12,[6,7]),(13,[6,7]),(2013,[0,1,2,3,4,5,6,7,8]),(113007,[2,4,6]),(14,[3,4,5,6,7,46,82]),(15,[6,7]),(2015,[0,1,2,3,4,5,6,7,8,9,10,11,12,13,14,15,16,17]),(16,[3,4,5,6,7,46,100]),(3019,[4,5,6,7,9,10]),(17,[4,5,6,7,9,10]),(2017,[0,1,2,3,4,5,6,7,8,9,10,11,12,13]),(117010,[0,2,3,4,5]),(117011,[0,2,3,4,5]),(60017,[1,2,3,4,5]),(19000017,[0,1,2,3,4,5,6,7,8,9,11,10,12,13]),(10017010,[0,2,3,4,5]),(10017011,[0,2,3,4,5]),(29000017,[0,1,2,3,4,5,10,6,7,8,9,11,12,13]),(20017010,[0,2,3,4,5]),(20017011,[0,2,3,4,5]),(39000017,[0,1,2,3,4,5,10,11,6,7,8,9,12,13]),(30017010,[0,2,3,4,5]),(30017011,[0,2,3,4,5]),(49000017,[0,1,2,3,4,5,11,6,7,8,9,10,12,13]),(40017010,[0,2,3,4,5]),(40017011,[0,2,3,4,5]),(59000017,[0,1,2,3,4,5,11,10,6,7,8,9,12,13]),(50017010,[0,2,3,4,5]),(50017011,[0,2,3,4,5]),(18,[4,5,6,7,9,10,113]),(19,[6,7]),(2019,[0,1,2,3]),(119002,[1]),(20,[6,7]),(2020,[0,1,2,3,4,5,6,7,8,9,10,11,12,13,14,15]),(120010,[0,2,3,4]),(21,[3,4,5,6,7,46,130]),(3024,[4,5,6,7,11,12]),(22,[4,5,6,7,11,12]),(2022,[0,1,2,3,4,5,6,7,8,9,10,11,12,13,14,15,16,17,18,19,20,21,22]),(122019,[0,1,3,5,6,7,10,11,13]),(122020,[0,1,3,5,6,7,10,11,13]),(60022,[1,2,3,4,5]),(19000022,[0,1,2,3,4,5,6,7,8,9,10,11,12,13,14,15,16,17,18,20,19,21,22]),(10022019,[0,1,3,5,6,7,10,11,13]),(10022020,[0,1,3,5,6,7,10,11,13]),(29000022,[0,1,2,3,4,5,6,7,8,9,10,11,12,13,14,19,15,16,17,18,20,21,22]),(20022019,[0,1,3,5,6,7,10,11,13]),(20022020,[0,1,3,5,6,7,10,11,13]),(39000022,[0,1,2,3,4,5,6,7,8,9,10,11,12,13,14,19,20,15,16,17,18,21,22]),(30022019,[0,1,3,5,6,7,10,11,13]),(30022020,[0,1,3,5,6,7,10,11,13]),(49000022,[0,1,2,3,4,5,6,7,8,9,10,11,12,13,14,20,15,16,17,18,19,21,22]),(40022019,[0,1,3,5,6,7,10,11,13]),(40022020,[0,1,3,5,6,7,10,11,13]),(59000022,[0,1,2,3,4,5,6,7,8,9,10,11,12,13,14,20,19,15,16,17,18,21,22]),(50022019,[0,1,3,5,6,7,10,11,13]),(50022020,[0,1,3,5,6,7,10,11,13]),(23,[4,5,6,7,11,12,152]),(24,[6,7]),(2024,[0,1,2,3]),(124002,[1]),(25,[4,6,7,11,13]),(26,[4,6,7,11,13,14]),(27,[4,6,7,11,13,14]),(28,[4,6,7,11,13]),(29,[6,7]),(2029,[0,1,2,3,4,5,6,7,8,9,10]),(30,[3,4,5,6,7,46,183]),(3033,[4,5,6,7,15,16]),(31,[4,5,6,7,15,16]),(2031,[0,1,2,3,4,5,6,7,8,9,10,11,12,13]),(131010,[0,2,3,4,5]),(131011,[0,2,3,4,5]),(60031,[1,2,3,4,5]),(19000031,[0,1,2,3,4,5,6,7,8,9,11,10,12,13]),(10031010,[0,2,3,4,5]),(10031011,[0,2,3,4,5]),(29000031,[0,1,2,3,4,5,10,6,7,8,9,11,12,13]),(20031010,[0,2,3,4,5]),(20031011,[0,2,3,4,5]),(39000031,[0,1,2,3,4,5,10,11,6,7,8,9,12,13]),(30031010,[0,2,3,4,5]),(30031011,[0,2,3,4,5]),(49000031,[0,1,2,3,4,5,11,6,7,8,9,10,12,13]),(40031010,[0,2,3,4,5]),(40031011,[0,2,3,4,5]),(59000031,[0,1,2,3,4,5,11,10,6,7,8,9,12,13]),(50031010,[0,2,3,4,5]),(50031011,[0,2,3,4,5]),(32,[4,5,6,7,15,16,196]),(33,[6,7]),(2033,[0,1,2,3]),(133002,[1]),(34,[4,5,6,7,15,16,201]),(35,[6,7]),(36,[4,5,6,7,15,208]),(37,[6,7]),(2037,[0,1,2,3,4,5,6,7,8,9,10]),(38,[6,7]),(2038,[0,1,2,3,4,5,6,7,8,9,10]),(39,[3,4,5,6,7,46,227]),(3042,[4,5,6,7,17,18]),(40,[4,5,6,7,17,18]),(2040,[0,1,2,3,4,5,6,7,8,9,10,11,12,13]),(140010,[0,2,3,4,5]),(140011,[0,2,3,4,5]),(60040,[1,2,3,4,5]),(19000040,[0,1,2,3,4,5,6,7,8,9,11,10,12,13]),(10040010,[0,2,3,4,5]),(10040011,[0,2,3,4,5]),(29000040,[0,1,2,3,4,5,10,6,7,8,9,11,12,13]),(20040010,[0,2,3,4,5]),(20040011,[0,2,3,4,5]),(39000040,[0,1,2,3,4,5,10,11,6,7,8,9,12,13]),(30040010,[0,2,3,4,5]),(30040011,[0,2,3,4,5]),(49000040,[0,1,2,3,4,5,11,6,7,8,9,10,12,13]),(40040010,[0,2,3,4,5]),(40040011,[0,2,3,4,5]),(59000040,[0,1,2,3,4,5,11,10,6,7,8,9,12,13]),(50040010,[0,2,3,4,5]),(50040011,[0,2,3,4,5]),(41,[4,5,6,7,17,18,253]),(42,[4,5,6,7,17,19]),(43,[4,5,6,7,17,19]),(44,[4,5,6,7,17,19]),(45,[4,5,6,7,17,19]),(46,[6,7]),(2046,[0,1,2,3,4,5,6,7,8,9,10,11,12,13,14,15,16]),(146010,[0,2,3,4,5,8]),(146011,[0,2,3,4]),(47,[6,7]),(2047,[0,1,2,3]),(147002,[1]),(48,[3,4,5,6,7,276]),(49,[6,7]),(50,[3,4,5,6,7,20]),(51,[3,4,5,6,7,20,292]),(52,[6,7]),(53,[6,7])] (by kernel_rfl) (by kernel_rfl) h
def F32 (t0:AV) (s:AHeap) (k kp:KP):Prop :=
stepK (aBox t0 s) fun t1 s =>
seqW (fun fr s=>(
k (.tup [(lq fr 4),(lq fr 5)]) s
)) (fun j1=>(
fA 2 t1 s fun t7 s =>
lF t7 s fun t8 s =>
stepK (pureR s (aLenK .slice t8 s)) fun t9 s =>
loopW (fun fr s again=>(
bP .lss (lq fr 10) (lq fr 9) s fun t11 s =>
condK t11 (
seqW (fun fr s=>(
bP .add (lq fr 10) (.val (.int .i64 1)) s fun t30 s =>
again [(1,(lq fr 1)),(4,(lq fr 4)),(5,(lq fr 5)),(9,(lq fr 9)),(10,t30)] s
)) (fun j2=>(
fA 2 (lq fr 1) s fun t13 s =>
lF t13 s fun t14 s =>
iA 2 t14 (lq fr 10) s fun t16 s =>
fA 0 t16 s fun t17 s =>
lF t17 s fun t18 s =>
condK t18 (
bP .add (lq fr 4) (.val (.int .i64 1)) s fun t20 s =>
fA 2 (lq fr 1) s fun t22 s =>
lF t22 s fun t23 s =>
iA 2 t23 (lq fr 10) s fun t25 s =>
fA 1 t25 s fun t26 s =>
lF t26 s fun t27 s =>
stepK (pureR s (aLenK .slice t27 s)) fun t28 s =>
bP .add (lq fr 5) t28 s fun t29 s =>
j2 [(1,(lq fr 1)),(4,t20),(5,t29),(9,(lq fr 9)),(10,(lq fr 10))] s
) (
j2 [(1,(lq fr 1)),(4,(lq fr 4)),(5,(lq fr 5)),(9,(lq fr 9)),(10,(lq fr 10))] s
)
))
) (
j1 [(4,(lq fr 4)),(5,(lq fr 5))] s
)
)) [(1,t1),(4,(.val (.int .i64 0))),(5,(.val (.int .i64 0))),(9,t9),(10,(.val (.int .i64 0)))] s
))
theorem F32_ev {t0:AV} (h:F32 t0 s k kp):Ev Tryz.prog 32 [t0] s k kp:=evA mixedD Tryz.func32 [(0,[1]),(1,[1,4,5]),(3010,[4,5]),(2,[1,4,5,9,10]),(3,[1,4,5,9,10,11]),(3009,[1,4,5,9,10]),(4,[1,4,5,6,9,10]),(5,[1,4,5,6,9,10,18]),(6,[1,4,5,6,9,10]),(7,[1,4,5,9,10]),(8,[1,4,5,9,10]),(1003,[1,4,5,9,10]),(9,[2,3])] (by kernel_rfl) (by kernel_rfl) h
def F49 (t0 t1 t2:AV) (s:AHeap) (k kp:KP):Prop :=
bP .lss t0 t1 s fun t9 s =>
condK t9 (
k t1 s
) (
bP .gtr t0 t2 s fun t13 s =>
condK t13 (
k t2 s
) (
k t0 s
)
)
theorem F49_ev {t0 t1 t2:AV} (h:F49 t0 t1 t2 s k kp):Ev Tryz.prog 49 [t0,t1,t2] s k kp:=evA mixedD Tryz.func49 [(0,[0,1,2]),(1,[0,1,2,9]),(2,[6]),(3,[0,2,13]),(4,[6]),(5,[6])] (by kernel_rfl) (by kernel_rfl) h
def F50 (t0 t1 t2:AV) (s:AHeap) (k kp:KP):Prop :=
stepK (aBox t0 s) fun t3 s =>
stepK (aBox t1 s) fun t4 s =>
stepK (aBox t2 s) fun t5 s =>
aC zDocDec_3 s fun t6 s =>
aC zDocDec_4 s fun t7 s =>
fA 0 t3 s fun t13 s =>
lT 4 t13 s fun t14 s =>
Ev Tryz.prog 95 [t14] s (fun t15 s =>
eX 0 t15 s fun t16 s =>
eX 1 t15 s fun t17 s =>
eX 2 t15 s fun t18 s =>
aC zDocDec_0 s fun t8 s =>
sT 4 t8 t16 s fun s =>
stepK (pureR s (aNot t18)) fun t20 s =>
condK t20 (
lT 11 t3 s fun t21 s =>
Ev Tryz.prog 51 [t21,(.val (.int .u8 4))] s (fun t22 s =>
rv 11 4 t6 t7 t22 s k
) kp) (
lT 4 t8 s fun t25 s =>
fA 0 t3 s fun t26 s =>
sT 4 t26 t25 s fun s =>
seqW (fun fr s=>(
seqW (fun fr s=>(
lT 11 (lq fr 3) s fun t51 s =>
lT 4 (lq fr 11) s fun t52 s =>
sT 11 (lq fr 6) t51 s fun s =>
rg s (aLoad true 4 (lq fr 11) s) t52 (
sT 4 (lq fr 7) t52 s fun s =>
stepV (aLoad true 11 (lq fr 6) s) fun r0 =>
stepV (aLoad true 4 (lq fr 7) s) fun r1 =>
k (.tup [r0,r1]) s
))) (fun j2=>(
fA 7 (lq fr 3) s fun t41 s =>
lF t41 s fun t42 s =>
bP .eql t42 (.val (.int .u8 0)) s fun t43 s =>
condK t43 (
fA 0 (lq fr 3) s fun t45 s =>
lT 4 t45 s fun t46 s =>
Ev Tryz.prog 97 [t46] s (fun t47 s =>
eX 0 t47 s fun t48 s =>
eX 1 t47 s fun t49 s =>
fA 0 (lq fr 3) s fun t50 s =>
sT 4 t50 t48 s fun s =>
j2 [(3,(lq fr 3)),(6,(lq fr 6)),(7,(lq fr 7)),(11,(lq fr 11))] s
) kp) (
j2 [(3,(lq fr 3)),(6,(lq fr 6)),(7,(lq fr 7)),(11,(lq fr 11))] s
)
))
)) (fun j1=>(
(
lT 11 t3 s fun t28 s =>
fA 18 t4 s fun t29 s =>
lF t29 s fun t30 s =>
iA 19 t30 (.val (.int .i64 0)) s fun t31 s =>
lT 19 t31 s fun t32 s =>
lT 2 t5 s fun t33 s =>
fA 7 t4 s fun t34 s =>
lF t34 s fun t35 s =>
Ev Tryz.prog 96 [t33,t35,t17] s (fun t37 s =>
rg s (aLoad true 11 t3 s) t28 (
rg s (aLoad false 1 t29 s) t30 (
rg s (aIndexAddr 19 t30 (.val (.int .i64 0)) s) t31 (
rg s (aLoad true 19 t31 s) t32 (
Ev Tryz.prog 31 [t28,t32,t37] s (fun t38 s =>
eX 0 t38 s fun t39 s =>
eX 1 t38 s fun t40 s =>
aC zDocDec_4 s fun t11 s =>
rg s (aLoad true 11 t3 s) t28 (
rg s (aLoad false 1 t29 s) t30 (
rg s (aIndexAddr 19 t30 (.val (.int .i64 0)) s) t31 (
rg s (aLoad true 19 t31 s) t32 (
rg s (aLoad true 2 t5 s) t33 (
rg s (aLoad false 1 t34 s) t35 (
sT 11 t3 t39 s fun s =>
sT 4 t11 t40 s fun s =>
j1 [(3,t3),(6,t6),(7,t7),(11,t11)] s
))))))) kp))))) kp)∧(
(
lT 11 t3 s fun t28 s =>
fA 18 t4 s fun t29 s =>
lF t29 s fun t30 s =>
iA 19 t30 (.val (.int .i64 0)) s fun t31 s =>
lT 19 t31 s fun t32 s =>
lT 2 t5 s fun t33 s =>
fA 7 t4 s fun t34 s =>
lF t34 s fun t35 s =>
Ev Tryz.prog 96 [t33,t35,t17] s (fun t37 s =>
rg s (aLoad true 11 t3 s) t28 (
rg s (aLoad false 1 t29 s) t30 (
rg s (aIndexAddr 19 t30 (.val (.int .i64 0)) s) t31 (
rg s (aLoad true 19 t31 s) t32 (
aC zDocDec_4 s fun t11 s =>
rg s (aLoad true 11 t3 s) t28 (
rg s (aLoad false 1 t29 s) t30 (
rg s (aIndexAddr 19 t30 (.val (.int .i64 0)) s) t31 (
rg s (aLoad true 19 t31 s) t32 (
rg s (aLoad true 2 t5 s) t33 (
rg s (aLoad false 1 t34 s) t35 (
Ev Tryz.prog 31 [t28,t32,t37] s (fun t38 s =>
eX 0 t38 s fun t39 s =>
eX 1 t38 s fun t40 s =>
sT 11 t3 t39 s fun s =>
sT 4 t11 t40 s fun s =>
j1 [(3,t3),(6,t6),(7,t7),(11,t11)] s
) kp))))))))))) kp)∧(
lT 11 t3 s fun t28 s =>
fA 18 t4 s fun t29 s =>
lF t29 s fun t30 s =>
iA 19 t30 (.val (.int .i64 0)) s fun t31 s =>
lT 19 t31 s fun t32 s =>
lT 2 t5 s fun t33 s =>
fA 7 t4 s fun t34 s =>
lF t34 s fun t35 s =>
aC zDocDec_4 s fun t11 s =>
rg s (aLoad true 11 t3 s) t28 (
rg s (aLoad false 1 t29 s) t30 (
rg s (aIndexAddr 19 t30 (.val (.int .i64 0)) s) t31 (
rg s (aLoad true 19 t31 s) t32 (
rg s (aLoad true 2 t5 s) t33 (
rg s (aLoad false 1 t34 s) t35 (
Ev Tryz.prog 96 [t33,t35,t17] s (fun t37 s =>
rg s (aLoad true 11 t3 s) t28 (
rg s (aLoad false 1 t29 s) t30 (
rg s (aIndexAddr 19 t30 (.val (.int .i64 0)) s) t31 (
rg s (aLoad true 19 t31 s) t32 (
Ev Tryz.prog 31 [t28,t32,t37] s (fun t38 s =>
eX 0 t38 s fun t39 s =>
eX 1 t38 s fun t40 s =>
sT 11 t3 t39 s fun s =>
sT 4 t11 t40 s fun s =>
j1 [(3,t3),(6,t6),(7,t7),(11,t11)] s
) kp))))) kp))))))))))
)) kp
theorem F50_ev {t0 t1 t2:AV} (h:F50 t0 t1 t2 s k kp):Ev Tryz.prog 50 [t0,t1,t2] s k kp:=evA mixedD Tryz.func50 [(0,[3,4,5,6,7]),(1,[3,4,5,6,7,8,9,10]),(2,[3,4,5,6,7,8,9,20]),(3,[6,7]),(4,[3,4,5,6,7,9]),(3007,[3,6,7,11]),(5,[3,6,7,11]),(2005,[0,1,2,3,4,5,6,7,8,9,10,11,12,13,14,15,16]),(105009,[0,2,3,4]),(105014,[0,2,3,4,5,7]),(60005,[1,2]),(19000005,[0,1,2,3,4,5,6,7,8,9,14,10,11,12,13,15,16]),(10005009,[0,2,3,4]),(10005014,[0,2,3,4,5,7]),(29000005,[0,1,2,3,4,5,6,7,8,14,9,10,11,12,13,15,16]),(20005009,[0,2,3,4]),(20005014,[0,2,3,4,5,7]),(3009,[3,6,7,11]),(6,[3,6,7,11,43]),(7,[3,6,7,11]),(8,[6,7]),(2008,[0,1,2,3]),(108002,[1])] (by kernel_rfl) (by kernel_rfl) h
def F51 (t0 t1:AV) (s:AHeap) (k kp:KP):Prop :=
stepK (aBox t0 s) fun t2 s =>
aC zDocDec_3 s fun t4 s =>
aC zDocDec_4 s fun t5 s =>
fA 7 t2 s fun t7 s =>
sT 1 t7 t1 s fun s =>
lT 11 t2 s fun t8 s =>
stepK (pureR s (aBuild zDocDec_4 [])) fun t9 s =>
rt 11 4 t4 t5 t8 t9 s k
theorem F51_ev {t0 t1:AV} (h:F51 t0 t1 s k kp):Ev Tryz.prog 51 [t0,t1] s k kp:=evA mixedD Tryz.func51 [(0,[1,2,4,5]),(1,[2,4,5]),(2,[4,5])] (by kernel_rfl) (by kernel_rfl) h
def F52 (t0:AV) (s:AHeap) (k kp:KP):Prop :=
aC zDocDec_4 s fun t2 s =>
stepK (pureR s (aBuild zDocDec_4 [(0,1,(.val (.int .u8 1))),(1,1,t0)])) fun t4 s =>
sT 4 t2 t4 s fun s =>
stepV (aLoad true 4 t2 s) fun r0 =>
k r0 s
theorem F52_ev {t0:AV} (h:F52 t0 s k kp):Ev Tryz.prog 52 [t0] s k kp:=evA mixedD Tryz.func52 [(0,[0,2]),(1,[2])] (by kernel_rfl) (by kernel_rfl) h
def F53 (t0 t1:AV) (s:AHeap) (k kp:KP):Prop :=
stepK (aBox t0 s) fun t2 s =>
seqW (fun fr s=>(
k (.val (.int .i64 (-1))) s
)) (fun j1=>(
fA 0 t2 s fun t6 s =>
lF t6 s fun t7 s =>
stepK (pureR s (aLenK .slice t7 s)) fun t8 s =>
bP .sub t8 (.val (.int .i64 1)) s fun t9 s =>
loopW (fun fr s again=>(
bP .geq (lq fr 5) (.val (.int .i64 0)) s fun t11 s =>
condK t11 (
fA 0 (lq fr 2) s fun t14 s =>
lF t14 s fun t15 s =>
iA 6 t15 (lq fr 5) s fun t17 s =>
fA 0 t17 s fun t18 s =>
lF t18 s fun t19 s =>
bP .eql t19 (lq fr 1) s fun t21 s =>
condK t21 (
k (lq fr 5) s
) (
bP .sub (lq fr 5) (.val (.int .i64 1)) s fun t13 s =>
again [(1,(lq fr 1)),(2,(lq fr 2)),(5,t13)] s
)
) (
j1 [(0,.any)] s
)
)) [(1,t1),(2,t2),(5,t9)] s
))
theorem F53_ev {t0 t1:AV} (h:F53 t0 t1 s k kp):Ev Tryz.prog 53 [t0,t1] s k kp:=evA mixedD Tryz.func53 [(0,[1,2]),(3007,[0]),(1,[1,2,5]),(2,[1,2,5,11]),(4,[1,2,5,21]),(5,[4]),(3,[1,2,5]),(1002,[1,2,5]),(6,[4])] (by kernel_rfl) (by kernel_rfl) h
def F54 (t0 t1 t2 t3:AV) (s:AHeap) (k kp:KP):Prop :=
stepK (aBox t0 s) fun t4 s =>
stepK (aBox t1 s) fun t5 s =>
stepK (aBox t3 s) fun t7 s =>
aC zDocDec_3 s fun t8 s =>
aC zDocDec_4 s fun t9 s =>
stepK (pureR s (aBuildSl 0 23 zDocDec_2 [])) fun t10 s =>
fA 6 t4 s fun t11 s =>
lF t11 s fun t12 s =>
lT 23 t7 s fun t14 s =>
stepK (pureR s (aBuildSl 1 23 zDocDec_2 [(0,t14)])) fun t15 s =>
stepK (aAppend 23 368 t10 t12 s) fun t13 s =>
rg s (aLoad true 23 t7 s) t14 (
stepK (aAppend 23 368 t13 t15 s) fun t16 s =>
fA 6 t4 s fun t17 s =>
sT 1 t17 t16 s fun s =>
lT 11 t4 s fun t18 s =>
lT 2 t5 s fun t19 s =>
fA 6 t4 s fun t21 s =>
lF t21 s fun t22 s =>
stepK (pureR s (aLenK .slice t22 s)) fun t23 s =>
bP .sub t23 (.val (.int .i64 1)) s fun t24 s =>
stepK (pureR s (aBuild zDocDec_6 [(0,1,(.val (.int .u8 3))),(9,1,t24)])) fun t25 s =>
Ev Tryz.prog 98 [t18,t19,t2,t25] s (fun t26 s =>
eX 0 t26 s fun t27 s =>
eX 1 t26 s fun t28 s =>
sT 11 t8 t27 s fun s =>
sT 4 t9 t28 s fun s =>
stepV (aLoad true 11 t8 s) fun r0 =>
stepV (aLoad true 4 t9 s) fun r1 =>
k (.tup [r0,r1]) s) kp)
theorem F54_ev {t0 t1 t2 t3:AV} (h:F54 t0 t1 t2 t3 s k kp):Ev Tryz.prog 54 [t0,t1,t2,t3] s k kp:=evA mixedD Tryz.func54 [(0,[2,4,5,7,8,9]),(1,[2,4,5,8,9]),(2001,[0,1,2,4,5,3,6,7,8]),(101003,[4]),(2,[8,9])] (by kernel_rfl) (by kernel_rfl) h
def F55 (t0:AV) (s:AHeap) (k kp:KP):Prop :=
stepK (aBox t0 s) fun t1 s =>
fA 7 t1 s fun t3 s =>
lF t3 s fun t4 s =>
bP .neq t4 (.val (.int .u8 0)) s fun t5 s =>
gR t5 false (aFieldAddr 8 t1) (fun t7 s =>
gR t5 false (aLoad false 1 t7 s) (fun t8 s =>
pK t5 (.val (.bool true)) t8 s fun t9 s =>
k t9 s) s) s
theorem F55_ev {t0:AV} (h:F55 t0 s k kp):Ev Tryz.prog 55 [t0] s k kp:=evA mixedD Tryz.func55 [(0,[1]),(1,[2])] (by kernel_rfl) (by kernel_rfl) h
def F56 (t0 t1 t2 t3:AV) (s:AHeap) (k kp:KP):Prop :=
stepK (aBox t0 s) fun t4 s =>
stepK (aBox t2 s) fun t6 s =>
aC zDocDec_5 s fun t8 s =>
stepK (pureR s (aBuildSl 0 6 zDocDec_7 [])) fun t9 s =>
fA 0 t4 s fun t10 s =>
lF t10 s fun t11 s =>
lT 4 t6 s fun t14 s =>
stepK (pureR s (aBuild zDocDec_7 [(0,1,t1),(1,4,t14),(5,1,t3)])) fun t16 s =>
stepK (pureR s (aBuildSl 1 6 zDocDec_7 [(0,t16)])) fun t17 s =>
stepK (aAppend 6 56 t9 t11 s) fun t12 s =>
rg s (aLoad true 4 t6 s) t14 (
stepK (aAppend 6 56 t12 t17 s) fun t18 s =>
fA 0 t4 s fun t19 s =>
sT 1 t19 t18 s fun s =>
lT 2 t4 s fun t20 s =>
sT 2 t8 t20 s fun s =>
stepV (aLoad true 2 t8 s) fun r0 =>
k r0 s)
theorem F56_ev {t0 t1 t2 t3:AV} (h:F56 t0 t1 t2 t3 s k kp):Ev Tryz.prog 56 [t0,t1,t2,t3] s k kp:=evA mixedD Tryz.func56 [(0,[1,3,4,6,8]),(1,[4,8]),(2001,[0,1,2,4,5,6,7,8,3,9,10,11]),(101003,[5]),(2,[8])] (by kernel_rfl) (by kernel_rfl) h
def F57 (t0 t1 t2:AV) (s:AHeap) (k kp:KP):Prop :=
stepK (aBox t0 s) fun t3 s =>
stepK (aBox t1 s) fun t4 s =>
stepK (aBox t2 s) fun t5 s =>
aC zDocDec_3 s fun t6 s =>
aC zDocDec_4 s fun t7 s =>
lT 2 t5 s fun t16 s =>
fA 0 t4 s fun t17 s =>
fA 4 t17 s fun t18 s =>
lF t18 s fun t19 s =>
Ev Tryz.prog 53 [t16,t19] s (fun t20 s =>
bP .lss t20 (.val (.int .i64 0)) s fun t22 s =>
gR t22 false (aFieldAddr 0 t5) (fun t24 s =>
gR t22 false (aLoad false 1 t24 s) (fun t25 s =>
gK t22 false (fun K=>K t20 s) (fun t26 s =>
gR t22 false (aIndexAddr 6 t25 t26 s) (fun t27 s =>
gR t22 false (aFieldAddr 5 t27) (fun t28 s =>
gR t22 false (aLoad false 1 t28 s) (fun t29 s =>
gR t22 false (aNot t29) (fun t30 s =>
pK t22 (.val (.bool true)) t30 s fun t31 s =>
condK t31 (
lT 11 t3 s fun t32 s =>
Ev Tryz.prog 51 [t32,(.val (.int .u8 6))] s (fun t33 s =>
rv 11 4 t6 t7 t33 s k
) kp) (
seqW (fun fr s=>(
bP .neq (lq fr 10) (.val (.int .u8 0)) s fun t48 s =>
condK t48 (
lT 11 (lq fr 3) s fun t49 s =>
Ev Tryz.prog 51 [t49,(lq fr 10)] s (fun t51 s =>
rv 11 4 (lq fr 6) (lq fr 7) t51 s k
) kp) (
fA 6 (lq fr 3) s fun t54 s =>
lF t54 s fun t55 s =>
fA 9 (lq fr 9) s fun t56 s =>
lF t56 s fun t57 s =>
iA 23 t55 t57 s fun t58 s =>
lT 23 t58 s fun t59 s =>
aC zDocDec_2 s fun t11 s =>
sT 23 t11 t59 s fun s =>
fA 22 t11 s fun t60 s =>
lF t60 s fun t61 s =>
stepK (pureR s (aLenK .slice t61 s)) fun t62 s =>
fA 8 (lq fr 4) s fun t63 s =>
lF t63 s fun t64 s =>
stepK (pureR s (aLenK .slice t64 s)) fun t65 s =>
bP .neq t62 t65 s fun t66 s =>
condK t66 (
lT 11 (lq fr 3) s fun t67 s =>
Ev Tryz.prog 51 [t67,(.val (.int .u8 6))] s (fun t68 s =>
rv 11 4 (lq fr 6) (lq fr 7) t68 s k
) kp) (
fA 20 t11 s fun t71 s =>
lT 2 t71 s fun t72 s =>
aC zDocDec_5 s fun t12 s =>
sT 2 t12 t72 s fun s =>
seqW (fun fr s=>(
lT 11 (lq fr 3) s fun t104 s =>
lT 2 (lq fr 5) s fun t105 s =>
fA 7 (lq fr 4) s fun t106 s =>
lF t106 s fun t107 s =>
fA 0 (lq fr 11) s fun t108 s =>
lT 19 t108 s fun t109 s =>
fA 19 (lq fr 11) s fun t110 s =>
lF t110 s fun t111 s =>
lT 2 (lq fr 12) s fun t112 s =>
stepK (pureR s (aBuild zDocDec_2 [(0,19,t109),(19,1,t111),(20,2,t112)])) fun t113 s =>
Ev Tryz.prog 54 [t104,t105,t107,t113] s (fun t114 s =>
rv 11 4 (lq fr 6) (lq fr 7) t114 s k
) kp)) (fun j2=>(
fA 8 (lq fr 4) s fun t73 s =>
lF t73 s fun t74 s =>
stepK (pureR s (aLenK .slice t74 s)) fun t75 s =>
loopW (fun fr s again=>(
bP .lss (lq fr 76) (lq fr 75) s fun t77 s =>
condK t77 (
lT 2 (lq fr 5) s fun t80 s =>
fA 8 (lq fr 4) s fun t81 s =>
lF t81 s fun t82 s =>
iA 1 t82 (lq fr 76) s fun t84 s =>
lF t84 s fun t85 s =>
Ev Tryz.prog 100 [t80,t85] s (fun t86 s =>
eX 0 t86 s fun t87 s =>
eX 1 t86 s fun t88 s =>
stepK (pureR s (aNot t88)) fun t90 s =>
condK t90 (
lT 11 (lq fr 3) s fun t91 s =>
Ev Tryz.prog 51 [t91,(.val (.int .u8 5))] s (fun t92 s =>
rv 11 4 (lq fr 6) (lq fr 7) t92 s k
) kp) (
lT 2 (lq fr 12) s fun t95 s =>
fA 22 (lq fr 11) s fun t96 s =>
lF t96 s fun t97 s =>
iA 1 t97 (lq fr 76) s fun t99 s =>
lF t99 s fun t100 s =>
Ev Tryz.prog 96 [t95,t100,t87] s (fun t102 s =>
sT 2 (lq fr 12) t102 s fun s =>
bP .add (lq fr 76) (.val (.int .i64 1)) s fun t103 s =>
again [(3,(lq fr 3)),(4,(lq fr 4)),(5,(lq fr 5)),(6,(lq fr 6)),(7,(lq fr 7)),(11,(lq fr 11)),(12,(lq fr 12)),(75,(lq fr 75)),(76,t103)] s
) kp)
) kp) (
j2 [(3,(lq fr 3)),(4,(lq fr 4)),(5,(lq fr 5)),(6,(lq fr 6)),(7,(lq fr 7)),(11,(lq fr 11)),(12,(lq fr 12))] s
)
)) [(3,(lq fr 3)),(4,(lq fr 4)),(5,(lq fr 5)),(6,(lq fr 6)),(7,(lq fr 7)),(11,t11),(12,t12),(75,t75),(76,(.val (.int .i64 0)))] s
))
)
)
)) (fun j1=>(
(
lT 11 t3 s fun t37 s =>
fA 0 t5 s fun t38 s =>
lF t38 s fun t39 s =>
iA 6 t39 t20 s fun t41 s =>
fA 1 t41 s fun t42 s =>
lT 4 t42 s fun t43 s =>
Ev Tryz.prog 99 [t37,t43,(.val (.int .u8 3))] s (fun t44 s =>
eX 0 t44 s fun t45 s =>
eX 1 t44 s fun t46 s =>
aC zDocDec_6 s fun t9 s =>
rg s (aLoad true 11 t3 s) t37 (
rg s (aLoad false 1 t38 s) t39 (
rg s (aIndexAddr 6 t39 t20 s) t41 (
rg s (aLoad true 4 t42 s) t43 (
sT 10 t9 t45 s fun s =>
j1 [(3,t3),(4,t4),(5,t5),(6,t6),(7,t7),(9,t9),(10,t46)] s
))))) kp)∧(
lT 11 t3 s fun t37 s =>
fA 0 t5 s fun t38 s =>
lF t38 s fun t39 s =>
iA 6 t39 t20 s fun t41 s =>
fA 1 t41 s fun t42 s =>
lT 4 t42 s fun t43 s =>
aC zDocDec_6 s fun t9 s =>
rg s (aLoad true 11 t3 s) t37 (
rg s (aLoad false 1 t38 s) t39 (
rg s (aIndexAddr 6 t39 t20 s) t41 (
rg s (aLoad true 4 t42 s) t43 (
Ev Tryz.prog 99 [t37,t43,(.val (.int .u8 3))] s (fun t44 s =>
eX 0 t44 s fun t45 s =>
eX 1 t44 s fun t46 s =>
sT 10 t9 t45 s fun s =>
j1 [(3,t3),(4,t4),(5,t5),(6,t6),(7,t7),(9,t9),(10,t46)] s
) kp)))))))
)) s) s) s) s) s) s) s) kp
theorem F57_ev {t0 t1 t2:AV} (h:F57 t0 t1 t2 s k kp):Ev Tryz.prog 57 [t0,t1,t2] s k kp:=evA mixedD Tryz.func57 [(0,[3,4,5,6,7]),(1,[3,4,5,6,7,8]),(2,[3,4,5,6,7,8,31]),(3,[6,7]),(3006,[3,4,5,6,7,9,10]),(4,[3,4,5,6,7,9,10]),(2004,[0,1,2,3,4,5,6,7,8,9,10,11,12,13]),(104011,[0,2,4,6]),(60004,[1]),(19000004,[0,1,2,3,4,5,6,11,7,8,9,10,12,13]),(10004011,[0,2,4,6]),(5,[3,4,5,6,7,9,10,48]),(6,[6,7]),(7,[3,4,5,6,7,11]),(8,[3,4,5,6,7,11,66]),(9,[6,7]),(10,[3,4,5,6,7,11,12]),(3020,[3,4,5,6,7,11,12]),(11,[3,4,5,6,7,11,12,75,76]),(12,[3,4,5,6,7,11,12,75,76,77]),(13,[3,4,5,6,7,11,12,13,75,76]),(14,[3,4,5,6,7,11,12,13,14,15,75,76]),(2014,[0,1,2,3,4,5,6,7,8,9,10,11]),(15,[3,4,5,6,7,11,12,13,14,75,76,90]),(16,[6,7]),(17,[3,4,5,6,7,11,12,75,76]),(2017,[0,1,2,3,4,5,6,7,8]),(18,[3,4,5,6,7,11,12,75,76]),(1012,[3,4,5,6,7,11,12,75,76]),(19,[6,7])] (by kernel_rfl) (by kernel_rfl) h
def F58 (t0 t1 t2:AV) (s:AHeap) (k kp:KP):Prop :=
stepK (aBox t0 s) fun t3 s =>
stepK (aBox t1 s) fun t4 s =>
stepK (aBox t2 s) fun t5 s =>
aC zDocDec_3 s fun t6 s =>
stepK (aBuildSlice 0 4 zDocDec_4 [] s) fun t12 s =>
seqW (fun fr s=>(
lT 11 (lq fr 3) s fun t40 s =>
sT 11 (lq fr 6) t40 s fun s =>
stepV (aLoad true 11 (lq fr 6) s) fun r0 =>
k (.tup [r0,(lq fr 8)]) s
)) (fun j1=>(
fA 18 t4 s fun t13 s =>
lF t13 s fun t14 s =>
stepK (pureR s (aLenK .slice t14 s)) fun t15 s =>
loopW (fun fr s again=>(
bP .lss (lq fr 16) (lq fr 15) s fun t17 s =>
condK t17 (
seqW (fun fr s=>(
lT 11 (lq fr 10) s fun t30 s =>
sT 11 (lq fr 3) t30 s fun s =>
lT 11 (lq fr 3) s fun t31 s =>
Ev Tryz.prog 55 [t31] s (fun t32 s =>
condK t32 (
lT 11 (lq fr 3) s fun t33 s =>
sT 11 (lq fr 6) t33 s fun s =>
stepV (aLoad true 11 (lq fr 6) s) fun r0 =>
k (.tup [r0,(lq fr 8)]) s
) (
lT 4 (lq fr 11) s fun t36 s =>
stepK (aBuildSlice 1 4 zDocDec_4 [(0,t36)] s) fun t37 s =>
stepK (aAppend 4 32 (lq fr 8) t37 s) fun t38 s =>
bP .add (lq fr 16) (.val (.int .i64 1)) s fun t39 s =>
again [(3,(lq fr 3)),(4,(lq fr 4)),(5,(lq fr 5)),(6,(lq fr 6)),(8,t38),(15,(lq fr 15)),(16,t39)] s
)
) kp)) (fun j2=>(
(
lT 11 (lq fr 3) s fun t20 s =>
fA 18 (lq fr 4) s fun t21 s =>
lF t21 s fun t22 s =>
iA 19 t22 (lq fr 16) s fun t24 s =>
lT 19 t24 s fun t25 s =>
lT 2 (lq fr 5) s fun t26 s =>
Ev Tryz.prog 31 [t20,t25,t26] s (fun t27 s =>
eX 0 t27 s fun t28 s =>
eX 1 t27 s fun t29 s =>
aC zDocDec_3 s fun t10 s =>
rg s (aLoad true 11 (lq fr 3) s) t20 (
rg s (aLoad false 1 t21 s) t22 (
rg s (aIndexAddr 19 t22 (lq fr 16) s) t24 (
rg s (aLoad true 19 t24 s) t25 (
rg s (aLoad true 2 (lq fr 5) s) t26 (
aC zDocDec_4 s fun t11 s =>
rg s (aLoad true 11 (lq fr 3) s) t20 (
rg s (aLoad false 1 t21 s) t22 (
rg s (aIndexAddr 19 t22 (lq fr 16) s) t24 (
rg s (aLoad true 19 t24 s) t25 (
rg s (aLoad true 2 (lq fr 5) s) t26 (
sT 11 t10 t28 s fun s =>
sT 4 t11 t29 s fun s =>
j2 [(3,(lq fr 3)),(4,(lq fr 4)),(5,(lq fr 5)),(6,(lq fr 6)),(8,(lq fr 8)),(10,t10),(11,t11),(15,(lq fr 15)),(16,(lq fr 16))] s
))))))))))) kp)∧(
(
lT 11 (lq fr 3) s fun t20 s =>
fA 18 (lq fr 4) s fun t21 s =>
lF t21 s fun t22 s =>
iA 19 t22 (lq fr 16) s fun t24 s =>
lT 19 t24 s fun t25 s =>
lT 2 (lq fr 5) s fun t26 s =>
Ev Tryz.prog 31 [t20,t25,t26] s (fun t27 s =>
eX 0 t27 s fun t28 s =>
eX 1 t27 s fun t29 s =>
aC zDocDec_4 s fun t11 s =>
rg s (aLoad true 11 (lq fr 3) s) t20 (
rg s (aLoad false 1 t21 s) t22 (
rg s (aIndexAddr 19 t22 (lq fr 16) s) t24 (
rg s (aLoad true 19 t24 s) t25 (
rg s (aLoad true 2 (lq fr 5) s) t26 (
aC zDocDec_3 s fun t10 s =>
rg s (aLoad true 11 (lq fr 3) s) t20 (
rg s (aLoad false 1 t21 s) t22 (
rg s (aIndexAddr 19 t22 (lq fr 16) s) t24 (
rg s (aLoad true 19 t24 s) t25 (
rg s (aLoad true 2 (lq fr 5) s) t26 (
sT 11 t10 t28 s fun s =>
sT 4 t11 t29 s fun s =>
j2 [(3,(lq fr 3)),(4,(lq fr 4)),(5,(lq fr 5)),(6,(lq fr 6)),(8,(lq fr 8)),(10,t10),(11,t11),(15,(lq fr 15)),(16,(lq fr 16))] s
))))))))))) kp)∧(
(
lT 11 (lq fr 3) s fun t20 s =>
fA 18 (lq fr 4) s fun t21 s =>
lF t21 s fun t22 s =>
iA 19 t22 (lq fr 16) s fun t24 s =>
lT 19 t24 s fun t25 s =>
lT 2 (lq fr 5) s fun t26 s =>
aC zDocDec_3 s fun t10 s =>
rg s (aLoad true 11 (lq fr 3) s) t20 (
rg s (aLoad false 1 t21 s) t22 (
rg s (aIndexAddr 19 t22 (lq fr 16) s) t24 (
rg s (aLoad true 19 t24 s) t25 (
rg s (aLoad true 2 (lq fr 5) s) t26 (
Ev Tryz.prog 31 [t20,t25,t26] s (fun t27 s =>
eX 0 t27 s fun t28 s =>
eX 1 t27 s fun t29 s =>
aC zDocDec_4 s fun t11 s =>
rg s (aLoad true 11 (lq fr 3) s) t20 (
rg s (aLoad false 1 t21 s) t22 (
rg s (aIndexAddr 19 t22 (lq fr 16) s) t24 (
rg s (aLoad true 19 t24 s) t25 (
rg s (aLoad true 2 (lq fr 5) s) t26 (
sT 11 t10 t28 s fun s =>
sT 4 t11 t29 s fun s =>
j2 [(3,(lq fr 3)),(4,(lq fr 4)),(5,(lq fr 5)),(6,(lq fr 6)),(8,(lq fr 8)),(10,t10),(11,t11),(15,(lq fr 15)),(16,(lq fr 16))] s
)))))) kp))))))∧(
(
lT 11 (lq fr 3) s fun t20 s =>
fA 18 (lq fr 4) s fun t21 s =>
lF t21 s fun t22 s =>
iA 19 t22 (lq fr 16) s fun t24 s =>
lT 19 t24 s fun t25 s =>
lT 2 (lq fr 5) s fun t26 s =>
aC zDocDec_3 s fun t10 s =>
rg s (aLoad true 11 (lq fr 3) s) t20 (
rg s (aLoad false 1 t21 s) t22 (
rg s (aIndexAddr 19 t22 (lq fr 16) s) t24 (
rg s (aLoad true 19 t24 s) t25 (
rg s (aLoad true 2 (lq fr 5) s) t26 (
aC zDocDec_4 s fun t11 s =>
rg s (aLoad true 11 (lq fr 3) s) t20 (
rg s (aLoad false 1 t21 s) t22 (
rg s (aIndexAddr 19 t22 (lq fr 16) s) t24 (
rg s (aLoad true 19 t24 s) t25 (
rg s (aLoad true 2 (lq fr 5) s) t26 (
Ev Tryz.prog 31 [t20,t25,t26] s (fun t27 s =>
eX 0 t27 s fun t28 s =>
eX 1 t27 s fun t29 s =>
sT 11 t10 t28 s fun s =>
sT 4 t11 t29 s fun s =>
j2 [(3,(lq fr 3)),(4,(lq fr 4)),(5,(lq fr 5)),(6,(lq fr 6)),(8,(lq fr 8)),(10,t10),(11,t11),(15,(lq fr 15)),(16,(lq fr 16))] s
) kp)))))))))))∧(
(
lT 11 (lq fr 3) s fun t20 s =>
fA 18 (lq fr 4) s fun t21 s =>
lF t21 s fun t22 s =>
iA 19 t22 (lq fr 16) s fun t24 s =>
lT 19 t24 s fun t25 s =>
lT 2 (lq fr 5) s fun t26 s =>
aC zDocDec_4 s fun t11 s =>
rg s (aLoad true 11 (lq fr 3) s) t20 (
rg s (aLoad false 1 t21 s) t22 (
rg s (aIndexAddr 19 t22 (lq fr 16) s) t24 (
rg s (aLoad true 19 t24 s) t25 (
rg s (aLoad true 2 (lq fr 5) s) t26 (
Ev Tryz.prog 31 [t20,t25,t26] s (fun t27 s =>
eX 0 t27 s fun t28 s =>
eX 1 t27 s fun t29 s =>
aC zDocDec_3 s fun t10 s =>
rg s (aLoad true 11 (lq fr 3) s) t20 (
rg s (aLoad false 1 t21 s) t22 (
rg s (aIndexAddr 19 t22 (lq fr 16) s) t24 (
rg s (aLoad true 19 t24 s) t25 (
rg s (aLoad true 2 (lq fr 5) s) t26 (
sT 11 t10 t28 s fun s =>
sT 4 t11 t29 s fun s =>
j2 [(3,(lq fr 3)),(4,(lq fr 4)),(5,(lq fr 5)),(6,(lq fr 6)),(8,(lq fr 8)),(10,t10),(11,t11),(15,(lq fr 15)),(16,(lq fr 16))] s
)))))) kp))))))∧(
lT 11 (lq fr 3) s fun t20 s =>
fA 18 (lq fr 4) s fun t21 s =>
lF t21 s fun t22 s =>
iA 19 t22 (lq fr 16) s fun t24 s =>
lT 19 t24 s fun t25 s =>
lT 2 (lq fr 5) s fun t26 s =>
aC zDocDec_4 s fun t11 s =>
rg s (aLoad true 11 (lq fr 3) s) t20 (
rg s (aLoad false 1 t21 s) t22 (
rg s (aIndexAddr 19 t22 (lq fr 16) s) t24 (
rg s (aLoad true 19 t24 s) t25 (
rg s (aLoad true 2 (lq fr 5) s) t26 (
aC zDocDec_3 s fun t10 s =>
rg s (aLoad true 11 (lq fr 3) s) t20 (
rg s (aLoad false 1 t21 s) t22 (
rg s (aIndexAddr 19 t22 (lq fr 16) s) t24 (
rg s (aLoad true 19 t24 s) t25 (
rg s (aLoad true 2 (lq fr 5) s) t26 (
Ev Tryz.prog 31 [t20,t25,t26] s (fun t27 s =>
eX 0 t27 s fun t28 s =>
eX 1 t27 s fun t29 s =>
sT 11 t10 t28 s fun s =>
sT 4 t11 t29 s fun s =>
j2 [(3,(lq fr 3)),(4,(lq fr 4)),(5,(lq fr 5)),(6,(lq fr 6)),(8,(lq fr 8)),(10,t10),(11,t11),(15,(lq fr 15)),(16,(lq fr 16))] s
) kp)))))))))))))))))
) (
j1 [(3,(lq fr 3)),(6,(lq fr 6)),(8,(lq fr 8))] s
)
)) [(3,t3),(4,t4),(5,t5),(6,t6),(8,t12),(15,t15),(16,(.val (.int .i64 0)))] s
))
theorem F58_ev {t0 t1 t2:AV} (h:F58 t0 t1 t2 s k kp):Ev Tryz.prog 58 [t0,t1,t2] s k kp:=evA mixedD Tryz.func58 [(0,[3,4,5,6]),(1,[3,4,5,6,8]),(3012,[3,6,8]),(2,[3,4,5,6,8,15,16]),(3,[3,4,5,6,8,15,16,17]),(4,[3,4,5,6,8,9,15,16]),(3007,[3,4,5,6,8,10,11,15,16]),(5,[3,4,5,6,8,10,11,15,16]),(2005,[0,1,2,3,4,5,6,7,8,9,10,11,12,13,14]),(105011,[0,2,4,5,6]),(105012,[0,2,4,5,6]),(60005,[1,2,3,4,5]),(19000005,[0,1,2,3,4,5,6,7,8,9,10,12,11,13,14]),(10005011,[0,2,4,5,6]),(10005012,[0,2,4,5,6]),(29000005,[0,1,2,3,4,5,6,11,7,8,9,10,12,13,14]),(20005011,[0,2,4,5,6]),(20005012,[0,2,4,5,6]),(39000005,[0,1,2,3,4,5,6,11,12,7,8,9,10,13,14]),(30005011,[0,2,4,5,6]),(30005012,[0,2,4,5,6]),(49000005,[0,1,2,3,4,5,6,12,7,8,9,10,11,13,14]),(40005011,[0,2,4,5,6]),(40005012,[0,2,4,5,6]),(59000005,[0,1,2,3,4,5,6,12,11,7,8,9,10,13,14]),(50005011,[0,2,4,5,6]),(50005012,[0,2,4,5,6]),(6,[3,4,5,6,8,11,15,16]),(7,[3,4,5,6,8,11,15,16,32]),(8,[6,7]),(9,[3,4,5,6,8,15,16]),(10,[3,4,5,6,8,15,16]),(1003,[3,4,5,6,8,15,16]),(11,[6,7])] (by kernel_rfl) (by kernel_rfl) h
def F59 (t0 t1 t2 t3:AV) (s:AHeap) (k kp:KP):Prop :=
stepK (aBox t0 s) fun t4 s =>
stepK (aBox t1 s) fun t5 s =>
stepK (aBox t2 s) fun t6 s =>
aC zDocDec_3 s fun t8 s =>
aC zDocDec_4 s fun t9 s =>
seqW (fun fr s=>(
seqW (fun fr s=>(
bP .neq (lq fr 12) (.val (.int .u8 0)) s fun t119 s =>
condK t119 (
lT 11 (lq fr 4) s fun t120 s =>
Ev Tryz.prog 51 [t120,(lq fr 12)] s (fun t122 s =>
rv 11 4 (lq fr 8) (lq fr 9) t122 s k
) kp) (
fA 0 (lq fr 5) s fun t125 s =>
fA 0 t125 s fun t126 s =>
lF t126 s fun t127 s =>
seqW (fun fr s=>(
condK (lq fr 128) (
lT 11 (lq fr 4) s fun t131 s =>
fA 1 (lq fr 11) s fun t132 s =>
lT 4 t132 s fun t133 s =>
sT 11 (lq fr 8) t131 s fun s =>
rg s (aLoad true 4 t132 s) t133 (
sT 4 (lq fr 9) t133 s fun s =>
stepV (aLoad true 11 (lq fr 8) s) fun r0 =>
stepV (aLoad true 4 (lq fr 9) s) fun r1 =>
k (.tup [r0,r1]) s
)) (
bP .eql (lq fr 127) (.val (.int .u8 5)) s fun t135 s =>
condK t135 (
lT 11 (lq fr 4) s fun t136 s =>
fA 5 (lq fr 11) s fun t137 s =>
lT 4 t137 s fun t138 s =>
sT 11 (lq fr 8) t136 s fun s =>
rg s (aLoad true 4 t137 s) t138 (
sT 4 (lq fr 9) t138 s fun s =>
stepV (aLoad true 11 (lq fr 8) s) fun r0 =>
stepV (aLoad true 4 (lq fr 9) s) fun r1 =>
k (.tup [r0,r1]) s
)) (
bP .eql (lq fr 127) (.val (.int .u8 8)) s fun t140 s =>
condK t140 (
fA 0 (lq fr 4) s fun t142 s =>
lT 4 t142 s fun t143 s =>
iA 4 (lq fr 3) (.val (.int .i64 0)) s fun t145 s =>
lT 4 t145 s fun t146 s =>
iA 4 (lq fr 3) (.val (.int .i64 1)) s fun t148 s =>
lT 4 t148 s fun t149 s =>
stepK (pureR s (aBuild zDocDec_6 [(0,1,(.val (.int .u8 2))),(1,4,t149)])) fun t150 s =>
Ev Tryz.prog 102 [t143,t146,t150] s (fun t151 s =>
eX 0 t151 s fun t152 s =>
eX 1 t151 s fun t153 s =>
fA 0 (lq fr 4) s fun t154 s =>
sT 4 t154 t152 s fun s =>
lT 11 (lq fr 4) s fun t155 s =>
Ev Tryz.prog 52 [(.val (.int .i64 0))] s (fun t156 s =>
rg s (aLoad true 11 (lq fr 4) s) t155 (
rt 11 4 (lq fr 8) (lq fr 9) t155 t156 s k
)) kp) kp) (
fA 6 (lq fr 4) s fun t157 s =>
lF t157 s fun t158 s =>
fA 9 (lq fr 11) s fun t159 s =>
lF t159 s fun t160 s =>
iA 23 t158 t160 s fun t161 s =>
lT 23 t161 s fun t162 s =>
aC zDocDec_2 s fun t13 s =>
sT 23 t13 t162 s fun s =>
lT 11 (lq fr 4) s fun t163 s =>
fA 0 t13 s fun t164 s =>
lT 19 t164 s fun t165 s =>
fA 20 t13 s fun t166 s =>
lT 2 t166 s fun t167 s =>
fA 19 t13 s fun t168 s =>
lF t168 s fun t169 s =>
iA 4 (lq fr 3) (.val (.int .i64 1)) s fun t171 s =>
lT 4 t171 s fun t172 s =>
Ev Tryz.prog 56 [t167,t169,t172,(.val (.bool false))] s (fun t173 s =>
rg s (aLoad true 11 (lq fr 4) s) t163 (
rg s (aLoad true 19 t164 s) t165 (
Ev Tryz.prog 31 [t163,t165,t173] s (fun t174 s =>
rv 11 4 (lq fr 8) (lq fr 9) t174 s k
) kp))) kp)
)
)
)) (fun j3=>(
bP .eql t127 (.val (.int .u8 4)) s fun t129 s =>
condK t129 (
j3 [(3,(lq fr 3)),(4,(lq fr 4)),(8,(lq fr 8)),(9,(lq fr 9)),(11,(lq fr 11)),(127,t127),(128,t129)] s
) (
bP .eql t127 (.val (.int .u8 7)) s fun t130 s =>
j3 [(3,(lq fr 3)),(4,(lq fr 4)),(8,(lq fr 8)),(9,(lq fr 9)),(11,(lq fr 11)),(127,t127),(128,t130)] s
)
))
)
)) (fun j2=>(
(
lT 11 (lq fr 4) s fun t110 s =>
iA 4 (lq fr 3) (.val (.int .i64 0)) s fun t112 s =>
lT 4 t112 s fun t113 s =>
Ev Tryz.prog 99 [t110,t113,(lq fr 10)] s (fun t115 s =>
eX 0 t115 s fun t116 s =>
eX 1 t115 s fun t117 s =>
aC zDocDec_6 s fun t11 s =>
rg s (aLoad true 11 (lq fr 4) s) t110 (
rg s (aIndexAddr 4 (lq fr 3) (.val (.int .i64 0)) s) t112 (
rg s (aLoad true 4 t112 s) t113 (
sT 10 t11 t116 s fun s =>
j2 [(3,(lq fr 3)),(4,(lq fr 4)),(5,(lq fr 5)),(8,(lq fr 8)),(9,(lq fr 9)),(11,t11),(12,t117)] s
)))) kp)∧(
lT 11 (lq fr 4) s fun t110 s =>
iA 4 (lq fr 3) (.val (.int .i64 0)) s fun t112 s =>
lT 4 t112 s fun t113 s =>
aC zDocDec_6 s fun t11 s =>
rg s (aLoad true 11 (lq fr 4) s) t110 (
rg s (aIndexAddr 4 (lq fr 3) (.val (.int .i64 0)) s) t112 (
rg s (aLoad true 4 t112 s) t113 (
Ev Tryz.prog 99 [t110,t113,(lq fr 10)] s (fun t115 s =>
eX 0 t115 s fun t116 s =>
eX 1 t115 s fun t117 s =>
sT 10 t11 t116 s fun s =>
j2 [(3,(lq fr 3)),(4,(lq fr 4)),(5,(lq fr 5)),(8,(lq fr 8)),(9,(lq fr 9)),(11,t11),(12,t117)] s
) kp))))))
)) (fun j1=>(
fA 0 t5 s fun t14 s =>
fA 0 t14 s fun t15 s =>
lF t15 s fun t16 s =>
bP .eql t16 (.val (.int .u8 3)) s fun t18 s =>
condK t18 (
lT 11 t4 s fun t19 s =>
lT 2 t6 s fun t20 s =>
fA 7 t5 s fun t21 s =>
lF t21 s fun t22 s =>
iA 4 t3 (.val (.int .i64 0)) s fun t24 s =>
lT 4 t24 s fun t25 s =>
iA 4 t3 (.val (.int .i64 1)) s fun t27 s =>
lT 4 t27 s fun t28 s =>
stepK (pureR s (aBuild zDocDec_6 [(0,1,(.val (.int .u8 1))),(1,4,t25),(5,4,t28)])) fun t29 s =>
Ev Tryz.prog 98 [t19,t20,t22,t29] s (fun t30 s =>
rv 11 4 t8 t9 t30 s k
) kp) (
bP .eql t16 (.val (.int .u8 6)) s fun t34 s =>
condK t34 (
lT 11 t4 s fun t35 s =>
lT 2 t6 s fun t36 s =>
fA 7 t5 s fun t37 s =>
lF t37 s fun t38 s =>
iA 4 t3 (.val (.int .i64 0)) s fun t40 s =>
lT 4 t40 s fun t41 s =>
stepK (pureR s (aBuild zDocDec_6 [(0,1,(.val (.int .u8 2))),(1,4,t41)])) fun t42 s =>
Ev Tryz.prog 98 [t35,t36,t38,t42] s (fun t43 s =>
rv 11 4 t8 t9 t43 s k
) kp) (
seqW (fun fr s=>(
condK (lq fr 46) (
j1 [(3,(lq fr 3)),(4,(lq fr 4)),(5,(lq fr 5)),(8,(lq fr 8)),(9,(lq fr 9)),(10,(.val (.int .u8 1)))] s
) (
seqW (fun fr s=>(
condK (lq fr 49) (
j1 [(3,(lq fr 3)),(4,(lq fr 4)),(5,(lq fr 5)),(8,(lq fr 8)),(9,(lq fr 9)),(10,(.val (.int .u8 2)))] s
) (
bP .eql (lq fr 16) (.val (.int .u8 10)) s fun t53 s =>
condK t53 (
j1 [(3,(lq fr 3)),(4,(lq fr 4)),(5,(lq fr 5)),(8,(lq fr 8)),(9,(lq fr 9)),(10,(.val (.int .u8 3)))] s
) (
bP .eql (lq fr 16) (.val (.int .u8 9)) s fun t55 s =>
condK t55 (
iA 4 (lq fr 3) (.val (.int .i64 0)) s fun t57 s =>
fA 0 t57 s fun t58 s =>
lF t58 s fun t59 s =>
bP .neq t59 (.val (.int .u8 1)) s fun t60 s =>
gK t60 false (fun K=>K (lq fr 3) s) (fun t62 s =>
gR t60 false (aIndexAddr 4 t62 (.val (.int .i64 1)) s) (fun t63 s =>
gR t60 false (aFieldAddr 0 t63) (fun t64 s =>
gR t60 false (aLoad false 1 t64 s) (fun t65 s =>
gR t60 false (aBin .neq .prim t65 (.val (.int .u8 1))) (fun t66 s =>
pK t60 (.val (.bool true)) t66 s fun t67 s =>
condK t67 (
lT 11 (lq fr 4) s fun t68 s =>
Ev Tryz.prog 51 [t68,(.val (.int .u8 6))] s (fun t69 s =>
rv 11 4 (lq fr 8) (lq fr 9) t69 s k
) kp) (
lT 11 (lq fr 4) s fun t72 s =>
fA 0 (lq fr 5) s fun t73 s =>
fA 1 t73 s fun t74 s =>
lF t74 s fun t75 s =>
iA 4 (lq fr 3) (.val (.int .i64 0)) s fun t77 s =>
fA 1 t77 s fun t78 s =>
lF t78 s fun t79 s =>
iA 4 (lq fr 3) (.val (.int .i64 1)) s fun t81 s =>
fA 1 t81 s fun t82 s =>
lF t82 s fun t83 s =>
Ev Tryz.prog 101 [t75,t79,t83] s (fun t84 s =>
rg s (aLoad true 11 (lq fr 4) s) t72 (
Ev Tryz.prog 52 [t84] s (fun t85 s =>
rg s (aLoad true 11 (lq fr 4) s) t72 (
rt 11 4 (lq fr 8) (lq fr 9) t72 t85 s k
)) kp)) kp)
) s) s) s) s) s) (
bP .eql (lq fr 16) (.val (.int .u8 15)) s fun t87 s =>
condK t87 (
iA 4 (lq fr 3) (.val (.int .i64 0)) s fun t89 s =>
fA 0 t89 s fun t90 s =>
lF t90 s fun t91 s =>
bP .neq t91 (.val (.int .u8 1)) s fun t92 s =>
condK t92 (
lT 11 (lq fr 4) s fun t93 s =>
Ev Tryz.prog 51 [t93,(.val (.int .u8 6))] s (fun t94 s =>
rv 11 4 (lq fr 8) (lq fr 9) t94 s k
) kp) (
fA 8 (lq fr 4) s fun t97 s =>
sT 1 t97 (.val (.bool true)) s fun s =>
fA 0 (lq fr 5) s fun t98 s =>
fA 6 t98 s fun t99 s =>
lF t99 s fun t100 s =>
fA 9 (lq fr 4) s fun t101 s =>
sT 1 t101 t100 s fun s =>
iA 4 (lq fr 3) (.val (.int .i64 0)) s fun t103 s =>
fA 1 t103 s fun t104 s =>
lF t104 s fun t105 s =>
fA 10 (lq fr 4) s fun t106 s =>
sT 1 t106 t105 s fun s =>
lT 11 (lq fr 4) s fun t107 s =>
stepK (pureR s (aBuild zDocDec_4 [])) fun t108 s =>
rt 11 4 (lq fr 8) (lq fr 9) t107 t108 s k
)
) (
j1 [(3,(lq fr 3)),(4,(lq fr 4)),(5,(lq fr 5)),(8,(lq fr 8)),(9,(lq fr 9)),(10,(lq fr 10))] s
)
)
)
)
)) (fun j5=>(
bP .eql (lq fr 16) (.val (.int .u8 7)) s fun t50 s =>
condK t50 (
j5 [(3,(lq fr 3)),(4,(lq fr 4)),(5,(lq fr 5)),(8,(lq fr 8)),(9,(lq fr 9)),(10,(lq fr 10)),(16,(lq fr 16)),(49,t50)] s
) (
bP .eql (lq fr 16) (.val (.int .u8 8)) s fun t51 s =>
j5 [(3,(lq fr 3)),(4,(lq fr 4)),(5,(lq fr 5)),(8,(lq fr 8)),(9,(lq fr 9)),(10,(lq fr 10)),(16,(lq fr 16)),(49,t51)] s
)
))
)
)) (fun j4=>(
bP .eql t16 (.val (.int .u8 4)) s fun t47 s =>
condK t47 (
j4 [(3,t3),(4,t4),(5,t5),(8,t8),(9,t9),(10,(.val (.int .u8 0))),(16,t16),(46,t47)] s
) (
bP .eql t16 (.val (.int .u8 5)) s fun t48 s =>
j4 [(3,t3),(4,t4),(5,t5),(8,t8),(9,t9),(10,(.val (.int .u8 0))),(16,t16),(46,t48)] s
)
))
)
)
))
theorem F59_ev {t0 t1 t2 t3:AV} (h:F59 t0 t1 t2 t3 s k kp):Ev Tryz.prog 59 [t0,t1,t2,t3] s k kp:=evA mixedD Tryz.func59 [(0,[3,4,5,6,8,9]),(1,[3,4,5,6,8,9,10]),(3027,[3,4,5,8,9,10]),(2,[3,4,5,6,8,9,10,16]),(3,[3,4,5,6,8,9,10,16,17]),(4,[8,9]),(2004,[0,1,2,3,4,5,6,7,8,9,10,11,12,13,14,15]),(5,[3,4,5,6,8,9,10,16,33]),(6,[8,9]),(2006,[0,1,2,3,4,5,6,7,8,9,10,11,12]),(3010,[3,4,5,8,9,10,16,46]),(7,[3,4,5,8,9,10,16,46]),(8,[3,4,5,8,9,10,16,46]),(9,[3,4,5,8,9,10]),(3013,[3,4,5,8,9,10,16,49]),(10,[3,4,5,8,9,10,16,49]),(11,[3,4,5,8,9,10,16,49]),(12,[3,4,5,8,9,10]),(13,[3,4,5,8,9,10,16,52]),(14,[3,4,5,8,9,10]),(15,[3,4,5,8,9,10,16,54]),(16,[3,4,5,8,9,67]),(17,[8,9]),(18,[8,9]),(2018,[0,1,2,3,4,5,6,7,8,9,10,11,12,13,14,15]),(118012,[0]),(118013,[0]),(19,[3,4,5,8,9,10,86]),(20,[3,4,5,8,9,92]),(21,[8,9]),(22,[3,4,5,8,9]),(23,[3,4,8,9]),(24,[4,8,9]),(25,[8,9]),(3028,[3,4,5,8,9,11,12]),(26,[3,4,5,8,9,11,12]),(2026,[0,1,2,3,4,5,6,7,8,9,10,11]),(126009,[0,2,3]),(60026,[1]),(19000026,[0,1,2,3,4,9,5,6,7,8,10,11]),(10026009,[0,2,3]),(27,[3,4,5,8,9,11,12,119]),(28,[8,9]),(29,[3,4,8,9,11,127]),(3033,[3,4,8,9,11,127,128]),(30,[3,4,8,9,11,127,128]),(31,[3,4,8,9,11,127,128]),(32,[8,9]),(2032,[0,1,2,3,4]),(132003,[2]),(33,[3,4,8,9,11,127,134]),(34,[8,9]),(2034,[0,1,2,3,4]),(134003,[2]),(35,[3,4,8,9,11,139]),(36,[4,8,9]),(2036,[0,1,2,3,4,5,6,7,8,9,10,11,12,13,14]),(37,[8,9]),(2037,[0,1,2,3]),(137001,[0]),(38,[3,4,8,9,13]),(39,[8,9]),(2039,[0,1,2,3,4,5,6,7,8,9,10,11,12,13,14,15]),(139010,[0,2])] (by kernel_rfl) (by kernel_rfl) h
def F95 (t0:AV) (s:AHeap) (k kp:KP):Prop :=
stepK (aBox t0 s) fun t1 s =>
aC zDocDec_0 s fun t2 s =>
lT 4 t1 s fun t8 s =>
Ev Tryz.prog 32 [t8] s (fun t9 s =>
eX 0 t9 s fun t10 s =>
eX 1 t9 s fun t11 s =>
fA 0 t1 s fun t13 s =>
lF t13 s fun t14 s =>
bP .geq t10 t14 s fun t15 s =>
condK t15 (
lT 4 t1 s fun t16 s =>
sT 4 t2 t16 s fun s =>
stepV (aLoad true 4 t2 s) fun r0 =>
k (.tup [r0,(.val (.int .i64 0)),(.val (.bool false))]) s
) (
stepK (aBuildSlice 0 2 zDocDec_1 [] s) fun t17 s =>
fA 2 t1 s fun t18 s =>
lF t18 s fun t19 s =>
stepK (aAppend 2 32 t17 t19 s) fun t20 s =>
stepK (pureR s (aBuild zDocDec_1 [(0,1,(.val (.bool true)))])) fun t21 s =>
stepK (aBuildSlice 1 2 zDocDec_1 [(0,t21)] s) fun t22 s =>
stepK (aAppend 2 32 t20 t22 s) fun t23 s =>
fA 2 t1 s fun t24 s =>
sT 1 t24 t23 s fun s =>
lT 4 t1 s fun t25 s =>
fA 2 t1 s fun t26 s =>
lF t26 s fun t27 s =>
stepK (pureR s (aLenK .slice t27 s)) fun t28 s =>
bP .sub t28 (.val (.int .i64 1)) s fun t29 s =>
sT 4 t2 t25 s fun s =>
rg s (aLoad false 1 t26 s) t27 (
rg s (aLenK .slice t27 s) t28 (
stepV (aLoad true 4 t2 s) fun r0 =>
k (.tup [r0,t29,(.val (.bool true))]) s
)))) kp
theorem F95_ev {t0:AV} (h:F95 t0 s k kp):Ev Tryz.prog 95 [t0] s k kp:=evA mixedD Tryz.func95 [(0,[1,2]),(1,[1,2,5]),(2,[1,2,15]),(3,[2,3,4]),(4,[1,2]),(5,[2,3,4]),(2005,[0,1,2,3,4,5,6,7]),(105005,[2,3])] (by kernel_rfl) (by kernel_rfl) h
def F96 (t0 t1 t2:AV) (s:AHeap) (k kp:KP):Prop :=
stepK (aBox t0 s) fun t3 s =>
aC zDocDec_5 s fun t6 s =>
stepK (aBuildSlice 0 2 zDocDec_8 [] s) fun t7 s =>
fA 1 t3 s fun t8 s =>
lF t8 s fun t9 s =>
stepK (aAppend 2 16 t7 t9 s) fun t10 s =>
stepK (pureR s (aBuild zDocDec_8 [(0,1,t1),(1,1,t2)])) fun t13 s =>
stepK (aBuildSlice 1 2 zDocDec_8 [(0,t13)] s) fun t14 s =>
stepK (aAppend 2 16 t10 t14 s) fun t15 s =>
fA 1 t3 s fun t16 s =>
sT 1 t16 t15 s fun s =>
lT 2 t3 s fun t17 s =>
sT 2 t6 t17 s fun s =>
stepV (aLoad true 2 t6 s) fun r0 =>
k r0 s
theorem F96_ev {t0 t1 t2:AV} (h:F96 t0 t1 t2 s k kp):Ev Tryz.prog 96 [t0,t1,t2] s k kp:=evA mixedD Tryz.func96 [(0,[1,2,3,6]),(1,[3,6]),(2,[6])] (by kernel_rfl) (by kernel_rfl) h
def F97 (t0:AV) (s:AHeap) (k kp:KP):Prop :=
stepK (aBox t0 s) fun t1 s =>
aC zDocDec_0 s fun t2 s =>
lT 4 t1 s fun t8 s =>
Ev Tryz.prog 32 [t8] s (fun t9 s =>
eX 0 t9 s fun t10 s =>
eX 1 t9 s fun t11 s =>
bP .lss t10 (.val (.int .i64 2)) s fun t13 s =>
condK t13 (
lT 4 t1 s fun t14 s =>
sT 4 t2 t14 s fun s =>
stepV (aLoad true 4 t2 s) fun r0 =>
k (.tup [r0,(.val (.bool false))]) s
) (
fA 2 t1 s fun t15 s =>
lF t15 s fun t16 s =>
stepK (pureR s (aLenK .slice t16 s)) fun t17 s =>
bP .sub t17 (.val (.int .i64 1)) s fun t18 s =>
seqW (fun fr s=>(
lT 4 (lq fr 1) s fun t28 s =>
stepK (pureR s (aBuild zDocDec_1 [])) fun t30 s =>
Ev Tryz.prog 129 [t28,(lq fr 6),t30] s (fun t31 s =>
sT 4 (lq fr 2) t31 s fun s =>
stepV (aLoad true 4 (lq fr 2) s) fun r0 =>
k (.tup [r0,(.val (.bool true))]) s
) kp)) (fun j1=>(
loopW (fun fr s again=>(
fA 2 (lq fr 1) s fun t19 s =>
lF t19 s fun t20 s =>
iA 2 t20 (lq fr 6) s fun t22 s =>
fA 0 t22 s fun t23 s =>
lF t23 s fun t24 s =>
stepK (pureR s (aNot t24)) fun t25 s =>
condK t25 (
bP .sub (lq fr 6) (.val (.int .i64 1)) s fun t27 s =>
again [(1,(lq fr 1)),(2,(lq fr 2)),(6,t27)] s
) (
j1 [(1,(lq fr 1)),(2,(lq fr 2)),(6,(lq fr 6))] s
)
)) [(1,t1),(2,t2),(6,t18)] s
))
)) kp
theorem F97_ev {t0:AV} (h:F97 t0 s k kp):Ev Tryz.prog 97 [t0] s k kp:=evA mixedD Tryz.func97 [(0,[1,2]),(1,[1,2,4]),(2,[1,2,13]),(3,[2,3]),(4,[1,2,6]),(3008,[1,2,6]),(5,[1,2,6,25]),(6,[1,2,6]),(1005,[1,2,6]),(7,[2,3])] (by kernel_rfl) (by kernel_rfl) h
def F98 (t0 t1 t2 t3:AV) (s:AHeap) (k kp:KP):Prop :=
stepK (aBox t0 s) fun t4 s =>
stepK (aBox t1 s) fun t5 s =>
stepK (aBox t3 s) fun t7 s =>
aC zDocDec_3 s fun t8 s =>
aC zDocDec_4 s fun t9 s =>
lT 2 t5 s fun t16 s =>
Ev Tryz.prog 100 [t16,t2] s (fun t18 s =>
eX 0 t18 s fun t19 s =>
eX 1 t18 s fun t20 s =>
stepK (pureR s (aNot t20)) fun t22 s =>
gR t22 false (aFieldAddr 0 t4) (fun t24 s =>
gR t22 false (aLoad true 4 t24 s) (fun t25 s =>
gK t22 false (fun K=>K t19 s) (fun t26 s =>
gK t22 false (fun K=>Ev Tryz.prog 130 [t25,t26] s K kp) (fun t27 s =>
gR t22 false (aNot t27) (fun t28 s =>
pK t22 (.val (.bool true)) t28 s fun t29 s =>
condK t29 (
lT 11 t4 s fun t30 s =>
Ev Tryz.prog 51 [t30,(.val (.int .u8 5))] s (fun t31 s =>
rv 11 4 t8 t9 t31 s k
) kp) (
fA 0 t4 s fun t35 s =>
lT 4 t35 s fun t36 s =>
lT 10 t7 s fun t38 s =>
Ev Tryz.prog 131 [t36,t19,t38] s (fun t39 s =>
eX 0 t39 s fun t40 s =>
eX 1 t39 s fun t41 s =>
eX 2 t39 s fun t42 s =>
aC zDocDec_0 s fun t12 s =>
aC zDocDec_4 s fun t13 s =>
sT 4 t12 t40 s fun s =>
sT 4 t13 t41 s fun s =>
bP .neq t42 (.val (.int .i64 0)) s fun t44 s =>
condK t44 (
lT 11 t4 s fun t45 s =>
Ev Tryz.prog 51 [t45,(.val (.int .u8 4))] s (fun t46 s =>
rv 11 4 t8 t9 t46 s k
) kp) (
lT 4 t12 s fun t49 s =>
fA 0 t4 s fun t50 s =>
sT 4 t50 t49 s fun s =>
lT 11 t4 s fun t51 s =>
lT 4 t13 s fun t52 s =>
sT 11 t8 t51 s fun s =>
rg s (aLoad true 4 t13 s) t52 (
sT 4 t9 t52 s fun s =>
stepV (aLoad true 11 t8 s) fun r0 =>
stepV (aLoad true 4 t9 s) fun r1 =>
k (.tup [r0,r1]) s
))
) kp)) s) s) s) s) s) kp
theorem F98_ev {t0 t1 t2 t3:AV} (h:F98 t0 t1 t2 t3 s k kp):Ev Tryz.prog 98 [t0,t1,t2,t3] s k kp:=evA mixedD Tryz.func98 [(0,[2,4,5,7,8,9]),(1,[4,7,8,9,10,11]),(2,[4,7,8,9,10,29]),(3,[8,9]),(4,[4,8,9,12,13,14]),(5,[4,8,9,12,13,44]),(6,[8,9]),(7,[4,8,9,13]),(8,[8,9]),(2008,[0,1,2,3]),(108002,[1])] (by kernel_rfl) (by kernel_rfl) h
def F99 (t0 t1 t2:AV) (s:AHeap) (k kp:KP):Prop :=
stepK (aBox t0 s) fun t3 s =>
stepK (aBox t1 s) fun t4 s =>
aC zDocDec_6 s fun t6 s =>
fA 0 t4 s fun t10 s =>
lF t10 s fun t11 s =>
bP .neq t11 (.val (.int .u8 2)) s fun t12 s =>
condK t12 (
stepK (pureR s (aBuild zDocDec_6 [])) fun t13 s =>
sT 10 t6 t13 s fun s =>
stepV (aLoad true 10 t6 s) fun r0 =>
k (.tup [r0,(.val (.int .u8 6))]) s
) (
fA 0 t3 s fun t15 s =>
lT 4 t15 s fun t16 s =>
lT 4 t4 s fun t17 s =>
Ev Tryz.prog 132 [t16,t17] s (fun t18 s =>
eX 0 t18 s fun t19 s =>
eX 1 t18 s fun t20 s =>
aC zDocDec_6 s fun t8 s =>
sT 10 t8 t19 s fun s =>
bP .eql t20 (.val (.int .i64 6)) s fun t22 s =>
condK t22 (
lT 10 t8 s fun t23 s =>
sT 10 t6 t23 s fun s =>
stepV (aLoad true 10 t6 s) fun r0 =>
k (.tup [r0,(.val (.int .u8 5))]) s
) (
bP .neq t20 (.val (.int .i64 0)) s fun t25 s =>
gR t25 false (aFieldAddr 0 t8) (fun t27 s =>
gR t25 false (aLoad false 1 t27 s) (fun t28 s =>
gK t25 false (fun K=>K t2 s) (fun t29 s =>
gR t25 false (aBin .neq .prim t28 t29) (fun t30 s =>
pK t25 (.val (.bool true)) t30 s fun t31 s =>
condK t31 (
lT 10 t8 s fun t32 s =>
sT 10 t6 t32 s fun s =>
stepV (aLoad true 10 t6 s) fun r0 =>
k (.tup [r0,(.val (.int .u8 6))]) s
) (
lT 10 t8 s fun t33 s =>
sT 10 t6 t33 s fun s =>
stepV (aLoad true 10 t6 s) fun r0 =>
k (.tup [r0,(.val (.int .u8 0))]) s
)
) s) s) s) s)
) kp)
theorem F99_ev {t0 t1 t2:AV} (h:F99 t0 t1 t2 s k kp):Ev Tryz.prog 99 [t0,t1,t2] s k kp:=evA mixedD Tryz.func99 [(0,[2,3,4,6]),(1,[2,3,4,6,12]),(2,[6,7]),(3,[2,6,8,9]),(4,[2,6,8,9,22]),(5,[6,7]),(6,[6,8,31]),(7,[6,7]),(8,[6,7])] (by kernel_rfl) (by kernel_rfl) h
def F100 (t0 t1:AV) (s:AHeap) (k kp:KP):Prop :=
stepK (aBox t0 s) fun t2 s =>
seqW (fun fr s=>(
bP .eql (lq fr 1) (.val (.int .i64 0)) s fun t30 s =>
k (.tup [(.val (.int .i64 0)),t30]) s
)) (fun j1=>(
fA 1 t2 s fun t7 s =>
lF t7 s fun t8 s =>
stepK (pureR s (aLenK .slice t8 s)) fun t9 s =>
bP .sub t9 (.val (.int .i64 1)) s fun t10 s =>
loopW (fun fr s again=>(
bP .geq (lq fr 6) (.val (.int .i64 0)) s fun t12 s =>
condK t12 (
fA 1 (lq fr 2) s fun t15 s =>
lF t15 s fun t16 s =>
iA 2 t16 (lq fr 6) s fun t18 s =>
fA 0 t18 s fun t19 s =>
lF t19 s fun t20 s =>
bP .eql t20 (lq fr 1) s fun t22 s =>
condK t22 (
fA 1 (lq fr 2) s fun t23 s =>
lF t23 s fun t24 s =>
iA 2 t24 (lq fr 6) s fun t26 s =>
fA 1 t26 s fun t27 s =>
lF t27 s fun t28 s =>
k (.tup [t28,(.val (.bool true))]) s
) (
bP .sub (lq fr 6) (.val (.int .i64 1)) s fun t14 s =>
again [(1,(lq fr 1)),(2,(lq fr 2)),(6,t14)] s
)
) (
j1 [(1,(lq fr 1))] s
)
)) [(1,t1),(2,t2),(6,t10)] s
))
theorem F100_ev {t0 t1:AV} (h:F100 t0 t1 s k kp):Ev Tryz.prog 100 [t0,t1] s k kp:=evA mixedD Tryz.func100 [(0,[1,2]),(3007,[1]),(1,[1,2,6]),(2,[1,2,6,12]),(4,[1,2,6,22]),(5,[4,5]),(3,[1,2,6]),(1002,[1,2,6]),(6,[4,5])] (by kernel_rfl) (by kernel_rfl) h
def F101 (t0 t1 t2:AV) (s:AHeap) (k kp:KP):Prop :=
bP .eql t0 (.val (.int .u8 1)) s fun t8 s =>
condK t8 (
bP .add t1 t2 s fun t11 s =>
k t11 s
) (
bP .eql t0 (.val (.int .u8 2)) s fun t13 s =>
condK t13 (
bP .sub t1 t2 s fun t16 s =>
k t16 s
) (
bP .eql t0 (.val (.int .u8 3)) s fun t18 s =>
condK t18 (
bP .mul t1 t2 s fun t21 s =>
k t21 s
) (
bP .eql t0 (.val (.int .u8 4)) s fun t23 s =>
gK t23 true (fun K=>K t1 s) (fun t25 s =>
gK t23 true (fun K=>K t2 s) (fun t26 s =>
gR t23 true (aBin .lss .prim t25 t26) (fun t27 s =>
pK t23 t27 (.val (.bool false)) s fun t28 s =>
gK t28 false (fun K=>K t0 s) (fun t30 s =>
gR t28 false (aBin .eql .prim t30 (.val (.int .u8 5))) (fun t31 s =>
gK t28 false (fun K=>K t31 s) (fun t32 s =>
gK t32 true (fun K=>K t1 s) (fun t33 s =>
gK t32 true (fun K=>K t2 s) (fun t34 s =>
gR t32 true (aBin .eql .prim t33 t34) (fun t35 s =>
gR t28 false (aPick t32 t35 (.val (.bool false))) (fun t36 s =>
pK t28 (.val (.bool true)) t36 s fun t37 s =>
condK t37 (
k (.val (.int .i64 1)) s
) (
k (.val (.int .i64 0)) s
)
) s) s) s) s) s) s) s) s) s) s)
)
)
theorem F101_ev {t0 t1 t2:AV} (h:F101 t0 t1 t2 s k kp):Ev Tryz.prog 101 [t0,t1,t2] s k kp:=evA mixedD Tryz.func101 [(0,[0,1,2]),(1,[0,1,2,8]),(2,[6]),(3,[0,1,2,13]),(4,[6]),(5,[0,1,2,18]),(6,[6]),(7,[37]),(8,[6]),(9,[6])] (by kernel_rfl) (by kernel_rfl) h
def F102 (t0 t1 t2:AV) (s:AHeap) (k kp:KP):Prop :=
stepK (aBox t0 s) fun t3 s =>
stepK (aBox t1 s) fun t4 s =>
stepK (aBox t2 s) fun t5 s =>
aC zDocDec_0 s fun t6 s =>
lT 4 t3 s fun t10 s =>
lT 4 t4 s fun t11 s =>
Ev Tryz.prog 133 [t10,t11] s (fun t12 s =>
bP .neq t12 (.val (.int .i64 0)) s fun t14 s =>
condK t14 (
lT 4 t3 s fun t15 s =>
sT 4 t6 t15 s fun s =>
stepV (aLoad true 4 t6 s) fun r0 =>
k (.tup [r0,t12]) s
) (
stepK (aBuildSlice 0 10 zDocDec_6 [] s) fun t17 s =>
fA 2 t3 s fun t18 s =>
lF t18 s fun t19 s =>
fA 2 t4 s fun t20 s =>
lF t20 s fun t21 s =>
iA 2 t19 t21 s fun t22 s =>
fA 1 t22 s fun t23 s =>
lF t23 s fun t24 s =>
stepK (aAppend 10 80 t17 t24 s) fun t25 s =>
fA 3 t4 s fun t27 s =>
lF t27 s fun t28 s =>
lT 10 t5 s fun t29 s =>
iA 10 t25 t28 s fun t30 s =>
sT 10 t30 t29 s fun s =>
lT 4 t3 s fun t31 s =>
fA 2 t4 s fun t32 s =>
lF t32 s fun t33 s =>
stepK (pureR s (aBuild zDocDec_1 [(0,1,(.val (.bool true))),(1,1,t25)])) fun t35 s =>
Ev Tryz.prog 129 [t31,t33,t35] s (fun t36 s =>
sT 4 t6 t36 s fun s =>
stepV (aLoad true 4 t6 s) fun r0 =>
k (.tup [r0,(.val (.int .i64 0))]) s
) kp)) kp
theorem F102_ev {t0 t1 t2:AV} (h:F102 t0 t1 t2 s k kp):Ev Tryz.prog 102 [t0,t1,t2] s k kp:=evA mixedD Tryz.func102 [(0,[3,4,5,6]),(1,[3,4,5,6,8]),(2,[3,4,5,6,8,14]),(3,[6,7]),(4,[3,4,5,6,9]),(5,[3,4,6,9]),(6,[6,7])] (by kernel_rfl) (by kernel_rfl) h
def F129 (t0 t1 t2:AV) (s:AHeap) (k kp:KP):Prop :=
stepK (aBox t0 s) fun t3 s =>
stepK (aBox t2 s) fun t5 s =>
aC zDocDec_0 s fun t6 s =>
stepK (aBuildSlice 0 2 zDocDec_1 [] s) fun t8 s =>
fA 2 t3 s fun t9 s =>
lF t9 s fun t10 s =>
stepK (aAppend 2 32 t8 t10 s) fun t11 s =>
lT 2 t5 s fun t14 s =>
iA 2 t11 t1 s fun t15 s =>
sT 2 t15 t14 s fun s =>
fA 2 t3 s fun t17 s =>
sT 1 t17 t11 s fun s =>
lT 4 t3 s fun t18 s =>
sT 4 t6 t18 s fun s =>
stepV (aLoad true 4 t6 s) fun r0 =>
k r0 s
theorem F129_ev {t0 t1 t2:AV} (h:F129 t0 t1 t2 s k kp):Ev Tryz.prog 129 [t0,t1,t2] s k kp:=evA mixedD Tryz.func129 [(0,[1,3,5,6]),(1,[1,3,5,6,7]),(2,[3,6,7]),(3,[3,6]),(4,[6])] (by kernel_rfl) (by kernel_rfl) h
def F130 (t0 t1:AV) (s:AHeap) (k kp:KP):Prop :=
stepK (aBox t0 s) fun t2 s =>
bP .geq t1 (.val (.int .i64 0)) s fun t6 s =>
gK t6 true (fun K=>K t1 s) (fun t8 s =>
gR t6 true (aFieldAddr 2 t2) (fun t9 s =>
gR t6 true (aLoad false 1 t9 s) (fun t10 s =>
gR t6 true (aLenK .slice t10 s) (fun t11 s =>
gR t6 true (aBin .lss .prim t8 t11) (fun t12 s =>
pK t6 t12 (.val (.bool false)) s fun t13 s =>
gR t13 true (aFieldAddr 2 t2) (fun t15 s =>
gR t13 true (aLoad false 1 t15 s) (fun t16 s =>
gK t13 true (fun K=>K t1 s) (fun t17 s =>
gR t13 true (aIndexAddr 2 t16 t17 s) (fun t18 s =>
gR t13 true (aFieldAddr 0 t18) (fun t19 s =>
gR t13 true (aLoad false 1 t19 s) (fun t20 s =>
pK t13 t20 (.val (.bool false)) s fun t21 s =>
k t21 s) s) s) s) s) s) s) s) s) s) s) s
theorem F130_ev {t0 t1:AV} (h:F130 t0 t1 s k kp):Ev Tryz.prog 130 [t0,t1] s k kp:=evA mixedD Tryz.func130 [(0,[1,2]),(1,[4])] (by kernel_rfl) (by kernel_rfl) h
def F131 (t0 t1 t2:AV) (s:AHeap) (k kp:KP):Prop :=
stepK (aBox t0 s) fun t3 s =>
stepK (aBox t2 s) fun t5 s =>
aC zDocDec_0 s fun t6 s =>
aC zDocDec_4 s fun t7 s =>
lT 4 t3 s fun t12 s =>
Ev Tryz.prog 130 [t12,t1] s (fun t14 s =>
stepK (pureR s (aNot t14)) fun t15 s =>
condK t15 (
lT 4 t3 s fun t16 s =>
stepK (pureR s (aBuild zDocDec_4 [])) fun t17 s =>
sT 4 t6 t16 s fun s =>
sT 4 t7 t17 s fun s =>
stepV (aLoad true 4 t6 s) fun r0 =>
stepV (aLoad true 4 t7 s) fun r1 =>
k (.tup [r0,r1,(.val (.int .i64 6))]) s
) (
lT 4 t3 s fun t19 s =>
Ev Tryz.prog 32 [t19] s (fun t20 s =>
eX 0 t20 s fun t21 s =>
eX 1 t20 s fun t22 s =>
fA 1 t3 s fun t24 s =>
lF t24 s fun t25 s =>
bP .geq t22 t25 s fun t26 s =>
condK t26 (
lT 4 t3 s fun t27 s =>
stepK (pureR s (aBuild zDocDec_4 [])) fun t28 s =>
sT 4 t6 t27 s fun s =>
sT 4 t7 t28 s fun s =>
stepV (aLoad true 4 t6 s) fun r0 =>
stepV (aLoad true 4 t7 s) fun r1 =>
k (.tup [r0,r1,(.val (.int .i64 3))]) s
) (
stepK (pureR s (aBuildSl 0 10 zDocDec_6 [])) fun t29 s =>
fA 2 t3 s fun t30 s =>
lF t30 s fun t31 s =>
iA 2 t31 t1 s fun t33 s =>
fA 1 t33 s fun t34 s =>
lF t34 s fun t35 s =>
lT 10 t5 s fun t37 s =>
stepK (pureR s (aBuildSl 1 10 zDocDec_6 [(0,t37)])) fun t38 s =>
stepK (aAppend 10 80 t29 t35 s) fun t36 s =>
rg s (aLoad true 10 t5 s) t37 (
stepK (aAppend 10 80 t36 t38 s) fun t39 s =>
lT 4 t3 s fun t40 s =>
stepK (pureR s (aBuild zDocDec_1 [(0,1,(.val (.bool true))),(1,1,t39)])) fun t43 s =>
Ev Tryz.prog 129 [t40,t1,t43] s (fun t44 s =>
sT 4 t3 t44 s fun s =>
seqW (fun fr s=>(
lT 4 (lq fr 3) s fun t53 s =>
stepK (pureR s (aLenK .slice (lq fr 11) s)) fun t56 s =>
bP .sub t56 (.val (.int .i64 1)) s fun t57 s =>
stepK (pureR s (aBuild zDocDec_4 [(0,1,(.val (.int .u8 2))),(2,1,(lq fr 1)),(3,1,t57)])) fun t58 s =>
sT 4 (lq fr 6) t53 s fun s =>
sT 4 (lq fr 7) t58 s fun s =>
stepV (aLoad true 4 (lq fr 6) s) fun r0 =>
stepV (aLoad true 4 (lq fr 7) s) fun r1 =>
k (.tup [r0,r1,(.val (.int .i64 0))]) s
)) (fun j1=>(
bP .add t22 (.val (.int .i64 1)) s fun t46 s =>
fA 3 t3 s fun t47 s =>
lF t47 s fun t48 s =>
bP .gtr t46 t48 s fun t49 s =>
condK t49 (
bP .add t22 (.val (.int .i64 1)) s fun t51 s =>
fA 3 t3 s fun t52 s =>
sT 1 t52 t51 s fun s =>
j1 [(1,t1),(3,t3),(6,t6),(7,t7),(11,t39)] s
) (
j1 [(1,t1),(3,t3),(6,t6),(7,t7),(11,t39)] s
)
))
) kp))
) kp)) kp
theorem F131_ev {t0 t1 t2:AV} (h:F131 t0 t1 t2 s k kp):Ev Tryz.prog 131 [t0,t1,t2] s k kp:=evA mixedD Tryz.func131 [(0,[1,3,5,6,7]),(1,[1,3,5,6,7,15]),(2,[6,7,8]),(3,[1,3,5,6,7,10]),(4,[1,3,5,6,7,10,26]),(5,[6,7,8]),(6,[1,3,6,7,10,11]),(2006,[0,1,2,3,4,5,6,8,9,7,10,11]),(106007,[8]),(7,[1,3,6,7,10,11]),(3011,[1,3,6,7,11]),(8,[1,3,6,7,10,11,49]),(9,[1,3,6,7,11]),(10,[6,7,8])] (by kernel_rfl) (by kernel_rfl) h
def F132 (t0 t1:AV) (s:AHeap) (k kp:KP):Prop :=
stepK (aBox t0 s) fun t2 s =>
stepK (aBox t1 s) fun t3 s =>
aC zDocDec_6 s fun t4 s =>
lT 4 t2 s fun t7 s =>
lT 4 t3 s fun t8 s =>
Ev Tryz.prog 133 [t7,t8] s (fun t9 s =>
bP .neq t9 (.val (.int .i64 0)) s fun t11 s =>
condK t11 (
stepK (pureR s (aBuild zDocDec_6 [])) fun t12 s =>
sT 10 t4 t12 s fun s =>
stepV (aLoad true 10 t4 s) fun r0 =>
k (.tup [r0,t9]) s
) (
fA 2 t2 s fun t14 s =>
lF t14 s fun t15 s =>
fA 2 t3 s fun t16 s =>
lF t16 s fun t17 s =>
iA 2 t15 t17 s fun t18 s =>
fA 1 t18 s fun t19 s =>
lF t19 s fun t20 s =>
fA 3 t3 s fun t21 s =>
lF t21 s fun t22 s =>
iA 10 t20 t22 s fun t23 s =>
lT 10 t23 s fun t24 s =>
sT 10 t4 t24 s fun s =>
stepV (aLoad true 10 t4 s) fun r0 =>
k (.tup [r0,(.val (.int .i64 0))]) s
)) kp
theorem F132_ev {t0 t1:AV} (h:F132 t0 t1 s k kp):Ev Tryz.prog 132 [t0,t1] s k kp:=evA mixedD Tryz.func132 [(0,[2,3,4]),(1,[2,3,4,6]),(2,[2,3,4,6,11]),(3,[4,5]),(4,[4,5]),(2004,[0,1,2,3,4,5,6,7,8,9,10,11,12])] (by kernel_rfl) (by kernel_rfl) h
def F133 (t0 t1:AV) (s:AHeap) (k kp:KP):Prop :=
stepK (aBox t0 s) fun t2 s =>
stepK (aBox t1 s) fun t3 s =>
fA 0 t3 s fun t5 s =>
lF t5 s fun t6 s =>
bP .neq t6 (.val (.int .u8 2)) s fun t7 s =>
gR t7 false (aFieldAddr 1 t3) (fun t9 s =>
gR t7 false (aLoad false 1 t9 s) (fun t10 s =>
gR t7 false (aBin .neq .prim t10 (.val (.int .i64 0))) (fun t11 s =>
pK t7 (.val (.bool true)) t11 s fun t12 s =>
condK t12 (
k (.val (.int .i64 1)) s
) (
lT 4 t2 s fun t13 s =>
fA 2 t3 s fun t14 s =>
lF t14 s fun t15 s =>
Ev Tryz.prog 130 [t13,t15] s (fun t16 s =>
stepK (pureR s (aNot t16)) fun t17 s =>
condK t17 (
k (.val (.int .i64 6)) s
) (
fA 3 t3 s fun t18 s =>
lF t18 s fun t19 s =>
bP .lss t19 (.val (.int .i64 0)) s fun t20 s =>
gR t20 false (aFieldAddr 3 t3) (fun t22 s =>
gR t20 false (aLoad false 1 t22 s) (fun t23 s =>
gR t20 false (aFieldAddr 2 t2) (fun t24 s =>
gR t20 false (aLoad false 1 t24 s) (fun t25 s =>
gR t20 false (aFieldAddr 2 t3) (fun t26 s =>
gR t20 false (aLoad false 1 t26 s) (fun t27 s =>
gR t20 false (aIndexAddr 2 t25 t27 s) (fun t28 s =>
gR t20 false (aFieldAddr 1 t28) (fun t29 s =>
gR t20 false (aLoad false 1 t29 s) (fun t30 s =>
gR t20 false (aLenK .slice t30 s) (fun t31 s =>
gR t20 false (aBin .geq .prim t23 t31) (fun t32 s =>
pK t20 (.val (.bool true)) t32 s fun t33 s =>
condK t33 (
k (.val (.int .i64 1)) s
) (
k (.val (.int .i64 0)) s
)
) s) s) s) s) s) s) s) s) s) s) s)
) kp)) s) s) s
theorem F133_ev {t0 t1:AV} (h:F133 t0 t1 s k kp):Ev Tryz.prog 133 [t0,t1] s k kp:=evA mixedD Tryz.func133 [(0,[2,3]),(1,[2,3,12]),(2,[4]),(3,[2,3,17]),(4,[4]),(5,[33]),(2005,[0,1,2,3,4,5,6,7,8,9,10,11,12,13,14,15]),(6,[4]),(7,[4])] (by kernel_rfl) (by kernel_rfl) h
end Go.Proofs.DocD
