import Derived.Test.YtjilebpcaemopaaGreatDoorAbsR
import Derived.Test.YtjilebpcaemopaaGreatDoorProg
import Derived.KernelRfl
set_option maxRecDepth 100000
set_option linter.unusedVariables false
namespace Go.Proofs.MacD
open Go Go.Abs
def zMacDecR_0:List AV:=[.val (.int .u8 0),.val (.bool false),.val (.int .i64 0),.val (.string ByteArray.empty)]
@[simp ↓] theorem zMacDecR_0_eq:zMacDecR_0=[.val (.int .u8 0),.val (.bool false),.val (.int .i64 0),.val (.string ByteArray.empty)]:=nr0 rfl
def zMacDecR_1:List AV:=[.val (.pointer none),.val (.pointer none),.val (.pointer none),.val (.int .u8 0),.val (.int .i64 0),.val (.int .i64 0),.val (.int .i64 0),.val (.bool false),.val (.string ByteArray.empty)]
@[simp ↓] theorem zMacDecR_1_eq:zMacDecR_1=[.val (.pointer none),.val (.pointer none),.val (.pointer none),.val (.int .u8 0),.val (.int .i64 0),.val (.int .i64 0),.val (.int .i64 0),.val (.bool false),.val (.string ByteArray.empty)]:=nr0 rfl
def F42 (x y:AV) (s:AHeap) (K:AHeap→Prop) (kp:AV→AHeap→Prop):Prop :=
stepK (pureR s (aBin .eql .ifc y (.val Go.Value.nilIface))) fun t6 s =>
condK t6 (
  K s
) (
stepK (pureR s (aAssert (.agg [.val (.int .u8 0)]) 102 y)) fun t7 s =>
eX 1 t7 s fun t8 s =>
eX 0 t7 s fun t9 s =>
condK t8 (
aC [.val (.int .u8 0)] s fun t2 s =>
sT 1 t2 t9 s fun s =>
fA 0 t2 s fun t10 s =>
lF t10 s fun t11 s =>
stepK (pureR s (aBuild zMacDecR_0 [(0,1,t11)])) fun t12 s =>
sT 4 x t12 s fun s =>
  K s
) (
  panicK y s kp
)
)
def keep42:List (Nat × List Nat):=[(3,[0,4,6]),(4,[]),(5,[0,4,8,9]),(6,[0,2]),(7,[]),(1,[3]),(2,[])]
noncomputable def rest42:Code:=match (Tryz.f42).body with | some (.seq _ b)=>b | _=>.skip
theorem F42_eq (x y:AV) (s:AHeap) (K:AHeap→Prop):aw Tryz.prog (keepOf keep42) rest42 { n:=fun _ s=>K s,ex:=fun _ _ _=>False,ret:=fun _ s=>K s,pa:=fun _ _=>False } (put (frameOf 0 [x]) (some 4) y) s=F42 x y s K (fun _ _=>False):=by kernel_rfl
def F26 (t0 t1:AV) (s:AHeap) (R:AV→AHeap→Prop) (Pa:AV→AV→AHeap→Prop):Prop :=
(fun (kp:AV→AHeap→Prop) =>
aC zMacDecR_0 s fun t4 s =>
(fun (kp:AV→AHeap→Prop) =>
stepK (pureR s (aBuild zMacDecR_1 [(0,1,t1)])) fun t10 s =>
aC zMacDecR_1 s fun t5 s =>
sT 9 t5 t10 s fun s =>
loopW (fun fr s again=>(
fA 0 (lq fr 5) s fun t16 s =>
lF t16 s fun t17 s =>
stepK (pureR s (aBin .neq .ptr t17 (.val (.pointer Option.none)))) fun t18 s =>
condK t18 (
fA 0 (lq fr 5) s fun t20 s =>
lF t20 s fun t21 s =>
fA 1 (lq fr 5) s fun t22 s =>
lT 2 t22 s fun t23 s =>
Ev Tryz.prog 43 [(lq fr 0),t21,t23] s (fun t24 s =>
sT 9 (lq fr 5) t24 s fun s =>
again [(0,(lq fr 0)),(4,(lq fr 4)),(5,(lq fr 5))] s
) kp) (
fA 7 (lq fr 5) s fun t26 s =>
lF t26 s fun t27 s =>
condK t27 (
lT 9 (lq fr 5) s fun t30 s =>
Ev Tryz.prog 44 [(lq fr 0),t30] s (fun t31 s =>
eX 0 t31 s fun t32 s =>
eX 1 t31 s fun t33 s =>
aC zMacDecR_1 s fun t6 s =>
sT 9 t6 t32 s fun s =>
stepK (pureR s (aNot t33)) fun t35 s =>
condK t35 (
fA 8 (lq fr 5) s fun t36 s =>
lF t36 s fun t37 s =>
fA 3 (lq fr 5) s fun t38 s =>
fA 1 t38 s fun t39 s =>
lF t39 s fun t40 s =>
Ev Tryz.prog 45 [t37,t40] s (fun t41 s =>
sT 4 (lq fr 4) t41 s fun s =>
  R t4 s
) kp) (
lT 9 t6 s fun t42 s =>
sT 9 (lq fr 5) t42 s fun s =>
again [(0,(lq fr 0)),(4,(lq fr 4)),(5,(lq fr 5))] s
)
) kp) (
stepK (pureR s (aNilCheck (lq fr 0))) fun t45 s =>
fA 4 t45 s fun t46 s =>
lF t46 s fun t47 s =>
stepK (pureR s (aLenK .slice t47 s)) fun t48 s =>
bP .eql t48 (.val (.int .i64 0)) s fun t49 s =>
gR t49 true (aFieldAddr 3 (lq fr 5)) (fun t51 s =>
gR t49 true (aFieldAddr 0 t51) (fun t52 s =>
gR t49 true (aLoad false 1 t52 s) (fun t53 s =>
gR t49 true (aBin .eql .prim t53 (.val (.int .u8 1))) (fun t54 s =>
pK t49 t54 (.val (.bool false)) s fun t55 s =>
condK t55 (
fA 3 (lq fr 5) s fun t56 s =>
fA 1 t56 s fun t57 s =>
lF t57 s fun t58 s =>
Ev Tryz.prog 46 [t58] s (fun t59 s =>
sT 4 (lq fr 4) t59 s fun s =>
  R t4 s
) kp) (
stepK (pureR s (aNilCheck (lq fr 0))) fun t62 s =>
fA 4 t62 s fun t63 s =>
lF t63 s fun t64 s =>
stepK (pureR s (aLenK .slice t64 s)) fun t65 s =>
bP .eql t65 (.val (.int .i64 0)) s fun t66 s =>
condK t66 (
Ev Tryz.prog 47 [] s (fun t67 s =>
sT 4 (lq fr 4) t67 s fun s =>
  R t4 s
) kp) (
fA 3 (lq fr 5) s fun t12 s =>
lT 4 t12 s fun t13 s =>
Ev Tryz.prog 48 [(lq fr 0),t13] s (fun t14 s =>
sT 9 (lq fr 5) t14 s fun s =>
again [(0,(lq fr 0)),(4,(lq fr 4)),(5,(lq fr 5))] s
) kp)
)
) s) s) s) s)
)
)) [(0,t0),(4,t4),(5,t5)] s
) (Pa t4)) (fun _ _=>False)
def keep26:List (Nat × List Nat):=[(2,[0,4,5]),(4,[0,4,5,15]),(5,[0,4,5]),(6,[0,4,5,25]),(7,[0,4,5,6,7]),(8,[0,4,5,6,35]),(9,[]),(10,[0,4,5]),(11,[0,4,5,43]),(12,[]),(13,[0,4,5,60]),(14,[]),(3,[0,4,5]),(1004,[0,4,5]),(777777,[4])]
def keepH26:List (Nat × List Nat):=[(0,[0,1,4])]
noncomputable def head26:Code:=match (Tryz.f26).body with | some (.seq a (.seq _ _))=>a | _=>.skip
noncomputable def rest26:Code:=match (Tryz.f26).body with | some (.seq _ (.seq _ b))=>b | _=>.skip
theorem F26_eq (t0 t1:AV) (s:AHeap) (R:AV→AHeap→Prop) (Pa:AV→AV→AHeap→Prop):aw Tryz.prog (keepOf keepH26) head26 { n:=fun fr s=>aw Tryz.prog (keepOf keep26) rest26 { n:=fun _ _=>False,ex:=fun _ _ _=>False,ret:=fun _ s=>R (lq fr 4) s,pa:=fun y s=>Pa (lq fr 4) y s } (put fr (some 8) .any) s,ex:=fun _ _ _=>False,ret:=fun _ _=>False,pa:=fun _ _=>False } (frameOf 0 [t0,t1]) s=F26 t0 t1 s R Pa:=by kernel_rfl
noncomputable def cd26:Code:=match (Tryz.f26).body with | some (.seq _ (.seq b _))=>b | _=>.skip
noncomputable def cr42:Code:=match (Tryz.f42).body with | some (.seq b _)=>b | _=>.skip
theorem mixedR:Tryz.prog.follows .mixedOrders=true:=by kernel_rfl
theorem F26_ev {t0 t1:AV} {s:AHeap} {k kp:AV→AHeap→Prop} (h:F26 t0 t1 s (fun x s=>F42 x (.val .nilIface) s (fun s=>∃ z,aLoad true 4 x s=some z∧k z s) (fun _ _=>False)) (fun x y s=>F42 x y s (fun s=>∃ z,aLoad true 4 x s=some z∧k z s) (fun _ _=>False))):Ev Tryz.prog 26 [t0,t1] s k kp:=by
  have e:∀ x y s,closeK Tryz.prog (keepOf keep42) rest42 4 true 4 k x y s=F42 x y s (fun s=>∃ z,aLoad true 4 x s=some z∧k z s) (fun _ _=>False):=fun x y s=>F42_eq x y s _
  refine Ev_of_awR2 mixedR (g:=42) Tryz.func42 (show (Tryz.f42).body=some (.seq cr42 rest42) by kernel_rfl) (r:=4) (by kernel_rfl) (by kernel_rfl) (of_decide_eq_true (by kernel_rfl)) (of_decide_eq_true (by kernel_rfl)) (keepOf keep42) (by kernel_rfl) Tryz.func26 (by kernel_rfl) (by kernel_rfl) (show (Tryz.f26).body=some (.seq head26 (.seq cd26 rest26)) by kernel_rfl) (d:=8) (e:=4) (te:=37) (by kernel_rfl) (by kernel_rfl) (gg:=true) (n:=4) (by kernel_rfl) (of_decide_eq_true (by kernel_rfl)) (by decide) (of_decide_eq_true (by kernel_rfl)) (keepOf keep26) (keepOf keepH26) (by kernel_rfl) (by kernel_rfl) (of_decide_eq_true (by kernel_rfl)) ?_
  refine (F26_eq t0 t1 s (fun x s=>closeK Tryz.prog (keepOf keep42) rest42 4 true 4 k x (.val .nilIface) s) (fun x y s=>closeK Tryz.prog (keepOf keep42) rest42 4 true 4 k x y s)).mpr ?_
  simp only [e]
  exact h
end Go.Proofs.MacD
