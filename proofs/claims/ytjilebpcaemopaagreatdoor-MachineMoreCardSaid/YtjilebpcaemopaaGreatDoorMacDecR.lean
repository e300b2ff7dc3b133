import Derived.Test.YtjilebpcaemopaaGreatDoorAbsK
import Derived.Test.YtjilebpcaemopaaGreatDoorProg
import Derived.KernelRfl
set_option maxRecDepth 100000
set_option linter.unusedVariables false
namespace Go.Proofs.MacD
open Go Go.Abs

/-- (*enclave/machine.machine).run$1 -/
def F42 (x y : AV) (σ : AHeap) (K : AHeap → Prop) (kp : AV → AHeap → Prop) : Prop :=
  stepK (pureR σ (aBin .eql .ifc y (.val Go.Value.nilIface))) fun t6 σ =>
  condK t6 (
  K σ
  ) (
  stepK (pureR σ (aAssert (.agg [.val (.int .u8 0)]) 102 y)) fun t7 σ =>
  stepK (pureR σ (aExtract 1 t7)) fun t8 σ =>
  stepK (pureR σ (aExtract 0 t7)) fun t9 σ =>
  condK t8 (
  stepK (aAlloc [.val (.int .u8 0)] σ) fun t2 σ =>
  stepK (unitR (aStore 1 t2 t9 σ)) fun _ σ =>
  stepK (pureR σ (aFieldAddr 0 t2)) fun t10 σ =>
  stepK (pureR σ (aLoad false 1 t10 σ)) fun t11 σ =>
  stepK (pureR σ (aBuild [.val (.int .u8 0), .val (.bool false), .val (.int .i64 0), .val (.string ByteArray.empty)] [(0, 1, t11)])) fun t12 σ =>
  stepK (unitR (aStore 4 x t12 σ)) fun _ σ =>
  K σ
  ) (
  panicK y σ kp
  )
  )
def keep42 : List (Nat × List Nat) := [(3, [0, 4, 6]), (4, []), (5, [0, 4, 8, 9]), (6, [0, 2]), (7, []), (1, [3]), (2, [])]
noncomputable def rest42 : Code := match (Go.Proofs.Tryz.f42).body with | some (.seq _ b) => b | _ => .skip
theorem F42_eq (x y : AV) (σ : AHeap) (K : AHeap → Prop) : aw Go.Proofs.Tryz.prog (keepOf keep42) rest42 { n := fun _ σ => K σ, ex := fun _ _ _ => False, ret := fun _ σ => K σ, pa := fun _ _ => False } (put (frameOf 0 [x]) (some 4) y) σ = F42 x y σ K (fun _ _ => False) := by kernel_rfl
/-- (*enclave/machine.machine).run -/
def F26 (t0 t1 : AV) (σ : AHeap) (R : AV → AHeap → Prop) (Pa : AV → AV → AHeap → Prop) : Prop :=
  (fun (kp : AV → AHeap → Prop) =>
  stepK (aAlloc [.val (.int .u8 0), .val (.bool false), .val (.int .i64 0), .val (.string ByteArray.empty)] σ) fun t4 σ =>
  (fun (kp : AV → AHeap → Prop) => 
  stepK (pureR σ (aBuild [.val (.pointer none), .val (.pointer none), .val (.pointer none), .val (.int .u8 0), .val (.int .i64 0), .val (.int .i64 0), .val (.int .i64 0), .val (.bool false), .val (.string ByteArray.empty)] [(0, 1, t1)])) fun t10 σ =>
  stepK (aAlloc [.val (.pointer none), .val (.pointer none), .val (.pointer none), .val (.int .u8 0), .val (.int .i64 0), .val (.int .i64 0), .val (.int .i64 0), .val (.bool false), .val (.string ByteArray.empty)] σ) fun t5 σ =>
  stepK (unitR (aStore 9 t5 t10 σ)) fun _ σ =>
  loopW (fun fr σ again => (
  stepK (pureR σ (aFieldAddr 0 (Abs.look fr 5))) fun t16 σ =>
  stepK (pureR σ (aLoad false 1 t16 σ)) fun t17 σ =>
  stepK (pureR σ (aBin .neq .ptr t17 (.val (Go.Value.pointer Option.none)))) fun t18 σ =>
  condK t18 (
  stepK (pureR σ (aFieldAddr 0 (Abs.look fr 5))) fun t20 σ =>
  stepK (pureR σ (aLoad false 1 t20 σ)) fun t21 σ =>
  stepK (pureR σ (aFieldAddr 1 (Abs.look fr 5))) fun t22 σ =>
  stepK (pureR σ (aLoad true 2 t22 σ)) fun t23 σ =>
  Ev Go.Proofs.Tryz.prog 43 [(Abs.look fr 0), t21, t23] σ (fun t24 σ =>
  stepK (unitR (aStore 9 (Abs.look fr 5) t24 σ)) fun _ σ =>
  again [(0, (Abs.look fr 0)), (4, (Abs.look fr 4)), (5, (Abs.look fr 5))] σ
  ) kp) (
  stepK (pureR σ (aFieldAddr 7 (Abs.look fr 5))) fun t26 σ =>
  stepK (pureR σ (aLoad false 1 t26 σ)) fun t27 σ =>
  condK t27 (
  stepK (pureR σ (aLoad true 9 (Abs.look fr 5) σ)) fun t30 σ =>
  Ev Go.Proofs.Tryz.prog 44 [(Abs.look fr 0), t30] σ (fun t31 σ =>
  stepK (pureR σ (aExtract 0 t31)) fun t32 σ =>
  stepK (pureR σ (aExtract 1 t31)) fun t33 σ =>
  stepK (aAlloc [.val (.pointer none), .val (.pointer none), .val (.pointer none), .val (.int .u8 0), .val (.int .i64 0), .val (.int .i64 0), .val (.int .i64 0), .val (.bool false), .val (.string ByteArray.empty)] σ) fun t6 σ =>
  stepK (unitR (aStore 9 t6 t32 σ)) fun _ σ =>
  stepK (pureR σ (aNot t33)) fun t35 σ =>
  condK t35 (
  stepK (pureR σ (aFieldAddr 8 (Abs.look fr 5))) fun t36 σ =>
  stepK (pureR σ (aLoad false 1 t36 σ)) fun t37 σ =>
  stepK (pureR σ (aFieldAddr 3 (Abs.look fr 5))) fun t38 σ =>
  stepK (pureR σ (aFieldAddr 1 t38)) fun t39 σ =>
  stepK (pureR σ (aLoad false 1 t39 σ)) fun t40 σ =>
  Ev Go.Proofs.Tryz.prog 45 [t37, t40] σ (fun t41 σ =>
  stepK (unitR (aStore 4 (Abs.look fr 4) t41 σ)) fun _ σ =>
  R t4 σ
  ) kp) (
  stepK (pureR σ (aLoad true 9 t6 σ)) fun t42 σ =>
  stepK (unitR (aStore 9 (Abs.look fr 5) t42 σ)) fun _ σ =>
  again [(0, (Abs.look fr 0)), (4, (Abs.look fr 4)), (5, (Abs.look fr 5))] σ
  )
  ) kp) (
  stepK (pureR σ (aNilCheck (Abs.look fr 0))) fun t45 σ =>
  stepK (pureR σ (aFieldAddr 4 t45)) fun t46 σ =>
  stepK (pureR σ (aLoad false 1 t46 σ)) fun t47 σ =>
  stepK (pureR σ (aLenK .slice t47 σ)) fun t48 σ =>
  stepK (pureR σ (aBin .eql .prim t48 (.val (Go.Value.int Go.IntKind.i64 0)))) fun t49 σ =>
  gK t49 true (fun K => stepK (pureR σ (aFieldAddr 3 (Abs.look fr 5))) K) (fun t51 σ =>
  gK t49 true (fun K => stepK (pureR σ (aFieldAddr 0 t51)) K) (fun t52 σ =>
  gK t49 true (fun K => stepK (pureR σ (aLoad false 1 t52 σ)) K) (fun t53 σ =>
  gK t49 true (fun K => stepK (pureR σ (aBin .eql .prim t53 (.val (Go.Value.int Go.IntKind.u8 1)))) K) (fun t54 σ =>
  stepK (pureR σ (aPick t49 t54 (.val (Go.Value.bool Bool.false)))) fun t55 σ =>
  condK t55 (
  stepK (pureR σ (aFieldAddr 3 (Abs.look fr 5))) fun t56 σ =>
  stepK (pureR σ (aFieldAddr 1 t56)) fun t57 σ =>
  stepK (pureR σ (aLoad false 1 t57 σ)) fun t58 σ =>
  Ev Go.Proofs.Tryz.prog 46 [t58] σ (fun t59 σ =>
  stepK (unitR (aStore 4 (Abs.look fr 4) t59 σ)) fun _ σ =>
  R t4 σ
  ) kp) (
  stepK (pureR σ (aNilCheck (Abs.look fr 0))) fun t62 σ =>
  stepK (pureR σ (aFieldAddr 4 t62)) fun t63 σ =>
  stepK (pureR σ (aLoad false 1 t63 σ)) fun t64 σ =>
  stepK (pureR σ (aLenK .slice t64 σ)) fun t65 σ =>
  stepK (pureR σ (aBin .eql .prim t65 (.val (Go.Value.int Go.IntKind.i64 0)))) fun t66 σ =>
  condK t66 (
  Ev Go.Proofs.Tryz.prog 47 [] σ (fun t67 σ =>
  stepK (unitR (aStore 4 (Abs.look fr 4) t67 σ)) fun _ σ =>
  R t4 σ
  ) kp) (
  stepK (pureR σ (aFieldAddr 3 (Abs.look fr 5))) fun t12 σ =>
  stepK (pureR σ (aLoad true 4 t12 σ)) fun t13 σ =>
  Ev Go.Proofs.Tryz.prog 48 [(Abs.look fr 0), t13] σ (fun t14 σ =>
  stepK (unitR (aStore 9 (Abs.look fr 5) t14 σ)) fun _ σ =>
  again [(0, (Abs.look fr 0)), (4, (Abs.look fr 4)), (5, (Abs.look fr 5))] σ
  ) kp)
  )
  ) σ) σ) σ) σ)
  )
  )) [(0, t0), (4, t4), (5, t5)] σ
  ) (Pa t4)) (fun _ _ => False)
def keep26 : List (Nat × List Nat) := [(2, [0, 4, 5]), (4, [0, 4, 5, 15]), (5, [0, 4, 5]), (6, [0, 4, 5, 25]), (7, [0, 4, 5, 6, 7]), (8, [0, 4, 5, 6, 35]), (9, []), (10, [0, 4, 5]), (11, [0, 4, 5, 43]), (12, []), (13, [0, 4, 5, 60]), (14, []), (3, [0, 4, 5]), (1004, [0, 4, 5]), (777777, [4])]
def keepH26 : List (Nat × List Nat) := [(0, [0, 1, 4])]
noncomputable def head26 : Code := match (Go.Proofs.Tryz.f26).body with | some (.seq a (.seq _ _)) => a | _ => .skip
noncomputable def rest26 : Code := match (Go.Proofs.Tryz.f26).body with | some (.seq _ (.seq _ b)) => b | _ => .skip
theorem F26_eq (t0 t1 : AV) (σ : AHeap) (R : AV → AHeap → Prop) (Pa : AV → AV → AHeap → Prop) : aw Go.Proofs.Tryz.prog (keepOf keepH26) head26 { n := fun fr σ => aw Go.Proofs.Tryz.prog (keepOf keep26) rest26 { n := fun _ _ => False, ex := fun _ _ _ => False, ret := fun _ σ => R (Abs.look fr 4) σ, pa := fun y σ => Pa (Abs.look fr 4) y σ } (put fr (some 8) .any) σ, ex := fun _ _ _ => False, ret := fun _ _ => False, pa := fun _ _ => False } (frameOf 0 [t0, t1]) σ = F26 t0 t1 σ R Pa := by kernel_rfl
noncomputable def cd26 : Code := match (Go.Proofs.Tryz.f26).body with | some (.seq _ (.seq b _)) => b | _ => .skip
noncomputable def cr42 : Code := match (Go.Proofs.Tryz.f42).body with | some (.seq b _) => b | _ => .skip
theorem mixedR : Go.Proofs.Tryz.prog.follows .mixedOrders = true := by kernel_rfl
theorem F26_ev {t0 t1 : AV} {σ : AHeap} {k kp : AV → AHeap → Prop} (h : F26 t0 t1 σ (fun x σ => F42 x (.val .nilIface) σ (fun σ => ∃ z, aLoad true 4 x σ = some z ∧ k z σ) (fun _ _ => False)) (fun x y σ => F42 x y σ (fun σ => ∃ z, aLoad true 4 x σ = some z ∧ k z σ) (fun _ _ => False))) : Ev Go.Proofs.Tryz.prog 26 [t0, t1] σ k kp := by
  have e : ∀ x y σ, closeK Go.Proofs.Tryz.prog (keepOf keep42) rest42 4 true 4 k x y σ = F42 x y σ (fun σ => ∃ z, aLoad true 4 x σ = some z ∧ k z σ) (fun _ _ => False) := fun x y σ => F42_eq x y σ _
  refine Ev_of_awR2 mixedR (g := 42) Go.Proofs.Tryz.func42 (show (Go.Proofs.Tryz.f42).body = some (.seq cr42 rest42) by kernel_rfl) (r := 4) (by kernel_rfl) (by kernel_rfl) (of_decide_eq_true (by kernel_rfl)) (of_decide_eq_true (by kernel_rfl)) (keepOf keep42) (by kernel_rfl) Go.Proofs.Tryz.func26 (by kernel_rfl) (by kernel_rfl) (show (Go.Proofs.Tryz.f26).body = some (.seq head26 (.seq cd26 rest26)) by kernel_rfl) (d := 8) (e := 4) (te := 37) (by kernel_rfl) (by kernel_rfl) (gg := true) (n := 4) (by kernel_rfl) (of_decide_eq_true (by kernel_rfl)) (by decide) (of_decide_eq_true (by kernel_rfl)) (keepOf keep26) (keepOf keepH26) (by kernel_rfl) (by kernel_rfl) (of_decide_eq_true (by kernel_rfl)) ?_
  refine (F26_eq t0 t1 σ (fun x σ => closeK Go.Proofs.Tryz.prog (keepOf keep42) rest42 4 true 4 k x (.val .nilIface) σ) (fun x y σ => closeK Go.Proofs.Tryz.prog (keepOf keep42) rest42 4 true 4 k x y σ)).mpr ?_
  simp only [e]
  exact h
end Go.Proofs.MacD
