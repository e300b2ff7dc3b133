import Derived.Test.YtpfaciflhhpokaaGreatDoorAbsL
import Derived.Test.YtpfaciflhhpokaaGreatDoorProg
import Derived.KernelRfl
set_option maxRecDepth 100000
set_option linter.unusedVariables false
namespace Go.Proofs.AtD
open Go Go.Abs

theorem mixed : Go.Proofs.Tryz.prog.follows .mixedOrders = true := by kernel_rfl

/-- enclave/enclavelaw13.AtermSame -/
def F8 (t0 t1 : AV) (σ : AHeap) (k kp : AV → AHeap → Prop) : Prop :=
  stepK (aBox t0 σ) fun t2 σ =>
  stepK (aBox t1 σ) fun t3 σ =>
  stepK (pureR σ (aLoad true 19 t2 σ)) fun t6 σ =>
  Ev Go.Proofs.Tryz.prog 9 [t6] σ (fun t7 σ =>
  gK t7 false (fun K => stepK (pureR σ (aLoad true 19 t3 σ)) K) (fun t9 σ =>
  gK t7 false (fun K => Ev Go.Proofs.Tryz.prog 9 [t9] σ K kp) (fun t10 σ =>
  stepK (pureR σ (aPick t7 (.val (Go.Value.bool Bool.true)) t10)) fun t11 σ =>
  condK t11 (
  Ev Go.Proofs.Tryz.prog 10 [] σ (fun t12 σ =>
  k t12 σ
  ) kp) (
  stepK (pureR σ (aLoad true 19 t2 σ)) fun t13 σ =>
  stepK (pureR σ (aLoad true 19 t3 σ)) fun t14 σ =>
  Ev Go.Proofs.Tryz.prog 26 [t13, t14] σ (fun t15 σ =>
  stepK (pureR σ (aLoad true 19 t2 σ)) fun t16 σ =>
  stepK (pureR σ (aLoad true 19 t3 σ)) fun t17 σ =>
  Ev Go.Proofs.Tryz.prog 27 [t16, t17] σ (fun t18 σ =>
  stepK (pureR σ (aBin .eql .bool t18 t15)) fun t20 σ =>
  gK t20 true (fun K => stepK (pureR σ (aLoad true 19 t3 σ)) K) (fun t22 σ =>
  gK t20 true (fun K => stepK (pureR σ (aLoad true 19 t2 σ)) K) (fun t23 σ =>
  gK t20 true (fun K => Ev Go.Proofs.Tryz.prog 27 [t22, t23] σ K kp) (fun t24 σ =>
  gK t20 true (fun K => K t15 σ) (fun t25 σ =>
  gK t20 true (fun K => stepK (pureR σ (aBin .eql .bool t24 t25)) K) (fun t26 σ =>
  stepK (pureR σ (aPick t20 t26 (.val (Go.Value.bool Bool.false)))) fun t27 σ =>
  gK t27 true (fun K => stepK (pureR σ (aLoad true 19 t2 σ)) K) (fun t29 σ =>
  gK t27 true (fun K => stepK (pureR σ (aLoad true 19 t2 σ)) K) (fun t30 σ =>
  gK t27 true (fun K => Ev Go.Proofs.Tryz.prog 27 [t29, t30] σ K kp) (fun t31 σ =>
  stepK (pureR σ (aPick t27 t31 (.val (Go.Value.bool Bool.false)))) fun t32 σ =>
  gK t32 true (fun K => Ev Go.Proofs.Tryz.prog 10 [] σ K kp) (fun t34 σ =>
  stepK (pureR σ (aPick t32 t34 (.val (Go.Value.bool Bool.false)))) fun t35 σ =>
  k t35 σ
  ) σ) σ) σ) σ) σ) σ) σ) σ) σ) kp) kp)) σ) σ) kp
def keep8 : List (Nat × List Nat) := [(0, [2, 3]), (1, [2, 3, 11]), (2, [4]), (3, [2, 3, 5]), (4, [4])]
noncomputable def body8 : Code := (Go.Proofs.Tryz.f8).body.getD .skip
theorem F8_eq (t0 t1 : AV) (σ : AHeap) (k kp : AV → AHeap → Prop) : aw Go.Proofs.Tryz.prog (keepOf keep8) body8 (retK Go.Proofs.Tryz.prog (Go.Proofs.Tryz.f8).results.toList k kp) (frameOf 0 [t0, t1]) σ = F8 t0 t1 σ k kp := by kernel_rfl
theorem F8_ev {t0 t1 : AV} {σ : AHeap} {k kp : AV → AHeap → Prop} (h : F8 t0 t1 σ k kp) : Ev Go.Proofs.Tryz.prog 8 [t0, t1] σ k kp :=
  Ev_of_aw mixed Go.Proofs.Tryz.func8 (show (Go.Proofs.Tryz.f8).body = some body8 by kernel_rfl) (by kernel_rfl) (args := [t0, t1]) (of_decide_eq_true (by kernel_rfl)) (keepOf keep8) (by kernel_rfl) (by rw [F8_eq]; exact h)

/-- enclave/enclaveref13.Same -/
def F26 (t0 t1 : AV) (σ : AHeap) (k kp : AV → AHeap → Prop) : Prop :=
  stepK (aBox t0 σ) fun t2 σ =>
  stepK (aBox t1 σ) fun t3 σ =>
  stepK (pureR σ (aFieldAddr 0 t2)) fun t6 σ =>
  stepK (pureR σ (aLoad true 7 t6 σ)) fun t7 σ =>
  stepK (pureR σ (aFieldAddr 0 t3)) fun t8 σ =>
  stepK (pureR σ (aLoad true 7 t8 σ)) fun t9 σ =>
  stepK (pureR σ (aBin .neq (.agg [.i, .i, .i, .i, .s, .s, .s]) t7 t9)) fun t10 σ =>
  gK t10 false (fun K => stepK (pureR σ (aFieldAddr 7 t2)) K) (fun t12 σ =>
  gK t10 false (fun K => stepK (pureR σ (aLoad false 1 t12 σ)) K) (fun t13 σ =>
  gK t10 false (fun K => stepK (pureR σ (aFieldAddr 7 t3)) K) (fun t14 σ =>
  gK t10 false (fun K => stepK (pureR σ (aLoad false 1 t14 σ)) K) (fun t15 σ =>
  gK t10 false (fun K => stepK (pureR σ (aBin .neq .prim t13 t15)) K) (fun t16 σ =>
  stepK (pureR σ (aPick t10 (.val (Go.Value.bool Bool.true)) t16)) fun t17 σ =>
  gK t17 false (fun K => stepK (pureR σ (aFieldAddr 8 t2)) K) (fun t19 σ =>
  gK t17 false (fun K => stepK (pureR σ (aLoad false 1 t19 σ)) K) (fun t20 σ =>
  gK t17 false (fun K => stepK (pureR σ (aFieldAddr 8 t3)) K) (fun t21 σ =>
  gK t17 false (fun K => stepK (pureR σ (aLoad false 1 t21 σ)) K) (fun t22 σ =>
  gK t17 false (fun K => Ev Go.Proofs.Tryz.prog 22 [t20, t22] σ K kp) (fun t23 σ =>
  gK t17 false (fun K => stepK (pureR σ (aNot t23)) K) (fun t24 σ =>
  stepK (pureR σ (aPick t17 (.val (Go.Value.bool Bool.true)) t24)) fun t25 σ =>
  gK t25 false (fun K => stepK (pureR σ (aFieldAddr 9 t2)) K) (fun t27 σ =>
  gK t25 false (fun K => stepK (pureR σ (aLoad false 1 t27 σ)) K) (fun t28 σ =>
  gK t25 false (fun K => stepK (pureR σ (aFieldAddr 9 t3)) K) (fun t29 σ =>
  gK t25 false (fun K => stepK (pureR σ (aLoad false 1 t29 σ)) K) (fun t30 σ =>
  gK t25 false (fun K => Ev Go.Proofs.Tryz.prog 39 [t28, t30] σ K kp) (fun t31 σ =>
  gK t25 false (fun K => stepK (pureR σ (aNot t31)) K) (fun t32 σ =>
  stepK (pureR σ (aPick t25 (.val (Go.Value.bool Bool.true)) t32)) fun t33 σ =>
  gK t33 false (fun K => stepK (pureR σ (aFieldAddr 9 t3)) K) (fun t35 σ =>
  gK t33 false (fun K => stepK (pureR σ (aLoad false 1 t35 σ)) K) (fun t36 σ =>
  gK t33 false (fun K => stepK (pureR σ (aFieldAddr 9 t2)) K) (fun t37 σ =>
  gK t33 false (fun K => stepK (pureR σ (aLoad false 1 t37 σ)) K) (fun t38 σ =>
  gK t33 false (fun K => Ev Go.Proofs.Tryz.prog 39 [t36, t38] σ K kp) (fun t39 σ =>
  gK t33 false (fun K => stepK (pureR σ (aNot t39)) K) (fun t40 σ =>
  stepK (pureR σ (aPick t33 (.val (Go.Value.bool Bool.true)) t40)) fun t41 σ =>
  condK t41 (
  k (.val (Go.Value.bool Bool.false)) σ
  ) (
  stepK (pureR σ (aFieldAddr 10 t2)) fun t42 σ =>
  stepK (pureR σ (aLoad true 4 t42 σ)) fun t43 σ =>
  stepK (pureR σ (aFieldAddr 10 t3)) fun t44 σ =>
  stepK (pureR σ (aLoad true 4 t44 σ)) fun t45 σ =>
  Ev Go.Proofs.Tryz.prog 40 [t43, t45] σ (fun t46 σ =>
  stepK (pureR σ (aNot t46)) fun t47 σ =>
  gK t47 false (fun K => stepK (pureR σ (aFieldAddr 14 t2)) K) (fun t49 σ =>
  gK t47 false (fun K => stepK (pureR σ (aLoad true 4 t49 σ)) K) (fun t50 σ =>
  gK t47 false (fun K => stepK (pureR σ (aFieldAddr 14 t3)) K) (fun t51 σ =>
  gK t47 false (fun K => stepK (pureR σ (aLoad true 4 t51 σ)) K) (fun t52 σ =>
  gK t47 false (fun K => Ev Go.Proofs.Tryz.prog 40 [t50, t52] σ K kp) (fun t53 σ =>
  gK t47 false (fun K => stepK (pureR σ (aNot t53)) K) (fun t54 σ =>
  stepK (pureR σ (aPick t47 (.val (Go.Value.bool Bool.true)) t54)) fun t55 σ =>
  gK t55 false (fun K => stepK (pureR σ (aFieldAddr 18 t2)) K) (fun t57 σ =>
  gK t55 false (fun K => stepK (pureR σ (aLoad false 1 t57 σ)) K) (fun t58 σ =>
  gK t55 false (fun K => stepK (pureR σ (aLenK .slice t58 σ)) K) (fun t59 σ =>
  gK t55 false (fun K => stepK (pureR σ (aFieldAddr 18 t3)) K) (fun t60 σ =>
  gK t55 false (fun K => stepK (pureR σ (aLoad false 1 t60 σ)) K) (fun t61 σ =>
  gK t55 false (fun K => stepK (pureR σ (aLenK .slice t61 σ)) K) (fun t62 σ =>
  gK t55 false (fun K => stepK (pureR σ (aBin .neq .prim t59 t62)) K) (fun t63 σ =>
  stepK (pureR σ (aPick t55 (.val (Go.Value.bool Bool.true)) t63)) fun t64 σ =>
  condK t64 (
  k (.val (Go.Value.bool Bool.false)) σ
  ) (
  seqW (fun fr σ => (
  k (.val (Go.Value.bool Bool.true)) σ
  )) (fun j1 => (
  stepK (pureR σ (aFieldAddr 18 t2)) fun t65 σ =>
  stepK (pureR σ (aLoad false 1 t65 σ)) fun t66 σ =>
  stepK (pureR σ (aLenK .slice t66 σ)) fun t67 σ =>
  loopW (fun fr σ again => (
  stepK (pureR σ (aBin .lss .prim (Abs.look fr 68) (Abs.look fr 67))) fun t69 σ =>
  condK t69 (
  stepK (pureR σ (aFieldAddr 18 (Abs.look fr 2))) fun t71 σ =>
  stepK (pureR σ (aLoad false 1 t71 σ)) fun t72 σ =>
  stepK (pureR σ (aIndexAddr 19 t72 (Abs.look fr 68) σ)) fun t74 σ =>
  stepK (pureR σ (aLoad true 19 t74 σ)) fun t75 σ =>
  stepK (pureR σ (aFieldAddr 18 (Abs.look fr 3))) fun t76 σ =>
  stepK (pureR σ (aLoad false 1 t76 σ)) fun t77 σ =>
  stepK (pureR σ (aIndexAddr 19 t77 (Abs.look fr 68) σ)) fun t79 σ =>
  stepK (pureR σ (aLoad true 19 t79 σ)) fun t80 σ =>
  Ev Go.Proofs.Tryz.prog 26 [t75, t80] σ (fun t81 σ =>
  stepK (pureR σ (aNot t81)) fun t82 σ =>
  condK t82 (
  k (.val (Go.Value.bool Bool.false)) σ
  ) (
  stepK (pureR σ (aBin .add .prim (Abs.look fr 68) (.val (Go.Value.int Go.IntKind.i64 1)))) fun t83 σ =>
  again [(2, (Abs.look fr 2)), (3, (Abs.look fr 3)), (67, (Abs.look fr 67)), (68, t83)] σ
  )
  ) kp) (
  j1 [(0, .any)] σ
  )
  )) [(2, t2), (3, t3), (67, t67), (68, (.val (Go.Value.int Go.IntKind.i64 0)))] σ
  ))
  )
  ) σ) σ) σ) σ) σ) σ) σ) σ) σ) σ) σ) σ) σ) kp)) σ) σ) σ) σ) σ) σ) σ) σ) σ) σ) σ) σ) σ) σ) σ) σ) σ) σ) σ) σ) σ) σ) σ
def keep26 : List (Nat × List Nat) := [(0, [2, 3]), (1, [2, 3, 41]), (2, [4]), (3, [2, 3, 64]), (4, [4]), (3012, [0]), (5, [2, 3, 67, 68]), (6, [2, 3, 67, 68, 69]), (7, [2, 3, 5, 67, 68]), (8, [2, 3, 67, 68, 82]), (2008, [0, 1, 2, 3, 4, 5, 6, 7, 8, 9, 10, 11]), (9, [4]), (10, [2, 3, 67, 68]), (1006, [2, 3, 67, 68]), (11, [4])]
noncomputable def body26 : Code := (Go.Proofs.Tryz.f26).body.getD .skip
theorem F26_eq (t0 t1 : AV) (σ : AHeap) (k kp : AV → AHeap → Prop) : aw Go.Proofs.Tryz.prog (keepOf keep26) body26 (retK Go.Proofs.Tryz.prog (Go.Proofs.Tryz.f26).results.toList k kp) (frameOf 0 [t0, t1]) σ = F26 t0 t1 σ k kp := by kernel_rfl
theorem F26_ev {t0 t1 : AV} {σ : AHeap} {k kp : AV → AHeap → Prop} (h : F26 t0 t1 σ k kp) : Ev Go.Proofs.Tryz.prog 26 [t0, t1] σ k kp :=
  Ev_of_aw mixed Go.Proofs.Tryz.func26 (show (Go.Proofs.Tryz.f26).body = some body26 by kernel_rfl) (by kernel_rfl) (args := [t0, t1]) (of_decide_eq_true (by kernel_rfl)) (keepOf keep26) (by kernel_rfl) (by rw [F26_eq]; exact h)

/-- enclave/aterm.Same -/
def F27 (t0 t1 : AV) (σ : AHeap) (k kp : AV → AHeap → Prop) : Prop :=
  stepK (aBox t0 σ) fun t2 σ =>
  stepK (aBox t1 σ) fun t3 σ =>
  stepK (pureR σ (aFieldAddr 0 t2)) fun t5 σ =>
  stepK (pureR σ (aLoad true 7 t5 σ)) fun t6 σ =>
  stepK (pureR σ (aFieldAddr 0 t3)) fun t7 σ =>
  stepK (pureR σ (aLoad true 7 t7 σ)) fun t8 σ =>
  stepK (pureR σ (aBin .neq (.agg [.i, .i, .i, .i, .s, .s, .s]) t6 t8)) fun t9 σ =>
  gK t9 false (fun K => stepK (pureR σ (aFieldAddr 7 t2)) K) (fun t11 σ =>
  gK t9 false (fun K => stepK (pureR σ (aLoad false 1 t11 σ)) K) (fun t12 σ =>
  gK t9 false (fun K => stepK (pureR σ (aFieldAddr 7 t3)) K) (fun t13 σ =>
  gK t9 false (fun K => stepK (pureR σ (aLoad false 1 t13 σ)) K) (fun t14 σ =>
  gK t9 false (fun K => stepK (pureR σ (aBin .neq .prim t12 t14)) K) (fun t15 σ =>
  stepK (pureR σ (aPick t9 (.val (Go.Value.bool Bool.true)) t15)) fun t16 σ =>
  gK t16 false (fun K => stepK (pureR σ (aFieldAddr 8 t2)) K) (fun t18 σ =>
  gK t16 false (fun K => stepK (pureR σ (aLoad false 1 t18 σ)) K) (fun t19 σ =>
  gK t16 false (fun K => stepK (pureR σ (aFieldAddr 8 t3)) K) (fun t20 σ =>
  gK t16 false (fun K => stepK (pureR σ (aLoad false 1 t20 σ)) K) (fun t21 σ =>
  gK t16 false (fun K => Ev Go.Proofs.Tryz.prog 41 [t19, t21] σ K kp) (fun t22 σ =>
  gK t16 false (fun K => stepK (pureR σ (aNot t22)) K) (fun t23 σ =>
  stepK (pureR σ (aPick t16 (.val (Go.Value.bool Bool.true)) t23)) fun t24 σ =>
  gK t24 false (fun K => stepK (pureR σ (aFieldAddr 9 t2)) K) (fun t26 σ =>
  gK t24 false (fun K => stepK (pureR σ (aLoad false 1 t26 σ)) K) (fun t27 σ =>
  gK t24 false (fun K => stepK (pureR σ (aFieldAddr 9 t3)) K) (fun t28 σ =>
  gK t24 false (fun K => stepK (pureR σ (aLoad false 1 t28 σ)) K) (fun t29 σ =>
  gK t24 false (fun K => Ev Go.Proofs.Tryz.prog 42 [t27, t29] σ K kp) (fun t30 σ =>
  gK t24 false (fun K => stepK (pureR σ (aNot t30)) K) (fun t31 σ =>
  stepK (pureR σ (aPick t24 (.val (Go.Value.bool Bool.true)) t31)) fun t32 σ =>
  condK t32 (
  k (.val (Go.Value.bool Bool.false)) σ
  ) (
  stepK (pureR σ (aFieldAddr 10 t2)) fun t33 σ =>
  stepK (pureR σ (aLoad true 4 t33 σ)) fun t34 σ =>
  stepK (pureR σ (aFieldAddr 10 t3)) fun t35 σ =>
  stepK (pureR σ (aLoad true 4 t35 σ)) fun t36 σ =>
  Ev Go.Proofs.Tryz.prog 43 [t34, t36] σ (fun t37 σ =>
  gK t37 true (fun K => stepK (pureR σ (aFieldAddr 14 t2)) K) (fun t39 σ =>
  gK t37 true (fun K => stepK (pureR σ (aLoad true 4 t39 σ)) K) (fun t40 σ =>
  gK t37 true (fun K => stepK (pureR σ (aFieldAddr 14 t3)) K) (fun t41 σ =>
  gK t37 true (fun K => stepK (pureR σ (aLoad true 4 t41 σ)) K) (fun t42 σ =>
  gK t37 true (fun K => Ev Go.Proofs.Tryz.prog 43 [t40, t42] σ K kp) (fun t43 σ =>
  stepK (pureR σ (aPick t37 t43 (.val (Go.Value.bool Bool.false)))) fun t44 σ =>
  gK t44 true (fun K => stepK (pureR σ (aFieldAddr 18 t2)) K) (fun t46 σ =>
  gK t44 true (fun K => stepK (pureR σ (aLoad false 1 t46 σ)) K) (fun t47 σ =>
  gK t44 true (fun K => stepK (pureR σ (aFieldAddr 18 t3)) K) (fun t48 σ =>
  gK t44 true (fun K => stepK (pureR σ (aLoad false 1 t48 σ)) K) (fun t49 σ =>
  gK t44 true (fun K => Ev Go.Proofs.Tryz.prog 44 [t47, t49, (.fn (.func 27) [])] σ K kp) (fun t50 σ =>
  stepK (pureR σ (aPick t44 t50 (.val (Go.Value.bool Bool.false)))) fun t51 σ =>
  k t51 σ
  ) σ) σ) σ) σ) σ) σ) σ) σ) σ) σ) kp)) σ) σ) σ) σ) σ) σ) σ) σ) σ) σ) σ) σ) σ) σ) σ) σ) σ
def keep27 : List (Nat × List Nat) := [(0, [2, 3]), (1, [2, 3, 32]), (2, [4]), (3, [4])]
noncomputable def body27 : Code := (Go.Proofs.Tryz.f27).body.getD .skip
theorem F27_eq (t0 t1 : AV) (σ : AHeap) (k kp : AV → AHeap → Prop) : aw Go.Proofs.Tryz.prog (keepOf keep27) body27 (retK Go.Proofs.Tryz.prog (Go.Proofs.Tryz.f27).results.toList k kp) (frameOf 0 [t0, t1]) σ = F27 t0 t1 σ k kp := by kernel_rfl
theorem F27_ev {t0 t1 : AV} {σ : AHeap} {k kp : AV → AHeap → Prop} (h : F27 t0 t1 σ k kp) : Ev Go.Proofs.Tryz.prog 27 [t0, t1] σ k kp :=
  Ev_of_aw mixed Go.Proofs.Tryz.func27 (show (Go.Proofs.Tryz.f27).body = some body27 by kernel_rfl) (by kernel_rfl) (args := [t0, t1]) (of_decide_eq_true (by kernel_rfl)) (keepOf keep27) (by kernel_rfl) (by rw [F27_eq]; exact h)

/-- enclave/enclaveref11.Within -/
def F39 (t0 t1 : AV) (σ : AHeap) (k kp : AV → AHeap → Prop) : Prop :=
  seqW (fun fr σ => (
  k (.val (Go.Value.bool Bool.true)) σ
  )) (fun j1 => (
  stepK (pureR σ (aLenK .slice t0 σ)) fun t7 σ =>
  loopW (fun fr σ again => (
  stepK (pureR σ (aBin .lss .prim (Abs.look fr 8) (Abs.look fr 7))) fun t9 σ =>
  condK t9 (
  stepK (pureR σ (aIndexAddr 3 (Abs.look fr 0) (Abs.look fr 8) σ)) fun t13 σ =>
  stepK (pureR σ (aLoad true 3 t13 σ)) fun t14 σ =>
  Ev Go.Proofs.Tryz.prog 62 [t14] σ (fun t15 σ =>
  gK t15 true (fun K => K (Abs.look fr 1) σ) (fun t17 σ =>
  gK t15 true (fun K => K (Abs.look fr 0) σ) (fun t18 σ =>
  gK t15 true (fun K => K (Abs.look fr 8) σ) (fun t19 σ =>
  gK t15 true (fun K => stepK (pureR σ (aIndexAddr 3 t18 t19 σ)) K) (fun t20 σ =>
  gK t15 true (fun K => stepK (pureR σ (aLoad true 3 t20 σ)) K) (fun t21 σ =>
  gK t15 true (fun K => Ev Go.Proofs.Tryz.prog 63 [t17, t21] σ K kp) (fun t22 σ =>
  gK t15 true (fun K => stepK (pureR σ (aNot t22)) K) (fun t23 σ =>
  stepK (pureR σ (aPick t15 t23 (.val (Go.Value.bool Bool.false)))) fun t24 σ =>
  condK t24 (
  k (.val (Go.Value.bool Bool.false)) σ
  ) (
  stepK (pureR σ (aBin .add .prim (Abs.look fr 8) (.val (Go.Value.int Go.IntKind.i64 1)))) fun t25 σ =>
  again [(0, (Abs.look fr 0)), (1, (Abs.look fr 1)), (7, (Abs.look fr 7)), (8, t25)] σ
  )
  ) σ) σ) σ) σ) σ) σ) σ) kp) (
  j1 [(0, (Abs.look fr 0))] σ
  )
  )) [(0, t0), (1, t1), (7, t7), (8, (.val (Go.Value.int Go.IntKind.i64 0)))] σ
  ))
def keep39 : List (Nat × List Nat) := [(0, [0, 1]), (3008, [0]), (1, [0, 1, 7, 8]), (2, [0, 1, 7, 8, 9]), (3, [0, 1, 5, 7, 8]), (4, [0, 1, 7, 8, 24]), (5, [4]), (6, [0, 1, 7, 8]), (1002, [0, 1, 7, 8]), (7, [4])]
noncomputable def body39 : Code := (Go.Proofs.Tryz.f39).body.getD .skip
theorem F39_eq (t0 t1 : AV) (σ : AHeap) (k kp : AV → AHeap → Prop) : aw Go.Proofs.Tryz.prog (keepOf keep39) body39 (retK Go.Proofs.Tryz.prog (Go.Proofs.Tryz.f39).results.toList k kp) (frameOf 0 [t0, t1]) σ = F39 t0 t1 σ k kp := by kernel_rfl
theorem F39_ev {t0 t1 : AV} {σ : AHeap} {k kp : AV → AHeap → Prop} (h : F39 t0 t1 σ k kp) : Ev Go.Proofs.Tryz.prog 39 [t0, t1] σ k kp :=
  Ev_of_aw mixed Go.Proofs.Tryz.func39 (show (Go.Proofs.Tryz.f39).body = some body39 by kernel_rfl) (by kernel_rfl) (args := [t0, t1]) (of_decide_eq_true (by kernel_rfl)) (keepOf keep39) (by kernel_rfl) (by rw [F39_eq]; exact h)

/-- enclave/enclaveref12.Same -/
def F40 (t0 t1 : AV) (σ : AHeap) (k kp : AV → AHeap → Prop) : Prop :=
  stepK (aBox t0 σ) fun t2 σ =>
  stepK (aBox t1 σ) fun t3 σ =>
  stepK (pureR σ (aFieldAddr 0 t2)) fun t6 σ =>
  stepK (pureR σ (aLoad false 1 t6 σ)) fun t7 σ =>
  stepK (pureR σ (aFieldAddr 0 t3)) fun t8 σ =>
  stepK (pureR σ (aLoad false 1 t8 σ)) fun t9 σ =>
  stepK (pureR σ (aBin .neq .prim t7 t9)) fun t10 σ =>
  gK t10 false (fun K => stepK (pureR σ (aFieldAddr 1 t2)) K) (fun t12 σ =>
  gK t10 false (fun K => stepK (pureR σ (aLoad false 1 t12 σ)) K) (fun t13 σ =>
  gK t10 false (fun K => stepK (pureR σ (aFieldAddr 1 t3)) K) (fun t14 σ =>
  gK t10 false (fun K => stepK (pureR σ (aLoad false 1 t14 σ)) K) (fun t15 σ =>
  gK t10 false (fun K => stepK (pureR σ (aBin .neq .prim t13 t15)) K) (fun t16 σ =>
  stepK (pureR σ (aPick t10 (.val (Go.Value.bool Bool.true)) t16)) fun t17 σ =>
  gK t17 false (fun K => stepK (pureR σ (aFieldAddr 3 t2)) K) (fun t19 σ =>
  gK t17 false (fun K => stepK (pureR σ (aLoad false 1 t19 σ)) K) (fun t20 σ =>
  gK t17 false (fun K => stepK (pureR σ (aLenK .slice t20 σ)) K) (fun t21 σ =>
  gK t17 false (fun K => stepK (pureR σ (aFieldAddr 3 t3)) K) (fun t22 σ =>
  gK t17 false (fun K => stepK (pureR σ (aLoad false 1 t22 σ)) K) (fun t23 σ =>
  gK t17 false (fun K => stepK (pureR σ (aLenK .slice t23 σ)) K) (fun t24 σ =>
  gK t17 false (fun K => stepK (pureR σ (aBin .neq .prim t21 t24)) K) (fun t25 σ =>
  stepK (pureR σ (aPick t17 (.val (Go.Value.bool Bool.true)) t25)) fun t26 σ =>
  gK t26 false (fun K => stepK (pureR σ (aFieldAddr 2 t2)) K) (fun t28 σ =>
  gK t26 false (fun K => stepK (pureR σ (aLoad false 1 t28 σ)) K) (fun t29 σ =>
  gK t26 false (fun K => stepK (pureR σ (aFieldAddr 2 t3)) K) (fun t30 σ =>
  gK t26 false (fun K => stepK (pureR σ (aLoad false 1 t30 σ)) K) (fun t31 σ =>
  gK t26 false (fun K => Ev Go.Proofs.Tryz.prog 39 [t29, t31] σ K kp) (fun t32 σ =>
  gK t26 false (fun K => stepK (pureR σ (aNot t32)) K) (fun t33 σ =>
  stepK (pureR σ (aPick t26 (.val (Go.Value.bool Bool.true)) t33)) fun t34 σ =>
  gK t34 false (fun K => stepK (pureR σ (aFieldAddr 2 t3)) K) (fun t36 σ =>
  gK t34 false (fun K => stepK (pureR σ (aLoad false 1 t36 σ)) K) (fun t37 σ =>
  gK t34 false (fun K => stepK (pureR σ (aFieldAddr 2 t2)) K) (fun t38 σ =>
  gK t34 false (fun K => stepK (pureR σ (aLoad false 1 t38 σ)) K) (fun t39 σ =>
  gK t34 false (fun K => Ev Go.Proofs.Tryz.prog 39 [t37, t39] σ K kp) (fun t40 σ =>
  gK t34 false (fun K => stepK (pureR σ (aNot t40)) K) (fun t41 σ =>
  stepK (pureR σ (aPick t34 (.val (Go.Value.bool Bool.true)) t41)) fun t42 σ =>
  condK t42 (
  k (.val (Go.Value.bool Bool.false)) σ
  ) (
  seqW (fun fr σ => (
  k (.val (Go.Value.bool Bool.true)) σ
  )) (fun j1 => (
  stepK (pureR σ (aFieldAddr 3 t2)) fun t43 σ =>
  stepK (pureR σ (aLoad false 1 t43 σ)) fun t44 σ =>
  stepK (pureR σ (aLenK .slice t44 σ)) fun t45 σ =>
  loopW (fun fr σ again => (
  stepK (pureR σ (aBin .lss .prim (Abs.look fr 46) (Abs.look fr 45))) fun t47 σ =>
  condK t47 (
  stepK (pureR σ (aFieldAddr 3 (Abs.look fr 2))) fun t49 σ =>
  stepK (pureR σ (aLoad false 1 t49 σ)) fun t50 σ =>
  stepK (pureR σ (aIndexAddr 4 t50 (Abs.look fr 46) σ)) fun t52 σ =>
  stepK (pureR σ (aLoad true 4 t52 σ)) fun t53 σ =>
  stepK (pureR σ (aFieldAddr 3 (Abs.look fr 3))) fun t54 σ =>
  stepK (pureR σ (aLoad false 1 t54 σ)) fun t55 σ =>
  stepK (pureR σ (aIndexAddr 4 t55 (Abs.look fr 46) σ)) fun t57 σ =>
  stepK (pureR σ (aLoad true 4 t57 σ)) fun t58 σ =>
  Ev Go.Proofs.Tryz.prog 40 [t53, t58] σ (fun t59 σ =>
  stepK (pureR σ (aNot t59)) fun t60 σ =>
  condK t60 (
  k (.val (Go.Value.bool Bool.false)) σ
  ) (
  stepK (pureR σ (aBin .add .prim (Abs.look fr 46) (.val (Go.Value.int Go.IntKind.i64 1)))) fun t61 σ =>
  again [(2, (Abs.look fr 2)), (3, (Abs.look fr 3)), (45, (Abs.look fr 45)), (46, t61)] σ
  )
  ) kp) (
  j1 [(0, .any)] σ
  )
  )) [(2, t2), (3, t3), (45, t45), (46, (.val (Go.Value.int Go.IntKind.i64 0)))] σ
  ))
  )) σ) σ) σ) σ) σ) σ) σ) σ) σ) σ) σ) σ) σ) σ) σ) σ) σ) σ) σ) σ) σ) σ) σ) σ
def keep40 : List (Nat × List Nat) := [(0, [2, 3]), (1, [2, 3, 42]), (2, [4]), (3010, [0]), (3, [2, 3, 45, 46]), (4, [2, 3, 45, 46, 47]), (5, [2, 3, 5, 45, 46]), (6, [2, 3, 45, 46, 60]), (2006, [0, 1, 2, 3, 4, 5, 6, 7, 8, 9, 10, 11]), (7, [4]), (8, [2, 3, 45, 46]), (1004, [2, 3, 45, 46]), (9, [4])]
noncomputable def body40 : Code := (Go.Proofs.Tryz.f40).body.getD .skip
theorem F40_eq (t0 t1 : AV) (σ : AHeap) (k kp : AV → AHeap → Prop) : aw Go.Proofs.Tryz.prog (keepOf keep40) body40 (retK Go.Proofs.Tryz.prog (Go.Proofs.Tryz.f40).results.toList k kp) (frameOf 0 [t0, t1]) σ = F40 t0 t1 σ k kp := by kernel_rfl
theorem F40_ev {t0 t1 : AV} {σ : AHeap} {k kp : AV → AHeap → Prop} (h : F40 t0 t1 σ k kp) : Ev Go.Proofs.Tryz.prog 40 [t0, t1] σ k kp :=
  Ev_of_aw mixed Go.Proofs.Tryz.func40 (show (Go.Proofs.Tryz.f40).body = some body40 by kernel_rfl) (by kernel_rfl) (args := [t0, t1]) (of_decide_eq_true (by kernel_rfl)) (keepOf keep40) (by kernel_rfl) (by rw [F40_eq]; exact h)

/-- slices.Equal[[]int,int] -/
def F41 (t0 t1 : AV) (σ : AHeap) (k kp : AV → AHeap → Prop) : Prop :=
  stepK (pureR σ (aLenK .slice t0 σ)) fun t7 σ =>
  stepK (pureR σ (aLenK .slice t1 σ)) fun t9 σ =>
  stepK (pureR σ (aBin .neq .prim t7 t9)) fun t10 σ =>
  condK t10 (
  k (.val (Go.Value.bool Bool.false)) σ
  ) (
  seqW (fun fr σ => (
  k (.val (Go.Value.bool Bool.true)) σ
  )) (fun j1 => (
  stepK (pureR σ (aLenK .slice t0 σ)) fun t12 σ =>
  loopW (fun fr σ again => (
  stepK (pureR σ (aBin .lss .prim (Abs.look fr 13) (Abs.look fr 12))) fun t14 σ =>
  condK t14 (
  stepK (pureR σ (aIndexAddr 1 (Abs.look fr 0) (Abs.look fr 13) σ)) fun t18 σ =>
  stepK (pureR σ (aLoad false 1 t18 σ)) fun t19 σ =>
  stepK (pureR σ (aIndexAddr 1 (Abs.look fr 1) (Abs.look fr 13) σ)) fun t22 σ =>
  stepK (pureR σ (aLoad false 1 t22 σ)) fun t23 σ =>
  stepK (pureR σ (aBin .neq .prim t19 t23)) fun t24 σ =>
  condK t24 (
  k (.val (Go.Value.bool Bool.false)) σ
  ) (
  stepK (pureR σ (aBin .add .prim (Abs.look fr 13) (.val (Go.Value.int Go.IntKind.i64 1)))) fun t25 σ =>
  again [(0, (Abs.look fr 0)), (1, (Abs.look fr 1)), (12, (Abs.look fr 12)), (13, t25)] σ
  )
  ) (
  j1 [(0, (Abs.look fr 0))] σ
  )
  )) [(0, t0), (1, t1), (12, t12), (13, (.val (Go.Value.int Go.IntKind.i64 0)))] σ
  ))
  )
def keep41 : List (Nat × List Nat) := [(0, [0, 1]), (1, [0, 1, 10]), (2, [4]), (3010, [0]), (3, [0, 1, 12, 13]), (4, [0, 1, 12, 13, 14]), (5, [0, 1, 5, 12, 13]), (6, [0, 1, 12, 13, 24]), (2006, [0, 1, 2, 3, 4, 5, 6, 7, 8]), (7, [4]), (8, [0, 1, 12, 13]), (1004, [0, 1, 12, 13]), (9, [4])]
noncomputable def body41 : Code := (Go.Proofs.Tryz.f41).body.getD .skip
theorem F41_eq (t0 t1 : AV) (σ : AHeap) (k kp : AV → AHeap → Prop) : aw Go.Proofs.Tryz.prog (keepOf keep41) body41 (retK Go.Proofs.Tryz.prog (Go.Proofs.Tryz.f41).results.toList k kp) (frameOf 0 [t0, t1]) σ = F41 t0 t1 σ k kp := by kernel_rfl
theorem F41_ev {t0 t1 : AV} {σ : AHeap} {k kp : AV → AHeap → Prop} (h : F41 t0 t1 σ k kp) : Ev Go.Proofs.Tryz.prog 41 [t0, t1] σ k kp :=
  Ev_of_aw mixed Go.Proofs.Tryz.func41 (show (Go.Proofs.Tryz.f41).body = some body41 by kernel_rfl) (by kernel_rfl) (args := [t0, t1]) (of_decide_eq_true (by kernel_rfl)) (keepOf keep41) (by kernel_rfl) (by rw [F41_eq]; exact h)

/-- enclave/effect.Same -/
def F42 (t0 t1 : AV) (σ : AHeap) (k kp : AV → AHeap → Prop) : Prop :=
  Ev Go.Proofs.Tryz.prog 64 [t0, t1] σ (fun t7 σ =>
  gK t7 true (fun K => K t1 σ) (fun t9 σ =>
  gK t7 true (fun K => K t0 σ) (fun t10 σ =>
  gK t7 true (fun K => Ev Go.Proofs.Tryz.prog 64 [t9, t10] σ K kp) (fun t11 σ =>
  stepK (pureR σ (aPick t7 t11 (.val (Go.Value.bool Bool.false)))) fun t12 σ =>
  k t12 σ) σ) σ) σ) kp
def keep42 : List (Nat × List Nat) := [(0, [0, 1]), (1, [4])]
noncomputable def body42 : Code := (Go.Proofs.Tryz.f42).body.getD .skip
theorem F42_eq (t0 t1 : AV) (σ : AHeap) (k kp : AV → AHeap → Prop) : aw Go.Proofs.Tryz.prog (keepOf keep42) body42 (retK Go.Proofs.Tryz.prog (Go.Proofs.Tryz.f42).results.toList k kp) (frameOf 0 [t0, t1]) σ = F42 t0 t1 σ k kp := by kernel_rfl
theorem F42_ev {t0 t1 : AV} {σ : AHeap} {k kp : AV → AHeap → Prop} (h : F42 t0 t1 σ k kp) : Ev Go.Proofs.Tryz.prog 42 [t0, t1] σ k kp :=
  Ev_of_aw mixed Go.Proofs.Tryz.func42 (show (Go.Proofs.Tryz.f42).body = some body42 by kernel_rfl) (by kernel_rfl) (args := [t0, t1]) (of_decide_eq_true (by kernel_rfl)) (keepOf keep42) (by kernel_rfl) (by rw [F42_eq]; exact h)

/-- enclave/rtype.Same -/
def F43 (t0 t1 : AV) (σ : AHeap) (k kp : AV → AHeap → Prop) : Prop :=
  stepK (aBox t0 σ) fun t2 σ =>
  stepK (aBox t1 σ) fun t3 σ =>
  stepK (pureR σ (aFieldAddr 0 t2)) fun t5 σ =>
  stepK (pureR σ (aLoad false 1 t5 σ)) fun t6 σ =>
  stepK (pureR σ (aFieldAddr 0 t3)) fun t7 σ =>
  stepK (pureR σ (aLoad false 1 t7 σ)) fun t8 σ =>
  stepK (pureR σ (aBin .eql .prim t6 t8)) fun t9 σ =>
  gK t9 true (fun K => stepK (pureR σ (aFieldAddr 1 t2)) K) (fun t11 σ =>
  gK t9 true (fun K => stepK (pureR σ (aLoad false 1 t11 σ)) K) (fun t12 σ =>
  gK t9 true (fun K => stepK (pureR σ (aFieldAddr 1 t3)) K) (fun t13 σ =>
  gK t9 true (fun K => stepK (pureR σ (aLoad false 1 t13 σ)) K) (fun t14 σ =>
  gK t9 true (fun K => stepK (pureR σ (aBin .eql .prim t12 t14)) K) (fun t15 σ =>
  stepK (pureR σ (aPick t9 t15 (.val (Go.Value.bool Bool.false)))) fun t16 σ =>
  gK t16 true (fun K => stepK (pureR σ (aFieldAddr 2 t2)) K) (fun t18 σ =>
  gK t16 true (fun K => stepK (pureR σ (aLoad false 1 t18 σ)) K) (fun t19 σ =>
  gK t16 true (fun K => stepK (pureR σ (aFieldAddr 2 t3)) K) (fun t20 σ =>
  gK t16 true (fun K => stepK (pureR σ (aLoad false 1 t20 σ)) K) (fun t21 σ =>
  gK t16 true (fun K => Ev Go.Proofs.Tryz.prog 42 [t19, t21] σ K kp) (fun t22 σ =>
  stepK (pureR σ (aPick t16 t22 (.val (Go.Value.bool Bool.false)))) fun t23 σ =>
  gK t23 true (fun K => stepK (pureR σ (aFieldAddr 3 t2)) K) (fun t25 σ =>
  gK t23 true (fun K => stepK (pureR σ (aLoad false 1 t25 σ)) K) (fun t26 σ =>
  gK t23 true (fun K => stepK (pureR σ (aFieldAddr 3 t3)) K) (fun t27 σ =>
  gK t23 true (fun K => stepK (pureR σ (aLoad false 1 t27 σ)) K) (fun t28 σ =>
  gK t23 true (fun K => Ev Go.Proofs.Tryz.prog 65 [t26, t28, (.fn (.func 43) [])] σ K kp) (fun t29 σ =>
  stepK (pureR σ (aPick t23 t29 (.val (Go.Value.bool Bool.false)))) fun t30 σ =>
  k t30 σ) σ) σ) σ) σ) σ) σ) σ) σ) σ) σ) σ) σ) σ) σ) σ
def keep43 : List (Nat × List Nat) := [(0, [2, 3]), (1, [4])]
noncomputable def body43 : Code := (Go.Proofs.Tryz.f43).body.getD .skip
theorem F43_eq (t0 t1 : AV) (σ : AHeap) (k kp : AV → AHeap → Prop) : aw Go.Proofs.Tryz.prog (keepOf keep43) body43 (retK Go.Proofs.Tryz.prog (Go.Proofs.Tryz.f43).results.toList k kp) (frameOf 0 [t0, t1]) σ = F43 t0 t1 σ k kp := by kernel_rfl
theorem F43_ev {t0 t1 : AV} {σ : AHeap} {k kp : AV → AHeap → Prop} (h : F43 t0 t1 σ k kp) : Ev Go.Proofs.Tryz.prog 43 [t0, t1] σ k kp :=
  Ev_of_aw mixed Go.Proofs.Tryz.func43 (show (Go.Proofs.Tryz.f43).body = some body43 by kernel_rfl) (by kernel_rfl) (args := [t0, t1]) (of_decide_eq_true (by kernel_rfl)) (keepOf keep43) (by kernel_rfl) (by rw [F43_eq]; exact h)

/-- slices.EqualFunc[[]enclave/api.ATerm,[]enclave/api.ATerm,enclave/api.ATerm,enclave/api.ATerm] -/
def F44 (t0 t1 t2 : AV) (σ : AHeap) (k kp : AV → AHeap → Prop) : Prop :=
  stepK (pureR σ (aLenK .slice t0 σ)) fun t11 σ =>
  stepK (pureR σ (aLenK .slice t1 σ)) fun t13 σ =>
  stepK (pureR σ (aBin .neq .prim t11 t13)) fun t14 σ =>
  condK t14 (
  k (.val (Go.Value.bool Bool.false)) σ
  ) (
  seqW (fun fr σ => (
  k (.val (Go.Value.bool Bool.true)) σ
  )) (fun j1 => (
  stepK (pureR σ (aLenK .slice t0 σ)) fun t16 σ =>
  loopW (fun fr σ again => (
  stepK (pureR σ (aBin .lss .prim (Abs.look fr 17) (Abs.look fr 16))) fun t18 σ =>
  condK t18 (
  stepK (pureR σ (aIndexAddr 19 (Abs.look fr 15) (Abs.look fr 17) σ)) fun t20 σ =>
  stepK (pureR σ (aLoad true 19 t20 σ)) fun t21 σ =>
  stepK (aAlloc [.val (.int .u8 0), .val (.int .u8 0), .val (.int .i64 0), .val (.int .i64 0), .val (.string ByteArray.empty), .val (.string ByteArray.empty), .val (.string ByteArray.empty), .val (.int .i64 0), .val (.slice none 0 0), .val (.slice none 0 0), .val (.int .u8 0), .val (.int .i64 0), .val (.slice none 0 0), .val (.slice none 0 0), .val (.int .u8 0), .val (.int .i64 0), .val (.slice none 0 0), .val (.slice none 0 0), .val (.slice none 0 0)] σ) fun t8 σ =>
  stepK (unitR (aStore 19 t8 t21 σ)) fun _ σ =>
  stepK (pureR σ (aIndexAddr 19 (Abs.look fr 1) (Abs.look fr 17) σ)) fun t24 σ =>
  stepK (pureR σ (aLoad true 19 t24 σ)) fun t25 σ =>
  stepK (aAlloc [.val (.int .u8 0), .val (.int .u8 0), .val (.int .i64 0), .val (.int .i64 0), .val (.string ByteArray.empty), .val (.string ByteArray.empty), .val (.string ByteArray.empty), .val (.int .i64 0), .val (.slice none 0 0), .val (.slice none 0 0), .val (.int .u8 0), .val (.int .i64 0), .val (.slice none 0 0), .val (.slice none 0 0), .val (.int .u8 0), .val (.int .i64 0), .val (.slice none 0 0), .val (.slice none 0 0), .val (.slice none 0 0)] σ) fun t9 σ =>
  stepK (unitR (aStore 19 t9 t25 σ)) fun _ σ =>
  stepK (pureR σ (aLoad true 19 t8 σ)) fun t27 σ =>
  stepK (pureR σ (aLoad true 19 t9 σ)) fun t28 σ =>
  callK Go.Proofs.Tryz.prog (Abs.look fr 2) [t27, t28] σ (fun t29 σ =>
  stepK (pureR σ (aNot t29)) fun t30 σ =>
  condK t30 (
  k (.val (Go.Value.bool Bool.false)) σ
  ) (
  stepK (pureR σ (aBin .add .prim (Abs.look fr 17) (.val (Go.Value.int Go.IntKind.i64 1)))) fun t31 σ =>
  again [(1, (Abs.look fr 1)), (2, (Abs.look fr 2)), (15, (Abs.look fr 15)), (16, (Abs.look fr 16)), (17, t31)] σ
  )
  ) kp) (
  j1 [(0, .any)] σ
  )
  )) [(1, t1), (2, t2), (15, t0), (16, t16), (17, (.val (Go.Value.int Go.IntKind.i64 0)))] σ
  ))
  )
def keep44 : List (Nat × List Nat) := [(0, [0, 1, 2]), (1, [0, 1, 2, 14]), (2, [6]), (3011, [0]), (3, [1, 2, 15, 16, 17]), (4, [1, 2, 15, 16, 17, 18]), (5, [1, 2, 7, 8, 15, 16, 17]), (6, [1, 2, 8, 9, 15, 16, 17]), (7, [1, 2, 15, 16, 17, 30]), (8, [6]), (9, [1, 2, 15, 16, 17]), (1004, [1, 2, 15, 16, 17]), (10, [6])]
noncomputable def body44 : Code := (Go.Proofs.Tryz.f44).body.getD .skip
theorem F44_eq (t0 t1 t2 : AV) (σ : AHeap) (k kp : AV → AHeap → Prop) : aw Go.Proofs.Tryz.prog (keepOf keep44) body44 (retK Go.Proofs.Tryz.prog (Go.Proofs.Tryz.f44).results.toList k kp) (frameOf 0 [t0, t1, t2]) σ = F44 t0 t1 t2 σ k kp := by kernel_rfl
theorem F44_ev {t0 t1 t2 : AV} {σ : AHeap} {k kp : AV → AHeap → Prop} (h : F44 t0 t1 t2 σ k kp) : Ev Go.Proofs.Tryz.prog 44 [t0, t1, t2] σ k kp :=
  Ev_of_aw mixed Go.Proofs.Tryz.func44 (show (Go.Proofs.Tryz.f44).body = some body44 by kernel_rfl) (by kernel_rfl) (args := [t0, t1, t2]) (of_decide_eq_true (by kernel_rfl)) (keepOf keep44) (by kernel_rfl) (by rw [F44_eq]; exact h)

/-- enclave/enclaveref02.Exn -/
def F61 (t0 : AV) (σ : AHeap) (k kp : AV → AHeap → Prop) : Prop :=
  Ev Go.Proofs.Tryz.prog 78 [t0, (.val (Go.Value.int Go.IntKind.u8 4))] σ (fun t4 σ =>
  k t4 σ) kp
def keep61 : List (Nat × List Nat) := [(0, [0]), (1, [2])]
noncomputable def body61 : Code := (Go.Proofs.Tryz.f61).body.getD .skip
theorem F61_eq (t0 : AV) (σ : AHeap) (k kp : AV → AHeap → Prop) : aw Go.Proofs.Tryz.prog (keepOf keep61) body61 (retK Go.Proofs.Tryz.prog (Go.Proofs.Tryz.f61).results.toList k kp) (frameOf 0 [t0]) σ = F61 t0 σ k kp := by kernel_rfl
theorem F61_ev {t0 : AV} {σ : AHeap} {k kp : AV → AHeap → Prop} (h : F61 t0 σ k kp) : Ev Go.Proofs.Tryz.prog 61 [t0] σ k kp :=
  Ev_of_aw mixed Go.Proofs.Tryz.func61 (show (Go.Proofs.Tryz.f61).body = some body61 by kernel_rfl) (by kernel_rfl) (args := [t0]) (of_decide_eq_true (by kernel_rfl)) (keepOf keep61) (by kernel_rfl) (by rw [F61_eq]; exact h)

/-- enclave/enclaveref11.Atom -/
def F62 (t0 : AV) (σ : AHeap) (k kp : AV → AHeap → Prop) : Prop :=
  stepK (aBox t0 σ) fun t1 σ =>
  stepK (pureR σ (aFieldAddr 0 t1)) fun t3 σ =>
  stepK (pureR σ (aLoad false 1 t3 σ)) fun t4 σ =>
  stepK (pureR σ (aBin .eql .prim t4 (.val (Go.Value.int Go.IntKind.u8 3)))) fun t5 σ =>
  condK t5 (
  stepK (pureR σ (aFieldAddr 1 t1)) fun t6 σ =>
  stepK (pureR σ (aLoad false 1 t6 σ)) fun t7 σ =>
  stepK (pureR σ (aBin .eql .prim t7 (.val (Go.Value.int Go.IntKind.i64 0)))) fun t8 σ =>
  gK t8 true (fun K => stepK (pureR σ (aFieldAddr 2 t1)) K) (fun t10 σ =>
  gK t8 true (fun K => stepK (pureR σ (aLoad false 1 t10 σ)) K) (fun t11 σ =>
  gK t8 true (fun K => Ev Go.Proofs.Tryz.prog 61 [t11] σ K kp) (fun t12 σ =>
  stepK (pureR σ (aPick t8 t12 (.val (Go.Value.bool Bool.false)))) fun t13 σ =>
  k t13 σ
  ) σ) σ) σ) (
  stepK (pureR σ (aFieldAddr 0 t1)) fun t14 σ =>
  stepK (pureR σ (aLoad false 1 t14 σ)) fun t15 σ =>
  stepK (pureR σ (aBin .eql .prim t15 (.val (Go.Value.int Go.IntKind.u8 1)))) fun t16 σ =>
  gK t16 false (fun K => stepK (pureR σ (aFieldAddr 0 t1)) K) (fun t18 σ =>
  gK t16 false (fun K => stepK (pureR σ (aLoad false 1 t18 σ)) K) (fun t19 σ =>
  gK t16 false (fun K => stepK (pureR σ (aBin .eql .prim t19 (.val (Go.Value.int Go.IntKind.u8 2)))) K) (fun t20 σ =>
  stepK (pureR σ (aPick t16 (.val (Go.Value.bool Bool.true)) t20)) fun t21 σ =>
  gK t21 true (fun K => stepK (pureR σ (aFieldAddr 1 t1)) K) (fun t23 σ =>
  gK t21 true (fun K => stepK (pureR σ (aLoad false 1 t23 σ)) K) (fun t24 σ =>
  gK t21 true (fun K => stepK (pureR σ (aBin .geq .prim t24 (.val (Go.Value.int Go.IntKind.i64 0)))) K) (fun t25 σ =>
  stepK (pureR σ (aPick t21 t25 (.val (Go.Value.bool Bool.false)))) fun t26 σ =>
  gK t26 true (fun K => stepK (pureR σ (aFieldAddr 2 t1)) K) (fun t28 σ =>
  gK t26 true (fun K => stepK (pureR σ (aLoad false 1 t28 σ)) K) (fun t29 σ =>
  gK t26 true (fun K => stepK (pureR σ (aBin .eql .prim t29 (.val (Go.Value.string { data := #[] })))) K) (fun t30 σ =>
  stepK (pureR σ (aPick t26 t30 (.val (Go.Value.bool Bool.false)))) fun t31 σ =>
  k t31 σ
  ) σ) σ) σ) σ) σ) σ) σ) σ) σ)
def keep62 : List (Nat × List Nat) := [(0, [1]), (1, [1, 5]), (2, [2]), (3, [2])]
noncomputable def body62 : Code := (Go.Proofs.Tryz.f62).body.getD .skip
theorem F62_eq (t0 : AV) (σ : AHeap) (k kp : AV → AHeap → Prop) : aw Go.Proofs.Tryz.prog (keepOf keep62) body62 (retK Go.Proofs.Tryz.prog (Go.Proofs.Tryz.f62).results.toList k kp) (frameOf 0 [t0]) σ = F62 t0 σ k kp := by kernel_rfl
theorem F62_ev {t0 : AV} {σ : AHeap} {k kp : AV → AHeap → Prop} (h : F62 t0 σ k kp) : Ev Go.Proofs.Tryz.prog 62 [t0] σ k kp :=
  Ev_of_aw mixed Go.Proofs.Tryz.func62 (show (Go.Proofs.Tryz.f62).body = some body62 by kernel_rfl) (by kernel_rfl) (args := [t0]) (of_decide_eq_true (by kernel_rfl)) (keepOf keep62) (by kernel_rfl) (by rw [F62_eq]; exact h)

/-- enclave/enclaveref11.In -/
def F63 (t0 t1 : AV) (σ : AHeap) (k kp : AV → AHeap → Prop) : Prop :=
  stepK (aBox t1 σ) fun t3 σ =>
  seqW (fun fr σ => (
  k (.val (Go.Value.bool Bool.false)) σ
  )) (fun j1 => (
  stepK (pureR σ (aLenK .slice t0 σ)) fun t7 σ =>
  loopW (fun fr σ again => (
  stepK (pureR σ (aBin .lss .prim (Abs.look fr 8) (Abs.look fr 7))) fun t9 σ =>
  condK t9 (
  stepK (pureR σ (aIndexAddr 3 (Abs.look fr 0) (Abs.look fr 8) σ)) fun t13 σ =>
  stepK (pureR σ (aLoad true 3 t13 σ)) fun t14 σ =>
  stepK (pureR σ (aLoad true 3 (Abs.look fr 3) σ)) fun t15 σ =>
  stepK (pureR σ (aBin .eql (.agg [.i, .i, .s]) t14 t15)) fun t16 σ =>
  condK t16 (
  k (.val (Go.Value.bool Bool.true)) σ
  ) (
  stepK (pureR σ (aBin .add .prim (Abs.look fr 8) (.val (Go.Value.int Go.IntKind.i64 1)))) fun t17 σ =>
  again [(0, (Abs.look fr 0)), (3, (Abs.look fr 3)), (7, (Abs.look fr 7)), (8, t17)] σ
  )
  ) (
  j1 [(0, (Abs.look fr 0))] σ
  )
  )) [(0, t0), (3, t3), (7, t7), (8, (.val (Go.Value.int Go.IntKind.i64 0)))] σ
  ))
def keep63 : List (Nat × List Nat) := [(0, [0, 3]), (3008, [0]), (1, [0, 3, 7, 8]), (2, [0, 3, 7, 8, 9]), (3, [0, 3, 5, 7, 8]), (4, [0, 3, 7, 8, 16]), (2004, [0, 1, 2, 3, 4, 5]), (5, [4]), (6, [0, 3, 7, 8]), (1002, [0, 3, 7, 8]), (7, [4])]
noncomputable def body63 : Code := (Go.Proofs.Tryz.f63).body.getD .skip
theorem F63_eq (t0 t1 : AV) (σ : AHeap) (k kp : AV → AHeap → Prop) : aw Go.Proofs.Tryz.prog (keepOf keep63) body63 (retK Go.Proofs.Tryz.prog (Go.Proofs.Tryz.f63).results.toList k kp) (frameOf 0 [t0, t1]) σ = F63 t0 t1 σ k kp := by kernel_rfl
theorem F63_ev {t0 t1 : AV} {σ : AHeap} {k kp : AV → AHeap → Prop} (h : F63 t0 t1 σ k kp) : Ev Go.Proofs.Tryz.prog 63 [t0, t1] σ k kp :=
  Ev_of_aw mixed Go.Proofs.Tryz.func63 (show (Go.Proofs.Tryz.f63).body = some body63 by kernel_rfl) (by kernel_rfl) (args := [t0, t1]) (of_decide_eq_true (by kernel_rfl)) (keepOf keep63) (by kernel_rfl) (by rw [F63_eq]; exact h)

/-- enclave/effect.Within -/
def F64 (t0 t1 : AV) (σ : AHeap) (k kp : AV → AHeap → Prop) : Prop :=
  stepK (aBox t1 σ) fun t3 σ =>
  Ev Go.Proofs.Tryz.prog 80 [t0, (.fn (.func 81) [t3])] σ (fun t7 σ =>
  stepK (pureR σ (aNot t7)) fun t8 σ =>
  k t8 σ) kp
def keep64 : List (Nat × List Nat) := [(0, [0, 3]), (1, [4])]
noncomputable def body64 : Code := (Go.Proofs.Tryz.f64).body.getD .skip
theorem F64_eq (t0 t1 : AV) (σ : AHeap) (k kp : AV → AHeap → Prop) : aw Go.Proofs.Tryz.prog (keepOf keep64) body64 (retK Go.Proofs.Tryz.prog (Go.Proofs.Tryz.f64).results.toList k kp) (frameOf 0 [t0, t1]) σ = F64 t0 t1 σ k kp := by kernel_rfl
theorem F64_ev {t0 t1 : AV} {σ : AHeap} {k kp : AV → AHeap → Prop} (h : F64 t0 t1 σ k kp) : Ev Go.Proofs.Tryz.prog 64 [t0, t1] σ k kp :=
  Ev_of_aw mixed Go.Proofs.Tryz.func64 (show (Go.Proofs.Tryz.f64).body = some body64 by kernel_rfl) (by kernel_rfl) (args := [t0, t1]) (of_decide_eq_true (by kernel_rfl)) (keepOf keep64) (by kernel_rfl) (by rw [F64_eq]; exact h)

/-- slices.EqualFunc[[]enclave/api.RType,[]enclave/api.RType,enclave/api.RType,enclave/api.RType] -/
def F65 (t0 t1 t2 : AV) (σ : AHeap) (k kp : AV → AHeap → Prop) : Prop :=
  stepK (pureR σ (aLenK .slice t0 σ)) fun t11 σ =>
  stepK (pureR σ (aLenK .slice t1 σ)) fun t13 σ =>
  stepK (pureR σ (aBin .neq .prim t11 t13)) fun t14 σ =>
  condK t14 (
  k (.val (Go.Value.bool Bool.false)) σ
  ) (
  seqW (fun fr σ => (
  k (.val (Go.Value.bool Bool.true)) σ
  )) (fun j1 => (
  stepK (pureR σ (aLenK .slice t0 σ)) fun t16 σ =>
  loopW (fun fr σ again => (
  stepK (pureR σ (aBin .lss .prim (Abs.look fr 17) (Abs.look fr 16))) fun t18 σ =>
  condK t18 (
  stepK (pureR σ (aIndexAddr 4 (Abs.look fr 15) (Abs.look fr 17) σ)) fun t20 σ =>
  stepK (pureR σ (aLoad true 4 t20 σ)) fun t21 σ =>
  stepK (aAlloc [.val (.int .u8 0), .val (.int .i64 0), .val (.slice none 0 0), .val (.slice none 0 0)] σ) fun t8 σ =>
  stepK (unitR (aStore 4 t8 t21 σ)) fun _ σ =>
  stepK (pureR σ (aIndexAddr 4 (Abs.look fr 1) (Abs.look fr 17) σ)) fun t24 σ =>
  stepK (pureR σ (aLoad true 4 t24 σ)) fun t25 σ =>
  stepK (aAlloc [.val (.int .u8 0), .val (.int .i64 0), .val (.slice none 0 0), .val (.slice none 0 0)] σ) fun t9 σ =>
  stepK (unitR (aStore 4 t9 t25 σ)) fun _ σ =>
  stepK (pureR σ (aLoad true 4 t8 σ)) fun t27 σ =>
  stepK (pureR σ (aLoad true 4 t9 σ)) fun t28 σ =>
  callK Go.Proofs.Tryz.prog (Abs.look fr 2) [t27, t28] σ (fun t29 σ =>
  stepK (pureR σ (aNot t29)) fun t30 σ =>
  condK t30 (
  k (.val (Go.Value.bool Bool.false)) σ
  ) (
  stepK (pureR σ (aBin .add .prim (Abs.look fr 17) (.val (Go.Value.int Go.IntKind.i64 1)))) fun t31 σ =>
  again [(1, (Abs.look fr 1)), (2, (Abs.look fr 2)), (15, (Abs.look fr 15)), (16, (Abs.look fr 16)), (17, t31)] σ
  )
  ) kp) (
  j1 [(0, .any)] σ
  )
  )) [(1, t1), (2, t2), (15, t0), (16, t16), (17, (.val (Go.Value.int Go.IntKind.i64 0)))] σ
  ))
  )
def keep65 : List (Nat × List Nat) := [(0, [0, 1, 2]), (1, [0, 1, 2, 14]), (2, [6]), (3011, [0]), (3, [1, 2, 15, 16, 17]), (4, [1, 2, 15, 16, 17, 18]), (5, [1, 2, 7, 8, 15, 16, 17]), (6, [1, 2, 8, 9, 15, 16, 17]), (7, [1, 2, 15, 16, 17, 30]), (8, [6]), (9, [1, 2, 15, 16, 17]), (1004, [1, 2, 15, 16, 17]), (10, [6])]
noncomputable def body65 : Code := (Go.Proofs.Tryz.f65).body.getD .skip
theorem F65_eq (t0 t1 t2 : AV) (σ : AHeap) (k kp : AV → AHeap → Prop) : aw Go.Proofs.Tryz.prog (keepOf keep65) body65 (retK Go.Proofs.Tryz.prog (Go.Proofs.Tryz.f65).results.toList k kp) (frameOf 0 [t0, t1, t2]) σ = F65 t0 t1 t2 σ k kp := by kernel_rfl
theorem F65_ev {t0 t1 t2 : AV} {σ : AHeap} {k kp : AV → AHeap → Prop} (h : F65 t0 t1 t2 σ k kp) : Ev Go.Proofs.Tryz.prog 65 [t0, t1, t2] σ k kp :=
  Ev_of_aw mixed Go.Proofs.Tryz.func65 (show (Go.Proofs.Tryz.f65).body = some body65 by kernel_rfl) (by kernel_rfl) (args := [t0, t1, t2]) (of_decide_eq_true (by kernel_rfl)) (keepOf keep65) (by kernel_rfl) (by rw [F65_eq]; exact h)

/-- enclave/effect.atom -/
def F74 (t0 : AV) (σ : AHeap) (k kp : AV → AHeap → Prop) : Prop :=
  stepK (aBox t0 σ) fun t1 σ =>
  stepK (pureR σ (aFieldAddr 0 t1)) fun t3 σ =>
  stepK (pureR σ (aLoad false 1 t3 σ)) fun t4 σ =>
  seqW (fun fr σ => (
  condK (Abs.look fr 5) (
  stepK (pureR σ (aFieldAddr 1 (Abs.look fr 1))) fun t8 σ =>
  stepK (pureR σ (aLoad false 1 t8 σ)) fun t9 σ =>
  stepK (pureR σ (aBin .geq .prim t9 (.val (Go.Value.int Go.IntKind.i64 0)))) fun t10 σ =>
  gK t10 true (fun K => stepK (pureR σ (aFieldAddr 2 (Abs.look fr 1))) K) (fun t12 σ =>
  gK t10 true (fun K => stepK (pureR σ (aLoad false 1 t12 σ)) K) (fun t13 σ =>
  gK t10 true (fun K => stepK (pureR σ (aBin .eql .prim t13 (.val (Go.Value.string { data := #[] })))) K) (fun t14 σ =>
  stepK (pureR σ (aPick t10 t14 (.val (Go.Value.bool Bool.false)))) fun t15 σ =>
  k t15 σ
  ) σ) σ) σ) (
  stepK (pureR σ (aBin .eql .prim (Abs.look fr 4) (.val (Go.Value.int Go.IntKind.u8 3)))) fun t17 σ =>
  condK t17 (
  stepK (pureR σ (aFieldAddr 1 (Abs.look fr 1))) fun t18 σ =>
  stepK (pureR σ (aLoad false 1 t18 σ)) fun t19 σ =>
  stepK (pureR σ (aBin .eql .prim t19 (.val (Go.Value.int Go.IntKind.i64 0)))) fun t20 σ =>
  gK t20 true (fun K => stepK (pureR σ (aFieldAddr 2 (Abs.look fr 1))) K) (fun t22 σ =>
  gK t20 true (fun K => stepK (pureR σ (aLoad false 1 t22 σ)) K) (fun t23 σ =>
  gK t20 true (fun K => stepK (pureR σ (aBuildSl 1 1 [.val (.string ByteArray.empty)] [(0, t23)])) K) (fun t24 σ =>
  gK t20 true (fun K => Ev Go.Proofs.Tryz.prog 90 [t24] σ K kp) (fun t25 σ =>
  stepK (pureR σ (aPick t20 t25 (.val (Go.Value.bool Bool.false)))) fun t26 σ =>
  k t26 σ
  ) σ) σ) σ) σ) (
  k (.val (Go.Value.bool Bool.false)) σ
  )
  )
  )) (fun j1 => (
  stepK (pureR σ (aBin .eql .prim t4 (.val (Go.Value.int Go.IntKind.u8 1)))) fun t6 σ =>
  condK t6 (
  j1 [(1, t1), (4, t4), (5, t6)] σ
  ) (
  stepK (pureR σ (aBin .eql .prim t4 (.val (Go.Value.int Go.IntKind.u8 2)))) fun t7 σ =>
  j1 [(1, t1), (4, t4), (5, t7)] σ
  )
  ))
def keep74 : List (Nat × List Nat) := [(0, [1]), (1, [1, 4]), (3005, [1, 4, 5]), (2, [1, 4, 5]), (3, [1, 4, 5]), (4, [2]), (5, [1, 16]), (6, [2]), (4006, [1]), (7, [2])]
noncomputable def body74 : Code := (Go.Proofs.Tryz.f74).body.getD .skip
theorem F74_eq (t0 : AV) (σ : AHeap) (k kp : AV → AHeap → Prop) : aw Go.Proofs.Tryz.prog (keepOf keep74) body74 (retK Go.Proofs.Tryz.prog (Go.Proofs.Tryz.f74).results.toList k kp) (frameOf 0 [t0]) σ = F74 t0 σ k kp := by kernel_rfl
theorem F74_ev {t0 : AV} {σ : AHeap} {k kp : AV → AHeap → Prop} (h : F74 t0 σ k kp) : Ev Go.Proofs.Tryz.prog 74 [t0] σ k kp :=
  Ev_of_aw mixed Go.Proofs.Tryz.func74 (show (Go.Proofs.Tryz.f74).body = some body74 by kernel_rfl) (by kernel_rfl) (args := [t0]) (of_decide_eq_true (by kernel_rfl)) (keepOf keep74) (by kernel_rfl) (by rw [F74_eq]; exact h)

/-- enclave/enclaveref02.shape -/
def F78 (t0 t1 : AV) (σ : AHeap) (k kp : AV → AHeap → Prop) : Prop :=
  stepK (pureR σ (aLenK .str t0 σ)) fun t8 σ =>
  stepK (pureR σ (aBin .eql .prim t8 (.val (Go.Value.int Go.IntKind.i64 0)))) fun t9 σ =>
  gK t9 false (fun K => K t0 σ) (fun t11 σ =>
  gK t9 false (fun K => stepK (pureR σ (aLenK .str t11 σ)) K) (fun t12 σ =>
  gK t9 false (fun K => stepK (pureR σ (aBin .gtr .prim t12 (.val (Go.Value.int Go.IntKind.i64 16)))) K) (fun t13 σ =>
  stepK (pureR σ (aPick t9 (.val (Go.Value.bool Bool.true)) t13)) fun t14 σ =>
  gK t14 false (fun K => K t0 σ) (fun t16 σ =>
  gK t14 false (fun K => stepK (pureR σ (aIndexStr t16 (.val (Go.Value.int Go.IntKind.i64 0)))) K) (fun t17 σ =>
  gK t14 false (fun K => Ev Go.Proofs.Tryz.prog 98 [t17] σ K kp) (fun t18 σ =>
  gK t14 false (fun K => K t1 σ) (fun t19 σ =>
  gK t14 false (fun K => stepK (pureR σ (aBin .neq .prim t18 t19)) K) (fun t20 σ =>
  stepK (pureR σ (aPick t14 (.val (Go.Value.bool Bool.true)) t20)) fun t21 σ =>
  condK t21 (
  k (.val (Go.Value.bool Bool.false)) σ
  ) (
  seqW (fun fr σ => (
  k (.val (Go.Value.bool Bool.true)) σ
  )) (fun j1 => (
  loopW (fun fr σ again => (
  stepK (pureR σ (aLenK .str (Abs.look fr 0) σ)) fun t24 σ =>
  stepK (pureR σ (aBin .lss .prim (Abs.look fr 5) t24)) fun t25 σ =>
  condK t25 (
  stepK (pureR σ (aIndexStr (Abs.look fr 0) (Abs.look fr 5))) fun t30 σ =>
  Ev Go.Proofs.Tryz.prog 98 [t30] σ (fun t31 σ =>
  stepK (pureR σ (aBin .lss .prim t31 (.val (Go.Value.int Go.IntKind.u8 2)))) fun t33 σ =>
  gK t33 false (fun K => K t31 σ) (fun t35 σ =>
  gK t33 false (fun K => stepK (pureR σ (aBin .gtr .prim t35 (.val (Go.Value.int Go.IntKind.u8 4)))) K) (fun t36 σ =>
  stepK (pureR σ (aPick t33 (.val (Go.Value.bool Bool.true)) t36)) fun t37 σ =>
  condK t37 (
  k (.val (Go.Value.bool Bool.false)) σ
  ) (
  stepK (pureR σ (aBin .add .prim (Abs.look fr 5) (.val (Go.Value.int Go.IntKind.i64 1)))) fun t27 σ =>
  again [(0, (Abs.look fr 0)), (5, t27)] σ
  )
  ) σ) σ) kp) (
  j1 [(0, (Abs.look fr 0))] σ
  )
  )) [(0, t0), (5, (.val (Go.Value.int Go.IntKind.i64 0)))] σ
  ))
  )) σ) σ) σ) σ) σ) σ) σ) σ
def keep78 : List (Nat × List Nat) := [(0, [0, 1]), (1, [0, 21]), (2, [4]), (3010, [0]), (3, [0, 5]), (4, [0, 5, 25]), (6, [0, 5, 6]), (7, [0, 5, 37]), (8, [4]), (5, [0, 5]), (1004, [0, 5]), (9, [4])]
noncomputable def body78 : Code := (Go.Proofs.Tryz.f78).body.getD .skip
theorem F78_eq (t0 t1 : AV) (σ : AHeap) (k kp : AV → AHeap → Prop) : aw Go.Proofs.Tryz.prog (keepOf keep78) body78 (retK Go.Proofs.Tryz.prog (Go.Proofs.Tryz.f78).results.toList k kp) (frameOf 0 [t0, t1]) σ = F78 t0 t1 σ k kp := by kernel_rfl
theorem F78_ev {t0 t1 : AV} {σ : AHeap} {k kp : AV → AHeap → Prop} (h : F78 t0 t1 σ k kp) : Ev Go.Proofs.Tryz.prog 78 [t0, t1] σ k kp :=
  Ev_of_aw mixed Go.Proofs.Tryz.func78 (show (Go.Proofs.Tryz.f78).body = some body78 by kernel_rfl) (by kernel_rfl) (args := [t0, t1]) (of_decide_eq_true (by kernel_rfl)) (keepOf keep78) (by kernel_rfl) (by rw [F78_eq]; exact h)

/-- slices.ContainsFunc[[]enclave/api.Atom,enclave/api.Atom] -/
def F80 (t0 t1 : AV) (σ : AHeap) (k kp : AV → AHeap → Prop) : Prop :=
  Ev Go.Proofs.Tryz.prog 100 [t0, t1] σ (fun t7 σ =>
  stepK (pureR σ (aBin .geq .prim t7 (.val (Go.Value.int Go.IntKind.i64 0)))) fun t8 σ =>
  k t8 σ) kp
def keep80 : List (Nat × List Nat) := [(0, [0, 1]), (1, [4])]
noncomputable def body80 : Code := (Go.Proofs.Tryz.f80).body.getD .skip
theorem F80_eq (t0 t1 : AV) (σ : AHeap) (k kp : AV → AHeap → Prop) : aw Go.Proofs.Tryz.prog (keepOf keep80) body80 (retK Go.Proofs.Tryz.prog (Go.Proofs.Tryz.f80).results.toList k kp) (frameOf 0 [t0, t1]) σ = F80 t0 t1 σ k kp := by kernel_rfl
theorem F80_ev {t0 t1 : AV} {σ : AHeap} {k kp : AV → AHeap → Prop} (h : F80 t0 t1 σ k kp) : Ev Go.Proofs.Tryz.prog 80 [t0, t1] σ k kp :=
  Ev_of_aw mixed Go.Proofs.Tryz.func80 (show (Go.Proofs.Tryz.f80).body = some body80 by kernel_rfl) (by kernel_rfl) (args := [t0, t1]) (of_decide_eq_true (by kernel_rfl)) (keepOf keep80) (by kernel_rfl) (by rw [F80_eq]; exact h)

/-- enclave/effect.Within$1 -/
def F81 (t0 t1 : AV) (σ : AHeap) (k kp : AV → AHeap → Prop) : Prop :=
  stepK (aBox t0 σ) fun t2 σ =>
  stepK (pureR σ (aLoad true 3 t2 σ)) fun t4 σ =>
  Ev Go.Proofs.Tryz.prog 74 [t4] σ (fun t5 σ =>
  gK t5 true (fun K => stepK (pureR σ (aLoad false 1 t1 σ)) K) (fun t7 σ =>
  gK t5 true (fun K => stepK (pureR σ (aLoad true 3 t2 σ)) K) (fun t8 σ =>
  gK t5 true (fun K => Ev Go.Proofs.Tryz.prog 82 [t7, t8] σ K kp) (fun t9 σ =>
  gK t5 true (fun K => stepK (pureR σ (aNot t9)) K) (fun t10 σ =>
  stepK (pureR σ (aPick t5 t10 (.val (Go.Value.bool Bool.false)))) fun t11 σ =>
  k t11 σ) σ) σ) σ) σ) kp
def keep81 : List (Nat × List Nat) := [(0, [1, 2]), (1, [3])]
noncomputable def body81 : Code := (Go.Proofs.Tryz.f81).body.getD .skip
theorem F81_eq (t0 t1 : AV) (σ : AHeap) (k kp : AV → AHeap → Prop) : aw Go.Proofs.Tryz.prog (keepOf keep81) body81 (retK Go.Proofs.Tryz.prog (Go.Proofs.Tryz.f81).results.toList k kp) (frameOf 0 [t0, t1]) σ = F81 t0 t1 σ k kp := by kernel_rfl
theorem F81_ev {t0 t1 : AV} {σ : AHeap} {k kp : AV → AHeap → Prop} (h : F81 t0 t1 σ k kp) : Ev Go.Proofs.Tryz.prog 81 [t0, t1] σ k kp :=
  Ev_of_aw mixed Go.Proofs.Tryz.func81 (show (Go.Proofs.Tryz.f81).body = some body81 by kernel_rfl) (by kernel_rfl) (args := [t0, t1]) (of_decide_eq_true (by kernel_rfl)) (keepOf keep81) (by kernel_rfl) (by rw [F81_eq]; exact h)

/-- slices.Contains[[]enclave/api.Atom,enclave/api.Atom] -/
def F82 (t0 t1 : AV) (σ : AHeap) (k kp : AV → AHeap → Prop) : Prop :=
  stepK (aBox t1 σ) fun t3 σ =>
  stepK (pureR σ (aLoad true 3 t3 σ)) fun t6 σ =>
  Ev Go.Proofs.Tryz.prog 101 [t0, t6] σ (fun t7 σ =>
  stepK (pureR σ (aBin .geq .prim t7 (.val (Go.Value.int Go.IntKind.i64 0)))) fun t8 σ =>
  k t8 σ) kp
def keep82 : List (Nat × List Nat) := [(0, [0, 3]), (1, [4])]
noncomputable def body82 : Code := (Go.Proofs.Tryz.f82).body.getD .skip
theorem F82_eq (t0 t1 : AV) (σ : AHeap) (k kp : AV → AHeap → Prop) : aw Go.Proofs.Tryz.prog (keepOf keep82) body82 (retK Go.Proofs.Tryz.prog (Go.Proofs.Tryz.f82).results.toList k kp) (frameOf 0 [t0, t1]) σ = F82 t0 t1 σ k kp := by kernel_rfl
theorem F82_ev {t0 t1 : AV} {σ : AHeap} {k kp : AV → AHeap → Prop} (h : F82 t0 t1 σ k kp) : Ev Go.Proofs.Tryz.prog 82 [t0, t1] σ k kp :=
  Ev_of_aw mixed Go.Proofs.Tryz.func82 (show (Go.Proofs.Tryz.f82).body = some body82 by kernel_rfl) (by kernel_rfl) (args := [t0, t1]) (of_decide_eq_true (by kernel_rfl)) (keepOf keep82) (by kernel_rfl) (by rw [F82_eq]; exact h)

/-- enclave/words.Exn -/
def F90 (t0 : AV) (σ : AHeap) (k kp : AV → AHeap → Prop) : Prop :=
  Ev Go.Proofs.Tryz.prog 110 [(.fn (.func 111) []), t0] σ (fun t4 σ =>
  k t4 σ) kp
def keep90 : List (Nat × List Nat) := [(0, [0]), (1, [2])]
noncomputable def body90 : Code := (Go.Proofs.Tryz.f90).body.getD .skip
theorem F90_eq (t0 : AV) (σ : AHeap) (k kp : AV → AHeap → Prop) : aw Go.Proofs.Tryz.prog (keepOf keep90) body90 (retK Go.Proofs.Tryz.prog (Go.Proofs.Tryz.f90).results.toList k kp) (frameOf 0 [t0]) σ = F90 t0 σ k kp := by kernel_rfl
theorem F90_ev {t0 : AV} {σ : AHeap} {k kp : AV → AHeap → Prop} (h : F90 t0 σ k kp) : Ev Go.Proofs.Tryz.prog 90 [t0] σ k kp :=
  Ev_of_aw mixed Go.Proofs.Tryz.func90 (show (Go.Proofs.Tryz.f90).body = some body90 by kernel_rfl) (by kernel_rfl) (args := [t0]) (of_decide_eq_true (by kernel_rfl)) (keepOf keep90) (by kernel_rfl) (by rw [F90_eq]; exact h)

/-- enclave/enclaveref01.Class -/
def F98 (t0 : AV) (σ : AHeap) (k kp : AV → AHeap → Prop) : Prop :=
  stepK (pureR σ (aBin .eql .prim t0 (.val (Go.Value.int Go.IntKind.u8 32)))) fun t6 σ =>
  gK t6 false (fun K => K t0 σ) (fun t8 σ =>
  gK t6 false (fun K => stepK (pureR σ (aBin .eql .prim t8 (.val (Go.Value.int Go.IntKind.u8 9)))) K) (fun t9 σ =>
  stepK (pureR σ (aPick t6 (.val (Go.Value.bool Bool.true)) t9)) fun t10 σ =>
  gK t10 false (fun K => K t0 σ) (fun t12 σ =>
  gK t10 false (fun K => stepK (pureR σ (aBin .eql .prim t12 (.val (Go.Value.int Go.IntKind.u8 10)))) K) (fun t13 σ =>
  stepK (pureR σ (aPick t10 (.val (Go.Value.bool Bool.true)) t13)) fun t14 σ =>
  condK t14 (
  k (.val (Go.Value.int Go.IntKind.u8 1)) σ
  ) (
  stepK (pureR σ (aBin .geq .prim t0 (.val (Go.Value.int Go.IntKind.u8 48)))) fun t16 σ =>
  gK t16 true (fun K => K t0 σ) (fun t18 σ =>
  gK t16 true (fun K => stepK (pureR σ (aBin .leq .prim t18 (.val (Go.Value.int Go.IntKind.u8 57)))) K) (fun t19 σ =>
  stepK (pureR σ (aPick t16 t19 (.val (Go.Value.bool Bool.false)))) fun t20 σ =>
  condK t20 (
  k (.val (Go.Value.int Go.IntKind.u8 2)) σ
  ) (
  stepK (pureR σ (aBin .geq .prim t0 (.val (Go.Value.int Go.IntKind.u8 97)))) fun t22 σ =>
  gK t22 true (fun K => K t0 σ) (fun t24 σ =>
  gK t22 true (fun K => stepK (pureR σ (aBin .leq .prim t24 (.val (Go.Value.int Go.IntKind.u8 122)))) K) (fun t25 σ =>
  stepK (pureR σ (aPick t22 t25 (.val (Go.Value.bool Bool.false)))) fun t26 σ =>
  condK t26 (
  k (.val (Go.Value.int Go.IntKind.u8 3)) σ
  ) (
  stepK (pureR σ (aBin .geq .prim t0 (.val (Go.Value.int Go.IntKind.u8 65)))) fun t28 σ =>
  gK t28 true (fun K => K t0 σ) (fun t30 σ =>
  gK t28 true (fun K => stepK (pureR σ (aBin .leq .prim t30 (.val (Go.Value.int Go.IntKind.u8 90)))) K) (fun t31 σ =>
  stepK (pureR σ (aPick t28 t31 (.val (Go.Value.bool Bool.false)))) fun t32 σ =>
  condK t32 (
  k (.val (Go.Value.int Go.IntKind.u8 4)) σ
  ) (
  stepK (pureR σ (aBuildSl 12 1 [.val (.int .u8 0)] [(0, (.val (Go.Value.int Go.IntKind.u8 40))), (1, (.val (Go.Value.int Go.IntKind.u8 41))), (2, (.val (Go.Value.int Go.IntKind.u8 44))), (3, (.val (Go.Value.int Go.IntKind.u8 33))), (4, (.val (Go.Value.int Go.IntKind.u8 58))), (5, (.val (Go.Value.int Go.IntKind.u8 61))), (6, (.val (Go.Value.int Go.IntKind.u8 62))), (7, (.val (Go.Value.int Go.IntKind.u8 43))), (8, (.val (Go.Value.int Go.IntKind.u8 45))), (9, (.val (Go.Value.int Go.IntKind.u8 42))), (10, (.val (Go.Value.int Go.IntKind.u8 60))), (11, (.val (Go.Value.int Go.IntKind.u8 59)))])) fun t33 σ =>
  seqW (fun fr σ => (
  k (.val (Go.Value.int Go.IntKind.u8 0)) σ
  )) (fun j1 => (
  stepK (pureR σ (aLenK .slice t33 σ)) fun t35 σ =>
  loopW (fun fr σ again => (
  stepK (pureR σ (aBin .lss .prim (Abs.look fr 36) (Abs.look fr 35))) fun t37 σ =>
  condK t37 (
  stepK (pureR σ (aIndexAddr 1 (Abs.look fr 3) (Abs.look fr 36) σ)) fun t41 σ =>
  stepK (pureR σ (aLoad false 1 t41 σ)) fun t42 σ =>
  stepK (pureR σ (aBin .eql .prim t42 (Abs.look fr 0))) fun t44 σ =>
  condK t44 (
  k (.val (Go.Value.int Go.IntKind.u8 5)) σ
  ) (
  stepK (pureR σ (aBin .add .prim (Abs.look fr 36) (.val (Go.Value.int Go.IntKind.i64 1)))) fun t45 σ =>
  again [(0, (Abs.look fr 0)), (3, (Abs.look fr 3)), (35, (Abs.look fr 35)), (36, t45)] σ
  )
  ) (
  j1 [(0, (Abs.look fr 0))] σ
  )
  )) [(0, t0), (3, t33), (35, t35), (36, (.val (Go.Value.int Go.IntKind.i64 0)))] σ
  ))
  )
  ) σ) σ)
  ) σ) σ)
  ) σ) σ)) σ) σ) σ) σ
def keep98 : List (Nat × List Nat) := [(0, [0]), (1, [0, 14]), (2, [2]), (3, [0, 20]), (4, [2]), (5, [0, 26]), (6, [2]), (7, [0, 32]), (8, [2]), (9, [0, 3]), (4009, [1]), (3017, [0]), (10, [0, 3, 35, 36]), (11, [0, 3, 35, 36, 37]), (12, [0, 3, 4, 35, 36]), (13, [0, 3, 35, 36, 44]), (14, [2]), (15, [0, 3, 35, 36]), (1011, [0, 3, 35, 36]), (16, [2])]
noncomputable def body98 : Code := (Go.Proofs.Tryz.f98).body.getD .skip
theorem F98_eq (t0 : AV) (σ : AHeap) (k kp : AV → AHeap → Prop) : aw Go.Proofs.Tryz.prog (keepOf keep98) body98 (retK Go.Proofs.Tryz.prog (Go.Proofs.Tryz.f98).results.toList k kp) (frameOf 0 [t0]) σ = F98 t0 σ k kp := by kernel_rfl
theorem F98_ev {t0 : AV} {σ : AHeap} {k kp : AV → AHeap → Prop} (h : F98 t0 σ k kp) : Ev Go.Proofs.Tryz.prog 98 [t0] σ k kp :=
  Ev_of_aw mixed Go.Proofs.Tryz.func98 (show (Go.Proofs.Tryz.f98).body = some body98 by kernel_rfl) (by kernel_rfl) (args := [t0]) (of_decide_eq_true (by kernel_rfl)) (keepOf keep98) (by kernel_rfl) (by rw [F98_eq]; exact h)

/-- slices.IndexFunc[[]enclave/api.Atom,enclave/api.Atom] -/
def F100 (t0 t1 : AV) (σ : AHeap) (k kp : AV → AHeap → Prop) : Prop :=
  seqW (fun fr σ => (
  k (.val (Go.Value.int Go.IntKind.i64 (-1))) σ
  )) (fun j1 => (
  stepK (pureR σ (aLenK .slice t0 σ)) fun t7 σ =>
  loopW (fun fr σ again => (
  stepK (pureR σ (aBin .lss .prim (Abs.look fr 8) (Abs.look fr 7))) fun t9 σ =>
  condK t9 (
  stepK (pureR σ (aIndexAddr 3 (Abs.look fr 0) (Abs.look fr 8) σ)) fun t14 σ =>
  stepK (pureR σ (aLoad true 3 t14 σ)) fun t15 σ =>
  callK Go.Proofs.Tryz.prog (Abs.look fr 1) [t15] σ (fun t16 σ =>
  condK t16 (
  k (Abs.look fr 8) σ
  ) (
  stepK (pureR σ (aBin .add .prim (Abs.look fr 8) (.val (Go.Value.int Go.IntKind.i64 1)))) fun t18 σ =>
  again [(0, (Abs.look fr 0)), (1, (Abs.look fr 1)), (7, (Abs.look fr 7)), (8, t18)] σ
  )
  ) kp) (
  j1 [(0, (Abs.look fr 0))] σ
  )
  )) [(0, t0), (1, t1), (7, t7), (8, (.val (Go.Value.int Go.IntKind.i64 0)))] σ
  ))
def keep100 : List (Nat × List Nat) := [(0, [0, 1]), (3008, [0]), (1, [0, 1, 7, 8]), (2, [0, 1, 7, 8, 9]), (3, [0, 1, 5, 7, 8]), (4, [0, 1, 5, 7, 8, 16]), (5, [4]), (6, [0, 1, 7, 8]), (1002, [0, 1, 7, 8]), (7, [4])]
noncomputable def body100 : Code := (Go.Proofs.Tryz.f100).body.getD .skip
theorem F100_eq (t0 t1 : AV) (σ : AHeap) (k kp : AV → AHeap → Prop) : aw Go.Proofs.Tryz.prog (keepOf keep100) body100 (retK Go.Proofs.Tryz.prog (Go.Proofs.Tryz.f100).results.toList k kp) (frameOf 0 [t0, t1]) σ = F100 t0 t1 σ k kp := by kernel_rfl
theorem F100_ev {t0 t1 : AV} {σ : AHeap} {k kp : AV → AHeap → Prop} (h : F100 t0 t1 σ k kp) : Ev Go.Proofs.Tryz.prog 100 [t0, t1] σ k kp :=
  Ev_of_aw mixed Go.Proofs.Tryz.func100 (show (Go.Proofs.Tryz.f100).body = some body100 by kernel_rfl) (by kernel_rfl) (args := [t0, t1]) (of_decide_eq_true (by kernel_rfl)) (keepOf keep100) (by kernel_rfl) (by rw [F100_eq]; exact h)

/-- slices.Index[[]enclave/api.Atom,enclave/api.Atom] -/
def F101 (t0 t1 : AV) (σ : AHeap) (k kp : AV → AHeap → Prop) : Prop :=
  stepK (aBox t1 σ) fun t3 σ =>
  seqW (fun fr σ => (
  k (.val (Go.Value.int Go.IntKind.i64 (-1))) σ
  )) (fun j1 => (
  stepK (pureR σ (aLenK .slice t0 σ)) fun t7 σ =>
  loopW (fun fr σ again => (
  stepK (pureR σ (aBin .lss .prim (Abs.look fr 8) (Abs.look fr 7))) fun t9 σ =>
  condK t9 (
  stepK (pureR σ (aLoad true 3 (Abs.look fr 3) σ)) fun t11 σ =>
  stepK (pureR σ (aIndexAddr 3 (Abs.look fr 0) (Abs.look fr 8) σ)) fun t14 σ =>
  stepK (pureR σ (aLoad true 3 t14 σ)) fun t15 σ =>
  stepK (pureR σ (aBin .eql (.agg [.i, .i, .s]) t11 t15)) fun t16 σ =>
  condK t16 (
  k (Abs.look fr 8) σ
  ) (
  stepK (pureR σ (aBin .add .prim (Abs.look fr 8) (.val (Go.Value.int Go.IntKind.i64 1)))) fun t18 σ =>
  again [(0, (Abs.look fr 0)), (3, (Abs.look fr 3)), (7, (Abs.look fr 7)), (8, t18)] σ
  )
  ) (
  j1 [(0, (Abs.look fr 0))] σ
  )
  )) [(0, t0), (3, t3), (7, t7), (8, (.val (Go.Value.int Go.IntKind.i64 0)))] σ
  ))
def keep101 : List (Nat × List Nat) := [(0, [0, 3]), (3008, [0]), (1, [0, 3, 7, 8]), (2, [0, 3, 7, 8, 9]), (3, [0, 3, 5, 7, 8]), (4, [0, 3, 5, 7, 8, 16]), (2004, [0, 1, 2, 3, 4, 5]), (5, [4]), (6, [0, 3, 7, 8]), (1002, [0, 3, 7, 8]), (7, [4])]
noncomputable def body101 : Code := (Go.Proofs.Tryz.f101).body.getD .skip
theorem F101_eq (t0 t1 : AV) (σ : AHeap) (k kp : AV → AHeap → Prop) : aw Go.Proofs.Tryz.prog (keepOf keep101) body101 (retK Go.Proofs.Tryz.prog (Go.Proofs.Tryz.f101).results.toList k kp) (frameOf 0 [t0, t1]) σ = F101 t0 t1 σ k kp := by kernel_rfl
theorem F101_ev {t0 t1 : AV} {σ : AHeap} {k kp : AV → AHeap → Prop} (h : F101 t0 t1 σ k kp) : Ev Go.Proofs.Tryz.prog 101 [t0, t1] σ k kp :=
  Ev_of_aw mixed Go.Proofs.Tryz.func101 (show (Go.Proofs.Tryz.f101).body = some body101 by kernel_rfl) (by kernel_rfl) (args := [t0, t1]) (of_decide_eq_true (by kernel_rfl)) (keepOf keep101) (by kernel_rfl) (by rw [F101_eq]; exact h)

/-- enclave/words.all -/
def F110 (t0 t1 : AV) (σ : AHeap) (k kp : AV → AHeap → Prop) : Prop :=
  stepK (aBox t0 σ) fun t2 σ =>
  Ev Go.Proofs.Tryz.prog 131 [t1, (.fn (.func 132) [t2])] σ (fun t7 σ =>
  stepK (pureR σ (aNot t7)) fun t8 σ =>
  k t8 σ) kp
def keep110 : List (Nat × List Nat) := [(0, [1, 2]), (1, [4])]
noncomputable def body110 : Code := (Go.Proofs.Tryz.f110).body.getD .skip
theorem F110_eq (t0 t1 : AV) (σ : AHeap) (k kp : AV → AHeap → Prop) : aw Go.Proofs.Tryz.prog (keepOf keep110) body110 (retK Go.Proofs.Tryz.prog (Go.Proofs.Tryz.f110).results.toList k kp) (frameOf 0 [t0, t1]) σ = F110 t0 t1 σ k kp := by kernel_rfl
theorem F110_ev {t0 t1 : AV} {σ : AHeap} {k kp : AV → AHeap → Prop} (h : F110 t0 t1 σ k kp) : Ev Go.Proofs.Tryz.prog 110 [t0, t1] σ k kp :=
  Ev_of_aw mixed Go.Proofs.Tryz.func110 (show (Go.Proofs.Tryz.f110).body = some body110 by kernel_rfl) (by kernel_rfl) (args := [t0, t1]) (of_decide_eq_true (by kernel_rfl)) (keepOf keep110) (by kernel_rfl) (by rw [F110_eq]; exact h)

/-- enclave/words.Exn$1 -/
def F111 (t0 : AV) (σ : AHeap) (k kp : AV → AHeap → Prop) : Prop :=
  Ev Go.Proofs.Tryz.prog 112 [t0, (.val (Go.Value.int Go.IntKind.u8 4))] σ (fun t4 σ =>
  k t4 σ) kp
def keep111 : List (Nat × List Nat) := [(0, [0]), (1, [2])]
noncomputable def body111 : Code := (Go.Proofs.Tryz.f111).body.getD .skip
theorem F111_eq (t0 : AV) (σ : AHeap) (k kp : AV → AHeap → Prop) : aw Go.Proofs.Tryz.prog (keepOf keep111) body111 (retK Go.Proofs.Tryz.prog (Go.Proofs.Tryz.f111).results.toList k kp) (frameOf 0 [t0]) σ = F111 t0 σ k kp := by kernel_rfl
theorem F111_ev {t0 : AV} {σ : AHeap} {k kp : AV → AHeap → Prop} (h : F111 t0 σ k kp) : Ev Go.Proofs.Tryz.prog 111 [t0] σ k kp :=
  Ev_of_aw mixed Go.Proofs.Tryz.func111 (show (Go.Proofs.Tryz.f111).body = some body111 by kernel_rfl) (by kernel_rfl) (args := [t0]) (of_decide_eq_true (by kernel_rfl)) (keepOf keep111) (by kernel_rfl) (by rw [F111_eq]; exact h)

/-- enclave/words.shaped -/
def F112 (t0 t1 : AV) (σ : AHeap) (k kp : AV → AHeap → Prop) : Prop :=
  stepK (pureR σ (aBin .eql .prim t0 (.val (Go.Value.string { data := #[] })))) fun t6 σ =>
  gK t6 false (fun K => K t0 σ) (fun t8 σ =>
  gK t6 false (fun K => stepK (pureR σ (aLenK .str t8 σ)) K) (fun t9 σ =>
  gK t6 false (fun K => stepK (pureR σ (aBin .gtr .prim t9 (.val (Go.Value.int Go.IntKind.i64 16)))) K) (fun t10 σ =>
  stepK (pureR σ (aPick t6 (.val (Go.Value.bool Bool.true)) t10)) fun t11 σ =>
  gK t11 false (fun K => K t0 σ) (fun t13 σ =>
  gK t11 false (fun K => stepK (pureR σ (aIndexStr t13 (.val (Go.Value.int Go.IntKind.i64 0)))) K) (fun t14 σ =>
  gK t11 false (fun K => Ev Go.Proofs.Tryz.prog 133 [t14] σ K kp) (fun t15 σ =>
  gK t11 false (fun K => K t1 σ) (fun t16 σ =>
  gK t11 false (fun K => stepK (pureR σ (aBin .neq .prim t15 t16)) K) (fun t17 σ =>
  stepK (pureR σ (aPick t11 (.val (Go.Value.bool Bool.true)) t17)) fun t18 σ =>
  condK t18 (
  k (.val (Go.Value.bool Bool.false)) σ
  ) (
  stepK (pureR σ (aConv .bytes t0)) fun t20 σ =>
  stepK (pureR σ (aBuildSl 3 1 [.val (.int .u8 0)] [(0, (.val (Go.Value.int Go.IntKind.u8 3))), (1, (.val (Go.Value.int Go.IntKind.u8 4))), (2, (.val (Go.Value.int Go.IntKind.u8 2)))])) fun t21 σ =>
  Ev Go.Proofs.Tryz.prog 134 [t20, (.val (Go.Value.int Go.IntKind.i64 0)), t21] σ (fun t22 σ =>
  stepK (pureR σ (aLenK .str t0 σ)) fun t24 σ =>
  stepK (pureR σ (aBin .eql .prim t22 t24)) fun t25 σ =>
  k t25 σ
  ) kp)) σ) σ) σ) σ) σ) σ) σ) σ
def keep112 : List (Nat × List Nat) := [(0, [0, 1]), (1, [0, 18]), (2, [4]), (3, [4]), (4003, [1])]
noncomputable def body112 : Code := (Go.Proofs.Tryz.f112).body.getD .skip
theorem F112_eq (t0 t1 : AV) (σ : AHeap) (k kp : AV → AHeap → Prop) : aw Go.Proofs.Tryz.prog (keepOf keep112) body112 (retK Go.Proofs.Tryz.prog (Go.Proofs.Tryz.f112).results.toList k kp) (frameOf 0 [t0, t1]) σ = F112 t0 t1 σ k kp := by kernel_rfl
theorem F112_ev {t0 t1 : AV} {σ : AHeap} {k kp : AV → AHeap → Prop} (h : F112 t0 t1 σ k kp) : Ev Go.Proofs.Tryz.prog 112 [t0, t1] σ k kp :=
  Ev_of_aw mixed Go.Proofs.Tryz.func112 (show (Go.Proofs.Tryz.f112).body = some body112 by kernel_rfl) (by kernel_rfl) (args := [t0, t1]) (of_decide_eq_true (by kernel_rfl)) (keepOf keep112) (by kernel_rfl) (by rw [F112_eq]; exact h)

/-- slices.ContainsFunc[[]string,string] -/
def F131 (t0 t1 : AV) (σ : AHeap) (k kp : AV → AHeap → Prop) : Prop :=
  Ev Go.Proofs.Tryz.prog 143 [t0, t1] σ (fun t7 σ =>
  stepK (pureR σ (aBin .geq .prim t7 (.val (Go.Value.int Go.IntKind.i64 0)))) fun t8 σ =>
  k t8 σ) kp
def keep131 : List (Nat × List Nat) := [(0, [0, 1]), (1, [4])]
noncomputable def body131 : Code := (Go.Proofs.Tryz.f131).body.getD .skip
theorem F131_eq (t0 t1 : AV) (σ : AHeap) (k kp : AV → AHeap → Prop) : aw Go.Proofs.Tryz.prog (keepOf keep131) body131 (retK Go.Proofs.Tryz.prog (Go.Proofs.Tryz.f131).results.toList k kp) (frameOf 0 [t0, t1]) σ = F131 t0 t1 σ k kp := by kernel_rfl
theorem F131_ev {t0 t1 : AV} {σ : AHeap} {k kp : AV → AHeap → Prop} (h : F131 t0 t1 σ k kp) : Ev Go.Proofs.Tryz.prog 131 [t0, t1] σ k kp :=
  Ev_of_aw mixed Go.Proofs.Tryz.func131 (show (Go.Proofs.Tryz.f131).body = some body131 by kernel_rfl) (by kernel_rfl) (args := [t0, t1]) (of_decide_eq_true (by kernel_rfl)) (keepOf keep131) (by kernel_rfl) (by rw [F131_eq]; exact h)

/-- enclave/words.all$1 -/
def F132 (t0 t1 : AV) (σ : AHeap) (k kp : AV → AHeap → Prop) : Prop :=
  stepK (pureR σ (aLoad false 1 t1 σ)) fun t4 σ =>
  callK Go.Proofs.Tryz.prog t4 [t0] σ (fun t6 σ =>
  stepK (pureR σ (aNot t6)) fun t7 σ =>
  k t7 σ) kp
def keep132 : List (Nat × List Nat) := [(0, [0, 1]), (1, [3])]
noncomputable def body132 : Code := (Go.Proofs.Tryz.f132).body.getD .skip
theorem F132_eq (t0 t1 : AV) (σ : AHeap) (k kp : AV → AHeap → Prop) : aw Go.Proofs.Tryz.prog (keepOf keep132) body132 (retK Go.Proofs.Tryz.prog (Go.Proofs.Tryz.f132).results.toList k kp) (frameOf 0 [t0, t1]) σ = F132 t0 t1 σ k kp := by kernel_rfl
theorem F132_ev {t0 t1 : AV} {σ : AHeap} {k kp : AV → AHeap → Prop} (h : F132 t0 t1 σ k kp) : Ev Go.Proofs.Tryz.prog 132 [t0, t1] σ k kp :=
  Ev_of_aw mixed Go.Proofs.Tryz.func132 (show (Go.Proofs.Tryz.f132).body = some body132 by kernel_rfl) (by kernel_rfl) (args := [t0, t1]) (of_decide_eq_true (by kernel_rfl)) (keepOf keep132) (by kernel_rfl) (by rw [F132_eq]; exact h)

/-- enclave/chars.Class -/
def F133 (t0 : AV) (σ : AHeap) (k kp : AV → AHeap → Prop) : Prop :=
  Ev Go.Proofs.Tryz.prog 144 [(.val (Go.Value.string { data := #[32, 9, 10] })), t0] σ (fun t5 σ =>
  stepK (pureR σ (aBin .geq .prim t5 (.val (Go.Value.int Go.IntKind.i64 0)))) fun t6 σ =>
  condK t6 (
  k (.val (Go.Value.int Go.IntKind.u8 1)) σ
  ) (
  stepK (pureR σ (aBin .geq .prim t0 (.val (Go.Value.int Go.IntKind.u8 48)))) fun t9 σ =>
  gK t9 true (fun K => K t0 σ) (fun t11 σ =>
  gK t9 true (fun K => stepK (pureR σ (aBin .leq .prim t11 (.val (Go.Value.int Go.IntKind.u8 57)))) K) (fun t12 σ =>
  stepK (pureR σ (aPick t9 t12 (.val (Go.Value.bool Bool.false)))) fun t13 σ =>
  condK t13 (
  k (.val (Go.Value.int Go.IntKind.u8 2)) σ
  ) (
  stepK (pureR σ (aBin .geq .prim t0 (.val (Go.Value.int Go.IntKind.u8 97)))) fun t16 σ =>
  gK t16 true (fun K => K t0 σ) (fun t18 σ =>
  gK t16 true (fun K => stepK (pureR σ (aBin .leq .prim t18 (.val (Go.Value.int Go.IntKind.u8 122)))) K) (fun t19 σ =>
  stepK (pureR σ (aPick t16 t19 (.val (Go.Value.bool Bool.false)))) fun t20 σ =>
  condK t20 (
  k (.val (Go.Value.int Go.IntKind.u8 3)) σ
  ) (
  stepK (pureR σ (aBin .geq .prim t0 (.val (Go.Value.int Go.IntKind.u8 65)))) fun t23 σ =>
  gK t23 true (fun K => K t0 σ) (fun t25 σ =>
  gK t23 true (fun K => stepK (pureR σ (aBin .leq .prim t25 (.val (Go.Value.int Go.IntKind.u8 90)))) K) (fun t26 σ =>
  stepK (pureR σ (aPick t23 t26 (.val (Go.Value.bool Bool.false)))) fun t27 σ =>
  condK t27 (
  k (.val (Go.Value.int Go.IntKind.u8 4)) σ
  ) (
  Ev Go.Proofs.Tryz.prog 144 [(.val (Go.Value.string { data := #[40, 41, 44, 33, 58, 61, 62, 43, 45, 42, 60, 59] })), t0] σ (fun t30 σ =>
  stepK (pureR σ (aBin .geq .prim t30 (.val (Go.Value.int Go.IntKind.i64 0)))) fun t31 σ =>
  condK t31 (
  k (.val (Go.Value.int Go.IntKind.u8 5)) σ
  ) (
  k (.val (Go.Value.int Go.IntKind.u8 0)) σ
  )
  ) kp)
  ) σ) σ)
  ) σ) σ)
  ) σ) σ)) kp
def keep133 : List (Nat × List Nat) := [(0, [0]), (1, [0, 3]), (2, [2]), (3, [0, 7]), (4, [2]), (5, [0, 14]), (6, [2]), (7, [0, 21]), (8, [2]), (9, [28]), (10, [2]), (11, [2])]
noncomputable def body133 : Code := (Go.Proofs.Tryz.f133).body.getD .skip
theorem F133_eq (t0 : AV) (σ : AHeap) (k kp : AV → AHeap → Prop) : aw Go.Proofs.Tryz.prog (keepOf keep133) body133 (retK Go.Proofs.Tryz.prog (Go.Proofs.Tryz.f133).results.toList k kp) (frameOf 0 [t0]) σ = F133 t0 σ k kp := by kernel_rfl
theorem F133_ev {t0 : AV} {σ : AHeap} {k kp : AV → AHeap → Prop} (h : F133 t0 σ k kp) : Ev Go.Proofs.Tryz.prog 133 [t0] σ k kp :=
  Ev_of_aw mixed Go.Proofs.Tryz.func133 (show (Go.Proofs.Tryz.f133).body = some body133 by kernel_rfl) (by kernel_rfl) (args := [t0]) (of_decide_eq_true (by kernel_rfl)) (keepOf keep133) (by kernel_rfl) (by rw [F133_eq]; exact h)

/-- enclave/chars.Span -/
def F134 (t0 t1 t2 : AV) (σ : AHeap) (k kp : AV → AHeap → Prop) : Prop :=
  stepK (aBox t2 σ) fun t5 σ =>
  stepK (pureR σ (aBin .lss .prim t1 (.val (Go.Value.int Go.IntKind.i64 0)))) fun t9 σ =>
  gK t9 false (fun K => K t1 σ) (fun t11 σ =>
  gK t9 false (fun K => K t0 σ) (fun t12 σ =>
  gK t9 false (fun K => stepK (pureR σ (aLenK .slice t12 σ)) K) (fun t13 σ =>
  gK t9 false (fun K => stepK (pureR σ (aBin .geq .prim t11 t13)) K) (fun t14 σ =>
  stepK (pureR σ (aPick t9 (.val (Go.Value.bool Bool.true)) t14)) fun t15 σ =>
  condK t15 (
  k (.val (Go.Value.int Go.IntKind.i64 0)) σ
  ) (
  stepK (pureR σ (aSlice 1 t0 (some t1) none none)) fun t18 σ =>
  Ev Go.Proofs.Tryz.prog 145 [t18, (.fn (.func 146) [t5])] σ (fun t20 σ =>
  stepK (pureR σ (aBin .lss .prim t20 (.val (Go.Value.int Go.IntKind.i64 0)))) fun t22 σ =>
  condK t22 (
  stepK (pureR σ (aLenK .slice t0 σ)) fun t24 σ =>
  stepK (pureR σ (aBin .sub .prim t24 t1)) fun t26 σ =>
  k t26 σ
  ) (
  k t20 σ
  )
  ) kp)) σ) σ) σ) σ
def keep134 : List (Nat × List Nat) := [(0, [0, 1, 5]), (1, [0, 1, 5, 15]), (2, [6]), (3, [0, 1, 7]), (4, [0, 1, 7, 22]), (5, [6]), (6, [6])]
noncomputable def body134 : Code := (Go.Proofs.Tryz.f134).body.getD .skip
theorem F134_eq (t0 t1 t2 : AV) (σ : AHeap) (k kp : AV → AHeap → Prop) : aw Go.Proofs.Tryz.prog (keepOf keep134) body134 (retK Go.Proofs.Tryz.prog (Go.Proofs.Tryz.f134).results.toList k kp) (frameOf 0 [t0, t1, t2]) σ = F134 t0 t1 t2 σ k kp := by kernel_rfl
theorem F134_ev {t0 t1 t2 : AV} {σ : AHeap} {k kp : AV → AHeap → Prop} (h : F134 t0 t1 t2 σ k kp) : Ev Go.Proofs.Tryz.prog 134 [t0, t1, t2] σ k kp :=
  Ev_of_aw mixed Go.Proofs.Tryz.func134 (show (Go.Proofs.Tryz.f134).body = some body134 by kernel_rfl) (by kernel_rfl) (args := [t0, t1, t2]) (of_decide_eq_true (by kernel_rfl)) (keepOf keep134) (by kernel_rfl) (by rw [F134_eq]; exact h)

/-- slices.IndexFunc[[]string,string] -/
def F143 (t0 t1 : AV) (σ : AHeap) (k kp : AV → AHeap → Prop) : Prop :=
  seqW (fun fr σ => (
  k (.val (Go.Value.int Go.IntKind.i64 (-1))) σ
  )) (fun j1 => (
  stepK (pureR σ (aLenK .slice t0 σ)) fun t7 σ =>
  loopW (fun fr σ again => (
  stepK (pureR σ (aBin .lss .prim (Abs.look fr 8) (Abs.look fr 7))) fun t9 σ =>
  condK t9 (
  stepK (pureR σ (aIndexAddr 1 (Abs.look fr 0) (Abs.look fr 8) σ)) fun t14 σ =>
  stepK (pureR σ (aLoad false 1 t14 σ)) fun t15 σ =>
  callK Go.Proofs.Tryz.prog (Abs.look fr 1) [t15] σ (fun t16 σ =>
  condK t16 (
  k (Abs.look fr 8) σ
  ) (
  stepK (pureR σ (aBin .add .prim (Abs.look fr 8) (.val (Go.Value.int Go.IntKind.i64 1)))) fun t18 σ =>
  again [(0, (Abs.look fr 0)), (1, (Abs.look fr 1)), (7, (Abs.look fr 7)), (8, t18)] σ
  )
  ) kp) (
  j1 [(0, (Abs.look fr 0))] σ
  )
  )) [(0, t0), (1, t1), (7, t7), (8, (.val (Go.Value.int Go.IntKind.i64 0)))] σ
  ))
def keep143 : List (Nat × List Nat) := [(0, [0, 1]), (3008, [0]), (1, [0, 1, 7, 8]), (2, [0, 1, 7, 8, 9]), (3, [0, 1, 5, 7, 8]), (4, [0, 1, 5, 7, 8, 16]), (5, [4]), (6, [0, 1, 7, 8]), (1002, [0, 1, 7, 8]), (7, [4])]
noncomputable def body143 : Code := (Go.Proofs.Tryz.f143).body.getD .skip
theorem F143_eq (t0 t1 : AV) (σ : AHeap) (k kp : AV → AHeap → Prop) : aw Go.Proofs.Tryz.prog (keepOf keep143) body143 (retK Go.Proofs.Tryz.prog (Go.Proofs.Tryz.f143).results.toList k kp) (frameOf 0 [t0, t1]) σ = F143 t0 t1 σ k kp := by kernel_rfl
theorem F143_ev {t0 t1 : AV} {σ : AHeap} {k kp : AV → AHeap → Prop} (h : F143 t0 t1 σ k kp) : Ev Go.Proofs.Tryz.prog 143 [t0, t1] σ k kp :=
  Ev_of_aw mixed Go.Proofs.Tryz.func143 (show (Go.Proofs.Tryz.f143).body = some body143 by kernel_rfl) (by kernel_rfl) (args := [t0, t1]) (of_decide_eq_true (by kernel_rfl)) (keepOf keep143) (by kernel_rfl) (by rw [F143_eq]; exact h)

/-- strings.IndexByte -/
def F144 (t0 t1 : AV) (σ : AHeap) (k kp : AV → AHeap → Prop) : Prop :=
  Ev Go.Proofs.Tryz.prog 149 [t0, t1] σ (fun t7 σ =>
  k t7 σ) kp
def keep144 : List (Nat × List Nat) := [(0, [0, 1]), (1, [4])]
noncomputable def body144 : Code := (Go.Proofs.Tryz.f144).body.getD .skip
theorem F144_eq (t0 t1 : AV) (σ : AHeap) (k kp : AV → AHeap → Prop) : aw Go.Proofs.Tryz.prog (keepOf keep144) body144 (retK Go.Proofs.Tryz.prog (Go.Proofs.Tryz.f144).results.toList k kp) (frameOf 0 [t0, t1]) σ = F144 t0 t1 σ k kp := by kernel_rfl
theorem F144_ev {t0 t1 : AV} {σ : AHeap} {k kp : AV → AHeap → Prop} (h : F144 t0 t1 σ k kp) : Ev Go.Proofs.Tryz.prog 144 [t0, t1] σ k kp :=
  Ev_of_aw mixed Go.Proofs.Tryz.func144 (show (Go.Proofs.Tryz.f144).body = some body144 by kernel_rfl) (by kernel_rfl) (args := [t0, t1]) (of_decide_eq_true (by kernel_rfl)) (keepOf keep144) (by kernel_rfl) (by rw [F144_eq]; exact h)

/-- slices.IndexFunc[[]byte,byte] -/
def F145 (t0 t1 : AV) (σ : AHeap) (k kp : AV → AHeap → Prop) : Prop :=
  seqW (fun fr σ => (
  k (.val (Go.Value.int Go.IntKind.i64 (-1))) σ
  )) (fun j1 => (
  stepK (pureR σ (aLenK .slice t0 σ)) fun t7 σ =>
  loopW (fun fr σ again => (
  stepK (pureR σ (aBin .lss .prim (Abs.look fr 8) (Abs.look fr 7))) fun t9 σ =>
  condK t9 (
  stepK (pureR σ (aIndexAddr 1 (Abs.look fr 0) (Abs.look fr 8) σ)) fun t14 σ =>
  stepK (pureR σ (aLoad false 1 t14 σ)) fun t15 σ =>
  callK Go.Proofs.Tryz.prog (Abs.look fr 1) [t15] σ (fun t16 σ =>
  condK t16 (
  k (Abs.look fr 8) σ
  ) (
  stepK (pureR σ (aBin .add .prim (Abs.look fr 8) (.val (Go.Value.int Go.IntKind.i64 1)))) fun t18 σ =>
  again [(0, (Abs.look fr 0)), (1, (Abs.look fr 1)), (7, (Abs.look fr 7)), (8, t18)] σ
  )
  ) kp) (
  j1 [(0, (Abs.look fr 0))] σ
  )
  )) [(0, t0), (1, t1), (7, t7), (8, (.val (Go.Value.int Go.IntKind.i64 0)))] σ
  ))
def keep145 : List (Nat × List Nat) := [(0, [0, 1]), (3008, [0]), (1, [0, 1, 7, 8]), (2, [0, 1, 7, 8, 9]), (3, [0, 1, 5, 7, 8]), (4, [0, 1, 5, 7, 8, 16]), (5, [4]), (6, [0, 1, 7, 8]), (1002, [0, 1, 7, 8]), (7, [4])]
noncomputable def body145 : Code := (Go.Proofs.Tryz.f145).body.getD .skip
theorem F145_eq (t0 t1 : AV) (σ : AHeap) (k kp : AV → AHeap → Prop) : aw Go.Proofs.Tryz.prog (keepOf keep145) body145 (retK Go.Proofs.Tryz.prog (Go.Proofs.Tryz.f145).results.toList k kp) (frameOf 0 [t0, t1]) σ = F145 t0 t1 σ k kp := by kernel_rfl
theorem F145_ev {t0 t1 : AV} {σ : AHeap} {k kp : AV → AHeap → Prop} (h : F145 t0 t1 σ k kp) : Ev Go.Proofs.Tryz.prog 145 [t0, t1] σ k kp :=
  Ev_of_aw mixed Go.Proofs.Tryz.func145 (show (Go.Proofs.Tryz.f145).body = some body145 by kernel_rfl) (by kernel_rfl) (args := [t0, t1]) (of_decide_eq_true (by kernel_rfl)) (keepOf keep145) (by kernel_rfl) (by rw [F145_eq]; exact h)

/-- enclave/chars.Span$1 -/
def F146 (t0 t1 : AV) (σ : AHeap) (k kp : AV → AHeap → Prop) : Prop :=
  stepK (pureR σ (aLoad false 1 t1 σ)) fun t4 σ =>
  Ev Go.Proofs.Tryz.prog 133 [t0] σ (fun t6 σ =>
  (stepK (pureR σ (aLoad false 1 t1 σ)) (fun y θ => y = t4 ∧ θ = σ)) ∧ (
  Ev Go.Proofs.Tryz.prog 117 [t4, t6] σ (fun t7 σ =>
  stepK (pureR σ (aNot t7)) fun t8 σ =>
  k t8 σ) kp)) kp
def keep146 : List (Nat × List Nat) := [(0, [0, 1]), (1, [3]), (2001, [0, 1, 2, 3, 4, 5]), (101002, [0])]
noncomputable def body146 : Code := (Go.Proofs.Tryz.f146).body.getD .skip
theorem F146_eq (t0 t1 : AV) (σ : AHeap) (k kp : AV → AHeap → Prop) : aw Go.Proofs.Tryz.prog (keepOf keep146) body146 (retK Go.Proofs.Tryz.prog (Go.Proofs.Tryz.f146).results.toList k kp) (frameOf 0 [t0, t1]) σ = F146 t0 t1 σ k kp := by kernel_rfl
theorem F146_ev {t0 t1 : AV} {σ : AHeap} {k kp : AV → AHeap → Prop} (h : F146 t0 t1 σ k kp) : Ev Go.Proofs.Tryz.prog 146 [t0, t1] σ k kp :=
  Ev_of_aw mixed Go.Proofs.Tryz.func146 (show (Go.Proofs.Tryz.f146).body = some body146 by kernel_rfl) (by kernel_rfl) (args := [t0, t1]) (of_decide_eq_true (by kernel_rfl)) (keepOf keep146) (by kernel_rfl) (by rw [F146_eq]; exact h)

/-- internal/stringslite.IndexByte -/
def F149 (t0 t1 : AV) (σ : AHeap) (k kp : AV → AHeap → Prop) : Prop :=
  Ev Go.Proofs.Tryz.prog 151 [t0, t1] σ (fun t7 σ =>
  k t7 σ) kp
def keep149 : List (Nat × List Nat) := [(0, [0, 1]), (1, [4])]
noncomputable def body149 : Code := (Go.Proofs.Tryz.f149).body.getD .skip
theorem F149_eq (t0 t1 : AV) (σ : AHeap) (k kp : AV → AHeap → Prop) : aw Go.Proofs.Tryz.prog (keepOf keep149) body149 (retK Go.Proofs.Tryz.prog (Go.Proofs.Tryz.f149).results.toList k kp) (frameOf 0 [t0, t1]) σ = F149 t0 t1 σ k kp := by kernel_rfl
theorem F149_ev {t0 t1 : AV} {σ : AHeap} {k kp : AV → AHeap → Prop} (h : F149 t0 t1 σ k kp) : Ev Go.Proofs.Tryz.prog 149 [t0, t1] σ k kp :=
  Ev_of_aw mixed Go.Proofs.Tryz.func149 (show (Go.Proofs.Tryz.f149).body = some body149 by kernel_rfl) (by kernel_rfl) (args := [t0, t1]) (of_decide_eq_true (by kernel_rfl)) (keepOf keep149) (by kernel_rfl) (by rw [F149_eq]; exact h)

end Go.Proofs.AtD
