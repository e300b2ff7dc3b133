import Derived.Test.YtjilebpcaemopaaGreatDoorAbsK
import Derived.Test.YtjilebpcaemopaaGreatDoorProg
import Derived.KernelRfl
set_option maxRecDepth 100000
set_option linter.unusedVariables false
namespace Go.Proofs.MacD
open Go Go.Abs

theorem mixed : Go.Proofs.Tryz.prog.follows .mixedOrders = true := by kernel_rfl

/-- enclave/machine.Run -/
def F12 (t0 t1 t2 : AV) (σ : AHeap) (k kp : AV → AHeap → Prop) : Prop :=
  stepK (aBox t0 σ) fun t3 σ =>
  stepK (aBox t2 σ) fun t5 σ =>
  stepK (aAlloc [.val (.int .u8 0), .val (.bool false), .val (.int .i64 0), .val (.string ByteArray.empty), .val (.int .i64 0), .val (.int .i64 0), .val (.int .i64 0), .val (.int .i64 0)] σ) fun t6 σ =>
  stepK (pureR σ (aLoad true 19 t3 σ)) fun t10 σ =>
  Ev Go.Proofs.Tryz.prog 24 [t10] σ (fun t11 σ =>
  stepK (pureR σ (aNot t11)) fun t12 σ =>
  condK t12 (
  stepK (pureR σ (aBuild [.val (.int .u8 0), .val (.bool false), .val (.int .i64 0), .val (.string ByteArray.empty), .val (.int .i64 0), .val (.int .i64 0), .val (.int .i64 0), .val (.int .i64 0)] [])) fun t13 σ =>
  stepK (unitR (aStore 8 t6 t13 σ)) fun _ σ =>
  stepV (aLoad true 8 t6 σ) fun r0 =>
  k (.tup [r0, (.val (Go.Value.int Go.IntKind.i64 1))]) σ
  ) (
  stepK (pureR σ (aLoad true 2 t5 σ)) fun t14 σ =>
  Ev Go.Proofs.Tryz.prog 25 [t14] σ (fun t15 σ =>
  stepK (pureR σ (aMin t1 (.val (Go.Value.int Go.IntKind.i64 1099511627776)))) fun t17 σ =>
  stepK (pureR σ (aMax (.val (Go.Value.int Go.IntKind.i64 0)) t17)) fun t18 σ =>
  stepK (pureR σ (aBuild [.val (.pointer none), .val (.int .i64 0), .val (.int .i64 0), .val (.slice none 0 0), .val (.slice none 0 0)] [(0, 1, t15), (1, 1, t18)])) fun t19 σ =>
  stepK (aBox t19 σ) fun t20 σ =>
  Ev Go.Proofs.Tryz.prog 26 [t20, t3] σ (fun t22 σ =>
  stepK (aAlloc [.val (.int .u8 0), .val (.bool false), .val (.int .i64 0), .val (.string ByteArray.empty)] σ) fun t9 σ =>
  stepK (unitR (aStore 4 t9 t22 σ)) fun _ σ =>
  stepK (pureR σ (aLoad true 4 t9 σ)) fun t23 σ =>
  stepK (pureR σ (aNilCheck t20)) fun t25 σ =>
  stepK (pureR σ (aFieldAddr 2 t25)) fun t26 σ =>
  stepK (pureR σ (aLoad false 1 t26 σ)) fun t27 σ =>
  stepK (pureR σ (aNilCheck t20)) fun t29 σ =>
  stepK (pureR σ (aFieldAddr 0 t29)) fun t30 σ =>
  stepK (pureR σ (aLoad false 1 t30 σ)) fun t31 σ =>
  stepK (pureR σ (aNilCheck t20)) fun t34 σ =>
  stepK (pureR σ (aFieldAddr 0 t34)) fun t35 σ =>
  stepK (pureR σ (aLoad false 1 t35 σ)) fun t36 σ =>
  stepK (pureR σ (aNilCheck t20)) fun t39 σ =>
  stepK (pureR σ (aFieldAddr 0 t39)) fun t40 σ =>
  stepK (pureR σ (aLoad false 1 t40 σ)) fun t41 σ =>
  Ev Go.Proofs.Tryz.prog 27 [t31] σ (fun t32 σ =>
  (stepK (pureR σ (aLoad true 4 t9 σ)) (fun y θ => y = t23 ∧ θ = σ)) ∧ (
  (stepK (pureR σ (aLoad false 1 t26 σ)) (fun y θ => y = t27 ∧ θ = σ)) ∧ (
  (stepK (pureR σ (aLoad false 1 t35 σ)) (fun y θ => y = t36 ∧ θ = σ)) ∧ (
  (stepK (pureR σ (aLoad false 1 t40 σ)) (fun y θ => y = t41 ∧ θ = σ)) ∧ (
  Ev Go.Proofs.Tryz.prog 28 [t36] σ (fun t37 σ =>
  (stepK (pureR σ (aLoad true 4 t9 σ)) (fun y θ => y = t23 ∧ θ = σ)) ∧ (
  (stepK (pureR σ (aLoad false 1 t26 σ)) (fun y θ => y = t27 ∧ θ = σ)) ∧ (
  (stepK (pureR σ (aLoad false 1 t40 σ)) (fun y θ => y = t41 ∧ θ = σ)) ∧ (
  Ev Go.Proofs.Tryz.prog 29 [t41] σ (fun t42 σ =>
  (stepK (pureR σ (aLoad true 4 t9 σ)) (fun y θ => y = t23 ∧ θ = σ)) ∧ (
  (stepK (pureR σ (aLoad false 1 t26 σ)) (fun y θ => y = t27 ∧ θ = σ)) ∧ (
  stepK (pureR σ (aBuild [.val (.int .u8 0), .val (.bool false), .val (.int .i64 0), .val (.string ByteArray.empty), .val (.int .i64 0), .val (.int .i64 0), .val (.int .i64 0), .val (.int .i64 0)] [(0, 4, t23), (4, 1, t27), (5, 1, t32), (6, 1, t37), (7, 1, t42)])) fun t43 σ =>
  stepK (unitR (aStore 8 t6 t43 σ)) fun _ σ =>
  stepV (aLoad true 8 t6 σ) fun r0 =>
  k (.tup [r0, (.val (Go.Value.int Go.IntKind.i64 0))]) σ
  ))) kp)))) kp))))) kp) kp) kp)) kp
def keep12 : List (Nat × List Nat) := [(0, [1, 3, 5, 6]), (1, [1, 3, 5, 6, 12]), (2, [6, 7]), (3, [3, 6, 8]), (4, [6, 8, 9]), (5, [6, 7]), (2005, [0, 1, 2, 3, 4, 5, 6, 7, 8, 10, 11, 12, 13, 15, 16, 17, 18, 9, 14, 19, 20, 21, 22]), (105009, [0, 4, 13, 18]), (105014, [0, 4, 18]), (105019, [0, 4])]
noncomputable def body12 : Code := (Go.Proofs.Tryz.f12).body.getD .skip
theorem F12_eq (t0 t1 t2 : AV) (σ : AHeap) (k kp : AV → AHeap → Prop) : aw Go.Proofs.Tryz.prog (keepOf keep12) body12 (retK Go.Proofs.Tryz.prog (Go.Proofs.Tryz.f12).results.toList k kp) (frameOf 0 [t0, t1, t2]) σ = F12 t0 t1 t2 σ k kp := by kernel_rfl
theorem F12_ev {t0 t1 t2 : AV} {σ : AHeap} {k kp : AV → AHeap → Prop} (h : F12 t0 t1 t2 σ k kp) : Ev Go.Proofs.Tryz.prog 12 [t0, t1, t2] σ k kp :=
  Ev_of_aw mixed Go.Proofs.Tryz.func12 (show (Go.Proofs.Tryz.f12).body = some body12 by kernel_rfl) (by kernel_rfl) (args := [t0, t1, t2]) (of_decide_eq_true (by kernel_rfl)) (keepOf keep12) (by kernel_rfl) (by rw [F12_eq]; exact h)

/-- enclave/stack.New -/
def F25 (t0 : AV) (σ : AHeap) (k kp : AV → AHeap → Prop) : Prop :=
  stepK (aBox t0 σ) fun t1 σ =>
  stepK (pureR σ (aFieldAddr 0 t1)) fun t3 σ =>
  stepK (pureR σ (aLoad false 1 t3 σ)) fun t4 σ =>
  stepK (pureR σ (aMin t4 (.val (Go.Value.int Go.IntKind.i64 1048576)))) fun t5 σ =>
  stepK (pureR σ (aMax (.val (Go.Value.int Go.IntKind.i64 1)) t5)) fun t6 σ =>
  stepK (pureR σ (aFieldAddr 0 t1)) fun t7 σ =>
  stepK (unitR (aStore 1 t7 t6 σ)) fun _ σ =>
  stepK (pureR σ (aFieldAddr 1 t1)) fun t8 σ =>
  stepK (pureR σ (aLoad false 1 t8 σ)) fun t9 σ =>
  stepK (pureR σ (aMin t9 (.val (Go.Value.int Go.IntKind.i64 4194304)))) fun t10 σ =>
  stepK (pureR σ (aMax (.val (Go.Value.int Go.IntKind.i64 0)) t10)) fun t11 σ =>
  stepK (pureR σ (aFieldAddr 1 t1)) fun t12 σ =>
  stepK (unitR (aStore 1 t12 t11 σ)) fun _ σ =>
  stepK (pureR σ (aLoad true 2 t1 σ)) fun t13 σ =>
  stepK (aMakeMap σ) fun t14 σ =>
  stepK (unitR (aMapUpdate (.int .i64) t14 (.val (Go.Value.int Go.IntKind.i64 0)) (.val (Go.Value.slice Option.none 0 0)) σ)) fun _ σ =>
  stepK (aBuildSlice 1 1 [.val (.int .i64 0)] [(0, (.val (Go.Value.int Go.IntKind.i64 0)))] σ) fun t16 σ =>
  stepK (pureR σ (aBuild [.val (.int .i64 0), .val (.int .i64 0), .val (.map none), .val (.slice none 0 0), .val (.int .i64 0), .val (.int .i64 0), .val (.int .i64 0)] [(0, 2, t13), (2, 1, t14), (3, 1, t16), (4, 1, (.val (Go.Value.int Go.IntKind.i64 1)))])) fun t17 σ =>
  stepK (aBox t17 σ) fun t18 σ =>
  k t18 σ
def keep25 : List (Nat × List Nat) := [(0, [1]), (1, [1]), (2, [1]), (3, [2])]
noncomputable def body25 : Code := (Go.Proofs.Tryz.f25).body.getD .skip
theorem F25_eq (t0 : AV) (σ : AHeap) (k kp : AV → AHeap → Prop) : aw Go.Proofs.Tryz.prog (keepOf keep25) body25 (retK Go.Proofs.Tryz.prog (Go.Proofs.Tryz.f25).results.toList k kp) (frameOf 0 [t0]) σ = F25 t0 σ k kp := by kernel_rfl
theorem F25_ev {t0 : AV} {σ : AHeap} {k kp : AV → AHeap → Prop} (h : F25 t0 σ k kp) : Ev Go.Proofs.Tryz.prog 25 [t0] σ k kp :=
  Ev_of_aw mixed Go.Proofs.Tryz.func25 (show (Go.Proofs.Tryz.f25).body = some body25 by kernel_rfl) (by kernel_rfl) (args := [t0]) (of_decide_eq_true (by kernel_rfl)) (keepOf keep25) (by kernel_rfl) (by rw [F25_eq]; exact h)

/-- (*enclave/stack.Store).Regions -/
def F27 (t0 : AV) (σ : AHeap) (k kp : AV → AHeap → Prop) : Prop :=
  stepK (pureR σ (aBin .eql .ptr t0 (.val (Go.Value.pointer Option.none)))) fun t4 σ =>
  condK t4 (
  k (.val (Go.Value.int Go.IntKind.i64 0)) σ
  ) (
  stepK (pureR σ (aNilCheck t0)) fun t6 σ =>
  stepK (pureR σ (aFieldAddr 3 t6)) fun t7 σ =>
  stepK (pureR σ (aLoad false 1 t7 σ)) fun t8 σ =>
  stepK (pureR σ (aLenK .slice t8 σ)) fun t9 σ =>
  k t9 σ
  )
def keep27 : List (Nat × List Nat) := [(0, [0]), (1, [0, 4]), (2, [2]), (3, [2])]
noncomputable def body27 : Code := (Go.Proofs.Tryz.f27).body.getD .skip
theorem F27_eq (t0 : AV) (σ : AHeap) (k kp : AV → AHeap → Prop) : aw Go.Proofs.Tryz.prog (keepOf keep27) body27 (retK Go.Proofs.Tryz.prog (Go.Proofs.Tryz.f27).results.toList k kp) (frameOf 0 [t0]) σ = F27 t0 σ k kp := by kernel_rfl
theorem F27_ev {t0 : AV} {σ : AHeap} {k kp : AV → AHeap → Prop} (h : F27 t0 σ k kp) : Ev Go.Proofs.Tryz.prog 27 [t0] σ k kp :=
  Ev_of_aw mixed Go.Proofs.Tryz.func27 (show (Go.Proofs.Tryz.f27).body = some body27 by kernel_rfl) (by kernel_rfl) (args := [t0]) (of_decide_eq_true (by kernel_rfl)) (keepOf keep27) (by kernel_rfl) (by rw [F27_eq]; exact h)

/-- (*enclave/stack.Store).Cells -/
def F28 (t0 : AV) (σ : AHeap) (k kp : AV → AHeap → Prop) : Prop :=
  stepK (pureR σ (aBin .eql .ptr t0 (.val (Go.Value.pointer Option.none)))) fun t4 σ =>
  condK t4 (
  k (.val (Go.Value.int Go.IntKind.i64 0)) σ
  ) (
  stepK (pureR σ (aNilCheck t0)) fun t6 σ =>
  stepK (pureR σ (aFieldAddr 5 t6)) fun t7 σ =>
  stepK (pureR σ (aLoad false 1 t7 σ)) fun t8 σ =>
  k t8 σ
  )
def keep28 : List (Nat × List Nat) := [(0, [0]), (1, [0, 4]), (2, [2]), (3, [2])]
noncomputable def body28 : Code := (Go.Proofs.Tryz.f28).body.getD .skip
theorem F28_eq (t0 : AV) (σ : AHeap) (k kp : AV → AHeap → Prop) : aw Go.Proofs.Tryz.prog (keepOf keep28) body28 (retK Go.Proofs.Tryz.prog (Go.Proofs.Tryz.f28).results.toList k kp) (frameOf 0 [t0]) σ = F28 t0 σ k kp := by kernel_rfl
theorem F28_ev {t0 : AV} {σ : AHeap} {k kp : AV → AHeap → Prop} (h : F28 t0 σ k kp) : Ev Go.Proofs.Tryz.prog 28 [t0] σ k kp :=
  Ev_of_aw mixed Go.Proofs.Tryz.func28 (show (Go.Proofs.Tryz.f28).body = some body28 by kernel_rfl) (by kernel_rfl) (args := [t0]) (of_decide_eq_true (by kernel_rfl)) (keepOf keep28) (by kernel_rfl) (by rw [F28_eq]; exact h)

/-- (*enclave/stack.Store).Most -/
def F29 (t0 : AV) (σ : AHeap) (k kp : AV → AHeap → Prop) : Prop :=
  stepK (pureR σ (aBin .eql .ptr t0 (.val (Go.Value.pointer Option.none)))) fun t4 σ =>
  condK t4 (
  k (.val (Go.Value.int Go.IntKind.i64 0)) σ
  ) (
  stepK (pureR σ (aNilCheck t0)) fun t6 σ =>
  stepK (pureR σ (aFieldAddr 6 t6)) fun t7 σ =>
  stepK (pureR σ (aLoad false 1 t7 σ)) fun t8 σ =>
  k t8 σ
  )
def keep29 : List (Nat × List Nat) := [(0, [0]), (1, [0, 4]), (2, [2]), (3, [2])]
noncomputable def body29 : Code := (Go.Proofs.Tryz.f29).body.getD .skip
theorem F29_eq (t0 : AV) (σ : AHeap) (k kp : AV → AHeap → Prop) : aw Go.Proofs.Tryz.prog (keepOf keep29) body29 (retK Go.Proofs.Tryz.prog (Go.Proofs.Tryz.f29).results.toList k kp) (frameOf 0 [t0]) σ = F29 t0 σ k kp := by kernel_rfl
theorem F29_ev {t0 : AV} {σ : AHeap} {k kp : AV → AHeap → Prop} (h : F29 t0 σ k kp) : Ev Go.Proofs.Tryz.prog 29 [t0] σ k kp :=
  Ev_of_aw mixed Go.Proofs.Tryz.func29 (show (Go.Proofs.Tryz.f29).body = some body29 by kernel_rfl) (by kernel_rfl) (args := [t0]) (of_decide_eq_true (by kernel_rfl)) (keepOf keep29) (by kernel_rfl) (by rw [F29_eq]; exact h)

/-- (*enclave/machine.machine).enter -/
def F43 (t0 t1 t2 : AV) (σ : AHeap) (k kp : AV → AHeap → Prop) : Prop :=
  stepK (aBox t2 σ) fun t5 σ =>
  stepK (aAlloc [.val (.pointer none), .val (.pointer none), .val (.pointer none), .val (.int .u8 0), .val (.int .i64 0), .val (.int .i64 0), .val (.int .i64 0), .val (.bool false), .val (.string ByteArray.empty)] σ) fun t6 σ =>
  stepK (pureR σ (aNilCheck t1)) fun t12 σ =>
  stepK (pureR σ (aFieldAddr 0 t12)) fun t13 σ =>
  stepK (pureR σ (aFieldAddr 0 t13)) fun t14 σ =>
  stepK (pureR σ (aLoad false 1 t14 σ)) fun t15 σ =>
  stepK (pureR σ (aBin .eql .prim t15 (.val (Go.Value.int Go.IntKind.u8 17)))) fun t16 σ =>
  condK t16 (
  stepK (pureR σ (aNilCheck t0)) fun t19 σ =>
  stepK (pureR σ (aFieldAddr 0 t19)) fun t20 σ =>
  stepK (pureR σ (aLoad false 1 t20 σ)) fun t21 σ =>
  Ev Go.Proofs.Tryz.prog 78 [t21] σ (fun t22 σ =>
  stepK (pureR σ (aExtract 0 t22)) fun t23 σ =>
  stepK (pureR σ (aExtract 1 t22)) fun t24 σ =>
  Ev Go.Proofs.Tryz.prog 79 [t24, (.val (Go.Value.int Go.IntKind.u8 4))] σ (fun t26 σ =>
  stepK (pureR σ (aNilCheck t0)) fun t29 σ =>
  stepK (pureR σ (aFieldAddr 4 t29)) fun t30 σ =>
  stepK (pureR σ (aLoad false 1 t30 σ)) fun t31 σ =>
  stepK (pureR σ (aLoad true 2 t5 σ)) fun t33 σ =>
  stepK (pureR σ (aBuild [.val (.pointer none), .val (.pointer none), .val (.pointer none), .val (.slice none 0 0)] [(0, 1, t1), (1, 2, t33), (3, 1, (.val (Go.Value.slice Option.none 0 0)))])) fun t34 σ =>
  stepK (pureR σ (aBuildSl 1 4 [.val (.pointer none), .val (.pointer none), .val (.pointer none), .val (.slice none 0 0)] [(0, t34)])) fun t35 σ =>
  stepK (aAppend 4 48 t31 t35 σ) fun t36 σ =>
  stepK (pureR σ (aNilCheck t0)) fun t37 σ =>
  stepK (pureR σ (aFieldAddr 4 t37)) fun t38 σ =>
  stepK (unitR (aStore 1 t38 t36 σ)) fun _ σ =>
  stepK (pureR σ (aNilCheck t1)) fun t40 σ =>
  stepK (pureR σ (aFieldAddr 18 t40)) fun t41 σ =>
  stepK (pureR σ (aLoad false 1 t41 σ)) fun t42 σ =>
  stepK (pureR σ (aIndexAddr 19 t42 (.val (Go.Value.int Go.IntKind.i64 0)) σ)) fun t43 σ =>
  stepK (pureR σ (aLoad true 2 t5 σ)) fun t44 σ =>
  stepK (pureR σ (aNilCheck t1)) fun t46 σ =>
  stepK (pureR σ (aFieldAddr 7 t46)) fun t47 σ =>
  stepK (pureR σ (aLoad false 1 t47 σ)) fun t48 σ =>
  Ev Go.Proofs.Tryz.prog 80 [t44, t48, t23] σ (fun t50 σ =>
  (stepK (pureR σ (aLoad false 1 t41 σ)) (fun y θ => y = t42 ∧ θ = σ)) ∧ (
  (stepK (pureR σ (aIndexAddr 19 t42 (.val (Go.Value.int Go.IntKind.i64 0)) σ)) (fun y θ => y = t43 ∧ θ = σ)) ∧ (
  stepK (pureR σ (aBuild [.val (.pointer none), .val (.pointer none), .val (.pointer none), .val (.int .u8 0), .val (.int .i64 0), .val (.int .i64 0), .val (.int .i64 0), .val (.bool false), .val (.string ByteArray.empty)] [(0, 1, t43), (1, 2, t50)])) fun t51 σ =>
  stepK (unitR (aStore 9 t6 t51 σ)) fun _ σ =>
  stepV (aLoad true 9 t6 σ) fun r0 =>
  k r0 σ
  ))) kp) kp) kp) (
  Ev Go.Proofs.Tryz.prog 81 [t0] σ (fun t53 σ =>
  stepK (pureR σ (aNilCheck t1)) fun t55 σ =>
  stepK (pureR σ (aFieldAddr 0 t55)) fun t56 σ =>
  stepK (pureR σ (aFieldAddr 0 t56)) fun t57 σ =>
  stepK (pureR σ (aLoad false 1 t57 σ)) fun t58 σ =>
  stepK (pureR σ (aBin .eql .prim t58 (.val (Go.Value.int Go.IntKind.u8 1)))) fun t60 σ =>
  condK t60 (
  stepK (pureR σ (aNilCheck t1)) fun t62 σ =>
  stepK (pureR σ (aFieldAddr 0 t62)) fun t63 σ =>
  stepK (pureR σ (aFieldAddr 3 t63)) fun t64 σ =>
  stepK (pureR σ (aLoad false 1 t64 σ)) fun t65 σ =>
  Ev Go.Proofs.Tryz.prog 83 [t65] σ (fun t66 σ =>
  Ev Go.Proofs.Tryz.prog 82 [t66] σ (fun t67 σ =>
  stepK (unitR (aStore 9 t6 t67 σ)) fun _ σ =>
  stepV (aLoad true 9 t6 σ) fun r0 =>
  k r0 σ
  ) kp) kp) (
  stepK (pureR σ (aBin .eql .prim t58 (.val (Go.Value.int Go.IntKind.u8 2)))) fun t69 σ =>
  condK t69 (
  stepK (pureR σ (aLoad true 2 t5 σ)) fun t70 σ =>
  stepK (pureR σ (aNilCheck t1)) fun t72 σ =>
  stepK (pureR σ (aFieldAddr 0 t72)) fun t73 σ =>
  stepK (pureR σ (aFieldAddr 4 t73)) fun t74 σ =>
  stepK (pureR σ (aLoad false 1 t74 σ)) fun t75 σ =>
  Ev Go.Proofs.Tryz.prog 84 [t70, t75] σ (fun t76 σ =>
  stepK (pureR σ (aBin .neq .ptr t76 (.val (Go.Value.pointer Option.none)))) fun t78 σ =>
  gK t78 true (fun K => K t76 σ) (fun t80 σ =>
  gK t78 true (fun K => stepK (pureR σ (aNilCheck t80)) K) (fun t81 σ =>
  gK t78 true (fun K => stepK (pureR σ (aFieldAddr 5 t81)) K) (fun t82 σ =>
  gK t78 true (fun K => stepK (pureR σ (aLoad false 1 t82 σ)) K) (fun t83 σ =>
  gK t78 true (fun K => stepK (pureR σ (aNot t83)) K) (fun t84 σ =>
  stepK (pureR σ (aPick t78 t84 (.val (Go.Value.bool Bool.false)))) fun t85 σ =>
  Ev Go.Proofs.Tryz.prog 79 [t85, (.val (Go.Value.int Go.IntKind.u8 6))] σ (fun t86 σ =>
  stepK (pureR σ (aNilCheck t76)) fun t88 σ =>
  stepK (pureR σ (aFieldAddr 1 t88)) fun t89 σ =>
  stepK (pureR σ (aLoad true 4 t89 σ)) fun t90 σ =>
  Ev Go.Proofs.Tryz.prog 82 [t90] σ (fun t91 σ =>
  stepK (unitR (aStore 9 t6 t91 σ)) fun _ σ =>
  stepV (aLoad true 9 t6 σ) fun r0 =>
  k r0 σ
  ) kp) kp) σ) σ) σ) σ) σ) kp) (
  stepK (pureR σ (aBin .eql .prim t58 (.val (Go.Value.int Go.IntKind.u8 18)))) fun t93 σ =>
  condK t93 (
  stepK (pureR σ (aLoad true 2 t5 σ)) fun t96 σ =>
  Ev Go.Proofs.Tryz.prog 85 [t0, t1, t96] σ (fun t97 σ =>
  Ev Go.Proofs.Tryz.prog 82 [t97] σ (fun t98 σ =>
  stepK (unitR (aStore 9 t6 t98 σ)) fun _ σ =>
  stepV (aLoad true 9 t6 σ) fun r0 =>
  k r0 σ
  ) kp) kp) (
  stepK (pureR σ (aBin .eql .prim t58 (.val (Go.Value.int Go.IntKind.u8 11)))) fun t100 σ =>
  condK t100 (
  stepK (pureR σ (aLoad true 2 t5 σ)) fun t102 σ =>
  stepK (pureR σ (aNilCheck t1)) fun t104 σ =>
  stepK (pureR σ (aFieldAddr 7 t104)) fun t105 σ =>
  stepK (pureR σ (aLoad false 1 t105 σ)) fun t106 σ =>
  stepK (pureR σ (aNilCheck t1)) fun t109 σ =>
  stepK (pureR σ (aFieldAddr 18 t109)) fun t110 σ =>
  stepK (pureR σ (aLoad false 1 t110 σ)) fun t111 σ =>
  stepK (pureR σ (aIndexAddr 19 t111 (.val (Go.Value.int Go.IntKind.i64 0)) σ)) fun t112 σ =>
  stepK (pureR σ (aNilCheck t1)) fun t114 σ =>
  stepK (pureR σ (aFieldAddr 0 t114)) fun t115 σ =>
  stepK (pureR σ (aFieldAddr 5 t115)) fun t116 σ =>
  stepK (pureR σ (aLoad false 1 t116 σ)) fun t117 σ =>
  stepK (pureR σ (aLoad true 2 t5 σ)) fun t118 σ =>
  stepK (pureR σ (aBuild [.val (.pointer none), .val (.string ByteArray.empty), .val (.pointer none), .val (.pointer none), .val (.slice none 0 0)] [(0, 1, t112), (1, 1, t117), (2, 2, t118), (4, 1, (.val (Go.Value.slice Option.none 0 0)))])) fun t119 σ =>
  Ev Go.Proofs.Tryz.prog 87 [t0, t119] σ (fun t120 σ =>
  (stepK (pureR σ (aLoad true 2 t5 σ)) (fun y θ => y = t102 ∧ θ = σ)) ∧ (
  (stepK (pureR σ (aLoad false 1 t105 σ)) (fun y θ => y = t106 ∧ θ = σ)) ∧ (
  Ev Go.Proofs.Tryz.prog 86 [t0, t102, t106, t120] σ (fun t121 σ =>
  Ev Go.Proofs.Tryz.prog 82 [t121] σ (fun t122 σ =>
  stepK (unitR (aStore 9 t6 t122 σ)) fun _ σ =>
  stepV (aLoad true 9 t6 σ) fun r0 =>
  k r0 σ
  ) kp) kp))) kp) (
  stepK (pureR σ (aBin .eql .prim t58 (.val (Go.Value.int Go.IntKind.u8 13)))) fun t124 σ =>
  condK t124 (
  seqW (fun fr σ => (
  stepK (pureR σ (aLoad true 2 (Abs.look fr 5) σ)) fun t150 σ =>
  stepK (pureR σ (aNilCheck (Abs.look fr 1))) fun t152 σ =>
  stepK (pureR σ (aFieldAddr 0 t152)) fun t153 σ =>
  stepK (pureR σ (aFieldAddr 4 t153)) fun t154 σ =>
  stepK (pureR σ (aLoad false 1 t154 σ)) fun t155 σ =>
  stepK (pureR σ (aLoad true 4 (Abs.look fr 10) σ)) fun t156 σ =>
  Ev Go.Proofs.Tryz.prog 88 [t150, t155, t156, (.val (Go.Value.bool Bool.true))] σ (fun t157 σ =>
  stepK (unitR (aStore 2 (Abs.look fr 5) t157 σ)) fun _ σ =>
  stepK (pureR σ (aNilCheck (Abs.look fr 0))) fun t159 σ =>
  stepK (pureR σ (aFieldAddr 3 t159)) fun t160 σ =>
  stepK (pureR σ (aLoad false 1 t160 σ)) fun t161 σ =>
  stepK (pureR σ (aNilCheck (Abs.look fr 0))) fun t163 σ =>
  stepK (pureR σ (aFieldAddr 3 t163)) fun t164 σ =>
  stepK (pureR σ (aLoad false 1 t164 σ)) fun t165 σ =>
  stepK (pureR σ (aLenK .slice t165 σ)) fun t166 σ =>
  stepK (pureR σ (aBin .sub .prim t166 (.val (Go.Value.int Go.IntKind.i64 1)))) fun t167 σ =>
  stepK (pureR σ (aLoad true 2 (Abs.look fr 5) σ)) fun t168 σ =>
  stepK (pureR σ (aIndexAddr 5 t161 t167 σ)) fun t169 σ =>
  stepK (pureR σ (aFieldAddr 2 t169)) fun t170 σ =>
  stepK (unitR (aStore 2 t170 t168 σ)) fun _ σ =>
  stepK (pureR σ (aNilCheck (Abs.look fr 1))) fun t172 σ =>
  stepK (pureR σ (aFieldAddr 18 t172)) fun t173 σ =>
  stepK (pureR σ (aLoad false 1 t173 σ)) fun t174 σ =>
  stepK (pureR σ (aIndexAddr 19 t174 (.val (Go.Value.int Go.IntKind.i64 1)) σ)) fun t175 σ =>
  stepK (pureR σ (aLoad true 2 (Abs.look fr 5) σ)) fun t176 σ =>
  stepK (pureR σ (aBuild [.val (.pointer none), .val (.pointer none), .val (.pointer none), .val (.int .u8 0), .val (.int .i64 0), .val (.int .i64 0), .val (.int .i64 0), .val (.bool false), .val (.string ByteArray.empty)] [(0, 1, t175), (1, 2, t176)])) fun t177 σ =>
  stepK (unitR (aStore 9 (Abs.look fr 6) t177 σ)) fun _ σ =>
  stepV (aLoad true 9 (Abs.look fr 6) σ) fun r0 =>
  k r0 σ
  ) kp)) (fun j1 => (
  (
  stepK (pureR σ (aLoad true 2 t5 σ)) fun t126 σ =>
  stepK (pureR σ (aNilCheck t1)) fun t128 σ =>
  stepK (pureR σ (aFieldAddr 7 t128)) fun t129 σ =>
  stepK (pureR σ (aLoad false 1 t129 σ)) fun t130 σ =>
  stepK (pureR σ (aNilCheck t1)) fun t133 σ =>
  stepK (pureR σ (aFieldAddr 18 t133)) fun t134 σ =>
  stepK (pureR σ (aLoad false 1 t134 σ)) fun t135 σ =>
  stepK (pureR σ (aIndexAddr 19 t135 (.val (Go.Value.int Go.IntKind.i64 0)) σ)) fun t136 σ =>
  stepK (pureR σ (aNilCheck t1)) fun t138 σ =>
  stepK (pureR σ (aFieldAddr 0 t138)) fun t139 σ =>
  stepK (pureR σ (aFieldAddr 5 t139)) fun t140 σ =>
  stepK (pureR σ (aLoad false 1 t140 σ)) fun t141 σ =>
  stepK (pureR σ (aLoad true 2 t5 σ)) fun t142 σ =>
  stepK (pureR σ (aNilCheck t1)) fun t144 σ =>
  stepK (pureR σ (aFieldAddr 8 t144)) fun t145 σ =>
  stepK (pureR σ (aLoad false 1 t145 σ)) fun t146 σ =>
  stepK (pureR σ (aBuild [.val (.pointer none), .val (.string ByteArray.empty), .val (.pointer none), .val (.pointer none), .val (.slice none 0 0)] [(0, 1, t136), (1, 1, t141), (2, 2, t142), (4, 1, t146)])) fun t147 σ =>
  Ev Go.Proofs.Tryz.prog 87 [t0, t147] σ (fun t148 σ =>
  (stepK (pureR σ (aLoad true 2 t5 σ)) (fun y θ => y = t126 ∧ θ = σ)) ∧ (
  (stepK (pureR σ (aLoad false 1 t129 σ)) (fun y θ => y = t130 ∧ θ = σ)) ∧ (
  Ev Go.Proofs.Tryz.prog 86 [t0, t126, t130, t148] σ (fun t149 σ =>
  stepK (aAlloc [.val (.int .u8 0), .val (.int .i64 0), .val (.int .i64 0), .val (.int .i64 0)] σ) fun t10 σ =>
  (stepK (pureR σ (aLoad true 2 t5 σ)) (fun y θ => y = t126 ∧ θ = σ)) ∧ (
  (stepK (pureR σ (aLoad false 1 t129 σ)) (fun y θ => y = t130 ∧ θ = σ)) ∧ (
  (stepK (pureR σ (aLoad false 1 t134 σ)) (fun y θ => y = t135 ∧ θ = σ)) ∧ (
  (stepK (pureR σ (aIndexAddr 19 t135 (.val (Go.Value.int Go.IntKind.i64 0)) σ)) (fun y θ => y = t136 ∧ θ = σ)) ∧ (
  (stepK (pureR σ (aLoad false 1 t140 σ)) (fun y θ => y = t141 ∧ θ = σ)) ∧ (
  (stepK (pureR σ (aLoad true 2 t5 σ)) (fun y θ => y = t142 ∧ θ = σ)) ∧ (
  (stepK (pureR σ (aLoad false 1 t145 σ)) (fun y θ => y = t146 ∧ θ = σ)) ∧ (
  stepK (unitR (aStore 4 t10 t149 σ)) fun _ σ =>
  j1 [(0, t0), (1, t1), (5, t5), (6, t6), (10, t10)] σ
  )))))))) kp))) kp) ∧ (
  (
  stepK (pureR σ (aLoad true 2 t5 σ)) fun t126 σ =>
  stepK (pureR σ (aNilCheck t1)) fun t128 σ =>
  stepK (pureR σ (aFieldAddr 7 t128)) fun t129 σ =>
  stepK (pureR σ (aLoad false 1 t129 σ)) fun t130 σ =>
  stepK (pureR σ (aNilCheck t1)) fun t133 σ =>
  stepK (pureR σ (aFieldAddr 18 t133)) fun t134 σ =>
  stepK (pureR σ (aLoad false 1 t134 σ)) fun t135 σ =>
  stepK (pureR σ (aIndexAddr 19 t135 (.val (Go.Value.int Go.IntKind.i64 0)) σ)) fun t136 σ =>
  stepK (pureR σ (aNilCheck t1)) fun t138 σ =>
  stepK (pureR σ (aFieldAddr 0 t138)) fun t139 σ =>
  stepK (pureR σ (aFieldAddr 5 t139)) fun t140 σ =>
  stepK (pureR σ (aLoad false 1 t140 σ)) fun t141 σ =>
  stepK (pureR σ (aLoad true 2 t5 σ)) fun t142 σ =>
  stepK (pureR σ (aNilCheck t1)) fun t144 σ =>
  stepK (pureR σ (aFieldAddr 8 t144)) fun t145 σ =>
  stepK (pureR σ (aLoad false 1 t145 σ)) fun t146 σ =>
  stepK (pureR σ (aBuild [.val (.pointer none), .val (.string ByteArray.empty), .val (.pointer none), .val (.pointer none), .val (.slice none 0 0)] [(0, 1, t136), (1, 1, t141), (2, 2, t142), (4, 1, t146)])) fun t147 σ =>
  Ev Go.Proofs.Tryz.prog 87 [t0, t147] σ (fun t148 σ =>
  (stepK (pureR σ (aLoad true 2 t5 σ)) (fun y θ => y = t126 ∧ θ = σ)) ∧ (
  (stepK (pureR σ (aLoad false 1 t129 σ)) (fun y θ => y = t130 ∧ θ = σ)) ∧ (
  stepK (aAlloc [.val (.int .u8 0), .val (.int .i64 0), .val (.int .i64 0), .val (.int .i64 0)] σ) fun t10 σ =>
  (stepK (pureR σ (aLoad true 2 t5 σ)) (fun y θ => y = t126 ∧ θ = σ)) ∧ (
  (stepK (pureR σ (aLoad false 1 t129 σ)) (fun y θ => y = t130 ∧ θ = σ)) ∧ (
  (stepK (pureR σ (aLoad false 1 t134 σ)) (fun y θ => y = t135 ∧ θ = σ)) ∧ (
  (stepK (pureR σ (aIndexAddr 19 t135 (.val (Go.Value.int Go.IntKind.i64 0)) σ)) (fun y θ => y = t136 ∧ θ = σ)) ∧ (
  (stepK (pureR σ (aLoad false 1 t140 σ)) (fun y θ => y = t141 ∧ θ = σ)) ∧ (
  (stepK (pureR σ (aLoad true 2 t5 σ)) (fun y θ => y = t142 ∧ θ = σ)) ∧ (
  (stepK (pureR σ (aLoad false 1 t145 σ)) (fun y θ => y = t146 ∧ θ = σ)) ∧ (
  Ev Go.Proofs.Tryz.prog 86 [t0, t126, t130, t148] σ (fun t149 σ =>
  stepK (unitR (aStore 4 t10 t149 σ)) fun _ σ =>
  j1 [(0, t0), (1, t1), (5, t5), (6, t6), (10, t10)] σ
  ) kp)))))))))) kp) ∧ (
  stepK (pureR σ (aLoad true 2 t5 σ)) fun t126 σ =>
  stepK (pureR σ (aNilCheck t1)) fun t128 σ =>
  stepK (pureR σ (aFieldAddr 7 t128)) fun t129 σ =>
  stepK (pureR σ (aLoad false 1 t129 σ)) fun t130 σ =>
  stepK (pureR σ (aNilCheck t1)) fun t133 σ =>
  stepK (pureR σ (aFieldAddr 18 t133)) fun t134 σ =>
  stepK (pureR σ (aLoad false 1 t134 σ)) fun t135 σ =>
  stepK (pureR σ (aIndexAddr 19 t135 (.val (Go.Value.int Go.IntKind.i64 0)) σ)) fun t136 σ =>
  stepK (pureR σ (aNilCheck t1)) fun t138 σ =>
  stepK (pureR σ (aFieldAddr 0 t138)) fun t139 σ =>
  stepK (pureR σ (aFieldAddr 5 t139)) fun t140 σ =>
  stepK (pureR σ (aLoad false 1 t140 σ)) fun t141 σ =>
  stepK (pureR σ (aLoad true 2 t5 σ)) fun t142 σ =>
  stepK (pureR σ (aNilCheck t1)) fun t144 σ =>
  stepK (pureR σ (aFieldAddr 8 t144)) fun t145 σ =>
  stepK (pureR σ (aLoad false 1 t145 σ)) fun t146 σ =>
  stepK (pureR σ (aBuild [.val (.pointer none), .val (.string ByteArray.empty), .val (.pointer none), .val (.pointer none), .val (.slice none 0 0)] [(0, 1, t136), (1, 1, t141), (2, 2, t142), (4, 1, t146)])) fun t147 σ =>
  stepK (aAlloc [.val (.int .u8 0), .val (.int .i64 0), .val (.int .i64 0), .val (.int .i64 0)] σ) fun t10 σ =>
  (stepK (pureR σ (aLoad true 2 t5 σ)) (fun y θ => y = t126 ∧ θ = σ)) ∧ (
  (stepK (pureR σ (aLoad false 1 t129 σ)) (fun y θ => y = t130 ∧ θ = σ)) ∧ (
  (stepK (pureR σ (aLoad false 1 t134 σ)) (fun y θ => y = t135 ∧ θ = σ)) ∧ (
  (stepK (pureR σ (aIndexAddr 19 t135 (.val (Go.Value.int Go.IntKind.i64 0)) σ)) (fun y θ => y = t136 ∧ θ = σ)) ∧ (
  (stepK (pureR σ (aLoad false 1 t140 σ)) (fun y θ => y = t141 ∧ θ = σ)) ∧ (
  (stepK (pureR σ (aLoad true 2 t5 σ)) (fun y θ => y = t142 ∧ θ = σ)) ∧ (
  (stepK (pureR σ (aLoad false 1 t145 σ)) (fun y θ => y = t146 ∧ θ = σ)) ∧ (
  Ev Go.Proofs.Tryz.prog 87 [t0, t147] σ (fun t148 σ =>
  (stepK (pureR σ (aLoad true 2 t5 σ)) (fun y θ => y = t126 ∧ θ = σ)) ∧ (
  (stepK (pureR σ (aLoad false 1 t129 σ)) (fun y θ => y = t130 ∧ θ = σ)) ∧ (
  Ev Go.Proofs.Tryz.prog 86 [t0, t126, t130, t148] σ (fun t149 σ =>
  stepK (unitR (aStore 4 t10 t149 σ)) fun _ σ =>
  j1 [(0, t0), (1, t1), (5, t5), (6, t6), (10, t10)] σ
  ) kp))) kp)))))))))))
  ) (
  stepK (pureR σ (aLoad true 2 t5 σ)) fun t180 σ =>
  Ev Go.Proofs.Tryz.prog 89 [t0, t1, t180] σ (fun t181 σ =>
  stepK (unitR (aStore 9 t6 t181 σ)) fun _ σ =>
  stepV (aLoad true 9 t6 σ) fun r0 =>
  k r0 σ
  ) kp)
  )
  )
  )
  )
  ) kp)
def keep43 : List (Nat × List Nat) := [(0, [0, 1, 5, 6]), (1, [0, 1, 5, 6, 16]), (2, [0, 1, 5, 6, 7, 8]), (3, [0, 1, 5, 6, 7]), (4, [1, 5, 6, 7]), (2004, [0, 1, 2, 3, 4, 5, 6, 7, 8, 9, 10, 11, 12]), (5, [6]), (2005, [0, 1, 2, 3, 4, 5, 6, 7, 8, 9, 10, 11, 12, 13]), (105011, [3, 4]), (6, [0, 1, 5, 6]), (7, [0, 1, 5, 6, 58]), (8, [0, 1, 5, 6, 58, 59]), (9, [6]), (10, [0, 1, 5, 6, 58, 68]), (11, [6, 9]), (2011, [0, 1, 2, 3, 4, 5, 6, 7]), (12, [6, 9]), (13, [6]), (14, [0, 1, 5, 6, 58, 92]), (15, [6]), (16, [0, 1, 5, 6, 58, 99]), (17, [6]), (2017, [0, 1, 2, 3, 4, 5, 6, 7, 8, 9, 10, 11, 12, 13, 14, 15, 16, 17, 18, 19, 20, 21, 22]), (117019, [1, 5]), (18, [0, 1, 5, 6, 123]), (3021, [0, 1, 5, 6, 10]), (19, [0, 1, 5, 6, 10]), (2019, [0, 1, 2, 3, 4, 5, 6, 7, 8, 9, 10, 11, 12, 13, 14, 15, 16, 17, 18, 19, 20, 21, 22, 23, 24, 25, 26]), (119023, [1, 5]), (119025, [1, 5, 10, 11, 16, 17, 21]), (60019, [1, 2]), (19000019, [0, 1, 2, 3, 4, 5, 6, 7, 8, 9, 10, 11, 12, 13, 14, 15, 16, 17, 18, 19, 20, 21, 22, 23, 25, 24, 26]), (10019023, [1, 5]), (10019025, [1, 5, 10, 11, 16, 17, 21]), (29000019, [0, 1, 2, 3, 4, 5, 6, 7, 8, 9, 10, 11, 12, 13, 14, 15, 16, 17, 18, 19, 20, 21, 22, 25, 23, 24, 26]), (20019023, [1, 5]), (20019025, [1, 5, 10, 11, 16, 17, 21]), (20, [0, 1, 5, 6]), (2020, [0, 1, 2, 3, 4, 5, 6, 7, 8]), (21, [1, 5, 6]), (2021, [0, 1, 2, 3, 4, 5, 6, 7, 8, 9, 10, 11, 12, 13]), (22, [6]), (2022, [0, 1, 2, 3, 4, 5, 6, 7]), (23, [6])]
noncomputable def body43 : Code := (Go.Proofs.Tryz.f43).body.getD .skip
theorem F43_eq (t0 t1 t2 : AV) (σ : AHeap) (k kp : AV → AHeap → Prop) : aw Go.Proofs.Tryz.prog (keepOf keep43) body43 (retK Go.Proofs.Tryz.prog (Go.Proofs.Tryz.f43).results.toList k kp) (frameOf 0 [t0, t1, t2]) σ = F43 t0 t1 t2 σ k kp := by kernel_rfl
theorem F43_ev {t0 t1 t2 : AV} {σ : AHeap} {k kp : AV → AHeap → Prop} (h : F43 t0 t1 t2 σ k kp) : Ev Go.Proofs.Tryz.prog 43 [t0, t1, t2] σ k kp :=
  Ev_of_aw mixed Go.Proofs.Tryz.func43 (show (Go.Proofs.Tryz.f43).body = some body43 by kernel_rfl) (by kernel_rfl) (args := [t0, t1, t2]) (of_decide_eq_true (by kernel_rfl)) (keepOf keep43) (by kernel_rfl) (by rw [F43_eq]; exact h)

/-- (*enclave/machine.machine).raise -/
def F44 (t0 t1 : AV) (σ : AHeap) (k kp : AV → AHeap → Prop) : Prop :=
  stepK (aBox t1 σ) fun t3 σ =>
  stepK (aAlloc [.val (.pointer none), .val (.pointer none), .val (.pointer none), .val (.int .u8 0), .val (.int .i64 0), .val (.int .i64 0), .val (.int .i64 0), .val (.bool false), .val (.string ByteArray.empty)] σ) fun t4 σ =>
  seqW (fun fr σ => (
  stepK (pureR σ (aLoad true 9 (Abs.look fr 3) σ)) fun t63 σ =>
  stepK (unitR (aStore 9 (Abs.look fr 4) t63 σ)) fun _ σ =>
  stepV (aLoad true 9 (Abs.look fr 4) σ) fun r0 =>
  k (.tup [r0, (.val (Go.Value.bool Bool.false))]) σ
  )) (fun j1 => (
  loopW (fun fr σ again => (
  stepK (pureR σ (aNilCheck (Abs.look fr 0))) fun t8 σ =>
  stepK (pureR σ (aFieldAddr 4 t8)) fun t9 σ =>
  stepK (pureR σ (aLoad false 1 t9 σ)) fun t10 σ =>
  stepK (pureR σ (aLenK .slice t10 σ)) fun t11 σ =>
  stepK (pureR σ (aBin .gtr .prim t11 (.val (Go.Value.int Go.IntKind.i64 0)))) fun t12 σ =>
  condK t12 (
  Ev Go.Proofs.Tryz.prog 90 [(Abs.look fr 0)] σ (fun t14 σ =>
  stepK (aAlloc [.val (.pointer none), .val (.pointer none), .val (.pointer none), .val (.slice none 0 0)] σ) fun t6 σ =>
  stepK (unitR (aStore 4 t6 t14 σ)) fun _ σ =>
  seqW (fun fr σ => (
  stepK (pureR σ (aFieldAddr 0 (Abs.look fr 6))) fun t27 σ =>
  stepK (pureR σ (aLoad false 1 t27 σ)) fun t28 σ =>
  stepK (pureR σ (aNilCheck t28)) fun t29 σ =>
  stepK (pureR σ (aFieldAddr 0 t29)) fun t30 σ =>
  stepK (pureR σ (aFieldAddr 0 t30)) fun t31 σ =>
  stepK (pureR σ (aLoad false 1 t31 σ)) fun t32 σ =>
  stepK (pureR σ (aBin .eql .prim t32 (.val (Go.Value.int Go.IntKind.u8 16)))) fun t33 σ =>
  gK t33 true (fun K => stepK (pureR σ (aFieldAddr 0 (Abs.look fr 6))) K) (fun t35 σ =>
  gK t33 true (fun K => stepK (pureR σ (aLoad false 1 t35 σ)) K) (fun t36 σ =>
  gK t33 true (fun K => stepK (pureR σ (aNilCheck t36)) K) (fun t37 σ =>
  gK t33 true (fun K => stepK (pureR σ (aFieldAddr 0 t37)) K) (fun t38 σ =>
  gK t33 true (fun K => stepK (pureR σ (aFieldAddr 6 t38)) K) (fun t39 σ =>
  gK t33 true (fun K => stepK (pureR σ (aLoad false 1 t39 σ)) K) (fun t40 σ =>
  gK t33 true (fun K => stepK (pureR σ (aFieldAddr 8 (Abs.look fr 3))) K) (fun t41 σ =>
  gK t33 true (fun K => stepK (pureR σ (aLoad false 1 t41 σ)) K) (fun t42 σ =>
  gK t33 true (fun K => stepK (pureR σ (aBin .eql .prim t40 t42)) K) (fun t43 σ =>
  stepK (pureR σ (aPick t33 t43 (.val (Go.Value.bool Bool.false)))) fun t44 σ =>
  condK t44 (
  stepK (pureR σ (aFieldAddr 0 (Abs.look fr 6))) fun t45 σ =>
  stepK (pureR σ (aLoad false 1 t45 σ)) fun t46 σ =>
  stepK (pureR σ (aNilCheck t46)) fun t47 σ =>
  stepK (pureR σ (aFieldAddr 18 t47)) fun t48 σ =>
  stepK (pureR σ (aLoad false 1 t48 σ)) fun t49 σ =>
  stepK (pureR σ (aIndexAddr 19 t49 (.val (Go.Value.int Go.IntKind.i64 1)) σ)) fun t50 σ =>
  stepK (pureR σ (aFieldAddr 1 (Abs.look fr 6))) fun t51 σ =>
  stepK (pureR σ (aLoad true 2 t51 σ)) fun t52 σ =>
  stepK (pureR σ (aFieldAddr 0 (Abs.look fr 6))) fun t53 σ =>
  stepK (pureR σ (aLoad false 1 t53 σ)) fun t54 σ =>
  stepK (pureR σ (aNilCheck t54)) fun t55 σ =>
  stepK (pureR σ (aFieldAddr 0 t55)) fun t56 σ =>
  stepK (pureR σ (aFieldAddr 5 t56)) fun t57 σ =>
  stepK (pureR σ (aLoad false 1 t57 σ)) fun t58 σ =>
  stepK (pureR σ (aFieldAddr 3 (Abs.look fr 3))) fun t59 σ =>
  stepK (pureR σ (aLoad true 4 t59 σ)) fun t60 σ =>
  Ev Go.Proofs.Tryz.prog 88 [t52, t58, t60, (.val (Go.Value.bool Bool.false))] σ (fun t61 σ =>
  (stepK (pureR σ (aLoad false 1 t45 σ)) (fun y θ => y = t46 ∧ θ = σ)) ∧ (
  (stepK (pureR σ (aLoad false 1 t48 σ)) (fun y θ => y = t49 ∧ θ = σ)) ∧ (
  (stepK (pureR σ (aIndexAddr 19 t49 (.val (Go.Value.int Go.IntKind.i64 1)) σ)) (fun y θ => y = t50 ∧ θ = σ)) ∧ (
  stepK (pureR σ (aBuild [.val (.pointer none), .val (.pointer none), .val (.pointer none), .val (.int .u8 0), .val (.int .i64 0), .val (.int .i64 0), .val (.int .i64 0), .val (.bool false), .val (.string ByteArray.empty)] [(0, 1, t50), (1, 2, t61)])) fun t62 σ =>
  stepK (unitR (aStore 9 (Abs.look fr 4) t62 σ)) fun _ σ =>
  stepV (aLoad true 9 (Abs.look fr 4) σ) fun r0 =>
  k (.tup [r0, (.val (Go.Value.bool Bool.true))]) σ
  )))) kp) (
  again [(0, (Abs.look fr 0)), (3, (Abs.look fr 3)), (4, (Abs.look fr 4))] σ
  )
  ) σ) σ) σ) σ) σ) σ) σ) σ) σ)) (fun j2 => (
  stepK (pureR σ (aFieldAddr 0 t6)) fun t15 σ =>
  stepK (pureR σ (aLoad false 1 t15 σ)) fun t16 σ =>
  stepK (pureR σ (aNilCheck t16)) fun t17 σ =>
  stepK (pureR σ (aFieldAddr 0 t17)) fun t18 σ =>
  stepK (pureR σ (aFieldAddr 0 t18)) fun t19 σ =>
  stepK (pureR σ (aLoad false 1 t19 σ)) fun t20 σ =>
  stepK (pureR σ (aBin .eql .prim t20 (.val (Go.Value.int Go.IntKind.u8 17)))) fun t21 σ =>
  condK t21 (
  stepK (pureR σ (aNilCheck (Abs.look fr 0))) fun t23 σ =>
  stepK (pureR σ (aFieldAddr 0 t23)) fun t24 σ =>
  stepK (pureR σ (aLoad false 1 t24 σ)) fun t25 σ =>
  Ev Go.Proofs.Tryz.prog 91 [t25] σ (fun t26 σ =>
  j2 [(0, (Abs.look fr 0)), (3, (Abs.look fr 3)), (4, (Abs.look fr 4)), (6, t6)] σ
  ) kp) (
  j2 [(0, (Abs.look fr 0)), (3, (Abs.look fr 3)), (4, (Abs.look fr 4)), (6, t6)] σ
  )
  ))
  ) kp) (
  j1 [(3, (Abs.look fr 3)), (4, (Abs.look fr 4))] σ
  )
  )) [(0, t0), (3, t3), (4, t4)] σ
  ))
def keep44 : List (Nat × List Nat) := [(0, [0, 3, 4]), (3008, [3, 4]), (1, [0, 3, 4, 12]), (2, [0, 3, 4, 6]), (3006, [0, 3, 4, 6]), (3, [0, 3, 4, 6, 21]), (4, [0, 3, 4, 6]), (5, [0, 3, 4, 6, 44]), (2005, [0, 1, 2, 3, 4, 5, 6, 7, 8, 9, 10, 11, 12, 13, 14, 15, 16, 17]), (6, [4, 5]), (2006, [0, 1, 2, 3, 4, 5, 6, 7, 8, 9, 10, 11, 12, 13, 14, 15, 16, 17, 18, 19]), (106016, [1, 4, 5]), (1001, [0, 3, 4]), (7, [4, 5])]
noncomputable def body44 : Code := (Go.Proofs.Tryz.f44).body.getD .skip
theorem F44_eq (t0 t1 : AV) (σ : AHeap) (k kp : AV → AHeap → Prop) : aw Go.Proofs.Tryz.prog (keepOf keep44) body44 (retK Go.Proofs.Tryz.prog (Go.Proofs.Tryz.f44).results.toList k kp) (frameOf 0 [t0, t1]) σ = F44 t0 t1 σ k kp := by kernel_rfl
theorem F44_ev {t0 t1 : AV} {σ : AHeap} {k kp : AV → AHeap → Prop} (h : F44 t0 t1 σ k kp) : Ev Go.Proofs.Tryz.prog 44 [t0, t1] σ k kp :=
  Ev_of_aw mixed Go.Proofs.Tryz.func44 (show (Go.Proofs.Tryz.f44).body = some body44 by kernel_rfl) (by kernel_rfl) (args := [t0, t1]) (of_decide_eq_true (by kernel_rfl)) (keepOf keep44) (by kernel_rfl) (by rw [F44_eq]; exact h)

/-- enclave/value.Uncaught -/
def F45 (t0 t1 : AV) (σ : AHeap) (k kp : AV → AHeap → Prop) : Prop :=
  stepK (aAlloc [.val (.int .u8 0), .val (.bool false), .val (.int .i64 0), .val (.string ByteArray.empty)] σ) fun t4 σ =>
  stepK (pureR σ (aBuild [.val (.int .u8 0), .val (.bool false), .val (.int .i64 0), .val (.string ByteArray.empty)] [(0, 1, (.val (Go.Value.int Go.IntKind.u8 2))), (2, 1, t1), (3, 1, t0)])) fun t7 σ =>
  stepK (unitR (aStore 4 t4 t7 σ)) fun _ σ =>
  stepV (aLoad true 4 t4 σ) fun r0 =>
  k r0 σ
def keep45 : List (Nat × List Nat) := [(0, [0, 1, 4]), (1, [4])]
noncomputable def body45 : Code := (Go.Proofs.Tryz.f45).body.getD .skip
theorem F45_eq (t0 t1 : AV) (σ : AHeap) (k kp : AV → AHeap → Prop) : aw Go.Proofs.Tryz.prog (keepOf keep45) body45 (retK Go.Proofs.Tryz.prog (Go.Proofs.Tryz.f45).results.toList k kp) (frameOf 0 [t0, t1]) σ = F45 t0 t1 σ k kp := by kernel_rfl
theorem F45_ev {t0 t1 : AV} {σ : AHeap} {k kp : AV → AHeap → Prop} (h : F45 t0 t1 σ k kp) : Ev Go.Proofs.Tryz.prog 45 [t0, t1] σ k kp :=
  Ev_of_aw mixed Go.Proofs.Tryz.func45 (show (Go.Proofs.Tryz.f45).body = some body45 by kernel_rfl) (by kernel_rfl) (args := [t0, t1]) (of_decide_eq_true (by kernel_rfl)) (keepOf keep45) (by kernel_rfl) (by rw [F45_eq]; exact h)

/-- enclave/value.Int -/
def F46 (t0 : AV) (σ : AHeap) (k kp : AV → AHeap → Prop) : Prop :=
  stepK (aAlloc [.val (.int .u8 0), .val (.bool false), .val (.int .i64 0), .val (.string ByteArray.empty)] σ) fun t2 σ =>
  stepK (pureR σ (aBuild [.val (.int .u8 0), .val (.bool false), .val (.int .i64 0), .val (.string ByteArray.empty)] [(0, 1, (.val (Go.Value.int Go.IntKind.u8 1))), (1, 1, (.val (Go.Value.bool Bool.true))), (2, 1, t0)])) fun t4 σ =>
  stepK (unitR (aStore 4 t2 t4 σ)) fun _ σ =>
  stepV (aLoad true 4 t2 σ) fun r0 =>
  k r0 σ
def keep46 : List (Nat × List Nat) := [(0, [0, 2]), (1, [2])]
noncomputable def body46 : Code := (Go.Proofs.Tryz.f46).body.getD .skip
theorem F46_eq (t0 : AV) (σ : AHeap) (k kp : AV → AHeap → Prop) : aw Go.Proofs.Tryz.prog (keepOf keep46) body46 (retK Go.Proofs.Tryz.prog (Go.Proofs.Tryz.f46).results.toList k kp) (frameOf 0 [t0]) σ = F46 t0 σ k kp := by kernel_rfl
theorem F46_ev {t0 : AV} {σ : AHeap} {k kp : AV → AHeap → Prop} (h : F46 t0 σ k kp) : Ev Go.Proofs.Tryz.prog 46 [t0] σ k kp :=
  Ev_of_aw mixed Go.Proofs.Tryz.func46 (show (Go.Proofs.Tryz.f46).body = some body46 by kernel_rfl) (by kernel_rfl) (args := [t0]) (of_decide_eq_true (by kernel_rfl)) (keepOf keep46) (by kernel_rfl) (by rw [F46_eq]; exact h)

/-- enclave/value.Other -/
def F47 (σ : AHeap) (k kp : AV → AHeap → Prop) : Prop :=
  stepK (aAlloc [.val (.int .u8 0), .val (.bool false), .val (.int .i64 0), .val (.string ByteArray.empty)] σ) fun t0 σ =>
  stepK (pureR σ (aBuild [.val (.int .u8 0), .val (.bool false), .val (.int .i64 0), .val (.string ByteArray.empty)] [(0, 1, (.val (Go.Value.int Go.IntKind.u8 1)))])) fun t1 σ =>
  stepK (unitR (aStore 4 t0 t1 σ)) fun _ σ =>
  stepV (aLoad true 4 t0 σ) fun r0 =>
  k r0 σ
def keep47 : List (Nat × List Nat) := [(0, [0]), (1, [0])]
noncomputable def body47 : Code := (Go.Proofs.Tryz.f47).body.getD .skip
theorem F47_eq (σ : AHeap) (k kp : AV → AHeap → Prop) : aw Go.Proofs.Tryz.prog (keepOf keep47) body47 (retK Go.Proofs.Tryz.prog (Go.Proofs.Tryz.f47).results.toList k kp) (frameOf 0 []) σ = F47 σ k kp := by kernel_rfl
theorem F47_ev {σ : AHeap} {k kp : AV → AHeap → Prop} (h : F47 σ k kp) : Ev Go.Proofs.Tryz.prog 47 [] σ k kp :=
  Ev_of_aw mixed Go.Proofs.Tryz.func47 (show (Go.Proofs.Tryz.f47).body = some body47 by kernel_rfl) (by kernel_rfl) (args := []) (of_decide_eq_true (by kernel_rfl)) (keepOf keep47) (by kernel_rfl) (by rw [F47_eq]; exact h)

/-- (*enclave/machine.machine).give -/
def F48 (t0 t1 : AV) (σ : AHeap) (k kp : AV → AHeap → Prop) : Prop :=
  stepK (aBox t1 σ) fun t3 σ =>
  stepK (aAlloc [.val (.pointer none), .val (.pointer none), .val (.pointer none), .val (.int .u8 0), .val (.int .i64 0), .val (.int .i64 0), .val (.int .i64 0), .val (.bool false), .val (.string ByteArray.empty)] σ) fun t4 σ =>
  Ev Go.Proofs.Tryz.prog 92 [t0] σ (fun t11 σ =>
  stepK (pureR σ (aNilCheck t11)) fun t14 σ =>
  stepK (pureR σ (aFieldAddr 3 t14)) fun t15 σ =>
  stepK (pureR σ (aLoad false 1 t15 σ)) fun t16 σ =>
  stepK (pureR σ (aLoad true 4 t3 σ)) fun t17 σ =>
  stepK (pureR σ (aBuildSl 1 4 [.val (.int .u8 0), .val (.int .i64 0), .val (.int .i64 0), .val (.int .i64 0)] [(0, t17)])) fun t18 σ =>
  stepK (aAppend 4 32 t16 t18 σ) fun t19 σ =>
  stepK (pureR σ (aNilCheck t11)) fun t20 σ =>
  stepK (pureR σ (aFieldAddr 3 t20)) fun t21 σ =>
  stepK (unitR (aStore 1 t21 t19 σ)) fun _ σ =>
  stepK (pureR σ (aNilCheck t11)) fun t23 σ =>
  stepK (pureR σ (aFieldAddr 0 t23)) fun t24 σ =>
  stepK (pureR σ (aLoad false 1 t24 σ)) fun t25 σ =>
  stepK (pureR σ (aNilCheck t11)) fun t27 σ =>
  stepK (pureR σ (aFieldAddr 3 t27)) fun t28 σ =>
  stepK (pureR σ (aLoad false 1 t28 σ)) fun t29 σ =>
  stepK (pureR σ (aLenK .slice t29 σ)) fun t30 σ =>
  stepK (pureR σ (aNilCheck t25)) fun t32 σ =>
  stepK (pureR σ (aFieldAddr 0 t32)) fun t33 σ =>
  stepK (pureR σ (aFieldAddr 0 t33)) fun t34 σ =>
  stepK (pureR σ (aLoad false 1 t34 σ)) fun t35 σ =>
  stepK (pureR σ (aBin .eql .prim t35 (.val (Go.Value.int Go.IntKind.u8 17)))) fun t37 σ =>
  condK t37 (
  Ev Go.Proofs.Tryz.prog 90 [t0] σ (fun t39 σ =>
  stepK (pureR σ (aNilCheck t0)) fun t41 σ =>
  stepK (pureR σ (aFieldAddr 0 t41)) fun t42 σ =>
  stepK (pureR σ (aLoad false 1 t42 σ)) fun t43 σ =>
  Ev Go.Proofs.Tryz.prog 91 [t43] σ (fun t44 σ =>
  stepK (pureR σ (aLoad true 4 t3 σ)) fun t45 σ =>
  Ev Go.Proofs.Tryz.prog 82 [t45] σ (fun t46 σ =>
  stepK (unitR (aStore 9 t4 t46 σ)) fun _ σ =>
  stepV (aLoad true 9 t4 σ) fun r0 =>
  k r0 σ
  ) kp) kp) kp) (
  stepK (pureR σ (aBin .eql .prim t35 (.val (Go.Value.int Go.IntKind.u8 16)))) fun t48 σ =>
  condK t48 (
  Ev Go.Proofs.Tryz.prog 90 [t0] σ (fun t50 σ =>
  stepK (pureR σ (aLoad true 4 t3 σ)) fun t51 σ =>
  Ev Go.Proofs.Tryz.prog 82 [t51] σ (fun t52 σ =>
  stepK (unitR (aStore 9 t4 t52 σ)) fun _ σ =>
  stepV (aLoad true 9 t4 σ) fun r0 =>
  k r0 σ
  ) kp) kp) (
  stepK (pureR σ (aBin .eql .prim t35 (.val (Go.Value.int Go.IntKind.u8 12)))) fun t54 σ =>
  condK t54 (
  Ev Go.Proofs.Tryz.prog 90 [t0] σ (fun t56 σ =>
  stepK (pureR σ (aField 1 true 2 t56)) fun t57 σ =>
  stepK (aAlloc [.val (.pointer none), .val (.pointer none)] σ) fun t8 σ =>
  stepK (unitR (aStore 2 t8 t57 σ)) fun _ σ =>
  stepK (pureR σ (aNilCheck t25)) fun t59 σ =>
  stepK (pureR σ (aFieldAddr 18 t59)) fun t60 σ =>
  stepK (pureR σ (aLoad false 1 t60 σ)) fun t61 σ =>
  stepK (pureR σ (aIndexAddr 19 t61 (.val (Go.Value.int Go.IntKind.i64 1)) σ)) fun t62 σ =>
  stepK (pureR σ (aLoad true 2 t8 σ)) fun t63 σ =>
  stepK (pureR σ (aNilCheck t25)) fun t65 σ =>
  stepK (pureR σ (aFieldAddr 0 t65)) fun t66 σ =>
  stepK (pureR σ (aFieldAddr 4 t66)) fun t67 σ =>
  stepK (pureR σ (aLoad false 1 t67 σ)) fun t68 σ =>
  stepK (pureR σ (aLoad true 4 t3 σ)) fun t69 σ =>
  Ev Go.Proofs.Tryz.prog 88 [t63, t68, t69, (.val (Go.Value.bool Bool.false))] σ (fun t70 σ =>
  (stepK (pureR σ (aLoad false 1 t60 σ)) (fun y θ => y = t61 ∧ θ = σ)) ∧ (
  (stepK (pureR σ (aIndexAddr 19 t61 (.val (Go.Value.int Go.IntKind.i64 1)) σ)) (fun y θ => y = t62 ∧ θ = σ)) ∧ (
  stepK (pureR σ (aBuild [.val (.pointer none), .val (.pointer none), .val (.pointer none), .val (.int .u8 0), .val (.int .i64 0), .val (.int .i64 0), .val (.int .i64 0), .val (.bool false), .val (.string ByteArray.empty)] [(0, 1, t62), (1, 2, t70)])) fun t71 σ =>
  stepK (unitR (aStore 9 t4 t71 σ)) fun _ σ =>
  stepV (aLoad true 9 t4 σ) fun r0 =>
  k r0 σ
  ))) kp) kp) (
  stepK (pureR σ (aBin .eql .prim t35 (.val (Go.Value.int Go.IntKind.u8 14)))) fun t73 σ =>
  condK t73 (
  Ev Go.Proofs.Tryz.prog 90 [t0] σ (fun t75 σ =>
  stepK (pureR σ (aField 1 true 2 t75)) fun t76 σ =>
  stepK (aAlloc [.val (.pointer none), .val (.pointer none)] σ) fun t9 σ =>
  stepK (unitR (aStore 2 t9 t76 σ)) fun _ σ =>
  stepK (pureR σ (aLoad true 4 t3 σ)) fun t77 σ =>
  Ev Go.Proofs.Tryz.prog 93 [t77] σ (fun t78 σ =>
  stepK (pureR σ (aBin .neq .prim t78 (.val (Go.Value.int Go.IntKind.i64 0)))) fun t79 σ =>
  condK t79 (
  stepK (pureR σ (aNilCheck t25)) fun t81 σ =>
  stepK (pureR σ (aFieldAddr 18 t81)) fun t82 σ =>
  stepK (pureR σ (aLoad false 1 t82 σ)) fun t83 σ =>
  stepK (pureR σ (aIndexAddr 19 t83 (.val (Go.Value.int Go.IntKind.i64 1)) σ)) fun t84 σ =>
  stepK (pureR σ (aLoad true 2 t9 σ)) fun t85 σ =>
  stepK (pureR σ (aBuild [.val (.pointer none), .val (.pointer none), .val (.pointer none), .val (.int .u8 0), .val (.int .i64 0), .val (.int .i64 0), .val (.int .i64 0), .val (.bool false), .val (.string ByteArray.empty)] [(0, 1, t84), (1, 2, t85)])) fun t86 σ =>
  stepK (unitR (aStore 9 t4 t86 σ)) fun _ σ =>
  stepV (aLoad true 9 t4 σ) fun r0 =>
  k r0 σ
  ) (
  stepK (pureR σ (aNilCheck t25)) fun t88 σ =>
  stepK (pureR σ (aFieldAddr 18 t88)) fun t89 σ =>
  stepK (pureR σ (aLoad false 1 t89 σ)) fun t90 σ =>
  stepK (pureR σ (aIndexAddr 19 t90 (.val (Go.Value.int Go.IntKind.i64 2)) σ)) fun t91 σ =>
  stepK (pureR σ (aLoad true 2 t9 σ)) fun t92 σ =>
  stepK (pureR σ (aBuild [.val (.pointer none), .val (.pointer none), .val (.pointer none), .val (.int .u8 0), .val (.int .i64 0), .val (.int .i64 0), .val (.int .i64 0), .val (.bool false), .val (.string ByteArray.empty)] [(0, 1, t91), (1, 2, t92)])) fun t93 σ =>
  stepK (unitR (aStore 9 t4 t93 σ)) fun _ σ =>
  stepV (aLoad true 9 t4 σ) fun r0 =>
  k r0 σ
  )
  ) kp) kp) (
  stepK (pureR σ (aNilCheck t25)) fun t96 σ =>
  stepK (pureR σ (aFieldAddr 18 t96)) fun t97 σ =>
  stepK (pureR σ (aLoad false 1 t97 σ)) fun t98 σ =>
  stepK (pureR σ (aLenK .slice t98 σ)) fun t99 σ =>
  stepK (pureR σ (aBin .lss .prim t30 t99)) fun t100 σ =>
  condK t100 (
  stepK (pureR σ (aNilCheck t25)) fun t102 σ =>
  stepK (pureR σ (aFieldAddr 18 t102)) fun t103 σ =>
  stepK (pureR σ (aLoad false 1 t103 σ)) fun t104 σ =>
  stepK (pureR σ (aIndexAddr 19 t104 t30 σ)) fun t106 σ =>
  stepK (pureR σ (aNilCheck t11)) fun t108 σ =>
  stepK (pureR σ (aFieldAddr 1 t108)) fun t109 σ =>
  stepK (pureR σ (aLoad true 2 t109 σ)) fun t110 σ =>
  stepK (pureR σ (aBuild [.val (.pointer none), .val (.pointer none), .val (.pointer none), .val (.int .u8 0), .val (.int .i64 0), .val (.int .i64 0), .val (.int .i64 0), .val (.bool false), .val (.string ByteArray.empty)] [(0, 1, t106), (1, 2, t110)])) fun t111 σ =>
  stepK (unitR (aStore 9 t4 t111 σ)) fun _ σ =>
  stepV (aLoad true 9 t4 σ) fun r0 =>
  k r0 σ
  ) (
  Ev Go.Proofs.Tryz.prog 90 [t0] σ (fun t114 σ =>
  Ev Go.Proofs.Tryz.prog 94 [t0, t114] σ (fun t115 σ =>
  stepK (unitR (aStore 9 t4 t115 σ)) fun _ σ =>
  stepV (aLoad true 9 t4 σ) fun r0 =>
  k r0 σ
  ) kp) kp)
  )
  )
  )
  )) kp
def keep48 : List (Nat × List Nat) := [(0, [0, 3, 4]), (1, [0, 3, 4, 5]), (2, [0, 3, 4, 5]), (2002, [0, 1, 2, 3, 4, 5, 6, 7, 8, 9, 10]), (3, [0, 3, 4, 5, 6, 7]), (2003, [0, 1, 2, 3, 4, 5, 6, 7, 8, 9, 10]), (4, [0, 3, 4, 5, 6, 7, 35]), (5, [0, 3, 4, 5, 6, 7, 35, 36]), (6, [0, 3, 4]), (7, [3, 4]), (8, [4]), (9, [0, 3, 4, 5, 6, 7, 35, 47]), (10, [3, 4]), (11, [4]), (12, [0, 3, 4, 5, 6, 7, 35, 53]), (13, [3, 4, 6, 8]), (14, [4]), (2014, [0, 1, 2, 3, 4, 5, 6, 7, 8, 9, 10, 11, 12, 13, 14]), (114012, [3, 4]), (15, [0, 3, 4, 5, 6, 7, 72]), (16, [3, 4, 6, 9]), (17, [4, 6, 9, 79]), (18, [4]), (2018, [0, 1, 2, 3, 4, 5, 6, 7]), (19, [4]), (2019, [0, 1, 2, 3, 4, 5, 6, 7]), (20, [0, 4, 5, 6, 7, 100]), (21, [4]), (2021, [0, 1, 2, 3, 4, 5, 6, 7, 8, 9, 10, 11]), (22, [4])]
noncomputable def body48 : Code := (Go.Proofs.Tryz.f48).body.getD .skip
theorem F48_eq (t0 t1 : AV) (σ : AHeap) (k kp : AV → AHeap → Prop) : aw Go.Proofs.Tryz.prog (keepOf keep48) body48 (retK Go.Proofs.Tryz.prog (Go.Proofs.Tryz.f48).results.toList k kp) (frameOf 0 [t0, t1]) σ = F48 t0 t1 σ k kp := by kernel_rfl
theorem F48_ev {t0 t1 : AV} {σ : AHeap} {k kp : AV → AHeap → Prop} (h : F48 t0 t1 σ k kp) : Ev Go.Proofs.Tryz.prog 48 [t0, t1] σ k kp :=
  Ev_of_aw mixed Go.Proofs.Tryz.func48 (show (Go.Proofs.Tryz.f48).body = some body48 by kernel_rfl) (by kernel_rfl) (args := [t0, t1]) (of_decide_eq_true (by kernel_rfl)) (keepOf keep48) (by kernel_rfl) (by rw [F48_eq]; exact h)

/-- (*enclave/stack.Store).Push -/
def F78 (t0 : AV) (σ : AHeap) (k kp : AV → AHeap → Prop) : Prop :=
  stepK (pureR σ (aBin .eql .ptr t0 (.val (Go.Value.pointer Option.none)))) fun t6 σ =>
  gK t6 false (fun K => K t0 σ) (fun t8 σ =>
  gK t6 false (fun K => stepK (pureR σ (aNilCheck t8)) K) (fun t9 σ =>
  gK t6 false (fun K => stepK (pureR σ (aFieldAddr 3 t9)) K) (fun t10 σ =>
  gK t6 false (fun K => stepK (pureR σ (aLoad false 1 t10 σ)) K) (fun t11 σ =>
  gK t6 false (fun K => stepK (pureR σ (aLenK .slice t11 σ)) K) (fun t12 σ =>
  gK t6 false (fun K => K t0 σ) (fun t13 σ =>
  gK t6 false (fun K => stepK (pureR σ (aNilCheck t13)) K) (fun t14 σ =>
  gK t6 false (fun K => stepK (pureR σ (aFieldAddr 0 t14)) K) (fun t15 σ =>
  gK t6 false (fun K => stepK (pureR σ (aFieldAddr 0 t15)) K) (fun t16 σ =>
  gK t6 false (fun K => stepK (pureR σ (aLoad false 1 t16 σ)) K) (fun t17 σ =>
  gK t6 false (fun K => stepK (pureR σ (aBin .geq .prim t12 t17)) K) (fun t18 σ =>
  stepK (pureR σ (aPick t6 (.val (Go.Value.bool Bool.true)) t18)) fun t19 σ =>
  condK t19 (
  k (.tup [(.val (Go.Value.int Go.IntKind.i64 0)), (.val (Go.Value.bool Bool.false))]) σ
  ) (
  stepK (pureR σ (aNilCheck t0)) fun t21 σ =>
  stepK (pureR σ (aFieldAddr 4 t21)) fun t22 σ =>
  stepK (pureR σ (aLoad false 1 t22 σ)) fun t23 σ =>
  stepK (pureR σ (aNilCheck t0)) fun t25 σ =>
  stepK (pureR σ (aFieldAddr 4 t25)) fun t26 σ =>
  stepK (pureR σ (aLoad false 1 t26 σ)) fun t27 σ =>
  stepK (pureR σ (aBin .add .prim t27 (.val (Go.Value.int Go.IntKind.i64 1)))) fun t28 σ =>
  stepK (pureR σ (aNilCheck t0)) fun t29 σ =>
  stepK (pureR σ (aFieldAddr 4 t29)) fun t30 σ =>
  stepK (unitR (aStore 1 t30 t28 σ)) fun _ σ =>
  stepK (pureR σ (aNilCheck t0)) fun t33 σ =>
  stepK (pureR σ (aFieldAddr 3 t33)) fun t34 σ =>
  stepK (pureR σ (aLoad false 1 t34 σ)) fun t35 σ =>
  stepK (aBuildSlice 1 1 [.val (.int .i64 0)] [(0, t23)] σ) fun t37 σ =>
  stepK (aAppend 1 8 t35 t37 σ) fun t38 σ =>
  stepK (pureR σ (aNilCheck t0)) fun t39 σ =>
  stepK (pureR σ (aFieldAddr 3 t39)) fun t40 σ =>
  stepK (unitR (aStore 1 t40 t38 σ)) fun _ σ =>
  stepK (pureR σ (aNilCheck t0)) fun t42 σ =>
  stepK (pureR σ (aFieldAddr 2 t42)) fun t43 σ =>
  stepK (pureR σ (aLoad false 1 t43 σ)) fun t44 σ =>
  stepK (unitR (aMapUpdate (.int .i64) t44 t23 (.val (Go.Value.slice Option.none 0 0)) σ)) fun _ σ =>
  k (.tup [t23, (.val (Go.Value.bool Bool.true))]) σ
  )) σ) σ) σ) σ) σ) σ) σ) σ) σ) σ) σ
def keep78 : List (Nat × List Nat) := [(0, [0]), (1, [0, 19]), (2001, [0, 1, 2, 3, 4, 5, 6, 7, 8, 9, 10, 11, 12, 13, 14]), (2, [2, 3]), (3, [0, 4]), (4, [0, 4]), (5, [0, 4]), (6, [4]), (7, [2, 3])]
noncomputable def body78 : Code := (Go.Proofs.Tryz.f78).body.getD .skip
theorem F78_eq (t0 : AV) (σ : AHeap) (k kp : AV → AHeap → Prop) : aw Go.Proofs.Tryz.prog (keepOf keep78) body78 (retK Go.Proofs.Tryz.prog (Go.Proofs.Tryz.f78).results.toList k kp) (frameOf 0 [t0]) σ = F78 t0 σ k kp := by kernel_rfl
theorem F78_ev {t0 : AV} {σ : AHeap} {k kp : AV → AHeap → Prop} (h : F78 t0 σ k kp) : Ev Go.Proofs.Tryz.prog 78 [t0] σ k kp :=
  Ev_of_aw mixed Go.Proofs.Tryz.func78 (show (Go.Proofs.Tryz.f78).body = some body78 by kernel_rfl) (by kernel_rfl) (args := [t0]) (of_decide_eq_true (by kernel_rfl)) (keepOf keep78) (by kernel_rfl) (by rw [F78_eq]; exact h)

/-- enclave/machine.must -/
def F79 (t0 t1 : AV) (σ : AHeap) (k kp : AV → AHeap → Prop) : Prop :=
  stepK (pureR σ (aNot t0)) fun t5 σ =>
  condK t5 (
  stepK (pureR σ (aBuild [.val (.int .u8 0)] [(0, 1, t1)])) fun t7 σ =>
  stepK (some (.iface 102 t7, σ)) fun t8 σ =>
  panicK t8 σ kp
  ) (
  k (.tup []) σ
  )
def keep79 : List (Nat × List Nat) := [(0, [1, 5]), (1, [])]
noncomputable def body79 : Code := (Go.Proofs.Tryz.f79).body.getD .skip
theorem F79_eq (t0 t1 : AV) (σ : AHeap) (k kp : AV → AHeap → Prop) : aw Go.Proofs.Tryz.prog (keepOf keep79) body79 (retK Go.Proofs.Tryz.prog (Go.Proofs.Tryz.f79).results.toList k kp) (frameOf 0 [t0, t1]) σ = F79 t0 t1 σ k kp := by kernel_rfl
theorem F79_ev {t0 t1 : AV} {σ : AHeap} {k kp : AV → AHeap → Prop} (h : F79 t0 t1 σ k kp) : Ev Go.Proofs.Tryz.prog 79 [t0, t1] σ k kp :=
  Ev_of_aw mixed Go.Proofs.Tryz.func79 (show (Go.Proofs.Tryz.f79).body = some body79 by kernel_rfl) (by kernel_rfl) (args := [t0, t1]) (of_decide_eq_true (by kernel_rfl)) (keepOf keep79) (by kernel_rfl) (by rw [F79_eq]; exact h)

/-- (enclave/machine.env).open -/
def F80 (t0 t1 t2 : AV) (σ : AHeap) (k kp : AV → AHeap → Prop) : Prop :=
  stepK (aBox t0 σ) fun t3 σ =>
  stepK (aAlloc [.val (.pointer none), .val (.pointer none)] σ) fun t6 σ =>
  stepK (pureR σ (aFieldAddr 1 t3)) fun t9 σ =>
  stepK (pureR σ (aLoad false 1 t9 σ)) fun t10 σ =>
  stepK (pureR σ (aBuild [.val (.int .i64 0), .val (.int .i64 0), .val (.pointer none)] [(0, 1, t1), (1, 1, t2), (2, 1, t10)])) fun t11 σ =>
  stepK (aBox t11 σ) fun t12 σ =>
  stepK (pureR σ (aFieldAddr 1 t3)) fun t13 σ =>
  stepK (unitR (aStore 1 t13 t12 σ)) fun _ σ =>
  stepK (pureR σ (aLoad true 2 t3 σ)) fun t14 σ =>
  stepK (unitR (aStore 2 t6 t14 σ)) fun _ σ =>
  stepV (aLoad true 2 t6 σ) fun r0 =>
  k r0 σ
def keep80 : List (Nat × List Nat) := [(0, [1, 2, 3, 6]), (1, [3, 6]), (2, [6])]
noncomputable def body80 : Code := (Go.Proofs.Tryz.f80).body.getD .skip
theorem F80_eq (t0 t1 t2 : AV) (σ : AHeap) (k kp : AV → AHeap → Prop) : aw Go.Proofs.Tryz.prog (keepOf keep80) body80 (retK Go.Proofs.Tryz.prog (Go.Proofs.Tryz.f80).results.toList k kp) (frameOf 0 [t0, t1, t2]) σ = F80 t0 t1 t2 σ k kp := by kernel_rfl
theorem F80_ev {t0 t1 t2 : AV} {σ : AHeap} {k kp : AV → AHeap → Prop} (h : F80 t0 t1 t2 σ k kp) : Ev Go.Proofs.Tryz.prog 80 [t0, t1, t2] σ k kp :=
  Ev_of_aw mixed Go.Proofs.Tryz.func80 (show (Go.Proofs.Tryz.f80).body = some body80 by kernel_rfl) (by kernel_rfl) (args := [t0, t1, t2]) (of_decide_eq_true (by kernel_rfl)) (keepOf keep80) (by kernel_rfl) (by rw [F80_eq]; exact h)

/-- (*enclave/machine.machine).step -/
def F81 (t0 : AV) (σ : AHeap) (k kp : AV → AHeap → Prop) : Prop :=
  stepK (pureR σ (aNilCheck t0)) fun t3 σ =>
  stepK (pureR σ (aFieldAddr 2 t3)) fun t4 σ =>
  stepK (pureR σ (aLoad false 1 t4 σ)) fun t5 σ =>
  stepK (pureR σ (aNilCheck t0)) fun t7 σ =>
  stepK (pureR σ (aFieldAddr 1 t7)) fun t8 σ =>
  stepK (pureR σ (aLoad false 1 t8 σ)) fun t9 σ =>
  stepK (pureR σ (aBin .lss .prim t5 t9)) fun t10 σ =>
  Ev Go.Proofs.Tryz.prog 79 [t10, (.val (Go.Value.int Go.IntKind.u8 3))] σ (fun t11 σ =>
  stepK (pureR σ (aNilCheck t0)) fun t13 σ =>
  stepK (pureR σ (aFieldAddr 2 t13)) fun t14 σ =>
  stepK (pureR σ (aLoad false 1 t14 σ)) fun t15 σ =>
  stepK (pureR σ (aBin .add .prim t15 (.val (Go.Value.int Go.IntKind.i64 1)))) fun t16 σ =>
  stepK (pureR σ (aNilCheck t0)) fun t17 σ =>
  stepK (pureR σ (aFieldAddr 2 t17)) fun t18 σ =>
  stepK (unitR (aStore 1 t18 t16 σ)) fun _ σ =>
  k (.tup []) σ) kp
def keep81 : List (Nat × List Nat) := [(0, [0]), (2000, [0, 1, 2, 3, 4, 5, 6, 7, 8, 9]), (1, [])]
noncomputable def body81 : Code := (Go.Proofs.Tryz.f81).body.getD .skip
theorem F81_eq (t0 : AV) (σ : AHeap) (k kp : AV → AHeap → Prop) : aw Go.Proofs.Tryz.prog (keepOf keep81) body81 (retK Go.Proofs.Tryz.prog (Go.Proofs.Tryz.f81).results.toList k kp) (frameOf 0 [t0]) σ = F81 t0 σ k kp := by kernel_rfl
theorem F81_ev {t0 : AV} {σ : AHeap} {k kp : AV → AHeap → Prop} (h : F81 t0 σ k kp) : Ev Go.Proofs.Tryz.prog 81 [t0] σ k kp :=
  Ev_of_aw mixed Go.Proofs.Tryz.func81 (show (Go.Proofs.Tryz.f81).body = some body81 by kernel_rfl) (by kernel_rfl) (args := [t0]) (of_decide_eq_true (by kernel_rfl)) (keepOf keep81) (by kernel_rfl) (by rw [F81_eq]; exact h)

/-- enclave/machine.back -/
def F82 (t0 : AV) (σ : AHeap) (k kp : AV → AHeap → Prop) : Prop :=
  stepK (aBox t0 σ) fun t1 σ =>
  stepK (aAlloc [.val (.pointer none), .val (.pointer none), .val (.pointer none), .val (.int .u8 0), .val (.int .i64 0), .val (.int .i64 0), .val (.int .i64 0), .val (.bool false), .val (.string ByteArray.empty)] σ) fun t2 σ =>
  stepK (pureR σ (aLoad true 4 t1 σ)) fun t3 σ =>
  stepK (pureR σ (aBuild [.val (.pointer none), .val (.pointer none), .val (.pointer none), .val (.int .u8 0), .val (.int .i64 0), .val (.int .i64 0), .val (.int .i64 0), .val (.bool false), .val (.string ByteArray.empty)] [(3, 4, t3)])) fun t4 σ =>
  stepK (unitR (aStore 9 t2 t4 σ)) fun _ σ =>
  stepV (aLoad true 9 t2 σ) fun r0 =>
  k r0 σ
def keep82 : List (Nat × List Nat) := [(0, [1, 2]), (1, [2])]
noncomputable def body82 : Code := (Go.Proofs.Tryz.f82).body.getD .skip
theorem F82_eq (t0 : AV) (σ : AHeap) (k kp : AV → AHeap → Prop) : aw Go.Proofs.Tryz.prog (keepOf keep82) body82 (retK Go.Proofs.Tryz.prog (Go.Proofs.Tryz.f82).results.toList k kp) (frameOf 0 [t0]) σ = F82 t0 σ k kp := by kernel_rfl
theorem F82_ev {t0 : AV} {σ : AHeap} {k kp : AV → AHeap → Prop} (h : F82 t0 σ k kp) : Ev Go.Proofs.Tryz.prog 82 [t0] σ k kp :=
  Ev_of_aw mixed Go.Proofs.Tryz.func82 (show (Go.Proofs.Tryz.f82).body = some body82 by kernel_rfl) (by kernel_rfl) (args := [t0]) (of_decide_eq_true (by kernel_rfl)) (keepOf keep82) (by kernel_rfl) (by rw [F82_eq]; exact h)

/-- enclave/machine.num -/
def F83 (t0 : AV) (σ : AHeap) (k kp : AV → AHeap → Prop) : Prop :=
  stepK (aAlloc [.val (.int .u8 0), .val (.int .i64 0), .val (.int .i64 0), .val (.int .i64 0)] σ) fun t2 σ =>
  stepK (pureR σ (aBuild [.val (.int .u8 0), .val (.int .i64 0), .val (.int .i64 0), .val (.int .i64 0)] [(0, 1, (.val (Go.Value.int Go.IntKind.u8 1))), (1, 1, t0)])) fun t4 σ =>
  stepK (unitR (aStore 4 t2 t4 σ)) fun _ σ =>
  stepV (aLoad true 4 t2 σ) fun r0 =>
  k r0 σ
def keep83 : List (Nat × List Nat) := [(0, [0, 2]), (1, [2])]
noncomputable def body83 : Code := (Go.Proofs.Tryz.f83).body.getD .skip
theorem F83_eq (t0 : AV) (σ : AHeap) (k kp : AV → AHeap → Prop) : aw Go.Proofs.Tryz.prog (keepOf keep83) body83 (retK Go.Proofs.Tryz.prog (Go.Proofs.Tryz.f83).results.toList k kp) (frameOf 0 [t0]) σ = F83 t0 σ k kp := by kernel_rfl
theorem F83_ev {t0 : AV} {σ : AHeap} {k kp : AV → AHeap → Prop} (h : F83 t0 σ k kp) : Ev Go.Proofs.Tryz.prog 83 [t0] σ k kp :=
  Ev_of_aw mixed Go.Proofs.Tryz.func83 (show (Go.Proofs.Tryz.f83).body = some body83 by kernel_rfl) (by kernel_rfl) (args := [t0]) (of_decide_eq_true (by kernel_rfl)) (keepOf keep83) (by kernel_rfl) (by rw [F83_eq]; exact h)

/-- (enclave/machine.env).find -/
def F84 (t0 t1 : AV) (σ : AHeap) (k kp : AV → AHeap → Prop) : Prop :=
  stepK (aBox t0 σ) fun t2 σ =>
  seqW (fun fr σ => (
  k (.val (Go.Value.pointer Option.none)) σ
  )) (fun j1 => (
  stepK (pureR σ (aFieldAddr 0 t2)) fun t6 σ =>
  stepK (pureR σ (aLoad false 1 t6 σ)) fun t7 σ =>
  loopW (fun fr σ again => (
  stepK (pureR σ (aBin .neq .ptr (Abs.look fr 5) (.val (Go.Value.pointer Option.none)))) fun t9 σ =>
  condK t9 (
  stepK (pureR σ (aNilCheck (Abs.look fr 5))) fun t15 σ =>
  stepK (pureR σ (aFieldAddr 0 t15)) fun t16 σ =>
  stepK (pureR σ (aLoad false 1 t16 σ)) fun t17 σ =>
  stepK (pureR σ (aBin .eql .prim t17 (Abs.look fr 1))) fun t19 σ =>
  condK t19 (
  k (Abs.look fr 5) σ
  ) (
  stepK (pureR σ (aNilCheck (Abs.look fr 5))) fun t11 σ =>
  stepK (pureR σ (aFieldAddr 6 t11)) fun t12 σ =>
  stepK (pureR σ (aLoad false 1 t12 σ)) fun t13 σ =>
  again [(1, (Abs.look fr 1)), (5, t13)] σ
  )
  ) (
  j1 [(0, .any)] σ
  )
  )) [(1, t1), (5, t7)] σ
  ))
def keep84 : List (Nat × List Nat) := [(0, [1, 2]), (3007, [0]), (1, [1, 5]), (2, [1, 5, 9]), (4, [1, 5, 19]), (5, [4]), (3, [1, 5]), (1002, [1, 5]), (6, [4])]
noncomputable def body84 : Code := (Go.Proofs.Tryz.f84).body.getD .skip
theorem F84_eq (t0 t1 : AV) (σ : AHeap) (k kp : AV → AHeap → Prop) : aw Go.Proofs.Tryz.prog (keepOf keep84) body84 (retK Go.Proofs.Tryz.prog (Go.Proofs.Tryz.f84).results.toList k kp) (frameOf 0 [t0, t1]) σ = F84 t0 t1 σ k kp := by kernel_rfl
theorem F84_ev {t0 t1 : AV} {σ : AHeap} {k kp : AV → AHeap → Prop} (h : F84 t0 t1 σ k kp) : Ev Go.Proofs.Tryz.prog 84 [t0, t1] σ k kp :=
  Ev_of_aw mixed Go.Proofs.Tryz.func84 (show (Go.Proofs.Tryz.f84).body = some body84 by kernel_rfl) (by kernel_rfl) (args := [t0, t1]) (of_decide_eq_true (by kernel_rfl)) (keepOf keep84) (by kernel_rfl) (by rw [F84_eq]; exact h)

/-- (*enclave/machine.machine).inst -/
def F85 (t0 t1 t2 : AV) (σ : AHeap) (k kp : AV → AHeap → Prop) : Prop :=
  stepK (aBox t2 σ) fun t5 σ =>
  stepK (aAlloc [.val (.int .u8 0), .val (.int .i64 0), .val (.int .i64 0), .val (.int .i64 0)] σ) fun t6 σ =>
  stepK (pureR σ (aLoad true 2 t5 σ)) fun t14 σ =>
  stepK (pureR σ (aNilCheck t1)) fun t16 σ =>
  stepK (pureR σ (aFieldAddr 0 t16)) fun t17 σ =>
  stepK (pureR σ (aFieldAddr 4 t17)) fun t18 σ =>
  stepK (pureR σ (aLoad false 1 t18 σ)) fun t19 σ =>
  Ev Go.Proofs.Tryz.prog 84 [t14, t19] σ (fun t20 σ =>
  stepK (pureR σ (aBin .neq .ptr t20 (.val (Go.Value.pointer Option.none)))) fun t22 σ =>
  gK t22 true (fun K => K t20 σ) (fun t24 σ =>
  gK t22 true (fun K => stepK (pureR σ (aNilCheck t24)) K) (fun t25 σ =>
  gK t22 true (fun K => stepK (pureR σ (aFieldAddr 5 t25)) K) (fun t26 σ =>
  gK t22 true (fun K => stepK (pureR σ (aLoad false 1 t26 σ)) K) (fun t27 σ =>
  stepK (pureR σ (aPick t22 t27 (.val (Go.Value.bool Bool.false)))) fun t28 σ =>
  Ev Go.Proofs.Tryz.prog 79 [t28, (.val (Go.Value.int Go.IntKind.u8 6))] σ (fun t29 σ =>
  seqW (fun fr σ => (
  stepK (pureR σ (aFieldAddr 4 (Abs.look fr 8))) fun t43 σ =>
  stepK (pureR σ (aLoad false 1 t43 σ)) fun t44 σ =>
  stepK (pureR σ (aLenK .slice t44 σ)) fun t45 σ =>
  stepK (pureR σ (aNilCheck (Abs.look fr 1))) fun t47 σ =>
  stepK (pureR σ (aFieldAddr 8 t47)) fun t48 σ =>
  stepK (pureR σ (aLoad false 1 t48 σ)) fun t49 σ =>
  stepK (pureR σ (aLenK .slice t49 σ)) fun t50 σ =>
  stepK (pureR σ (aBin .eql .prim t45 t50)) fun t51 σ =>
  Ev Go.Proofs.Tryz.prog 79 [t51, (.val (Go.Value.int Go.IntKind.u8 6))] σ (fun t52 σ =>
  stepK (pureR σ (aFieldAddr 2 (Abs.look fr 8))) fun t53 σ =>
  stepK (pureR σ (aLoad true 2 t53 σ)) fun t54 σ =>
  stepK (aAlloc [.val (.pointer none), .val (.pointer none)] σ) fun t9 σ =>
  stepK (unitR (aStore 2 t9 t54 σ)) fun _ σ =>
  seqW (fun fr σ => (
  stepK (pureR σ (aLoad true 2 (Abs.look fr 5) σ)) fun t83 σ =>
  stepK (pureR σ (aNilCheck (Abs.look fr 1))) fun t85 σ =>
  stepK (pureR σ (aFieldAddr 7 t85)) fun t86 σ =>
  stepK (pureR σ (aLoad false 1 t86 σ)) fun t87 σ =>
  stepK (pureR σ (aFieldAddr 0 (Abs.look fr 8))) fun t89 σ =>
  stepK (pureR σ (aLoad false 1 t89 σ)) fun t90 σ =>
  stepK (pureR σ (aFieldAddr 1 (Abs.look fr 8))) fun t91 σ =>
  stepK (pureR σ (aLoad false 1 t91 σ)) fun t92 σ =>
  stepK (pureR σ (aLoad true 2 (Abs.look fr 9) σ)) fun t93 σ =>
  stepK (pureR σ (aBuild [.val (.pointer none), .val (.string ByteArray.empty), .val (.pointer none), .val (.pointer none), .val (.slice none 0 0)] [(0, 1, t90), (1, 1, t92), (2, 2, t93), (4, 1, (.val (Go.Value.slice Option.none 0 0)))])) fun t94 σ =>
  Ev Go.Proofs.Tryz.prog 87 [(Abs.look fr 0), t94] σ (fun t95 σ =>
  (stepK (pureR σ (aLoad true 2 (Abs.look fr 5) σ)) (fun y θ => y = t83 ∧ θ = σ)) ∧ (
  (stepK (pureR σ (aLoad false 1 t86 σ)) (fun y θ => y = t87 ∧ θ = σ)) ∧ (
  Ev Go.Proofs.Tryz.prog 86 [(Abs.look fr 0), t83, t87, t95] σ (fun t96 σ =>
  stepK (unitR (aStore 4 (Abs.look fr 6) t96 σ)) fun _ σ =>
  stepV (aLoad true 4 (Abs.look fr 6) σ) fun r0 =>
  k r0 σ
  ) kp))) kp)) (fun j2 => (
  stepK (pureR σ (aNilCheck (Abs.look fr 1))) fun t56 σ =>
  stepK (pureR σ (aFieldAddr 8 t56)) fun t57 σ =>
  stepK (pureR σ (aLoad false 1 t57 σ)) fun t58 σ =>
  stepK (pureR σ (aLenK .slice t58 σ)) fun t59 σ =>
  loopW (fun fr σ again => (
  stepK (pureR σ (aBin .lss .prim (Abs.look fr 60) (Abs.look fr 59))) fun t61 σ =>
  condK t61 (
  stepK (pureR σ (aIndexAddr 1 (Abs.look fr 58) (Abs.look fr 60) σ)) fun t63 σ =>
  stepK (pureR σ (aLoad false 1 t63 σ)) fun t64 σ =>
  stepK (pureR σ (aLoad true 2 (Abs.look fr 5) σ)) fun t66 σ =>
  Ev Go.Proofs.Tryz.prog 124 [t66, t64] σ (fun t68 σ =>
  stepK (pureR σ (aExtract 0 t68)) fun t69 σ =>
  stepK (pureR σ (aExtract 1 t68)) fun t70 σ =>
  Ev Go.Proofs.Tryz.prog 79 [t70, (.val (Go.Value.int Go.IntKind.u8 5))] σ (fun t72 σ =>
  stepK (pureR σ (aLoad true 2 (Abs.look fr 9) σ)) fun t73 σ =>
  stepK (pureR σ (aFieldAddr 4 (Abs.look fr 8))) fun t74 σ =>
  stepK (pureR σ (aLoad false 1 t74 σ)) fun t75 σ =>
  stepK (pureR σ (aIndexAddr 1 t75 (Abs.look fr 60) σ)) fun t77 σ =>
  stepK (pureR σ (aLoad false 1 t77 σ)) fun t78 σ =>
  Ev Go.Proofs.Tryz.prog 80 [t73, t78, t69] σ (fun t80 σ =>
  stepK (unitR (aStore 2 (Abs.look fr 9) t80 σ)) fun _ σ =>
  stepK (pureR σ (aBin .add .prim (Abs.look fr 60) (.val (Go.Value.int Go.IntKind.i64 1)))) fun t81 σ =>
  again [(0, (Abs.look fr 0)), (1, (Abs.look fr 1)), (5, (Abs.look fr 5)), (6, (Abs.look fr 6)), (8, (Abs.look fr 8)), (9, (Abs.look fr 9)), (58, (Abs.look fr 58)), (59, (Abs.look fr 59)), (60, t81)] σ
  ) kp) kp) kp) (
  j2 [(0, (Abs.look fr 0)), (1, (Abs.look fr 1)), (5, (Abs.look fr 5)), (6, (Abs.look fr 6)), (8, (Abs.look fr 8)), (9, (Abs.look fr 9))] σ
  )
  )) [(0, (Abs.look fr 0)), (1, (Abs.look fr 1)), (5, (Abs.look fr 5)), (6, (Abs.look fr 6)), (8, (Abs.look fr 8)), (9, t9), (58, t58), (59, t59), (60, (.val (Go.Value.int Go.IntKind.i64 0)))] σ
  ))
  ) kp)) (fun j1 => (
  (
  stepK (pureR σ (aNilCheck t0)) fun t31 σ =>
  stepK (pureR σ (aFieldAddr 3 t31)) fun t32 σ =>
  stepK (pureR σ (aLoad false 1 t32 σ)) fun t33 σ =>
  stepK (pureR σ (aNilCheck t20)) fun t36 σ =>
  stepK (pureR σ (aFieldAddr 1 t36)) fun t37 σ =>
  stepK (pureR σ (aLoad true 4 t37 σ)) fun t38 σ =>
  Ev Go.Proofs.Tryz.prog 123 [t0, t38, (.val (Go.Value.int Go.IntKind.u8 3))] σ (fun t39 σ =>
  (stepK (pureR σ (aLoad false 1 t32 σ)) (fun y θ => y = t33 ∧ θ = σ)) ∧ (
  stepK (pureR σ (aField 9 false 1 t39)) fun t40 σ =>
  stepK (pureR σ (aIndexAddr 5 t33 t40 σ)) fun t41 σ =>
  stepK (pureR σ (aLoad true 5 t41 σ)) fun t42 σ =>
  stepK (aAlloc [.val (.pointer none), .val (.string ByteArray.empty), .val (.pointer none), .val (.pointer none), .val (.slice none 0 0)] σ) fun t8 σ =>
  (stepK (pureR σ (aLoad false 1 t32 σ)) (fun y θ => y = t33 ∧ θ = σ)) ∧ (
  (stepK (pureR σ (aLoad true 4 t37 σ)) (fun y θ => y = t38 ∧ θ = σ)) ∧ (
  (stepK (pureR σ (aIndexAddr 5 t33 t40 σ)) (fun y θ => y = t41 ∧ θ = σ)) ∧ (
  (stepK (pureR σ (aLoad true 5 t41 σ)) (fun y θ => y = t42 ∧ θ = σ)) ∧ (
  stepK (unitR (aStore 5 t8 t42 σ)) fun _ σ =>
  j1 [(0, t0), (1, t1), (5, t5), (6, t6), (8, t8)] σ
  )))))) kp) ∧ (
  stepK (pureR σ (aNilCheck t0)) fun t31 σ =>
  stepK (pureR σ (aFieldAddr 3 t31)) fun t32 σ =>
  stepK (pureR σ (aLoad false 1 t32 σ)) fun t33 σ =>
  stepK (pureR σ (aNilCheck t20)) fun t36 σ =>
  stepK (pureR σ (aFieldAddr 1 t36)) fun t37 σ =>
  stepK (pureR σ (aLoad true 4 t37 σ)) fun t38 σ =>
  stepK (aAlloc [.val (.pointer none), .val (.string ByteArray.empty), .val (.pointer none), .val (.pointer none), .val (.slice none 0 0)] σ) fun t8 σ =>
  (stepK (pureR σ (aLoad false 1 t32 σ)) (fun y θ => y = t33 ∧ θ = σ)) ∧ (
  (stepK (pureR σ (aLoad true 4 t37 σ)) (fun y θ => y = t38 ∧ θ = σ)) ∧ (
  Ev Go.Proofs.Tryz.prog 123 [t0, t38, (.val (Go.Value.int Go.IntKind.u8 3))] σ (fun t39 σ =>
  (stepK (pureR σ (aLoad false 1 t32 σ)) (fun y θ => y = t33 ∧ θ = σ)) ∧ (
  stepK (pureR σ (aField 9 false 1 t39)) fun t40 σ =>
  stepK (pureR σ (aIndexAddr 5 t33 t40 σ)) fun t41 σ =>
  stepK (pureR σ (aLoad true 5 t41 σ)) fun t42 σ =>
  stepK (unitR (aStore 5 t8 t42 σ)) fun _ σ =>
  j1 [(0, t0), (1, t1), (5, t5), (6, t6), (8, t8)] σ
  )) kp)))))) kp) σ) σ) σ) σ) kp
def keep85 : List (Nat × List Nat) := [(0, [0, 1, 5, 6]), (1, [0, 1, 5, 6, 7]), (2001, [0, 1, 2, 3, 4, 5, 6, 7]), (2, [0, 1, 5, 6, 7]), (3005, [0, 1, 5, 6, 8]), (3, [0, 1, 5, 6, 8]), (2003, [0, 1, 2, 3, 4, 5, 6, 7, 8, 9, 10, 11, 12, 13, 14]), (103009, [3]), (103013, [3, 8, 11, 12]), (60003, [1]), (19000003, [0, 1, 2, 3, 4, 5, 6, 7, 8, 13, 9, 10, 11, 12, 14]), (10003009, [3]), (10003013, [3, 8]), (4, [0, 1, 5, 6, 8]), (2004, [0, 1, 2, 3, 4, 5, 6, 7, 8, 9]), (5, [0, 1, 5, 6, 8, 9]), (3014, [0, 1, 5, 6, 8, 9]), (6, [0, 1, 5, 6, 8, 9, 58, 59, 60]), (7, [0, 1, 5, 6, 8, 9, 58, 59, 60, 61]), (8, [0, 1, 5, 6, 8, 9, 10, 11, 58, 59, 60]), (9, [0, 1, 5, 6, 8, 9, 10, 12, 13, 58, 59, 60]), (10, [0, 1, 5, 6, 8, 9, 10, 12, 58, 59, 60]), (11, [0, 1, 5, 6, 8, 9, 58, 59, 60]), (2011, [0, 1, 2, 3, 4, 5, 6, 7, 8]), (12, [0, 1, 5, 6, 8, 9, 58, 59, 60]), (1007, [0, 1, 5, 6, 8, 9, 58, 59, 60]), (13, [6]), (2013, [0, 1, 2, 3, 4, 5, 6, 7, 8, 9, 10, 11, 12, 13, 14, 15]), (113013, [1, 5])]
noncomputable def body85 : Code := (Go.Proofs.Tryz.f85).body.getD .skip
theorem F85_eq (t0 t1 t2 : AV) (σ : AHeap) (k kp : AV → AHeap → Prop) : aw Go.Proofs.Tryz.prog (keepOf keep85) body85 (retK Go.Proofs.Tryz.prog (Go.Proofs.Tryz.f85).results.toList k kp) (frameOf 0 [t0, t1, t2]) σ = F85 t0 t1 t2 σ k kp := by kernel_rfl
theorem F85_ev {t0 t1 t2 : AV} {σ : AHeap} {k kp : AV → AHeap → Prop} (h : F85 t0 t1 t2 σ k kp) : Ev Go.Proofs.Tryz.prog 85 [t0, t1, t2] σ k kp :=
  Ev_of_aw mixed Go.Proofs.Tryz.func85 (show (Go.Proofs.Tryz.f85).body = some body85 by kernel_rfl) (by kernel_rfl) (args := [t0, t1, t2]) (of_decide_eq_true (by kernel_rfl)) (keepOf keep85) (by kernel_rfl) (by rw [F85_eq]; exact h)

/-- (*enclave/machine.machine).make -/
def F86 (t0 t1 t2 t3 : AV) (σ : AHeap) (k kp : AV → AHeap → Prop) : Prop :=
  stepK (aBox t1 σ) fun t5 σ =>
  stepK (aBox t3 σ) fun t7 σ =>
  stepK (aAlloc [.val (.int .u8 0), .val (.int .i64 0), .val (.int .i64 0), .val (.int .i64 0)] σ) fun t8 σ =>
  stepK (pureR σ (aLoad true 2 t5 σ)) fun t14 σ =>
  Ev Go.Proofs.Tryz.prog 124 [t14, t2] σ (fun t16 σ =>
  stepK (pureR σ (aExtract 0 t16)) fun t17 σ =>
  stepK (pureR σ (aExtract 1 t16)) fun t18 σ =>
  gK t18 true (fun K => K t0 σ) (fun t21 σ =>
  gK t18 true (fun K => stepK (pureR σ (aNilCheck t21)) K) (fun t22 σ =>
  gK t18 true (fun K => stepK (pureR σ (aFieldAddr 0 t22)) K) (fun t23 σ =>
  gK t18 true (fun K => stepK (pureR σ (aLoad false 1 t23 σ)) K) (fun t24 σ =>
  gK t18 true (fun K => K t17 σ) (fun t25 σ =>
  gK t18 true (fun K => stepK (aBuildSlice 1 1 [.val (.int .i64 0)] [(0, t25)] σ) K) (fun t26 σ =>
  gK t18 true (fun K => Ev Go.Proofs.Tryz.prog 125 [t24, t26] σ K kp) (fun t27 σ =>
  stepK (pureR σ (aPick t18 t27 (.val (Go.Value.bool Bool.false)))) fun t28 σ =>
  Ev Go.Proofs.Tryz.prog 79 [t28, (.val (Go.Value.int Go.IntKind.u8 5))] σ (fun t29 σ =>
  seqW (fun fr σ => (
  stepK (pureR σ (aBin .eql .prim (Abs.look fr 12) (.val (Go.Value.int Go.IntKind.i64 0)))) fun t41 σ =>
  Ev Go.Proofs.Tryz.prog 79 [t41, (.val (Go.Value.int Go.IntKind.u8 4))] σ (fun t42 σ =>
  stepK (pureR σ (aLoad true 4 (Abs.look fr 11) σ)) fun t43 σ =>
  stepK (unitR (aStore 4 (Abs.look fr 8) t43 σ)) fun _ σ =>
  stepV (aLoad true 4 (Abs.look fr 8) σ) fun r0 =>
  k r0 σ
  ) kp)) (fun j1 => (
  (
  stepK (pureR σ (aNilCheck t0)) fun t32 σ =>
  stepK (pureR σ (aFieldAddr 0 t32)) fun t33 σ =>
  stepK (pureR σ (aLoad false 1 t33 σ)) fun t34 σ =>
  stepK (pureR σ (aLoad true 10 t7 σ)) fun t36 σ =>
  Ev Go.Proofs.Tryz.prog 126 [t34, t17, t36] σ (fun t37 σ =>
  stepK (pureR σ (aExtract 0 t37)) fun t38 σ =>
  stepK (pureR σ (aExtract 1 t37)) fun t39 σ =>
  stepK (aAlloc [.val (.int .u8 0), .val (.int .i64 0), .val (.int .i64 0), .val (.int .i64 0)] σ) fun t11 σ =>
  (stepK (pureR σ (aLoad false 1 t33 σ)) (fun y θ => y = t34 ∧ θ = σ)) ∧ (
  (stepK (pureR σ (aLoad true 10 t7 σ)) (fun y θ => y = t36 ∧ θ = σ)) ∧ (
  stepK (unitR (aStore 4 t11 t38 σ)) fun _ σ =>
  j1 [(8, t8), (11, t11), (12, t39)] σ
  ))) kp) ∧ (
  stepK (pureR σ (aNilCheck t0)) fun t32 σ =>
  stepK (pureR σ (aFieldAddr 0 t32)) fun t33 σ =>
  stepK (pureR σ (aLoad false 1 t33 σ)) fun t34 σ =>
  stepK (pureR σ (aLoad true 10 t7 σ)) fun t36 σ =>
  stepK (aAlloc [.val (.int .u8 0), .val (.int .i64 0), .val (.int .i64 0), .val (.int .i64 0)] σ) fun t11 σ =>
  (stepK (pureR σ (aLoad false 1 t33 σ)) (fun y θ => y = t34 ∧ θ = σ)) ∧ (
  (stepK (pureR σ (aLoad true 10 t7 σ)) (fun y θ => y = t36 ∧ θ = σ)) ∧ (
  Ev Go.Proofs.Tryz.prog 126 [t34, t17, t36] σ (fun t37 σ =>
  stepK (pureR σ (aExtract 0 t37)) fun t38 σ =>
  stepK (pureR σ (aExtract 1 t37)) fun t39 σ =>
  stepK (unitR (aStore 4 t11 t38 σ)) fun _ σ =>
  j1 [(8, t8), (11, t11), (12, t39)] σ
  ) kp)))))) kp) σ) σ) σ) σ) σ) σ) σ) kp
def keep86 : List (Nat × List Nat) := [(0, [0, 2, 5, 7, 8]), (1, [0, 7, 8, 9, 10]), (2, [0, 7, 8, 9]), (3005, [8, 11, 12]), (3, [8, 11, 12]), (2003, [0, 1, 2, 3, 4, 5, 6, 7, 8, 9, 10, 11, 12]), (103010, [3, 5]), (60003, [1]), (19000003, [0, 1, 2, 3, 4, 5, 10, 6, 7, 8, 9, 11, 12]), (10003010, [3, 5]), (4, [8, 11]), (5, [8])]
noncomputable def body86 : Code := (Go.Proofs.Tryz.f86).body.getD .skip
theorem F86_eq (t0 t1 t2 t3 : AV) (σ : AHeap) (k kp : AV → AHeap → Prop) : aw Go.Proofs.Tryz.prog (keepOf keep86) body86 (retK Go.Proofs.Tryz.prog (Go.Proofs.Tryz.f86).results.toList k kp) (frameOf 0 [t0, t1, t2, t3]) σ = F86 t0 t1 t2 t3 σ k kp := by kernel_rfl
theorem F86_ev {t0 t1 t2 t3 : AV} {σ : AHeap} {k kp : AV → AHeap → Prop} (h : F86 t0 t1 t2 t3 σ k kp) : Ev Go.Proofs.Tryz.prog 86 [t0, t1, t2, t3] σ k kp :=
  Ev_of_aw mixed Go.Proofs.Tryz.func86 (show (Go.Proofs.Tryz.f86).body = some body86 by kernel_rfl) (by kernel_rfl) (args := [t0, t1, t2, t3]) (of_decide_eq_true (by kernel_rfl)) (keepOf keep86) (by kernel_rfl) (by rw [F86_eq]; exact h)

/-- (*enclave/machine.machine).coded -/
def F87 (t0 t1 : AV) (σ : AHeap) (k kp : AV → AHeap → Prop) : Prop :=
  stepK (aBox t1 σ) fun t3 σ =>
  stepK (aAlloc [.val (.int .u8 0), .val (.int .u8 0), .val (.int .i64 0), .val (.int .i64 0), .val (.int .i64 0), .val (.int .u8 0), .val (.int .i64 0), .val (.int .i64 0), .val (.int .i64 0), .val (.int .i64 0)] σ) fun t4 σ =>
  stepK (pureR σ (aNilCheck t0)) fun t7 σ =>
  stepK (pureR σ (aFieldAddr 3 t7)) fun t8 σ =>
  stepK (pureR σ (aLoad false 1 t8 σ)) fun t9 σ =>
  stepK (pureR σ (aLoad true 5 t3 σ)) fun t10 σ =>
  stepK (pureR σ (aBuildSl 1 5 [.val (.pointer none), .val (.string ByteArray.empty), .val (.pointer none), .val (.pointer none), .val (.slice none 0 0)] [(0, t10)])) fun t11 σ =>
  stepK (aAppend 5 64 t9 t11 σ) fun t12 σ =>
  stepK (pureR σ (aNilCheck t0)) fun t13 σ =>
  stepK (pureR σ (aFieldAddr 3 t13)) fun t14 σ =>
  stepK (unitR (aStore 1 t14 t12 σ)) fun _ σ =>
  stepK (pureR σ (aNilCheck t0)) fun t16 σ =>
  stepK (pureR σ (aFieldAddr 3 t16)) fun t17 σ =>
  stepK (pureR σ (aLoad false 1 t17 σ)) fun t18 σ =>
  stepK (pureR σ (aLenK .slice t18 σ)) fun t19 σ =>
  stepK (pureR σ (aBin .sub .prim t19 (.val (Go.Value.int Go.IntKind.i64 1)))) fun t20 σ =>
  stepK (pureR σ (aBuild [.val (.int .u8 0), .val (.int .u8 0), .val (.int .i64 0), .val (.int .i64 0), .val (.int .i64 0), .val (.int .u8 0), .val (.int .i64 0), .val (.int .i64 0), .val (.int .i64 0), .val (.int .i64 0)] [(0, 1, (.val (Go.Value.int Go.IntKind.u8 3))), (9, 1, t20)])) fun t21 σ =>
  stepK (unitR (aStore 10 t4 t21 σ)) fun _ σ =>
  stepV (aLoad true 10 t4 σ) fun r0 =>
  k r0 σ
def keep87 : List (Nat × List Nat) := [(0, [0, 3, 4]), (1, [0, 4]), (2001, [0, 1, 2, 3, 4, 5, 6, 7, 8, 9, 10]), (2, [4])]
noncomputable def body87 : Code := (Go.Proofs.Tryz.f87).body.getD .skip
theorem F87_eq (t0 t1 : AV) (σ : AHeap) (k kp : AV → AHeap → Prop) : aw Go.Proofs.Tryz.prog (keepOf keep87) body87 (retK Go.Proofs.Tryz.prog (Go.Proofs.Tryz.f87).results.toList k kp) (frameOf 0 [t0, t1]) σ = F87 t0 t1 σ k kp := by kernel_rfl
theorem F87_ev {t0 t1 : AV} {σ : AHeap} {k kp : AV → AHeap → Prop} (h : F87 t0 t1 σ k kp) : Ev Go.Proofs.Tryz.prog 87 [t0, t1] σ k kp :=
  Ev_of_aw mixed Go.Proofs.Tryz.func87 (show (Go.Proofs.Tryz.f87).body = some body87 by kernel_rfl) (by kernel_rfl) (args := [t0, t1]) (of_decide_eq_true (by kernel_rfl)) (keepOf keep87) (by kernel_rfl) (by rw [F87_eq]; exact h)

/-- (enclave/machine.env).with -/
def F88 (t0 t1 t2 t3 : AV) (σ : AHeap) (k kp : AV → AHeap → Prop) : Prop :=
  stepK (aBox t0 σ) fun t4 σ =>
  stepK (aBox t2 σ) fun t6 σ =>
  stepK (aAlloc [.val (.pointer none), .val (.pointer none)] σ) fun t8 σ =>
  stepK (pureR σ (aLoad true 4 t6 σ)) fun t10 σ =>
  stepK (pureR σ (aFieldAddr 0 t4)) fun t12 σ =>
  stepK (pureR σ (aLoad false 1 t12 σ)) fun t13 σ =>
  stepK (pureR σ (aBuild [.val (.string ByteArray.empty), .val (.int .u8 0), .val (.int .i64 0), .val (.int .i64 0), .val (.int .i64 0), .val (.bool false), .val (.pointer none)] [(0, 1, t1), (1, 4, t10), (5, 1, t3), (6, 1, t13)])) fun t14 σ =>
  stepK (aBox t14 σ) fun t15 σ =>
  stepK (pureR σ (aFieldAddr 0 t4)) fun t16 σ =>
  stepK (unitR (aStore 1 t16 t15 σ)) fun _ σ =>
  stepK (pureR σ (aLoad true 2 t4 σ)) fun t17 σ =>
  stepK (unitR (aStore 2 t8 t17 σ)) fun _ σ =>
  stepV (aLoad true 2 t8 σ) fun r0 =>
  k r0 σ
def keep88 : List (Nat × List Nat) := [(0, [1, 3, 4, 6, 8]), (1, [4, 8]), (2, [8])]
noncomputable def body88 : Code := (Go.Proofs.Tryz.f88).body.getD .skip
theorem F88_eq (t0 t1 t2 t3 : AV) (σ : AHeap) (k kp : AV → AHeap → Prop) : aw Go.Proofs.Tryz.prog (keepOf keep88) body88 (retK Go.Proofs.Tryz.prog (Go.Proofs.Tryz.f88).results.toList k kp) (frameOf 0 [t0, t1, t2, t3]) σ = F88 t0 t1 t2 t3 σ k kp := by kernel_rfl
theorem F88_ev {t0 t1 t2 t3 : AV} {σ : AHeap} {k kp : AV → AHeap → Prop} (h : F88 t0 t1 t2 t3 σ k kp) : Ev Go.Proofs.Tryz.prog 88 [t0, t1, t2, t3] σ k kp :=
  Ev_of_aw mixed Go.Proofs.Tryz.func88 (show (Go.Proofs.Tryz.f88).body = some body88 by kernel_rfl) (by kernel_rfl) (args := [t0, t1, t2, t3]) (of_decide_eq_true (by kernel_rfl)) (keepOf keep88) (by kernel_rfl) (by rw [F88_eq]; exact h)

/-- (*enclave/machine.machine).wait -/
def F89 (t0 t1 t2 : AV) (σ : AHeap) (k kp : AV → AHeap → Prop) : Prop :=
  stepK (aBox t2 σ) fun t5 σ =>
  stepK (aAlloc [.val (.pointer none), .val (.pointer none), .val (.pointer none), .val (.int .u8 0), .val (.int .i64 0), .val (.int .i64 0), .val (.int .i64 0), .val (.bool false), .val (.string ByteArray.empty)] σ) fun t6 σ =>
  stepK (pureR σ (aNilCheck t0)) fun t9 σ =>
  stepK (pureR σ (aFieldAddr 4 t9)) fun t10 σ =>
  stepK (pureR σ (aLoad false 1 t10 σ)) fun t11 σ =>
  stepK (pureR σ (aLoad true 2 t5 σ)) fun t13 σ =>
  stepK (pureR σ (aBuild [.val (.pointer none), .val (.pointer none), .val (.pointer none), .val (.slice none 0 0)] [(0, 1, t1), (1, 2, t13), (3, 1, (.val (Go.Value.slice Option.none 0 0)))])) fun t14 σ =>
  stepK (pureR σ (aBuildSl 1 4 [.val (.pointer none), .val (.pointer none), .val (.pointer none), .val (.slice none 0 0)] [(0, t14)])) fun t15 σ =>
  stepK (aAppend 4 48 t11 t15 σ) fun t16 σ =>
  stepK (pureR σ (aNilCheck t0)) fun t17 σ =>
  stepK (pureR σ (aFieldAddr 4 t17)) fun t18 σ =>
  stepK (unitR (aStore 1 t18 t16 σ)) fun _ σ =>
  stepK (pureR σ (aNilCheck t1)) fun t20 σ =>
  stepK (pureR σ (aFieldAddr 18 t20)) fun t21 σ =>
  stepK (pureR σ (aLoad false 1 t21 σ)) fun t22 σ =>
  stepK (pureR σ (aIndexAddr 19 t22 (.val (Go.Value.int Go.IntKind.i64 0)) σ)) fun t23 σ =>
  stepK (pureR σ (aLoad true 2 t5 σ)) fun t24 σ =>
  stepK (pureR σ (aBuild [.val (.pointer none), .val (.pointer none), .val (.pointer none), .val (.int .u8 0), .val (.int .i64 0), .val (.int .i64 0), .val (.int .i64 0), .val (.bool false), .val (.string ByteArray.empty)] [(0, 1, t23), (1, 2, t24)])) fun t25 σ =>
  stepK (unitR (aStore 9 t6 t25 σ)) fun _ σ =>
  stepV (aLoad true 9 t6 σ) fun r0 =>
  k r0 σ
def keep89 : List (Nat × List Nat) := [(0, [0, 1, 5, 6]), (1, [1, 5, 6]), (2001, [0, 1, 2, 3, 4, 5, 6, 7, 8, 9, 10, 11, 12]), (2, [6]), (2002, [0, 1, 2, 3, 4, 5, 6, 7])]
noncomputable def body89 : Code := (Go.Proofs.Tryz.f89).body.getD .skip
theorem F89_eq (t0 t1 t2 : AV) (σ : AHeap) (k kp : AV → AHeap → Prop) : aw Go.Proofs.Tryz.prog (keepOf keep89) body89 (retK Go.Proofs.Tryz.prog (Go.Proofs.Tryz.f89).results.toList k kp) (frameOf 0 [t0, t1, t2]) σ = F89 t0 t1 t2 σ k kp := by kernel_rfl
theorem F89_ev {t0 t1 t2 : AV} {σ : AHeap} {k kp : AV → AHeap → Prop} (h : F89 t0 t1 t2 σ k kp) : Ev Go.Proofs.Tryz.prog 89 [t0, t1, t2] σ k kp :=
  Ev_of_aw mixed Go.Proofs.Tryz.func89 (show (Go.Proofs.Tryz.f89).body = some body89 by kernel_rfl) (by kernel_rfl) (args := [t0, t1, t2]) (of_decide_eq_true (by kernel_rfl)) (keepOf keep89) (by kernel_rfl) (by rw [F89_eq]; exact h)

/-- (*enclave/machine.machine).pop -/
def F90 (t0 : AV) (σ : AHeap) (k kp : AV → AHeap → Prop) : Prop :=
  stepK (aAlloc [.val (.pointer none), .val (.pointer none), .val (.pointer none), .val (.slice none 0 0)] σ) fun t2 σ =>
  Ev Go.Proofs.Tryz.prog 92 [t0] σ (fun t5 σ =>
  stepK (pureR σ (aNilCheck t5)) fun t6 σ =>
  stepK (pureR σ (aLoad true 4 t6 σ)) fun t7 σ =>
  stepK (aAlloc [.val (.pointer none), .val (.pointer none), .val (.pointer none), .val (.slice none 0 0)] σ) fun t3 σ =>
  stepK (unitR (aStore 4 t3 t7 σ)) fun _ σ =>
  stepK (pureR σ (aNilCheck t0)) fun t10 σ =>
  stepK (pureR σ (aFieldAddr 4 t10)) fun t11 σ =>
  stepK (pureR σ (aLoad false 1 t11 σ)) fun t12 σ =>
  stepK (pureR σ (aNilCheck t0)) fun t14 σ =>
  stepK (pureR σ (aFieldAddr 4 t14)) fun t15 σ =>
  stepK (pureR σ (aLoad false 1 t15 σ)) fun t16 σ =>
  stepK (pureR σ (aLenK .slice t16 σ)) fun t17 σ =>
  stepK (pureR σ (aBin .sub .prim t17 (.val (Go.Value.int Go.IntKind.i64 1)))) fun t18 σ =>
  stepK (pureR σ (aSlice 4 t12 none (some t18) none)) fun t19 σ =>
  stepK (pureR σ (aNilCheck t0)) fun t20 σ =>
  stepK (pureR σ (aFieldAddr 4 t20)) fun t21 σ =>
  stepK (unitR (aStore 1 t21 t19 σ)) fun _ σ =>
  stepK (pureR σ (aLoad true 4 t3 σ)) fun t22 σ =>
  stepK (unitR (aStore 4 t2 t22 σ)) fun _ σ =>
  stepV (aLoad true 4 t2 σ) fun r0 =>
  k r0 σ) kp
def keep90 : List (Nat × List Nat) := [(0, [0, 2]), (1, [0, 2, 3]), (2, [2, 3]), (2002, [0, 1, 2, 3, 4, 5, 6, 7, 8, 9, 10, 11, 12, 13, 14]), (3, [2])]
noncomputable def body90 : Code := (Go.Proofs.Tryz.f90).body.getD .skip
theorem F90_eq (t0 : AV) (σ : AHeap) (k kp : AV → AHeap → Prop) : aw Go.Proofs.Tryz.prog (keepOf keep90) body90 (retK Go.Proofs.Tryz.prog (Go.Proofs.Tryz.f90).results.toList k kp) (frameOf 0 [t0]) σ = F90 t0 σ k kp := by kernel_rfl
theorem F90_ev {t0 : AV} {σ : AHeap} {k kp : AV → AHeap → Prop} (h : F90 t0 σ k kp) : Ev Go.Proofs.Tryz.prog 90 [t0] σ k kp :=
  Ev_of_aw mixed Go.Proofs.Tryz.func90 (show (Go.Proofs.Tryz.f90).body = some body90 by kernel_rfl) (by kernel_rfl) (args := [t0]) (of_decide_eq_true (by kernel_rfl)) (keepOf keep90) (by kernel_rfl) (by rw [F90_eq]; exact h)

/-- (*enclave/stack.Store).Pop -/
def F91 (t0 : AV) (σ : AHeap) (k kp : AV → AHeap → Prop) : Prop :=
  stepK (pureR σ (aBin .eql .ptr t0 (.val (Go.Value.pointer Option.none)))) fun t5 σ =>
  gK t5 false (fun K => K t0 σ) (fun t7 σ =>
  gK t5 false (fun K => stepK (pureR σ (aNilCheck t7)) K) (fun t8 σ =>
  gK t5 false (fun K => stepK (pureR σ (aFieldAddr 3 t8)) K) (fun t9 σ =>
  gK t5 false (fun K => stepK (pureR σ (aLoad false 1 t9 σ)) K) (fun t10 σ =>
  gK t5 false (fun K => stepK (pureR σ (aLenK .slice t10 σ)) K) (fun t11 σ =>
  gK t5 false (fun K => stepK (pureR σ (aBin .lss .prim t11 (.val (Go.Value.int Go.IntKind.i64 2)))) K) (fun t12 σ =>
  stepK (pureR σ (aPick t5 (.val (Go.Value.bool Bool.true)) t12)) fun t13 σ =>
  condK t13 (
  k (.val (Go.Value.bool Bool.false)) σ
  ) (
  stepK (pureR σ (aNilCheck t0)) fun t15 σ =>
  stepK (pureR σ (aFieldAddr 3 t15)) fun t16 σ =>
  stepK (pureR σ (aLoad false 1 t16 σ)) fun t17 σ =>
  stepK (pureR σ (aNilCheck t0)) fun t19 σ =>
  stepK (pureR σ (aFieldAddr 3 t19)) fun t20 σ =>
  stepK (pureR σ (aLoad false 1 t20 σ)) fun t21 σ =>
  stepK (pureR σ (aLenK .slice t21 σ)) fun t22 σ =>
  stepK (pureR σ (aBin .sub .prim t22 (.val (Go.Value.int Go.IntKind.i64 1)))) fun t23 σ =>
  stepK (pureR σ (aIndexAddr 1 t17 t23 σ)) fun t24 σ =>
  stepK (pureR σ (aLoad false 1 t24 σ)) fun t25 σ =>
  stepK (pureR σ (aNilCheck t0)) fun t28 σ =>
  stepK (pureR σ (aFieldAddr 3 t28)) fun t29 σ =>
  stepK (pureR σ (aLoad false 1 t29 σ)) fun t30 σ =>
  stepK (pureR σ (aNilCheck t0)) fun t32 σ =>
  stepK (pureR σ (aFieldAddr 3 t32)) fun t33 σ =>
  stepK (pureR σ (aLoad false 1 t33 σ)) fun t34 σ =>
  stepK (pureR σ (aLenK .slice t34 σ)) fun t35 σ =>
  stepK (pureR σ (aBin .sub .prim t35 (.val (Go.Value.int Go.IntKind.i64 1)))) fun t36 σ =>
  stepK (pureR σ (aSlice 1 t30 none (some t36) none)) fun t37 σ =>
  stepK (pureR σ (aNilCheck t0)) fun t38 σ =>
  stepK (pureR σ (aFieldAddr 3 t38)) fun t39 σ =>
  stepK (unitR (aStore 1 t39 t37 σ)) fun _ σ =>
  stepK (pureR σ (aNilCheck t0)) fun t41 σ =>
  stepK (pureR σ (aFieldAddr 5 t41)) fun t42 σ =>
  stepK (pureR σ (aLoad false 1 t42 σ)) fun t43 σ =>
  stepK (pureR σ (aNilCheck t0)) fun t45 σ =>
  stepK (pureR σ (aFieldAddr 2 t45)) fun t46 σ =>
  stepK (pureR σ (aLoad false 1 t46 σ)) fun t47 σ =>
  stepK (pureR σ (aLookup (.int .i64) (.val (.slice none 0 0)) false t47 t25 σ)) fun t49 σ =>
  stepK (pureR σ (aLenK .slice t49 σ)) fun t50 σ =>
  stepK (pureR σ (aBin .sub .prim t43 t50)) fun t51 σ =>
  stepK (pureR σ (aNilCheck t0)) fun t52 σ =>
  stepK (pureR σ (aFieldAddr 5 t52)) fun t53 σ =>
  stepK (unitR (aStore 1 t53 t51 σ)) fun _ σ =>
  stepK (pureR σ (aNilCheck t0)) fun t55 σ =>
  stepK (pureR σ (aFieldAddr 2 t55)) fun t56 σ =>
  stepK (pureR σ (aLoad false 1 t56 σ)) fun t57 σ =>
  stepK ((aMapDelete (.int .i64) t57 t25 σ).map fun σ => (.val (.tuple #[]), σ)) fun _ σ =>
  k (.val (Go.Value.bool Bool.true)) σ
  )) σ) σ) σ) σ) σ) σ
def keep91 : List (Nat × List Nat) := [(0, [0]), (1, [0, 13]), (2, [2]), (3, [0, 3]), (2003, [0, 1, 2, 3, 4, 5, 6, 7, 8, 9, 10, 11, 12]), (4, [0, 3]), (2004, [0, 1, 2, 3, 4, 5, 6, 7, 8, 9, 10, 11, 12, 13, 14]), (5, [0, 3]), (2005, [0, 1, 2, 3, 4, 5, 6, 7, 8, 9, 10, 11, 12, 13, 14]), (6, []), (7, [2])]
noncomputable def body91 : Code := (Go.Proofs.Tryz.f91).body.getD .skip
theorem F91_eq (t0 : AV) (σ : AHeap) (k kp : AV → AHeap → Prop) : aw Go.Proofs.Tryz.prog (keepOf keep91) body91 (retK Go.Proofs.Tryz.prog (Go.Proofs.Tryz.f91).results.toList k kp) (frameOf 0 [t0]) σ = F91 t0 σ k kp := by kernel_rfl
theorem F91_ev {t0 : AV} {σ : AHeap} {k kp : AV → AHeap → Prop} (h : F91 t0 σ k kp) : Ev Go.Proofs.Tryz.prog 91 [t0] σ k kp :=
  Ev_of_aw mixed Go.Proofs.Tryz.func91 (show (Go.Proofs.Tryz.f91).body = some body91 by kernel_rfl) (by kernel_rfl) (args := [t0]) (of_decide_eq_true (by kernel_rfl)) (keepOf keep91) (by kernel_rfl) (by rw [F91_eq]; exact h)

/-- (*enclave/machine.machine).top -/
def F92 (t0 : AV) (σ : AHeap) (k kp : AV → AHeap → Prop) : Prop :=
  stepK (pureR σ (aNilCheck t0)) fun t4 σ =>
  stepK (pureR σ (aFieldAddr 4 t4)) fun t5 σ =>
  stepK (pureR σ (aLoad false 1 t5 σ)) fun t6 σ =>
  stepK (pureR σ (aNilCheck t0)) fun t8 σ =>
  stepK (pureR σ (aFieldAddr 4 t8)) fun t9 σ =>
  stepK (pureR σ (aLoad false 1 t9 σ)) fun t10 σ =>
  stepK (pureR σ (aLenK .slice t10 σ)) fun t11 σ =>
  stepK (pureR σ (aBin .sub .prim t11 (.val (Go.Value.int Go.IntKind.i64 1)))) fun t12 σ =>
  stepK (pureR σ (aIndexAddr 4 t6 t12 σ)) fun t13 σ =>
  k t13 σ
def keep92 : List (Nat × List Nat) := [(0, [0]), (1, [2]), (2001, [0, 1, 2, 3, 4, 5, 6, 7, 8, 9, 10, 11])]
noncomputable def body92 : Code := (Go.Proofs.Tryz.f92).body.getD .skip
theorem F92_eq (t0 : AV) (σ : AHeap) (k kp : AV → AHeap → Prop) : aw Go.Proofs.Tryz.prog (keepOf keep92) body92 (retK Go.Proofs.Tryz.prog (Go.Proofs.Tryz.f92).results.toList k kp) (frameOf 0 [t0]) σ = F92 t0 σ k kp := by kernel_rfl
theorem F92_ev {t0 : AV} {σ : AHeap} {k kp : AV → AHeap → Prop} (h : F92 t0 σ k kp) : Ev Go.Proofs.Tryz.prog 92 [t0] σ k kp :=
  Ev_of_aw mixed Go.Proofs.Tryz.func92 (show (Go.Proofs.Tryz.f92).body = some body92 by kernel_rfl) (by kernel_rfl) (args := [t0]) (of_decide_eq_true (by kernel_rfl)) (keepOf keep92) (by kernel_rfl) (by rw [F92_eq]; exact h)

/-- enclave/machine.number -/
def F93 (t0 : AV) (σ : AHeap) (k kp : AV → AHeap → Prop) : Prop :=
  stepK (aBox t0 σ) fun t1 σ =>
  stepK (pureR σ (aFieldAddr 0 t1)) fun t3 σ =>
  stepK (pureR σ (aLoad false 1 t3 σ)) fun t4 σ =>
  stepK (pureR σ (aBin .eql .prim t4 (.val (Go.Value.int Go.IntKind.u8 1)))) fun t5 σ =>
  Ev Go.Proofs.Tryz.prog 79 [t5, (.val (Go.Value.int Go.IntKind.u8 6))] σ (fun t6 σ =>
  stepK (pureR σ (aFieldAddr 1 t1)) fun t7 σ =>
  stepK (pureR σ (aLoad false 1 t7 σ)) fun t8 σ =>
  k t8 σ) kp
def keep93 : List (Nat × List Nat) := [(0, [1]), (1, [1]), (2, [2])]
noncomputable def body93 : Code := (Go.Proofs.Tryz.f93).body.getD .skip
theorem F93_eq (t0 : AV) (σ : AHeap) (k kp : AV → AHeap → Prop) : aw Go.Proofs.Tryz.prog (keepOf keep93) body93 (retK Go.Proofs.Tryz.prog (Go.Proofs.Tryz.f93).results.toList k kp) (frameOf 0 [t0]) σ = F93 t0 σ k kp := by kernel_rfl
theorem F93_ev {t0 : AV} {σ : AHeap} {k kp : AV → AHeap → Prop} (h : F93 t0 σ k kp) : Ev Go.Proofs.Tryz.prog 93 [t0] σ k kp :=
  Ev_of_aw mixed Go.Proofs.Tryz.func93 (show (Go.Proofs.Tryz.f93).body = some body93 by kernel_rfl) (by kernel_rfl) (args := [t0]) (of_decide_eq_true (by kernel_rfl)) (keepOf keep93) (by kernel_rfl) (by rw [F93_eq]; exact h)

/-- (*enclave/machine.machine).rule -/
def F94 (t0 t1 : AV) (σ : AHeap) (k kp : AV → AHeap → Prop) : Prop :=
  stepK (aBox t1 σ) fun t3 σ =>
  stepK (aAlloc [.val (.pointer none), .val (.pointer none), .val (.pointer none), .val (.int .u8 0), .val (.int .i64 0), .val (.int .i64 0), .val (.int .i64 0), .val (.bool false), .val (.string ByteArray.empty)] σ) fun t4 σ =>
  stepK (pureR σ (aFieldAddr 0 t3)) fun t8 σ =>
  stepK (pureR σ (aLoad false 1 t8 σ)) fun t9 σ =>
  stepK (pureR σ (aFieldAddr 3 t3)) fun t10 σ =>
  stepK (pureR σ (aLoad false 1 t10 σ)) fun t11 σ =>
  stepK (pureR σ (aNilCheck t9)) fun t13 σ =>
  stepK (pureR σ (aFieldAddr 0 t13)) fun t14 σ =>
  stepK (pureR σ (aFieldAddr 0 t14)) fun t15 σ =>
  stepK (pureR σ (aLoad false 1 t15 σ)) fun t16 σ =>
  stepK (pureR σ (aBin .eql .prim t16 (.val (Go.Value.int Go.IntKind.u8 3)))) fun t18 σ =>
  condK t18 (
  stepK (pureR σ (aFieldAddr 1 t3)) fun t20 σ =>
  stepK (pureR σ (aLoad true 2 t20 σ)) fun t21 σ =>
  stepK (pureR σ (aNilCheck t9)) fun t23 σ =>
  stepK (pureR σ (aFieldAddr 7 t23)) fun t24 σ =>
  stepK (pureR σ (aLoad false 1 t24 σ)) fun t25 σ =>
  stepK (pureR σ (aIndexAddr 4 t11 (.val (Go.Value.int Go.IntKind.i64 0)) σ)) fun t27 σ =>
  stepK (pureR σ (aLoad true 4 t27 σ)) fun t28 σ =>
  stepK (pureR σ (aIndexAddr 4 t11 (.val (Go.Value.int Go.IntKind.i64 1)) σ)) fun t30 σ =>
  stepK (pureR σ (aLoad true 4 t30 σ)) fun t31 σ =>
  stepK (pureR σ (aBuild [.val (.int .u8 0), .val (.int .u8 0), .val (.int .i64 0), .val (.int .i64 0), .val (.int .i64 0), .val (.int .u8 0), .val (.int .i64 0), .val (.int .i64 0), .val (.int .i64 0), .val (.int .i64 0)] [(0, 1, (.val (Go.Value.int Go.IntKind.u8 1))), (1, 4, t28), (5, 4, t31)])) fun t32 σ =>
  Ev Go.Proofs.Tryz.prog 86 [t0, t21, t25, t32] σ (fun t33 σ =>
  Ev Go.Proofs.Tryz.prog 82 [t33] σ (fun t34 σ =>
  stepK (unitR (aStore 9 t4 t34 σ)) fun _ σ =>
  stepV (aLoad true 9 t4 σ) fun r0 =>
  k r0 σ
  ) kp) kp) (
  stepK (pureR σ (aBin .eql .prim t16 (.val (Go.Value.int Go.IntKind.u8 4)))) fun t36 σ =>
  condK t36 (
  stepK (pureR σ (aIndexAddr 4 t11 (.val (Go.Value.int Go.IntKind.i64 0)) σ)) fun t39 σ =>
  stepK (pureR σ (aLoad true 4 t39 σ)) fun t40 σ =>
  Ev Go.Proofs.Tryz.prog 123 [t0, t40, (.val (Go.Value.int Go.IntKind.u8 1))] σ (fun t41 σ =>
  stepK (pureR σ (aField 1 true 4 t41)) fun t42 σ =>
  Ev Go.Proofs.Tryz.prog 82 [t42] σ (fun t43 σ =>
  stepK (unitR (aStore 9 t4 t43 σ)) fun _ σ =>
  stepV (aLoad true 9 t4 σ) fun r0 =>
  k r0 σ
  ) kp) kp) (
  stepK (pureR σ (aBin .eql .prim t16 (.val (Go.Value.int Go.IntKind.u8 5)))) fun t45 σ =>
  condK t45 (
  stepK (pureR σ (aIndexAddr 4 t11 (.val (Go.Value.int Go.IntKind.i64 0)) σ)) fun t48 σ =>
  stepK (pureR σ (aLoad true 4 t48 σ)) fun t49 σ =>
  Ev Go.Proofs.Tryz.prog 123 [t0, t49, (.val (Go.Value.int Go.IntKind.u8 1))] σ (fun t50 σ =>
  stepK (pureR σ (aField 5 true 4 t50)) fun t51 σ =>
  Ev Go.Proofs.Tryz.prog 82 [t51] σ (fun t52 σ =>
  stepK (unitR (aStore 9 t4 t52 σ)) fun _ σ =>
  stepV (aLoad true 9 t4 σ) fun r0 =>
  k r0 σ
  ) kp) kp) (
  stepK (pureR σ (aBin .eql .prim t16 (.val (Go.Value.int Go.IntKind.u8 6)))) fun t54 σ =>
  condK t54 (
  stepK (pureR σ (aFieldAddr 1 t3)) fun t56 σ =>
  stepK (pureR σ (aLoad true 2 t56 σ)) fun t57 σ =>
  stepK (pureR σ (aNilCheck t9)) fun t59 σ =>
  stepK (pureR σ (aFieldAddr 7 t59)) fun t60 σ =>
  stepK (pureR σ (aLoad false 1 t60 σ)) fun t61 σ =>
  stepK (pureR σ (aIndexAddr 4 t11 (.val (Go.Value.int Go.IntKind.i64 0)) σ)) fun t63 σ =>
  stepK (pureR σ (aLoad true 4 t63 σ)) fun t64 σ =>
  stepK (pureR σ (aBuild [.val (.int .u8 0), .val (.int .u8 0), .val (.int .i64 0), .val (.int .i64 0), .val (.int .i64 0), .val (.int .u8 0), .val (.int .i64 0), .val (.int .i64 0), .val (.int .i64 0), .val (.int .i64 0)] [(0, 1, (.val (Go.Value.int Go.IntKind.u8 2))), (1, 4, t64)])) fun t65 σ =>
  Ev Go.Proofs.Tryz.prog 86 [t0, t57, t61, t65] σ (fun t66 σ =>
  Ev Go.Proofs.Tryz.prog 82 [t66] σ (fun t67 σ =>
  stepK (unitR (aStore 9 t4 t67 σ)) fun _ σ =>
  stepV (aLoad true 9 t4 σ) fun r0 =>
  k r0 σ
  ) kp) kp) (
  stepK (pureR σ (aBin .eql .prim t16 (.val (Go.Value.int Go.IntKind.u8 7)))) fun t69 σ =>
  condK t69 (
  stepK (pureR σ (aIndexAddr 4 t11 (.val (Go.Value.int Go.IntKind.i64 0)) σ)) fun t72 σ =>
  stepK (pureR σ (aLoad true 4 t72 σ)) fun t73 σ =>
  Ev Go.Proofs.Tryz.prog 123 [t0, t73, (.val (Go.Value.int Go.IntKind.u8 2))] σ (fun t74 σ =>
  stepK (pureR σ (aField 1 true 4 t74)) fun t75 σ =>
  Ev Go.Proofs.Tryz.prog 82 [t75] σ (fun t76 σ =>
  stepK (unitR (aStore 9 t4 t76 σ)) fun _ σ =>
  stepV (aLoad true 9 t4 σ) fun r0 =>
  k r0 σ
  ) kp) kp) (
  stepK (pureR σ (aBin .eql .prim t16 (.val (Go.Value.int Go.IntKind.u8 8)))) fun t78 σ =>
  condK t78 (
  stepK (pureR σ (aIndexAddr 4 t11 (.val (Go.Value.int Go.IntKind.i64 0)) σ)) fun t81 σ =>
  stepK (pureR σ (aLoad true 4 t81 σ)) fun t82 σ =>
  Ev Go.Proofs.Tryz.prog 123 [t0, t82, (.val (Go.Value.int Go.IntKind.u8 2))] σ (fun t83 σ =>
  stepK (pureR σ (aNilCheck t0)) fun t85 σ =>
  stepK (pureR σ (aFieldAddr 0 t85)) fun t86 σ =>
  stepK (pureR σ (aLoad false 1 t86 σ)) fun t87 σ =>
  stepK (pureR σ (aIndexAddr 4 t11 (.val (Go.Value.int Go.IntKind.i64 0)) σ)) fun t89 σ =>
  stepK (pureR σ (aLoad true 4 t89 σ)) fun t90 σ =>
  stepK (pureR σ (aIndexAddr 4 t11 (.val (Go.Value.int Go.IntKind.i64 1)) σ)) fun t92 σ =>
  stepK (pureR σ (aLoad true 4 t92 σ)) fun t93 σ =>
  stepK (pureR σ (aBuild [.val (.int .u8 0), .val (.int .u8 0), .val (.int .i64 0), .val (.int .i64 0), .val (.int .i64 0), .val (.int .u8 0), .val (.int .i64 0), .val (.int .i64 0), .val (.int .i64 0), .val (.int .i64 0)] [(0, 1, (.val (Go.Value.int Go.IntKind.u8 2))), (1, 4, t93)])) fun t94 σ =>
  Ev Go.Proofs.Tryz.prog 127 [t87, t90, t94] σ (fun t95 σ =>
  Ev Go.Proofs.Tryz.prog 83 [(.val (Go.Value.int Go.IntKind.i64 0))] σ (fun t96 σ =>
  Ev Go.Proofs.Tryz.prog 82 [t96] σ (fun t97 σ =>
  stepK (unitR (aStore 9 t4 t97 σ)) fun _ σ =>
  stepV (aLoad true 9 t4 σ) fun r0 =>
  k r0 σ
  ) kp) kp) kp) kp) (
  stepK (pureR σ (aBin .eql .prim t16 (.val (Go.Value.int Go.IntKind.u8 9)))) fun t99 σ =>
  condK t99 (
  stepK (pureR σ (aNilCheck t9)) fun t101 σ =>
  stepK (pureR σ (aFieldAddr 0 t101)) fun t102 σ =>
  stepK (pureR σ (aFieldAddr 1 t102)) fun t103 σ =>
  stepK (pureR σ (aLoad false 1 t103 σ)) fun t104 σ =>
  stepK (pureR σ (aIndexAddr 4 t11 (.val (Go.Value.int Go.IntKind.i64 0)) σ)) fun t106 σ =>
  stepK (pureR σ (aLoad true 4 t106 σ)) fun t107 σ =>
  stepK (pureR σ (aIndexAddr 4 t11 (.val (Go.Value.int Go.IntKind.i64 1)) σ)) fun t110 σ =>
  stepK (pureR σ (aLoad true 4 t110 σ)) fun t111 σ =>
  Ev Go.Proofs.Tryz.prog 93 [t107] σ (fun t108 σ =>
  (stepK (pureR σ (aLoad false 1 t103 σ)) (fun y θ => y = t104 ∧ θ = σ)) ∧ (
  (stepK (pureR σ (aIndexAddr 4 t11 (.val (Go.Value.int Go.IntKind.i64 1)) σ)) (fun y θ => y = t110 ∧ θ = σ)) ∧ (
  (stepK (pureR σ (aLoad true 4 t110 σ)) (fun y θ => y = t111 ∧ θ = σ)) ∧ (
  Ev Go.Proofs.Tryz.prog 93 [t111] σ (fun t112 σ =>
  (stepK (pureR σ (aLoad false 1 t103 σ)) (fun y θ => y = t104 ∧ θ = σ)) ∧ (
  Ev Go.Proofs.Tryz.prog 128 [t104, t108, t112] σ (fun t113 σ =>
  Ev Go.Proofs.Tryz.prog 83 [t113] σ (fun t114 σ =>
  Ev Go.Proofs.Tryz.prog 82 [t114] σ (fun t115 σ =>
  stepK (unitR (aStore 9 t4 t115 σ)) fun _ σ =>
  stepV (aLoad true 9 t4 σ) fun r0 =>
  k r0 σ
  ) kp) kp) kp)) kp)))) kp) (
  stepK (pureR σ (aBin .eql .prim t16 (.val (Go.Value.int Go.IntKind.u8 15)))) fun t117 σ =>
  condK t117 (
  stepK (pureR σ (aIndexAddr 4 t11 (.val (Go.Value.int Go.IntKind.i64 0)) σ)) fun t119 σ =>
  stepK (pureR σ (aLoad true 4 t119 σ)) fun t120 σ =>
  stepK (pureR σ (aNilCheck t9)) fun t124 σ =>
  stepK (pureR σ (aFieldAddr 0 t124)) fun t125 σ =>
  stepK (pureR σ (aFieldAddr 6 t125)) fun t126 σ =>
  stepK (pureR σ (aLoad false 1 t126 σ)) fun t127 σ =>
  Ev Go.Proofs.Tryz.prog 93 [t120] σ (fun t121 σ =>
  (stepK (pureR σ (aLoad false 1 t126 σ)) (fun y θ => y = t127 ∧ θ = σ)) ∧ (
  Ev Go.Proofs.Tryz.prog 83 [t121] σ (fun t122 σ =>
  (stepK (pureR σ (aLoad false 1 t126 σ)) (fun y θ => y = t127 ∧ θ = σ)) ∧ (
  stepK (pureR σ (aBuild [.val (.pointer none), .val (.pointer none), .val (.pointer none), .val (.int .u8 0), .val (.int .i64 0), .val (.int .i64 0), .val (.int .i64 0), .val (.bool false), .val (.string ByteArray.empty)] [(3, 4, t122), (7, 1, (.val (Go.Value.bool Bool.true))), (8, 1, t127)])) fun t128 σ =>
  stepK (unitR (aStore 9 t4 t128 σ)) fun _ σ =>
  stepV (aLoad true 9 t4 σ) fun r0 =>
  k r0 σ
  )) kp)) kp) (
  seqW (fun fr σ => (
  stepK (pureR σ (aFieldAddr 0 (Abs.look fr 7))) fun t141 σ =>
  stepK (pureR σ (aLoad false 1 t141 σ)) fun t142 σ =>
  stepK (pureR σ (aFieldAddr 2 (Abs.look fr 7))) fun t143 σ =>
  stepK (pureR σ (aLoad true 2 t143 σ)) fun t144 σ =>
  stepK (pureR σ (aFieldAddr 1 (Abs.look fr 7))) fun t145 σ =>
  stepK (pureR σ (aLoad false 1 t145 σ)) fun t146 σ =>
  stepK (pureR σ (aIndexAddr 4 (Abs.look fr 6) (.val (Go.Value.int Go.IntKind.i64 1)) σ)) fun t148 σ =>
  stepK (pureR σ (aLoad true 4 t148 σ)) fun t149 σ =>
  Ev Go.Proofs.Tryz.prog 88 [t144, t146, t149, (.val (Go.Value.bool Bool.false))] σ (fun t150 σ =>
  (stepK (pureR σ (aLoad false 1 t141 σ)) (fun y θ => y = t142 ∧ θ = σ)) ∧ (
  stepK (pureR σ (aBuild [.val (.pointer none), .val (.pointer none), .val (.pointer none), .val (.int .u8 0), .val (.int .i64 0), .val (.int .i64 0), .val (.int .i64 0), .val (.bool false), .val (.string ByteArray.empty)] [(0, 1, t142), (1, 2, t150)])) fun t151 σ =>
  stepK (unitR (aStore 9 (Abs.look fr 4) t151 σ)) fun _ σ =>
  stepV (aLoad true 9 (Abs.look fr 4) σ) fun r0 =>
  k r0 σ
  )) kp)) (fun j1 => (
  (
  stepK (pureR σ (aNilCheck t0)) fun t130 σ =>
  stepK (pureR σ (aFieldAddr 3 t130)) fun t131 σ =>
  stepK (pureR σ (aLoad false 1 t131 σ)) fun t132 σ =>
  stepK (pureR σ (aIndexAddr 4 t11 (.val (Go.Value.int Go.IntKind.i64 0)) σ)) fun t135 σ =>
  stepK (pureR σ (aLoad true 4 t135 σ)) fun t136 σ =>
  Ev Go.Proofs.Tryz.prog 123 [t0, t136, (.val (Go.Value.int Go.IntKind.u8 3))] σ (fun t137 σ =>
  (stepK (pureR σ (aLoad false 1 t131 σ)) (fun y θ => y = t132 ∧ θ = σ)) ∧ (
  stepK (pureR σ (aField 9 false 1 t137)) fun t138 σ =>
  stepK (pureR σ (aIndexAddr 5 t132 t138 σ)) fun t139 σ =>
  stepK (pureR σ (aLoad true 5 t139 σ)) fun t140 σ =>
  stepK (aAlloc [.val (.pointer none), .val (.string ByteArray.empty), .val (.pointer none), .val (.pointer none), .val (.slice none 0 0)] σ) fun t7 σ =>
  (stepK (pureR σ (aLoad false 1 t131 σ)) (fun y θ => y = t132 ∧ θ = σ)) ∧ (
  (stepK (pureR σ (aIndexAddr 4 t11 (.val (Go.Value.int Go.IntKind.i64 0)) σ)) (fun y θ => y = t135 ∧ θ = σ)) ∧ (
  (stepK (pureR σ (aLoad true 4 t135 σ)) (fun y θ => y = t136 ∧ θ = σ)) ∧ (
  (stepK (pureR σ (aIndexAddr 5 t132 t138 σ)) (fun y θ => y = t139 ∧ θ = σ)) ∧ (
  (stepK (pureR σ (aLoad true 5 t139 σ)) (fun y θ => y = t140 ∧ θ = σ)) ∧ (
  stepK (unitR (aStore 5 t7 t140 σ)) fun _ σ =>
  j1 [(4, t4), (6, t11), (7, t7)] σ
  ))))))) kp) ∧ (
  stepK (pureR σ (aNilCheck t0)) fun t130 σ =>
  stepK (pureR σ (aFieldAddr 3 t130)) fun t131 σ =>
  stepK (pureR σ (aLoad false 1 t131 σ)) fun t132 σ =>
  stepK (pureR σ (aIndexAddr 4 t11 (.val (Go.Value.int Go.IntKind.i64 0)) σ)) fun t135 σ =>
  stepK (pureR σ (aLoad true 4 t135 σ)) fun t136 σ =>
  stepK (aAlloc [.val (.pointer none), .val (.string ByteArray.empty), .val (.pointer none), .val (.pointer none), .val (.slice none 0 0)] σ) fun t7 σ =>
  (stepK (pureR σ (aLoad false 1 t131 σ)) (fun y θ => y = t132 ∧ θ = σ)) ∧ (
  (stepK (pureR σ (aIndexAddr 4 t11 (.val (Go.Value.int Go.IntKind.i64 0)) σ)) (fun y θ => y = t135 ∧ θ = σ)) ∧ (
  (stepK (pureR σ (aLoad true 4 t135 σ)) (fun y θ => y = t136 ∧ θ = σ)) ∧ (
  Ev Go.Proofs.Tryz.prog 123 [t0, t136, (.val (Go.Value.int Go.IntKind.u8 3))] σ (fun t137 σ =>
  (stepK (pureR σ (aLoad false 1 t131 σ)) (fun y θ => y = t132 ∧ θ = σ)) ∧ (
  stepK (pureR σ (aField 9 false 1 t137)) fun t138 σ =>
  stepK (pureR σ (aIndexAddr 5 t132 t138 σ)) fun t139 σ =>
  stepK (pureR σ (aLoad true 5 t139 σ)) fun t140 σ =>
  stepK (unitR (aStore 5 t7 t140 σ)) fun _ σ =>
  j1 [(4, t4), (6, t11), (7, t7)] σ
  )) kp))))))
  )
  )
  )
  )
  )
  )
  )
  )
def keep94 : List (Nat × List Nat) := [(0, [0, 3, 4]), (1, [0, 3, 4, 5, 6]), (2001, [0, 1, 2, 3, 4, 5]), (2, [0, 3, 4, 5, 6, 16]), (3, [0, 3, 4, 5, 6, 16, 17]), (4, [4]), (2004, [0, 1, 2, 3, 4, 5, 6, 7, 8, 9, 10, 11, 12, 13, 14, 15, 16]), (5, [0, 3, 4, 5, 6, 16, 35]), (6, [4]), (7, [0, 3, 4, 5, 6, 16, 44]), (8, [4]), (9, [0, 3, 4, 5, 6, 16, 53]), (10, [4]), (2010, [0, 1, 2, 3, 4, 5, 6, 7, 8, 9, 10, 11, 12, 13]), (11, [0, 4, 5, 6, 16, 68]), (12, [4]), (13, [0, 4, 5, 6, 16, 77]), (14, [0, 4, 6]), (15, [4]), (2015, [0, 1, 2, 3, 4, 5, 6, 7, 8, 9, 10, 11]), (16, [4]), (17, [0, 4, 5, 6, 16, 98]), (18, [4]), (2018, [0, 1, 2, 3, 4, 5, 6, 7, 9, 10, 11, 8, 12, 13, 14, 15, 16]), (118008, [4, 10, 11]), (118012, [4]), (19, [0, 4, 5, 6, 116]), (20, [4]), (2020, [0, 1, 2, 5, 6, 7, 8, 9, 3, 4, 10, 11]), (120003, [9]), (120004, [9]), (3023, [4, 6, 7]), (21, [4, 6, 7]), (2021, [0, 1, 2, 3, 4, 5, 6, 7, 8, 9, 10, 11, 12, 13]), (121008, [3]), (121012, [3, 6, 7, 10, 11]), (60021, [1]), (19000021, [0, 1, 2, 3, 4, 5, 6, 7, 12, 8, 9, 10, 11, 13]), (10021008, [3]), (10021012, [3, 6, 7]), (22, [4]), (2022, [0, 1, 2, 3, 4, 5, 6, 7, 8, 9, 10, 11]), (122009, [1])]
noncomputable def body94 : Code := (Go.Proofs.Tryz.f94).body.getD .skip
theorem F94_eq (t0 t1 : AV) (σ : AHeap) (k kp : AV → AHeap → Prop) : aw Go.Proofs.Tryz.prog (keepOf keep94) body94 (retK Go.Proofs.Tryz.prog (Go.Proofs.Tryz.f94).results.toList k kp) (frameOf 0 [t0, t1]) σ = F94 t0 t1 σ k kp := by kernel_rfl
theorem F94_ev {t0 t1 : AV} {σ : AHeap} {k kp : AV → AHeap → Prop} (h : F94 t0 t1 σ k kp) : Ev Go.Proofs.Tryz.prog 94 [t0, t1] σ k kp :=
  Ev_of_aw mixed Go.Proofs.Tryz.func94 (show (Go.Proofs.Tryz.f94).body = some body94 by kernel_rfl) (by kernel_rfl) (args := [t0, t1]) (of_decide_eq_true (by kernel_rfl)) (keepOf keep94) (by kernel_rfl) (by rw [F94_eq]; exact h)

/-- (*enclave/machine.machine).take -/
def F123 (t0 t1 t2 : AV) (σ : AHeap) (k kp : AV → AHeap → Prop) : Prop :=
  stepK (aBox t1 σ) fun t4 σ =>
  stepK (aAlloc [.val (.int .u8 0), .val (.int .u8 0), .val (.int .i64 0), .val (.int .i64 0), .val (.int .i64 0), .val (.int .u8 0), .val (.int .i64 0), .val (.int .i64 0), .val (.int .i64 0), .val (.int .i64 0)] σ) fun t6 σ =>
  stepK (pureR σ (aFieldAddr 0 t4)) fun t9 σ =>
  stepK (pureR σ (aLoad false 1 t9 σ)) fun t10 σ =>
  stepK (pureR σ (aBin .eql .prim t10 (.val (Go.Value.int Go.IntKind.u8 2)))) fun t11 σ =>
  Ev Go.Proofs.Tryz.prog 79 [t11, (.val (Go.Value.int Go.IntKind.u8 6))] σ (fun t12 σ =>
  seqW (fun fr σ => (
  stepK (pureR σ (aBin .neq .prim (Abs.look fr 8) (.val (Go.Value.int Go.IntKind.i64 6)))) fun t23 σ =>
  Ev Go.Proofs.Tryz.prog 79 [t23, (.val (Go.Value.int Go.IntKind.u8 5))] σ (fun t24 σ =>
  stepK (pureR σ (aBin .eql .prim (Abs.look fr 8) (.val (Go.Value.int Go.IntKind.i64 0)))) fun t26 σ =>
  gK t26 true (fun K => stepK (pureR σ (aFieldAddr 0 (Abs.look fr 7))) K) (fun t28 σ =>
  gK t26 true (fun K => stepK (pureR σ (aLoad false 1 t28 σ)) K) (fun t29 σ =>
  gK t26 true (fun K => K (Abs.look fr 2) σ) (fun t30 σ =>
  gK t26 true (fun K => stepK (pureR σ (aBin .eql .prim t29 t30)) K) (fun t31 σ =>
  stepK (pureR σ (aPick t26 t31 (.val (Go.Value.bool Bool.false)))) fun t32 σ =>
  Ev Go.Proofs.Tryz.prog 79 [t32, (.val (Go.Value.int Go.IntKind.u8 6))] σ (fun t33 σ =>
  stepK (pureR σ (aLoad true 10 (Abs.look fr 7) σ)) fun t34 σ =>
  stepK (unitR (aStore 10 (Abs.look fr 6) t34 σ)) fun _ σ =>
  stepV (aLoad true 10 (Abs.look fr 6) σ) fun r0 =>
  k r0 σ
  ) kp) σ) σ) σ) σ) kp)) (fun j1 => (
  (
  stepK (pureR σ (aNilCheck t0)) fun t15 σ =>
  stepK (pureR σ (aFieldAddr 0 t15)) fun t16 σ =>
  stepK (pureR σ (aLoad false 1 t16 σ)) fun t17 σ =>
  stepK (pureR σ (aLoad true 4 t4 σ)) fun t18 σ =>
  Ev Go.Proofs.Tryz.prog 171 [t17, t18] σ (fun t19 σ =>
  stepK (pureR σ (aExtract 0 t19)) fun t20 σ =>
  stepK (pureR σ (aExtract 1 t19)) fun t21 σ =>
  stepK (aAlloc [.val (.int .u8 0), .val (.int .u8 0), .val (.int .i64 0), .val (.int .i64 0), .val (.int .i64 0), .val (.int .u8 0), .val (.int .i64 0), .val (.int .i64 0), .val (.int .i64 0), .val (.int .i64 0)] σ) fun t7 σ =>
  (stepK (pureR σ (aLoad false 1 t16 σ)) (fun y θ => y = t17 ∧ θ = σ)) ∧ (
  (stepK (pureR σ (aLoad true 4 t4 σ)) (fun y θ => y = t18 ∧ θ = σ)) ∧ (
  stepK (unitR (aStore 10 t7 t20 σ)) fun _ σ =>
  j1 [(2, t2), (6, t6), (7, t7), (8, t21)] σ
  ))) kp) ∧ (
  stepK (pureR σ (aNilCheck t0)) fun t15 σ =>
  stepK (pureR σ (aFieldAddr 0 t15)) fun t16 σ =>
  stepK (pureR σ (aLoad false 1 t16 σ)) fun t17 σ =>
  stepK (pureR σ (aLoad true 4 t4 σ)) fun t18 σ =>
  stepK (aAlloc [.val (.int .u8 0), .val (.int .u8 0), .val (.int .i64 0), .val (.int .i64 0), .val (.int .i64 0), .val (.int .u8 0), .val (.int .i64 0), .val (.int .i64 0), .val (.int .i64 0), .val (.int .i64 0)] σ) fun t7 σ =>
  (stepK (pureR σ (aLoad false 1 t16 σ)) (fun y θ => y = t17 ∧ θ = σ)) ∧ (
  (stepK (pureR σ (aLoad true 4 t4 σ)) (fun y θ => y = t18 ∧ θ = σ)) ∧ (
  Ev Go.Proofs.Tryz.prog 171 [t17, t18] σ (fun t19 σ =>
  stepK (pureR σ (aExtract 0 t19)) fun t20 σ =>
  stepK (pureR σ (aExtract 1 t19)) fun t21 σ =>
  stepK (unitR (aStore 10 t7 t20 σ)) fun _ σ =>
  j1 [(2, t2), (6, t6), (7, t7), (8, t21)] σ
  ) kp)))))) kp
def keep123 : List (Nat × List Nat) := [(0, [0, 2, 4, 6]), (1, [0, 2, 4, 6]), (3004, [2, 6, 7, 8]), (2, [2, 6, 7, 8]), (2002, [0, 1, 2, 3, 4, 5, 6, 7, 8, 9, 10, 11]), (102009, [3, 4]), (60002, [1]), (19000002, [0, 1, 2, 3, 4, 9, 5, 6, 7, 8, 10, 11]), (10002009, [3, 4]), (3, [2, 6, 7, 8]), (4, [6, 7]), (5, [6])]
noncomputable def body123 : Code := (Go.Proofs.Tryz.f123).body.getD .skip
theorem F123_eq (t0 t1 t2 : AV) (σ : AHeap) (k kp : AV → AHeap → Prop) : aw Go.Proofs.Tryz.prog (keepOf keep123) body123 (retK Go.Proofs.Tryz.prog (Go.Proofs.Tryz.f123).results.toList k kp) (frameOf 0 [t0, t1, t2]) σ = F123 t0 t1 t2 σ k kp := by kernel_rfl
theorem F123_ev {t0 t1 t2 : AV} {σ : AHeap} {k kp : AV → AHeap → Prop} (h : F123 t0 t1 t2 σ k kp) : Ev Go.Proofs.Tryz.prog 123 [t0, t1, t2] σ k kp :=
  Ev_of_aw mixed Go.Proofs.Tryz.func123 (show (Go.Proofs.Tryz.f123).body = some body123 by kernel_rfl) (by kernel_rfl) (args := [t0, t1, t2]) (of_decide_eq_true (by kernel_rfl)) (keepOf keep123) (by kernel_rfl) (by rw [F123_eq]; exact h)

/-- (enclave/machine.env).region -/
def F124 (t0 t1 : AV) (σ : AHeap) (k kp : AV → AHeap → Prop) : Prop :=
  stepK (aBox t0 σ) fun t2 σ =>
  seqW (fun fr σ => (
  stepK (pureR σ (aBin .eql .prim (Abs.look fr 1) (.val (Go.Value.int Go.IntKind.i64 0)))) fun t26 σ =>
  k (.tup [(.val (Go.Value.int Go.IntKind.i64 0)), t26]) σ
  )) (fun j1 => (
  stepK (pureR σ (aFieldAddr 1 t2)) fun t7 σ =>
  stepK (pureR σ (aLoad false 1 t7 σ)) fun t8 σ =>
  loopW (fun fr σ again => (
  stepK (pureR σ (aBin .neq .ptr (Abs.look fr 6) (.val (Go.Value.pointer Option.none)))) fun t10 σ =>
  condK t10 (
  stepK (pureR σ (aNilCheck (Abs.look fr 6))) fun t16 σ =>
  stepK (pureR σ (aFieldAddr 0 t16)) fun t17 σ =>
  stepK (pureR σ (aLoad false 1 t17 σ)) fun t18 σ =>
  stepK (pureR σ (aBin .eql .prim t18 (Abs.look fr 1))) fun t20 σ =>
  condK t20 (
  stepK (pureR σ (aNilCheck (Abs.look fr 6))) fun t22 σ =>
  stepK (pureR σ (aFieldAddr 1 t22)) fun t23 σ =>
  stepK (pureR σ (aLoad false 1 t23 σ)) fun t24 σ =>
  k (.tup [t24, (.val (Go.Value.bool Bool.true))]) σ
  ) (
  stepK (pureR σ (aNilCheck (Abs.look fr 6))) fun t12 σ =>
  stepK (pureR σ (aFieldAddr 2 t12)) fun t13 σ =>
  stepK (pureR σ (aLoad false 1 t13 σ)) fun t14 σ =>
  again [(1, (Abs.look fr 1)), (6, t14)] σ
  )
  ) (
  j1 [(1, (Abs.look fr 1))] σ
  )
  )) [(1, t1), (6, t8)] σ
  ))
def keep124 : List (Nat × List Nat) := [(0, [1, 2]), (3007, [1]), (1, [1, 6]), (2, [1, 6, 10]), (4, [1, 6, 20]), (5, [4, 5]), (3, [1, 6]), (1002, [1, 6]), (6, [4, 5])]
noncomputable def body124 : Code := (Go.Proofs.Tryz.f124).body.getD .skip
theorem F124_eq (t0 t1 : AV) (σ : AHeap) (k kp : AV → AHeap → Prop) : aw Go.Proofs.Tryz.prog (keepOf keep124) body124 (retK Go.Proofs.Tryz.prog (Go.Proofs.Tryz.f124).results.toList k kp) (frameOf 0 [t0, t1]) σ = F124 t0 t1 σ k kp := by kernel_rfl
theorem F124_ev {t0 t1 : AV} {σ : AHeap} {k kp : AV → AHeap → Prop} (h : F124 t0 t1 σ k kp) : Ev Go.Proofs.Tryz.prog 124 [t0, t1] σ k kp :=
  Ev_of_aw mixed Go.Proofs.Tryz.func124 (show (Go.Proofs.Tryz.f124).body = some body124 by kernel_rfl) (by kernel_rfl) (args := [t0, t1]) (of_decide_eq_true (by kernel_rfl)) (keepOf keep124) (by kernel_rfl) (by rw [F124_eq]; exact h)

/-- (*enclave/stack.Store).Live -/
def F125 (t0 t1 : AV) (σ : AHeap) (k kp : AV → AHeap → Prop) : Prop :=
  seqW (fun fr σ => (
  k (.val (Go.Value.bool Bool.true)) σ
  )) (fun j1 => (
  stepK (pureR σ (aLenK .slice t1 σ)) fun t10 σ =>
  loopW (fun fr σ again => (
  stepK (pureR σ (aBin .lss .prim (Abs.look fr 11) (Abs.look fr 10))) fun t12 σ =>
  condK t12 (
  stepK (pureR σ (aIndexAddr 1 (Abs.look fr 9) (Abs.look fr 11) σ)) fun t13 σ =>
  stepK (pureR σ (aLoad false 1 t13 σ)) fun t14 σ =>
  stepK (pureR σ (aBin .eql .ptr (Abs.look fr 0) (.val (Go.Value.pointer Option.none)))) fun t16 σ =>
  condK t16 (
  k (.val (Go.Value.bool Bool.false)) σ
  ) (
  stepK (pureR σ (aNilCheck (Abs.look fr 0))) fun t19 σ =>
  stepK (pureR σ (aFieldAddr 2 t19)) fun t20 σ =>
  stepK (pureR σ (aLoad false 1 t20 σ)) fun t21 σ =>
  stepK (pureR σ (aLookup (.int .i64) (.val (.slice none 0 0)) true t21 t14 σ)) fun t23 σ =>
  stepK (pureR σ (aExtract 0 t23)) fun t24 σ =>
  stepK (pureR σ (aExtract 1 t23)) fun t25 σ =>
  stepK (pureR σ (aNot t25)) fun t27 σ =>
  condK t27 (
  k (.val (Go.Value.bool Bool.false)) σ
  ) (
  stepK (pureR σ (aBin .add .prim (Abs.look fr 11) (.val (Go.Value.int Go.IntKind.i64 1)))) fun t28 σ =>
  again [(0, (Abs.look fr 0)), (9, (Abs.look fr 9)), (10, (Abs.look fr 10)), (11, t28)] σ
  )
  )
  ) (
  j1 [(0, (Abs.look fr 0))] σ
  )
  )) [(0, t0), (9, t1), (10, t10), (11, (.val (Go.Value.int Go.IntKind.i64 0)))] σ
  ))
def keep125 : List (Nat × List Nat) := [(0, [0, 1]), (3011, [0]), (1, [0, 9, 10, 11]), (2, [0, 9, 10, 11, 12]), (3, [0, 6, 9, 10, 11]), (4, [0, 6, 9, 10, 11, 16]), (5, [4]), (6, [0, 8, 9, 10, 11]), (7, [0, 9, 10, 11, 27]), (8, [4]), (9, [0, 9, 10, 11]), (1002, [0, 9, 10, 11]), (10, [4])]
noncomputable def body125 : Code := (Go.Proofs.Tryz.f125).body.getD .skip
theorem F125_eq (t0 t1 : AV) (σ : AHeap) (k kp : AV → AHeap → Prop) : aw Go.Proofs.Tryz.prog (keepOf keep125) body125 (retK Go.Proofs.Tryz.prog (Go.Proofs.Tryz.f125).results.toList k kp) (frameOf 0 [t0, t1]) σ = F125 t0 t1 σ k kp := by kernel_rfl
theorem F125_ev {t0 t1 : AV} {σ : AHeap} {k kp : AV → AHeap → Prop} (h : F125 t0 t1 σ k kp) : Ev Go.Proofs.Tryz.prog 125 [t0, t1] σ k kp :=
  Ev_of_aw mixed Go.Proofs.Tryz.func125 (show (Go.Proofs.Tryz.f125).body = some body125 by kernel_rfl) (by kernel_rfl) (args := [t0, t1]) (of_decide_eq_true (by kernel_rfl)) (keepOf keep125) (by kernel_rfl) (by rw [F125_eq]; exact h)

/-- (*enclave/stack.Store).Put -/
def F126 (t0 t1 t2 : AV) (σ : AHeap) (k kp : AV → AHeap → Prop) : Prop :=
  stepK (aBox t2 σ) fun t5 σ =>
  stepK (aAlloc [.val (.int .u8 0), .val (.int .i64 0), .val (.int .i64 0), .val (.int .i64 0)] σ) fun t6 σ =>
  stepK (aBuildSlice 1 1 [.val (.int .i64 0)] [(0, t1)] σ) fun t11 σ =>
  Ev Go.Proofs.Tryz.prog 125 [t0, t11] σ (fun t12 σ =>
  stepK (pureR σ (aNot t12)) fun t13 σ =>
  condK t13 (
  stepK (pureR σ (aBuild [.val (.int .u8 0), .val (.int .i64 0), .val (.int .i64 0), .val (.int .i64 0)] [])) fun t14 σ =>
  stepK (unitR (aStore 4 t6 t14 σ)) fun _ σ =>
  stepV (aLoad true 4 t6 σ) fun r0 =>
  k (.tup [r0, (.val (Go.Value.int Go.IntKind.i64 6))]) σ
  ) (
  stepK (pureR σ (aNilCheck t0)) fun t17 σ =>
  stepK (pureR σ (aFieldAddr 5 t17)) fun t18 σ =>
  stepK (pureR σ (aLoad false 1 t18 σ)) fun t19 σ =>
  stepK (pureR σ (aNilCheck t0)) fun t21 σ =>
  stepK (pureR σ (aFieldAddr 0 t21)) fun t22 σ =>
  stepK (pureR σ (aFieldAddr 1 t22)) fun t23 σ =>
  stepK (pureR σ (aLoad false 1 t23 σ)) fun t24 σ =>
  stepK (pureR σ (aBin .geq .prim t19 t24)) fun t25 σ =>
  condK t25 (
  stepK (pureR σ (aBuild [.val (.int .u8 0), .val (.int .i64 0), .val (.int .i64 0), .val (.int .i64 0)] [])) fun t26 σ =>
  stepK (unitR (aStore 4 t6 t26 σ)) fun _ σ =>
  stepV (aLoad true 4 t6 σ) fun r0 =>
  k (.tup [r0, (.val (Go.Value.int Go.IntKind.i64 3))]) σ
  ) (
  stepK (pureR σ (aNilCheck t0)) fun t28 σ =>
  stepK (pureR σ (aFieldAddr 5 t28)) fun t29 σ =>
  stepK (pureR σ (aLoad false 1 t29 σ)) fun t30 σ =>
  stepK (pureR σ (aBin .add .prim t30 (.val (Go.Value.int Go.IntKind.i64 1)))) fun t31 σ =>
  stepK (pureR σ (aNilCheck t0)) fun t32 σ =>
  stepK (pureR σ (aFieldAddr 5 t32)) fun t33 σ =>
  stepK (unitR (aStore 1 t33 t31 σ)) fun _ σ =>
  stepK (pureR σ (aNilCheck t0)) fun t36 σ =>
  stepK (pureR σ (aFieldAddr 6 t36)) fun t37 σ =>
  stepK (pureR σ (aLoad false 1 t37 σ)) fun t38 σ =>
  stepK (pureR σ (aNilCheck t0)) fun t40 σ =>
  stepK (pureR σ (aFieldAddr 5 t40)) fun t41 σ =>
  stepK (pureR σ (aLoad false 1 t41 σ)) fun t42 σ =>
  stepK (pureR σ (aMax t38 t42)) fun t43 σ =>
  stepK (pureR σ (aNilCheck t0)) fun t44 σ =>
  stepK (pureR σ (aFieldAddr 6 t44)) fun t45 σ =>
  stepK (unitR (aStore 1 t45 t43 σ)) fun _ σ =>
  stepK (pureR σ (aNilCheck t0)) fun t47 σ =>
  stepK (pureR σ (aFieldAddr 2 t47)) fun t48 σ =>
  stepK (pureR σ (aLoad false 1 t48 σ)) fun t49 σ =>
  stepK (pureR σ (aNilCheck t0)) fun t52 σ =>
  stepK (pureR σ (aFieldAddr 2 t52)) fun t53 σ =>
  stepK (pureR σ (aLoad false 1 t53 σ)) fun t54 σ =>
  stepK (pureR σ (aLookup (.int .i64) (.val (.slice none 0 0)) false t54 t1 σ)) fun t56 σ =>
  stepK (pureR σ (aLoad true 10 t5 σ)) fun t57 σ =>
  stepK (pureR σ (aBuildSl 1 10 [.val (.int .u8 0), .val (.int .u8 0), .val (.int .i64 0), .val (.int .i64 0), .val (.int .i64 0), .val (.int .u8 0), .val (.int .i64 0), .val (.int .i64 0), .val (.int .i64 0), .val (.int .i64 0)] [(0, t57)])) fun t58 σ =>
  stepK (aAppend 10 80 t56 t58 σ) fun t59 σ =>
  (stepK (pureR σ (aLoad false 1 t48 σ)) (fun y θ => y = t49 ∧ θ = σ)) ∧ (
  stepK (unitR (aMapUpdate (.int .i64) t49 t1 t59 σ)) fun _ σ =>
  stepK (pureR σ (aNilCheck t0)) fun t62 σ =>
  stepK (pureR σ (aFieldAddr 2 t62)) fun t63 σ =>
  stepK (pureR σ (aLoad false 1 t63 σ)) fun t64 σ =>
  stepK (pureR σ (aLookup (.int .i64) (.val (.slice none 0 0)) false t64 t1 σ)) fun t66 σ =>
  stepK (pureR σ (aLenK .slice t66 σ)) fun t67 σ =>
  stepK (pureR σ (aBin .sub .prim t67 (.val (Go.Value.int Go.IntKind.i64 1)))) fun t68 σ =>
  stepK (pureR σ (aBuild [.val (.int .u8 0), .val (.int .i64 0), .val (.int .i64 0), .val (.int .i64 0)] [(0, 1, (.val (Go.Value.int Go.IntKind.u8 2))), (2, 1, t1), (3, 1, t68)])) fun t69 σ =>
  stepK (unitR (aStore 4 t6 t69 σ)) fun _ σ =>
  stepV (aLoad true 4 t6 σ) fun r0 =>
  k (.tup [r0, (.val (Go.Value.int Go.IntKind.i64 0))]) σ
  ))
  )) kp
def keep126 : List (Nat × List Nat) := [(0, [0, 1, 5, 6]), (1, [0, 1, 5, 6, 8]), (2, [6, 7]), (3, [0, 1, 5, 6, 15]), (2003, [0, 1, 2, 3, 4, 5, 6, 7, 8, 9, 10]), (4, [6, 7]), (5, [0, 1, 5, 6]), (6, [0, 1, 5, 6]), (2006, [0, 1, 2, 3, 4, 5, 6, 7, 8, 9, 10, 11, 12]), (7, [0, 1, 6]), (2007, [0, 1, 2, 3, 4, 5, 6, 7, 8, 9, 10, 11, 12, 13, 14]), (107013, [3]), (8, [6, 7])]
noncomputable def body126 : Code := (Go.Proofs.Tryz.f126).body.getD .skip
theorem F126_eq (t0 t1 t2 : AV) (σ : AHeap) (k kp : AV → AHeap → Prop) : aw Go.Proofs.Tryz.prog (keepOf keep126) body126 (retK Go.Proofs.Tryz.prog (Go.Proofs.Tryz.f126).results.toList k kp) (frameOf 0 [t0, t1, t2]) σ = F126 t0 t1 t2 σ k kp := by kernel_rfl
theorem F126_ev {t0 t1 t2 : AV} {σ : AHeap} {k kp : AV → AHeap → Prop} (h : F126 t0 t1 t2 σ k kp) : Ev Go.Proofs.Tryz.prog 126 [t0, t1, t2] σ k kp :=
  Ev_of_aw mixed Go.Proofs.Tryz.func126 (show (Go.Proofs.Tryz.f126).body = some body126 by kernel_rfl) (by kernel_rfl) (args := [t0, t1, t2]) (of_decide_eq_true (by kernel_rfl)) (keepOf keep126) (by kernel_rfl) (by rw [F126_eq]; exact h)

/-- (*enclave/stack.Store).Set -/
def F127 (t0 t1 t2 : AV) (σ : AHeap) (k kp : AV → AHeap → Prop) : Prop :=
  stepK (aBox t1 σ) fun t4 σ =>
  stepK (aBox t2 σ) fun t5 σ =>
  stepK (pureR σ (aLoad true 4 t4 σ)) fun t11 σ =>
  Ev Go.Proofs.Tryz.prog 172 [t0, t11] σ (fun t12 σ =>
  stepK (pureR σ (aExtract 0 t12)) fun t13 σ =>
  stepK (pureR σ (aExtract 1 t12)) fun t14 σ =>
  seqW (fun fr σ => (
  k (Abs.look fr 8) σ
  )) (fun j1 => (
  stepK (pureR σ (aBin .eql .prim t14 (.val (Go.Value.int Go.IntKind.i64 0)))) fun t16 σ =>
  condK t16 (
  stepK (pureR σ (aLoad true 10 t5 σ)) fun t18 σ =>
  stepK (pureR σ (aNilCheck t13)) fun t19 σ =>
  stepK (unitR (aStore 10 t19 t18 σ)) fun _ σ =>
  j1 [(8, t14)] σ
  ) (
  j1 [(8, t14)] σ
  )
  ))) kp
def keep127 : List (Nat × List Nat) := [(0, [0, 4, 5]), (1, [5, 7, 8]), (3005, [8]), (2, [5, 7, 8, 16]), (3, [8]), (4, [6])]
noncomputable def body127 : Code := (Go.Proofs.Tryz.f127).body.getD .skip
theorem F127_eq (t0 t1 t2 : AV) (σ : AHeap) (k kp : AV → AHeap → Prop) : aw Go.Proofs.Tryz.prog (keepOf keep127) body127 (retK Go.Proofs.Tryz.prog (Go.Proofs.Tryz.f127).results.toList k kp) (frameOf 0 [t0, t1, t2]) σ = F127 t0 t1 t2 σ k kp := by kernel_rfl
theorem F127_ev {t0 t1 t2 : AV} {σ : AHeap} {k kp : AV → AHeap → Prop} (h : F127 t0 t1 t2 σ k kp) : Ev Go.Proofs.Tryz.prog 127 [t0, t1, t2] σ k kp :=
  Ev_of_aw mixed Go.Proofs.Tryz.func127 (show (Go.Proofs.Tryz.f127).body = some body127 by kernel_rfl) (by kernel_rfl) (args := [t0, t1, t2]) (of_decide_eq_true (by kernel_rfl)) (keepOf keep127) (by kernel_rfl) (by rw [F127_eq]; exact h)

/-- enclave/machine.op -/
def F128 (t0 t1 t2 : AV) (σ : AHeap) (k kp : AV → AHeap → Prop) : Prop :=
  seqW (fun fr σ => (
  condK (Abs.look fr 7) (
  k (.val (Go.Value.int Go.IntKind.i64 1)) σ
  ) (
  k (.val (Go.Value.int Go.IntKind.i64 0)) σ
  )
  )) (fun j1 => (
  stepK (pureR σ (aBin .eql .prim t0 (.val (Go.Value.int Go.IntKind.u8 1)))) fun t10 σ =>
  condK t10 (
  stepK (pureR σ (aBin .add .prim t1 t2)) fun t13 σ =>
  k t13 σ
  ) (
  stepK (pureR σ (aBin .eql .prim t0 (.val (Go.Value.int Go.IntKind.u8 2)))) fun t15 σ =>
  condK t15 (
  stepK (pureR σ (aBin .sub .prim t1 t2)) fun t18 σ =>
  k t18 σ
  ) (
  stepK (pureR σ (aBin .eql .prim t0 (.val (Go.Value.int Go.IntKind.u8 3)))) fun t20 σ =>
  condK t20 (
  stepK (pureR σ (aBin .mul .prim t1 t2)) fun t23 σ =>
  k t23 σ
  ) (
  stepK (pureR σ (aBin .eql .prim t0 (.val (Go.Value.int Go.IntKind.u8 4)))) fun t25 σ =>
  condK t25 (
  stepK (pureR σ (aBin .lss .prim t1 t2)) fun t28 σ =>
  j1 [(7, t28)] σ
  ) (
  stepK (pureR σ (aBin .eql .prim t0 (.val (Go.Value.int Go.IntKind.u8 5)))) fun t30 σ =>
  condK t30 (
  stepK (pureR σ (aBin .eql .prim t1 t2)) fun t33 σ =>
  j1 [(7, t33)] σ
  ) (
  j1 [(7, (.val (Go.Value.bool Bool.false)))] σ
  )
  )
  )
  )
  )
  ))
def keep128 : List (Nat × List Nat) := [(0, [0, 1, 2]), (1, [0, 1, 2, 7]), (3014, [7]), (2, [1, 2, 7, 8]), (3, [1, 2, 7, 8, 9]), (4, [6]), (5, [1, 2, 7, 8, 14]), (6, [6]), (7, [1, 2, 7, 8, 19]), (8, [6]), (9, [1, 2, 7, 8, 24]), (10, [7]), (11, [1, 2, 7, 29]), (12, [7]), (13, [34]), (14, [6]), (15, [6])]
noncomputable def body128 : Code := (Go.Proofs.Tryz.f128).body.getD .skip
theorem F128_eq (t0 t1 t2 : AV) (σ : AHeap) (k kp : AV → AHeap → Prop) : aw Go.Proofs.Tryz.prog (keepOf keep128) body128 (retK Go.Proofs.Tryz.prog (Go.Proofs.Tryz.f128).results.toList k kp) (frameOf 0 [t0, t1, t2]) σ = F128 t0 t1 t2 σ k kp := by kernel_rfl
theorem F128_ev {t0 t1 t2 : AV} {σ : AHeap} {k kp : AV → AHeap → Prop} (h : F128 t0 t1 t2 σ k kp) : Ev Go.Proofs.Tryz.prog 128 [t0, t1, t2] σ k kp :=
  Ev_of_aw mixed Go.Proofs.Tryz.func128 (show (Go.Proofs.Tryz.f128).body = some body128 by kernel_rfl) (by kernel_rfl) (args := [t0, t1, t2]) (of_decide_eq_true (by kernel_rfl)) (keepOf keep128) (by kernel_rfl) (by rw [F128_eq]; exact h)

/-- (*enclave/stack.Store).Get -/
def F171 (t0 t1 : AV) (σ : AHeap) (k kp : AV → AHeap → Prop) : Prop :=
  stepK (aBox t1 σ) fun t3 σ =>
  stepK (aAlloc [.val (.int .u8 0), .val (.int .u8 0), .val (.int .i64 0), .val (.int .i64 0), .val (.int .i64 0), .val (.int .u8 0), .val (.int .i64 0), .val (.int .i64 0), .val (.int .i64 0), .val (.int .i64 0)] σ) fun t4 σ =>
  stepK (pureR σ (aLoad true 4 t3 σ)) fun t10 σ =>
  Ev Go.Proofs.Tryz.prog 172 [t0, t10] σ (fun t11 σ =>
  stepK (pureR σ (aExtract 0 t11)) fun t12 σ =>
  stepK (pureR σ (aExtract 1 t11)) fun t13 σ =>
  stepK (pureR σ (aBin .neq .prim t13 (.val (Go.Value.int Go.IntKind.i64 0)))) fun t15 σ =>
  condK t15 (
  stepK (pureR σ (aBuild [.val (.int .u8 0), .val (.int .u8 0), .val (.int .i64 0), .val (.int .i64 0), .val (.int .i64 0), .val (.int .u8 0), .val (.int .i64 0), .val (.int .i64 0), .val (.int .i64 0), .val (.int .i64 0)] [])) fun t16 σ =>
  stepK (unitR (aStore 10 t4 t16 σ)) fun _ σ =>
  stepV (aLoad true 10 t4 σ) fun r0 =>
  k (.tup [r0, t13]) σ
  ) (
  stepK (pureR σ (aNilCheck t12)) fun t19 σ =>
  stepK (pureR σ (aLoad true 10 t19 σ)) fun t20 σ =>
  stepK (unitR (aStore 10 t4 t20 σ)) fun _ σ =>
  stepV (aLoad true 10 t4 σ) fun r0 =>
  k (.tup [r0, (.val (Go.Value.int Go.IntKind.i64 0))]) σ
  )) kp
def keep171 : List (Nat × List Nat) := [(0, [0, 3, 4]), (1, [4, 6, 7]), (2, [4, 6, 7, 15]), (3, [4, 5]), (4, [4, 5])]
noncomputable def body171 : Code := (Go.Proofs.Tryz.f171).body.getD .skip
theorem F171_eq (t0 t1 : AV) (σ : AHeap) (k kp : AV → AHeap → Prop) : aw Go.Proofs.Tryz.prog (keepOf keep171) body171 (retK Go.Proofs.Tryz.prog (Go.Proofs.Tryz.f171).results.toList k kp) (frameOf 0 [t0, t1]) σ = F171 t0 t1 σ k kp := by kernel_rfl
theorem F171_ev {t0 t1 : AV} {σ : AHeap} {k kp : AV → AHeap → Prop} (h : F171 t0 t1 σ k kp) : Ev Go.Proofs.Tryz.prog 171 [t0, t1] σ k kp :=
  Ev_of_aw mixed Go.Proofs.Tryz.func171 (show (Go.Proofs.Tryz.f171).body = some body171 by kernel_rfl) (by kernel_rfl) (args := [t0, t1]) (of_decide_eq_true (by kernel_rfl)) (keepOf keep171) (by kernel_rfl) (by rw [F171_eq]; exact h)

/-- (*enclave/stack.Store).at -/
def F172 (t0 t1 : AV) (σ : AHeap) (k kp : AV → AHeap → Prop) : Prop :=
  stepK (aBox t1 σ) fun t3 σ =>
  stepK (pureR σ (aFieldAddr 0 t3)) fun t7 σ =>
  stepK (pureR σ (aLoad false 1 t7 σ)) fun t8 σ =>
  stepK (pureR σ (aBin .neq .prim t8 (.val (Go.Value.int Go.IntKind.u8 2)))) fun t9 σ =>
  gK t9 false (fun K => stepK (pureR σ (aFieldAddr 1 t3)) K) (fun t11 σ =>
  gK t9 false (fun K => stepK (pureR σ (aLoad false 1 t11 σ)) K) (fun t12 σ =>
  gK t9 false (fun K => stepK (pureR σ (aBin .neq .prim t12 (.val (Go.Value.int Go.IntKind.i64 0)))) K) (fun t13 σ =>
  stepK (pureR σ (aPick t9 (.val (Go.Value.bool Bool.true)) t13)) fun t14 σ =>
  condK t14 (
  k (.tup [(.val (Go.Value.pointer Option.none)), (.val (Go.Value.int Go.IntKind.i64 1))]) σ
  ) (
  stepK (pureR σ (aFieldAddr 2 t3)) fun t17 σ =>
  stepK (pureR σ (aLoad false 1 t17 σ)) fun t18 σ =>
  stepK (aBuildSlice 1 1 [.val (.int .i64 0)] [(0, t18)] σ) fun t19 σ =>
  Ev Go.Proofs.Tryz.prog 125 [t0, t19] σ (fun t20 σ =>
  stepK (pureR σ (aNot t20)) fun t21 σ =>
  condK t21 (
  k (.tup [(.val (Go.Value.pointer Option.none)), (.val (Go.Value.int Go.IntKind.i64 6))]) σ
  ) (
  stepK (pureR σ (aFieldAddr 3 t3)) fun t23 σ =>
  stepK (pureR σ (aLoad false 1 t23 σ)) fun t24 σ =>
  stepK (pureR σ (aBin .lss .prim t24 (.val (Go.Value.int Go.IntKind.i64 0)))) fun t25 σ =>
  gK t25 false (fun K => stepK (pureR σ (aFieldAddr 3 t3)) K) (fun t27 σ =>
  gK t25 false (fun K => stepK (pureR σ (aLoad false 1 t27 σ)) K) (fun t28 σ =>
  gK t25 false (fun K => K t0 σ) (fun t29 σ =>
  gK t25 false (fun K => stepK (pureR σ (aNilCheck t29)) K) (fun t30 σ =>
  gK t25 false (fun K => stepK (pureR σ (aFieldAddr 2 t30)) K) (fun t31 σ =>
  gK t25 false (fun K => stepK (pureR σ (aLoad false 1 t31 σ)) K) (fun t32 σ =>
  gK t25 false (fun K => stepK (pureR σ (aFieldAddr 2 t3)) K) (fun t33 σ =>
  gK t25 false (fun K => stepK (pureR σ (aLoad false 1 t33 σ)) K) (fun t34 σ =>
  gK t25 false (fun K => stepK (pureR σ (aLookup (.int .i64) (.val (.slice none 0 0)) false t32 t34 σ)) K) (fun t35 σ =>
  gK t25 false (fun K => stepK (pureR σ (aLenK .slice t35 σ)) K) (fun t36 σ =>
  gK t25 false (fun K => stepK (pureR σ (aBin .geq .prim t28 t36)) K) (fun t37 σ =>
  stepK (pureR σ (aPick t25 (.val (Go.Value.bool Bool.true)) t37)) fun t38 σ =>
  condK t38 (
  k (.tup [(.val (Go.Value.pointer Option.none)), (.val (Go.Value.int Go.IntKind.i64 1))]) σ
  ) (
  stepK (pureR σ (aNilCheck t0)) fun t40 σ =>
  stepK (pureR σ (aFieldAddr 2 t40)) fun t41 σ =>
  stepK (pureR σ (aLoad false 1 t41 σ)) fun t42 σ =>
  stepK (pureR σ (aFieldAddr 2 t3)) fun t43 σ =>
  stepK (pureR σ (aLoad false 1 t43 σ)) fun t44 σ =>
  stepK (pureR σ (aLookup (.int .i64) (.val (.slice none 0 0)) false t42 t44 σ)) fun t45 σ =>
  stepK (pureR σ (aFieldAddr 3 t3)) fun t46 σ =>
  stepK (pureR σ (aLoad false 1 t46 σ)) fun t47 σ =>
  stepK (pureR σ (aIndexAddr 10 t45 t47 σ)) fun t48 σ =>
  k (.tup [t48, (.val (Go.Value.int Go.IntKind.i64 0))]) σ
  )
  ) σ) σ) σ) σ) σ) σ) σ) σ) σ) σ) σ)
  ) kp)) σ) σ) σ
def keep172 : List (Nat × List Nat) := [(0, [0, 3]), (1, [0, 3, 6]), (2, [4, 5]), (3, [0, 3, 15]), (4, [4, 5]), (5, [0, 3, 22]), (2005, [0, 1, 2, 3, 4, 5, 6, 7, 8, 9, 10, 11, 12, 13, 14, 15, 16]), (6, [4, 5]), (7, [4, 5]), (2007, [0, 1, 2, 3, 4, 5, 6, 7, 8, 9, 10, 11])]
noncomputable def body172 : Code := (Go.Proofs.Tryz.f172).body.getD .skip
theorem F172_eq (t0 t1 : AV) (σ : AHeap) (k kp : AV → AHeap → Prop) : aw Go.Proofs.Tryz.prog (keepOf keep172) body172 (retK Go.Proofs.Tryz.prog (Go.Proofs.Tryz.f172).results.toList k kp) (frameOf 0 [t0, t1]) σ = F172 t0 t1 σ k kp := by kernel_rfl
theorem F172_ev {t0 t1 : AV} {σ : AHeap} {k kp : AV → AHeap → Prop} (h : F172 t0 t1 σ k kp) : Ev Go.Proofs.Tryz.prog 172 [t0, t1] σ k kp :=
  Ev_of_aw mixed Go.Proofs.Tryz.func172 (show (Go.Proofs.Tryz.f172).body = some body172 by kernel_rfl) (by kernel_rfl) (args := [t0, t1]) (of_decide_eq_true (by kernel_rfl)) (keepOf keep172) (by kernel_rfl) (by rw [F172_eq]; exact h)

end Go.Proofs.MacD
