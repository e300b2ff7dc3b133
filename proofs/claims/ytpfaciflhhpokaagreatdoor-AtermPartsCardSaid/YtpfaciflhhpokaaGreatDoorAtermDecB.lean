import Derived.Test.YtpfaciflhhpokaaGreatDoorAbsL
import Derived.Test.YtpfaciflhhpokaaGreatDoorProg
import Derived.KernelRfl
set_option maxRecDepth 100000
set_option linter.unusedVariables false
namespace Go.Proofs.AtD
open Go Go.Abs

theorem mixed : Go.Proofs.Tryz.prog.follows .mixedOrders = true := by kernel_rfl

/-- enclave/enclavelaw13.AtermBinds -/
def F7 (t0 : AV) (σ : AHeap) (k kp : AV → AHeap → Prop) : Prop :=
  stepK (pureR σ (aLenK .slice t0 σ)) fun t11 σ =>
  stepK (pureR σ (aBin .gtr .prim t11 (.val (Go.Value.int Go.IntKind.i64 10)))) fun t12 σ =>
  condK t12 (
  Ev Go.Proofs.Tryz.prog 10 [] σ (fun t13 σ =>
  k t13 σ
  ) kp) (
  stepK (aBuildSlice 0 1 [.val (.int .i64 0)] [] σ) fun t14 σ =>
  seqW (fun fr σ => (
  Ev Go.Proofs.Tryz.prog 20 [(Abs.look fr 0)] σ (fun t67 σ =>
  Ev Go.Proofs.Tryz.prog 22 [t67, (Abs.look fr 3)] σ (fun t69 σ =>
  gK t69 true (fun K => K (Abs.look fr 0) σ) (fun t71 σ =>
  gK t69 true (fun K => Ev Go.Proofs.Tryz.prog 21 [t71] σ K kp) (fun t72 σ =>
  gK t69 true (fun K => K (Abs.look fr 4) σ) (fun t73 σ =>
  gK t69 true (fun K => stepK (pureR σ (aBin .eql .prim t72 t73)) K) (fun t74 σ =>
  stepK (pureR σ (aPick t69 t74 (.val (Go.Value.bool Bool.false)))) fun t75 σ =>
  gK t75 true (fun K => Ev Go.Proofs.Tryz.prog 10 [] σ K kp) (fun t77 σ =>
  stepK (pureR σ (aPick t75 t77 (.val (Go.Value.bool Bool.false)))) fun t78 σ =>
  k t78 σ
  ) σ) σ) σ) σ) σ) kp) kp)) (fun j1 => (
  loopW (fun fr σ again => (
  stepK (pureR σ (aLenK .slice (Abs.look fr 0) σ)) fun t17 σ =>
  stepK (pureR σ (aBin .lss .prim (Abs.look fr 5) t17)) fun t18 σ =>
  condK t18 (
  stepK (pureR σ (aIndexAddr 19 (Abs.look fr 0) (Abs.look fr 5) σ)) fun t23 σ =>
  stepK (pureR σ (aLoad true 19 t23 σ)) fun t24 σ =>
  Ev Go.Proofs.Tryz.prog 9 [t24] σ (fun t25 σ =>
  condK t25 (
  Ev Go.Proofs.Tryz.prog 10 [] σ (fun t26 σ =>
  k t26 σ
  ) kp) (
  stepK (pureR σ (aIndexAddr 19 (Abs.look fr 0) (Abs.look fr 5) σ)) fun t30 σ =>
  stepK (pureR σ (aLoad true 19 t30 σ)) fun t31 σ =>
  Ev Go.Proofs.Tryz.prog 23 [t31] σ (fun t32 σ =>
  stepK (aAppend 1 8 (Abs.look fr 3) t32 σ) fun t33 σ =>
  stepK (pureR σ (aIndexAddr 19 (Abs.look fr 0) (Abs.look fr 5) σ)) fun t37 σ =>
  stepK (pureR σ (aLoad true 19 t37 σ)) fun t38 σ =>
  Ev Go.Proofs.Tryz.prog 16 [t38] σ (fun t39 σ =>
  stepK (pureR σ (aLenK .slice t39 σ)) fun t40 σ =>
  stepK (pureR σ (aBin .add .prim (Abs.look fr 4) t40)) fun t41 σ =>
  stepK (pureR σ (aIndexAddr 19 (Abs.look fr 0) (Abs.look fr 5) σ)) fun t45 σ =>
  stepK (pureR σ (aLoad true 19 t45 σ)) fun t46 σ =>
  Ev Go.Proofs.Tryz.prog 24 [t46] σ (fun t47 σ =>
  stepK (pureR σ (aExtract 0 t47)) fun t48 σ =>
  stepK (pureR σ (aExtract 1 t47)) fun t49 σ =>
  stepK (pureR σ (aIndexAddr 19 (Abs.look fr 0) (Abs.look fr 5) σ)) fun t53 σ =>
  stepK (pureR σ (aLoad true 19 t53 σ)) fun t54 σ =>
  Ev Go.Proofs.Tryz.prog 25 [t54] σ (fun t55 σ =>
  stepK (pureR σ (aExtract 0 t55)) fun t56 σ =>
  stepK (pureR σ (aExtract 1 t55)) fun t57 σ =>
  stepK (pureR σ (aBin .neq .prim t48 t56)) fun t60 σ =>
  gK t60 false (fun K => K t49 σ) (fun t62 σ =>
  gK t60 false (fun K => K t57 σ) (fun t63 σ =>
  gK t60 false (fun K => stepK (pureR σ (aBin .neq .bool t62 t63)) K) (fun t64 σ =>
  stepK (pureR σ (aPick t60 (.val (Go.Value.bool Bool.true)) t64)) fun t65 σ =>
  condK t65 (
  k (.val (Go.Value.bool Bool.false)) σ
  ) (
  stepK (pureR σ (aBin .add .prim (Abs.look fr 5) (.val (Go.Value.int Go.IntKind.i64 1)))) fun t20 σ =>
  again [(0, (Abs.look fr 0)), (3, t33), (4, t41), (5, t20)] σ
  )
  ) σ) σ) σ) kp) kp) kp) kp)
  ) kp) (
  j1 [(0, (Abs.look fr 0)), (3, (Abs.look fr 3)), (4, (Abs.look fr 4))] σ
  )
  )) [(0, t0), (3, t14), (4, (.val (Go.Value.int Go.IntKind.i64 0))), (5, (.val (Go.Value.int Go.IntKind.i64 0)))] σ
  ))
  )
def keep7 : List (Nat × List Nat) := [(0, [0]), (1, [0, 12]), (2, [2]), (3, [0, 3]), (4, [0, 3, 4]), (3017, [0, 3, 4]), (5, [0, 3, 4, 5]), (6, [0, 3, 4, 5, 18]), (8, [0, 3, 4, 5, 25]), (9, [2]), (10, [0, 3, 4, 5]), (11, [0, 3, 4, 5]), (12, [0, 3, 4, 5, 6, 7]), (13, [0, 3, 4, 5, 6, 7, 8, 9]), (14, [0, 3, 4, 5, 65]), (15, [2]), (7, [0, 3, 4, 5]), (1006, [0, 3, 4, 5]), (16, [2])]
noncomputable def body7 : Code := (Go.Proofs.Tryz.f7).body.getD .skip
theorem F7_eq (t0 : AV) (σ : AHeap) (k kp : AV → AHeap → Prop) : aw Go.Proofs.Tryz.prog (keepOf keep7) body7 (retK Go.Proofs.Tryz.prog (Go.Proofs.Tryz.f7).results.toList k kp) (frameOf 0 [t0]) σ = F7 t0 σ k kp := by kernel_rfl
theorem F7_ev {t0 : AV} {σ : AHeap} {k kp : AV → AHeap → Prop} (h : F7 t0 σ k kp) : Ev Go.Proofs.Tryz.prog 7 [t0] σ k kp :=
  Ev_of_aw mixed Go.Proofs.Tryz.func7 (show (Go.Proofs.Tryz.f7).body = some body7 by kernel_rfl) (by kernel_rfl) (args := [t0]) (of_decide_eq_true (by kernel_rfl)) (keepOf keep7) (by kernel_rfl) (by rw [F7_eq]; exact h)

/-- enclave/enclaveref13.All -/
def F16 (t0 : AV) (σ : AHeap) (k kp : AV → AHeap → Prop) : Prop :=
  stepK (aBox t0 σ) fun t1 σ =>
  stepK (pureR σ (aLoad true 19 t1 σ)) fun t5 σ =>
  stepK (aBuildSlice 1 19 [.val (.int .u8 0), .val (.int .u8 0), .val (.int .i64 0), .val (.int .i64 0), .val (.string ByteArray.empty), .val (.string ByteArray.empty), .val (.string ByteArray.empty), .val (.int .i64 0), .val (.slice none 0 0), .val (.slice none 0 0), .val (.int .u8 0), .val (.int .i64 0), .val (.slice none 0 0), .val (.slice none 0 0), .val (.int .u8 0), .val (.int .i64 0), .val (.slice none 0 0), .val (.slice none 0 0), .val (.slice none 0 0)] [(0, t5)] σ) fun t6 σ =>
  seqW (fun fr σ => (
  k (Abs.look fr 3) σ
  )) (fun j1 => (
  stepK (pureR σ (aFieldAddr 18 t1)) fun t7 σ =>
  stepK (pureR σ (aLoad false 1 t7 σ)) fun t8 σ =>
  stepK (pureR σ (aLenK .slice t8 σ)) fun t9 σ =>
  loopW (fun fr σ again => (
  stepK (pureR σ (aBin .lss .prim (Abs.look fr 10) (Abs.look fr 9))) fun t11 σ =>
  condK t11 (
  stepK (pureR σ (aFieldAddr 18 (Abs.look fr 1))) fun t14 σ =>
  stepK (pureR σ (aLoad false 1 t14 σ)) fun t15 σ =>
  stepK (pureR σ (aIndexAddr 19 t15 (Abs.look fr 10) σ)) fun t17 σ =>
  stepK (pureR σ (aLoad true 19 t17 σ)) fun t18 σ =>
  Ev Go.Proofs.Tryz.prog 16 [t18] σ (fun t19 σ =>
  stepK (aAppend 19 280 (Abs.look fr 3) t19 σ) fun t20 σ =>
  stepK (pureR σ (aBin .add .prim (Abs.look fr 10) (.val (Go.Value.int Go.IntKind.i64 1)))) fun t21 σ =>
  again [(1, (Abs.look fr 1)), (3, t20), (9, (Abs.look fr 9)), (10, t21)] σ
  ) kp) (
  j1 [(3, (Abs.look fr 3))] σ
  )
  )) [(1, t1), (3, t6), (9, t9), (10, (.val (Go.Value.int Go.IntKind.i64 0)))] σ
  ))
def keep16 : List (Nat × List Nat) := [(0, [1]), (1, [1, 3]), (3008, [3]), (2, [1, 3, 9, 10]), (3, [1, 3, 9, 10, 11]), (4, [1, 3, 4, 9, 10]), (5, [1, 3, 9, 10]), (6, [1, 3, 9, 10]), (1003, [1, 3, 9, 10]), (7, [2])]
noncomputable def body16 : Code := (Go.Proofs.Tryz.f16).body.getD .skip
theorem F16_eq (t0 : AV) (σ : AHeap) (k kp : AV → AHeap → Prop) : aw Go.Proofs.Tryz.prog (keepOf keep16) body16 (retK Go.Proofs.Tryz.prog (Go.Proofs.Tryz.f16).results.toList k kp) (frameOf 0 [t0]) σ = F16 t0 σ k kp := by kernel_rfl
theorem F16_ev {t0 : AV} {σ : AHeap} {k kp : AV → AHeap → Prop} (h : F16 t0 σ k kp) : Ev Go.Proofs.Tryz.prog 16 [t0] σ k kp :=
  Ev_of_aw mixed Go.Proofs.Tryz.func16 (show (Go.Proofs.Tryz.f16).body = some body16 by kernel_rfl) (by kernel_rfl) (args := [t0]) (of_decide_eq_true (by kernel_rfl)) (keepOf keep16) (by kernel_rfl) (by rw [F16_eq]; exact h)

/-- enclave/enclaveref13.Own -/
def F19 (t0 : AV) (σ : AHeap) (k kp : AV → AHeap → Prop) : Prop :=
  stepK (aBox t0 σ) fun t1 σ =>
  stepK (pureR σ (aFieldAddr 0 t1)) fun t3 σ =>
  stepK (pureR σ (aFieldAddr 0 t3)) fun t4 σ =>
  stepK (pureR σ (aLoad false 1 t4 σ)) fun t5 σ =>
  stepK (pureR σ (aBin .eql .prim t5 (.val (Go.Value.int Go.IntKind.u8 17)))) fun t6 σ =>
  condK t6 (
  stepK (pureR σ (aFieldAddr 7 t1)) fun t7 σ =>
  stepK (pureR σ (aLoad false 1 t7 σ)) fun t8 σ =>
  stepK (aBuildSlice 1 1 [.val (.int .i64 0)] [(0, t8)] σ) fun t9 σ =>
  k t9 σ
  ) (
  stepK (pureR σ (aFieldAddr 0 t1)) fun t10 σ =>
  stepK (pureR σ (aFieldAddr 0 t10)) fun t11 σ =>
  stepK (pureR σ (aLoad false 1 t11 σ)) fun t12 σ =>
  stepK (pureR σ (aBin .eql .prim t12 (.val (Go.Value.int Go.IntKind.u8 13)))) fun t13 σ =>
  condK t13 (
  stepK (pureR σ (aFieldAddr 8 t1)) fun t14 σ =>
  stepK (pureR σ (aLoad false 1 t14 σ)) fun t15 σ =>
  k t15 σ
  ) (
  stepK (aBuildSlice 0 1 [.val (.int .i64 0)] [] σ) fun t16 σ =>
  k t16 σ
  )
  )
def keep19 : List (Nat × List Nat) := [(0, [1]), (1, [1, 6]), (2, [2]), (3, [1, 13]), (4, [2]), (5, [2])]
noncomputable def body19 : Code := (Go.Proofs.Tryz.f19).body.getD .skip
theorem F19_eq (t0 : AV) (σ : AHeap) (k kp : AV → AHeap → Prop) : aw Go.Proofs.Tryz.prog (keepOf keep19) body19 (retK Go.Proofs.Tryz.prog (Go.Proofs.Tryz.f19).results.toList k kp) (frameOf 0 [t0]) σ = F19 t0 σ k kp := by kernel_rfl
theorem F19_ev {t0 : AV} {σ : AHeap} {k kp : AV → AHeap → Prop} (h : F19 t0 σ k kp) : Ev Go.Proofs.Tryz.prog 19 [t0] σ k kp :=
  Ev_of_aw mixed Go.Proofs.Tryz.func19 (show (Go.Proofs.Tryz.f19).body = some body19 by kernel_rfl) (by kernel_rfl) (args := [t0]) (of_decide_eq_true (by kernel_rfl)) (keepOf keep19) (by kernel_rfl) (by rw [F19_eq]; exact h)

/-- enclave/aterm.Binds -/
def F20 (t0 : AV) (σ : AHeap) (k kp : AV → AHeap → Prop) : Prop :=
  stepK (aAlloc [.val (.slice none 0 0)] σ) fun t3 σ =>
  Ev Go.Proofs.Tryz.prog 29 [(.fn (.func 34) [t3]), t0] σ (fun t6 σ =>
  stepK (pureR σ (aLoad false 1 t3 σ)) fun t7 σ =>
  k t7 σ) kp
def keep20 : List (Nat × List Nat) := [(0, [0]), (1, [0, 3]), (2, [3]), (3, [2])]
noncomputable def body20 : Code := (Go.Proofs.Tryz.f20).body.getD .skip
theorem F20_eq (t0 : AV) (σ : AHeap) (k kp : AV → AHeap → Prop) : aw Go.Proofs.Tryz.prog (keepOf keep20) body20 (retK Go.Proofs.Tryz.prog (Go.Proofs.Tryz.f20).results.toList k kp) (frameOf 0 [t0]) σ = F20 t0 σ k kp := by kernel_rfl
theorem F20_ev {t0 : AV} {σ : AHeap} {k kp : AV → AHeap → Prop} (h : F20 t0 σ k kp) : Ev Go.Proofs.Tryz.prog 20 [t0] σ k kp :=
  Ev_of_aw mixed Go.Proofs.Tryz.func20 (show (Go.Proofs.Tryz.f20).body = some body20 by kernel_rfl) (by kernel_rfl) (args := [t0]) (of_decide_eq_true (by kernel_rfl)) (keepOf keep20) (by kernel_rfl) (by rw [F20_eq]; exact h)

/-- enclave/enclaveref11.EqualInts -/
def F22 (t0 t1 : AV) (σ : AHeap) (k kp : AV → AHeap → Prop) : Prop :=
  stepK (pureR σ (aLenK .slice t0 σ)) fun t7 σ =>
  stepK (pureR σ (aLenK .slice t1 σ)) fun t9 σ =>
  stepK (pureR σ (aBin .neq .prim t7 t9)) fun t10 σ =>
  condK t10 (
  k (.val (Go.Value.bool Bool.false)) σ
  ) (
  seqW (fun fr σ => (
  k (.val (Go.Value.bool Bool.true)) σ
  )) (fun j1 => (
  stepK (pureR σ (aLenK .slice t0 σ)) fun t12 σ =>
  loopW (fun fr σ again => (
  stepK (pureR σ (aBin .lss .prim (Abs.look fr 13) (Abs.look fr 12))) fun t14 σ =>
  condK t14 (
  stepK (pureR σ (aIndexAddr 1 (Abs.look fr 0) (Abs.look fr 13) σ)) fun t18 σ =>
  stepK (pureR σ (aLoad false 1 t18 σ)) fun t19 σ =>
  stepK (pureR σ (aIndexAddr 1 (Abs.look fr 1) (Abs.look fr 13) σ)) fun t22 σ =>
  stepK (pureR σ (aLoad false 1 t22 σ)) fun t23 σ =>
  stepK (pureR σ (aBin .neq .prim t19 t23)) fun t24 σ =>
  condK t24 (
  k (.val (Go.Value.bool Bool.false)) σ
  ) (
  stepK (pureR σ (aBin .add .prim (Abs.look fr 13) (.val (Go.Value.int Go.IntKind.i64 1)))) fun t25 σ =>
  again [(0, (Abs.look fr 0)), (1, (Abs.look fr 1)), (12, (Abs.look fr 12)), (13, t25)] σ
  )
  ) (
  j1 [(0, (Abs.look fr 0))] σ
  )
  )) [(0, t0), (1, t1), (12, t12), (13, (.val (Go.Value.int Go.IntKind.i64 0)))] σ
  ))
  )
def keep22 : List (Nat × List Nat) := [(0, [0, 1]), (1, [0, 1, 10]), (2, [4]), (3010, [0]), (3, [0, 1, 12, 13]), (4, [0, 1, 12, 13, 14]), (5, [0, 1, 5, 12, 13]), (6, [0, 1, 12, 13, 24]), (2006, [0, 1, 2, 3, 4, 5, 6, 7, 8]), (7, [4]), (8, [0, 1, 12, 13]), (1004, [0, 1, 12, 13]), (9, [4])]
noncomputable def body22 : Code := (Go.Proofs.Tryz.f22).body.getD .skip
theorem F22_eq (t0 t1 : AV) (σ : AHeap) (k kp : AV → AHeap → Prop) : aw Go.Proofs.Tryz.prog (keepOf keep22) body22 (retK Go.Proofs.Tryz.prog (Go.Proofs.Tryz.f22).results.toList k kp) (frameOf 0 [t0, t1]) σ = F22 t0 t1 σ k kp := by kernel_rfl
theorem F22_ev {t0 t1 : AV} {σ : AHeap} {k kp : AV → AHeap → Prop} (h : F22 t0 t1 σ k kp) : Ev Go.Proofs.Tryz.prog 22 [t0, t1] σ k kp :=
  Ev_of_aw mixed Go.Proofs.Tryz.func22 (show (Go.Proofs.Tryz.f22).body = some body22 by kernel_rfl) (by kernel_rfl) (args := [t0, t1]) (of_decide_eq_true (by kernel_rfl)) (keepOf keep22) (by kernel_rfl) (by rw [F22_eq]; exact h)

/-- enclave/enclaveref13.Binds -/
def F23 (t0 : AV) (σ : AHeap) (k kp : AV → AHeap → Prop) : Prop :=
  stepK (aBox t0 σ) fun t1 σ =>
  stepK (aBuildSlice 0 1 [.val (.int .i64 0)] [] σ) fun t6 σ =>
  stepK (pureR σ (aLoad true 19 t1 σ)) fun t7 σ =>
  Ev Go.Proofs.Tryz.prog 16 [t7] σ (fun t8 σ =>
  seqW (fun fr σ => (
  k (Abs.look fr 3) σ
  )) (fun j1 => (
  stepK (pureR σ (aLenK .slice t8 σ)) fun t10 σ =>
  loopW (fun fr σ again => (
  stepK (pureR σ (aBin .lss .prim (Abs.look fr 11) (Abs.look fr 10))) fun t12 σ =>
  condK t12 (
  stepK (pureR σ (aIndexAddr 19 (Abs.look fr 4) (Abs.look fr 11) σ)) fun t17 σ =>
  stepK (pureR σ (aLoad true 19 t17 σ)) fun t18 σ =>
  Ev Go.Proofs.Tryz.prog 19 [t18] σ (fun t19 σ =>
  stepK (aAppend 1 8 (Abs.look fr 3) t19 σ) fun t20 σ =>
  stepK (pureR σ (aBin .add .prim (Abs.look fr 11) (.val (Go.Value.int Go.IntKind.i64 1)))) fun t21 σ =>
  again [(3, t20), (4, (Abs.look fr 4)), (10, (Abs.look fr 10)), (11, t21)] σ
  ) kp) (
  j1 [(3, (Abs.look fr 3))] σ
  )
  )) [(3, t6), (4, t8), (10, t10), (11, (.val (Go.Value.int Go.IntKind.i64 0)))] σ
  ))) kp
def keep23 : List (Nat × List Nat) := [(0, [1]), (1, [1, 3]), (2, [3, 4]), (3009, [3]), (3, [3, 4, 10, 11]), (4, [3, 4, 10, 11, 12]), (5, [3, 4, 5, 10, 11]), (6, [3, 4, 10, 11]), (7, [3, 4, 10, 11]), (1004, [3, 4, 10, 11]), (8, [2])]
noncomputable def body23 : Code := (Go.Proofs.Tryz.f23).body.getD .skip
theorem F23_eq (t0 : AV) (σ : AHeap) (k kp : AV → AHeap → Prop) : aw Go.Proofs.Tryz.prog (keepOf keep23) body23 (retK Go.Proofs.Tryz.prog (Go.Proofs.Tryz.f23).results.toList k kp) (frameOf 0 [t0]) σ = F23 t0 σ k kp := by kernel_rfl
theorem F23_ev {t0 : AV} {σ : AHeap} {k kp : AV → AHeap → Prop} (h : F23 t0 σ k kp) : Ev Go.Proofs.Tryz.prog 23 [t0] σ k kp :=
  Ev_of_aw mixed Go.Proofs.Tryz.func23 (show (Go.Proofs.Tryz.f23).body = some body23 by kernel_rfl) (by kernel_rfl) (args := [t0]) (of_decide_eq_true (by kernel_rfl)) (keepOf keep23) (by kernel_rfl) (by rw [F23_eq]; exact h)

/-- enclave/aterm.Apart -/
def F24 (t0 : AV) (σ : AHeap) (k kp : AV → AHeap → Prop) : Prop :=
  stepK (aBox t0 σ) fun t1 σ =>
  stepK (aMakeMap σ) fun t7 σ =>
  stepK (aAlloc [.val (.map none)] σ) fun t4 σ =>
  stepK (unitR (aStore 1 t4 t7 σ)) fun _ σ =>
  stepK (aAlloc [.val (.int .i64 0)] σ) fun t5 σ =>
  stepK (unitR (aStore 1 t5 (.val (Go.Value.int Go.IntKind.i64 0)) σ)) fun _ σ =>
  stepK (pureR σ (aLoad true 19 t1 σ)) fun t9 σ =>
  stepK (pureR σ (aBuildSl 1 19 [.val (.int .u8 0), .val (.int .u8 0), .val (.int .i64 0), .val (.int .i64 0), .val (.string ByteArray.empty), .val (.string ByteArray.empty), .val (.string ByteArray.empty), .val (.int .i64 0), .val (.slice none 0 0), .val (.slice none 0 0), .val (.int .u8 0), .val (.int .i64 0), .val (.slice none 0 0), .val (.slice none 0 0), .val (.int .u8 0), .val (.int .i64 0), .val (.slice none 0 0), .val (.slice none 0 0), .val (.slice none 0 0)] [(0, t9)])) fun t10 σ =>
  Ev Go.Proofs.Tryz.prog 29 [(.fn (.func 37) [t4, t5]), t10] σ (fun t11 σ =>
  stepK (pureR σ (aLoad false 1 t5 σ)) fun t12 σ =>
  k (.tup [t12, t11]) σ) kp
def keep24 : List (Nat × List Nat) := [(0, [1]), (1, [1, 4]), (2, [1, 4, 5]), (3, [5, 6]), (4003, [1]), (4, [2, 3])]
noncomputable def body24 : Code := (Go.Proofs.Tryz.f24).body.getD .skip
theorem F24_eq (t0 : AV) (σ : AHeap) (k kp : AV → AHeap → Prop) : aw Go.Proofs.Tryz.prog (keepOf keep24) body24 (retK Go.Proofs.Tryz.prog (Go.Proofs.Tryz.f24).results.toList k kp) (frameOf 0 [t0]) σ = F24 t0 σ k kp := by kernel_rfl
theorem F24_ev {t0 : AV} {σ : AHeap} {k kp : AV → AHeap → Prop} (h : F24 t0 σ k kp) : Ev Go.Proofs.Tryz.prog 24 [t0] σ k kp :=
  Ev_of_aw mixed Go.Proofs.Tryz.func24 (show (Go.Proofs.Tryz.f24).body = some body24 by kernel_rfl) (by kernel_rfl) (args := [t0]) (of_decide_eq_true (by kernel_rfl)) (keepOf keep24) (by kernel_rfl) (by rw [F24_eq]; exact h)

/-- enclave/enclaveref13.Apart -/
def F25 (t0 : AV) (σ : AHeap) (k kp : AV → AHeap → Prop) : Prop :=
  stepK (aBox t0 σ) fun t1 σ =>
  stepK (aBuildSlice 0 1 [.val (.int .i64 0)] [] σ) fun t9 σ =>
  stepK (pureR σ (aLoad true 19 t1 σ)) fun t10 σ =>
  Ev Go.Proofs.Tryz.prog 16 [t10] σ (fun t11 σ =>
  seqW (fun fr σ => (
  k (.tup [(.val (Go.Value.int Go.IntKind.i64 0)), (.val (Go.Value.bool Bool.true))]) σ
  )) (fun j1 => (
  stepK (pureR σ (aLenK .slice t11 σ)) fun t13 σ =>
  loopW (fun fr σ again => (
  stepK (pureR σ (aBin .lss .prim (Abs.look fr 14) (Abs.look fr 13))) fun t15 σ =>
  condK t15 (
  seqW (fun fr σ => (
  stepK (pureR σ (aBin .add .prim (Abs.look fr 14) (.val (Go.Value.int Go.IntKind.i64 1)))) fun t47 σ =>
  again [(4, (Abs.look fr 4)), (5, (Abs.look fr 5)), (13, (Abs.look fr 13)), (14, t47)] σ
  )) (fun j2 => (
  stepK (pureR σ (aIndexAddr 19 (Abs.look fr 5) (Abs.look fr 14) σ)) fun t19 σ =>
  stepK (pureR σ (aLoad true 19 t19 σ)) fun t20 σ =>
  Ev Go.Proofs.Tryz.prog 19 [t20] σ (fun t21 σ =>
  stepK (pureR σ (aLenK .slice t21 σ)) fun t23 σ =>
  loopW (fun fr σ again => (
  stepK (pureR σ (aBin .lss .prim (Abs.look fr 24) (Abs.look fr 23))) fun t25 σ =>
  condK t25 (
  stepK (pureR σ (aIndexAddr 1 (Abs.look fr 7) (Abs.look fr 24) σ)) fun t30 σ =>
  stepK (pureR σ (aLoad false 1 t30 σ)) fun t31 σ =>
  Ev Go.Proofs.Tryz.prog 38 [(Abs.look fr 4), t31] σ (fun t32 σ =>
  condK t32 (
  stepK (pureR σ (aIndexAddr 19 (Abs.look fr 5) (Abs.look fr 6) σ)) fun t35 σ =>
  stepK (pureR σ (aFieldAddr 0 t35)) fun t36 σ =>
  stepK (pureR σ (aFieldAddr 2 t36)) fun t37 σ =>
  stepK (pureR σ (aLoad false 1 t37 σ)) fun t38 σ =>
  k (.tup [t38, (.val (Go.Value.bool Bool.false))]) σ
  ) (
  stepK (pureR σ (aIndexAddr 1 (Abs.look fr 7) (Abs.look fr 24) σ)) fun t42 σ =>
  stepK (pureR σ (aLoad false 1 t42 σ)) fun t43 σ =>
  stepK (aBuildSlice 1 1 [.val (.int .i64 0)] [(0, t43)] σ) fun t44 σ =>
  stepK (aAppend 1 8 (Abs.look fr 4) t44 σ) fun t45 σ =>
  stepK (pureR σ (aBin .add .prim (Abs.look fr 24) (.val (Go.Value.int Go.IntKind.i64 1)))) fun t46 σ =>
  again [(4, t45), (5, (Abs.look fr 5)), (6, (Abs.look fr 6)), (7, (Abs.look fr 7)), (13, (Abs.look fr 13)), (14, (Abs.look fr 14)), (23, (Abs.look fr 23)), (24, t46)] σ
  )
  ) kp) (
  j2 [(4, (Abs.look fr 4)), (5, (Abs.look fr 5)), (13, (Abs.look fr 13)), (14, (Abs.look fr 14))] σ
  )
  )) [(4, (Abs.look fr 4)), (5, (Abs.look fr 5)), (6, (Abs.look fr 14)), (7, t21), (13, (Abs.look fr 13)), (14, (Abs.look fr 14)), (23, t23), (24, (.val (Go.Value.int Go.IntKind.i64 0)))] σ
  ) kp))
  ) (
  j1 [(0, .any)] σ
  )
  )) [(4, t9), (5, t11), (13, t13), (14, (.val (Go.Value.int Go.IntKind.i64 0)))] σ
  ))) kp
def keep25 : List (Nat × List Nat) := [(0, [1]), (1, [1, 4]), (2, [4, 5]), (3016, [0]), (3, [4, 5, 13, 14]), (4, [4, 5, 13, 14, 15]), (3015, [4, 5, 13, 14]), (5, [4, 5, 6, 13, 14]), (6, [4, 5, 6, 7, 13, 14]), (7, [4, 5, 6, 7, 13, 14, 23, 24]), (8, [4, 5, 6, 7, 13, 14, 23, 24, 25]), (9, [4, 5, 6, 7, 8, 13, 14, 23, 24]), (10, [4, 5, 6, 7, 8, 13, 14, 23, 24, 32]), (11, [2, 3]), (12, [4, 5, 6, 7, 13, 14, 23, 24]), (13, [4, 5, 6, 7, 13, 14, 23, 24]), (1008, [4, 5, 6, 7, 13, 14, 23, 24]), (14, [4, 5, 13, 14]), (1004, [4, 5, 13, 14]), (15, [2, 3])]
noncomputable def body25 : Code := (Go.Proofs.Tryz.f25).body.getD .skip
theorem F25_eq (t0 : AV) (σ : AHeap) (k kp : AV → AHeap → Prop) : aw Go.Proofs.Tryz.prog (keepOf keep25) body25 (retK Go.Proofs.Tryz.prog (Go.Proofs.Tryz.f25).results.toList k kp) (frameOf 0 [t0]) σ = F25 t0 σ k kp := by kernel_rfl
theorem F25_ev {t0 : AV} {σ : AHeap} {k kp : AV → AHeap → Prop} (h : F25 t0 σ k kp) : Ev Go.Proofs.Tryz.prog 25 [t0] σ k kp :=
  Ev_of_aw mixed Go.Proofs.Tryz.func25 (show (Go.Proofs.Tryz.f25).body = some body25 by kernel_rfl) (by kernel_rfl) (args := [t0]) (of_decide_eq_true (by kernel_rfl)) (keepOf keep25) (by kernel_rfl) (by rw [F25_eq]; exact h)

/-- enclave/aterm.Binds$1 -/
def F34 (t0 t1 : AV) (σ : AHeap) (k kp : AV → AHeap → Prop) : Prop :=
  stepK (aBox t0 σ) fun t2 σ =>
  stepK (pureR σ (aLoad false 1 t1 σ)) fun t4 σ =>
  stepK (pureR σ (aLoad true 19 t2 σ)) fun t5 σ =>
  Ev Go.Proofs.Tryz.prog 35 [t5] σ (fun t6 σ =>
  (stepK (pureR σ (aLoad false 1 t1 σ)) (fun y θ => y = t4 ∧ θ = σ)) ∧ (
  stepK (aAppend 1 8 t4 t6 σ) fun t7 σ =>
  stepK (unitR (aStore 1 t1 t7 σ)) fun _ σ =>
  k (.val (Go.Value.bool Bool.true)) σ)) kp
def keep34 : List (Nat × List Nat) := [(0, [1, 2]), (1, []), (2001, [0, 1, 2, 3, 4]), (101002, [0]), (2, [3])]
noncomputable def body34 : Code := (Go.Proofs.Tryz.f34).body.getD .skip
theorem F34_eq (t0 t1 : AV) (σ : AHeap) (k kp : AV → AHeap → Prop) : aw Go.Proofs.Tryz.prog (keepOf keep34) body34 (retK Go.Proofs.Tryz.prog (Go.Proofs.Tryz.f34).results.toList k kp) (frameOf 0 [t0, t1]) σ = F34 t0 t1 σ k kp := by kernel_rfl
theorem F34_ev {t0 t1 : AV} {σ : AHeap} {k kp : AV → AHeap → Prop} (h : F34 t0 t1 σ k kp) : Ev Go.Proofs.Tryz.prog 34 [t0, t1] σ k kp :=
  Ev_of_aw mixed Go.Proofs.Tryz.func34 (show (Go.Proofs.Tryz.f34).body = some body34 by kernel_rfl) (by kernel_rfl) (args := [t0, t1]) (of_decide_eq_true (by kernel_rfl)) (keepOf keep34) (by kernel_rfl) (by rw [F34_eq]; exact h)

/-- enclave/aterm.binds -/
def F35 (t0 : AV) (σ : AHeap) (k kp : AV → AHeap → Prop) : Prop :=
  stepK (aBox t0 σ) fun t1 σ =>
  stepK (pureR σ (aFieldAddr 0 t1)) fun t3 σ =>
  stepK (pureR σ (aFieldAddr 0 t3)) fun t4 σ =>
  stepK (pureR σ (aLoad false 1 t4 σ)) fun t5 σ =>
  stepK (pureR σ (aBin .eql .prim t5 (.val (Go.Value.int Go.IntKind.u8 17)))) fun t7 σ =>
  condK t7 (
  stepK (pureR σ (aFieldAddr 7 t1)) fun t8 σ =>
  stepK (pureR σ (aLoad false 1 t8 σ)) fun t9 σ =>
  stepK (aBuildSlice 1 1 [.val (.int .i64 0)] [(0, t9)] σ) fun t10 σ =>
  k t10 σ
  ) (
  stepK (pureR σ (aBin .eql .prim t5 (.val (Go.Value.int Go.IntKind.u8 13)))) fun t12 σ =>
  condK t12 (
  stepK (pureR σ (aFieldAddr 8 t1)) fun t13 σ =>
  stepK (pureR σ (aLoad false 1 t13 σ)) fun t14 σ =>
  k t14 σ
  ) (
  k (.val (Go.Value.slice Option.none 0 0)) σ
  )
  )
def keep35 : List (Nat × List Nat) := [(0, [1]), (1, [1, 5]), (2, [1, 5, 6]), (3, [2]), (4, [1, 11]), (5, [2]), (6, [2])]
noncomputable def body35 : Code := (Go.Proofs.Tryz.f35).body.getD .skip
theorem F35_eq (t0 : AV) (σ : AHeap) (k kp : AV → AHeap → Prop) : aw Go.Proofs.Tryz.prog (keepOf keep35) body35 (retK Go.Proofs.Tryz.prog (Go.Proofs.Tryz.f35).results.toList k kp) (frameOf 0 [t0]) σ = F35 t0 σ k kp := by kernel_rfl
theorem F35_ev {t0 : AV} {σ : AHeap} {k kp : AV → AHeap → Prop} (h : F35 t0 σ k kp) : Ev Go.Proofs.Tryz.prog 35 [t0] σ k kp :=
  Ev_of_aw mixed Go.Proofs.Tryz.func35 (show (Go.Proofs.Tryz.f35).body = some body35 by kernel_rfl) (by kernel_rfl) (args := [t0]) (of_decide_eq_true (by kernel_rfl)) (keepOf keep35) (by kernel_rfl) (by rw [F35_eq]; exact h)

/-- enclave/aterm.Apart$1 -/
def F37 (t0 t1 t2 : AV) (σ : AHeap) (k kp : AV → AHeap → Prop) : Prop :=
  stepK (aBox t0 σ) fun t3 σ =>
  seqW (fun fr σ => (
  k (.val (Go.Value.bool Bool.true)) σ
  )) (fun j1 => (
  stepK (pureR σ (aLoad true 19 t3 σ)) fun t9 σ =>
  Ev Go.Proofs.Tryz.prog 35 [t9] σ (fun t10 σ =>
  stepK (pureR σ (aLenK .slice t10 σ)) fun t11 σ =>
  loopW (fun fr σ again => (
  stepK (pureR σ (aBin .lss .prim (Abs.look fr 12) (Abs.look fr 11))) fun t13 σ =>
  condK t13 (
  stepK (pureR σ (aIndexAddr 1 (Abs.look fr 10) (Abs.look fr 12) σ)) fun t14 σ =>
  stepK (pureR σ (aLoad false 1 t14 σ)) fun t15 σ =>
  stepK (pureR σ (aLoad false 1 (Abs.look fr 1) σ)) fun t17 σ =>
  stepK (pureR σ (aLookup (.int .i64) (.agg []) true t17 t15 σ)) fun t19 σ =>
  stepK (pureR σ (aExtract 0 t19)) fun t20 σ =>
  stepK (pureR σ (aExtract 1 t19)) fun t21 σ =>
  stepK (aAlloc [] σ) fun t7 σ =>
  stepK (unitR (aStore 0 t7 t20 σ)) fun _ σ =>
  condK t21 (
  stepK (pureR σ (aFieldAddr 0 (Abs.look fr 3))) fun t23 σ =>
  stepK (pureR σ (aFieldAddr 2 t23)) fun t24 σ =>
  stepK (pureR σ (aLoad false 1 t24 σ)) fun t25 σ =>
  stepK (unitR (aStore 1 (Abs.look fr 2) t25 σ)) fun _ σ =>
  k (.val (Go.Value.bool Bool.false)) σ
  ) (
  stepK (pureR σ (aLoad false 1 (Abs.look fr 1) σ)) fun t26 σ =>
  stepK (pureR σ (aBuild [] [])) fun t28 σ =>
  stepK (unitR (aMapUpdate (.int .i64) t26 t15 t28 σ)) fun _ σ =>
  stepK (pureR σ (aBin .add .prim (Abs.look fr 12) (.val (Go.Value.int Go.IntKind.i64 1)))) fun t29 σ =>
  again [(1, (Abs.look fr 1)), (2, (Abs.look fr 2)), (3, (Abs.look fr 3)), (10, (Abs.look fr 10)), (11, (Abs.look fr 11)), (12, t29)] σ
  )
  ) (
  j1 [(0, .any)] σ
  )
  )) [(1, t1), (2, t2), (3, t3), (10, t10), (11, t11), (12, (.val (Go.Value.int Go.IntKind.i64 0)))] σ
  ) kp))
def keep37 : List (Nat × List Nat) := [(0, [1, 2, 3]), (3011, [0]), (1, [1, 2, 3, 10, 11, 12]), (2, [1, 2, 3, 10, 11, 12, 13]), (3, [1, 2, 3, 6, 10, 11, 12]), (4, [1, 2, 3, 6, 8, 10, 11, 12]), (5, [1, 2, 3, 6, 10, 11, 12, 22]), (6, []), (7, [4]), (8, [1, 2, 3, 10, 11, 12]), (9, [1, 2, 3, 10, 11, 12]), (1002, [1, 2, 3, 10, 11, 12]), (10, [4])]
noncomputable def body37 : Code := (Go.Proofs.Tryz.f37).body.getD .skip
theorem F37_eq (t0 t1 t2 : AV) (σ : AHeap) (k kp : AV → AHeap → Prop) : aw Go.Proofs.Tryz.prog (keepOf keep37) body37 (retK Go.Proofs.Tryz.prog (Go.Proofs.Tryz.f37).results.toList k kp) (frameOf 0 [t0, t1, t2]) σ = F37 t0 t1 t2 σ k kp := by kernel_rfl
theorem F37_ev {t0 t1 t2 : AV} {σ : AHeap} {k kp : AV → AHeap → Prop} (h : F37 t0 t1 t2 σ k kp) : Ev Go.Proofs.Tryz.prog 37 [t0, t1, t2] σ k kp :=
  Ev_of_aw mixed Go.Proofs.Tryz.func37 (show (Go.Proofs.Tryz.f37).body = some body37 by kernel_rfl) (by kernel_rfl) (args := [t0, t1, t2]) (of_decide_eq_true (by kernel_rfl)) (keepOf keep37) (by kernel_rfl) (by rw [F37_eq]; exact h)

/-- enclave/enclaveref11.Ints -/
def F38 (t0 t1 : AV) (σ : AHeap) (k kp : AV → AHeap → Prop) : Prop :=
  seqW (fun fr σ => (
  k (.val (Go.Value.bool Bool.false)) σ
  )) (fun j1 => (
  stepK (pureR σ (aLenK .slice t0 σ)) fun t7 σ =>
  loopW (fun fr σ again => (
  stepK (pureR σ (aBin .lss .prim (Abs.look fr 8) (Abs.look fr 7))) fun t9 σ =>
  condK t9 (
  stepK (pureR σ (aIndexAddr 1 (Abs.look fr 0) (Abs.look fr 8) σ)) fun t13 σ =>
  stepK (pureR σ (aLoad false 1 t13 σ)) fun t14 σ =>
  stepK (pureR σ (aBin .eql .prim t14 (Abs.look fr 1))) fun t16 σ =>
  condK t16 (
  k (.val (Go.Value.bool Bool.true)) σ
  ) (
  stepK (pureR σ (aBin .add .prim (Abs.look fr 8) (.val (Go.Value.int Go.IntKind.i64 1)))) fun t17 σ =>
  again [(0, (Abs.look fr 0)), (1, (Abs.look fr 1)), (7, (Abs.look fr 7)), (8, t17)] σ
  )
  ) (
  j1 [(0, (Abs.look fr 0))] σ
  )
  )) [(0, t0), (1, t1), (7, t7), (8, (.val (Go.Value.int Go.IntKind.i64 0)))] σ
  ))
def keep38 : List (Nat × List Nat) := [(0, [0, 1]), (3008, [0]), (1, [0, 1, 7, 8]), (2, [0, 1, 7, 8, 9]), (3, [0, 1, 5, 7, 8]), (4, [0, 1, 7, 8, 16]), (5, [4]), (6, [0, 1, 7, 8]), (1002, [0, 1, 7, 8]), (7, [4])]
noncomputable def body38 : Code := (Go.Proofs.Tryz.f38).body.getD .skip
theorem F38_eq (t0 t1 : AV) (σ : AHeap) (k kp : AV → AHeap → Prop) : aw Go.Proofs.Tryz.prog (keepOf keep38) body38 (retK Go.Proofs.Tryz.prog (Go.Proofs.Tryz.f38).results.toList k kp) (frameOf 0 [t0, t1]) σ = F38 t0 t1 σ k kp := by kernel_rfl
theorem F38_ev {t0 t1 : AV} {σ : AHeap} {k kp : AV → AHeap → Prop} (h : F38 t0 t1 σ k kp) : Ev Go.Proofs.Tryz.prog 38 [t0, t1] σ k kp :=
  Ev_of_aw mixed Go.Proofs.Tryz.func38 (show (Go.Proofs.Tryz.f38).body = some body38 by kernel_rfl) (by kernel_rfl) (args := [t0, t1]) (of_decide_eq_true (by kernel_rfl)) (keepOf keep38) (by kernel_rfl) (by rw [F38_eq]; exact h)

end Go.Proofs.AtD
