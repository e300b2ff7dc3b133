import Derived.Test.YtjilebpcaemopaaGreatDoorAbsK
import Derived.Test.YtjilebpcaemopaaGreatDoorProg
import Derived.KernelRfl
set_option maxRecDepth 100000
set_option linter.unusedVariables false
namespace Go.Proofs.AtD
open Go Go.Abs

theorem mixed : Go.Proofs.Tryz.prog.follows .mixedOrders = true := by kernel_rfl

/-- enclave/enclaveref13.Great -/
def F22 (t0 : AV) (σ : AHeap) (k kp : AV → AHeap → Prop) : Prop :=
  stepK (aBox t0 σ) fun t1 σ =>
  stepK (pureR σ (aLoad true 19 t1 σ)) fun t3 σ =>
  Ev Go.Proofs.Tryz.prog 38 [t3, (.val (Go.Value.int Go.IntKind.i64 400))] σ (fun t4 σ =>
  stepK (pureR σ (aBin .lss .prim t4 (.val (Go.Value.int Go.IntKind.i64 0)))) fun t5 σ =>
  k t5 σ) kp
def keep22 : List (Nat × List Nat) := [(0, [1]), (1, [2])]
noncomputable def body22 : Code := (Go.Proofs.Tryz.f22).body.getD .skip
theorem F22_eq (t0 : AV) (σ : AHeap) (k kp : AV → AHeap → Prop) : aw Go.Proofs.Tryz.prog (keepOf keep22) body22 (retK Go.Proofs.Tryz.prog (Go.Proofs.Tryz.f22).results.toList k kp) (frameOf 0 [t0]) σ = F22 t0 σ k kp := by kernel_rfl
theorem F22_ev {t0 : AV} {σ : AHeap} {k kp : AV → AHeap → Prop} (h : F22 t0 σ k kp) : Ev Go.Proofs.Tryz.prog 22 [t0] σ k kp :=
  Ev_of_aw mixed Go.Proofs.Tryz.func22 (show (Go.Proofs.Tryz.f22).body = some body22 by kernel_rfl) (by kernel_rfl) (args := [t0]) (of_decide_eq_true (by kernel_rfl)) (keepOf keep22) (by kernel_rfl) (by rw [F22_eq]; exact h)

/-- enclave/aterm.May -/
def F24 (t0 : AV) (σ : AHeap) (k kp : AV → AHeap → Prop) : Prop :=
  stepK (aBox t0 σ) fun t1 σ =>
  stepK (pureR σ (aLoad true 19 t1 σ)) fun t3 σ =>
  stepK (pureR σ (aBuildSl 1 19 [.val (.int .u8 0), .val (.int .u8 0), .val (.int .i64 0), .val (.int .i64 0), .val (.string ByteArray.empty), .val (.string ByteArray.empty), .val (.string ByteArray.empty), .val (.int .i64 0), .val (.slice none 0 0), .val (.slice none 0 0), .val (.int .u8 0), .val (.int .i64 0), .val (.slice none 0 0), .val (.slice none 0 0), .val (.int .u8 0), .val (.int .i64 0), .val (.slice none 0 0), .val (.slice none 0 0), .val (.slice none 0 0)] [(0, t3)])) fun t4 σ =>
  Ev Go.Proofs.Tryz.prog 39 [t4] σ (fun t5 σ =>
  stepK (pureR σ (aBin .leq .prim t5 (.val (Go.Value.int Go.IntKind.i64 40000)))) fun t6 σ =>
  gK t6 true (fun K => stepK (pureR σ (aLoad true 19 t1 σ)) K) (fun t8 σ =>
  gK t6 true (fun K => stepK (pureR σ (aBuildSl 1 19 [.val (.int .u8 0), .val (.int .u8 0), .val (.int .i64 0), .val (.int .i64 0), .val (.string ByteArray.empty), .val (.string ByteArray.empty), .val (.string ByteArray.empty), .val (.int .i64 0), .val (.slice none 0 0), .val (.slice none 0 0), .val (.int .u8 0), .val (.int .i64 0), .val (.slice none 0 0), .val (.slice none 0 0), .val (.int .u8 0), .val (.int .i64 0), .val (.slice none 0 0), .val (.slice none 0 0), .val (.slice none 0 0)] [(0, t8)])) K) (fun t9 σ =>
  gK t6 true (fun K => Ev Go.Proofs.Tryz.prog 40 [(.fn (.func 41) []), t9] σ K kp) (fun t10 σ =>
  stepK (pureR σ (aPick t6 t10 (.val (Go.Value.bool Bool.false)))) fun t11 σ =>
  k t11 σ) σ) σ) σ) kp
def keep24 : List (Nat × List Nat) := [(0, [1]), (1, [2]), (4001, [1])]
noncomputable def body24 : Code := (Go.Proofs.Tryz.f24).body.getD .skip
theorem F24_eq (t0 : AV) (σ : AHeap) (k kp : AV → AHeap → Prop) : aw Go.Proofs.Tryz.prog (keepOf keep24) body24 (retK Go.Proofs.Tryz.prog (Go.Proofs.Tryz.f24).results.toList k kp) (frameOf 0 [t0]) σ = F24 t0 σ k kp := by kernel_rfl
theorem F24_ev {t0 : AV} {σ : AHeap} {k kp : AV → AHeap → Prop} (h : F24 t0 σ k kp) : Ev Go.Proofs.Tryz.prog 24 [t0] σ k kp :=
  Ev_of_aw mixed Go.Proofs.Tryz.func24 (show (Go.Proofs.Tryz.f24).body = some body24 by kernel_rfl) (by kernel_rfl) (args := [t0]) (of_decide_eq_true (by kernel_rfl)) (keepOf keep24) (by kernel_rfl) (by rw [F24_eq]; exact h)

/-- enclave/aterm.Size -/
def F39 (t0 : AV) (σ : AHeap) (k kp : AV → AHeap → Prop) : Prop :=
  stepK (aAlloc [.val (.int .i64 0)] σ) fun t3 σ =>
  stepK (unitR (aStore 1 t3 (.val (Go.Value.int Go.IntKind.i64 0)) σ)) fun _ σ =>
  Ev Go.Proofs.Tryz.prog 40 [(.fn (.func 71) [t3]), t0] σ (fun t6 σ =>
  stepK (pureR σ (aLoad false 1 t3 σ)) fun t7 σ =>
  k t7 σ) kp
def keep39 : List (Nat × List Nat) := [(0, [0]), (1, [0, 3]), (2, [3]), (3, [2])]
noncomputable def body39 : Code := (Go.Proofs.Tryz.f39).body.getD .skip
theorem F39_eq (t0 : AV) (σ : AHeap) (k kp : AV → AHeap → Prop) : aw Go.Proofs.Tryz.prog (keepOf keep39) body39 (retK Go.Proofs.Tryz.prog (Go.Proofs.Tryz.f39).results.toList k kp) (frameOf 0 [t0]) σ = F39 t0 σ k kp := by kernel_rfl
theorem F39_ev {t0 : AV} {σ : AHeap} {k kp : AV → AHeap → Prop} (h : F39 t0 σ k kp) : Ev Go.Proofs.Tryz.prog 39 [t0] σ k kp :=
  Ev_of_aw mixed Go.Proofs.Tryz.func39 (show (Go.Proofs.Tryz.f39).body = some body39 by kernel_rfl) (by kernel_rfl) (args := [t0]) (of_decide_eq_true (by kernel_rfl)) (keepOf keep39) (by kernel_rfl) (by rw [F39_eq]; exact h)

/-- enclave/enclaveref13.left -/
def F38 (t0 t1 : AV) (σ : AHeap) (k kp : AV → AHeap → Prop) : Prop :=
  stepK (aBox t0 σ) fun t2 σ =>
  stepK (pureR σ (aBin .sub .prim t1 (.val (Go.Value.int Go.IntKind.i64 1)))) fun t7 σ =>
  stepK (pureR σ (aFieldAddr 0 t2)) fun t8 σ =>
  stepK (pureR σ (aFieldAddr 4 t8)) fun t9 σ =>
  stepK (pureR σ (aLoad false 1 t9 σ)) fun t10 σ =>
  stepK (pureR σ (aLenK .str t10 σ)) fun t11 σ =>
  stepK (pureR σ (aBin .gtr .prim t11 (.val (Go.Value.int Go.IntKind.i64 100)))) fun t12 σ =>
  gK t12 false (fun K => stepK (pureR σ (aFieldAddr 0 t2)) K) (fun t14 σ =>
  gK t12 false (fun K => stepK (pureR σ (aFieldAddr 5 t14)) K) (fun t15 σ =>
  gK t12 false (fun K => stepK (pureR σ (aLoad false 1 t15 σ)) K) (fun t16 σ =>
  gK t12 false (fun K => stepK (pureR σ (aLenK .str t16 σ)) K) (fun t17 σ =>
  gK t12 false (fun K => stepK (pureR σ (aBin .gtr .prim t17 (.val (Go.Value.int Go.IntKind.i64 100)))) K) (fun t18 σ =>
  stepK (pureR σ (aPick t12 (.val (Go.Value.bool Bool.true)) t18)) fun t19 σ =>
  gK t19 false (fun K => stepK (pureR σ (aFieldAddr 0 t2)) K) (fun t21 σ =>
  gK t19 false (fun K => stepK (pureR σ (aFieldAddr 6 t21)) K) (fun t22 σ =>
  gK t19 false (fun K => stepK (pureR σ (aLoad false 1 t22 σ)) K) (fun t23 σ =>
  gK t19 false (fun K => stepK (pureR σ (aLenK .str t23 σ)) K) (fun t24 σ =>
  gK t19 false (fun K => stepK (pureR σ (aBin .gtr .prim t24 (.val (Go.Value.int Go.IntKind.i64 100)))) K) (fun t25 σ =>
  stepK (pureR σ (aPick t19 (.val (Go.Value.bool Bool.true)) t25)) fun t26 σ =>
  gK t26 false (fun K => stepK (pureR σ (aFieldAddr 8 t2)) K) (fun t28 σ =>
  gK t26 false (fun K => stepK (pureR σ (aLoad false 1 t28 σ)) K) (fun t29 σ =>
  gK t26 false (fun K => stepK (pureR σ (aLenK .slice t29 σ)) K) (fun t30 σ =>
  gK t26 false (fun K => stepK (pureR σ (aBin .gtr .prim t30 (.val (Go.Value.int Go.IntKind.i64 50)))) K) (fun t31 σ =>
  stepK (pureR σ (aPick t26 (.val (Go.Value.bool Bool.true)) t31)) fun t32 σ =>
  gK t32 false (fun K => stepK (pureR σ (aFieldAddr 9 t2)) K) (fun t34 σ =>
  gK t32 false (fun K => stepK (pureR σ (aLoad false 1 t34 σ)) K) (fun t35 σ =>
  gK t32 false (fun K => Ev Go.Proofs.Tryz.prog 69 [t35] σ K kp) (fun t36 σ =>
  stepK (pureR σ (aPick t32 (.val (Go.Value.bool Bool.true)) t36)) fun t37 σ =>
  gK t37 false (fun K => stepK (pureR σ (aFieldAddr 10 t2)) K) (fun t39 σ =>
  gK t37 false (fun K => stepK (pureR σ (aLoad true 4 t39 σ)) K) (fun t40 σ =>
  gK t37 false (fun K => Ev Go.Proofs.Tryz.prog 70 [t40] σ K kp) (fun t41 σ =>
  stepK (pureR σ (aPick t37 (.val (Go.Value.bool Bool.true)) t41)) fun t42 σ =>
  gK t42 false (fun K => stepK (pureR σ (aFieldAddr 14 t2)) K) (fun t44 σ =>
  gK t42 false (fun K => stepK (pureR σ (aLoad true 4 t44 σ)) K) (fun t45 σ =>
  gK t42 false (fun K => Ev Go.Proofs.Tryz.prog 70 [t45] σ K kp) (fun t46 σ =>
  stepK (pureR σ (aPick t42 (.val (Go.Value.bool Bool.true)) t46)) fun t47 σ =>
  condK t47 (
  k (.val (Go.Value.int Go.IntKind.i64 (-1))) σ
  ) (
  seqW (fun fr σ => (
  k (Abs.look fr 1) σ
  )) (fun j1 => (
  loopW (fun fr σ again => (
  stepK (pureR σ (aFieldAddr 18 (Abs.look fr 2))) fun t49 σ =>
  stepK (pureR σ (aLoad false 1 t49 σ)) fun t50 σ =>
  stepK (pureR σ (aLenK .slice t50 σ)) fun t51 σ =>
  stepK (pureR σ (aBin .lss .prim (Abs.look fr 5) t51)) fun t52 σ =>
  gK t52 true (fun K => K (Abs.look fr 1) σ) (fun t54 σ =>
  gK t52 true (fun K => stepK (pureR σ (aBin .geq .prim t54 (.val (Go.Value.int Go.IntKind.i64 0)))) K) (fun t55 σ =>
  stepK (pureR σ (aPick t52 t55 (.val (Go.Value.bool Bool.false)))) fun t56 σ =>
  condK t56 (
  stepK (pureR σ (aFieldAddr 18 (Abs.look fr 2))) fun t59 σ =>
  stepK (pureR σ (aLoad false 1 t59 σ)) fun t60 σ =>
  stepK (pureR σ (aIndexAddr 19 t60 (Abs.look fr 5) σ)) fun t62 σ =>
  stepK (pureR σ (aLoad true 19 t62 σ)) fun t63 σ =>
  Ev Go.Proofs.Tryz.prog 38 [t63, (Abs.look fr 1)] σ (fun t65 σ =>
  stepK (pureR σ (aBin .add .prim (Abs.look fr 5) (.val (Go.Value.int Go.IntKind.i64 1)))) fun t58 σ =>
  again [(1, t65), (2, (Abs.look fr 2)), (5, t58)] σ
  ) kp) (
  j1 [(1, (Abs.look fr 1))] σ
  )
  ) σ) σ)) [(1, t7), (2, t2), (5, (.val (Go.Value.int Go.IntKind.i64 0)))] σ
  ))
  )) σ) σ) σ) σ) σ) σ) σ) σ) σ) σ) σ) σ) σ) σ) σ) σ) σ) σ) σ) σ) σ) σ) σ
def keep38 : List (Nat × List Nat) := [(0, [1, 2]), (1, [1, 2]), (2, [1, 2, 47]), (3, [4]), (3009, [1]), (4, [1, 2, 5]), (5, [1, 2, 5, 56]), (7, [1, 2, 5]), (6, [1, 2, 5]), (1005, [1, 2, 5]), (8, [4])]
noncomputable def body38 : Code := (Go.Proofs.Tryz.f38).body.getD .skip
theorem F38_eq (t0 t1 : AV) (σ : AHeap) (k kp : AV → AHeap → Prop) : aw Go.Proofs.Tryz.prog (keepOf keep38) body38 (retK Go.Proofs.Tryz.prog (Go.Proofs.Tryz.f38).results.toList k kp) (frameOf 0 [t0, t1]) σ = F38 t0 t1 σ k kp := by kernel_rfl
theorem F38_ev {t0 t1 : AV} {σ : AHeap} {k kp : AV → AHeap → Prop} (h : F38 t0 t1 σ k kp) : Ev Go.Proofs.Tryz.prog 38 [t0, t1] σ k kp :=
  Ev_of_aw mixed Go.Proofs.Tryz.func38 (show (Go.Proofs.Tryz.f38).body = some body38 by kernel_rfl) (by kernel_rfl) (args := [t0, t1]) (of_decide_eq_true (by kernel_rfl)) (keepOf keep38) (by kernel_rfl) (by rw [F38_eq]; exact h)

/-- enclave/aterm.each -/
def F40 (t0 t1 : AV) (σ : AHeap) (k kp : AV → AHeap → Prop) : Prop :=
  seqW (fun fr σ => (
  k (.val (Go.Value.bool Bool.true)) σ
  )) (fun j1 => (
  stepK (pureR σ (aLenK .slice t1 σ)) fun t8 σ =>
  loopW (fun fr σ again => (
  stepK (pureR σ (aBin .lss .prim (Abs.look fr 9) (Abs.look fr 8))) fun t10 σ =>
  condK t10 (
  stepK (pureR σ (aIndexAddr 19 (Abs.look fr 7) (Abs.look fr 9) σ)) fun t11 σ =>
  stepK (pureR σ (aLoad true 19 t11 σ)) fun t12 σ =>
  stepK (aAlloc [.val (.int .u8 0), .val (.int .u8 0), .val (.int .i64 0), .val (.int .i64 0), .val (.string ByteArray.empty), .val (.string ByteArray.empty), .val (.string ByteArray.empty), .val (.int .i64 0), .val (.slice none 0 0), .val (.slice none 0 0), .val (.int .u8 0), .val (.int .i64 0), .val (.slice none 0 0), .val (.slice none 0 0), .val (.int .u8 0), .val (.int .i64 0), .val (.slice none 0 0), .val (.slice none 0 0), .val (.slice none 0 0)] σ) fun t6 σ =>
  stepK (unitR (aStore 19 t6 t12 σ)) fun _ σ =>
  stepK (pureR σ (aLoad true 19 t6 σ)) fun t14 σ =>
  callK Go.Proofs.Tryz.prog (Abs.look fr 0) [t14] σ (fun t15 σ =>
  stepK (pureR σ (aNot t15)) fun t16 σ =>
  gK t16 false (fun K => K (Abs.look fr 0) σ) (fun t18 σ =>
  gK t16 false (fun K => stepK (pureR σ (aFieldAddr 18 t6)) K) (fun t19 σ =>
  gK t16 false (fun K => stepK (pureR σ (aLoad false 1 t19 σ)) K) (fun t20 σ =>
  gK t16 false (fun K => Ev Go.Proofs.Tryz.prog 40 [t18, t20] σ K kp) (fun t21 σ =>
  gK t16 false (fun K => stepK (pureR σ (aNot t21)) K) (fun t22 σ =>
  stepK (pureR σ (aPick t16 (.val (Go.Value.bool Bool.true)) t22)) fun t23 σ =>
  condK t23 (
  k (.val (Go.Value.bool Bool.false)) σ
  ) (
  stepK (pureR σ (aBin .add .prim (Abs.look fr 9) (.val (Go.Value.int Go.IntKind.i64 1)))) fun t24 σ =>
  again [(0, (Abs.look fr 0)), (7, (Abs.look fr 7)), (8, (Abs.look fr 8)), (9, t24)] σ
  )
  ) σ) σ) σ) σ) σ) kp) (
  j1 [(0, (Abs.look fr 0))] σ
  )
  )) [(0, t0), (7, t1), (8, t8), (9, (.val (Go.Value.int Go.IntKind.i64 0)))] σ
  ))
def keep40 : List (Nat × List Nat) := [(0, [0, 1]), (3008, [0]), (1, [0, 7, 8, 9]), (2, [0, 7, 8, 9, 10]), (3, [0, 6, 7, 8, 9]), (4, [0, 7, 8, 9, 23]), (5, [4]), (6, [0, 7, 8, 9]), (1002, [0, 7, 8, 9]), (7, [4])]
noncomputable def body40 : Code := (Go.Proofs.Tryz.f40).body.getD .skip
theorem F40_eq (t0 t1 : AV) (σ : AHeap) (k kp : AV → AHeap → Prop) : aw Go.Proofs.Tryz.prog (keepOf keep40) body40 (retK Go.Proofs.Tryz.prog (Go.Proofs.Tryz.f40).results.toList k kp) (frameOf 0 [t0, t1]) σ = F40 t0 t1 σ k kp := by kernel_rfl
theorem F40_ev {t0 t1 : AV} {σ : AHeap} {k kp : AV → AHeap → Prop} (h : F40 t0 t1 σ k kp) : Ev Go.Proofs.Tryz.prog 40 [t0, t1] σ k kp :=
  Ev_of_aw mixed Go.Proofs.Tryz.func40 (show (Go.Proofs.Tryz.f40).body = some body40 by kernel_rfl) (by kernel_rfl) (args := [t0, t1]) (of_decide_eq_true (by kernel_rfl)) (keepOf keep40) (by kernel_rfl) (by rw [F40_eq]; exact h)

/-- enclave/aterm.node -/
def F41 (t0 : AV) (σ : AHeap) (k kp : AV → AHeap → Prop) : Prop :=
  stepK (aBox t0 σ) fun t1 σ =>
  stepK (pureR σ (aFieldAddr 0 t1)) fun t4 σ =>
  stepK (pureR σ (aFieldAddr 0 t4)) fun t5 σ =>
  stepK (pureR σ (aLoad false 1 t5 σ)) fun t6 σ =>
  Ev Go.Proofs.Tryz.prog 72 [t6] σ (fun t7 σ =>
  stepK (aAlloc [.val (.bool false), .val (.bool false), .val (.bool false), .val (.bool false), .val (.bool false)] σ) fun t3 σ =>
  stepK (unitR (aStore 5 t3 t7 σ)) fun _ σ =>
  seqW (fun fr σ => (
  condK (Abs.look fr 8) (
  k (.val (Go.Value.bool Bool.false)) σ
  ) (
  seqW (fun fr σ => (
  condK (Abs.look fr 26) (
  k (.val (Go.Value.bool Bool.false)) σ
  ) (
  stepK (pureR σ (aFieldAddr 3 (Abs.look fr 3))) fun t44 σ =>
  stepK (pureR σ (aLoad false 1 t44 σ)) fun t45 σ =>
  stepK (pureR σ (aFieldAddr 10 (Abs.look fr 1))) fun t46 σ =>
  stepK (pureR σ (aLoad true 4 t46 σ)) fun t47 σ =>
  Ev Go.Proofs.Tryz.prog 77 [t45, t47] σ (fun t48 σ =>
  gK t48 true (fun K => stepK (pureR σ (aFieldAddr 4 (Abs.look fr 3))) K) (fun t50 σ =>
  gK t48 true (fun K => stepK (pureR σ (aLoad false 1 t50 σ)) K) (fun t51 σ =>
  gK t48 true (fun K => stepK (pureR σ (aFieldAddr 14 (Abs.look fr 1))) K) (fun t52 σ =>
  gK t48 true (fun K => stepK (pureR σ (aLoad true 4 t52 σ)) K) (fun t53 σ =>
  gK t48 true (fun K => Ev Go.Proofs.Tryz.prog 77 [t51, t53] σ K kp) (fun t54 σ =>
  stepK (pureR σ (aPick t48 t54 (.val (Go.Value.bool Bool.false)))) fun t55 σ =>
  k t55 σ
  ) σ) σ) σ) σ) σ) kp)
  )) (fun j2 => (
  stepK (pureR σ (aFieldAddr 2 (Abs.look fr 3))) fun t27 σ =>
  stepK (pureR σ (aLoad false 1 t27 σ)) fun t28 σ =>
  gK t28 true (fun K => stepK (pureR σ (aFieldAddr 9 (Abs.look fr 1))) K) (fun t30 σ =>
  gK t28 true (fun K => stepK (pureR σ (aLoad false 1 t30 σ)) K) (fun t31 σ =>
  gK t28 true (fun K => Ev Go.Proofs.Tryz.prog 76 [t31] σ K kp) (fun t32 σ =>
  gK t28 true (fun K => stepK (pureR σ (aNot t32)) K) (fun t33 σ =>
  stepK (pureR σ (aPick t28 t33 (.val (Go.Value.bool Bool.false)))) fun t34 σ =>
  condK t34 (
  j2 [(1, (Abs.look fr 1)), (3, (Abs.look fr 3)), (26, t34)] σ
  ) (
  stepK (pureR σ (aFieldAddr 2 (Abs.look fr 3))) fun t35 σ =>
  stepK (pureR σ (aLoad false 1 t35 σ)) fun t36 σ =>
  stepK (pureR σ (aNot t36)) fun t37 σ =>
  gK t37 true (fun K => stepK (pureR σ (aFieldAddr 9 (Abs.look fr 1))) K) (fun t39 σ =>
  gK t37 true (fun K => stepK (pureR σ (aLoad false 1 t39 σ)) K) (fun t40 σ =>
  gK t37 true (fun K => stepK (pureR σ (aLenK .slice t40 σ)) K) (fun t41 σ =>
  gK t37 true (fun K => stepK (pureR σ (aBin .gtr .prim t41 (.val (Go.Value.int Go.IntKind.i64 0)))) K) (fun t42 σ =>
  stepK (pureR σ (aPick t37 t42 (.val (Go.Value.bool Bool.false)))) fun t43 σ =>
  j2 [(1, (Abs.look fr 1)), (3, (Abs.look fr 3)), (26, t43)] σ
  ) σ) σ) σ) σ)
  ) σ) σ) σ) σ))
  )
  )) (fun j1 => (
  stepK (pureR σ (aLoad true 19 t1 σ)) fun t9 σ =>
  Ev Go.Proofs.Tryz.prog 73 [t9] σ (fun t10 σ =>
  stepK (pureR σ (aNot t10)) fun t11 σ =>
  condK t11 (
  j1 [(1, t1), (3, t3), (8, t11)] σ
  ) (
  stepK (pureR σ (aLoad true 19 t1 σ)) fun t12 σ =>
  stepK (pureR σ (aLoad true 5 t3 σ)) fun t13 σ =>
  Ev Go.Proofs.Tryz.prog 74 [t12, t13] σ (fun t14 σ =>
  stepK (pureR σ (aNot t14)) fun t15 σ =>
  condK t15 (
  j1 [(1, t1), (3, t3), (8, t15)] σ
  ) (
  stepK (pureR σ (aFieldAddr 0 t1)) fun t16 σ =>
  stepK (pureR σ (aFieldAddr 0 t16)) fun t17 σ =>
  stepK (pureR σ (aLoad false 1 t17 σ)) fun t18 σ =>
  stepK (pureR σ (aBin .eql .prim t18 (.val (Go.Value.int Go.IntKind.u8 13)))) fun t19 σ =>
  gK t19 true (fun K => stepK (pureR σ (aFieldAddr 8 t1)) K) (fun t21 σ =>
  gK t19 true (fun K => stepK (pureR σ (aLoad false 1 t21 σ)) K) (fun t22 σ =>
  gK t19 true (fun K => Ev Go.Proofs.Tryz.prog 75 [t22] σ K kp) (fun t23 σ =>
  gK t19 true (fun K => stepK (pureR σ (aNot t23)) K) (fun t24 σ =>
  stepK (pureR σ (aPick t19 t24 (.val (Go.Value.bool Bool.false)))) fun t25 σ =>
  j1 [(1, t1), (3, t3), (8, t25)] σ
  ) σ) σ) σ) σ)
  ) kp)
  ) kp))) kp
def keep41 : List (Nat × List Nat) := [(0, [1]), (1, [1, 3]), (3006, [1, 3, 8]), (2, [1, 3, 8]), (3, [1, 3, 8]), (4, [1, 3, 8]), (5, [2]), (3009, [1, 3, 26]), (6, [1, 3, 26]), (7, [1, 3, 26]), (8, [2]), (9, [2])]
noncomputable def body41 : Code := (Go.Proofs.Tryz.f41).body.getD .skip
theorem F41_eq (t0 : AV) (σ : AHeap) (k kp : AV → AHeap → Prop) : aw Go.Proofs.Tryz.prog (keepOf keep41) body41 (retK Go.Proofs.Tryz.prog (Go.Proofs.Tryz.f41).results.toList k kp) (frameOf 0 [t0]) σ = F41 t0 σ k kp := by kernel_rfl
theorem F41_ev {t0 : AV} {σ : AHeap} {k kp : AV → AHeap → Prop} (h : F41 t0 σ k kp) : Ev Go.Proofs.Tryz.prog 41 [t0] σ k kp :=
  Ev_of_aw mixed Go.Proofs.Tryz.func41 (show (Go.Proofs.Tryz.f41).body = some body41 by kernel_rfl) (by kernel_rfl) (args := [t0]) (of_decide_eq_true (by kernel_rfl)) (keepOf keep41) (by kernel_rfl) (by rw [F41_eq]; exact h)

/-- enclave/aterm.Size$1 -/
def F71 (t0 t1 : AV) (σ : AHeap) (k kp : AV → AHeap → Prop) : Prop :=
  stepK (aBox t0 σ) fun t2 σ =>
  stepK (pureR σ (aLoad false 1 t1 σ)) fun t4 σ =>
  stepK (pureR σ (aBin .add .prim t4 (.val (Go.Value.int Go.IntKind.i64 1)))) fun t5 σ =>
  stepK (unitR (aStore 1 t1 t5 σ)) fun _ σ =>
  k (.val (Go.Value.bool Bool.true)) σ
def keep71 : List (Nat × List Nat) := [(0, [1]), (1, []), (2, [3])]
noncomputable def body71 : Code := (Go.Proofs.Tryz.f71).body.getD .skip
theorem F71_eq (t0 t1 : AV) (σ : AHeap) (k kp : AV → AHeap → Prop) : aw Go.Proofs.Tryz.prog (keepOf keep71) body71 (retK Go.Proofs.Tryz.prog (Go.Proofs.Tryz.f71).results.toList k kp) (frameOf 0 [t0, t1]) σ = F71 t0 t1 σ k kp := by kernel_rfl
theorem F71_ev {t0 t1 : AV} {σ : AHeap} {k kp : AV → AHeap → Prop} (h : F71 t0 t1 σ k kp) : Ev Go.Proofs.Tryz.prog 71 [t0, t1] σ k kp :=
  Ev_of_aw mixed Go.Proofs.Tryz.func71 (show (Go.Proofs.Tryz.f71).body = some body71 by kernel_rfl) (by kernel_rfl) (args := [t0, t1]) (of_decide_eq_true (by kernel_rfl)) (keepOf keep71) (by kernel_rfl) (by rw [F71_eq]; exact h)

/-- enclave/enclaveref11.Great -/
def F69 (t0 : AV) (σ : AHeap) (k kp : AV → AHeap → Prop) : Prop :=
  stepK (pureR σ (aLenK .slice t0 σ)) fun t5 σ =>
  stepK (pureR σ (aBin .gtr .prim t5 (.val (Go.Value.int Go.IntKind.i64 100)))) fun t6 σ =>
  condK t6 (
  k (.val (Go.Value.bool Bool.true)) σ
  ) (
  seqW (fun fr σ => (
  k (.val (Go.Value.bool Bool.false)) σ
  )) (fun j1 => (
  stepK (pureR σ (aLenK .slice t0 σ)) fun t8 σ =>
  loopW (fun fr σ again => (
  stepK (pureR σ (aBin .lss .prim (Abs.look fr 9) (Abs.look fr 8))) fun t10 σ =>
  condK t10 (
  stepK (pureR σ (aIndexAddr 3 (Abs.look fr 0) (Abs.look fr 9) σ)) fun t14 σ =>
  stepK (pureR σ (aFieldAddr 2 t14)) fun t15 σ =>
  stepK (pureR σ (aLoad false 1 t15 σ)) fun t16 σ =>
  stepK (pureR σ (aLenK .str t16 σ)) fun t17 σ =>
  stepK (pureR σ (aBin .gtr .prim t17 (.val (Go.Value.int Go.IntKind.i64 100)))) fun t18 σ =>
  condK t18 (
  k (.val (Go.Value.bool Bool.true)) σ
  ) (
  stepK (pureR σ (aBin .add .prim (Abs.look fr 9) (.val (Go.Value.int Go.IntKind.i64 1)))) fun t19 σ =>
  again [(0, (Abs.look fr 0)), (8, (Abs.look fr 8)), (9, t19)] σ
  )
  ) (
  j1 [(0, (Abs.look fr 0))] σ
  )
  )) [(0, t0), (8, t8), (9, (.val (Go.Value.int Go.IntKind.i64 0)))] σ
  ))
  )
def keep69 : List (Nat × List Nat) := [(0, [0]), (1, [0, 6]), (2, [2]), (3010, [0]), (3, [0, 8, 9]), (4, [0, 8, 9, 10]), (5, [0, 3, 8, 9]), (6, [0, 8, 9, 18]), (7, [2]), (8, [0, 8, 9]), (1004, [0, 8, 9]), (9, [2])]
noncomputable def body69 : Code := (Go.Proofs.Tryz.f69).body.getD .skip
theorem F69_eq (t0 : AV) (σ : AHeap) (k kp : AV → AHeap → Prop) : aw Go.Proofs.Tryz.prog (keepOf keep69) body69 (retK Go.Proofs.Tryz.prog (Go.Proofs.Tryz.f69).results.toList k kp) (frameOf 0 [t0]) σ = F69 t0 σ k kp := by kernel_rfl
theorem F69_ev {t0 : AV} {σ : AHeap} {k kp : AV → AHeap → Prop} (h : F69 t0 σ k kp) : Ev Go.Proofs.Tryz.prog 69 [t0] σ k kp :=
  Ev_of_aw mixed Go.Proofs.Tryz.func69 (show (Go.Proofs.Tryz.f69).body = some body69 by kernel_rfl) (by kernel_rfl) (args := [t0]) (of_decide_eq_true (by kernel_rfl)) (keepOf keep69) (by kernel_rfl) (by rw [F69_eq]; exact h)

/-- enclave/enclaveref12.Great -/
def F70 (t0 : AV) (σ : AHeap) (k kp : AV → AHeap → Prop) : Prop :=
  stepK (aBox t0 σ) fun t1 σ =>
  stepK (pureR σ (aLoad true 4 t1 σ)) fun t3 σ =>
  Ev Go.Proofs.Tryz.prog 112 [t3, (.val (Go.Value.int Go.IntKind.i64 100))] σ (fun t4 σ =>
  stepK (pureR σ (aBin .lss .prim t4 (.val (Go.Value.int Go.IntKind.i64 0)))) fun t5 σ =>
  k t5 σ) kp
def keep70 : List (Nat × List Nat) := [(0, [1]), (1, [2])]
noncomputable def body70 : Code := (Go.Proofs.Tryz.f70).body.getD .skip
theorem F70_eq (t0 : AV) (σ : AHeap) (k kp : AV → AHeap → Prop) : aw Go.Proofs.Tryz.prog (keepOf keep70) body70 (retK Go.Proofs.Tryz.prog (Go.Proofs.Tryz.f70).results.toList k kp) (frameOf 0 [t0]) σ = F70 t0 σ k kp := by kernel_rfl
theorem F70_ev {t0 : AV} {σ : AHeap} {k kp : AV → AHeap → Prop} (h : F70 t0 σ k kp) : Ev Go.Proofs.Tryz.prog 70 [t0] σ k kp :=
  Ev_of_aw mixed Go.Proofs.Tryz.func70 (show (Go.Proofs.Tryz.f70).body = some body70 by kernel_rfl) (by kernel_rfl) (args := [t0]) (of_decide_eq_true (by kernel_rfl)) (keepOf keep70) (by kernel_rfl) (by rw [F70_eq]; exact h)

/-- enclave/aterm.of -/
def F72 (t0 : AV) (σ : AHeap) (k kp : AV → AHeap → Prop) : Prop :=
  stepK (aAlloc [.val (.bool false), .val (.bool false), .val (.bool false), .val (.bool false), .val (.bool false)] σ) fun t2 σ =>
  seqW (fun fr σ => (
  condK (Abs.look fr 4) (
  stepK (pureR σ (aBuild [.val (.bool false), .val (.bool false), .val (.bool false), .val (.bool false), .val (.bool false)] [(0, 1, (.val (Go.Value.bool Bool.true)))])) fun t8 σ =>
  stepK (unitR (aStore 5 (Abs.look fr 2) t8 σ)) fun _ σ =>
  stepV (aLoad true 5 (Abs.look fr 2) σ) fun r0 =>
  k r0 σ
  ) (
  stepK (pureR σ (aBin .eql .prim (Abs.look fr 3) (.val (Go.Value.int Go.IntKind.u8 11)))) fun t10 σ =>
  condK t10 (
  stepK (pureR σ (aBuild [.val (.bool false), .val (.bool false), .val (.bool false), .val (.bool false), .val (.bool false)] [(0, 1, (.val (Go.Value.bool Bool.true))), (2, 1, (.val (Go.Value.bool Bool.true))), (3, 1, (.val (Go.Value.bool Bool.true)))])) fun t11 σ =>
  stepK (unitR (aStore 5 (Abs.look fr 2) t11 σ)) fun _ σ =>
  stepV (aLoad true 5 (Abs.look fr 2) σ) fun r0 =>
  k r0 σ
  ) (
  stepK (pureR σ (aBin .eql .prim (Abs.look fr 3) (.val (Go.Value.int Go.IntKind.u8 13)))) fun t13 σ =>
  condK t13 (
  stepK (pureR σ (aBuild [.val (.bool false), .val (.bool false), .val (.bool false), .val (.bool false), .val (.bool false)] [(0, 1, (.val (Go.Value.bool Bool.true))), (1, 1, (.val (Go.Value.bool Bool.true))), (2, 1, (.val (Go.Value.bool Bool.true))), (3, 1, (.val (Go.Value.bool Bool.true))), (4, 1, (.val (Go.Value.bool Bool.true)))])) fun t14 σ =>
  stepK (unitR (aStore 5 (Abs.look fr 2) t14 σ)) fun _ σ =>
  stepV (aLoad true 5 (Abs.look fr 2) σ) fun r0 =>
  k r0 σ
  ) (
  stepK (pureR σ (aBin .eql .prim (Abs.look fr 3) (.val (Go.Value.int Go.IntKind.u8 15)))) fun t16 σ =>
  condK t16 (
  stepK (pureR σ (aBuild [.val (.bool false), .val (.bool false), .val (.bool false), .val (.bool false), .val (.bool false)] [(3, 1, (.val (Go.Value.bool Bool.true)))])) fun t17 σ =>
  stepK (unitR (aStore 5 (Abs.look fr 2) t17 σ)) fun _ σ =>
  stepV (aLoad true 5 (Abs.look fr 2) σ) fun r0 =>
  k r0 σ
  ) (
  stepK (pureR σ (aBin .eql .prim (Abs.look fr 3) (.val (Go.Value.int Go.IntKind.u8 18)))) fun t19 σ =>
  condK t19 (
  stepK (pureR σ (aBuild [.val (.bool false), .val (.bool false), .val (.bool false), .val (.bool false), .val (.bool false)] [(0, 1, (.val (Go.Value.bool Bool.true))), (1, 1, (.val (Go.Value.bool Bool.true))), (2, 1, (.val (Go.Value.bool Bool.true)))])) fun t20 σ =>
  stepK (unitR (aStore 5 (Abs.look fr 2) t20 σ)) fun _ σ =>
  stepV (aLoad true 5 (Abs.look fr 2) σ) fun r0 =>
  k r0 σ
  ) (
  stepK (pureR σ (aBuild [.val (.bool false), .val (.bool false), .val (.bool false), .val (.bool false), .val (.bool false)] [])) fun t21 σ =>
  stepK (unitR (aStore 5 (Abs.look fr 2) t21 σ)) fun _ σ =>
  stepV (aLoad true 5 (Abs.look fr 2) σ) fun r0 =>
  k r0 σ
  )
  )
  )
  )
  )
  )) (fun j1 => (
  stepK (pureR σ (aBin .eql .prim t0 (.val (Go.Value.int Go.IntKind.u8 3)))) fun t5 σ =>
  condK t5 (
  j1 [(2, t2), (3, t0), (4, t5)] σ
  ) (
  stepK (pureR σ (aBin .eql .prim t0 (.val (Go.Value.int Go.IntKind.u8 6)))) fun t6 σ =>
  condK t6 (
  j1 [(2, t2), (3, t0), (4, t6)] σ
  ) (
  stepK (pureR σ (aBin .eql .prim t0 (.val (Go.Value.int Go.IntKind.u8 17)))) fun t7 σ =>
  j1 [(2, t2), (3, t0), (4, t7)] σ
  )
  )
  ))
def keep72 : List (Nat × List Nat) := [(0, [0, 2]), (1, [2, 3]), (3006, [2, 3, 4]), (2, [2, 3, 4]), (3, [2, 3, 4]), (4, [2, 3, 4]), (5, [2]), (6, [2, 3, 9]), (7, [2]), (8, [2, 3, 12]), (9, [2]), (10, [2, 3, 15]), (11, [2]), (12, [2, 18]), (13, [2]), (14, [2])]
noncomputable def body72 : Code := (Go.Proofs.Tryz.f72).body.getD .skip
theorem F72_eq (t0 : AV) (σ : AHeap) (k kp : AV → AHeap → Prop) : aw Go.Proofs.Tryz.prog (keepOf keep72) body72 (retK Go.Proofs.Tryz.prog (Go.Proofs.Tryz.f72).results.toList k kp) (frameOf 0 [t0]) σ = F72 t0 σ k kp := by kernel_rfl
theorem F72_ev {t0 : AV} {σ : AHeap} {k kp : AV → AHeap → Prop} (h : F72 t0 σ k kp) : Ev Go.Proofs.Tryz.prog 72 [t0] σ k kp :=
  Ev_of_aw mixed Go.Proofs.Tryz.func72 (show (Go.Proofs.Tryz.f72).body = some body72 by kernel_rfl) (by kernel_rfl) (args := [t0]) (of_decide_eq_true (by kernel_rfl)) (keepOf keep72) (by kernel_rfl) (by rw [F72_eq]; exact h)

/-- enclave/aterm.headed -/
def F73 (t0 : AV) (σ : AHeap) (k kp : AV → AHeap → Prop) : Prop :=
  stepK (aBox t0 σ) fun t1 σ =>
  seqW (fun fr σ => (
  stepK (pureR σ (aFieldAddr 18 (Abs.look fr 1))) fun t31 σ =>
  stepK (pureR σ (aLoad false 1 t31 σ)) fun t32 σ =>
  stepK (pureR σ (aLenK .slice t32 σ)) fun t33 σ =>
  stepK (pureR σ (aBin .leq .prim t33 (.val (Go.Value.int Go.IntKind.i64 3)))) fun t34 σ =>
  gK t34 true (fun K => stepK (pureR σ (aLoad true 19 (Abs.look fr 1) σ)) K) (fun t36 σ =>
  gK t34 true (fun K => Ev Go.Proofs.Tryz.prog 114 [t36] σ K kp) (fun t37 σ =>
  gK t34 true (fun K => Ev Go.Proofs.Tryz.prog 113 [t37] σ K kp) (fun t38 σ =>
  stepK (pureR σ (aPick t34 t38 (.val (Go.Value.bool Bool.false)))) fun t39 σ =>
  k t39 σ
  ) σ) σ) σ)) (fun j1 => (
  stepK (pureR σ (aFieldAddr 0 t1)) fun t3 σ =>
  stepK (pureR σ (aFieldAddr 0 t3)) fun t4 σ =>
  stepK (pureR σ (aLoad false 1 t4 σ)) fun t5 σ =>
  stepK (pureR σ (aBin .eql .prim t5 (.val (Go.Value.int Go.IntKind.u8 17)))) fun t7 σ =>
  condK t7 (
  stepK (pureR σ (aFieldAddr 0 t1)) fun t8 σ =>
  stepK (pureR σ (aLoad true 7 t8 σ)) fun t9 σ =>
  stepK (pureR σ (aFieldAddr 0 t1)) fun t10 σ =>
  stepK (pureR σ (aFieldAddr 2 t10)) fun t11 σ =>
  stepK (pureR σ (aLoad false 1 t11 σ)) fun t12 σ =>
  stepK (pureR σ (aBuild [.val (.int .u8 0), .val (.int .u8 0), .val (.int .i64 0), .val (.int .i64 0), .val (.string ByteArray.empty), .val (.string ByteArray.empty), .val (.string ByteArray.empty)] [(0, 1, (.val (Go.Value.int Go.IntKind.u8 17))), (2, 1, t12)])) fun t13 σ =>
  stepK (pureR σ (aBin .eql (.agg [.i, .i, .i, .i, .s, .s, .s]) t9 t13)) fun t14 σ =>
  gK t14 true (fun K => stepK (pureR σ (aFieldAddr 0 t1)) K) (fun t16 σ =>
  gK t14 true (fun K => stepK (pureR σ (aFieldAddr 2 t16)) K) (fun t17 σ =>
  gK t14 true (fun K => stepK (pureR σ (aLoad false 1 t17 σ)) K) (fun t18 σ =>
  gK t14 true (fun K => stepK (pureR σ (aBin .geq .prim t18 (.val (Go.Value.int Go.IntKind.i64 0)))) K) (fun t19 σ =>
  stepK (pureR σ (aPick t14 t19 (.val (Go.Value.bool Bool.false)))) fun t20 σ =>
  gK t20 true (fun K => stepK (pureR σ (aFieldAddr 18 t1)) K) (fun t22 σ =>
  gK t20 true (fun K => stepK (pureR σ (aLoad false 1 t22 σ)) K) (fun t23 σ =>
  gK t20 true (fun K => stepK (pureR σ (aLenK .slice t23 σ)) K) (fun t24 σ =>
  gK t20 true (fun K => stepK (pureR σ (aBin .eql .prim t24 (.val (Go.Value.int Go.IntKind.i64 1)))) K) (fun t25 σ =>
  stepK (pureR σ (aPick t20 t25 (.val (Go.Value.bool Bool.false)))) fun t26 σ =>
  k t26 σ
  ) σ) σ) σ) σ) σ) σ) σ) σ) (
  stepK (pureR σ (aBin .eql .prim t5 (.val (Go.Value.int Go.IntKind.u8 18)))) fun t28 σ =>
  condK t28 (
  stepK (pureR σ (aFieldAddr 0 t1)) fun t29 σ =>
  stepK (pureR σ (aFieldAddr 0 t29)) fun t30 σ =>
  stepK (unitR (aStore 1 t30 (.val (Go.Value.int Go.IntKind.u8 2)) σ)) fun _ σ =>
  j1 [(1, t1)] σ
  ) (
  j1 [(1, t1)] σ
  )
  )
  ))
def keep73 : List (Nat × List Nat) := [(0, [1]), (3007, [1]), (1, [1, 5]), (2, [1, 5, 6]), (3, [2]), (4, [1, 27]), (5, [1]), (6, [2])]
noncomputable def body73 : Code := (Go.Proofs.Tryz.f73).body.getD .skip
theorem F73_eq (t0 : AV) (σ : AHeap) (k kp : AV → AHeap → Prop) : aw Go.Proofs.Tryz.prog (keepOf keep73) body73 (retK Go.Proofs.Tryz.prog (Go.Proofs.Tryz.f73).results.toList k kp) (frameOf 0 [t0]) σ = F73 t0 σ k kp := by kernel_rfl
theorem F73_ev {t0 : AV} {σ : AHeap} {k kp : AV → AHeap → Prop} (h : F73 t0 σ k kp) : Ev Go.Proofs.Tryz.prog 73 [t0] σ k kp :=
  Ev_of_aw mixed Go.Proofs.Tryz.func73 (show (Go.Proofs.Tryz.f73).body = some body73 by kernel_rfl) (by kernel_rfl) (args := [t0]) (of_decide_eq_true (by kernel_rfl)) (keepOf keep73) (by kernel_rfl) (by rw [F73_eq]; exact h)

/-- enclave/aterm.regions -/
def F74 (t0 t1 : AV) (σ : AHeap) (k kp : AV → AHeap → Prop) : Prop :=
  stepK (aBox t0 σ) fun t2 σ =>
  stepK (aBox t1 σ) fun t3 σ =>
  stepK (aAlloc [.val (.int .i64 0)] σ) fun t5 σ =>
  stepK (unitR (aStore 1 t5 (.val (Go.Value.int Go.IntKind.i64 0)) σ)) fun _ σ =>
  seqW (fun fr σ => (
  stepK (pureR σ (aFieldAddr 7 (Abs.look fr 2))) fun t11 σ =>
  stepK (pureR σ (aLoad false 1 t11 σ)) fun t12 σ =>
  stepK (pureR σ (aBin .lss .prim t12 (.val (Go.Value.int Go.IntKind.i64 0)))) fun t13 σ =>
  gK t13 false (fun K => stepK (pureR σ (aFieldAddr 0 (Abs.look fr 2))) K) (fun t15 σ =>
  gK t13 false (fun K => stepK (pureR σ (aFieldAddr 0 t15)) K) (fun t16 σ =>
  gK t13 false (fun K => stepK (pureR σ (aLoad false 1 t16 σ)) K) (fun t17 σ =>
  gK t13 false (fun K => stepK (pureR σ (aBin .eql .prim t17 (.val (Go.Value.int Go.IntKind.u8 17)))) K) (fun t18 σ =>
  gK t13 false (fun K => K t18 σ) (fun t19 σ =>
  gK t19 true (fun K => stepK (pureR σ (aFieldAddr 7 (Abs.look fr 2))) K) (fun t20 σ =>
  gK t19 true (fun K => stepK (pureR σ (aLoad false 1 t20 σ)) K) (fun t21 σ =>
  gK t19 true (fun K => stepK (pureR σ (aBin .lss .prim t21 (.val (Go.Value.int Go.IntKind.i64 1)))) K) (fun t22 σ =>
  gK t13 false (fun K => stepK (pureR σ (aPick t19 t22 (.val (Go.Value.bool Bool.false)))) K) (fun t23 σ =>
  stepK (pureR σ (aPick t13 (.val (Go.Value.bool Bool.true)) t23)) fun t24 σ =>
  stepK (pureR σ (aFieldAddr 0 (Abs.look fr 3))) fun t25 σ =>
  stepK (pureR σ (aLoad false 1 t25 σ)) fun t26 σ =>
  stepK (pureR σ (aNot t26)) fun t27 σ =>
  gK t27 true (fun K => stepK (pureR σ (aFieldAddr 7 (Abs.look fr 2))) K) (fun t29 σ =>
  gK t27 true (fun K => stepK (pureR σ (aLoad false 1 t29 σ)) K) (fun t30 σ =>
  gK t27 true (fun K => stepK (pureR σ (aBin .neq .prim t30 (.val (Go.Value.int Go.IntKind.i64 0)))) K) (fun t31 σ =>
  stepK (pureR σ (aPick t27 t31 (.val (Go.Value.bool Bool.false)))) fun t32 σ =>
  gK t32 false (fun K => K t24 σ) (fun t34 σ =>
  stepK (pureR σ (aPick t32 (.val (Go.Value.bool Bool.true)) t34)) fun t35 σ =>
  gK t35 false (fun K => stepK (pureR σ (aFieldAddr 1 (Abs.look fr 3))) K) (fun t37 σ =>
  gK t35 false (fun K => stepK (pureR σ (aLoad false 1 t37 σ)) K) (fun t38 σ =>
  gK t35 false (fun K => stepK (pureR σ (aNot t38)) K) (fun t39 σ =>
  gK t35 false (fun K => K t39 σ) (fun t40 σ =>
  gK t40 true (fun K => stepK (pureR σ (aFieldAddr 8 (Abs.look fr 2))) K) (fun t41 σ =>
  gK t40 true (fun K => stepK (pureR σ (aLoad false 1 t41 σ)) K) (fun t42 σ =>
  gK t40 true (fun K => stepK (pureR σ (aLenK .slice t42 σ)) K) (fun t43 σ =>
  gK t40 true (fun K => stepK (pureR σ (aBin .gtr .prim t43 (.val (Go.Value.int Go.IntKind.i64 0)))) K) (fun t44 σ =>
  gK t35 false (fun K => stepK (pureR σ (aPick t40 t44 (.val (Go.Value.bool Bool.false)))) K) (fun t45 σ =>
  stepK (pureR σ (aPick t35 (.val (Go.Value.bool Bool.true)) t45)) fun t46 σ =>
  condK t46 (
  k (.val (Go.Value.bool Bool.false)) σ
  ) (
  stepK (pureR σ (aFieldAddr 8 (Abs.look fr 2))) fun t47 σ =>
  stepK (pureR σ (aLoad false 1 t47 σ)) fun t48 σ =>
  Ev Go.Proofs.Tryz.prog 115 [t48, (.fn (.func 116) [(Abs.look fr 5)])] σ (fun t50 σ =>
  stepK (pureR σ (aNot t50)) fun t51 σ =>
  k t51 σ
  ) kp)
  ) σ) σ) σ) σ) σ) σ) σ) σ) σ) σ) σ) σ) σ) σ) σ) σ) σ) σ) σ) σ) σ) σ)) (fun j1 => (
  stepK (pureR σ (aFieldAddr 0 t2)) fun t7 σ =>
  stepK (pureR σ (aFieldAddr 0 t7)) fun t8 σ =>
  stepK (pureR σ (aLoad false 1 t8 σ)) fun t9 σ =>
  stepK (pureR σ (aBin .eql .prim t9 (.val (Go.Value.int Go.IntKind.u8 13)))) fun t10 σ =>
  condK t10 (
  stepK (unitR (aStore 1 t5 (.val (Go.Value.int Go.IntKind.i64 1)) σ)) fun _ σ =>
  j1 [(2, t2), (3, t3), (5, t5)] σ
  ) (
  j1 [(2, t2), (3, t3), (5, t5)] σ
  )
  ))
def keep74 : List (Nat × List Nat) := [(0, [2, 3]), (1, [2, 3, 5]), (3005, [2, 3, 5]), (2, [2, 3, 5, 10]), (3, [2, 3, 5]), (4, [2, 3, 5, 6]), (5, [2, 5, 46]), (6, [4]), (7, [4])]
noncomputable def body74 : Code := (Go.Proofs.Tryz.f74).body.getD .skip
theorem F74_eq (t0 t1 : AV) (σ : AHeap) (k kp : AV → AHeap → Prop) : aw Go.Proofs.Tryz.prog (keepOf keep74) body74 (retK Go.Proofs.Tryz.prog (Go.Proofs.Tryz.f74).results.toList k kp) (frameOf 0 [t0, t1]) σ = F74 t0 t1 σ k kp := by kernel_rfl
theorem F74_ev {t0 t1 : AV} {σ : AHeap} {k kp : AV → AHeap → Prop} (h : F74 t0 t1 σ k kp) : Ev Go.Proofs.Tryz.prog 74 [t0, t1] σ k kp :=
  Ev_of_aw mixed Go.Proofs.Tryz.func74 (show (Go.Proofs.Tryz.f74).body = some body74 by kernel_rfl) (by kernel_rfl) (args := [t0, t1]) (of_decide_eq_true (by kernel_rfl)) (keepOf keep74) (by kernel_rfl) (by rw [F74_eq]; exact h)

/-- enclave/aterm.fits -/
def F77 (t0 t1 : AV) (σ : AHeap) (k kp : AV → AHeap → Prop) : Prop :=
  stepK (aBox t1 σ) fun t3 σ =>
  condK t0 (
  stepK (pureR σ (aLoad true 4 t3 σ)) fun t6 σ =>
  stepK (pureR σ (aBuildSl 1 4 [.val (.int .u8 0), .val (.int .i64 0), .val (.slice none 0 0), .val (.slice none 0 0)] [(0, t6)])) fun t7 σ =>
  Ev Go.Proofs.Tryz.prog 122 [t7] σ (fun t8 σ =>
  k t8 σ
  ) kp) (
  stepK (pureR σ (aFieldAddr 0 t3)) fun t9 σ =>
  stepK (pureR σ (aLoad false 1 t9 σ)) fun t10 σ =>
  stepK (pureR σ (aBin .eql .prim t10 (.val (Go.Value.int Go.IntKind.u8 0)))) fun t11 σ =>
  gK t11 true (fun K => stepK (pureR σ (aFieldAddr 1 t3)) K) (fun t13 σ =>
  gK t11 true (fun K => stepK (pureR σ (aLoad false 1 t13 σ)) K) (fun t14 σ =>
  gK t11 true (fun K => stepK (pureR σ (aBin .eql .prim t14 (.val (Go.Value.int Go.IntKind.i64 0)))) K) (fun t15 σ =>
  stepK (pureR σ (aPick t11 t15 (.val (Go.Value.bool Bool.false)))) fun t16 σ =>
  gK t16 true (fun K => stepK (pureR σ (aFieldAddr 2 t3)) K) (fun t18 σ =>
  gK t16 true (fun K => stepK (pureR σ (aLoad false 1 t18 σ)) K) (fun t19 σ =>
  gK t16 true (fun K => stepK (pureR σ (aLenK .slice t19 σ)) K) (fun t20 σ =>
  gK t16 true (fun K => stepK (pureR σ (aFieldAddr 3 t3)) K) (fun t21 σ =>
  gK t16 true (fun K => stepK (pureR σ (aLoad false 1 t21 σ)) K) (fun t22 σ =>
  gK t16 true (fun K => stepK (pureR σ (aLenK .slice t22 σ)) K) (fun t23 σ =>
  gK t16 true (fun K => stepK (pureR σ (aBin .add .prim t20 t23)) K) (fun t24 σ =>
  gK t16 true (fun K => stepK (pureR σ (aBin .eql .prim t24 (.val (Go.Value.int Go.IntKind.i64 0)))) K) (fun t25 σ =>
  stepK (pureR σ (aPick t16 t25 (.val (Go.Value.bool Bool.false)))) fun t26 σ =>
  k t26 σ
  ) σ) σ) σ) σ) σ) σ) σ) σ) σ) σ) σ)
def keep77 : List (Nat × List Nat) := [(0, [0, 3]), (1, [3, 5]), (2, [4]), (4002, [1]), (3, [4])]
noncomputable def body77 : Code := (Go.Proofs.Tryz.f77).body.getD .skip
theorem F77_eq (t0 t1 : AV) (σ : AHeap) (k kp : AV → AHeap → Prop) : aw Go.Proofs.Tryz.prog (keepOf keep77) body77 (retK Go.Proofs.Tryz.prog (Go.Proofs.Tryz.f77).results.toList k kp) (frameOf 0 [t0, t1]) σ = F77 t0 t1 σ k kp := by kernel_rfl
theorem F77_ev {t0 t1 : AV} {σ : AHeap} {k kp : AV → AHeap → Prop} (h : F77 t0 t1 σ k kp) : Ev Go.Proofs.Tryz.prog 77 [t0, t1] σ k kp :=
  Ev_of_aw mixed Go.Proofs.Tryz.func77 (show (Go.Proofs.Tryz.f77).body = some body77 by kernel_rfl) (by kernel_rfl) (args := [t0, t1]) (of_decide_eq_true (by kernel_rfl)) (keepOf keep77) (by kernel_rfl) (by rw [F77_eq]; exact h)

/-- enclave/enclaveref12.left -/
def F112 (t0 t1 : AV) (σ : AHeap) (k kp : AV → AHeap → Prop) : Prop :=
  stepK (aBox t0 σ) fun t2 σ =>
  stepK (pureR σ (aBin .sub .prim t1 (.val (Go.Value.int Go.IntKind.i64 1)))) fun t7 σ =>
  stepK (pureR σ (aFieldAddr 2 t2)) fun t8 σ =>
  stepK (pureR σ (aLoad false 1 t8 σ)) fun t9 σ =>
  Ev Go.Proofs.Tryz.prog 69 [t9] σ (fun t10 σ =>
  condK t10 (
  k (.val (Go.Value.int Go.IntKind.i64 (-1))) σ
  ) (
  seqW (fun fr σ => (
  k (Abs.look fr 1) σ
  )) (fun j1 => (
  loopW (fun fr σ again => (
  stepK (pureR σ (aFieldAddr 3 (Abs.look fr 2))) fun t12 σ =>
  stepK (pureR σ (aLoad false 1 t12 σ)) fun t13 σ =>
  stepK (pureR σ (aLenK .slice t13 σ)) fun t14 σ =>
  stepK (pureR σ (aBin .lss .prim (Abs.look fr 5) t14)) fun t15 σ =>
  gK t15 true (fun K => K (Abs.look fr 1) σ) (fun t17 σ =>
  gK t15 true (fun K => stepK (pureR σ (aBin .geq .prim t17 (.val (Go.Value.int Go.IntKind.i64 0)))) K) (fun t18 σ =>
  stepK (pureR σ (aPick t15 t18 (.val (Go.Value.bool Bool.false)))) fun t19 σ =>
  condK t19 (
  stepK (pureR σ (aFieldAddr 3 (Abs.look fr 2))) fun t22 σ =>
  stepK (pureR σ (aLoad false 1 t22 σ)) fun t23 σ =>
  stepK (pureR σ (aIndexAddr 4 t23 (Abs.look fr 5) σ)) fun t25 σ =>
  stepK (pureR σ (aLoad true 4 t25 σ)) fun t26 σ =>
  Ev Go.Proofs.Tryz.prog 112 [t26, (Abs.look fr 1)] σ (fun t28 σ =>
  stepK (pureR σ (aBin .add .prim (Abs.look fr 5) (.val (Go.Value.int Go.IntKind.i64 1)))) fun t21 σ =>
  again [(1, t28), (2, (Abs.look fr 2)), (5, t21)] σ
  ) kp) (
  j1 [(1, (Abs.look fr 1))] σ
  )
  ) σ) σ)) [(1, t7), (2, t2), (5, (.val (Go.Value.int Go.IntKind.i64 0)))] σ
  ))
  )) kp
def keep112 : List (Nat × List Nat) := [(0, [1, 2]), (1, [1, 2]), (2, [1, 2, 10]), (3, [4]), (3009, [1]), (4, [1, 2, 5]), (5, [1, 2, 5, 19]), (7, [1, 2, 5]), (6, [1, 2, 5]), (1005, [1, 2, 5]), (8, [4])]
noncomputable def body112 : Code := (Go.Proofs.Tryz.f112).body.getD .skip
theorem F112_eq (t0 t1 : AV) (σ : AHeap) (k kp : AV → AHeap → Prop) : aw Go.Proofs.Tryz.prog (keepOf keep112) body112 (retK Go.Proofs.Tryz.prog (Go.Proofs.Tryz.f112).results.toList k kp) (frameOf 0 [t0, t1]) σ = F112 t0 t1 σ k kp := by kernel_rfl
theorem F112_ev {t0 t1 : AV} {σ : AHeap} {k kp : AV → AHeap → Prop} (h : F112 t0 t1 σ k kp) : Ev Go.Proofs.Tryz.prog 112 [t0, t1] σ k kp :=
  Ev_of_aw mixed Go.Proofs.Tryz.func112 (show (Go.Proofs.Tryz.f112).body = some body112 by kernel_rfl) (by kernel_rfl) (args := [t0, t1]) (of_decide_eq_true (by kernel_rfl)) (keepOf keep112) (by kernel_rfl) (by rw [F112_eq]; exact h)

/-- enclave/term.May -/
def F113 (t0 : AV) (σ : AHeap) (k kp : AV → AHeap → Prop) : Prop :=
  stepK (aBox t0 σ) fun t1 σ =>
  stepK (pureR σ (aLoad true 8 t1 σ)) fun t3 σ =>
  stepK (pureR σ (aBuildSl 1 8 [.val (.int .u8 0), .val (.int .u8 0), .val (.int .i64 0), .val (.int .i64 0), .val (.string ByteArray.empty), .val (.string ByteArray.empty), .val (.string ByteArray.empty), .val (.slice none 0 0)] [(0, t3)])) fun t4 σ =>
  Ev Go.Proofs.Tryz.prog 156 [t4] σ (fun t5 σ =>
  stepK (pureR σ (aBin .leq .prim t5 (.val (Go.Value.int Go.IntKind.i64 4000)))) fun t6 σ =>
  gK t6 true (fun K => stepK (pureR σ (aLoad true 8 t1 σ)) K) (fun t8 σ =>
  gK t6 true (fun K => stepK (pureR σ (aBuildSl 1 8 [.val (.int .u8 0), .val (.int .u8 0), .val (.int .i64 0), .val (.int .i64 0), .val (.string ByteArray.empty), .val (.string ByteArray.empty), .val (.string ByteArray.empty), .val (.slice none 0 0)] [(0, t8)])) K) (fun t9 σ =>
  gK t6 true (fun K => Ev Go.Proofs.Tryz.prog 157 [(.fn (.func 158) []), t9] σ K kp) (fun t10 σ =>
  stepK (pureR σ (aPick t6 t10 (.val (Go.Value.bool Bool.false)))) fun t11 σ =>
  k t11 σ) σ) σ) σ) kp
def keep113 : List (Nat × List Nat) := [(0, [1]), (1, [2]), (4001, [1])]
noncomputable def body113 : Code := (Go.Proofs.Tryz.f113).body.getD .skip
theorem F113_eq (t0 : AV) (σ : AHeap) (k kp : AV → AHeap → Prop) : aw Go.Proofs.Tryz.prog (keepOf keep113) body113 (retK Go.Proofs.Tryz.prog (Go.Proofs.Tryz.f113).results.toList k kp) (frameOf 0 [t0]) σ = F113 t0 σ k kp := by kernel_rfl
theorem F113_ev {t0 : AV} {σ : AHeap} {k kp : AV → AHeap → Prop} (h : F113 t0 σ k kp) : Ev Go.Proofs.Tryz.prog 113 [t0] σ k kp :=
  Ev_of_aw mixed Go.Proofs.Tryz.func113 (show (Go.Proofs.Tryz.f113).body = some body113 by kernel_rfl) (by kernel_rfl) (args := [t0]) (of_decide_eq_true (by kernel_rfl)) (keepOf keep113) (by kernel_rfl) (by rw [F113_eq]; exact h)

/-- enclave/aterm.stub -/
def F114 (t0 : AV) (σ : AHeap) (k kp : AV → AHeap → Prop) : Prop :=
  stepK (aBox t0 σ) fun t1 σ =>
  stepK (aAlloc [.val (.int .u8 0), .val (.int .u8 0), .val (.int .i64 0), .val (.int .i64 0), .val (.string ByteArray.empty), .val (.string ByteArray.empty), .val (.string ByteArray.empty), .val (.slice none 0 0)] σ) fun t2 σ =>
  stepK (pureR σ (aFieldAddr 0 t1)) fun t4 σ =>
  stepK (pureR σ (aLoad true 7 t4 σ)) fun t5 σ =>
  stepK (pureR σ (aBuild [.val (.int .u8 0), .val (.int .u8 0), .val (.int .i64 0), .val (.int .i64 0), .val (.string ByteArray.empty), .val (.string ByteArray.empty), .val (.string ByteArray.empty), .val (.slice none 0 0)] [(0, 7, t5)])) fun t6 σ =>
  stepK (aAlloc [.val (.int .u8 0), .val (.int .u8 0), .val (.int .i64 0), .val (.int .i64 0), .val (.string ByteArray.empty), .val (.string ByteArray.empty), .val (.string ByteArray.empty), .val (.slice none 0 0)] σ) fun t3 σ =>
  stepK (unitR (aStore 8 t3 t6 σ)) fun _ σ =>
  seqW (fun fr σ => (
  stepK (pureR σ (aLoad true 8 (Abs.look fr 3) σ)) fun t20 σ =>
  stepK (unitR (aStore 8 (Abs.look fr 2) t20 σ)) fun _ σ =>
  stepV (aLoad true 8 (Abs.look fr 2) σ) fun r0 =>
  k r0 σ
  )) (fun j1 => (
  stepK (pureR σ (aFieldAddr 18 t1)) fun t7 σ =>
  stepK (pureR σ (aLoad false 1 t7 σ)) fun t8 σ =>
  stepK (pureR σ (aLenK .slice t8 σ)) fun t9 σ =>
  loopW (fun fr σ again => (
  stepK (pureR σ (aBin .lss .prim (Abs.look fr 10) (Abs.look fr 9))) fun t11 σ =>
  condK t11 (
  stepK (pureR σ (aFieldAddr 7 (Abs.look fr 3))) fun t12 σ =>
  stepK (pureR σ (aLoad false 1 t12 σ)) fun t13 σ =>
  stepK (pureR σ (aBuild [.val (.int .u8 0), .val (.int .u8 0), .val (.int .i64 0), .val (.int .i64 0), .val (.string ByteArray.empty), .val (.string ByteArray.empty), .val (.string ByteArray.empty)] [(0, 1, (.val (Go.Value.int Go.IntKind.u8 1)))])) fun t14 σ =>
  stepK (pureR σ (aBuild [.val (.int .u8 0), .val (.int .u8 0), .val (.int .i64 0), .val (.int .i64 0), .val (.string ByteArray.empty), .val (.string ByteArray.empty), .val (.string ByteArray.empty), .val (.slice none 0 0)] [(0, 7, t14)])) fun t15 σ =>
  stepK (pureR σ (aBuildSl 1 8 [.val (.int .u8 0), .val (.int .u8 0), .val (.int .i64 0), .val (.int .i64 0), .val (.string ByteArray.empty), .val (.string ByteArray.empty), .val (.string ByteArray.empty), .val (.slice none 0 0)] [(0, t15)])) fun t16 σ =>
  stepK (aAppend 8 96 t13 t16 σ) fun t17 σ =>
  stepK (pureR σ (aFieldAddr 7 (Abs.look fr 3))) fun t18 σ =>
  stepK (unitR (aStore 1 t18 t17 σ)) fun _ σ =>
  stepK (pureR σ (aBin .add .prim (Abs.look fr 10) (.val (Go.Value.int Go.IntKind.i64 1)))) fun t19 σ =>
  again [(2, (Abs.look fr 2)), (3, (Abs.look fr 3)), (9, (Abs.look fr 9)), (10, t19)] σ
  ) (
  j1 [(2, (Abs.look fr 2)), (3, (Abs.look fr 3))] σ
  )
  )) [(2, t2), (3, t3), (9, t9), (10, (.val (Go.Value.int Go.IntKind.i64 0)))] σ
  ))
def keep114 : List (Nat × List Nat) := [(0, [1, 2]), (1, [1, 2, 3]), (3007, [2, 3]), (2, [2, 3, 9, 10]), (3, [2, 3, 9, 10, 11]), (4, [2, 3, 9, 10]), (4004, [1]), (5, [2, 3, 9, 10]), (1003, [2, 3, 9, 10]), (6, [2])]
noncomputable def body114 : Code := (Go.Proofs.Tryz.f114).body.getD .skip
theorem F114_eq (t0 : AV) (σ : AHeap) (k kp : AV → AHeap → Prop) : aw Go.Proofs.Tryz.prog (keepOf keep114) body114 (retK Go.Proofs.Tryz.prog (Go.Proofs.Tryz.f114).results.toList k kp) (frameOf 0 [t0]) σ = F114 t0 σ k kp := by kernel_rfl
theorem F114_ev {t0 : AV} {σ : AHeap} {k kp : AV → AHeap → Prop} (h : F114 t0 σ k kp) : Ev Go.Proofs.Tryz.prog 114 [t0] σ k kp :=
  Ev_of_aw mixed Go.Proofs.Tryz.func114 (show (Go.Proofs.Tryz.f114).body = some body114 by kernel_rfl) (by kernel_rfl) (args := [t0]) (of_decide_eq_true (by kernel_rfl)) (keepOf keep114) (by kernel_rfl) (by rw [F114_eq]; exact h)

/-- slices.ContainsFunc[[]int,int] -/
def F115 (t0 t1 : AV) (σ : AHeap) (k kp : AV → AHeap → Prop) : Prop :=
  Ev Go.Proofs.Tryz.prog 159 [t0, t1] σ (fun t7 σ =>
  stepK (pureR σ (aBin .geq .prim t7 (.val (Go.Value.int Go.IntKind.i64 0)))) fun t8 σ =>
  k t8 σ) kp
def keep115 : List (Nat × List Nat) := [(0, [0, 1]), (1, [4])]
noncomputable def body115 : Code := (Go.Proofs.Tryz.f115).body.getD .skip
theorem F115_eq (t0 t1 : AV) (σ : AHeap) (k kp : AV → AHeap → Prop) : aw Go.Proofs.Tryz.prog (keepOf keep115) body115 (retK Go.Proofs.Tryz.prog (Go.Proofs.Tryz.f115).results.toList k kp) (frameOf 0 [t0, t1]) σ = F115 t0 t1 σ k kp := by kernel_rfl
theorem F115_ev {t0 t1 : AV} {σ : AHeap} {k kp : AV → AHeap → Prop} (h : F115 t0 t1 σ k kp) : Ev Go.Proofs.Tryz.prog 115 [t0, t1] σ k kp :=
  Ev_of_aw mixed Go.Proofs.Tryz.func115 (show (Go.Proofs.Tryz.f115).body = some body115 by kernel_rfl) (by kernel_rfl) (args := [t0, t1]) (of_decide_eq_true (by kernel_rfl)) (keepOf keep115) (by kernel_rfl) (by rw [F115_eq]; exact h)

/-- enclave/aterm.regions$1 -/
def F116 (t0 t1 : AV) (σ : AHeap) (k kp : AV → AHeap → Prop) : Prop :=
  stepK (pureR σ (aLoad false 1 t1 σ)) fun t5 σ =>
  stepK (pureR σ (aBin .lss .prim t0 t5)) fun t6 σ =>
  k t6 σ
def keep116 : List (Nat × List Nat) := [(0, [0, 1]), (1, [3])]
noncomputable def body116 : Code := (Go.Proofs.Tryz.f116).body.getD .skip
theorem F116_eq (t0 t1 : AV) (σ : AHeap) (k kp : AV → AHeap → Prop) : aw Go.Proofs.Tryz.prog (keepOf keep116) body116 (retK Go.Proofs.Tryz.prog (Go.Proofs.Tryz.f116).results.toList k kp) (frameOf 0 [t0, t1]) σ = F116 t0 t1 σ k kp := by kernel_rfl
theorem F116_ev {t0 t1 : AV} {σ : AHeap} {k kp : AV → AHeap → Prop} (h : F116 t0 t1 σ k kp) : Ev Go.Proofs.Tryz.prog 116 [t0, t1] σ k kp :=
  Ev_of_aw mixed Go.Proofs.Tryz.func116 (show (Go.Proofs.Tryz.f116).body = some body116 by kernel_rfl) (by kernel_rfl) (args := [t0, t1]) (of_decide_eq_true (by kernel_rfl)) (keepOf keep116) (by kernel_rfl) (by rw [F116_eq]; exact h)

/-- enclave/term.Size -/
def F156 (t0 : AV) (σ : AHeap) (k kp : AV → AHeap → Prop) : Prop :=
  stepK (aAlloc [.val (.int .i64 0)] σ) fun t3 σ =>
  stepK (unitR (aStore 1 t3 (.val (Go.Value.int Go.IntKind.i64 0)) σ)) fun _ σ =>
  Ev Go.Proofs.Tryz.prog 157 [(.fn (.func 178) [t3]), t0] σ (fun t6 σ =>
  stepK (pureR σ (aLoad false 1 t3 σ)) fun t7 σ =>
  k t7 σ) kp
def keep156 : List (Nat × List Nat) := [(0, [0]), (1, [0, 3]), (2, [3]), (3, [2])]
noncomputable def body156 : Code := (Go.Proofs.Tryz.f156).body.getD .skip
theorem F156_eq (t0 : AV) (σ : AHeap) (k kp : AV → AHeap → Prop) : aw Go.Proofs.Tryz.prog (keepOf keep156) body156 (retK Go.Proofs.Tryz.prog (Go.Proofs.Tryz.f156).results.toList k kp) (frameOf 0 [t0]) σ = F156 t0 σ k kp := by kernel_rfl
theorem F156_ev {t0 : AV} {σ : AHeap} {k kp : AV → AHeap → Prop} (h : F156 t0 σ k kp) : Ev Go.Proofs.Tryz.prog 156 [t0] σ k kp :=
  Ev_of_aw mixed Go.Proofs.Tryz.func156 (show (Go.Proofs.Tryz.f156).body = some body156 by kernel_rfl) (by kernel_rfl) (args := [t0]) (of_decide_eq_true (by kernel_rfl)) (keepOf keep156) (by kernel_rfl) (by rw [F156_eq]; exact h)

/-- enclave/term.each -/
def F157 (t0 t1 : AV) (σ : AHeap) (k kp : AV → AHeap → Prop) : Prop :=
  seqW (fun fr σ => (
  k (.val (Go.Value.bool Bool.true)) σ
  )) (fun j1 => (
  stepK (pureR σ (aLenK .slice t1 σ)) fun t8 σ =>
  loopW (fun fr σ again => (
  stepK (pureR σ (aBin .lss .prim (Abs.look fr 9) (Abs.look fr 8))) fun t10 σ =>
  condK t10 (
  stepK (pureR σ (aIndexAddr 8 (Abs.look fr 7) (Abs.look fr 9) σ)) fun t11 σ =>
  stepK (pureR σ (aLoad true 8 t11 σ)) fun t12 σ =>
  stepK (aAlloc [.val (.int .u8 0), .val (.int .u8 0), .val (.int .i64 0), .val (.int .i64 0), .val (.string ByteArray.empty), .val (.string ByteArray.empty), .val (.string ByteArray.empty), .val (.slice none 0 0)] σ) fun t6 σ =>
  stepK (unitR (aStore 8 t6 t12 σ)) fun _ σ =>
  stepK (pureR σ (aLoad true 8 t6 σ)) fun t14 σ =>
  callK Go.Proofs.Tryz.prog (Abs.look fr 0) [t14] σ (fun t15 σ =>
  stepK (pureR σ (aNot t15)) fun t16 σ =>
  gK t16 false (fun K => K (Abs.look fr 0) σ) (fun t18 σ =>
  gK t16 false (fun K => stepK (pureR σ (aFieldAddr 7 t6)) K) (fun t19 σ =>
  gK t16 false (fun K => stepK (pureR σ (aLoad false 1 t19 σ)) K) (fun t20 σ =>
  gK t16 false (fun K => Ev Go.Proofs.Tryz.prog 157 [t18, t20] σ K kp) (fun t21 σ =>
  gK t16 false (fun K => stepK (pureR σ (aNot t21)) K) (fun t22 σ =>
  stepK (pureR σ (aPick t16 (.val (Go.Value.bool Bool.true)) t22)) fun t23 σ =>
  condK t23 (
  k (.val (Go.Value.bool Bool.false)) σ
  ) (
  stepK (pureR σ (aBin .add .prim (Abs.look fr 9) (.val (Go.Value.int Go.IntKind.i64 1)))) fun t24 σ =>
  again [(0, (Abs.look fr 0)), (7, (Abs.look fr 7)), (8, (Abs.look fr 8)), (9, t24)] σ
  )
  ) σ) σ) σ) σ) σ) kp) (
  j1 [(0, (Abs.look fr 0))] σ
  )
  )) [(0, t0), (7, t1), (8, t8), (9, (.val (Go.Value.int Go.IntKind.i64 0)))] σ
  ))
def keep157 : List (Nat × List Nat) := [(0, [0, 1]), (3008, [0]), (1, [0, 7, 8, 9]), (2, [0, 7, 8, 9, 10]), (3, [0, 6, 7, 8, 9]), (4, [0, 7, 8, 9, 23]), (5, [4]), (6, [0, 7, 8, 9]), (1002, [0, 7, 8, 9]), (7, [4])]
noncomputable def body157 : Code := (Go.Proofs.Tryz.f157).body.getD .skip
theorem F157_eq (t0 t1 : AV) (σ : AHeap) (k kp : AV → AHeap → Prop) : aw Go.Proofs.Tryz.prog (keepOf keep157) body157 (retK Go.Proofs.Tryz.prog (Go.Proofs.Tryz.f157).results.toList k kp) (frameOf 0 [t0, t1]) σ = F157 t0 t1 σ k kp := by kernel_rfl
theorem F157_ev {t0 t1 : AV} {σ : AHeap} {k kp : AV → AHeap → Prop} (h : F157 t0 t1 σ k kp) : Ev Go.Proofs.Tryz.prog 157 [t0, t1] σ k kp :=
  Ev_of_aw mixed Go.Proofs.Tryz.func157 (show (Go.Proofs.Tryz.f157).body = some body157 by kernel_rfl) (by kernel_rfl) (args := [t0, t1]) (of_decide_eq_true (by kernel_rfl)) (keepOf keep157) (by kernel_rfl) (by rw [F157_eq]; exact h)

/-- enclave/term.node -/
def F158 (t0 : AV) (σ : AHeap) (k kp : AV → AHeap → Prop) : Prop :=
  stepK (aBox t0 σ) fun t1 σ =>
  Ev Go.Proofs.Tryz.prog 179 [] σ (fun t6 σ =>
  stepK (pureR σ (aFieldAddr 0 t1)) fun t7 σ =>
  stepK (pureR σ (aFieldAddr 0 t7)) fun t8 σ =>
  stepK (pureR σ (aLoad false 1 t8 σ)) fun t9 σ =>
  stepK (pureR σ (aBin .lss .prim t9 (.val (Go.Value.int Go.IntKind.u8 1)))) fun t10 σ =>
  gK t10 false (fun K => stepK (pureR σ (aFieldAddr 0 t1)) K) (fun t12 σ =>
  gK t10 false (fun K => stepK (pureR σ (aFieldAddr 0 t12)) K) (fun t13 σ =>
  gK t10 false (fun K => stepK (pureR σ (aLoad false 1 t13 σ)) K) (fun t14 σ =>
  gK t10 false (fun K => stepK (pureR σ (aConv (.int .i64) t14)) K) (fun t15 σ =>
  gK t10 false (fun K => K t6 σ) (fun t16 σ =>
  gK t10 false (fun K => stepK (pureR σ (aLenK .slice t16 σ)) K) (fun t17 σ =>
  gK t10 false (fun K => stepK (pureR σ (aBin .gtr .prim t15 t17)) K) (fun t18 σ =>
  stepK (pureR σ (aPick t10 (.val (Go.Value.bool Bool.true)) t18)) fun t19 σ =>
  gK t19 false (fun K => stepK (pureR σ (aFieldAddr 0 t1)) K) (fun t21 σ =>
  gK t19 false (fun K => stepK (pureR σ (aFieldAddr 2 t21)) K) (fun t22 σ =>
  gK t19 false (fun K => stepK (pureR σ (aLoad false 1 t22 σ)) K) (fun t23 σ =>
  gK t19 false (fun K => stepK (pureR σ (aBin .lss .prim t23 (.val (Go.Value.int Go.IntKind.i64 0)))) K) (fun t24 σ =>
  stepK (pureR σ (aPick t19 (.val (Go.Value.bool Bool.true)) t24)) fun t25 σ =>
  condK t25 (
  k (.val (Go.Value.bool Bool.false)) σ
  ) (
  stepK (pureR σ (aFieldAddr 0 t1)) fun t27 σ =>
  stepK (pureR σ (aFieldAddr 0 t27)) fun t28 σ =>
  stepK (pureR σ (aLoad false 1 t28 σ)) fun t29 σ =>
  stepK (pureR σ (aBin .sub .prim t29 (.val (Go.Value.int Go.IntKind.u8 1)))) fun t30 σ =>
  stepK (pureR σ (aIndexAddr 2 t6 t30 σ)) fun t31 σ =>
  stepK (pureR σ (aLoad true 2 t31 σ)) fun t32 σ =>
  stepK (aAlloc [.val (.int .i64 0), .val (.string ByteArray.empty)] σ) fun t4 σ =>
  stepK (unitR (aStore 2 t4 t32 σ)) fun _ σ =>
  stepK (pureR σ (aFieldAddr 0 t1)) fun t33 σ =>
  stepK (pureR σ (aFieldAddr 1 t33)) fun t34 σ =>
  stepK (pureR σ (aLoad false 1 t34 σ)) fun t35 σ =>
  stepK (pureR σ (aBin .geq .prim t35 (.val (Go.Value.int Go.IntKind.u8 1)))) fun t36 σ =>
  gK t36 true (fun K => stepK (pureR σ (aFieldAddr 0 t1)) K) (fun t38 σ =>
  gK t36 true (fun K => stepK (pureR σ (aFieldAddr 1 t38)) K) (fun t39 σ =>
  gK t36 true (fun K => stepK (pureR σ (aLoad false 1 t39 σ)) K) (fun t40 σ =>
  gK t36 true (fun K => stepK (pureR σ (aBin .leq .prim t40 (.val (Go.Value.int Go.IntKind.u8 5)))) K) (fun t41 σ =>
  stepK (pureR σ (aPick t36 t41 (.val (Go.Value.bool Bool.false)))) fun t42 σ =>
  seqW (fun fr σ => (
  condK (Abs.look fr 43) (
  k (.val (Go.Value.bool Bool.false)) σ
  ) (
  stepK (pureR σ (aFieldAddr 0 (Abs.look fr 1))) fun t68 σ =>
  stepK (pureR σ (aFieldAddr 3 t68)) fun t69 σ =>
  stepK (pureR σ (aLoad false 1 t69 σ)) fun t70 σ =>
  stepK (pureR σ (aBin .lss .prim t70 (.val (Go.Value.int Go.IntKind.i64 0)))) fun t71 σ =>
  gK t71 false (fun K => stepK (pureR σ (aFieldAddr 0 (Abs.look fr 1))) K) (fun t73 σ =>
  gK t71 false (fun K => stepK (pureR σ (aFieldAddr 3 t73)) K) (fun t74 σ =>
  gK t71 false (fun K => stepK (pureR σ (aLoad false 1 t74 σ)) K) (fun t75 σ =>
  gK t71 false (fun K => stepK (pureR σ (aBin .gtr .prim t75 (.val (Go.Value.int Go.IntKind.i64 2147483647)))) K) (fun t76 σ =>
  stepK (pureR σ (aPick t71 (.val (Go.Value.bool Bool.true)) t76)) fun t77 σ =>
  gK t77 false (fun K => stepK (pureR σ (aLoad true 2 (Abs.look fr 4) σ)) K) (fun t79 σ =>
  gK t77 false (fun K => Ev Go.Proofs.Tryz.prog 180 [t79, (.val (Go.Value.int Go.IntKind.u8 110))] σ K kp) (fun t80 σ =>
  gK t77 false (fun K => stepK (pureR σ (aNot t80)) K) (fun t81 σ =>
  gK t77 false (fun K => K t81 σ) (fun t82 σ =>
  gK t82 true (fun K => stepK (pureR σ (aFieldAddr 0 (Abs.look fr 1))) K) (fun t83 σ =>
  gK t82 true (fun K => stepK (pureR σ (aFieldAddr 3 t83)) K) (fun t84 σ =>
  gK t82 true (fun K => stepK (pureR σ (aLoad false 1 t84 σ)) K) (fun t85 σ =>
  gK t82 true (fun K => stepK (pureR σ (aBin .neq .prim t85 (.val (Go.Value.int Go.IntKind.i64 0)))) K) (fun t86 σ =>
  gK t77 false (fun K => stepK (pureR σ (aPick t82 t86 (.val (Go.Value.bool Bool.false)))) K) (fun t87 σ =>
  stepK (pureR σ (aPick t77 (.val (Go.Value.bool Bool.true)) t87)) fun t88 σ =>
  condK t88 (
  k (.val (Go.Value.bool Bool.false)) σ
  ) (
  stepK (pureR σ (aLoad true 2 (Abs.look fr 4) σ)) fun t89 σ =>
  stepK (pureR σ (aFieldAddr 0 (Abs.look fr 1))) fun t90 σ =>
  stepK (pureR σ (aFieldAddr 4 t90)) fun t91 σ =>
  stepK (pureR σ (aLoad false 1 t91 σ)) fun t92 σ =>
  Ev Go.Proofs.Tryz.prog 181 [t89, (.val (Go.Value.int Go.IntKind.u8 109)), t92, (.fn (.func 182) [])] σ (fun t93 σ =>
  gK t93 true (fun K => stepK (pureR σ (aLoad true 2 (Abs.look fr 4) σ)) K) (fun t95 σ =>
  gK t93 true (fun K => stepK (pureR σ (aFieldAddr 0 (Abs.look fr 1))) K) (fun t96 σ =>
  gK t93 true (fun K => stepK (pureR σ (aFieldAddr 5 t96)) K) (fun t97 σ =>
  gK t93 true (fun K => stepK (pureR σ (aLoad false 1 t97 σ)) K) (fun t98 σ =>
  gK t93 true (fun K => Ev Go.Proofs.Tryz.prog 181 [t95, (.val (Go.Value.int Go.IntKind.u8 97)), t98, (.fn (.func 182) [])] σ K kp) (fun t99 σ =>
  stepK (pureR σ (aPick t93 t99 (.val (Go.Value.bool Bool.false)))) fun t100 σ =>
  gK t100 true (fun K => stepK (pureR σ (aLoad true 2 (Abs.look fr 4) σ)) K) (fun t102 σ =>
  gK t100 true (fun K => stepK (pureR σ (aFieldAddr 0 (Abs.look fr 1))) K) (fun t103 σ =>
  gK t100 true (fun K => stepK (pureR σ (aFieldAddr 6 t103)) K) (fun t104 σ =>
  gK t100 true (fun K => stepK (pureR σ (aLoad false 1 t104 σ)) K) (fun t105 σ =>
  gK t100 true (fun K => Ev Go.Proofs.Tryz.prog 181 [t102, (.val (Go.Value.int Go.IntKind.u8 101)), t105, (.fn (.func 163) [])] σ K kp) (fun t106 σ =>
  stepK (pureR σ (aPick t100 t106 (.val (Go.Value.bool Bool.false)))) fun t107 σ =>
  k t107 σ
  ) σ) σ) σ) σ) σ) σ) σ) σ) σ) σ) kp)
  ) σ) σ) σ) σ) σ) σ) σ) σ) σ) σ) σ) σ) σ)
  )) (fun j1 => (
  stepK (pureR σ (aFieldAddr 7 t1)) fun t44 σ =>
  stepK (pureR σ (aLoad false 1 t44 σ)) fun t45 σ =>
  stepK (pureR σ (aLenK .slice t45 σ)) fun t46 σ =>
  stepK (pureR σ (aFieldAddr 0 t4)) fun t47 σ =>
  stepK (pureR σ (aLoad false 1 t47 σ)) fun t48 σ =>
  stepK (pureR σ (aBin .neq .prim t46 t48)) fun t49 σ =>
  condK t49 (
  j1 [(1, t1), (4, t4), (43, t49)] σ
  ) (
  stepK (pureR σ (aLoad true 2 t4 σ)) fun t50 σ =>
  Ev Go.Proofs.Tryz.prog 180 [t50, (.val (Go.Value.int Go.IntKind.u8 111))] σ (fun t51 σ =>
  gK t51 true (fun K => K t42 σ) (fun t53 σ =>
  gK t51 true (fun K => stepK (pureR σ (aNot t53)) K) (fun t54 σ =>
  stepK (pureR σ (aPick t51 t54 (.val (Go.Value.bool Bool.false)))) fun t55 σ =>
  gK t55 false (fun K => stepK (pureR σ (aLoad true 2 t4 σ)) K) (fun t57 σ =>
  gK t55 false (fun K => Ev Go.Proofs.Tryz.prog 180 [t57, (.val (Go.Value.int Go.IntKind.u8 111))] σ K kp) (fun t58 σ =>
  gK t55 false (fun K => stepK (pureR σ (aNot t58)) K) (fun t59 σ =>
  gK t55 false (fun K => K t59 σ) (fun t60 σ =>
  gK t60 true (fun K => stepK (pureR σ (aFieldAddr 0 t1)) K) (fun t61 σ =>
  gK t60 true (fun K => stepK (pureR σ (aFieldAddr 1 t61)) K) (fun t62 σ =>
  gK t60 true (fun K => stepK (pureR σ (aLoad false 1 t62 σ)) K) (fun t63 σ =>
  gK t60 true (fun K => stepK (pureR σ (aBin .neq .prim t63 (.val (Go.Value.int Go.IntKind.u8 0)))) K) (fun t64 σ =>
  gK t55 false (fun K => stepK (pureR σ (aPick t60 t64 (.val (Go.Value.bool Bool.false)))) K) (fun t65 σ =>
  stepK (pureR σ (aPick t55 (.val (Go.Value.bool Bool.true)) t65)) fun t66 σ =>
  j1 [(1, t1), (4, t4), (43, t66)] σ
  ) σ) σ) σ) σ) σ) σ) σ) σ) σ) σ) σ) kp)
  ))
  ) σ) σ) σ) σ)) σ) σ) σ) σ) σ) σ) σ) σ) σ) σ) σ) kp
def keep158 : List (Nat × List Nat) := [(0, [1]), (1, [1, 3]), (2, [1, 3, 25]), (3, [2]), (4, [1, 4]), (5, [1, 4, 5]), (3009, [1, 4, 43]), (6, [1, 4, 5, 43]), (7, [1, 4, 43]), (8, [2]), (9, [1, 4, 67]), (10, [2]), (11, [2])]
noncomputable def body158 : Code := (Go.Proofs.Tryz.f158).body.getD .skip
theorem F158_eq (t0 : AV) (σ : AHeap) (k kp : AV → AHeap → Prop) : aw Go.Proofs.Tryz.prog (keepOf keep158) body158 (retK Go.Proofs.Tryz.prog (Go.Proofs.Tryz.f158).results.toList k kp) (frameOf 0 [t0]) σ = F158 t0 σ k kp := by kernel_rfl
theorem F158_ev {t0 : AV} {σ : AHeap} {k kp : AV → AHeap → Prop} (h : F158 t0 σ k kp) : Ev Go.Proofs.Tryz.prog 158 [t0] σ k kp :=
  Ev_of_aw mixed Go.Proofs.Tryz.func158 (show (Go.Proofs.Tryz.f158).body = some body158 by kernel_rfl) (by kernel_rfl) (args := [t0]) (of_decide_eq_true (by kernel_rfl)) (keepOf keep158) (by kernel_rfl) (by rw [F158_eq]; exact h)

/-- slices.IndexFunc[[]int,int] -/
def F159 (t0 t1 : AV) (σ : AHeap) (k kp : AV → AHeap → Prop) : Prop :=
  seqW (fun fr σ => (
  k (.val (Go.Value.int Go.IntKind.i64 (-1))) σ
  )) (fun j1 => (
  stepK (pureR σ (aLenK .slice t0 σ)) fun t7 σ =>
  loopW (fun fr σ again => (
  stepK (pureR σ (aBin .lss .prim (Abs.look fr 8) (Abs.look fr 7))) fun t9 σ =>
  condK t9 (
  stepK (pureR σ (aIndexAddr 1 (Abs.look fr 0) (Abs.look fr 8) σ)) fun t14 σ =>
  stepK (pureR σ (aLoad false 1 t14 σ)) fun t15 σ =>
  callK Go.Proofs.Tryz.prog (Abs.look fr 1) [t15] σ (fun t16 σ =>
  condK t16 (
  k (Abs.look fr 8) σ
  ) (
  stepK (pureR σ (aBin .add .prim (Abs.look fr 8) (.val (Go.Value.int Go.IntKind.i64 1)))) fun t18 σ =>
  again [(0, (Abs.look fr 0)), (1, (Abs.look fr 1)), (7, (Abs.look fr 7)), (8, t18)] σ
  )
  ) kp) (
  j1 [(0, (Abs.look fr 0))] σ
  )
  )) [(0, t0), (1, t1), (7, t7), (8, (.val (Go.Value.int Go.IntKind.i64 0)))] σ
  ))
def keep159 : List (Nat × List Nat) := [(0, [0, 1]), (3008, [0]), (1, [0, 1, 7, 8]), (2, [0, 1, 7, 8, 9]), (3, [0, 1, 5, 7, 8]), (4, [0, 1, 5, 7, 8, 16]), (5, [4]), (6, [0, 1, 7, 8]), (1002, [0, 1, 7, 8]), (7, [4])]
noncomputable def body159 : Code := (Go.Proofs.Tryz.f159).body.getD .skip
theorem F159_eq (t0 t1 : AV) (σ : AHeap) (k kp : AV → AHeap → Prop) : aw Go.Proofs.Tryz.prog (keepOf keep159) body159 (retK Go.Proofs.Tryz.prog (Go.Proofs.Tryz.f159).results.toList k kp) (frameOf 0 [t0, t1]) σ = F159 t0 t1 σ k kp := by kernel_rfl
theorem F159_ev {t0 t1 : AV} {σ : AHeap} {k kp : AV → AHeap → Prop} (h : F159 t0 t1 σ k kp) : Ev Go.Proofs.Tryz.prog 159 [t0, t1] σ k kp :=
  Ev_of_aw mixed Go.Proofs.Tryz.func159 (show (Go.Proofs.Tryz.f159).body = some body159 by kernel_rfl) (by kernel_rfl) (args := [t0, t1]) (of_decide_eq_true (by kernel_rfl)) (keepOf keep159) (by kernel_rfl) (by rw [F159_eq]; exact h)

/-- enclave/term.Size$1 -/
def F178 (t0 t1 : AV) (σ : AHeap) (k kp : AV → AHeap → Prop) : Prop :=
  stepK (aBox t0 σ) fun t2 σ =>
  stepK (pureR σ (aLoad false 1 t1 σ)) fun t4 σ =>
  stepK (pureR σ (aBin .add .prim t4 (.val (Go.Value.int Go.IntKind.i64 1)))) fun t5 σ =>
  stepK (unitR (aStore 1 t1 t5 σ)) fun _ σ =>
  k (.val (Go.Value.bool Bool.true)) σ
def keep178 : List (Nat × List Nat) := [(0, [1]), (1, []), (2, [3])]
noncomputable def body178 : Code := (Go.Proofs.Tryz.f178).body.getD .skip
theorem F178_eq (t0 t1 : AV) (σ : AHeap) (k kp : AV → AHeap → Prop) : aw Go.Proofs.Tryz.prog (keepOf keep178) body178 (retK Go.Proofs.Tryz.prog (Go.Proofs.Tryz.f178).results.toList k kp) (frameOf 0 [t0, t1]) σ = F178 t0 t1 σ k kp := by kernel_rfl
theorem F178_ev {t0 t1 : AV} {σ : AHeap} {k kp : AV → AHeap → Prop} (h : F178 t0 t1 σ k kp) : Ev Go.Proofs.Tryz.prog 178 [t0, t1] σ k kp :=
  Ev_of_aw mixed Go.Proofs.Tryz.func178 (show (Go.Proofs.Tryz.f178).body = some body178 by kernel_rfl) (by kernel_rfl) (args := [t0, t1]) (of_decide_eq_true (by kernel_rfl)) (keepOf keep178) (by kernel_rfl) (by rw [F178_eq]; exact h)

/-- enclave/term.shapes -/
def F179 (σ : AHeap) (k kp : AV → AHeap → Prop) : Prop :=
  stepK (pureR σ (aBuild [.val (.int .i64 0), .val (.string ByteArray.empty)] [(0, 1, (.val (Go.Value.int Go.IntKind.i64 0))), (1, 1, (.val (Go.Value.string { data := #[110] })))])) fun t1 σ =>
  stepK (pureR σ (aBuild [.val (.int .i64 0), .val (.string ByteArray.empty)] [(0, 1, (.val (Go.Value.int Go.IntKind.i64 0))), (1, 1, (.val (Go.Value.string { data := #[109] })))])) fun t2 σ =>
  stepK (pureR σ (aBuild [.val (.int .i64 0), .val (.string ByteArray.empty)] [(0, 1, (.val (Go.Value.int Go.IntKind.i64 2))), (1, 1, (.val (Go.Value.string { data := #[] })))])) fun t3 σ =>
  stepK (pureR σ (aBuild [.val (.int .i64 0), .val (.string ByteArray.empty)] [(0, 1, (.val (Go.Value.int Go.IntKind.i64 1))), (1, 1, (.val (Go.Value.string { data := #[] })))])) fun t4 σ =>
  stepK (pureR σ (aBuild [.val (.int .i64 0), .val (.string ByteArray.empty)] [(0, 1, (.val (Go.Value.int Go.IntKind.i64 1))), (1, 1, (.val (Go.Value.string { data := #[] })))])) fun t5 σ =>
  stepK (pureR σ (aBuild [.val (.int .i64 0), .val (.string ByteArray.empty)] [(0, 1, (.val (Go.Value.int Go.IntKind.i64 1))), (1, 1, (.val (Go.Value.string { data := #[] })))])) fun t6 σ =>
  stepK (pureR σ (aBuild [.val (.int .i64 0), .val (.string ByteArray.empty)] [(0, 1, (.val (Go.Value.int Go.IntKind.i64 1))), (1, 1, (.val (Go.Value.string { data := #[] })))])) fun t7 σ =>
  stepK (pureR σ (aBuild [.val (.int .i64 0), .val (.string ByteArray.empty)] [(0, 1, (.val (Go.Value.int Go.IntKind.i64 2))), (1, 1, (.val (Go.Value.string { data := #[] })))])) fun t8 σ =>
  stepK (pureR σ (aBuild [.val (.int .i64 0), .val (.string ByteArray.empty)] [(0, 1, (.val (Go.Value.int Go.IntKind.i64 2))), (1, 1, (.val (Go.Value.string { data := #[111] })))])) fun t9 σ =>
  stepK (pureR σ (aBuild [.val (.int .i64 0), .val (.string ByteArray.empty)] [(0, 1, (.val (Go.Value.int Go.IntKind.i64 2))), (1, 1, (.val (Go.Value.string { data := #[] })))])) fun t10 σ =>
  stepK (pureR σ (aBuild [.val (.int .i64 0), .val (.string ByteArray.empty)] [(0, 1, (.val (Go.Value.int Go.IntKind.i64 1))), (1, 1, (.val (Go.Value.string { data := #[97] })))])) fun t11 σ =>
  stepK (pureR σ (aBuild [.val (.int .i64 0), .val (.string ByteArray.empty)] [(0, 1, (.val (Go.Value.int Go.IntKind.i64 2))), (1, 1, (.val (Go.Value.string { data := #[109] })))])) fun t12 σ =>
  stepK (pureR σ (aBuild [.val (.int .i64 0), .val (.string ByteArray.empty)] [(0, 1, (.val (Go.Value.int Go.IntKind.i64 2))), (1, 1, (.val (Go.Value.string { data := #[109, 97] })))])) fun t13 σ =>
  stepK (pureR σ (aBuild [.val (.int .i64 0), .val (.string ByteArray.empty)] [(0, 1, (.val (Go.Value.int Go.IntKind.i64 3))), (1, 1, (.val (Go.Value.string { data := #[] })))])) fun t14 σ =>
  stepK (pureR σ (aBuild [.val (.int .i64 0), .val (.string ByteArray.empty)] [(0, 1, (.val (Go.Value.int Go.IntKind.i64 1))), (1, 1, (.val (Go.Value.string { data := #[101] })))])) fun t15 σ =>
  stepK (pureR σ (aBuild [.val (.int .i64 0), .val (.string ByteArray.empty)] [(0, 1, (.val (Go.Value.int Go.IntKind.i64 2))), (1, 1, (.val (Go.Value.string { data := #[101, 97] })))])) fun t16 σ =>
  stepK (pureR σ (aBuildSl 16 2 [.val (.int .i64 0), .val (.string ByteArray.empty)] [(0, t1), (1, t2), (2, t3), (3, t4), (4, t5), (5, t6), (6, t7), (7, t8), (8, t9), (9, t10), (10, t11), (11, t12), (12, t13), (13, t14), (14, t15), (15, t16)])) fun t17 σ =>
  k t17 σ
def keep179 : List (Nat × List Nat) := [(0, []), (1, [0]), (4001, [1])]
noncomputable def body179 : Code := (Go.Proofs.Tryz.f179).body.getD .skip
theorem F179_eq (σ : AHeap) (k kp : AV → AHeap → Prop) : aw Go.Proofs.Tryz.prog (keepOf keep179) body179 (retK Go.Proofs.Tryz.prog (Go.Proofs.Tryz.f179).results.toList k kp) (frameOf 0 []) σ = F179 σ k kp := by kernel_rfl
theorem F179_ev {σ : AHeap} {k kp : AV → AHeap → Prop} (h : F179 σ k kp) : Ev Go.Proofs.Tryz.prog 179 [] σ k kp :=
  Ev_of_aw mixed Go.Proofs.Tryz.func179 (show (Go.Proofs.Tryz.f179).body = some body179 by kernel_rfl) (by kernel_rfl) (args := []) (of_decide_eq_true (by kernel_rfl)) (keepOf keep179) (by kernel_rfl) (by rw [F179_eq]; exact h)

/-- (enclave/term.shape).has -/
def F180 (t0 t1 : AV) (σ : AHeap) (k kp : AV → AHeap → Prop) : Prop :=
  stepK (aBox t0 σ) fun t2 σ =>
  stepK (pureR σ (aFieldAddr 1 t2)) fun t5 σ =>
  stepK (pureR σ (aLoad false 1 t5 σ)) fun t6 σ =>
  stepK (pureR σ (aConv .bytes t6)) fun t7 σ =>
  Ev Go.Proofs.Tryz.prog 193 [t7, t1] σ (fun t9 σ =>
  k t9 σ) kp
def keep180 : List (Nat × List Nat) := [(0, [1, 2]), (1, [4])]
noncomputable def body180 : Code := (Go.Proofs.Tryz.f180).body.getD .skip
theorem F180_eq (t0 t1 : AV) (σ : AHeap) (k kp : AV → AHeap → Prop) : aw Go.Proofs.Tryz.prog (keepOf keep180) body180 (retK Go.Proofs.Tryz.prog (Go.Proofs.Tryz.f180).results.toList k kp) (frameOf 0 [t0, t1]) σ = F180 t0 t1 σ k kp := by kernel_rfl
theorem F180_ev {t0 t1 : AV} {σ : AHeap} {k kp : AV → AHeap → Prop} (h : F180 t0 t1 σ k kp) : Ev Go.Proofs.Tryz.prog 180 [t0, t1] σ k kp :=
  Ev_of_aw mixed Go.Proofs.Tryz.func180 (show (Go.Proofs.Tryz.f180).body = some body180 by kernel_rfl) (by kernel_rfl) (args := [t0, t1]) (of_decide_eq_true (by kernel_rfl)) (keepOf keep180) (by kernel_rfl) (by rw [F180_eq]; exact h)

/-- (enclave/term.shape).field -/
def F181 (t0 t1 t2 t3 : AV) (σ : AHeap) (k kp : AV → AHeap → Prop) : Prop :=
  stepK (aBox t0 σ) fun t4 σ =>
  stepK (pureR σ (aLoad true 2 t4 σ)) fun t9 σ =>
  Ev Go.Proofs.Tryz.prog 180 [t9, t1] σ (fun t11 σ =>
  stepK (pureR σ (aNot t11)) fun t12 σ =>
  condK t12 (
  stepK (pureR σ (aBin .eql .prim t2 (.val (Go.Value.string { data := #[] })))) fun t14 σ =>
  k t14 σ
  ) (
  stepK (pureR σ (aBuildSl 1 1 [.val (.string ByteArray.empty)] [(0, t2)])) fun t17 σ =>
  callK Go.Proofs.Tryz.prog t3 [t17] σ (fun t18 σ =>
  k t18 σ
  ) kp)) kp
def keep181 : List (Nat × List Nat) := [(0, [1, 2, 3, 4]), (1, [2, 3, 12]), (2, [8]), (3, [8]), (4003, [1])]
noncomputable def body181 : Code := (Go.Proofs.Tryz.f181).body.getD .skip
theorem F181_eq (t0 t1 t2 t3 : AV) (σ : AHeap) (k kp : AV → AHeap → Prop) : aw Go.Proofs.Tryz.prog (keepOf keep181) body181 (retK Go.Proofs.Tryz.prog (Go.Proofs.Tryz.f181).results.toList k kp) (frameOf 0 [t0, t1, t2, t3]) σ = F181 t0 t1 t2 t3 σ k kp := by kernel_rfl
theorem F181_ev {t0 t1 t2 t3 : AV} {σ : AHeap} {k kp : AV → AHeap → Prop} (h : F181 t0 t1 t2 t3 σ k kp) : Ev Go.Proofs.Tryz.prog 181 [t0, t1, t2, t3] σ k kp :=
  Ev_of_aw mixed Go.Proofs.Tryz.func181 (show (Go.Proofs.Tryz.f181).body = some body181 by kernel_rfl) (by kernel_rfl) (args := [t0, t1, t2, t3]) (of_decide_eq_true (by kernel_rfl)) (keepOf keep181) (by kernel_rfl) (by rw [F181_eq]; exact h)

/-- slices.Contains[[]byte,byte] -/
def F193 (t0 t1 : AV) (σ : AHeap) (k kp : AV → AHeap → Prop) : Prop :=
  Ev Go.Proofs.Tryz.prog 211 [t0, t1] σ (fun t7 σ =>
  stepK (pureR σ (aBin .geq .prim t7 (.val (Go.Value.int Go.IntKind.i64 0)))) fun t8 σ =>
  k t8 σ) kp
def keep193 : List (Nat × List Nat) := [(0, [0, 1]), (1, [4])]
noncomputable def body193 : Code := (Go.Proofs.Tryz.f193).body.getD .skip
theorem F193_eq (t0 t1 : AV) (σ : AHeap) (k kp : AV → AHeap → Prop) : aw Go.Proofs.Tryz.prog (keepOf keep193) body193 (retK Go.Proofs.Tryz.prog (Go.Proofs.Tryz.f193).results.toList k kp) (frameOf 0 [t0, t1]) σ = F193 t0 t1 σ k kp := by kernel_rfl
theorem F193_ev {t0 t1 : AV} {σ : AHeap} {k kp : AV → AHeap → Prop} (h : F193 t0 t1 σ k kp) : Ev Go.Proofs.Tryz.prog 193 [t0, t1] σ k kp :=
  Ev_of_aw mixed Go.Proofs.Tryz.func193 (show (Go.Proofs.Tryz.f193).body = some body193 by kernel_rfl) (by kernel_rfl) (args := [t0, t1]) (of_decide_eq_true (by kernel_rfl)) (keepOf keep193) (by kernel_rfl) (by rw [F193_eq]; exact h)

/-- slices.Index[[]byte,byte] -/
def F211 (t0 t1 : AV) (σ : AHeap) (k kp : AV → AHeap → Prop) : Prop :=
  seqW (fun fr σ => (
  k (.val (Go.Value.int Go.IntKind.i64 (-1))) σ
  )) (fun j1 => (
  stepK (pureR σ (aLenK .slice t0 σ)) fun t7 σ =>
  loopW (fun fr σ again => (
  stepK (pureR σ (aBin .lss .prim (Abs.look fr 8) (Abs.look fr 7))) fun t9 σ =>
  condK t9 (
  stepK (pureR σ (aIndexAddr 1 (Abs.look fr 0) (Abs.look fr 8) σ)) fun t14 σ =>
  stepK (pureR σ (aLoad false 1 t14 σ)) fun t15 σ =>
  stepK (pureR σ (aBin .eql .prim (Abs.look fr 1) t15)) fun t16 σ =>
  condK t16 (
  k (Abs.look fr 8) σ
  ) (
  stepK (pureR σ (aBin .add .prim (Abs.look fr 8) (.val (Go.Value.int Go.IntKind.i64 1)))) fun t18 σ =>
  again [(0, (Abs.look fr 0)), (1, (Abs.look fr 1)), (7, (Abs.look fr 7)), (8, t18)] σ
  )
  ) (
  j1 [(0, (Abs.look fr 0))] σ
  )
  )) [(0, t0), (1, t1), (7, t7), (8, (.val (Go.Value.int Go.IntKind.i64 0)))] σ
  ))
def keep211 : List (Nat × List Nat) := [(0, [0, 1]), (3008, [0]), (1, [0, 1, 7, 8]), (2, [0, 1, 7, 8, 9]), (3, [0, 1, 5, 7, 8]), (4, [0, 1, 5, 7, 8, 16]), (5, [4]), (6, [0, 1, 7, 8]), (1002, [0, 1, 7, 8]), (7, [4])]
noncomputable def body211 : Code := (Go.Proofs.Tryz.f211).body.getD .skip
theorem F211_eq (t0 t1 : AV) (σ : AHeap) (k kp : AV → AHeap → Prop) : aw Go.Proofs.Tryz.prog (keepOf keep211) body211 (retK Go.Proofs.Tryz.prog (Go.Proofs.Tryz.f211).results.toList k kp) (frameOf 0 [t0, t1]) σ = F211 t0 t1 σ k kp := by kernel_rfl
theorem F211_ev {t0 t1 : AV} {σ : AHeap} {k kp : AV → AHeap → Prop} (h : F211 t0 t1 σ k kp) : Ev Go.Proofs.Tryz.prog 211 [t0, t1] σ k kp :=
  Ev_of_aw mixed Go.Proofs.Tryz.func211 (show (Go.Proofs.Tryz.f211).body = some body211 by kernel_rfl) (by kernel_rfl) (args := [t0, t1]) (of_decide_eq_true (by kernel_rfl)) (keepOf keep211) (by kernel_rfl) (by rw [F211_eq]; exact h)

/-- enclave/enclavelaw20.great -/
def F10 (t0 : AV) (σ : AHeap) (k kp : AV → AHeap → Prop) : Prop :=
  stepK (aBox t0 σ) fun t1 σ =>
  stepK (pureR σ (aLoad true 19 t1 σ)) fun t3 σ =>
  Ev Go.Proofs.Tryz.prog 22 [t3] σ (fun t4 σ =>
  gK t4 false (fun K => stepK (pureR σ (aLoad true 19 t1 σ)) K) (fun t6 σ =>
  gK t4 false (fun K => Ev Go.Proofs.Tryz.prog 14 [t6] σ K kp) (fun t7 σ =>
  gK t4 false (fun K => stepK (pureR σ (aLenK .slice t7 σ)) K) (fun t8 σ =>
  gK t4 false (fun K => stepK (pureR σ (aBin .gtr .prim t8 (.val (Go.Value.int Go.IntKind.i64 150)))) K) (fun t9 σ =>
  stepK (pureR σ (aPick t4 (.val (Go.Value.bool Bool.true)) t9)) fun t10 σ =>
  k t10 σ) σ) σ) σ) σ) kp
def keep10 : List (Nat × List Nat) := [(0, [1]), (1, [2])]
noncomputable def body10 : Code := (Go.Proofs.Tryz.f10).body.getD .skip
theorem F10_eq (t0 : AV) (σ : AHeap) (k kp : AV → AHeap → Prop) : aw Go.Proofs.Tryz.prog (keepOf keep10) body10 (retK Go.Proofs.Tryz.prog (Go.Proofs.Tryz.f10).results.toList k kp) (frameOf 0 [t0]) σ = F10 t0 σ k kp := by kernel_rfl
theorem F10_ev {t0 : AV} {σ : AHeap} {k kp : AV → AHeap → Prop} (h : F10 t0 σ k kp) : Ev Go.Proofs.Tryz.prog 10 [t0] σ k kp :=
  Ev_of_aw mixed Go.Proofs.Tryz.func10 (show (Go.Proofs.Tryz.f10).body = some body10 by kernel_rfl) (by kernel_rfl) (args := [t0]) (of_decide_eq_true (by kernel_rfl)) (keepOf keep10) (by kernel_rfl) (by rw [F10_eq]; exact h)

/-- enclave/enclavelaw20.awake$1 -/
def F23 (t0 : AV) (σ : AHeap) (k kp : AV → AHeap → Prop) : Prop :=
  stepK (aAlloc [.val (.int .u8 0), .val (.int .u8 0), .val (.int .i64 0), .val (.int .i64 0), .val (.string ByteArray.empty), .val (.string ByteArray.empty), .val (.string ByteArray.empty), .val (.int .i64 0), .val (.slice none 0 0), .val (.slice none 0 0), .val (.int .u8 0), .val (.int .i64 0), .val (.slice none 0 0), .val (.slice none 0 0), .val (.int .u8 0), .val (.int .i64 0), .val (.slice none 0 0), .val (.slice none 0 0), .val (.slice none 0 0)] σ) fun t2 σ =>
  stepK (pureR σ (aBuild [.val (.int .u8 0), .val (.int .u8 0), .val (.int .i64 0), .val (.int .i64 0), .val (.string ByteArray.empty), .val (.string ByteArray.empty), .val (.string ByteArray.empty)] [(0, 1, (.val (Go.Value.int Go.IntKind.u8 1))), (3, 1, t0)])) fun t4 σ =>
  stepK (pureR σ (aBuild [.val (.int .u8 0), .val (.int .u8 0), .val (.int .i64 0), .val (.int .i64 0), .val (.string ByteArray.empty), .val (.string ByteArray.empty), .val (.string ByteArray.empty), .val (.int .i64 0), .val (.slice none 0 0), .val (.slice none 0 0), .val (.int .u8 0), .val (.int .i64 0), .val (.slice none 0 0), .val (.slice none 0 0), .val (.int .u8 0), .val (.int .i64 0), .val (.slice none 0 0), .val (.slice none 0 0), .val (.slice none 0 0)] [(0, 7, t4)])) fun t5 σ =>
  stepK (unitR (aStore 19 t2 t5 σ)) fun _ σ =>
  stepV (aLoad true 19 t2 σ) fun r0 =>
  k r0 σ
def keep23 : List (Nat × List Nat) := [(0, [0, 2]), (1, [2])]
noncomputable def body23 : Code := (Go.Proofs.Tryz.f23).body.getD .skip
theorem F23_eq (t0 : AV) (σ : AHeap) (k kp : AV → AHeap → Prop) : aw Go.Proofs.Tryz.prog (keepOf keep23) body23 (retK Go.Proofs.Tryz.prog (Go.Proofs.Tryz.f23).results.toList k kp) (frameOf 0 [t0]) σ = F23 t0 σ k kp := by kernel_rfl
theorem F23_ev {t0 : AV} {σ : AHeap} {k kp : AV → AHeap → Prop} (h : F23 t0 σ k kp) : Ev Go.Proofs.Tryz.prog 23 [t0] σ k kp :=
  Ev_of_aw mixed Go.Proofs.Tryz.func23 (show (Go.Proofs.Tryz.f23).body = some body23 by kernel_rfl) (by kernel_rfl) (args := [t0]) (of_decide_eq_true (by kernel_rfl)) (keepOf keep23) (by kernel_rfl) (by rw [F23_eq]; exact h)

end Go.Proofs.AtD
