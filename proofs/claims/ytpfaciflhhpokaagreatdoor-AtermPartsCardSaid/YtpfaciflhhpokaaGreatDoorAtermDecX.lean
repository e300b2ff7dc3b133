import Derived.Test.YtpfaciflhhpokaaGreatDoorAbsL
import Derived.Test.YtpfaciflhhpokaaGreatDoorProg
import Derived.KernelRfl
set_option maxRecDepth 100000
set_option linter.unusedVariables false
namespace Go.Proofs.AtD
open Go Go.Abs

theorem mixed : Go.Proofs.Tryz.prog.follows .mixedOrders = true := by kernel_rfl

/-- enclave/effect.compare -/
def F75 (t0 t1 : AV) (σ : AHeap) (k kp : AV → AHeap → Prop) : Prop :=
  stepK (aBox t0 σ) fun t2 σ =>
  stepK (aBox t1 σ) fun t3 σ =>
  stepK (pureR σ (aFieldAddr 0 t2)) fun t5 σ =>
  stepK (pureR σ (aLoad false 1 t5 σ)) fun t6 σ =>
  stepK (pureR σ (aFieldAddr 0 t3)) fun t7 σ =>
  stepK (pureR σ (aLoad false 1 t7 σ)) fun t8 σ =>
  stepK (pureR σ (aFieldAddr 1 t2)) fun t10 σ =>
  stepK (pureR σ (aLoad false 1 t10 σ)) fun t11 σ =>
  stepK (pureR σ (aFieldAddr 1 t3)) fun t12 σ =>
  stepK (pureR σ (aLoad false 1 t12 σ)) fun t13 σ =>
  stepK (pureR σ (aFieldAddr 2 t2)) fun t15 σ =>
  stepK (pureR σ (aLoad false 1 t15 σ)) fun t16 σ =>
  stepK (pureR σ (aFieldAddr 2 t3)) fun t17 σ =>
  stepK (pureR σ (aLoad false 1 t17 σ)) fun t18 σ =>
  Ev Go.Proofs.Tryz.prog 92 [t6, t8] σ (fun t9 σ =>
  (stepK (pureR σ (aLoad false 1 t10 σ)) (fun y θ => y = t11 ∧ θ = σ)) ∧ (
  (stepK (pureR σ (aLoad false 1 t12 σ)) (fun y θ => y = t13 ∧ θ = σ)) ∧ (
  (stepK (pureR σ (aLoad false 1 t15 σ)) (fun y θ => y = t16 ∧ θ = σ)) ∧ (
  (stepK (pureR σ (aLoad false 1 t17 σ)) (fun y θ => y = t18 ∧ θ = σ)) ∧ (
  Ev Go.Proofs.Tryz.prog 93 [t11, t13] σ (fun t14 σ =>
  (stepK (pureR σ (aLoad false 1 t15 σ)) (fun y θ => y = t16 ∧ θ = σ)) ∧ (
  (stepK (pureR σ (aLoad false 1 t17 σ)) (fun y θ => y = t18 ∧ θ = σ)) ∧ (
  Ev Go.Proofs.Tryz.prog 94 [t16, t18] σ (fun t19 σ =>
  stepK (pureR σ (aBuildSl 3 1 [.val (.int .i64 0)] [(0, t9), (1, t14), (2, t19)])) fun t20 σ =>
  Ev Go.Proofs.Tryz.prog 91 [t20] σ (fun t21 σ =>
  k t21 σ) kp) kp))) kp))))) kp
def keep75 : List (Nat × List Nat) := [(0, [2, 3]), (1, [4]), (2001, [0, 1, 2, 3, 5, 6, 7, 8, 10, 11, 12, 13, 4, 9, 14, 15, 16, 17]), (101004, [6, 8, 11, 13]), (101009, [11, 13])]
noncomputable def body75 : Code := (Go.Proofs.Tryz.f75).body.getD .skip
theorem F75_eq (t0 t1 : AV) (σ : AHeap) (k kp : AV → AHeap → Prop) : aw Go.Proofs.Tryz.prog (keepOf keep75) body75 (retK Go.Proofs.Tryz.prog (Go.Proofs.Tryz.f75).results.toList k kp) (frameOf 0 [t0, t1]) σ = F75 t0 t1 σ k kp := by kernel_rfl
theorem F75_ev {t0 t1 : AV} {σ : AHeap} {k kp : AV → AHeap → Prop} (h : F75 t0 t1 σ k kp) : Ev Go.Proofs.Tryz.prog 75 [t0, t1] σ k kp :=
  Ev_of_aw mixed Go.Proofs.Tryz.func75 (show (Go.Proofs.Tryz.f75).body = some body75 by kernel_rfl) (by kernel_rfl) (args := [t0, t1]) (of_decide_eq_true (by kernel_rfl)) (keepOf keep75) (by kernel_rfl) (by rw [F75_eq]; exact h)

/-- enclave/rtype.May -/
def F76 (t0 : AV) (σ : AHeap) (k kp : AV → AHeap → Prop) : Prop :=
  Ev Go.Proofs.Tryz.prog 95 [t0, (.fn (.func 96) [])] σ (fun t4 σ =>
  stepK (pureR σ (aNot t4)) fun t5 σ =>
  k t5 σ) kp
def keep76 : List (Nat × List Nat) := [(0, [0]), (1, [2])]
noncomputable def body76 : Code := (Go.Proofs.Tryz.f76).body.getD .skip
theorem F76_eq (t0 : AV) (σ : AHeap) (k kp : AV → AHeap → Prop) : aw Go.Proofs.Tryz.prog (keepOf keep76) body76 (retK Go.Proofs.Tryz.prog (Go.Proofs.Tryz.f76).results.toList k kp) (frameOf 0 [t0]) σ = F76 t0 σ k kp := by kernel_rfl
theorem F76_ev {t0 : AV} {σ : AHeap} {k kp : AV → AHeap → Prop} (h : F76 t0 σ k kp) : Ev Go.Proofs.Tryz.prog 76 [t0] σ k kp :=
  Ev_of_aw mixed Go.Proofs.Tryz.func76 (show (Go.Proofs.Tryz.f76).body = some body76 by kernel_rfl) (by kernel_rfl) (args := [t0]) (of_decide_eq_true (by kernel_rfl)) (keepOf keep76) (by kernel_rfl) (by rw [F76_eq]; exact h)

/-- cmp.Or[int] -/
def F91 (t0 : AV) (σ : AHeap) (k kp : AV → AHeap → Prop) : Prop :=
  seqW (fun fr σ => (
  k (Abs.look fr 3) σ
  )) (fun j1 => (
  stepK (pureR σ (aLenK .slice t0 σ)) fun t7 σ =>
  loopW (fun fr σ again => (
  stepK (pureR σ (aBin .lss .prim (Abs.look fr 8) (Abs.look fr 7))) fun t9 σ =>
  condK t9 (
  stepK (pureR σ (aIndexAddr 1 (Abs.look fr 6) (Abs.look fr 8) σ)) fun t10 σ =>
  stepK (pureR σ (aLoad false 1 t10 σ)) fun t11 σ =>
  stepK (pureR σ (aBin .neq .prim t11 (Abs.look fr 3))) fun t14 σ =>
  condK t14 (
  k t11 σ
  ) (
  stepK (pureR σ (aBin .add .prim (Abs.look fr 8) (.val (Go.Value.int Go.IntKind.i64 1)))) fun t16 σ =>
  again [(3, (Abs.look fr 3)), (6, (Abs.look fr 6)), (7, (Abs.look fr 7)), (8, t16)] σ
  )
  ) (
  j1 [(3, (Abs.look fr 3))] σ
  )
  )) [(3, (.val (Go.Value.int Go.IntKind.i64 0))), (6, t0), (7, t7), (8, (.val (Go.Value.int Go.IntKind.i64 0)))] σ
  ))
def keep91 : List (Nat × List Nat) := [(0, [0]), (1, [0, 3]), (3009, [3]), (2, [3, 6, 7, 8]), (3, [3, 6, 7, 8, 9]), (4, [3, 5, 6, 7, 8]), (5, [3, 5, 6, 7, 8, 14]), (6, [2]), (7, [3, 6, 7, 8]), (1003, [3, 6, 7, 8]), (8, [2])]
noncomputable def body91 : Code := (Go.Proofs.Tryz.f91).body.getD .skip
theorem F91_eq (t0 : AV) (σ : AHeap) (k kp : AV → AHeap → Prop) : aw Go.Proofs.Tryz.prog (keepOf keep91) body91 (retK Go.Proofs.Tryz.prog (Go.Proofs.Tryz.f91).results.toList k kp) (frameOf 0 [t0]) σ = F91 t0 σ k kp := by kernel_rfl
theorem F91_ev {t0 : AV} {σ : AHeap} {k kp : AV → AHeap → Prop} (h : F91 t0 σ k kp) : Ev Go.Proofs.Tryz.prog 91 [t0] σ k kp :=
  Ev_of_aw mixed Go.Proofs.Tryz.func91 (show (Go.Proofs.Tryz.f91).body = some body91 by kernel_rfl) (by kernel_rfl) (args := [t0]) (of_decide_eq_true (by kernel_rfl)) (keepOf keep91) (by kernel_rfl) (by rw [F91_eq]; exact h)

/-- cmp.Compare[uint8] -/
def F92 (t0 t1 : AV) (σ : AHeap) (k kp : AV → AHeap → Prop) : Prop :=
  Ev Go.Proofs.Tryz.prog 113 [t0] σ (fun t8 σ =>
  Ev Go.Proofs.Tryz.prog 113 [t1] σ (fun t10 σ =>
  condK t8 (
  condK t10 (
  k (.val (Go.Value.int Go.IntKind.i64 0)) σ
  ) (
  k (.val (Go.Value.int Go.IntKind.i64 (-1))) σ
  )
  ) (
  condK t10 (
  k (.val (Go.Value.int Go.IntKind.i64 1)) σ
  ) (
  stepK (pureR σ (aBin .lss .prim t0 t1)) fun t16 σ =>
  condK t16 (
  k (.val (Go.Value.int Go.IntKind.i64 (-1))) σ
  ) (
  stepK (pureR σ (aBin .gtr .prim t0 t1)) fun t19 σ =>
  condK t19 (
  k (.val (Go.Value.int Go.IntKind.i64 1)) σ
  ) (
  k (.val (Go.Value.int Go.IntKind.i64 0)) σ
  )
  )
  )
  )) kp) kp
def keep92 : List (Nat × List Nat) := [(0, [0, 1]), (1, [0, 1, 5]), (2, [0, 1, 5, 6]), (3, [0, 1, 6, 11]), (4, [12]), (5, [4]), (6, [4]), (7, [0, 1, 13]), (8, [4]), (9, [0, 1, 16]), (10, [4]), (11, [19]), (12, [4]), (13, [4])]
noncomputable def body92 : Code := (Go.Proofs.Tryz.f92).body.getD .skip
theorem F92_eq (t0 t1 : AV) (σ : AHeap) (k kp : AV → AHeap → Prop) : aw Go.Proofs.Tryz.prog (keepOf keep92) body92 (retK Go.Proofs.Tryz.prog (Go.Proofs.Tryz.f92).results.toList k kp) (frameOf 0 [t0, t1]) σ = F92 t0 t1 σ k kp := by kernel_rfl
theorem F92_ev {t0 t1 : AV} {σ : AHeap} {k kp : AV → AHeap → Prop} (h : F92 t0 t1 σ k kp) : Ev Go.Proofs.Tryz.prog 92 [t0, t1] σ k kp :=
  Ev_of_aw mixed Go.Proofs.Tryz.func92 (show (Go.Proofs.Tryz.f92).body = some body92 by kernel_rfl) (by kernel_rfl) (args := [t0, t1]) (of_decide_eq_true (by kernel_rfl)) (keepOf keep92) (by kernel_rfl) (by rw [F92_eq]; exact h)

/-- cmp.Compare[int] -/
def F93 (t0 t1 : AV) (σ : AHeap) (k kp : AV → AHeap → Prop) : Prop :=
  Ev Go.Proofs.Tryz.prog 114 [t0] σ (fun t8 σ =>
  Ev Go.Proofs.Tryz.prog 114 [t1] σ (fun t10 σ =>
  condK t8 (
  condK t10 (
  k (.val (Go.Value.int Go.IntKind.i64 0)) σ
  ) (
  k (.val (Go.Value.int Go.IntKind.i64 (-1))) σ
  )
  ) (
  condK t10 (
  k (.val (Go.Value.int Go.IntKind.i64 1)) σ
  ) (
  stepK (pureR σ (aBin .lss .prim t0 t1)) fun t16 σ =>
  condK t16 (
  k (.val (Go.Value.int Go.IntKind.i64 (-1))) σ
  ) (
  stepK (pureR σ (aBin .gtr .prim t0 t1)) fun t19 σ =>
  condK t19 (
  k (.val (Go.Value.int Go.IntKind.i64 1)) σ
  ) (
  k (.val (Go.Value.int Go.IntKind.i64 0)) σ
  )
  )
  )
  )) kp) kp
def keep93 : List (Nat × List Nat) := [(0, [0, 1]), (1, [0, 1, 5]), (2, [0, 1, 5, 6]), (3, [0, 1, 6, 11]), (4, [12]), (5, [4]), (6, [4]), (7, [0, 1, 13]), (8, [4]), (9, [0, 1, 16]), (10, [4]), (11, [19]), (12, [4]), (13, [4])]
noncomputable def body93 : Code := (Go.Proofs.Tryz.f93).body.getD .skip
theorem F93_eq (t0 t1 : AV) (σ : AHeap) (k kp : AV → AHeap → Prop) : aw Go.Proofs.Tryz.prog (keepOf keep93) body93 (retK Go.Proofs.Tryz.prog (Go.Proofs.Tryz.f93).results.toList k kp) (frameOf 0 [t0, t1]) σ = F93 t0 t1 σ k kp := by kernel_rfl
theorem F93_ev {t0 t1 : AV} {σ : AHeap} {k kp : AV → AHeap → Prop} (h : F93 t0 t1 σ k kp) : Ev Go.Proofs.Tryz.prog 93 [t0, t1] σ k kp :=
  Ev_of_aw mixed Go.Proofs.Tryz.func93 (show (Go.Proofs.Tryz.f93).body = some body93 by kernel_rfl) (by kernel_rfl) (args := [t0, t1]) (of_decide_eq_true (by kernel_rfl)) (keepOf keep93) (by kernel_rfl) (by rw [F93_eq]; exact h)

/-- cmp.Compare[string] -/
def F94 (t0 t1 : AV) (σ : AHeap) (k kp : AV → AHeap → Prop) : Prop :=
  Ev Go.Proofs.Tryz.prog 115 [t0] σ (fun t8 σ =>
  Ev Go.Proofs.Tryz.prog 115 [t1] σ (fun t10 σ =>
  condK t8 (
  condK t10 (
  k (.val (Go.Value.int Go.IntKind.i64 0)) σ
  ) (
  k (.val (Go.Value.int Go.IntKind.i64 (-1))) σ
  )
  ) (
  condK t10 (
  k (.val (Go.Value.int Go.IntKind.i64 1)) σ
  ) (
  stepK (pureR σ (aBin .lss .prim t0 t1)) fun t16 σ =>
  condK t16 (
  k (.val (Go.Value.int Go.IntKind.i64 (-1))) σ
  ) (
  stepK (pureR σ (aBin .gtr .prim t0 t1)) fun t19 σ =>
  condK t19 (
  k (.val (Go.Value.int Go.IntKind.i64 1)) σ
  ) (
  k (.val (Go.Value.int Go.IntKind.i64 0)) σ
  )
  )
  )
  )) kp) kp
def keep94 : List (Nat × List Nat) := [(0, [0, 1]), (1, [0, 1, 5]), (2, [0, 1, 5, 6]), (3, [0, 1, 6, 11]), (4, [12]), (5, [4]), (6, [4]), (7, [0, 1, 13]), (8, [4]), (9, [0, 1, 16]), (10, [4]), (11, [19]), (12, [4]), (13, [4])]
noncomputable def body94 : Code := (Go.Proofs.Tryz.f94).body.getD .skip
theorem F94_eq (t0 t1 : AV) (σ : AHeap) (k kp : AV → AHeap → Prop) : aw Go.Proofs.Tryz.prog (keepOf keep94) body94 (retK Go.Proofs.Tryz.prog (Go.Proofs.Tryz.f94).results.toList k kp) (frameOf 0 [t0, t1]) σ = F94 t0 t1 σ k kp := by kernel_rfl
theorem F94_ev {t0 t1 : AV} {σ : AHeap} {k kp : AV → AHeap → Prop} (h : F94 t0 t1 σ k kp) : Ev Go.Proofs.Tryz.prog 94 [t0, t1] σ k kp :=
  Ev_of_aw mixed Go.Proofs.Tryz.func94 (show (Go.Proofs.Tryz.f94).body = some body94 by kernel_rfl) (by kernel_rfl) (args := [t0, t1]) (of_decide_eq_true (by kernel_rfl)) (keepOf keep94) (by kernel_rfl) (by rw [F94_eq]; exact h)

/-- slices.ContainsFunc[[]enclave/api.RType,enclave/api.RType] -/
def F95 (t0 t1 : AV) (σ : AHeap) (k kp : AV → AHeap → Prop) : Prop :=
  Ev Go.Proofs.Tryz.prog 116 [t0, t1] σ (fun t7 σ =>
  stepK (pureR σ (aBin .geq .prim t7 (.val (Go.Value.int Go.IntKind.i64 0)))) fun t8 σ =>
  k t8 σ) kp
def keep95 : List (Nat × List Nat) := [(0, [0, 1]), (1, [4])]
noncomputable def body95 : Code := (Go.Proofs.Tryz.f95).body.getD .skip
theorem F95_eq (t0 t1 : AV) (σ : AHeap) (k kp : AV → AHeap → Prop) : aw Go.Proofs.Tryz.prog (keepOf keep95) body95 (retK Go.Proofs.Tryz.prog (Go.Proofs.Tryz.f95).results.toList k kp) (frameOf 0 [t0, t1]) σ = F95 t0 t1 σ k kp := by kernel_rfl
theorem F95_ev {t0 t1 : AV} {σ : AHeap} {k kp : AV → AHeap → Prop} (h : F95 t0 t1 σ k kp) : Ev Go.Proofs.Tryz.prog 95 [t0, t1] σ k kp :=
  Ev_of_aw mixed Go.Proofs.Tryz.func95 (show (Go.Proofs.Tryz.f95).body = some body95 by kernel_rfl) (by kernel_rfl) (args := [t0, t1]) (of_decide_eq_true (by kernel_rfl)) (keepOf keep95) (by kernel_rfl) (by rw [F95_eq]; exact h)

/-- enclave/rtype.May$1 -/
def F96 (t0 : AV) (σ : AHeap) (k kp : AV → AHeap → Prop) : Prop :=
  stepK (aBox t0 σ) fun t1 σ =>
  stepK (pureR σ (aLoad true 4 t1 σ)) fun t3 σ =>
  Ev Go.Proofs.Tryz.prog 97 [t3] σ (fun t4 σ =>
  stepK (pureR σ (aNot t4)) fun t5 σ =>
  gK t5 false (fun K => stepK (pureR σ (aFieldAddr 3 t1)) K) (fun t7 σ =>
  gK t5 false (fun K => stepK (pureR σ (aLoad false 1 t7 σ)) K) (fun t8 σ =>
  gK t5 false (fun K => Ev Go.Proofs.Tryz.prog 76 [t8] σ K kp) (fun t9 σ =>
  gK t5 false (fun K => stepK (pureR σ (aNot t9)) K) (fun t10 σ =>
  stepK (pureR σ (aPick t5 (.val (Go.Value.bool Bool.true)) t10)) fun t11 σ =>
  k t11 σ) σ) σ) σ) σ) kp
def keep96 : List (Nat × List Nat) := [(0, [1]), (1, [2])]
noncomputable def body96 : Code := (Go.Proofs.Tryz.f96).body.getD .skip
theorem F96_eq (t0 : AV) (σ : AHeap) (k kp : AV → AHeap → Prop) : aw Go.Proofs.Tryz.prog (keepOf keep96) body96 (retK Go.Proofs.Tryz.prog (Go.Proofs.Tryz.f96).results.toList k kp) (frameOf 0 [t0]) σ = F96 t0 σ k kp := by kernel_rfl
theorem F96_ev {t0 : AV} {σ : AHeap} {k kp : AV → AHeap → Prop} (h : F96 t0 σ k kp) : Ev Go.Proofs.Tryz.prog 96 [t0] σ k kp :=
  Ev_of_aw mixed Go.Proofs.Tryz.func96 (show (Go.Proofs.Tryz.f96).body = some body96 by kernel_rfl) (by kernel_rfl) (args := [t0]) (of_decide_eq_true (by kernel_rfl)) (keepOf keep96) (by kernel_rfl) (by rw [F96_eq]; exact h)

/-- enclave/rtype.node -/
def F97 (t0 : AV) (σ : AHeap) (k kp : AV → AHeap → Prop) : Prop :=
  stepK (aBox t0 σ) fun t1 σ =>
  stepK (pureR σ (aFieldAddr 0 t1)) fun t3 σ =>
  stepK (pureR σ (aLoad false 1 t3 σ)) fun t4 σ =>
  stepK (pureR σ (aBin .eql .prim t4 (.val (Go.Value.int Go.IntKind.u8 1)))) fun t6 σ =>
  condK t6 (
  stepK (pureR σ (aFieldAddr 1 t1)) fun t7 σ =>
  stepK (pureR σ (aLoad false 1 t7 σ)) fun t8 σ =>
  stepK (pureR σ (aBin .eql .prim t8 (.val (Go.Value.int Go.IntKind.i64 0)))) fun t9 σ =>
  gK t9 true (fun K => stepK (pureR σ (aFieldAddr 2 t1)) K) (fun t11 σ =>
  gK t9 true (fun K => stepK (pureR σ (aLoad false 1 t11 σ)) K) (fun t12 σ =>
  gK t9 true (fun K => stepK (pureR σ (aLenK .slice t12 σ)) K) (fun t13 σ =>
  gK t9 true (fun K => stepK (pureR σ (aBin .eql .prim t13 (.val (Go.Value.int Go.IntKind.i64 0)))) K) (fun t14 σ =>
  stepK (pureR σ (aPick t9 t14 (.val (Go.Value.bool Bool.false)))) fun t15 σ =>
  gK t15 true (fun K => stepK (pureR σ (aFieldAddr 3 t1)) K) (fun t17 σ =>
  gK t15 true (fun K => stepK (pureR σ (aLoad false 1 t17 σ)) K) (fun t18 σ =>
  gK t15 true (fun K => stepK (pureR σ (aLenK .slice t18 σ)) K) (fun t19 σ =>
  gK t15 true (fun K => stepK (pureR σ (aBin .eql .prim t19 (.val (Go.Value.int Go.IntKind.i64 0)))) K) (fun t20 σ =>
  stepK (pureR σ (aPick t15 t20 (.val (Go.Value.bool Bool.false)))) fun t21 σ =>
  k t21 σ
  ) σ) σ) σ) σ) σ) σ) σ) σ) (
  stepK (pureR σ (aBin .eql .prim t4 (.val (Go.Value.int Go.IntKind.u8 2)))) fun t23 σ =>
  condK t23 (
  stepK (pureR σ (aFieldAddr 1 t1)) fun t24 σ =>
  stepK (pureR σ (aLoad false 1 t24 σ)) fun t25 σ =>
  stepK (pureR σ (aBin .geq .prim t25 (.val (Go.Value.int Go.IntKind.i64 0)))) fun t26 σ =>
  gK t26 true (fun K => stepK (pureR σ (aFieldAddr 2 t1)) K) (fun t28 σ =>
  gK t26 true (fun K => stepK (pureR σ (aLoad false 1 t28 σ)) K) (fun t29 σ =>
  gK t26 true (fun K => stepK (pureR σ (aLenK .slice t29 σ)) K) (fun t30 σ =>
  gK t26 true (fun K => stepK (pureR σ (aBin .eql .prim t30 (.val (Go.Value.int Go.IntKind.i64 0)))) K) (fun t31 σ =>
  stepK (pureR σ (aPick t26 t31 (.val (Go.Value.bool Bool.false)))) fun t32 σ =>
  gK t32 true (fun K => stepK (pureR σ (aFieldAddr 3 t1)) K) (fun t34 σ =>
  gK t32 true (fun K => stepK (pureR σ (aLoad false 1 t34 σ)) K) (fun t35 σ =>
  gK t32 true (fun K => stepK (pureR σ (aLenK .slice t35 σ)) K) (fun t36 σ =>
  gK t32 true (fun K => stepK (pureR σ (aBin .eql .prim t36 (.val (Go.Value.int Go.IntKind.i64 2)))) K) (fun t37 σ =>
  stepK (pureR σ (aPick t32 t37 (.val (Go.Value.bool Bool.false)))) fun t38 σ =>
  k t38 σ
  ) σ) σ) σ) σ) σ) σ) σ) σ) (
  stepK (pureR σ (aBin .eql .prim t4 (.val (Go.Value.int Go.IntKind.u8 3)))) fun t40 σ =>
  condK t40 (
  stepK (pureR σ (aFieldAddr 1 t1)) fun t41 σ =>
  stepK (pureR σ (aLoad false 1 t41 σ)) fun t42 σ =>
  stepK (pureR σ (aBin .geq .prim t42 (.val (Go.Value.int Go.IntKind.i64 0)))) fun t43 σ =>
  gK t43 true (fun K => stepK (pureR σ (aFieldAddr 2 t1)) K) (fun t45 σ =>
  gK t43 true (fun K => stepK (pureR σ (aLoad false 1 t45 σ)) K) (fun t46 σ =>
  gK t43 true (fun K => stepK (pureR σ (aLenK .slice t46 σ)) K) (fun t47 σ =>
  gK t43 true (fun K => stepK (pureR σ (aBin .eql .prim t47 (.val (Go.Value.int Go.IntKind.i64 0)))) K) (fun t48 σ =>
  stepK (pureR σ (aPick t43 t48 (.val (Go.Value.bool Bool.false)))) fun t49 σ =>
  gK t49 true (fun K => stepK (pureR σ (aFieldAddr 3 t1)) K) (fun t51 σ =>
  gK t49 true (fun K => stepK (pureR σ (aLoad false 1 t51 σ)) K) (fun t52 σ =>
  gK t49 true (fun K => stepK (pureR σ (aLenK .slice t52 σ)) K) (fun t53 σ =>
  gK t49 true (fun K => stepK (pureR σ (aBin .eql .prim t53 (.val (Go.Value.int Go.IntKind.i64 1)))) K) (fun t54 σ =>
  stepK (pureR σ (aPick t49 t54 (.val (Go.Value.bool Bool.false)))) fun t55 σ =>
  k t55 σ
  ) σ) σ) σ) σ) σ) σ) σ) σ) (
  stepK (pureR σ (aBin .eql .prim t4 (.val (Go.Value.int Go.IntKind.u8 4)))) fun t57 σ =>
  condK t57 (
  stepK (pureR σ (aFieldAddr 1 t1)) fun t58 σ =>
  stepK (pureR σ (aLoad false 1 t58 σ)) fun t59 σ =>
  stepK (pureR σ (aBin .geq .prim t59 (.val (Go.Value.int Go.IntKind.i64 0)))) fun t60 σ =>
  gK t60 true (fun K => stepK (pureR σ (aFieldAddr 2 t1)) K) (fun t62 σ =>
  gK t60 true (fun K => stepK (pureR σ (aLoad false 1 t62 σ)) K) (fun t63 σ =>
  gK t60 true (fun K => Ev Go.Proofs.Tryz.prog 51 [t63] σ K kp) (fun t64 σ =>
  stepK (pureR σ (aPick t60 t64 (.val (Go.Value.bool Bool.false)))) fun t65 σ =>
  gK t65 true (fun K => stepK (pureR σ (aFieldAddr 3 t1)) K) (fun t67 σ =>
  gK t65 true (fun K => stepK (pureR σ (aLoad false 1 t67 σ)) K) (fun t68 σ =>
  gK t65 true (fun K => stepK (pureR σ (aLenK .slice t68 σ)) K) (fun t69 σ =>
  gK t65 true (fun K => stepK (pureR σ (aBin .eql .prim t69 (.val (Go.Value.int Go.IntKind.i64 2)))) K) (fun t70 σ =>
  stepK (pureR σ (aPick t65 t70 (.val (Go.Value.bool Bool.false)))) fun t71 σ =>
  k t71 σ
  ) σ) σ) σ) σ) σ) σ) σ) (
  k (.val (Go.Value.bool Bool.false)) σ
  )
  )
  )
  )
def keep97 : List (Nat × List Nat) := [(0, [1]), (1, [1, 4]), (2, [1, 4, 5]), (3, [2]), (4, [1, 4, 22]), (5, [2]), (6, [1, 4, 39]), (7, [2]), (8, [1, 56]), (9, [2]), (10, [2])]
noncomputable def body97 : Code := (Go.Proofs.Tryz.f97).body.getD .skip
theorem F97_eq (t0 : AV) (σ : AHeap) (k kp : AV → AHeap → Prop) : aw Go.Proofs.Tryz.prog (keepOf keep97) body97 (retK Go.Proofs.Tryz.prog (Go.Proofs.Tryz.f97).results.toList k kp) (frameOf 0 [t0]) σ = F97 t0 σ k kp := by kernel_rfl
theorem F97_ev {t0 : AV} {σ : AHeap} {k kp : AV → AHeap → Prop} (h : F97 t0 σ k kp) : Ev Go.Proofs.Tryz.prog 97 [t0] σ k kp :=
  Ev_of_aw mixed Go.Proofs.Tryz.func97 (show (Go.Proofs.Tryz.f97).body = some body97 by kernel_rfl) (by kernel_rfl) (args := [t0]) (of_decide_eq_true (by kernel_rfl)) (keepOf keep97) (by kernel_rfl) (by rw [F97_eq]; exact h)

/-- cmp.isNaN[uint8] -/
def F113 (t0 : AV) (σ : AHeap) (k kp : AV → AHeap → Prop) : Prop :=
  stepK (pureR σ (aBin .neq .prim t0 t0)) fun t5 σ =>
  k t5 σ
def keep113 : List (Nat × List Nat) := [(0, [0]), (1, [2])]
noncomputable def body113 : Code := (Go.Proofs.Tryz.f113).body.getD .skip
theorem F113_eq (t0 : AV) (σ : AHeap) (k kp : AV → AHeap → Prop) : aw Go.Proofs.Tryz.prog (keepOf keep113) body113 (retK Go.Proofs.Tryz.prog (Go.Proofs.Tryz.f113).results.toList k kp) (frameOf 0 [t0]) σ = F113 t0 σ k kp := by kernel_rfl
theorem F113_ev {t0 : AV} {σ : AHeap} {k kp : AV → AHeap → Prop} (h : F113 t0 σ k kp) : Ev Go.Proofs.Tryz.prog 113 [t0] σ k kp :=
  Ev_of_aw mixed Go.Proofs.Tryz.func113 (show (Go.Proofs.Tryz.f113).body = some body113 by kernel_rfl) (by kernel_rfl) (args := [t0]) (of_decide_eq_true (by kernel_rfl)) (keepOf keep113) (by kernel_rfl) (by rw [F113_eq]; exact h)

/-- cmp.isNaN[int] -/
def F114 (t0 : AV) (σ : AHeap) (k kp : AV → AHeap → Prop) : Prop :=
  stepK (pureR σ (aBin .neq .prim t0 t0)) fun t5 σ =>
  k t5 σ
def keep114 : List (Nat × List Nat) := [(0, [0]), (1, [2])]
noncomputable def body114 : Code := (Go.Proofs.Tryz.f114).body.getD .skip
theorem F114_eq (t0 : AV) (σ : AHeap) (k kp : AV → AHeap → Prop) : aw Go.Proofs.Tryz.prog (keepOf keep114) body114 (retK Go.Proofs.Tryz.prog (Go.Proofs.Tryz.f114).results.toList k kp) (frameOf 0 [t0]) σ = F114 t0 σ k kp := by kernel_rfl
theorem F114_ev {t0 : AV} {σ : AHeap} {k kp : AV → AHeap → Prop} (h : F114 t0 σ k kp) : Ev Go.Proofs.Tryz.prog 114 [t0] σ k kp :=
  Ev_of_aw mixed Go.Proofs.Tryz.func114 (show (Go.Proofs.Tryz.f114).body = some body114 by kernel_rfl) (by kernel_rfl) (args := [t0]) (of_decide_eq_true (by kernel_rfl)) (keepOf keep114) (by kernel_rfl) (by rw [F114_eq]; exact h)

/-- cmp.isNaN[string] -/
def F115 (t0 : AV) (σ : AHeap) (k kp : AV → AHeap → Prop) : Prop :=
  stepK (pureR σ (aBin .neq .prim t0 t0)) fun t5 σ =>
  k t5 σ
def keep115 : List (Nat × List Nat) := [(0, [0]), (1, [2])]
noncomputable def body115 : Code := (Go.Proofs.Tryz.f115).body.getD .skip
theorem F115_eq (t0 : AV) (σ : AHeap) (k kp : AV → AHeap → Prop) : aw Go.Proofs.Tryz.prog (keepOf keep115) body115 (retK Go.Proofs.Tryz.prog (Go.Proofs.Tryz.f115).results.toList k kp) (frameOf 0 [t0]) σ = F115 t0 σ k kp := by kernel_rfl
theorem F115_ev {t0 : AV} {σ : AHeap} {k kp : AV → AHeap → Prop} (h : F115 t0 σ k kp) : Ev Go.Proofs.Tryz.prog 115 [t0] σ k kp :=
  Ev_of_aw mixed Go.Proofs.Tryz.func115 (show (Go.Proofs.Tryz.f115).body = some body115 by kernel_rfl) (by kernel_rfl) (args := [t0]) (of_decide_eq_true (by kernel_rfl)) (keepOf keep115) (by kernel_rfl) (by rw [F115_eq]; exact h)

/-- slices.IndexFunc[[]enclave/api.RType,enclave/api.RType] -/
def F116 (t0 t1 : AV) (σ : AHeap) (k kp : AV → AHeap → Prop) : Prop :=
  seqW (fun fr σ => (
  k (.val (Go.Value.int Go.IntKind.i64 (-1))) σ
  )) (fun j1 => (
  stepK (pureR σ (aLenK .slice t0 σ)) fun t7 σ =>
  loopW (fun fr σ again => (
  stepK (pureR σ (aBin .lss .prim (Abs.look fr 8) (Abs.look fr 7))) fun t9 σ =>
  condK t9 (
  stepK (pureR σ (aIndexAddr 4 (Abs.look fr 0) (Abs.look fr 8) σ)) fun t14 σ =>
  stepK (pureR σ (aLoad true 4 t14 σ)) fun t15 σ =>
  callK Go.Proofs.Tryz.prog (Abs.look fr 1) [t15] σ (fun t16 σ =>
  condK t16 (
  k (Abs.look fr 8) σ
  ) (
  stepK (pureR σ (aBin .add .prim (Abs.look fr 8) (.val (Go.Value.int Go.IntKind.i64 1)))) fun t18 σ =>
  again [(0, (Abs.look fr 0)), (1, (Abs.look fr 1)), (7, (Abs.look fr 7)), (8, t18)] σ
  )
  ) kp) (
  j1 [(0, (Abs.look fr 0))] σ
  )
  )) [(0, t0), (1, t1), (7, t7), (8, (.val (Go.Value.int Go.IntKind.i64 0)))] σ
  ))
def keep116 : List (Nat × List Nat) := [(0, [0, 1]), (3008, [0]), (1, [0, 1, 7, 8]), (2, [0, 1, 7, 8, 9]), (3, [0, 1, 5, 7, 8]), (4, [0, 1, 5, 7, 8, 16]), (5, [4]), (6, [0, 1, 7, 8]), (1002, [0, 1, 7, 8]), (7, [4])]
noncomputable def body116 : Code := (Go.Proofs.Tryz.f116).body.getD .skip
theorem F116_eq (t0 t1 : AV) (σ : AHeap) (k kp : AV → AHeap → Prop) : aw Go.Proofs.Tryz.prog (keepOf keep116) body116 (retK Go.Proofs.Tryz.prog (Go.Proofs.Tryz.f116).results.toList k kp) (frameOf 0 [t0, t1]) σ = F116 t0 t1 σ k kp := by kernel_rfl
theorem F116_ev {t0 t1 : AV} {σ : AHeap} {k kp : AV → AHeap → Prop} (h : F116 t0 t1 σ k kp) : Ev Go.Proofs.Tryz.prog 116 [t0, t1] σ k kp :=
  Ev_of_aw mixed Go.Proofs.Tryz.func116 (show (Go.Proofs.Tryz.f116).body = some body116 by kernel_rfl) (by kernel_rfl) (args := [t0, t1]) (of_decide_eq_true (by kernel_rfl)) (keepOf keep116) (by kernel_rfl) (by rw [F116_eq]; exact h)

end Go.Proofs.AtD
