import Derived.Test.YtjilebpcaemopaaGreatDoorAbsK
import Derived.Test.YtjilebpcaemopaaGreatDoorProg
import Derived.KernelRfl
set_option maxRecDepth 100000
set_option linter.unusedVariables false
namespace Go.Proofs.AtD
open Go Go.Abs

theorem mixed : Go.Proofs.Tryz.prog.follows .mixedOrders = true := by kernel_rfl

/-- enclave/effect.May -/
def F76 (t0 : AV) (σ : AHeap) (k kp : AV → AHeap → Prop) : Prop :=
  seqW (fun fr σ => (
  k (.val (Go.Value.bool Bool.true)) σ
  )) (fun j1 => (
  stepK (pureR σ (aLenK .slice t0 σ)) fun t6 σ =>
  loopW (fun fr σ again => (
  stepK (pureR σ (aBin .lss .prim (Abs.look fr 7) (Abs.look fr 6))) fun t8 σ =>
  condK t8 (
  stepK (pureR σ (aIndexAddr 3 (Abs.look fr 5) (Abs.look fr 7) σ)) fun t10 σ =>
  stepK (pureR σ (aLoad true 3 t10 σ)) fun t11 σ =>
  stepK (aAlloc [.val (.int .u8 0), .val (.int .i64 0), .val (.string ByteArray.empty)] σ) fun t4 σ =>
  stepK (unitR (aStore 3 t4 t11 σ)) fun _ σ =>
  stepK (pureR σ (aLoad true 3 t4 σ)) fun t12 σ =>
  Ev Go.Proofs.Tryz.prog 120 [t12] σ (fun t13 σ =>
  stepK (pureR σ (aNot t13)) fun t14 σ =>
  gK t14 false (fun K => K (Abs.look fr 7) σ) (fun t16 σ =>
  gK t14 false (fun K => stepK (pureR σ (aBin .gtr .prim t16 (.val (Go.Value.int Go.IntKind.i64 0)))) K) (fun t17 σ =>
  gK t14 false (fun K => K t17 σ) (fun t18 σ =>
  gK t18 true (fun K => K (Abs.look fr 0) σ) (fun t19 σ =>
  gK t18 true (fun K => K (Abs.look fr 7) σ) (fun t20 σ =>
  gK t18 true (fun K => stepK (pureR σ (aBin .sub .prim t20 (.val (Go.Value.int Go.IntKind.i64 1)))) K) (fun t21 σ =>
  gK t18 true (fun K => stepK (pureR σ (aIndexAddr 3 t19 t21 σ)) K) (fun t22 σ =>
  gK t18 true (fun K => stepK (pureR σ (aLoad true 3 t22 σ)) K) (fun t23 σ =>
  gK t18 true (fun K => stepK (pureR σ (aLoad true 3 t4 σ)) K) (fun t24 σ =>
  gK t18 true (fun K => Ev Go.Proofs.Tryz.prog 121 [t23, t24] σ K kp) (fun t25 σ =>
  gK t18 true (fun K => stepK (pureR σ (aBin .geq .prim t25 (.val (Go.Value.int Go.IntKind.i64 0)))) K) (fun t26 σ =>
  gK t14 false (fun K => stepK (pureR σ (aPick t18 t26 (.val (Go.Value.bool Bool.false)))) K) (fun t27 σ =>
  stepK (pureR σ (aPick t14 (.val (Go.Value.bool Bool.true)) t27)) fun t28 σ =>
  condK t28 (
  k (.val (Go.Value.bool Bool.false)) σ
  ) (
  stepK (pureR σ (aBin .add .prim (Abs.look fr 7) (.val (Go.Value.int Go.IntKind.i64 1)))) fun t29 σ =>
  again [(0, (Abs.look fr 0)), (5, (Abs.look fr 5)), (6, (Abs.look fr 6)), (7, t29)] σ
  )
  ) σ) σ) σ) σ) σ) σ) σ) σ) σ) σ) σ) σ) kp) (
  j1 [(0, (Abs.look fr 0))] σ
  )
  )) [(0, t0), (5, t0), (6, t6), (7, (.val (Go.Value.int Go.IntKind.i64 0)))] σ
  ))
def keep76 : List (Nat × List Nat) := [(0, [0]), (3008, [0]), (1, [0, 5, 6, 7]), (2, [0, 5, 6, 7, 8]), (3, [0, 3, 4, 5, 6, 7]), (4, [0, 5, 6, 7, 28]), (2004, [0, 1, 2, 3, 4, 5, 6, 7, 8, 9, 10, 11, 12, 13, 14, 15, 16]), (5, [2]), (6, [0, 5, 6, 7]), (1002, [0, 5, 6, 7]), (7, [2])]
noncomputable def body76 : Code := (Go.Proofs.Tryz.f76).body.getD .skip
theorem F76_eq (t0 : AV) (σ : AHeap) (k kp : AV → AHeap → Prop) : aw Go.Proofs.Tryz.prog (keepOf keep76) body76 (retK Go.Proofs.Tryz.prog (Go.Proofs.Tryz.f76).results.toList k kp) (frameOf 0 [t0]) σ = F76 t0 σ k kp := by kernel_rfl
theorem F76_ev {t0 : AV} {σ : AHeap} {k kp : AV → AHeap → Prop} (h : F76 t0 σ k kp) : Ev Go.Proofs.Tryz.prog 76 [t0] σ k kp :=
  Ev_of_aw mixed Go.Proofs.Tryz.func76 (show (Go.Proofs.Tryz.f76).body = some body76 by kernel_rfl) (by kernel_rfl) (args := [t0]) (of_decide_eq_true (by kernel_rfl)) (keepOf keep76) (by kernel_rfl) (by rw [F76_eq]; exact h)

/-- enclave/effect.compare -/
def F121 (t0 t1 : AV) (σ : AHeap) (k kp : AV → AHeap → Prop) : Prop :=
  stepK (aBox t0 σ) fun t2 σ =>
  stepK (aBox t1 σ) fun t3 σ =>
  stepK (pureR σ (aFieldAddr 0 t2)) fun t5 σ =>
  stepK (pureR σ (aLoad false 1 t5 σ)) fun t6 σ =>
  stepK (pureR σ (aFieldAddr 0 t3)) fun t7 σ =>
  stepK (pureR σ (aLoad false 1 t7 σ)) fun t8 σ =>
  stepK (pureR σ (aFieldAddr 1 t2)) fun t10 σ =>
  stepK (pureR σ (aLoad false 1 t10 σ)) fun t11 σ =>
  stepK (pureR σ (aFieldAddr 1 t3)) fun t12 σ =>
  stepK (pureR σ (aLoad false 1 t12 σ)) fun t13 σ =>
  stepK (pureR σ (aFieldAddr 2 t2)) fun t15 σ =>
  stepK (pureR σ (aLoad false 1 t15 σ)) fun t16 σ =>
  stepK (pureR σ (aFieldAddr 2 t3)) fun t17 σ =>
  stepK (pureR σ (aLoad false 1 t17 σ)) fun t18 σ =>
  Ev Go.Proofs.Tryz.prog 165 [t6, t8] σ (fun t9 σ =>
  (stepK (pureR σ (aLoad false 1 t10 σ)) (fun y θ => y = t11 ∧ θ = σ)) ∧ (
  (stepK (pureR σ (aLoad false 1 t12 σ)) (fun y θ => y = t13 ∧ θ = σ)) ∧ (
  (stepK (pureR σ (aLoad false 1 t15 σ)) (fun y θ => y = t16 ∧ θ = σ)) ∧ (
  (stepK (pureR σ (aLoad false 1 t17 σ)) (fun y θ => y = t18 ∧ θ = σ)) ∧ (
  Ev Go.Proofs.Tryz.prog 166 [t11, t13] σ (fun t14 σ =>
  (stepK (pureR σ (aLoad false 1 t15 σ)) (fun y θ => y = t16 ∧ θ = σ)) ∧ (
  (stepK (pureR σ (aLoad false 1 t17 σ)) (fun y θ => y = t18 ∧ θ = σ)) ∧ (
  Ev Go.Proofs.Tryz.prog 167 [t16, t18] σ (fun t19 σ =>
  stepK (pureR σ (aBuildSl 3 1 [.val (.int .i64 0)] [(0, t9), (1, t14), (2, t19)])) fun t20 σ =>
  Ev Go.Proofs.Tryz.prog 164 [t20] σ (fun t21 σ =>
  k t21 σ) kp) kp))) kp))))) kp
def keep121 : List (Nat × List Nat) := [(0, [2, 3]), (1, [4]), (2001, [0, 1, 2, 3, 5, 6, 7, 8, 10, 11, 12, 13, 4, 9, 14, 15, 16, 17]), (101004, [6, 8, 11, 13]), (101009, [11, 13])]
noncomputable def body121 : Code := (Go.Proofs.Tryz.f121).body.getD .skip
theorem F121_eq (t0 t1 : AV) (σ : AHeap) (k kp : AV → AHeap → Prop) : aw Go.Proofs.Tryz.prog (keepOf keep121) body121 (retK Go.Proofs.Tryz.prog (Go.Proofs.Tryz.f121).results.toList k kp) (frameOf 0 [t0, t1]) σ = F121 t0 t1 σ k kp := by kernel_rfl
theorem F121_ev {t0 t1 : AV} {σ : AHeap} {k kp : AV → AHeap → Prop} (h : F121 t0 t1 σ k kp) : Ev Go.Proofs.Tryz.prog 121 [t0, t1] σ k kp :=
  Ev_of_aw mixed Go.Proofs.Tryz.func121 (show (Go.Proofs.Tryz.f121).body = some body121 by kernel_rfl) (by kernel_rfl) (args := [t0, t1]) (of_decide_eq_true (by kernel_rfl)) (keepOf keep121) (by kernel_rfl) (by rw [F121_eq]; exact h)

/-- enclave/rtype.May -/
def F122 (t0 : AV) (σ : AHeap) (k kp : AV → AHeap → Prop) : Prop :=
  Ev Go.Proofs.Tryz.prog 168 [t0, (.fn (.func 169) [])] σ (fun t4 σ =>
  stepK (pureR σ (aNot t4)) fun t5 σ =>
  k t5 σ) kp
def keep122 : List (Nat × List Nat) := [(0, [0]), (1, [2])]
noncomputable def body122 : Code := (Go.Proofs.Tryz.f122).body.getD .skip
theorem F122_eq (t0 : AV) (σ : AHeap) (k kp : AV → AHeap → Prop) : aw Go.Proofs.Tryz.prog (keepOf keep122) body122 (retK Go.Proofs.Tryz.prog (Go.Proofs.Tryz.f122).results.toList k kp) (frameOf 0 [t0]) σ = F122 t0 σ k kp := by kernel_rfl
theorem F122_ev {t0 : AV} {σ : AHeap} {k kp : AV → AHeap → Prop} (h : F122 t0 σ k kp) : Ev Go.Proofs.Tryz.prog 122 [t0] σ k kp :=
  Ev_of_aw mixed Go.Proofs.Tryz.func122 (show (Go.Proofs.Tryz.f122).body = some body122 by kernel_rfl) (by kernel_rfl) (args := [t0]) (of_decide_eq_true (by kernel_rfl)) (keepOf keep122) (by kernel_rfl) (by rw [F122_eq]; exact h)

/-- cmp.Or[int] -/
def F164 (t0 : AV) (σ : AHeap) (k kp : AV → AHeap → Prop) : Prop :=
  seqW (fun fr σ => (
  k (Abs.look fr 3) σ
  )) (fun j1 => (
  stepK (pureR σ (aLenK .slice t0 σ)) fun t7 σ =>
  loopW (fun fr σ again => (
  stepK (pureR σ (aBin .lss .prim (Abs.look fr 8) (Abs.look fr 7))) fun t9 σ =>
  condK t9 (
  stepK (pureR σ (aIndexAddr 1 (Abs.look fr 6) (Abs.look fr 8) σ)) fun t10 σ =>
  stepK (pureR σ (aLoad false 1 t10 σ)) fun t11 σ =>
  stepK (pureR σ (aBin .neq .prim t11 (Abs.look fr 3))) fun t14 σ =>
  condK t14 (
  k t11 σ
  ) (
  stepK (pureR σ (aBin .add .prim (Abs.look fr 8) (.val (Go.Value.int Go.IntKind.i64 1)))) fun t16 σ =>
  again [(3, (Abs.look fr 3)), (6, (Abs.look fr 6)), (7, (Abs.look fr 7)), (8, t16)] σ
  )
  ) (
  j1 [(3, (Abs.look fr 3))] σ
  )
  )) [(3, (.val (Go.Value.int Go.IntKind.i64 0))), (6, t0), (7, t7), (8, (.val (Go.Value.int Go.IntKind.i64 0)))] σ
  ))
def keep164 : List (Nat × List Nat) := [(0, [0]), (1, [0, 3]), (3009, [3]), (2, [3, 6, 7, 8]), (3, [3, 6, 7, 8, 9]), (4, [3, 5, 6, 7, 8]), (5, [3, 5, 6, 7, 8, 14]), (6, [2]), (7, [3, 6, 7, 8]), (1003, [3, 6, 7, 8]), (8, [2])]
noncomputable def body164 : Code := (Go.Proofs.Tryz.f164).body.getD .skip
theorem F164_eq (t0 : AV) (σ : AHeap) (k kp : AV → AHeap → Prop) : aw Go.Proofs.Tryz.prog (keepOf keep164) body164 (retK Go.Proofs.Tryz.prog (Go.Proofs.Tryz.f164).results.toList k kp) (frameOf 0 [t0]) σ = F164 t0 σ k kp := by kernel_rfl
theorem F164_ev {t0 : AV} {σ : AHeap} {k kp : AV → AHeap → Prop} (h : F164 t0 σ k kp) : Ev Go.Proofs.Tryz.prog 164 [t0] σ k kp :=
  Ev_of_aw mixed Go.Proofs.Tryz.func164 (show (Go.Proofs.Tryz.f164).body = some body164 by kernel_rfl) (by kernel_rfl) (args := [t0]) (of_decide_eq_true (by kernel_rfl)) (keepOf keep164) (by kernel_rfl) (by rw [F164_eq]; exact h)

/-- cmp.Compare[uint8] -/
def F165 (t0 t1 : AV) (σ : AHeap) (k kp : AV → AHeap → Prop) : Prop :=
  Ev Go.Proofs.Tryz.prog 189 [t0] σ (fun t8 σ =>
  Ev Go.Proofs.Tryz.prog 189 [t1] σ (fun t10 σ =>
  condK t8 (
  condK t10 (
  k (.val (Go.Value.int Go.IntKind.i64 0)) σ
  ) (
  k (.val (Go.Value.int Go.IntKind.i64 (-1))) σ
  )
  ) (
  condK t10 (
  k (.val (Go.Value.int Go.IntKind.i64 1)) σ
  ) (
  stepK (pureR σ (aBin .lss .prim t0 t1)) fun t16 σ =>
  condK t16 (
  k (.val (Go.Value.int Go.IntKind.i64 (-1))) σ
  ) (
  stepK (pureR σ (aBin .gtr .prim t0 t1)) fun t19 σ =>
  condK t19 (
  k (.val (Go.Value.int Go.IntKind.i64 1)) σ
  ) (
  k (.val (Go.Value.int Go.IntKind.i64 0)) σ
  )
  )
  )
  )) kp) kp
def keep165 : List (Nat × List Nat) := [(0, [0, 1]), (1, [0, 1, 5]), (2, [0, 1, 5, 6]), (3, [0, 1, 6, 11]), (4, [12]), (5, [4]), (6, [4]), (7, [0, 1, 13]), (8, [4]), (9, [0, 1, 16]), (10, [4]), (11, [19]), (12, [4]), (13, [4])]
noncomputable def body165 : Code := (Go.Proofs.Tryz.f165).body.getD .skip
theorem F165_eq (t0 t1 : AV) (σ : AHeap) (k kp : AV → AHeap → Prop) : aw Go.Proofs.Tryz.prog (keepOf keep165) body165 (retK Go.Proofs.Tryz.prog (Go.Proofs.Tryz.f165).results.toList k kp) (frameOf 0 [t0, t1]) σ = F165 t0 t1 σ k kp := by kernel_rfl
theorem F165_ev {t0 t1 : AV} {σ : AHeap} {k kp : AV → AHeap → Prop} (h : F165 t0 t1 σ k kp) : Ev Go.Proofs.Tryz.prog 165 [t0, t1] σ k kp :=
  Ev_of_aw mixed Go.Proofs.Tryz.func165 (show (Go.Proofs.Tryz.f165).body = some body165 by kernel_rfl) (by kernel_rfl) (args := [t0, t1]) (of_decide_eq_true (by kernel_rfl)) (keepOf keep165) (by kernel_rfl) (by rw [F165_eq]; exact h)

/-- cmp.Compare[int] -/
def F166 (t0 t1 : AV) (σ : AHeap) (k kp : AV → AHeap → Prop) : Prop :=
  Ev Go.Proofs.Tryz.prog 190 [t0] σ (fun t8 σ =>
  Ev Go.Proofs.Tryz.prog 190 [t1] σ (fun t10 σ =>
  condK t8 (
  condK t10 (
  k (.val (Go.Value.int Go.IntKind.i64 0)) σ
  ) (
  k (.val (Go.Value.int Go.IntKind.i64 (-1))) σ
  )
  ) (
  condK t10 (
  k (.val (Go.Value.int Go.IntKind.i64 1)) σ
  ) (
  stepK (pureR σ (aBin .lss .prim t0 t1)) fun t16 σ =>
  condK t16 (
  k (.val (Go.Value.int Go.IntKind.i64 (-1))) σ
  ) (
  stepK (pureR σ (aBin .gtr .prim t0 t1)) fun t19 σ =>
  condK t19 (
  k (.val (Go.Value.int Go.IntKind.i64 1)) σ
  ) (
  k (.val (Go.Value.int Go.IntKind.i64 0)) σ
  )
  )
  )
  )) kp) kp
def keep166 : List (Nat × List Nat) := [(0, [0, 1]), (1, [0, 1, 5]), (2, [0, 1, 5, 6]), (3, [0, 1, 6, 11]), (4, [12]), (5, [4]), (6, [4]), (7, [0, 1, 13]), (8, [4]), (9, [0, 1, 16]), (10, [4]), (11, [19]), (12, [4]), (13, [4])]
noncomputable def body166 : Code := (Go.Proofs.Tryz.f166).body.getD .skip
theorem F166_eq (t0 t1 : AV) (σ : AHeap) (k kp : AV → AHeap → Prop) : aw Go.Proofs.Tryz.prog (keepOf keep166) body166 (retK Go.Proofs.Tryz.prog (Go.Proofs.Tryz.f166).results.toList k kp) (frameOf 0 [t0, t1]) σ = F166 t0 t1 σ k kp := by kernel_rfl
theorem F166_ev {t0 t1 : AV} {σ : AHeap} {k kp : AV → AHeap → Prop} (h : F166 t0 t1 σ k kp) : Ev Go.Proofs.Tryz.prog 166 [t0, t1] σ k kp :=
  Ev_of_aw mixed Go.Proofs.Tryz.func166 (show (Go.Proofs.Tryz.f166).body = some body166 by kernel_rfl) (by kernel_rfl) (args := [t0, t1]) (of_decide_eq_true (by kernel_rfl)) (keepOf keep166) (by kernel_rfl) (by rw [F166_eq]; exact h)

/-- cmp.Compare[string] -/
def F167 (t0 t1 : AV) (σ : AHeap) (k kp : AV → AHeap → Prop) : Prop :=
  Ev Go.Proofs.Tryz.prog 191 [t0] σ (fun t8 σ =>
  Ev Go.Proofs.Tryz.prog 191 [t1] σ (fun t10 σ =>
  condK t8 (
  condK t10 (
  k (.val (Go.Value.int Go.IntKind.i64 0)) σ
  ) (
  k (.val (Go.Value.int Go.IntKind.i64 (-1))) σ
  )
  ) (
  condK t10 (
  k (.val (Go.Value.int Go.IntKind.i64 1)) σ
  ) (
  stepK (pureR σ (aBin .lss .prim t0 t1)) fun t16 σ =>
  condK t16 (
  k (.val (Go.Value.int Go.IntKind.i64 (-1))) σ
  ) (
  stepK (pureR σ (aBin .gtr .prim t0 t1)) fun t19 σ =>
  condK t19 (
  k (.val (Go.Value.int Go.IntKind.i64 1)) σ
  ) (
  k (.val (Go.Value.int Go.IntKind.i64 0)) σ
  )
  )
  )
  )) kp) kp
def keep167 : List (Nat × List Nat) := [(0, [0, 1]), (1, [0, 1, 5]), (2, [0, 1, 5, 6]), (3, [0, 1, 6, 11]), (4, [12]), (5, [4]), (6, [4]), (7, [0, 1, 13]), (8, [4]), (9, [0, 1, 16]), (10, [4]), (11, [19]), (12, [4]), (13, [4])]
noncomputable def body167 : Code := (Go.Proofs.Tryz.f167).body.getD .skip
theorem F167_eq (t0 t1 : AV) (σ : AHeap) (k kp : AV → AHeap → Prop) : aw Go.Proofs.Tryz.prog (keepOf keep167) body167 (retK Go.Proofs.Tryz.prog (Go.Proofs.Tryz.f167).results.toList k kp) (frameOf 0 [t0, t1]) σ = F167 t0 t1 σ k kp := by kernel_rfl
theorem F167_ev {t0 t1 : AV} {σ : AHeap} {k kp : AV → AHeap → Prop} (h : F167 t0 t1 σ k kp) : Ev Go.Proofs.Tryz.prog 167 [t0, t1] σ k kp :=
  Ev_of_aw mixed Go.Proofs.Tryz.func167 (show (Go.Proofs.Tryz.f167).body = some body167 by kernel_rfl) (by kernel_rfl) (args := [t0, t1]) (of_decide_eq_true (by kernel_rfl)) (keepOf keep167) (by kernel_rfl) (by rw [F167_eq]; exact h)

/-- slices.ContainsFunc[[]enclave/api.RType,enclave/api.RType] -/
def F168 (t0 t1 : AV) (σ : AHeap) (k kp : AV → AHeap → Prop) : Prop :=
  Ev Go.Proofs.Tryz.prog 192 [t0, t1] σ (fun t7 σ =>
  stepK (pureR σ (aBin .geq .prim t7 (.val (Go.Value.int Go.IntKind.i64 0)))) fun t8 σ =>
  k t8 σ) kp
def keep168 : List (Nat × List Nat) := [(0, [0, 1]), (1, [4])]
noncomputable def body168 : Code := (Go.Proofs.Tryz.f168).body.getD .skip
theorem F168_eq (t0 t1 : AV) (σ : AHeap) (k kp : AV → AHeap → Prop) : aw Go.Proofs.Tryz.prog (keepOf keep168) body168 (retK Go.Proofs.Tryz.prog (Go.Proofs.Tryz.f168).results.toList k kp) (frameOf 0 [t0, t1]) σ = F168 t0 t1 σ k kp := by kernel_rfl
theorem F168_ev {t0 t1 : AV} {σ : AHeap} {k kp : AV → AHeap → Prop} (h : F168 t0 t1 σ k kp) : Ev Go.Proofs.Tryz.prog 168 [t0, t1] σ k kp :=
  Ev_of_aw mixed Go.Proofs.Tryz.func168 (show (Go.Proofs.Tryz.f168).body = some body168 by kernel_rfl) (by kernel_rfl) (args := [t0, t1]) (of_decide_eq_true (by kernel_rfl)) (keepOf keep168) (by kernel_rfl) (by rw [F168_eq]; exact h)

/-- enclave/rtype.May$1 -/
def F169 (t0 : AV) (σ : AHeap) (k kp : AV → AHeap → Prop) : Prop :=
  stepK (aBox t0 σ) fun t1 σ =>
  stepK (pureR σ (aLoad true 4 t1 σ)) fun t3 σ =>
  Ev Go.Proofs.Tryz.prog 170 [t3] σ (fun t4 σ =>
  stepK (pureR σ (aNot t4)) fun t5 σ =>
  gK t5 false (fun K => stepK (pureR σ (aFieldAddr 3 t1)) K) (fun t7 σ =>
  gK t5 false (fun K => stepK (pureR σ (aLoad false 1 t7 σ)) K) (fun t8 σ =>
  gK t5 false (fun K => Ev Go.Proofs.Tryz.prog 122 [t8] σ K kp) (fun t9 σ =>
  gK t5 false (fun K => stepK (pureR σ (aNot t9)) K) (fun t10 σ =>
  stepK (pureR σ (aPick t5 (.val (Go.Value.bool Bool.true)) t10)) fun t11 σ =>
  k t11 σ) σ) σ) σ) σ) kp
def keep169 : List (Nat × List Nat) := [(0, [1]), (1, [2])]
noncomputable def body169 : Code := (Go.Proofs.Tryz.f169).body.getD .skip
theorem F169_eq (t0 : AV) (σ : AHeap) (k kp : AV → AHeap → Prop) : aw Go.Proofs.Tryz.prog (keepOf keep169) body169 (retK Go.Proofs.Tryz.prog (Go.Proofs.Tryz.f169).results.toList k kp) (frameOf 0 [t0]) σ = F169 t0 σ k kp := by kernel_rfl
theorem F169_ev {t0 : AV} {σ : AHeap} {k kp : AV → AHeap → Prop} (h : F169 t0 σ k kp) : Ev Go.Proofs.Tryz.prog 169 [t0] σ k kp :=
  Ev_of_aw mixed Go.Proofs.Tryz.func169 (show (Go.Proofs.Tryz.f169).body = some body169 by kernel_rfl) (by kernel_rfl) (args := [t0]) (of_decide_eq_true (by kernel_rfl)) (keepOf keep169) (by kernel_rfl) (by rw [F169_eq]; exact h)

/-- enclave/rtype.node -/
def F170 (t0 : AV) (σ : AHeap) (k kp : AV → AHeap → Prop) : Prop :=
  stepK (aBox t0 σ) fun t1 σ =>
  stepK (pureR σ (aFieldAddr 0 t1)) fun t3 σ =>
  stepK (pureR σ (aLoad false 1 t3 σ)) fun t4 σ =>
  stepK (pureR σ (aBin .eql .prim t4 (.val (Go.Value.int Go.IntKind.u8 1)))) fun t6 σ =>
  condK t6 (
  stepK (pureR σ (aFieldAddr 1 t1)) fun t7 σ =>
  stepK (pureR σ (aLoad false 1 t7 σ)) fun t8 σ =>
  stepK (pureR σ (aBin .eql .prim t8 (.val (Go.Value.int Go.IntKind.i64 0)))) fun t9 σ =>
  gK t9 true (fun K => stepK (pureR σ (aFieldAddr 2 t1)) K) (fun t11 σ =>
  gK t9 true (fun K => stepK (pureR σ (aLoad false 1 t11 σ)) K) (fun t12 σ =>
  gK t9 true (fun K => stepK (pureR σ (aLenK .slice t12 σ)) K) (fun t13 σ =>
  gK t9 true (fun K => stepK (pureR σ (aBin .eql .prim t13 (.val (Go.Value.int Go.IntKind.i64 0)))) K) (fun t14 σ =>
  stepK (pureR σ (aPick t9 t14 (.val (Go.Value.bool Bool.false)))) fun t15 σ =>
  gK t15 true (fun K => stepK (pureR σ (aFieldAddr 3 t1)) K) (fun t17 σ =>
  gK t15 true (fun K => stepK (pureR σ (aLoad false 1 t17 σ)) K) (fun t18 σ =>
  gK t15 true (fun K => stepK (pureR σ (aLenK .slice t18 σ)) K) (fun t19 σ =>
  gK t15 true (fun K => stepK (pureR σ (aBin .eql .prim t19 (.val (Go.Value.int Go.IntKind.i64 0)))) K) (fun t20 σ =>
  stepK (pureR σ (aPick t15 t20 (.val (Go.Value.bool Bool.false)))) fun t21 σ =>
  k t21 σ
  ) σ) σ) σ) σ) σ) σ) σ) σ) (
  stepK (pureR σ (aBin .eql .prim t4 (.val (Go.Value.int Go.IntKind.u8 2)))) fun t23 σ =>
  condK t23 (
  stepK (pureR σ (aFieldAddr 1 t1)) fun t24 σ =>
  stepK (pureR σ (aLoad false 1 t24 σ)) fun t25 σ =>
  stepK (pureR σ (aBin .geq .prim t25 (.val (Go.Value.int Go.IntKind.i64 0)))) fun t26 σ =>
  gK t26 true (fun K => stepK (pureR σ (aFieldAddr 2 t1)) K) (fun t28 σ =>
  gK t26 true (fun K => stepK (pureR σ (aLoad false 1 t28 σ)) K) (fun t29 σ =>
  gK t26 true (fun K => stepK (pureR σ (aLenK .slice t29 σ)) K) (fun t30 σ =>
  gK t26 true (fun K => stepK (pureR σ (aBin .eql .prim t30 (.val (Go.Value.int Go.IntKind.i64 0)))) K) (fun t31 σ =>
  stepK (pureR σ (aPick t26 t31 (.val (Go.Value.bool Bool.false)))) fun t32 σ =>
  gK t32 true (fun K => stepK (pureR σ (aFieldAddr 3 t1)) K) (fun t34 σ =>
  gK t32 true (fun K => stepK (pureR σ (aLoad false 1 t34 σ)) K) (fun t35 σ =>
  gK t32 true (fun K => stepK (pureR σ (aLenK .slice t35 σ)) K) (fun t36 σ =>
  gK t32 true (fun K => stepK (pureR σ (aBin .eql .prim t36 (.val (Go.Value.int Go.IntKind.i64 2)))) K) (fun t37 σ =>
  stepK (pureR σ (aPick t32 t37 (.val (Go.Value.bool Bool.false)))) fun t38 σ =>
  k t38 σ
  ) σ) σ) σ) σ) σ) σ) σ) σ) (
  stepK (pureR σ (aBin .eql .prim t4 (.val (Go.Value.int Go.IntKind.u8 3)))) fun t40 σ =>
  condK t40 (
  stepK (pureR σ (aFieldAddr 1 t1)) fun t41 σ =>
  stepK (pureR σ (aLoad false 1 t41 σ)) fun t42 σ =>
  stepK (pureR σ (aBin .geq .prim t42 (.val (Go.Value.int Go.IntKind.i64 0)))) fun t43 σ =>
  gK t43 true (fun K => stepK (pureR σ (aFieldAddr 2 t1)) K) (fun t45 σ =>
  gK t43 true (fun K => stepK (pureR σ (aLoad false 1 t45 σ)) K) (fun t46 σ =>
  gK t43 true (fun K => stepK (pureR σ (aLenK .slice t46 σ)) K) (fun t47 σ =>
  gK t43 true (fun K => stepK (pureR σ (aBin .eql .prim t47 (.val (Go.Value.int Go.IntKind.i64 0)))) K) (fun t48 σ =>
  stepK (pureR σ (aPick t43 t48 (.val (Go.Value.bool Bool.false)))) fun t49 σ =>
  gK t49 true (fun K => stepK (pureR σ (aFieldAddr 3 t1)) K) (fun t51 σ =>
  gK t49 true (fun K => stepK (pureR σ (aLoad false 1 t51 σ)) K) (fun t52 σ =>
  gK t49 true (fun K => stepK (pureR σ (aLenK .slice t52 σ)) K) (fun t53 σ =>
  gK t49 true (fun K => stepK (pureR σ (aBin .eql .prim t53 (.val (Go.Value.int Go.IntKind.i64 1)))) K) (fun t54 σ =>
  stepK (pureR σ (aPick t49 t54 (.val (Go.Value.bool Bool.false)))) fun t55 σ =>
  k t55 σ
  ) σ) σ) σ) σ) σ) σ) σ) σ) (
  stepK (pureR σ (aBin .eql .prim t4 (.val (Go.Value.int Go.IntKind.u8 4)))) fun t57 σ =>
  condK t57 (
  stepK (pureR σ (aFieldAddr 1 t1)) fun t58 σ =>
  stepK (pureR σ (aLoad false 1 t58 σ)) fun t59 σ =>
  stepK (pureR σ (aBin .geq .prim t59 (.val (Go.Value.int Go.IntKind.i64 0)))) fun t60 σ =>
  gK t60 true (fun K => stepK (pureR σ (aFieldAddr 2 t1)) K) (fun t62 σ =>
  gK t60 true (fun K => stepK (pureR σ (aLoad false 1 t62 σ)) K) (fun t63 σ =>
  gK t60 true (fun K => Ev Go.Proofs.Tryz.prog 76 [t63] σ K kp) (fun t64 σ =>
  stepK (pureR σ (aPick t60 t64 (.val (Go.Value.bool Bool.false)))) fun t65 σ =>
  gK t65 true (fun K => stepK (pureR σ (aFieldAddr 3 t1)) K) (fun t67 σ =>
  gK t65 true (fun K => stepK (pureR σ (aLoad false 1 t67 σ)) K) (fun t68 σ =>
  gK t65 true (fun K => stepK (pureR σ (aLenK .slice t68 σ)) K) (fun t69 σ =>
  gK t65 true (fun K => stepK (pureR σ (aBin .eql .prim t69 (.val (Go.Value.int Go.IntKind.i64 2)))) K) (fun t70 σ =>
  stepK (pureR σ (aPick t65 t70 (.val (Go.Value.bool Bool.false)))) fun t71 σ =>
  k t71 σ
  ) σ) σ) σ) σ) σ) σ) σ) (
  k (.val (Go.Value.bool Bool.false)) σ
  )
  )
  )
  )
def keep170 : List (Nat × List Nat) := [(0, [1]), (1, [1, 4]), (2, [1, 4, 5]), (3, [2]), (4, [1, 4, 22]), (5, [2]), (6, [1, 4, 39]), (7, [2]), (8, [1, 56]), (9, [2]), (10, [2])]
noncomputable def body170 : Code := (Go.Proofs.Tryz.f170).body.getD .skip
theorem F170_eq (t0 : AV) (σ : AHeap) (k kp : AV → AHeap → Prop) : aw Go.Proofs.Tryz.prog (keepOf keep170) body170 (retK Go.Proofs.Tryz.prog (Go.Proofs.Tryz.f170).results.toList k kp) (frameOf 0 [t0]) σ = F170 t0 σ k kp := by kernel_rfl
theorem F170_ev {t0 : AV} {σ : AHeap} {k kp : AV → AHeap → Prop} (h : F170 t0 σ k kp) : Ev Go.Proofs.Tryz.prog 170 [t0] σ k kp :=
  Ev_of_aw mixed Go.Proofs.Tryz.func170 (show (Go.Proofs.Tryz.f170).body = some body170 by kernel_rfl) (by kernel_rfl) (args := [t0]) (of_decide_eq_true (by kernel_rfl)) (keepOf keep170) (by kernel_rfl) (by rw [F170_eq]; exact h)

/-- cmp.isNaN[uint8] -/
def F189 (t0 : AV) (σ : AHeap) (k kp : AV → AHeap → Prop) : Prop :=
  stepK (pureR σ (aBin .neq .prim t0 t0)) fun t5 σ =>
  k t5 σ
def keep189 : List (Nat × List Nat) := [(0, [0]), (1, [2])]
noncomputable def body189 : Code := (Go.Proofs.Tryz.f189).body.getD .skip
theorem F189_eq (t0 : AV) (σ : AHeap) (k kp : AV → AHeap → Prop) : aw Go.Proofs.Tryz.prog (keepOf keep189) body189 (retK Go.Proofs.Tryz.prog (Go.Proofs.Tryz.f189).results.toList k kp) (frameOf 0 [t0]) σ = F189 t0 σ k kp := by kernel_rfl
theorem F189_ev {t0 : AV} {σ : AHeap} {k kp : AV → AHeap → Prop} (h : F189 t0 σ k kp) : Ev Go.Proofs.Tryz.prog 189 [t0] σ k kp :=
  Ev_of_aw mixed Go.Proofs.Tryz.func189 (show (Go.Proofs.Tryz.f189).body = some body189 by kernel_rfl) (by kernel_rfl) (args := [t0]) (of_decide_eq_true (by kernel_rfl)) (keepOf keep189) (by kernel_rfl) (by rw [F189_eq]; exact h)

/-- cmp.isNaN[int] -/
def F190 (t0 : AV) (σ : AHeap) (k kp : AV → AHeap → Prop) : Prop :=
  stepK (pureR σ (aBin .neq .prim t0 t0)) fun t5 σ =>
  k t5 σ
def keep190 : List (Nat × List Nat) := [(0, [0]), (1, [2])]
noncomputable def body190 : Code := (Go.Proofs.Tryz.f190).body.getD .skip
theorem F190_eq (t0 : AV) (σ : AHeap) (k kp : AV → AHeap → Prop) : aw Go.Proofs.Tryz.prog (keepOf keep190) body190 (retK Go.Proofs.Tryz.prog (Go.Proofs.Tryz.f190).results.toList k kp) (frameOf 0 [t0]) σ = F190 t0 σ k kp := by kernel_rfl
theorem F190_ev {t0 : AV} {σ : AHeap} {k kp : AV → AHeap → Prop} (h : F190 t0 σ k kp) : Ev Go.Proofs.Tryz.prog 190 [t0] σ k kp :=
  Ev_of_aw mixed Go.Proofs.Tryz.func190 (show (Go.Proofs.Tryz.f190).body = some body190 by kernel_rfl) (by kernel_rfl) (args := [t0]) (of_decide_eq_true (by kernel_rfl)) (keepOf keep190) (by kernel_rfl) (by rw [F190_eq]; exact h)

/-- cmp.isNaN[string] -/
def F191 (t0 : AV) (σ : AHeap) (k kp : AV → AHeap → Prop) : Prop :=
  stepK (pureR σ (aBin .neq .prim t0 t0)) fun t5 σ =>
  k t5 σ
def keep191 : List (Nat × List Nat) := [(0, [0]), (1, [2])]
noncomputable def body191 : Code := (Go.Proofs.Tryz.f191).body.getD .skip
theorem F191_eq (t0 : AV) (σ : AHeap) (k kp : AV → AHeap → Prop) : aw Go.Proofs.Tryz.prog (keepOf keep191) body191 (retK Go.Proofs.Tryz.prog (Go.Proofs.Tryz.f191).results.toList k kp) (frameOf 0 [t0]) σ = F191 t0 σ k kp := by kernel_rfl
theorem F191_ev {t0 : AV} {σ : AHeap} {k kp : AV → AHeap → Prop} (h : F191 t0 σ k kp) : Ev Go.Proofs.Tryz.prog 191 [t0] σ k kp :=
  Ev_of_aw mixed Go.Proofs.Tryz.func191 (show (Go.Proofs.Tryz.f191).body = some body191 by kernel_rfl) (by kernel_rfl) (args := [t0]) (of_decide_eq_true (by kernel_rfl)) (keepOf keep191) (by kernel_rfl) (by rw [F191_eq]; exact h)

/-- slices.IndexFunc[[]enclave/api.RType,enclave/api.RType] -/
def F192 (t0 t1 : AV) (σ : AHeap) (k kp : AV → AHeap → Prop) : Prop :=
  seqW (fun fr σ => (
  k (.val (Go.Value.int Go.IntKind.i64 (-1))) σ
  )) (fun j1 => (
  stepK (pureR σ (aLenK .slice t0 σ)) fun t7 σ =>
  loopW (fun fr σ again => (
  stepK (pureR σ (aBin .lss .prim (Abs.look fr 8) (Abs.look fr 7))) fun t9 σ =>
  condK t9 (
  stepK (pureR σ (aIndexAddr 4 (Abs.look fr 0) (Abs.look fr 8) σ)) fun t14 σ =>
  stepK (pureR σ (aLoad true 4 t14 σ)) fun t15 σ =>
  callK Go.Proofs.Tryz.prog (Abs.look fr 1) [t15] σ (fun t16 σ =>
  condK t16 (
  k (Abs.look fr 8) σ
  ) (
  stepK (pureR σ (aBin .add .prim (Abs.look fr 8) (.val (Go.Value.int Go.IntKind.i64 1)))) fun t18 σ =>
  again [(0, (Abs.look fr 0)), (1, (Abs.look fr 1)), (7, (Abs.look fr 7)), (8, t18)] σ
  )
  ) kp) (
  j1 [(0, (Abs.look fr 0))] σ
  )
  )) [(0, t0), (1, t1), (7, t7), (8, (.val (Go.Value.int Go.IntKind.i64 0)))] σ
  ))
def keep192 : List (Nat × List Nat) := [(0, [0, 1]), (3008, [0]), (1, [0, 1, 7, 8]), (2, [0, 1, 7, 8, 9]), (3, [0, 1, 5, 7, 8]), (4, [0, 1, 5, 7, 8, 16]), (5, [4]), (6, [0, 1, 7, 8]), (1002, [0, 1, 7, 8]), (7, [4])]
noncomputable def body192 : Code := (Go.Proofs.Tryz.f192).body.getD .skip
theorem F192_eq (t0 t1 : AV) (σ : AHeap) (k kp : AV → AHeap → Prop) : aw Go.Proofs.Tryz.prog (keepOf keep192) body192 (retK Go.Proofs.Tryz.prog (Go.Proofs.Tryz.f192).results.toList k kp) (frameOf 0 [t0, t1]) σ = F192 t0 t1 σ k kp := by kernel_rfl
theorem F192_ev {t0 t1 : AV} {σ : AHeap} {k kp : AV → AHeap → Prop} (h : F192 t0 t1 σ k kp) : Ev Go.Proofs.Tryz.prog 192 [t0, t1] σ k kp :=
  Ev_of_aw mixed Go.Proofs.Tryz.func192 (show (Go.Proofs.Tryz.f192).body = some body192 by kernel_rfl) (by kernel_rfl) (args := [t0, t1]) (of_decide_eq_true (by kernel_rfl)) (keepOf keep192) (by kernel_rfl) (by rw [F192_eq]; exact h)

end Go.Proofs.AtD
