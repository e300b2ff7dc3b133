import Derived.Test.YtjilebpcaemopaaGreatDoorAbsK
import Derived.Test.YtjilebpcaemopaaGreatDoorProg
import Derived.KernelRfl
set_option maxRecDepth 100000
set_option linter.unusedVariables false
namespace Go.Proofs.AtD
open Go Go.Abs

theorem mixed : Go.Proofs.Tryz.prog.follows .mixedOrders = true := by kernel_rfl

/-- enclave/effect.atom -/
def F120 (t0 : AV) (σ : AHeap) (k kp : AV → AHeap → Prop) : Prop :=
  stepK (aBox t0 σ) fun t1 σ =>
  stepK (pureR σ (aFieldAddr 0 t1)) fun t3 σ =>
  stepK (pureR σ (aLoad false 1 t3 σ)) fun t4 σ =>
  seqW (fun fr σ => (
  condK (Abs.look fr 5) (
  stepK (pureR σ (aFieldAddr 1 (Abs.look fr 1))) fun t8 σ =>
  stepK (pureR σ (aLoad false 1 t8 σ)) fun t9 σ =>
  stepK (pureR σ (aBin .geq .prim t9 (.val (Go.Value.int Go.IntKind.i64 0)))) fun t10 σ =>
  gK t10 true (fun K => stepK (pureR σ (aFieldAddr 2 (Abs.look fr 1))) K) (fun t12 σ =>
  gK t10 true (fun K => stepK (pureR σ (aLoad false 1 t12 σ)) K) (fun t13 σ =>
  gK t10 true (fun K => stepK (pureR σ (aBin .eql .prim t13 (.val (Go.Value.string { data := #[] })))) K) (fun t14 σ =>
  stepK (pureR σ (aPick t10 t14 (.val (Go.Value.bool Bool.false)))) fun t15 σ =>
  k t15 σ
  ) σ) σ) σ) (
  stepK (pureR σ (aBin .eql .prim (Abs.look fr 4) (.val (Go.Value.int Go.IntKind.u8 3)))) fun t17 σ =>
  condK t17 (
  stepK (pureR σ (aFieldAddr 1 (Abs.look fr 1))) fun t18 σ =>
  stepK (pureR σ (aLoad false 1 t18 σ)) fun t19 σ =>
  stepK (pureR σ (aBin .eql .prim t19 (.val (Go.Value.int Go.IntKind.i64 0)))) fun t20 σ =>
  gK t20 true (fun K => stepK (pureR σ (aFieldAddr 2 (Abs.look fr 1))) K) (fun t22 σ =>
  gK t20 true (fun K => stepK (pureR σ (aLoad false 1 t22 σ)) K) (fun t23 σ =>
  gK t20 true (fun K => stepK (pureR σ (aBuildSl 1 1 [.val (.string ByteArray.empty)] [(0, t23)])) K) (fun t24 σ =>
  gK t20 true (fun K => Ev Go.Proofs.Tryz.prog 163 [t24] σ K kp) (fun t25 σ =>
  stepK (pureR σ (aPick t20 t25 (.val (Go.Value.bool Bool.false)))) fun t26 σ =>
  k t26 σ
  ) σ) σ) σ) σ) (
  k (.val (Go.Value.bool Bool.false)) σ
  )
  )
  )) (fun j1 => (
  stepK (pureR σ (aBin .eql .prim t4 (.val (Go.Value.int Go.IntKind.u8 1)))) fun t6 σ =>
  condK t6 (
  j1 [(1, t1), (4, t4), (5, t6)] σ
  ) (
  stepK (pureR σ (aBin .eql .prim t4 (.val (Go.Value.int Go.IntKind.u8 2)))) fun t7 σ =>
  j1 [(1, t1), (4, t4), (5, t7)] σ
  )
  ))
def keep120 : List (Nat × List Nat) := [(0, [1]), (1, [1, 4]), (3005, [1, 4, 5]), (2, [1, 4, 5]), (3, [1, 4, 5]), (4, [2]), (5, [1, 16]), (6, [2]), (4006, [1]), (7, [2])]
noncomputable def body120 : Code := (Go.Proofs.Tryz.f120).body.getD .skip
theorem F120_eq (t0 : AV) (σ : AHeap) (k kp : AV → AHeap → Prop) : aw Go.Proofs.Tryz.prog (keepOf keep120) body120 (retK Go.Proofs.Tryz.prog (Go.Proofs.Tryz.f120).results.toList k kp) (frameOf 0 [t0]) σ = F120 t0 σ k kp := by kernel_rfl
theorem F120_ev {t0 : AV} {σ : AHeap} {k kp : AV → AHeap → Prop} (h : F120 t0 σ k kp) : Ev Go.Proofs.Tryz.prog 120 [t0] σ k kp :=
  Ev_of_aw mixed Go.Proofs.Tryz.func120 (show (Go.Proofs.Tryz.f120).body = some body120 by kernel_rfl) (by kernel_rfl) (args := [t0]) (of_decide_eq_true (by kernel_rfl)) (keepOf keep120) (by kernel_rfl) (by rw [F120_eq]; exact h)

/-- enclave/words.Exn -/
def F163 (t0 : AV) (σ : AHeap) (k kp : AV → AHeap → Prop) : Prop :=
  Ev Go.Proofs.Tryz.prog 186 [(.fn (.func 187) []), t0] σ (fun t4 σ =>
  k t4 σ) kp
def keep163 : List (Nat × List Nat) := [(0, [0]), (1, [2])]
noncomputable def body163 : Code := (Go.Proofs.Tryz.f163).body.getD .skip
theorem F163_eq (t0 : AV) (σ : AHeap) (k kp : AV → AHeap → Prop) : aw Go.Proofs.Tryz.prog (keepOf keep163) body163 (retK Go.Proofs.Tryz.prog (Go.Proofs.Tryz.f163).results.toList k kp) (frameOf 0 [t0]) σ = F163 t0 σ k kp := by kernel_rfl
theorem F163_ev {t0 : AV} {σ : AHeap} {k kp : AV → AHeap → Prop} (h : F163 t0 σ k kp) : Ev Go.Proofs.Tryz.prog 163 [t0] σ k kp :=
  Ev_of_aw mixed Go.Proofs.Tryz.func163 (show (Go.Proofs.Tryz.f163).body = some body163 by kernel_rfl) (by kernel_rfl) (args := [t0]) (of_decide_eq_true (by kernel_rfl)) (keepOf keep163) (by kernel_rfl) (by rw [F163_eq]; exact h)

/-- enclave/words.all -/
def F186 (t0 t1 : AV) (σ : AHeap) (k kp : AV → AHeap → Prop) : Prop :=
  stepK (aBox t0 σ) fun t2 σ =>
  Ev Go.Proofs.Tryz.prog 207 [t1, (.fn (.func 208) [t2])] σ (fun t7 σ =>
  stepK (pureR σ (aNot t7)) fun t8 σ =>
  k t8 σ) kp
def keep186 : List (Nat × List Nat) := [(0, [1, 2]), (1, [4])]
noncomputable def body186 : Code := (Go.Proofs.Tryz.f186).body.getD .skip
theorem F186_eq (t0 t1 : AV) (σ : AHeap) (k kp : AV → AHeap → Prop) : aw Go.Proofs.Tryz.prog (keepOf keep186) body186 (retK Go.Proofs.Tryz.prog (Go.Proofs.Tryz.f186).results.toList k kp) (frameOf 0 [t0, t1]) σ = F186 t0 t1 σ k kp := by kernel_rfl
theorem F186_ev {t0 t1 : AV} {σ : AHeap} {k kp : AV → AHeap → Prop} (h : F186 t0 t1 σ k kp) : Ev Go.Proofs.Tryz.prog 186 [t0, t1] σ k kp :=
  Ev_of_aw mixed Go.Proofs.Tryz.func186 (show (Go.Proofs.Tryz.f186).body = some body186 by kernel_rfl) (by kernel_rfl) (args := [t0, t1]) (of_decide_eq_true (by kernel_rfl)) (keepOf keep186) (by kernel_rfl) (by rw [F186_eq]; exact h)

/-- enclave/words.Exn$1 -/
def F187 (t0 : AV) (σ : AHeap) (k kp : AV → AHeap → Prop) : Prop :=
  Ev Go.Proofs.Tryz.prog 188 [t0, (.val (Go.Value.int Go.IntKind.u8 4))] σ (fun t4 σ =>
  k t4 σ) kp
def keep187 : List (Nat × List Nat) := [(0, [0]), (1, [2])]
noncomputable def body187 : Code := (Go.Proofs.Tryz.f187).body.getD .skip
theorem F187_eq (t0 : AV) (σ : AHeap) (k kp : AV → AHeap → Prop) : aw Go.Proofs.Tryz.prog (keepOf keep187) body187 (retK Go.Proofs.Tryz.prog (Go.Proofs.Tryz.f187).results.toList k kp) (frameOf 0 [t0]) σ = F187 t0 σ k kp := by kernel_rfl
theorem F187_ev {t0 : AV} {σ : AHeap} {k kp : AV → AHeap → Prop} (h : F187 t0 σ k kp) : Ev Go.Proofs.Tryz.prog 187 [t0] σ k kp :=
  Ev_of_aw mixed Go.Proofs.Tryz.func187 (show (Go.Proofs.Tryz.f187).body = some body187 by kernel_rfl) (by kernel_rfl) (args := [t0]) (of_decide_eq_true (by kernel_rfl)) (keepOf keep187) (by kernel_rfl) (by rw [F187_eq]; exact h)

/-- enclave/words.shaped -/
def F188 (t0 t1 : AV) (σ : AHeap) (k kp : AV → AHeap → Prop) : Prop :=
  stepK (pureR σ (aBin .eql .prim t0 (.val (Go.Value.string { data := #[] })))) fun t6 σ =>
  gK t6 false (fun K => K t0 σ) (fun t8 σ =>
  gK t6 false (fun K => stepK (pureR σ (aLenK .str t8 σ)) K) (fun t9 σ =>
  gK t6 false (fun K => stepK (pureR σ (aBin .gtr .prim t9 (.val (Go.Value.int Go.IntKind.i64 16)))) K) (fun t10 σ =>
  stepK (pureR σ (aPick t6 (.val (Go.Value.bool Bool.true)) t10)) fun t11 σ =>
  gK t11 false (fun K => K t0 σ) (fun t13 σ =>
  gK t11 false (fun K => stepK (pureR σ (aIndexStr t13 (.val (Go.Value.int Go.IntKind.i64 0)))) K) (fun t14 σ =>
  gK t11 false (fun K => Ev Go.Proofs.Tryz.prog 209 [t14] σ K kp) (fun t15 σ =>
  gK t11 false (fun K => K t1 σ) (fun t16 σ =>
  gK t11 false (fun K => stepK (pureR σ (aBin .neq .prim t15 t16)) K) (fun t17 σ =>
  stepK (pureR σ (aPick t11 (.val (Go.Value.bool Bool.true)) t17)) fun t18 σ =>
  condK t18 (
  k (.val (Go.Value.bool Bool.false)) σ
  ) (
  stepK (pureR σ (aConv .bytes t0)) fun t20 σ =>
  stepK (pureR σ (aBuildSl 3 1 [.val (.int .u8 0)] [(0, (.val (Go.Value.int Go.IntKind.u8 3))), (1, (.val (Go.Value.int Go.IntKind.u8 4))), (2, (.val (Go.Value.int Go.IntKind.u8 2)))])) fun t21 σ =>
  Ev Go.Proofs.Tryz.prog 210 [t20, (.val (Go.Value.int Go.IntKind.i64 0)), t21] σ (fun t22 σ =>
  stepK (pureR σ (aLenK .str t0 σ)) fun t24 σ =>
  stepK (pureR σ (aBin .eql .prim t22 t24)) fun t25 σ =>
  k t25 σ
  ) kp)) σ) σ) σ) σ) σ) σ) σ) σ
def keep188 : List (Nat × List Nat) := [(0, [0, 1]), (1, [0, 18]), (2, [4]), (3, [4]), (4003, [1])]
noncomputable def body188 : Code := (Go.Proofs.Tryz.f188).body.getD .skip
theorem F188_eq (t0 t1 : AV) (σ : AHeap) (k kp : AV → AHeap → Prop) : aw Go.Proofs.Tryz.prog (keepOf keep188) body188 (retK Go.Proofs.Tryz.prog (Go.Proofs.Tryz.f188).results.toList k kp) (frameOf 0 [t0, t1]) σ = F188 t0 t1 σ k kp := by kernel_rfl
theorem F188_ev {t0 t1 : AV} {σ : AHeap} {k kp : AV → AHeap → Prop} (h : F188 t0 t1 σ k kp) : Ev Go.Proofs.Tryz.prog 188 [t0, t1] σ k kp :=
  Ev_of_aw mixed Go.Proofs.Tryz.func188 (show (Go.Proofs.Tryz.f188).body = some body188 by kernel_rfl) (by kernel_rfl) (args := [t0, t1]) (of_decide_eq_true (by kernel_rfl)) (keepOf keep188) (by kernel_rfl) (by rw [F188_eq]; exact h)

/-- slices.ContainsFunc[[]string,string] -/
def F207 (t0 t1 : AV) (σ : AHeap) (k kp : AV → AHeap → Prop) : Prop :=
  Ev Go.Proofs.Tryz.prog 219 [t0, t1] σ (fun t7 σ =>
  stepK (pureR σ (aBin .geq .prim t7 (.val (Go.Value.int Go.IntKind.i64 0)))) fun t8 σ =>
  k t8 σ) kp
def keep207 : List (Nat × List Nat) := [(0, [0, 1]), (1, [4])]
noncomputable def body207 : Code := (Go.Proofs.Tryz.f207).body.getD .skip
theorem F207_eq (t0 t1 : AV) (σ : AHeap) (k kp : AV → AHeap → Prop) : aw Go.Proofs.Tryz.prog (keepOf keep207) body207 (retK Go.Proofs.Tryz.prog (Go.Proofs.Tryz.f207).results.toList k kp) (frameOf 0 [t0, t1]) σ = F207 t0 t1 σ k kp := by kernel_rfl
theorem F207_ev {t0 t1 : AV} {σ : AHeap} {k kp : AV → AHeap → Prop} (h : F207 t0 t1 σ k kp) : Ev Go.Proofs.Tryz.prog 207 [t0, t1] σ k kp :=
  Ev_of_aw mixed Go.Proofs.Tryz.func207 (show (Go.Proofs.Tryz.f207).body = some body207 by kernel_rfl) (by kernel_rfl) (args := [t0, t1]) (of_decide_eq_true (by kernel_rfl)) (keepOf keep207) (by kernel_rfl) (by rw [F207_eq]; exact h)

/-- enclave/words.all$1 -/
def F208 (t0 t1 : AV) (σ : AHeap) (k kp : AV → AHeap → Prop) : Prop :=
  stepK (pureR σ (aLoad false 1 t1 σ)) fun t4 σ =>
  callK Go.Proofs.Tryz.prog t4 [t0] σ (fun t6 σ =>
  stepK (pureR σ (aNot t6)) fun t7 σ =>
  k t7 σ) kp
def keep208 : List (Nat × List Nat) := [(0, [0, 1]), (1, [3])]
noncomputable def body208 : Code := (Go.Proofs.Tryz.f208).body.getD .skip
theorem F208_eq (t0 t1 : AV) (σ : AHeap) (k kp : AV → AHeap → Prop) : aw Go.Proofs.Tryz.prog (keepOf keep208) body208 (retK Go.Proofs.Tryz.prog (Go.Proofs.Tryz.f208).results.toList k kp) (frameOf 0 [t0, t1]) σ = F208 t0 t1 σ k kp := by kernel_rfl
theorem F208_ev {t0 t1 : AV} {σ : AHeap} {k kp : AV → AHeap → Prop} (h : F208 t0 t1 σ k kp) : Ev Go.Proofs.Tryz.prog 208 [t0, t1] σ k kp :=
  Ev_of_aw mixed Go.Proofs.Tryz.func208 (show (Go.Proofs.Tryz.f208).body = some body208 by kernel_rfl) (by kernel_rfl) (args := [t0, t1]) (of_decide_eq_true (by kernel_rfl)) (keepOf keep208) (by kernel_rfl) (by rw [F208_eq]; exact h)

/-- enclave/chars.Class -/
def F209 (t0 : AV) (σ : AHeap) (k kp : AV → AHeap → Prop) : Prop :=
  Ev Go.Proofs.Tryz.prog 220 [(.val (Go.Value.string { data := #[32, 9, 10] })), t0] σ (fun t5 σ =>
  stepK (pureR σ (aBin .geq .prim t5 (.val (Go.Value.int Go.IntKind.i64 0)))) fun t6 σ =>
  condK t6 (
  k (.val (Go.Value.int Go.IntKind.u8 1)) σ
  ) (
  stepK (pureR σ (aBin .geq .prim t0 (.val (Go.Value.int Go.IntKind.u8 48)))) fun t9 σ =>
  gK t9 true (fun K => K t0 σ) (fun t11 σ =>
  gK t9 true (fun K => stepK (pureR σ (aBin .leq .prim t11 (.val (Go.Value.int Go.IntKind.u8 57)))) K) (fun t12 σ =>
  stepK (pureR σ (aPick t9 t12 (.val (Go.Value.bool Bool.false)))) fun t13 σ =>
  condK t13 (
  k (.val (Go.Value.int Go.IntKind.u8 2)) σ
  ) (
  stepK (pureR σ (aBin .geq .prim t0 (.val (Go.Value.int Go.IntKind.u8 97)))) fun t16 σ =>
  gK t16 true (fun K => K t0 σ) (fun t18 σ =>
  gK t16 true (fun K => stepK (pureR σ (aBin .leq .prim t18 (.val (Go.Value.int Go.IntKind.u8 122)))) K) (fun t19 σ =>
  stepK (pureR σ (aPick t16 t19 (.val (Go.Value.bool Bool.false)))) fun t20 σ =>
  condK t20 (
  k (.val (Go.Value.int Go.IntKind.u8 3)) σ
  ) (
  stepK (pureR σ (aBin .geq .prim t0 (.val (Go.Value.int Go.IntKind.u8 65)))) fun t23 σ =>
  gK t23 true (fun K => K t0 σ) (fun t25 σ =>
  gK t23 true (fun K => stepK (pureR σ (aBin .leq .prim t25 (.val (Go.Value.int Go.IntKind.u8 90)))) K) (fun t26 σ =>
  stepK (pureR σ (aPick t23 t26 (.val (Go.Value.bool Bool.false)))) fun t27 σ =>
  condK t27 (
  k (.val (Go.Value.int Go.IntKind.u8 4)) σ
  ) (
  Ev Go.Proofs.Tryz.prog 220 [(.val (Go.Value.string { data := #[40, 41, 44, 33, 58, 61, 62, 43, 45, 42, 60, 59] })), t0] σ (fun t30 σ =>
  stepK (pureR σ (aBin .geq .prim t30 (.val (Go.Value.int Go.IntKind.i64 0)))) fun t31 σ =>
  condK t31 (
  k (.val (Go.Value.int Go.IntKind.u8 5)) σ
  ) (
  k (.val (Go.Value.int Go.IntKind.u8 0)) σ
  )
  ) kp)
  ) σ) σ)
  ) σ) σ)
  ) σ) σ)) kp
def keep209 : List (Nat × List Nat) := [(0, [0]), (1, [0, 3]), (2, [2]), (3, [0, 7]), (4, [2]), (5, [0, 14]), (6, [2]), (7, [0, 21]), (8, [2]), (9, [28]), (10, [2]), (11, [2])]
noncomputable def body209 : Code := (Go.Proofs.Tryz.f209).body.getD .skip
theorem F209_eq (t0 : AV) (σ : AHeap) (k kp : AV → AHeap → Prop) : aw Go.Proofs.Tryz.prog (keepOf keep209) body209 (retK Go.Proofs.Tryz.prog (Go.Proofs.Tryz.f209).results.toList k kp) (frameOf 0 [t0]) σ = F209 t0 σ k kp := by kernel_rfl
theorem F209_ev {t0 : AV} {σ : AHeap} {k kp : AV → AHeap → Prop} (h : F209 t0 σ k kp) : Ev Go.Proofs.Tryz.prog 209 [t0] σ k kp :=
  Ev_of_aw mixed Go.Proofs.Tryz.func209 (show (Go.Proofs.Tryz.f209).body = some body209 by kernel_rfl) (by kernel_rfl) (args := [t0]) (of_decide_eq_true (by kernel_rfl)) (keepOf keep209) (by kernel_rfl) (by rw [F209_eq]; exact h)

/-- enclave/chars.Span -/
def F210 (t0 t1 t2 : AV) (σ : AHeap) (k kp : AV → AHeap → Prop) : Prop :=
  stepK (aBox t2 σ) fun t5 σ =>
  stepK (pureR σ (aBin .lss .prim t1 (.val (Go.Value.int Go.IntKind.i64 0)))) fun t9 σ =>
  gK t9 false (fun K => K t1 σ) (fun t11 σ =>
  gK t9 false (fun K => K t0 σ) (fun t12 σ =>
  gK t9 false (fun K => stepK (pureR σ (aLenK .slice t12 σ)) K) (fun t13 σ =>
  gK t9 false (fun K => stepK (pureR σ (aBin .geq .prim t11 t13)) K) (fun t14 σ =>
  stepK (pureR σ (aPick t9 (.val (Go.Value.bool Bool.true)) t14)) fun t15 σ =>
  condK t15 (
  k (.val (Go.Value.int Go.IntKind.i64 0)) σ
  ) (
  stepK (pureR σ (aSlice 1 t0 (some t1) none none)) fun t18 σ =>
  Ev Go.Proofs.Tryz.prog 221 [t18, (.fn (.func 222) [t5])] σ (fun t20 σ =>
  stepK (pureR σ (aBin .lss .prim t20 (.val (Go.Value.int Go.IntKind.i64 0)))) fun t22 σ =>
  condK t22 (
  stepK (pureR σ (aLenK .slice t0 σ)) fun t24 σ =>
  stepK (pureR σ (aBin .sub .prim t24 t1)) fun t26 σ =>
  k t26 σ
  ) (
  k t20 σ
  )
  ) kp)) σ) σ) σ) σ
def keep210 : List (Nat × List Nat) := [(0, [0, 1, 5]), (1, [0, 1, 5, 15]), (2, [6]), (3, [0, 1, 7]), (4, [0, 1, 7, 22]), (5, [6]), (6, [6])]
noncomputable def body210 : Code := (Go.Proofs.Tryz.f210).body.getD .skip
theorem F210_eq (t0 t1 t2 : AV) (σ : AHeap) (k kp : AV → AHeap → Prop) : aw Go.Proofs.Tryz.prog (keepOf keep210) body210 (retK Go.Proofs.Tryz.prog (Go.Proofs.Tryz.f210).results.toList k kp) (frameOf 0 [t0, t1, t2]) σ = F210 t0 t1 t2 σ k kp := by kernel_rfl
theorem F210_ev {t0 t1 t2 : AV} {σ : AHeap} {k kp : AV → AHeap → Prop} (h : F210 t0 t1 t2 σ k kp) : Ev Go.Proofs.Tryz.prog 210 [t0, t1, t2] σ k kp :=
  Ev_of_aw mixed Go.Proofs.Tryz.func210 (show (Go.Proofs.Tryz.f210).body = some body210 by kernel_rfl) (by kernel_rfl) (args := [t0, t1, t2]) (of_decide_eq_true (by kernel_rfl)) (keepOf keep210) (by kernel_rfl) (by rw [F210_eq]; exact h)

/-- slices.IndexFunc[[]string,string] -/
def F219 (t0 t1 : AV) (σ : AHeap) (k kp : AV → AHeap → Prop) : Prop :=
  seqW (fun fr σ => (
  k (.val (Go.Value.int Go.IntKind.i64 (-1))) σ
  )) (fun j1 => (
  stepK (pureR σ (aLenK .slice t0 σ)) fun t7 σ =>
  loopW (fun fr σ again => (
  stepK (pureR σ (aBin .lss .prim (Abs.look fr 8) (Abs.look fr 7))) fun t9 σ =>
  condK t9 (
  stepK (pureR σ (aIndexAddr 1 (Abs.look fr 0) (Abs.look fr 8) σ)) fun t14 σ =>
  stepK (pureR σ (aLoad false 1 t14 σ)) fun t15 σ =>
  callK Go.Proofs.Tryz.prog (Abs.look fr 1) [t15] σ (fun t16 σ =>
  condK t16 (
  k (Abs.look fr 8) σ
  ) (
  stepK (pureR σ (aBin .add .prim (Abs.look fr 8) (.val (Go.Value.int Go.IntKind.i64 1)))) fun t18 σ =>
  again [(0, (Abs.look fr 0)), (1, (Abs.look fr 1)), (7, (Abs.look fr 7)), (8, t18)] σ
  )
  ) kp) (
  j1 [(0, (Abs.look fr 0))] σ
  )
  )) [(0, t0), (1, t1), (7, t7), (8, (.val (Go.Value.int Go.IntKind.i64 0)))] σ
  ))
def keep219 : List (Nat × List Nat) := [(0, [0, 1]), (3008, [0]), (1, [0, 1, 7, 8]), (2, [0, 1, 7, 8, 9]), (3, [0, 1, 5, 7, 8]), (4, [0, 1, 5, 7, 8, 16]), (5, [4]), (6, [0, 1, 7, 8]), (1002, [0, 1, 7, 8]), (7, [4])]
noncomputable def body219 : Code := (Go.Proofs.Tryz.f219).body.getD .skip
theorem F219_eq (t0 t1 : AV) (σ : AHeap) (k kp : AV → AHeap → Prop) : aw Go.Proofs.Tryz.prog (keepOf keep219) body219 (retK Go.Proofs.Tryz.prog (Go.Proofs.Tryz.f219).results.toList k kp) (frameOf 0 [t0, t1]) σ = F219 t0 t1 σ k kp := by kernel_rfl
theorem F219_ev {t0 t1 : AV} {σ : AHeap} {k kp : AV → AHeap → Prop} (h : F219 t0 t1 σ k kp) : Ev Go.Proofs.Tryz.prog 219 [t0, t1] σ k kp :=
  Ev_of_aw mixed Go.Proofs.Tryz.func219 (show (Go.Proofs.Tryz.f219).body = some body219 by kernel_rfl) (by kernel_rfl) (args := [t0, t1]) (of_decide_eq_true (by kernel_rfl)) (keepOf keep219) (by kernel_rfl) (by rw [F219_eq]; exact h)

/-- strings.IndexByte -/
def F220 (t0 t1 : AV) (σ : AHeap) (k kp : AV → AHeap → Prop) : Prop :=
  Ev Go.Proofs.Tryz.prog 225 [t0, t1] σ (fun t7 σ =>
  k t7 σ) kp
def keep220 : List (Nat × List Nat) := [(0, [0, 1]), (1, [4])]
noncomputable def body220 : Code := (Go.Proofs.Tryz.f220).body.getD .skip
theorem F220_eq (t0 t1 : AV) (σ : AHeap) (k kp : AV → AHeap → Prop) : aw Go.Proofs.Tryz.prog (keepOf keep220) body220 (retK Go.Proofs.Tryz.prog (Go.Proofs.Tryz.f220).results.toList k kp) (frameOf 0 [t0, t1]) σ = F220 t0 t1 σ k kp := by kernel_rfl
theorem F220_ev {t0 t1 : AV} {σ : AHeap} {k kp : AV → AHeap → Prop} (h : F220 t0 t1 σ k kp) : Ev Go.Proofs.Tryz.prog 220 [t0, t1] σ k kp :=
  Ev_of_aw mixed Go.Proofs.Tryz.func220 (show (Go.Proofs.Tryz.f220).body = some body220 by kernel_rfl) (by kernel_rfl) (args := [t0, t1]) (of_decide_eq_true (by kernel_rfl)) (keepOf keep220) (by kernel_rfl) (by rw [F220_eq]; exact h)

/-- slices.IndexFunc[[]byte,byte] -/
def F221 (t0 t1 : AV) (σ : AHeap) (k kp : AV → AHeap → Prop) : Prop :=
  seqW (fun fr σ => (
  k (.val (Go.Value.int Go.IntKind.i64 (-1))) σ
  )) (fun j1 => (
  stepK (pureR σ (aLenK .slice t0 σ)) fun t7 σ =>
  loopW (fun fr σ again => (
  stepK (pureR σ (aBin .lss .prim (Abs.look fr 8) (Abs.look fr 7))) fun t9 σ =>
  condK t9 (
  stepK (pureR σ (aIndexAddr 1 (Abs.look fr 0) (Abs.look fr 8) σ)) fun t14 σ =>
  stepK (pureR σ (aLoad false 1 t14 σ)) fun t15 σ =>
  callK Go.Proofs.Tryz.prog (Abs.look fr 1) [t15] σ (fun t16 σ =>
  condK t16 (
  k (Abs.look fr 8) σ
  ) (
  stepK (pureR σ (aBin .add .prim (Abs.look fr 8) (.val (Go.Value.int Go.IntKind.i64 1)))) fun t18 σ =>
  again [(0, (Abs.look fr 0)), (1, (Abs.look fr 1)), (7, (Abs.look fr 7)), (8, t18)] σ
  )
  ) kp) (
  j1 [(0, (Abs.look fr 0))] σ
  )
  )) [(0, t0), (1, t1), (7, t7), (8, (.val (Go.Value.int Go.IntKind.i64 0)))] σ
  ))
def keep221 : List (Nat × List Nat) := [(0, [0, 1]), (3008, [0]), (1, [0, 1, 7, 8]), (2, [0, 1, 7, 8, 9]), (3, [0, 1, 5, 7, 8]), (4, [0, 1, 5, 7, 8, 16]), (5, [4]), (6, [0, 1, 7, 8]), (1002, [0, 1, 7, 8]), (7, [4])]
noncomputable def body221 : Code := (Go.Proofs.Tryz.f221).body.getD .skip
theorem F221_eq (t0 t1 : AV) (σ : AHeap) (k kp : AV → AHeap → Prop) : aw Go.Proofs.Tryz.prog (keepOf keep221) body221 (retK Go.Proofs.Tryz.prog (Go.Proofs.Tryz.f221).results.toList k kp) (frameOf 0 [t0, t1]) σ = F221 t0 t1 σ k kp := by kernel_rfl
theorem F221_ev {t0 t1 : AV} {σ : AHeap} {k kp : AV → AHeap → Prop} (h : F221 t0 t1 σ k kp) : Ev Go.Proofs.Tryz.prog 221 [t0, t1] σ k kp :=
  Ev_of_aw mixed Go.Proofs.Tryz.func221 (show (Go.Proofs.Tryz.f221).body = some body221 by kernel_rfl) (by kernel_rfl) (args := [t0, t1]) (of_decide_eq_true (by kernel_rfl)) (keepOf keep221) (by kernel_rfl) (by rw [F221_eq]; exact h)

/-- enclave/chars.Span$1 -/
def F222 (t0 t1 : AV) (σ : AHeap) (k kp : AV → AHeap → Prop) : Prop :=
  stepK (pureR σ (aLoad false 1 t1 σ)) fun t4 σ =>
  Ev Go.Proofs.Tryz.prog 209 [t0] σ (fun t6 σ =>
  (stepK (pureR σ (aLoad false 1 t1 σ)) (fun y θ => y = t4 ∧ θ = σ)) ∧ (
  Ev Go.Proofs.Tryz.prog 193 [t4, t6] σ (fun t7 σ =>
  stepK (pureR σ (aNot t7)) fun t8 σ =>
  k t8 σ) kp)) kp
def keep222 : List (Nat × List Nat) := [(0, [0, 1]), (1, [3]), (2001, [0, 1, 2, 3, 4, 5]), (101002, [0])]
noncomputable def body222 : Code := (Go.Proofs.Tryz.f222).body.getD .skip
theorem F222_eq (t0 t1 : AV) (σ : AHeap) (k kp : AV → AHeap → Prop) : aw Go.Proofs.Tryz.prog (keepOf keep222) body222 (retK Go.Proofs.Tryz.prog (Go.Proofs.Tryz.f222).results.toList k kp) (frameOf 0 [t0, t1]) σ = F222 t0 t1 σ k kp := by kernel_rfl
theorem F222_ev {t0 t1 : AV} {σ : AHeap} {k kp : AV → AHeap → Prop} (h : F222 t0 t1 σ k kp) : Ev Go.Proofs.Tryz.prog 222 [t0, t1] σ k kp :=
  Ev_of_aw mixed Go.Proofs.Tryz.func222 (show (Go.Proofs.Tryz.f222).body = some body222 by kernel_rfl) (by kernel_rfl) (args := [t0, t1]) (of_decide_eq_true (by kernel_rfl)) (keepOf keep222) (by kernel_rfl) (by rw [F222_eq]; exact h)

/-- internal/stringslite.IndexByte -/
def F225 (t0 t1 : AV) (σ : AHeap) (k kp : AV → AHeap → Prop) : Prop :=
  Ev Go.Proofs.Tryz.prog 227 [t0, t1] σ (fun t7 σ =>
  k t7 σ) kp
def keep225 : List (Nat × List Nat) := [(0, [0, 1]), (1, [4])]
noncomputable def body225 : Code := (Go.Proofs.Tryz.f225).body.getD .skip
theorem F225_eq (t0 t1 : AV) (σ : AHeap) (k kp : AV → AHeap → Prop) : aw Go.Proofs.Tryz.prog (keepOf keep225) body225 (retK Go.Proofs.Tryz.prog (Go.Proofs.Tryz.f225).results.toList k kp) (frameOf 0 [t0, t1]) σ = F225 t0 t1 σ k kp := by kernel_rfl
theorem F225_ev {t0 t1 : AV} {σ : AHeap} {k kp : AV → AHeap → Prop} (h : F225 t0 t1 σ k kp) : Ev Go.Proofs.Tryz.prog 225 [t0, t1] σ k kp :=
  Ev_of_aw mixed Go.Proofs.Tryz.func225 (show (Go.Proofs.Tryz.f225).body = some body225 by kernel_rfl) (by kernel_rfl) (args := [t0, t1]) (of_decide_eq_true (by kernel_rfl)) (keepOf keep225) (by kernel_rfl) (by rw [F225_eq]; exact h)

end Go.Proofs.AtD
