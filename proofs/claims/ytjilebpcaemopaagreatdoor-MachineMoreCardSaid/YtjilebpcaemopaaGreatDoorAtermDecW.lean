import Derived.Test.YtjilebpcaemopaaGreatDoorAbsK
import Derived.Test.YtjilebpcaemopaaGreatDoorProg
import Derived.KernelRfl
set_option maxRecDepth 100000
set_option linter.unusedVariables false
namespace Go.Proofs.AtD
open Go Go.Abs

theorem mixed : Go.Proofs.Tryz.prog.follows .mixedOrders = true := by kernel_rfl

/-- enclave/words.Name -/
def F182 (t0 : AV) (σ : AHeap) (k kp : AV → AHeap → Prop) : Prop :=
  Ev Go.Proofs.Tryz.prog 186 [(.fn (.func 194) []), t0] σ (fun t4 σ =>
  k t4 σ) kp
def keep182 : List (Nat × List Nat) := [(0, [0]), (1, [2])]
noncomputable def body182 : Code := (Go.Proofs.Tryz.f182).body.getD .skip
theorem F182_eq (t0 : AV) (σ : AHeap) (k kp : AV → AHeap → Prop) : aw Go.Proofs.Tryz.prog (keepOf keep182) body182 (retK Go.Proofs.Tryz.prog (Go.Proofs.Tryz.f182).results.toList k kp) (frameOf 0 [t0]) σ = F182 t0 σ k kp := by kernel_rfl
theorem F182_ev {t0 : AV} {σ : AHeap} {k kp : AV → AHeap → Prop} (h : F182 t0 σ k kp) : Ev Go.Proofs.Tryz.prog 182 [t0] σ k kp :=
  Ev_of_aw mixed Go.Proofs.Tryz.func182 (show (Go.Proofs.Tryz.f182).body = some body182 by kernel_rfl) (by kernel_rfl) (args := [t0]) (of_decide_eq_true (by kernel_rfl)) (keepOf keep182) (by kernel_rfl) (by rw [F182_eq]; exact h)

/-- enclave/words.Name$1 -/
def F194 (t0 : AV) (σ : AHeap) (k kp : AV → AHeap → Prop) : Prop :=
  Ev Go.Proofs.Tryz.prog 188 [t0, (.val (Go.Value.int Go.IntKind.u8 3))] σ (fun t4 σ =>
  gK t4 true (fun K => K t0 σ) (fun t6 σ =>
  gK t4 true (fun K => Ev Go.Proofs.Tryz.prog 195 [t6] σ K kp) (fun t7 σ =>
  gK t4 true (fun K => stepK (pureR σ (aBin .eql .prim t7 (.val (Go.Value.int Go.IntKind.i64 0)))) K) (fun t8 σ =>
  stepK (pureR σ (aPick t4 t8 (.val (Go.Value.bool Bool.false)))) fun t9 σ =>
  k t9 σ) σ) σ) σ) kp
def keep194 : List (Nat × List Nat) := [(0, [0]), (1, [2])]
noncomputable def body194 : Code := (Go.Proofs.Tryz.f194).body.getD .skip
theorem F194_eq (t0 : AV) (σ : AHeap) (k kp : AV → AHeap → Prop) : aw Go.Proofs.Tryz.prog (keepOf keep194) body194 (retK Go.Proofs.Tryz.prog (Go.Proofs.Tryz.f194).results.toList k kp) (frameOf 0 [t0]) σ = F194 t0 σ k kp := by kernel_rfl
theorem F194_ev {t0 : AV} {σ : AHeap} {k kp : AV → AHeap → Prop} (h : F194 t0 σ k kp) : Ev Go.Proofs.Tryz.prog 194 [t0] σ k kp :=
  Ev_of_aw mixed Go.Proofs.Tryz.func194 (show (Go.Proofs.Tryz.f194).body = some body194 by kernel_rfl) (by kernel_rfl) (args := [t0]) (of_decide_eq_true (by kernel_rfl)) (keepOf keep194) (by kernel_rfl) (by rw [F194_eq]; exact h)

/-- enclave/words.Keyword -/
def F195 (t0 : AV) (σ : AHeap) (k kp : AV → AHeap → Prop) : Prop :=
  stepK (pureR σ (aBin .eql .prim t0 (.val (Go.Value.string { data := #[] })))) fun t4 σ =>
  condK t4 (
  k (.val (Go.Value.int Go.IntKind.i64 0)) σ
  ) (
  Ev Go.Proofs.Tryz.prog 213 [] σ (fun t5 σ =>
  Ev Go.Proofs.Tryz.prog 212 [t5, t0] σ (fun t7 σ =>
  stepK (pureR σ (aMax (.val (Go.Value.int Go.IntKind.i64 0)) t7)) fun t8 σ =>
  k t8 σ
  ) kp) kp)
def keep195 : List (Nat × List Nat) := [(0, [0]), (1, [0, 4]), (2, [2]), (3, [2])]
noncomputable def body195 : Code := (Go.Proofs.Tryz.f195).body.getD .skip
theorem F195_eq (t0 : AV) (σ : AHeap) (k kp : AV → AHeap → Prop) : aw Go.Proofs.Tryz.prog (keepOf keep195) body195 (retK Go.Proofs.Tryz.prog (Go.Proofs.Tryz.f195).results.toList k kp) (frameOf 0 [t0]) σ = F195 t0 σ k kp := by kernel_rfl
theorem F195_ev {t0 : AV} {σ : AHeap} {k kp : AV → AHeap → Prop} (h : F195 t0 σ k kp) : Ev Go.Proofs.Tryz.prog 195 [t0] σ k kp :=
  Ev_of_aw mixed Go.Proofs.Tryz.func195 (show (Go.Proofs.Tryz.f195).body = some body195 by kernel_rfl) (by kernel_rfl) (args := [t0]) (of_decide_eq_true (by kernel_rfl)) (keepOf keep195) (by kernel_rfl) (by rw [F195_eq]; exact h)

/-- slices.Index[[]string,string] -/
def F212 (t0 t1 : AV) (σ : AHeap) (k kp : AV → AHeap → Prop) : Prop :=
  seqW (fun fr σ => (
  k (.val (Go.Value.int Go.IntKind.i64 (-1))) σ
  )) (fun j1 => (
  stepK (pureR σ (aLenK .slice t0 σ)) fun t7 σ =>
  loopW (fun fr σ again => (
  stepK (pureR σ (aBin .lss .prim (Abs.look fr 8) (Abs.look fr 7))) fun t9 σ =>
  condK t9 (
  stepK (pureR σ (aIndexAddr 1 (Abs.look fr 0) (Abs.look fr 8) σ)) fun t14 σ =>
  stepK (pureR σ (aLoad false 1 t14 σ)) fun t15 σ =>
  stepK (pureR σ (aBin .eql .prim (Abs.look fr 1) t15)) fun t16 σ =>
  condK t16 (
  k (Abs.look fr 8) σ
  ) (
  stepK (pureR σ (aBin .add .prim (Abs.look fr 8) (.val (Go.Value.int Go.IntKind.i64 1)))) fun t18 σ =>
  again [(0, (Abs.look fr 0)), (1, (Abs.look fr 1)), (7, (Abs.look fr 7)), (8, t18)] σ
  )
  ) (
  j1 [(0, (Abs.look fr 0))] σ
  )
  )) [(0, t0), (1, t1), (7, t7), (8, (.val (Go.Value.int Go.IntKind.i64 0)))] σ
  ))
def keep212 : List (Nat × List Nat) := [(0, [0, 1]), (3008, [0]), (1, [0, 1, 7, 8]), (2, [0, 1, 7, 8, 9]), (3, [0, 1, 5, 7, 8]), (4, [0, 1, 5, 7, 8, 16]), (5, [4]), (6, [0, 1, 7, 8]), (1002, [0, 1, 7, 8]), (7, [4])]
noncomputable def body212 : Code := (Go.Proofs.Tryz.f212).body.getD .skip
theorem F212_eq (t0 t1 : AV) (σ : AHeap) (k kp : AV → AHeap → Prop) : aw Go.Proofs.Tryz.prog (keepOf keep212) body212 (retK Go.Proofs.Tryz.prog (Go.Proofs.Tryz.f212).results.toList k kp) (frameOf 0 [t0, t1]) σ = F212 t0 t1 σ k kp := by kernel_rfl
theorem F212_ev {t0 t1 : AV} {σ : AHeap} {k kp : AV → AHeap → Prop} (h : F212 t0 t1 σ k kp) : Ev Go.Proofs.Tryz.prog 212 [t0, t1] σ k kp :=
  Ev_of_aw mixed Go.Proofs.Tryz.func212 (show (Go.Proofs.Tryz.f212).body = some body212 by kernel_rfl) (by kernel_rfl) (args := [t0, t1]) (of_decide_eq_true (by kernel_rfl)) (keepOf keep212) (by kernel_rfl) (by rw [F212_eq]; exact h)

/-- enclave/words.keywords -/
def F213 (σ : AHeap) (k kp : AV → AHeap → Prop) : Prop :=
  Ev Go.Proofs.Tryz.prog 223 [(.val (Go.Value.string { data := #[32, 108, 101, 116, 32, 108, 101, 116, 114, 101, 99, 32, 105, 110, 32, 102, 110, 32, 105, 102, 32, 116, 104, 101, 110, 32, 101, 108, 115, 101, 32, 114, 97, 105, 115, 101, 32, 116, 114, 121, 32, 119, 105, 116, 104, 32, 114, 101, 102, 32, 102, 115, 116, 32, 115, 110, 100, 32, 101, 120, 110] })), (.val (Go.Value.string { data := #[32] }))] σ (fun t1 σ =>
  k t1 σ) kp
def keep213 : List (Nat × List Nat) := [(0, []), (1, [0])]
noncomputable def body213 : Code := (Go.Proofs.Tryz.f213).body.getD .skip
theorem F213_eq (σ : AHeap) (k kp : AV → AHeap → Prop) : aw Go.Proofs.Tryz.prog (keepOf keep213) body213 (retK Go.Proofs.Tryz.prog (Go.Proofs.Tryz.f213).results.toList k kp) (frameOf 0 []) σ = F213 σ k kp := by kernel_rfl
theorem F213_ev {σ : AHeap} {k kp : AV → AHeap → Prop} (h : F213 σ k kp) : Ev Go.Proofs.Tryz.prog 213 [] σ k kp :=
  Ev_of_aw mixed Go.Proofs.Tryz.func213 (show (Go.Proofs.Tryz.f213).body = some body213 by kernel_rfl) (by kernel_rfl) (args := []) (of_decide_eq_true (by kernel_rfl)) (keepOf keep213) (by kernel_rfl) (by rw [F213_eq]; exact h)

/-- strings.Split -/
def F223 (t0 t1 : AV) (σ : AHeap) (k kp : AV → AHeap → Prop) : Prop :=
  Ev Go.Proofs.Tryz.prog 226 [t0, t1, (.val (Go.Value.int Go.IntKind.i64 0)), (.val (Go.Value.int Go.IntKind.i64 (-1)))] σ (fun t7 σ =>
  k t7 σ) kp
def keep223 : List (Nat × List Nat) := [(0, [0, 1]), (1, [4])]
noncomputable def body223 : Code := (Go.Proofs.Tryz.f223).body.getD .skip
theorem F223_eq (t0 t1 : AV) (σ : AHeap) (k kp : AV → AHeap → Prop) : aw Go.Proofs.Tryz.prog (keepOf keep223) body223 (retK Go.Proofs.Tryz.prog (Go.Proofs.Tryz.f223).results.toList k kp) (frameOf 0 [t0, t1]) σ = F223 t0 t1 σ k kp := by kernel_rfl
theorem F223_ev {t0 t1 : AV} {σ : AHeap} {k kp : AV → AHeap → Prop} (h : F223 t0 t1 σ k kp) : Ev Go.Proofs.Tryz.prog 223 [t0, t1] σ k kp :=
  Ev_of_aw mixed Go.Proofs.Tryz.func223 (show (Go.Proofs.Tryz.f223).body = some body223 by kernel_rfl) (by kernel_rfl) (args := [t0, t1]) (of_decide_eq_true (by kernel_rfl)) (keepOf keep223) (by kernel_rfl) (by rw [F223_eq]; exact h)

/-- strings.genSplit -/
def F226 (t0 t1 t2 t3 : AV) (σ : AHeap) (k kp : AV → AHeap → Prop) : Prop :=
  stepK (pureR σ (aBin .eql .prim t3 (.val (Go.Value.int Go.IntKind.i64 0)))) fun t13 σ =>
  condK t13 (
  k (.val (Go.Value.slice Option.none 0 0)) σ
  ) (
  stepK (pureR σ (aBin .eql .prim t1 (.val (Go.Value.string { data := #[] })))) fun t15 σ =>
  condK t15 (
  Ev Go.Proofs.Tryz.prog 228 [t0, t3] σ (fun t18 σ =>
  k t18 σ
  ) kp) (
  seqW (fun fr σ => (
  stepK (pureR σ (aLenK .str (Abs.look fr 0) σ)) fun t27 σ =>
  stepK (pureR σ (aBin .add .prim t27 (.val (Go.Value.int Go.IntKind.i64 1)))) fun t28 σ =>
  stepK (pureR σ (aMin (Abs.look fr 3) t28)) fun t29 σ =>
  stepK (aMakeSlice 1 16 [.val (.string ByteArray.empty)] t29 t29 σ) fun t31 σ =>
  stepK (pureR σ (aBin .sub .prim t29 (.val (Go.Value.int Go.IntKind.i64 1)))) fun t33 σ =>
  seqW (fun fr σ => (
  stepK (pureR σ (aIndexAddr 1 (Abs.look fr 9) (Abs.look fr 10) σ)) fun t61 σ =>
  stepK (unitR (aStore 1 t61 (Abs.look fr 0) σ)) fun _ σ =>
  stepK (pureR σ (aBin .add .prim (Abs.look fr 10) (.val (Go.Value.int Go.IntKind.i64 1)))) fun t64 σ =>
  stepK (pureR σ (aSlice 1 (Abs.look fr 9) none (some t64) none)) fun t65 σ =>
  k t65 σ
  )) (fun j2 => (
  loopW (fun fr σ again => (
  stepK (pureR σ (aBin .lss .prim (Abs.look fr 10) (Abs.look fr 3))) fun t36 σ =>
  condK t36 (
  Ev Go.Proofs.Tryz.prog 230 [(Abs.look fr 0), (Abs.look fr 1)] σ (fun t39 σ =>
  stepK (pureR σ (aBin .lss .prim t39 (.val (Go.Value.int Go.IntKind.i64 0)))) fun t41 σ =>
  condK t41 (
  j2 [(0, (Abs.look fr 0)), (9, (Abs.look fr 9)), (10, (Abs.look fr 10))] σ
  ) (
  stepK (pureR σ (aBin .add .prim t39 (Abs.look fr 2))) fun t47 σ =>
  stepK (pureR σ (aSliceStr (Abs.look fr 0) none (some t47))) fun t48 σ =>
  stepK (pureR σ (aIndexAddr 1 (Abs.look fr 9) (Abs.look fr 10) σ)) fun t49 σ =>
  stepK (unitR (aStore 1 t49 t48 σ)) fun _ σ =>
  stepK (pureR σ (aLenK .str (Abs.look fr 1) σ)) fun t53 σ =>
  stepK (pureR σ (aBin .add .prim t39 t53)) fun t54 σ =>
  stepK (pureR σ (aSliceStr (Abs.look fr 0) (some t54) none)) fun t55 σ =>
  stepK (pureR σ (aBin .add .prim (Abs.look fr 10) (.val (Go.Value.int Go.IntKind.i64 1)))) fun t57 σ =>
  again [(0, t55), (1, (Abs.look fr 1)), (2, (Abs.look fr 2)), (3, (Abs.look fr 3)), (9, (Abs.look fr 9)), (10, t57)] σ
  )
  ) kp) (
  j2 [(0, (Abs.look fr 0)), (9, (Abs.look fr 9)), (10, (Abs.look fr 10))] σ
  )
  )) [(0, (Abs.look fr 0)), (1, (Abs.look fr 1)), (2, (Abs.look fr 2)), (3, t33), (9, t31), (10, (.val (Go.Value.int Go.IntKind.i64 0)))] σ
  ))
  )) (fun j1 => (
  stepK (pureR σ (aBin .lss .prim t3 (.val (Go.Value.int Go.IntKind.i64 0)))) fun t20 σ =>
  condK t20 (
  Ev Go.Proofs.Tryz.prog 229 [t0, t1] σ (fun t23 σ =>
  stepK (pureR σ (aBin .add .prim t23 (.val (Go.Value.int Go.IntKind.i64 1)))) fun t24 σ =>
  j1 [(0, t0), (1, t1), (2, t2), (3, t24)] σ
  ) kp) (
  j1 [(0, t0), (1, t1), (2, t2), (3, t3)] σ
  )
  ))
  )
  )
def keep226 : List (Nat × List Nat) := [(0, [0, 1, 2, 3]), (1, [0, 1, 2, 3, 13]), (2, [8]), (3, [0, 1, 2, 3, 15]), (4, [8]), (3008, [0, 1, 2, 3]), (5, [0, 1, 2, 3, 20]), (6, [0, 1, 2, 3]), (7, [0, 1, 2, 3]), (8, [0, 1, 2, 3, 9]), (9, [0, 1, 2, 3, 9]), (10, [0, 1, 2, 3, 9, 10]), (3018, [0, 9, 10]), (11, [0, 1, 2, 3, 9, 10, 36]), (12, [0, 1, 2, 3, 9, 10, 11]), (13, [0, 1, 2, 3, 9, 10, 11, 41]), (14, [0, 1, 2, 3, 9, 10, 11]), (15, [0, 1, 2, 3, 9, 10]), (16, [0, 1, 2, 3, 9, 10]), (1011, [0, 1, 2, 3, 9, 10]), (17, [9, 10]), (18, [8])]
noncomputable def body226 : Code := (Go.Proofs.Tryz.f226).body.getD .skip
theorem F226_eq (t0 t1 t2 t3 : AV) (σ : AHeap) (k kp : AV → AHeap → Prop) : aw Go.Proofs.Tryz.prog (keepOf keep226) body226 (retK Go.Proofs.Tryz.prog (Go.Proofs.Tryz.f226).results.toList k kp) (frameOf 0 [t0, t1, t2, t3]) σ = F226 t0 t1 t2 t3 σ k kp := by kernel_rfl
theorem F226_ev {t0 t1 t2 t3 : AV} {σ : AHeap} {k kp : AV → AHeap → Prop} (h : F226 t0 t1 t2 t3 σ k kp) : Ev Go.Proofs.Tryz.prog 226 [t0, t1, t2, t3] σ k kp :=
  Ev_of_aw mixed Go.Proofs.Tryz.func226 (show (Go.Proofs.Tryz.f226).body = some body226 by kernel_rfl) (by kernel_rfl) (args := [t0, t1, t2, t3]) (of_decide_eq_true (by kernel_rfl)) (keepOf keep226) (by kernel_rfl) (by rw [F226_eq]; exact h)

/-- strings.Count -/
def F229 (t0 t1 : AV) (σ : AHeap) (k kp : AV → AHeap → Prop) : Prop :=
  stepK (pureR σ (aLenK .str t1 σ)) fun t8 σ =>
  stepK (pureR σ (aBin .eql .prim t8 (.val (Go.Value.int Go.IntKind.i64 0)))) fun t9 σ =>
  condK t9 (
  Ev Go.Proofs.Tryz.prog 231 [t0] σ (fun t11 σ =>
  stepK (pureR σ (aBin .add .prim t11 (.val (Go.Value.int Go.IntKind.i64 1)))) fun t12 σ =>
  k t12 σ
  ) kp) (
  stepK (pureR σ (aLenK .str t1 σ)) fun t14 σ =>
  stepK (pureR σ (aBin .eql .prim t14 (.val (Go.Value.int Go.IntKind.i64 1)))) fun t15 σ =>
  condK t15 (
  stepK (pureR σ (aIndexStr t1 (.val (Go.Value.int Go.IntKind.i64 0)))) fun t18 σ =>
  Ev Go.Proofs.Tryz.prog 233 [t0, t18] σ (fun t19 σ =>
  k t19 σ
  ) kp) (
  loopW (fun fr σ again => (
  Ev Go.Proofs.Tryz.prog 230 [(Abs.look fr 0), (Abs.look fr 1)] σ (fun t22 σ =>
  stepK (pureR σ (aBin .eql .prim t22 (.val (Go.Value.int Go.IntKind.i64 (-1))))) fun t24 σ =>
  condK t24 (
  k (Abs.look fr 5) σ
  ) (
  stepK (pureR σ (aBin .add .prim (Abs.look fr 5) (.val (Go.Value.int Go.IntKind.i64 1)))) fun t27 σ =>
  stepK (pureR σ (aLenK .str (Abs.look fr 1) σ)) fun t31 σ =>
  stepK (pureR σ (aBin .add .prim t22 t31)) fun t32 σ =>
  stepK (pureR σ (aSliceStr (Abs.look fr 0) (some t32) none)) fun t33 σ =>
  again [(0, t33), (1, (Abs.look fr 1)), (5, t27)] σ
  )
  ) kp)) [(0, t0), (1, t1), (5, (.val (Go.Value.int Go.IntKind.i64 0)))] σ
  )
  )
def keep229 : List (Nat × List Nat) := [(0, [0, 1]), (1, [0, 1, 9]), (2, [4]), (3, [0, 1, 15]), (4, [4]), (5, [0, 1, 5]), (6, [0, 1, 5, 6]), (7, [0, 1, 5, 6, 24]), (8, [4]), (9, [0, 1, 5, 6]), (10, [0, 1, 5]), (1006, [0, 1, 5])]
noncomputable def body229 : Code := (Go.Proofs.Tryz.f229).body.getD .skip
theorem F229_eq (t0 t1 : AV) (σ : AHeap) (k kp : AV → AHeap → Prop) : aw Go.Proofs.Tryz.prog (keepOf keep229) body229 (retK Go.Proofs.Tryz.prog (Go.Proofs.Tryz.f229).results.toList k kp) (frameOf 0 [t0, t1]) σ = F229 t0 t1 σ k kp := by kernel_rfl
theorem F229_ev {t0 t1 : AV} {σ : AHeap} {k kp : AV → AHeap → Prop} (h : F229 t0 t1 σ k kp) : Ev Go.Proofs.Tryz.prog 229 [t0, t1] σ k kp :=
  Ev_of_aw mixed Go.Proofs.Tryz.func229 (show (Go.Proofs.Tryz.f229).body = some body229 by kernel_rfl) (by kernel_rfl) (args := [t0, t1]) (of_decide_eq_true (by kernel_rfl)) (keepOf keep229) (by kernel_rfl) (by rw [F229_eq]; exact h)

/-- strings.Index -/
def F230 (t0 t1 : AV) (σ : AHeap) (k kp : AV → AHeap → Prop) : Prop :=
  Ev Go.Proofs.Tryz.prog 234 [t0, t1] σ (fun t7 σ =>
  k t7 σ) kp
def keep230 : List (Nat × List Nat) := [(0, [0, 1]), (1, [4])]
noncomputable def body230 : Code := (Go.Proofs.Tryz.f230).body.getD .skip
theorem F230_eq (t0 t1 : AV) (σ : AHeap) (k kp : AV → AHeap → Prop) : aw Go.Proofs.Tryz.prog (keepOf keep230) body230 (retK Go.Proofs.Tryz.prog (Go.Proofs.Tryz.f230).results.toList k kp) (frameOf 0 [t0, t1]) σ = F230 t0 t1 σ k kp := by kernel_rfl
theorem F230_ev {t0 t1 : AV} {σ : AHeap} {k kp : AV → AHeap → Prop} (h : F230 t0 t1 σ k kp) : Ev Go.Proofs.Tryz.prog 230 [t0, t1] σ k kp :=
  Ev_of_aw mixed Go.Proofs.Tryz.func230 (show (Go.Proofs.Tryz.f230).body = some body230 by kernel_rfl) (by kernel_rfl) (args := [t0, t1]) (of_decide_eq_true (by kernel_rfl)) (keepOf keep230) (by kernel_rfl) (by rw [F230_eq]; exact h)

/-- internal/stringslite.Index -/
def F234 (t0 t1 : AV) (σ : AHeap) (k kp : AV → AHeap → Prop) : Prop :=
  stepK (pureR σ (aLenK .str t1 σ)) fun t15 σ =>
  stepK (pureR σ (aBin .eql .prim t15 (.val (Go.Value.int Go.IntKind.i64 0)))) fun t18 σ =>
  gK t18 false (fun K => K t1 σ) (fun t20 σ =>
  gK t18 false (fun K => K t0 σ) (fun t21 σ =>
  gK t18 false (fun K => stepK (pureR σ (aBin .eql .prim t20 t21)) K) (fun t22 σ =>
  stepK (pureR σ (aPick t18 (.val (Go.Value.bool Bool.true)) t22)) fun t23 σ =>
  condK t23 (
  k (.val (Go.Value.int Go.IntKind.i64 0)) σ
  ) (
  stepK (pureR σ (aBin .eql .prim t15 (.val (Go.Value.int Go.IntKind.i64 1)))) fun t26 σ =>
  condK t26 (
  stepK (pureR σ (aIndexStr t1 (.val (Go.Value.int Go.IntKind.i64 0)))) fun t29 σ =>
  Ev Go.Proofs.Tryz.prog 225 [t0, t29] σ (fun t30 σ =>
  k t30 σ
  ) kp) (
  stepK (pureR σ (aLenK .str t0 σ)) fun t34 σ =>
  stepK (pureR σ (aBin .geq .prim t15 t34)) fun t35 σ =>
  condK t35 (
  k (.val (Go.Value.int Go.IntKind.i64 (-1))) σ
  ) (
  stepK (pureR σ (aLoad false 1 (.val (.pointer (some ⟨0, 0, none⟩))) σ)) fun t38 σ =>
  stepK (pureR σ (aBin .leq .prim t15 t38)) fun t39 σ =>
  gK t39 true (fun K => K t0 σ) (fun t41 σ =>
  gK t39 true (fun K => stepK (pureR σ (aLenK .str t41 σ)) K) (fun t42 σ =>
  gK t39 true (fun K => stepK (pureR σ (aBin .leq .prim t42 (.val (Go.Value.int Go.IntKind.i64 64)))) K) (fun t43 σ =>
  stepK (pureR σ (aPick t39 t43 (.val (Go.Value.bool Bool.false)))) fun t44 σ =>
  condK t44 (
  Ev Go.Proofs.Tryz.prog 236 [t0, t1] σ (fun t47 σ =>
  k t47 σ
  ) kp) (
  stepK (pureR σ (aIndexStr t1 (.val (Go.Value.int Go.IntKind.i64 0)))) fun t49 σ =>
  stepK (pureR σ (aIndexStr t1 (.val (Go.Value.int Go.IntKind.i64 1)))) fun t51 σ =>
  stepK (pureR σ (aLenK .str t0 σ)) fun t53 σ =>
  stepK (pureR σ (aBin .sub .prim t53 t15)) fun t55 σ =>
  stepK (pureR σ (aBin .add .prim t55 (.val (Go.Value.int Go.IntKind.i64 1)))) fun t56 σ =>
  seqW (fun fr σ => (
  k (.val (Go.Value.int Go.IntKind.i64 (-1))) σ
  )) (fun j1 => (
  loopW (fun fr σ again => (
  stepK (pureR σ (aBin .lss .prim (Abs.look fr 8) (Abs.look fr 9))) fun t59 σ =>
  condK t59 (
  seqW (fun fr σ => (
  stepK (pureR σ (aBin .add .prim (Abs.look fr 8) (.val (Go.Value.int Go.IntKind.i64 1)))) fun t80 σ =>
  stepK (pureR σ (aIndexStr (Abs.look fr 0) t80)) fun t81 σ =>
  stepK (pureR σ (aBin .eql .prim t81 (Abs.look fr 7))) fun t83 σ =>
  gK t83 true (fun K => K (Abs.look fr 0) σ) (fun t85 σ =>
  gK t83 true (fun K => K (Abs.look fr 8) σ) (fun t86 σ =>
  gK t83 true (fun K => K (Abs.look fr 8) σ) (fun t87 σ =>
  gK t83 true (fun K => K (Abs.look fr 5) σ) (fun t88 σ =>
  gK t83 true (fun K => stepK (pureR σ (aBin .add .prim t87 t88)) K) (fun t89 σ =>
  gK t83 true (fun K => stepK (pureR σ (aSliceStr t85 (some t86) (some t89))) K) (fun t90 σ =>
  gK t83 true (fun K => K (Abs.look fr 1) σ) (fun t91 σ =>
  gK t83 true (fun K => stepK (pureR σ (aBin .eql .prim t90 t91)) K) (fun t92 σ =>
  stepK (pureR σ (aPick t83 t92 (.val (Go.Value.bool Bool.false)))) fun t93 σ =>
  condK t93 (
  k (Abs.look fr 8) σ
  ) (
  stepK (pureR σ (aBin .add .prim (Abs.look fr 8) (.val (Go.Value.int Go.IntKind.i64 1)))) fun t96 σ =>
  stepK (pureR σ (aBin .add .prim (Abs.look fr 10) (.val (Go.Value.int Go.IntKind.i64 1)))) fun t98 σ =>
  stepK (pureR σ (aLoad false 1 (.val (.pointer (some ⟨0, 0, none⟩))) σ)) fun t100 σ =>
  stepK (pureR σ (aBin .leq .prim (Abs.look fr 5) t100)) fun t101 σ =>
  gK t101 true (fun K => K t98 σ) (fun t103 σ =>
  gK t101 true (fun K => K t96 σ) (fun t104 σ =>
  gK t101 true (fun K => Ev Go.Proofs.Tryz.prog 237 [t104] σ K kp) (fun t105 σ =>
  gK t101 true (fun K => stepK (pureR σ (aBin .gtr .prim t103 t105)) K) (fun t106 σ =>
  stepK (pureR σ (aPick t101 t106 (.val (Go.Value.bool Bool.false)))) fun t107 σ =>
  condK t107 (
  stepK (pureR σ (aSliceStr (Abs.look fr 0) (some t96) none)) fun t110 σ =>
  Ev Go.Proofs.Tryz.prog 236 [t110, (Abs.look fr 1)] σ (fun t112 σ =>
  stepK (pureR σ (aBin .geq .prim t112 (.val (Go.Value.int Go.IntKind.i64 0)))) fun t114 σ =>
  condK t114 (
  stepK (pureR σ (aBin .add .prim t112 t96)) fun t117 σ =>
  k t117 σ
  ) (
  k (.val (Go.Value.int Go.IntKind.i64 (-1))) σ
  )
  ) kp) (
  stepK (pureR σ (aLoad false 1 (.val (.pointer (some ⟨0, 0, none⟩))) σ)) fun t119 σ =>
  stepK (pureR σ (aBin .gtr .prim (Abs.look fr 5) t119)) fun t120 σ =>
  gK t120 true (fun K => K t98 σ) (fun t122 σ =>
  gK t120 true (fun K => K t96 σ) (fun t123 σ =>
  gK t120 true (fun K => stepK (pureR σ (aBin .shr .prim t123 (.val (Go.Value.int Go.IntKind.u64 4)))) K) (fun t124 σ =>
  gK t120 true (fun K => stepK (pureR σ (aBin .add .prim (.val (Go.Value.int Go.IntKind.i64 4)) t124)) K) (fun t125 σ =>
  gK t120 true (fun K => stepK (pureR σ (aBin .geq .prim t122 t125)) K) (fun t126 σ =>
  stepK (pureR σ (aPick t120 t126 (.val (Go.Value.bool Bool.false)))) fun t127 σ =>
  gK t127 true (fun K => K t96 σ) (fun t129 σ =>
  gK t127 true (fun K => K (Abs.look fr 9) σ) (fun t130 σ =>
  gK t127 true (fun K => stepK (pureR σ (aBin .lss .prim t129 t130)) K) (fun t131 σ =>
  stepK (pureR σ (aPick t127 t131 (.val (Go.Value.bool Bool.false)))) fun t132 σ =>
  condK t132 (
  stepK (pureR σ (aSliceStr (Abs.look fr 0) (some t96) none)) fun t135 σ =>
  Ev Go.Proofs.Tryz.prog 238 [t135, (Abs.look fr 1)] σ (fun t137 σ =>
  stepK (pureR σ (aBin .lss .prim t137 (.val (Go.Value.int Go.IntKind.i64 0)))) fun t139 σ =>
  condK t139 (
  k (.val (Go.Value.int Go.IntKind.i64 (-1))) σ
  ) (
  stepK (pureR σ (aBin .add .prim t96 t137)) fun t142 σ =>
  k t142 σ
  )
  ) kp) (
  again [(0, (Abs.look fr 0)), (1, (Abs.look fr 1)), (5, (Abs.look fr 5)), (6, (Abs.look fr 6)), (7, (Abs.look fr 7)), (8, t96), (9, (Abs.look fr 9)), (10, t98)] σ
  )
  ) σ) σ) σ) σ) σ) σ) σ) σ)
  ) σ) σ) σ) σ)
  ) σ) σ) σ) σ) σ) σ) σ) σ)) (fun j2 => (
  stepK (pureR σ (aIndexStr (Abs.look fr 0) (Abs.look fr 8))) fun t62 σ =>
  stepK (pureR σ (aBin .neq .prim t62 (Abs.look fr 6))) fun t64 σ =>
  condK t64 (
  stepK (pureR σ (aBin .add .prim (Abs.look fr 8) (.val (Go.Value.int Go.IntKind.i64 1)))) fun t67 σ =>
  stepK (pureR σ (aSliceStr (Abs.look fr 0) (some t67) (some (Abs.look fr 9)))) fun t69 σ =>
  Ev Go.Proofs.Tryz.prog 225 [t69, (Abs.look fr 6)] σ (fun t71 σ =>
  stepK (pureR σ (aBin .lss .prim t71 (.val (Go.Value.int Go.IntKind.i64 0)))) fun t73 σ =>
  condK t73 (
  k (.val (Go.Value.int Go.IntKind.i64 (-1))) σ
  ) (
  stepK (pureR σ (aBin .add .prim t71 (.val (Go.Value.int Go.IntKind.i64 1)))) fun t76 σ =>
  stepK (pureR σ (aBin .add .prim (Abs.look fr 8) t76)) fun t77 σ =>
  j2 [(0, (Abs.look fr 0)), (1, (Abs.look fr 1)), (5, (Abs.look fr 5)), (6, (Abs.look fr 6)), (7, (Abs.look fr 7)), (8, t77), (9, (Abs.look fr 9)), (10, (Abs.look fr 10))] σ
  )
  ) kp) (
  j2 [(0, (Abs.look fr 0)), (1, (Abs.look fr 1)), (5, (Abs.look fr 5)), (6, (Abs.look fr 6)), (7, (Abs.look fr 7)), (8, (Abs.look fr 8)), (9, (Abs.look fr 9)), (10, (Abs.look fr 10))] σ
  )
  ))
  ) (
  j1 [(0, (Abs.look fr 0))] σ
  )
  )) [(0, t0), (1, t1), (5, t15), (6, t49), (7, t51), (8, (.val (Go.Value.int Go.IntKind.i64 0))), (9, t56), (10, (.val (Go.Value.int Go.IntKind.i64 0)))] σ
  ))
  )
  ) σ) σ) σ)
  )
  )) σ) σ) σ
def keep234 : List (Nat × List Nat) := [(0, [0, 1]), (1, [0, 1, 5]), (2, [0, 1, 5, 16]), (3, [4]), (4, [0, 1, 5, 24]), (5, [4]), (6, [0, 1, 5, 31]), (7, [4]), (8, [0, 1, 5, 36]), (9, [4]), (10, [0, 1, 5, 6]), (11, [0, 1, 5, 6, 7]), (12, [0, 1, 5, 6, 7, 8]), (13, [0, 1, 5, 6, 7, 8, 9]), (14, [0, 1, 5, 6, 7, 8, 9, 10]), (3036, [0]), (15, [0, 1, 5, 6, 7, 8, 9, 10, 59]), (3022, [0, 1, 5, 6, 7, 8, 9, 10]), (16, [0, 1, 5, 6, 7, 8, 9, 10, 64]), (17, [0, 1, 5, 6, 7, 8, 9, 10, 11]), (18, [0, 1, 5, 6, 7, 8, 9, 10, 11, 73]), (19, [4]), (20, [0, 1, 5, 6, 7, 8, 9, 10]), (21, [0, 1, 5, 6, 7, 8, 9, 10, 93]), (22, [4]), (23, [0, 1, 5, 6, 7, 8, 9, 10]), (24, [0, 1, 5, 6, 7, 8, 9, 10]), (25, [0, 1, 5, 6, 7, 8, 9, 10, 107]), (26, [8, 12]), (27, [8, 12, 114]), (28, [4]), (29, [4]), (30, [0, 1, 5, 6, 7, 8, 9, 10, 132]), (31, [8, 13]), (32, [8, 13, 139]), (33, [4]), (34, [4]), (1015, [0, 1, 5, 6, 7, 8, 9, 10]), (35, [4])]
noncomputable def body234 : Code := (Go.Proofs.Tryz.f234).body.getD .skip
theorem F234_eq (t0 t1 : AV) (σ : AHeap) (k kp : AV → AHeap → Prop) : aw Go.Proofs.Tryz.prog (keepOf keep234) body234 (retK Go.Proofs.Tryz.prog (Go.Proofs.Tryz.f234).results.toList k kp) (frameOf 0 [t0, t1]) σ = F234 t0 t1 σ k kp := by kernel_rfl
theorem F234_ev {t0 t1 : AV} {σ : AHeap} {k kp : AV → AHeap → Prop} (h : F234 t0 t1 σ k kp) : Ev Go.Proofs.Tryz.prog 234 [t0, t1] σ k kp :=
  Ev_of_aw mixed Go.Proofs.Tryz.func234 (show (Go.Proofs.Tryz.f234).body = some body234 by kernel_rfl) (by kernel_rfl) (args := [t0, t1]) (of_decide_eq_true (by kernel_rfl)) (keepOf keep234) (by kernel_rfl) (by rw [F234_eq]; exact h)

end Go.Proofs.AtD
