import Derived.Test.YtpfaciflhhpokaaGreatDoorAbsL
import Derived.Test.YtpfaciflhhpokaaGreatDoorProg
import Derived.KernelRfl
set_option maxRecDepth 100000
set_option linter.unusedVariables false
namespace Go.Proofs.AtD
open Go Go.Abs

theorem mixed : Go.Proofs.Tryz.prog.follows .mixedOrders = true := by kernel_rfl

/-- enclave/words.Name -/
def F106 (t0 : AV) (σ : AHeap) (k kp : AV → AHeap → Prop) : Prop :=
  Ev Go.Proofs.Tryz.prog 110 [(.fn (.func 118) []), t0] σ (fun t4 σ =>
  k t4 σ) kp
def keep106 : List (Nat × List Nat) := [(0, [0]), (1, [2])]
noncomputable def body106 : Code := (Go.Proofs.Tryz.f106).body.getD .skip
theorem F106_eq (t0 : AV) (σ : AHeap) (k kp : AV → AHeap → Prop) : aw Go.Proofs.Tryz.prog (keepOf keep106) body106 (retK Go.Proofs.Tryz.prog (Go.Proofs.Tryz.f106).results.toList k kp) (frameOf 0 [t0]) σ = F106 t0 σ k kp := by kernel_rfl
theorem F106_ev {t0 : AV} {σ : AHeap} {k kp : AV → AHeap → Prop} (h : F106 t0 σ k kp) : Ev Go.Proofs.Tryz.prog 106 [t0] σ k kp :=
  Ev_of_aw mixed Go.Proofs.Tryz.func106 (show (Go.Proofs.Tryz.f106).body = some body106 by kernel_rfl) (by kernel_rfl) (args := [t0]) (of_decide_eq_true (by kernel_rfl)) (keepOf keep106) (by kernel_rfl) (by rw [F106_eq]; exact h)

/-- enclave/words.Name$1 -/
def F118 (t0 : AV) (σ : AHeap) (k kp : AV → AHeap → Prop) : Prop :=
  Ev Go.Proofs.Tryz.prog 112 [t0, (.val (Go.Value.int Go.IntKind.u8 3))] σ (fun t4 σ =>
  gK t4 true (fun K => K t0 σ) (fun t6 σ =>
  gK t4 true (fun K => Ev Go.Proofs.Tryz.prog 119 [t6] σ K kp) (fun t7 σ =>
  gK t4 true (fun K => stepK (pureR σ (aBin .eql .prim t7 (.val (Go.Value.int Go.IntKind.i64 0)))) K) (fun t8 σ =>
  stepK (pureR σ (aPick t4 t8 (.val (Go.Value.bool Bool.false)))) fun t9 σ =>
  k t9 σ) σ) σ) σ) kp
def keep118 : List (Nat × List Nat) := [(0, [0]), (1, [2])]
noncomputable def body118 : Code := (Go.Proofs.Tryz.f118).body.getD .skip
theorem F118_eq (t0 : AV) (σ : AHeap) (k kp : AV → AHeap → Prop) : aw Go.Proofs.Tryz.prog (keepOf keep118) body118 (retK Go.Proofs.Tryz.prog (Go.Proofs.Tryz.f118).results.toList k kp) (frameOf 0 [t0]) σ = F118 t0 σ k kp := by kernel_rfl
theorem F118_ev {t0 : AV} {σ : AHeap} {k kp : AV → AHeap → Prop} (h : F118 t0 σ k kp) : Ev Go.Proofs.Tryz.prog 118 [t0] σ k kp :=
  Ev_of_aw mixed Go.Proofs.Tryz.func118 (show (Go.Proofs.Tryz.f118).body = some body118 by kernel_rfl) (by kernel_rfl) (args := [t0]) (of_decide_eq_true (by kernel_rfl)) (keepOf keep118) (by kernel_rfl) (by rw [F118_eq]; exact h)

/-- enclave/words.Keyword -/
def F119 (t0 : AV) (σ : AHeap) (k kp : AV → AHeap → Prop) : Prop :=
  stepK (pureR σ (aBin .eql .prim t0 (.val (Go.Value.string { data := #[] })))) fun t4 σ =>
  condK t4 (
  k (.val (Go.Value.int Go.IntKind.i64 0)) σ
  ) (
  Ev Go.Proofs.Tryz.prog 137 [] σ (fun t5 σ =>
  Ev Go.Proofs.Tryz.prog 136 [t5, t0] σ (fun t7 σ =>
  stepK (pureR σ (aMax (.val (Go.Value.int Go.IntKind.i64 0)) t7)) fun t8 σ =>
  k t8 σ
  ) kp) kp)
def keep119 : List (Nat × List Nat) := [(0, [0]), (1, [0, 4]), (2, [2]), (3, [2])]
noncomputable def body119 : Code := (Go.Proofs.Tryz.f119).body.getD .skip
theorem F119_eq (t0 : AV) (σ : AHeap) (k kp : AV → AHeap → Prop) : aw Go.Proofs.Tryz.prog (keepOf keep119) body119 (retK Go.Proofs.Tryz.prog (Go.Proofs.Tryz.f119).results.toList k kp) (frameOf 0 [t0]) σ = F119 t0 σ k kp := by kernel_rfl
theorem F119_ev {t0 : AV} {σ : AHeap} {k kp : AV → AHeap → Prop} (h : F119 t0 σ k kp) : Ev Go.Proofs.Tryz.prog 119 [t0] σ k kp :=
  Ev_of_aw mixed Go.Proofs.Tryz.func119 (show (Go.Proofs.Tryz.f119).body = some body119 by kernel_rfl) (by kernel_rfl) (args := [t0]) (of_decide_eq_true (by kernel_rfl)) (keepOf keep119) (by kernel_rfl) (by rw [F119_eq]; exact h)

/-- slices.Index[[]string,string] -/
def F136 (t0 t1 : AV) (σ : AHeap) (k kp : AV → AHeap → Prop) : Prop :=
  seqW (fun fr σ => (
  k (.val (Go.Value.int Go.IntKind.i64 (-1))) σ
  )) (fun j1 => (
  stepK (pureR σ (aLenK .slice t0 σ)) fun t7 σ =>
  loopW (fun fr σ again => (
  stepK (pureR σ (aBin .lss .prim (Abs.look fr 8) (Abs.look fr 7))) fun t9 σ =>
  condK t9 (
  stepK (pureR σ (aIndexAddr 1 (Abs.look fr 0) (Abs.look fr 8) σ)) fun t14 σ =>
  stepK (pureR σ (aLoad false 1 t14 σ)) fun t15 σ =>
  stepK (pureR σ (aBin .eql .prim (Abs.look fr 1) t15)) fun t16 σ =>
  condK t16 (
  k (Abs.look fr 8) σ
  ) (
  stepK (pureR σ (aBin .add .prim (Abs.look fr 8) (.val (Go.Value.int Go.IntKind.i64 1)))) fun t18 σ =>
  again [(0, (Abs.look fr 0)), (1, (Abs.look fr 1)), (7, (Abs.look fr 7)), (8, t18)] σ
  )
  ) (
  j1 [(0, (Abs.look fr 0))] σ
  )
  )) [(0, t0), (1, t1), (7, t7), (8, (.val (Go.Value.int Go.IntKind.i64 0)))] σ
  ))
def keep136 : List (Nat × List Nat) := [(0, [0, 1]), (3008, [0]), (1, [0, 1, 7, 8]), (2, [0, 1, 7, 8, 9]), (3, [0, 1, 5, 7, 8]), (4, [0, 1, 5, 7, 8, 16]), (5, [4]), (6, [0, 1, 7, 8]), (1002, [0, 1, 7, 8]), (7, [4])]
noncomputable def body136 : Code := (Go.Proofs.Tryz.f136).body.getD .skip
theorem F136_eq (t0 t1 : AV) (σ : AHeap) (k kp : AV → AHeap → Prop) : aw Go.Proofs.Tryz.prog (keepOf keep136) body136 (retK Go.Proofs.Tryz.prog (Go.Proofs.Tryz.f136).results.toList k kp) (frameOf 0 [t0, t1]) σ = F136 t0 t1 σ k kp := by kernel_rfl
theorem F136_ev {t0 t1 : AV} {σ : AHeap} {k kp : AV → AHeap → Prop} (h : F136 t0 t1 σ k kp) : Ev Go.Proofs.Tryz.prog 136 [t0, t1] σ k kp :=
  Ev_of_aw mixed Go.Proofs.Tryz.func136 (show (Go.Proofs.Tryz.f136).body = some body136 by kernel_rfl) (by kernel_rfl) (args := [t0, t1]) (of_decide_eq_true (by kernel_rfl)) (keepOf keep136) (by kernel_rfl) (by rw [F136_eq]; exact h)

/-- enclave/words.keywords -/
def F137 (σ : AHeap) (k kp : AV → AHeap → Prop) : Prop :=
  Ev Go.Proofs.Tryz.prog 147 [(.val (Go.Value.string { data := #[32, 108, 101, 116, 32, 108, 101, 116, 114, 101, 99, 32, 105, 110, 32, 102, 110, 32, 105, 102, 32, 116, 104, 101, 110, 32, 101, 108, 115, 101, 32, 114, 97, 105, 115, 101, 32, 116, 114, 121, 32, 119, 105, 116, 104, 32, 114, 101, 102, 32, 102, 115, 116, 32, 115, 110, 100, 32, 101, 120, 110] })), (.val (Go.Value.string { data := #[32] }))] σ (fun t1 σ =>
  k t1 σ) kp
def keep137 : List (Nat × List Nat) := [(0, []), (1, [0])]
noncomputable def body137 : Code := (Go.Proofs.Tryz.f137).body.getD .skip
theorem F137_eq (σ : AHeap) (k kp : AV → AHeap → Prop) : aw Go.Proofs.Tryz.prog (keepOf keep137) body137 (retK Go.Proofs.Tryz.prog (Go.Proofs.Tryz.f137).results.toList k kp) (frameOf 0 []) σ = F137 σ k kp := by kernel_rfl
theorem F137_ev {σ : AHeap} {k kp : AV → AHeap → Prop} (h : F137 σ k kp) : Ev Go.Proofs.Tryz.prog 137 [] σ k kp :=
  Ev_of_aw mixed Go.Proofs.Tryz.func137 (show (Go.Proofs.Tryz.f137).body = some body137 by kernel_rfl) (by kernel_rfl) (args := []) (of_decide_eq_true (by kernel_rfl)) (keepOf keep137) (by kernel_rfl) (by rw [F137_eq]; exact h)

/-- strings.Split -/
def F147 (t0 t1 : AV) (σ : AHeap) (k kp : AV → AHeap → Prop) : Prop :=
  Ev Go.Proofs.Tryz.prog 150 [t0, t1, (.val (Go.Value.int Go.IntKind.i64 0)), (.val (Go.Value.int Go.IntKind.i64 (-1)))] σ (fun t7 σ =>
  k t7 σ) kp
def keep147 : List (Nat × List Nat) := [(0, [0, 1]), (1, [4])]
noncomputable def body147 : Code := (Go.Proofs.Tryz.f147).body.getD .skip
theorem F147_eq (t0 t1 : AV) (σ : AHeap) (k kp : AV → AHeap → Prop) : aw Go.Proofs.Tryz.prog (keepOf keep147) body147 (retK Go.Proofs.Tryz.prog (Go.Proofs.Tryz.f147).results.toList k kp) (frameOf 0 [t0, t1]) σ = F147 t0 t1 σ k kp := by kernel_rfl
theorem F147_ev {t0 t1 : AV} {σ : AHeap} {k kp : AV → AHeap → Prop} (h : F147 t0 t1 σ k kp) : Ev Go.Proofs.Tryz.prog 147 [t0, t1] σ k kp :=
  Ev_of_aw mixed Go.Proofs.Tryz.func147 (show (Go.Proofs.Tryz.f147).body = some body147 by kernel_rfl) (by kernel_rfl) (args := [t0, t1]) (of_decide_eq_true (by kernel_rfl)) (keepOf keep147) (by kernel_rfl) (by rw [F147_eq]; exact h)

/-- strings.genSplit -/
def F150 (t0 t1 t2 t3 : AV) (σ : AHeap) (k kp : AV → AHeap → Prop) : Prop :=
  stepK (pureR σ (aBin .eql .prim t3 (.val (Go.Value.int Go.IntKind.i64 0)))) fun t13 σ =>
  condK t13 (
  k (.val (Go.Value.slice Option.none 0 0)) σ
  ) (
  stepK (pureR σ (aBin .eql .prim t1 (.val (Go.Value.string { data := #[] })))) fun t15 σ =>
  condK t15 (
  Ev Go.Proofs.Tryz.prog 152 [t0, t3] σ (fun t18 σ =>
  k t18 σ
  ) kp) (
  seqW (fun fr σ => (
  stepK (pureR σ (aLenK .str (Abs.look fr 0) σ)) fun t27 σ =>
  stepK (pureR σ (aBin .add .prim t27 (.val (Go.Value.int Go.IntKind.i64 1)))) fun t28 σ =>
  stepK (pureR σ (aMin (Abs.look fr 3) t28)) fun t29 σ =>
  stepK (aMakeSlice 1 16 [.val (.string ByteArray.empty)] t29 t29 σ) fun t31 σ =>
  stepK (pureR σ (aBin .sub .prim t29 (.val (Go.Value.int Go.IntKind.i64 1)))) fun t33 σ =>
  seqW (fun fr σ => (
  stepK (pureR σ (aIndexAddr 1 (Abs.look fr 9) (Abs.look fr 10) σ)) fun t61 σ =>
  stepK (unitR (aStore 1 t61 (Abs.look fr 0) σ)) fun _ σ =>
  stepK (pureR σ (aBin .add .prim (Abs.look fr 10) (.val (Go.Value.int Go.IntKind.i64 1)))) fun t64 σ =>
  stepK (pureR σ (aSlice 1 (Abs.look fr 9) none (some t64) none)) fun t65 σ =>
  k t65 σ
  )) (fun j2 => (
  loopW (fun fr σ again => (
  stepK (pureR σ (aBin .lss .prim (Abs.look fr 10) (Abs.look fr 3))) fun t36 σ =>
  condK t36 (
  Ev Go.Proofs.Tryz.prog 154 [(Abs.look fr 0), (Abs.look fr 1)] σ (fun t39 σ =>
  stepK (pureR σ (aBin .lss .prim t39 (.val (Go.Value.int Go.IntKind.i64 0)))) fun t41 σ =>
  condK t41 (
  j2 [(0, (Abs.look fr 0)), (9, (Abs.look fr 9)), (10, (Abs.look fr 10))] σ
  ) (
  stepK (pureR σ (aBin .add .prim t39 (Abs.look fr 2))) fun t47 σ =>
  stepK (pureR σ (aSliceStr (Abs.look fr 0) none (some t47))) fun t48 σ =>
  stepK (pureR σ (aIndexAddr 1 (Abs.look fr 9) (Abs.look fr 10) σ)) fun t49 σ =>
  stepK (unitR (aStore 1 t49 t48 σ)) fun _ σ =>
  stepK (pureR σ (aLenK .str (Abs.look fr 1) σ)) fun t53 σ =>
  stepK (pureR σ (aBin .add .prim t39 t53)) fun t54 σ =>
  stepK (pureR σ (aSliceStr (Abs.look fr 0) (some t54) none)) fun t55 σ =>
  stepK (pureR σ (aBin .add .prim (Abs.look fr 10) (.val (Go.Value.int Go.IntKind.i64 1)))) fun t57 σ =>
  again [(0, t55), (1, (Abs.look fr 1)), (2, (Abs.look fr 2)), (3, (Abs.look fr 3)), (9, (Abs.look fr 9)), (10, t57)] σ
  )
  ) kp) (
  j2 [(0, (Abs.look fr 0)), (9, (Abs.look fr 9)), (10, (Abs.look fr 10))] σ
  )
  )) [(0, (Abs.look fr 0)), (1, (Abs.look fr 1)), (2, (Abs.look fr 2)), (3, t33), (9, t31), (10, (.val (Go.Value.int Go.IntKind.i64 0)))] σ
  ))
  )) (fun j1 => (
  stepK (pureR σ (aBin .lss .prim t3 (.val (Go.Value.int Go.IntKind.i64 0)))) fun t20 σ =>
  condK t20 (
  Ev Go.Proofs.Tryz.prog 153 [t0, t1] σ (fun t23 σ =>
  stepK (pureR σ (aBin .add .prim t23 (.val (Go.Value.int Go.IntKind.i64 1)))) fun t24 σ =>
  j1 [(0, t0), (1, t1), (2, t2), (3, t24)] σ
  ) kp) (
  j1 [(0, t0), (1, t1), (2, t2), (3, t3)] σ
  )
  ))
  )
  )
def keep150 : List (Nat × List Nat) := [(0, [0, 1, 2, 3]), (1, [0, 1, 2, 3, 13]), (2, [8]), (3, [0, 1, 2, 3, 15]), (4, [8]), (3008, [0, 1, 2, 3]), (5, [0, 1, 2, 3, 20]), (6, [0, 1, 2, 3]), (7, [0, 1, 2, 3]), (8, [0, 1, 2, 3, 9]), (9, [0, 1, 2, 3, 9]), (10, [0, 1, 2, 3, 9, 10]), (3018, [0, 9, 10]), (11, [0, 1, 2, 3, 9, 10, 36]), (12, [0, 1, 2, 3, 9, 10, 11]), (13, [0, 1, 2, 3, 9, 10, 11, 41]), (14, [0, 1, 2, 3, 9, 10, 11]), (15, [0, 1, 2, 3, 9, 10]), (16, [0, 1, 2, 3, 9, 10]), (1011, [0, 1, 2, 3, 9, 10]), (17, [9, 10]), (18, [8])]
noncomputable def body150 : Code := (Go.Proofs.Tryz.f150).body.getD .skip
theorem F150_eq (t0 t1 t2 t3 : AV) (σ : AHeap) (k kp : AV → AHeap → Prop) : aw Go.Proofs.Tryz.prog (keepOf keep150) body150 (retK Go.Proofs.Tryz.prog (Go.Proofs.Tryz.f150).results.toList k kp) (frameOf 0 [t0, t1, t2, t3]) σ = F150 t0 t1 t2 t3 σ k kp := by kernel_rfl
theorem F150_ev {t0 t1 t2 t3 : AV} {σ : AHeap} {k kp : AV → AHeap → Prop} (h : F150 t0 t1 t2 t3 σ k kp) : Ev Go.Proofs.Tryz.prog 150 [t0, t1, t2, t3] σ k kp :=
  Ev_of_aw mixed Go.Proofs.Tryz.func150 (show (Go.Proofs.Tryz.f150).body = some body150 by kernel_rfl) (by kernel_rfl) (args := [t0, t1, t2, t3]) (of_decide_eq_true (by kernel_rfl)) (keepOf keep150) (by kernel_rfl) (by rw [F150_eq]; exact h)

/-- strings.Count -/
def F153 (t0 t1 : AV) (σ : AHeap) (k kp : AV → AHeap → Prop) : Prop :=
  stepK (pureR σ (aLenK .str t1 σ)) fun t8 σ =>
  stepK (pureR σ (aBin .eql .prim t8 (.val (Go.Value.int Go.IntKind.i64 0)))) fun t9 σ =>
  condK t9 (
  Ev Go.Proofs.Tryz.prog 155 [t0] σ (fun t11 σ =>
  stepK (pureR σ (aBin .add .prim t11 (.val (Go.Value.int Go.IntKind.i64 1)))) fun t12 σ =>
  k t12 σ
  ) kp) (
  stepK (pureR σ (aLenK .str t1 σ)) fun t14 σ =>
  stepK (pureR σ (aBin .eql .prim t14 (.val (Go.Value.int Go.IntKind.i64 1)))) fun t15 σ =>
  condK t15 (
  stepK (pureR σ (aIndexStr t1 (.val (Go.Value.int Go.IntKind.i64 0)))) fun t18 σ =>
  Ev Go.Proofs.Tryz.prog 157 [t0, t18] σ (fun t19 σ =>
  k t19 σ
  ) kp) (
  loopW (fun fr σ again => (
  Ev Go.Proofs.Tryz.prog 154 [(Abs.look fr 0), (Abs.look fr 1)] σ (fun t22 σ =>
  stepK (pureR σ (aBin .eql .prim t22 (.val (Go.Value.int Go.IntKind.i64 (-1))))) fun t24 σ =>
  condK t24 (
  k (Abs.look fr 5) σ
  ) (
  stepK (pureR σ (aBin .add .prim (Abs.look fr 5) (.val (Go.Value.int Go.IntKind.i64 1)))) fun t27 σ =>
  stepK (pureR σ (aLenK .str (Abs.look fr 1) σ)) fun t31 σ =>
  stepK (pureR σ (aBin .add .prim t22 t31)) fun t32 σ =>
  stepK (pureR σ (aSliceStr (Abs.look fr 0) (some t32) none)) fun t33 σ =>
  again [(0, t33), (1, (Abs.look fr 1)), (5, t27)] σ
  )
  ) kp)) [(0, t0), (1, t1), (5, (.val (Go.Value.int Go.IntKind.i64 0)))] σ
  )
  )
def keep153 : List (Nat × List Nat) := [(0, [0, 1]), (1, [0, 1, 9]), (2, [4]), (3, [0, 1, 15]), (4, [4]), (5, [0, 1, 5]), (6, [0, 1, 5, 6]), (7, [0, 1, 5, 6, 24]), (8, [4]), (9, [0, 1, 5, 6]), (10, [0, 1, 5]), (1006, [0, 1, 5])]
noncomputable def body153 : Code := (Go.Proofs.Tryz.f153).body.getD .skip
theorem F153_eq (t0 t1 : AV) (σ : AHeap) (k kp : AV → AHeap → Prop) : aw Go.Proofs.Tryz.prog (keepOf keep153) body153 (retK Go.Proofs.Tryz.prog (Go.Proofs.Tryz.f153).results.toList k kp) (frameOf 0 [t0, t1]) σ = F153 t0 t1 σ k kp := by kernel_rfl
theorem F153_ev {t0 t1 : AV} {σ : AHeap} {k kp : AV → AHeap → Prop} (h : F153 t0 t1 σ k kp) : Ev Go.Proofs.Tryz.prog 153 [t0, t1] σ k kp :=
  Ev_of_aw mixed Go.Proofs.Tryz.func153 (show (Go.Proofs.Tryz.f153).body = some body153 by kernel_rfl) (by kernel_rfl) (args := [t0, t1]) (of_decide_eq_true (by kernel_rfl)) (keepOf keep153) (by kernel_rfl) (by rw [F153_eq]; exact h)

/-- strings.Index -/
def F154 (t0 t1 : AV) (σ : AHeap) (k kp : AV → AHeap → Prop) : Prop :=
  Ev Go.Proofs.Tryz.prog 158 [t0, t1] σ (fun t7 σ =>
  k t7 σ) kp
def keep154 : List (Nat × List Nat) := [(0, [0, 1]), (1, [4])]
noncomputable def body154 : Code := (Go.Proofs.Tryz.f154).body.getD .skip
theorem F154_eq (t0 t1 : AV) (σ : AHeap) (k kp : AV → AHeap → Prop) : aw Go.Proofs.Tryz.prog (keepOf keep154) body154 (retK Go.Proofs.Tryz.prog (Go.Proofs.Tryz.f154).results.toList k kp) (frameOf 0 [t0, t1]) σ = F154 t0 t1 σ k kp := by kernel_rfl
theorem F154_ev {t0 t1 : AV} {σ : AHeap} {k kp : AV → AHeap → Prop} (h : F154 t0 t1 σ k kp) : Ev Go.Proofs.Tryz.prog 154 [t0, t1] σ k kp :=
  Ev_of_aw mixed Go.Proofs.Tryz.func154 (show (Go.Proofs.Tryz.f154).body = some body154 by kernel_rfl) (by kernel_rfl) (args := [t0, t1]) (of_decide_eq_true (by kernel_rfl)) (keepOf keep154) (by kernel_rfl) (by rw [F154_eq]; exact h)

/-- internal/stringslite.Index -/
def F158 (t0 t1 : AV) (σ : AHeap) (k kp : AV → AHeap → Prop) : Prop :=
  stepK (pureR σ (aLenK .str t1 σ)) fun t15 σ =>
  stepK (pureR σ (aBin .eql .prim t15 (.val (Go.Value.int Go.IntKind.i64 0)))) fun t18 σ =>
  gK t18 false (fun K => K t1 σ) (fun t20 σ =>
  gK t18 false (fun K => K t0 σ) (fun t21 σ =>
  gK t18 false (fun K => stepK (pureR σ (aBin .eql .prim t20 t21)) K) (fun t22 σ =>
  stepK (pureR σ (aPick t18 (.val (Go.Value.bool Bool.true)) t22)) fun t23 σ =>
  condK t23 (
  k (.val (Go.Value.int Go.IntKind.i64 0)) σ
  ) (
  stepK (pureR σ (aBin .eql .prim t15 (.val (Go.Value.int Go.IntKind.i64 1)))) fun t26 σ =>
  condK t26 (
  stepK (pureR σ (aIndexStr t1 (.val (Go.Value.int Go.IntKind.i64 0)))) fun t29 σ =>
  Ev Go.Proofs.Tryz.prog 149 [t0, t29] σ (fun t30 σ =>
  k t30 σ
  ) kp) (
  stepK (pureR σ (aLenK .str t0 σ)) fun t34 σ =>
  stepK (pureR σ (aBin .geq .prim t15 t34)) fun t35 σ =>
  condK t35 (
  k (.val (Go.Value.int Go.IntKind.i64 (-1))) σ
  ) (
  stepK (pureR σ (aLoad false 1 (.val (.pointer (some ⟨0, 0, none⟩))) σ)) fun t38 σ =>
  stepK (pureR σ (aBin .leq .prim t15 t38)) fun t39 σ =>
  gK t39 true (fun K => K t0 σ) (fun t41 σ =>
  gK t39 true (fun K => stepK (pureR σ (aLenK .str t41 σ)) K) (fun t42 σ =>
  gK t39 true (fun K => stepK (pureR σ (aBin .leq .prim t42 (.val (Go.Value.int Go.IntKind.i64 64)))) K) (fun t43 σ =>
  stepK (pureR σ (aPick t39 t43 (.val (Go.Value.bool Bool.false)))) fun t44 σ =>
  condK t44 (
  Ev Go.Proofs.Tryz.prog 160 [t0, t1] σ (fun t47 σ =>
  k t47 σ
  ) kp) (
  stepK (pureR σ (aIndexStr t1 (.val (Go.Value.int Go.IntKind.i64 0)))) fun t49 σ =>
  stepK (pureR σ (aIndexStr t1 (.val (Go.Value.int Go.IntKind.i64 1)))) fun t51 σ =>
  stepK (pureR σ (aLenK .str t0 σ)) fun t53 σ =>
  stepK (pureR σ (aBin .sub .prim t53 t15)) fun t55 σ =>
  stepK (pureR σ (aBin .add .prim t55 (.val (Go.Value.int Go.IntKind.i64 1)))) fun t56 σ =>
  seqW (fun fr σ => (
  k (.val (Go.Value.int Go.IntKind.i64 (-1))) σ
  )) (fun j1 => (
  loopW (fun fr σ again => (
  stepK (pureR σ (aBin .lss .prim (Abs.look fr 8) (Abs.look fr 9))) fun t59 σ =>
  condK t59 (
  seqW (fun fr σ => (
  stepK (pureR σ (aBin .add .prim (Abs.look fr 8) (.val (Go.Value.int Go.IntKind.i64 1)))) fun t80 σ =>
  stepK (pureR σ (aIndexStr (Abs.look fr 0) t80)) fun t81 σ =>
  stepK (pureR σ (aBin .eql .prim t81 (Abs.look fr 7))) fun t83 σ =>
  gK t83 true (fun K => K (Abs.look fr 0) σ) (fun t85 σ =>
  gK t83 true (fun K => K (Abs.look fr 8) σ) (fun t86 σ =>
  gK t83 true (fun K => K (Abs.look fr 8) σ) (fun t87 σ =>
  gK t83 true (fun K => K (Abs.look fr 5) σ) (fun t88 σ =>
  gK t83 true (fun K => stepK (pureR σ (aBin .add .prim t87 t88)) K) (fun t89 σ =>
  gK t83 true (fun K => stepK (pureR σ (aSliceStr t85 (some t86) (some t89))) K) (fun t90 σ =>
  gK t83 true (fun K => K (Abs.look fr 1) σ) (fun t91 σ =>
  gK t83 true (fun K => stepK (pureR σ (aBin .eql .prim t90 t91)) K) (fun t92 σ =>
  stepK (pureR σ (aPick t83 t92 (.val (Go.Value.bool Bool.false)))) fun t93 σ =>
  condK t93 (
  k (Abs.look fr 8) σ
  ) (
  stepK (pureR σ (aBin .add .prim (Abs.look fr 8) (.val (Go.Value.int Go.IntKind.i64 1)))) fun t96 σ =>
  stepK (pureR σ (aBin .add .prim (Abs.look fr 10) (.val (Go.Value.int Go.IntKind.i64 1)))) fun t98 σ =>
  stepK (pureR σ (aLoad false 1 (.val (.pointer (some ⟨0, 0, none⟩))) σ)) fun t100 σ =>
  stepK (pureR σ (aBin .leq .prim (Abs.look fr 5) t100)) fun t101 σ =>
  gK t101 true (fun K => K t98 σ) (fun t103 σ =>
  gK t101 true (fun K => K t96 σ) (fun t104 σ =>
  gK t101 true (fun K => Ev Go.Proofs.Tryz.prog 161 [t104] σ K kp) (fun t105 σ =>
  gK t101 true (fun K => stepK (pureR σ (aBin .gtr .prim t103 t105)) K) (fun t106 σ =>
  stepK (pureR σ (aPick t101 t106 (.val (Go.Value.bool Bool.false)))) fun t107 σ =>
  condK t107 (
  stepK (pureR σ (aSliceStr (Abs.look fr 0) (some t96) none)) fun t110 σ =>
  Ev Go.Proofs.Tryz.prog 160 [t110, (Abs.look fr 1)] σ (fun t112 σ =>
  stepK (pureR σ (aBin .geq .prim t112 (.val (Go.Value.int Go.IntKind.i64 0)))) fun t114 σ =>
  condK t114 (
  stepK (pureR σ (aBin .add .prim t112 t96)) fun t117 σ =>
  k t117 σ
  ) (
  k (.val (Go.Value.int Go.IntKind.i64 (-1))) σ
  )
  ) kp) (
  stepK (pureR σ (aLoad false 1 (.val (.pointer (some ⟨0, 0, none⟩))) σ)) fun t119 σ =>
  stepK (pureR σ (aBin .gtr .prim (Abs.look fr 5) t119)) fun t120 σ =>
  gK t120 true (fun K => K t98 σ) (fun t122 σ =>
  gK t120 true (fun K => K t96 σ) (fun t123 σ =>
  gK t120 true (fun K => stepK (pureR σ (aBin .shr .prim t123 (.val (Go.Value.int Go.IntKind.u64 4)))) K) (fun t124 σ =>
  gK t120 true (fun K => stepK (pureR σ (aBin .add .prim (.val (Go.Value.int Go.IntKind.i64 4)) t124)) K) (fun t125 σ =>
  gK t120 true (fun K => stepK (pureR σ (aBin .geq .prim t122 t125)) K) (fun t126 σ =>
  stepK (pureR σ (aPick t120 t126 (.val (Go.Value.bool Bool.false)))) fun t127 σ =>
  gK t127 true (fun K => K t96 σ) (fun t129 σ =>
  gK t127 true (fun K => K (Abs.look fr 9) σ) (fun t130 σ =>
  gK t127 true (fun K => stepK (pureR σ (aBin .lss .prim t129 t130)) K) (fun t131 σ =>
  stepK (pureR σ (aPick t127 t131 (.val (Go.Value.bool Bool.false)))) fun t132 σ =>
  condK t132 (
  stepK (pureR σ (aSliceStr (Abs.look fr 0) (some t96) none)) fun t135 σ =>
  Ev Go.Proofs.Tryz.prog 162 [t135, (Abs.look fr 1)] σ (fun t137 σ =>
  stepK (pureR σ (aBin .lss .prim t137 (.val (Go.Value.int Go.IntKind.i64 0)))) fun t139 σ =>
  condK t139 (
  k (.val (Go.Value.int Go.IntKind.i64 (-1))) σ
  ) (
  stepK (pureR σ (aBin .add .prim t96 t137)) fun t142 σ =>
  k t142 σ
  )
  ) kp) (
  again [(0, (Abs.look fr 0)), (1, (Abs.look fr 1)), (5, (Abs.look fr 5)), (6, (Abs.look fr 6)), (7, (Abs.look fr 7)), (8, t96), (9, (Abs.look fr 9)), (10, t98)] σ
  )
  ) σ) σ) σ) σ) σ) σ) σ) σ)
  ) σ) σ) σ) σ)
  ) σ) σ) σ) σ) σ) σ) σ) σ)) (fun j2 => (
  stepK (pureR σ (aIndexStr (Abs.look fr 0) (Abs.look fr 8))) fun t62 σ =>
  stepK (pureR σ (aBin .neq .prim t62 (Abs.look fr 6))) fun t64 σ =>
  condK t64 (
  stepK (pureR σ (aBin .add .prim (Abs.look fr 8) (.val (Go.Value.int Go.IntKind.i64 1)))) fun t67 σ =>
  stepK (pureR σ (aSliceStr (Abs.look fr 0) (some t67) (some (Abs.look fr 9)))) fun t69 σ =>
  Ev Go.Proofs.Tryz.prog 149 [t69, (Abs.look fr 6)] σ (fun t71 σ =>
  stepK (pureR σ (aBin .lss .prim t71 (.val (Go.Value.int Go.IntKind.i64 0)))) fun t73 σ =>
  condK t73 (
  k (.val (Go.Value.int Go.IntKind.i64 (-1))) σ
  ) (
  stepK (pureR σ (aBin .add .prim t71 (.val (Go.Value.int Go.IntKind.i64 1)))) fun t76 σ =>
  stepK (pureR σ (aBin .add .prim (Abs.look fr 8) t76)) fun t77 σ =>
  j2 [(0, (Abs.look fr 0)), (1, (Abs.look fr 1)), (5, (Abs.look fr 5)), (6, (Abs.look fr 6)), (7, (Abs.look fr 7)), (8, t77), (9, (Abs.look fr 9)), (10, (Abs.look fr 10))] σ
  )
  ) kp) (
  j2 [(0, (Abs.look fr 0)), (1, (Abs.look fr 1)), (5, (Abs.look fr 5)), (6, (Abs.look fr 6)), (7, (Abs.look fr 7)), (8, (Abs.look fr 8)), (9, (Abs.look fr 9)), (10, (Abs.look fr 10))] σ
  )
  ))
  ) (
  j1 [(0, (Abs.look fr 0))] σ
  )
  )) [(0, t0), (1, t1), (5, t15), (6, t49), (7, t51), (8, (.val (Go.Value.int Go.IntKind.i64 0))), (9, t56), (10, (.val (Go.Value.int Go.IntKind.i64 0)))] σ
  ))
  )
  ) σ) σ) σ)
  )
  )) σ) σ) σ
def keep158 : List (Nat × List Nat) := [(0, [0, 1]), (1, [0, 1, 5]), (2, [0, 1, 5, 16]), (3, [4]), (4, [0, 1, 5, 24]), (5, [4]), (6, [0, 1, 5, 31]), (7, [4]), (8, [0, 1, 5, 36]), (9, [4]), (10, [0, 1, 5, 6]), (11, [0, 1, 5, 6, 7]), (12, [0, 1, 5, 6, 7, 8]), (13, [0, 1, 5, 6, 7, 8, 9]), (14, [0, 1, 5, 6, 7, 8, 9, 10]), (3036, [0]), (15, [0, 1, 5, 6, 7, 8, 9, 10, 59]), (3022, [0, 1, 5, 6, 7, 8, 9, 10]), (16, [0, 1, 5, 6, 7, 8, 9, 10, 64]), (17, [0, 1, 5, 6, 7, 8, 9, 10, 11]), (18, [0, 1, 5, 6, 7, 8, 9, 10, 11, 73]), (19, [4]), (20, [0, 1, 5, 6, 7, 8, 9, 10]), (21, [0, 1, 5, 6, 7, 8, 9, 10, 93]), (22, [4]), (23, [0, 1, 5, 6, 7, 8, 9, 10]), (24, [0, 1, 5, 6, 7, 8, 9, 10]), (25, [0, 1, 5, 6, 7, 8, 9, 10, 107]), (26, [8, 12]), (27, [8, 12, 114]), (28, [4]), (29, [4]), (30, [0, 1, 5, 6, 7, 8, 9, 10, 132]), (31, [8, 13]), (32, [8, 13, 139]), (33, [4]), (34, [4]), (1015, [0, 1, 5, 6, 7, 8, 9, 10]), (35, [4])]
noncomputable def body158 : Code := (Go.Proofs.Tryz.f158).body.getD .skip
theorem F158_eq (t0 t1 : AV) (σ : AHeap) (k kp : AV → AHeap → Prop) : aw Go.Proofs.Tryz.prog (keepOf keep158) body158 (retK Go.Proofs.Tryz.prog (Go.Proofs.Tryz.f158).results.toList k kp) (frameOf 0 [t0, t1]) σ = F158 t0 t1 σ k kp := by kernel_rfl
theorem F158_ev {t0 t1 : AV} {σ : AHeap} {k kp : AV → AHeap → Prop} (h : F158 t0 t1 σ k kp) : Ev Go.Proofs.Tryz.prog 158 [t0, t1] σ k kp :=
  Ev_of_aw mixed Go.Proofs.Tryz.func158 (show (Go.Proofs.Tryz.f158).body = some body158 by kernel_rfl) (by kernel_rfl) (args := [t0, t1]) (of_decide_eq_true (by kernel_rfl)) (keepOf keep158) (by kernel_rfl) (by rw [F158_eq]; exact h)

end Go.Proofs.AtD
