import Derived.Test.YtjilebpcaemopaaGreatDoorAbsK
import Derived.Test.YtjilebpcaemopaaGreatDoorProg
import Derived.KernelRfl
import Derived.Test.YtjilebpcaemopaaGreatDoorMacW
set_option maxRecDepth 100000
set_option linter.unusedVariables false
namespace Go.Proofs.MacD
open Go Go.Abs

theorem mixedL : Go.Proofs.Tryz.prog.follows .mixedOrders = true := by kernel_rfl

/-- enclave/enclavelaw20.MachineLeaves -/
def F6 (t0 t1 t2 : AV) (σ : AHeap) (k kp : AV → AHeap → Prop) : Prop :=
  stepK (aBox t0 σ) fun t3 σ =>
  stepK (aBox t2 σ) fun t5 σ =>
  stepK (pureR σ (aLoad true 19 t3 σ)) fun t10 σ =>
  Ev Go.Proofs.Tryz.prog 10 [t10] σ (fun t11 σ =>
  gK t11 false (fun K => K t1 σ) (fun t13 σ =>
  gK t11 false (fun K => stepK (pureR σ (aBin .gtr .prim t13 (.val (Go.Value.int Go.IntKind.i64 2000)))) K) (fun t14 σ =>
  stepK (pureR σ (aPick t11 (.val (Go.Value.bool Bool.true)) t14)) fun t15 σ =>
  condK t15 (
  Ev Go.Proofs.Tryz.prog 11 [] σ (fun t16 σ =>
  k t16 σ
  ) kp) (
  stepK (pureR σ (aLoad true 19 t3 σ)) fun t18 σ =>
  stepK (pureR σ (aLoad true 2 t5 σ)) fun t20 σ =>
  Ev Go.Proofs.Tryz.prog 12 [t18, t1, t20] σ (fun t21 σ =>
  stepK (pureR σ (aExtract 0 t21)) fun t22 σ =>
  stepK (pureR σ (aExtract 1 t21)) fun t23 σ =>
  stepK (aAlloc [.val (.int .u8 0), .val (.bool false), .val (.int .i64 0), .val (.string ByteArray.empty), .val (.int .i64 0), .val (.int .i64 0), .val (.int .i64 0), .val (.int .i64 0)] σ) fun t7 σ =>
  stepK (unitR (aStore 8 t7 t22 σ)) fun _ σ =>
  stepK (pureR σ (aBin .neq .prim t23 (.val (Go.Value.int Go.IntKind.i64 0)))) fun t25 σ =>
  condK t25 (
  stepK (pureR σ (aFieldAddr 5 t7)) fun t26 σ =>
  stepK (pureR σ (aLoad false 1 t26 σ)) fun t27 σ =>
  stepK (pureR σ (aBin .eql .prim t27 (.val (Go.Value.int Go.IntKind.i64 0)))) fun t28 σ =>
  gK t28 true (fun K => stepK (pureR σ (aFieldAddr 4 t7)) K) (fun t30 σ =>
  gK t28 true (fun K => stepK (pureR σ (aLoad false 1 t30 σ)) K) (fun t31 σ =>
  gK t28 true (fun K => stepK (pureR σ (aBin .eql .prim t31 (.val (Go.Value.int Go.IntKind.i64 0)))) K) (fun t32 σ =>
  stepK (pureR σ (aPick t28 t32 (.val (Go.Value.bool Bool.false)))) fun t33 σ =>
  gK t33 true (fun K => Ev Go.Proofs.Tryz.prog 11 [] σ K kp) (fun t35 σ =>
  stepK (pureR σ (aPick t33 t35 (.val (Go.Value.bool Bool.false)))) fun t36 σ =>
  k t36 σ
  ) σ) σ) σ) σ) (
  stepK (pureR σ (aFieldAddr 0 t7)) fun t37 σ =>
  stepK (pureR σ (aFieldAddr 0 t37)) fun t38 σ =>
  stepK (pureR σ (aLoad false 1 t38 σ)) fun t39 σ =>
  stepK (pureR σ (aBin .eql .prim t39 (.val (Go.Value.int Go.IntKind.u8 1)))) fun t40 σ =>
  gK t40 false (fun K => stepK (pureR σ (aFieldAddr 0 t7)) K) (fun t42 σ =>
  gK t40 false (fun K => stepK (pureR σ (aFieldAddr 0 t42)) K) (fun t43 σ =>
  gK t40 false (fun K => stepK (pureR σ (aLoad false 1 t43 σ)) K) (fun t44 σ =>
  gK t40 false (fun K => stepK (pureR σ (aBin .eql .prim t44 (.val (Go.Value.int Go.IntKind.u8 2)))) K) (fun t45 σ =>
  stepK (pureR σ (aPick t40 (.val (Go.Value.bool Bool.true)) t45)) fun t46 σ =>
  gK t46 true (fun K => stepK (pureR σ (aFieldAddr 5 t7)) K) (fun t49 σ =>
  gK t46 true (fun K => stepK (pureR σ (aLoad false 1 t49 σ)) K) (fun t50 σ =>
  gK t46 true (fun K => stepK (pureR σ (aBin .neq .prim t50 (.val (Go.Value.int Go.IntKind.i64 1)))) K) (fun t51 σ =>
  stepK (pureR σ (aPick t46 t51 (.val (Go.Value.bool Bool.false)))) fun t52 σ =>
  gK t52 false (fun K => stepK (pureR σ (aFieldAddr 4 t7)) K) (fun t54 σ =>
  gK t52 false (fun K => stepK (pureR σ (aLoad false 1 t54 σ)) K) (fun t55 σ =>
  gK t52 false (fun K => K t1 σ) (fun t56 σ =>
  gK t52 false (fun K => stepK (pureR σ (aMax t56 (.val (Go.Value.int Go.IntKind.i64 0)))) K) (fun t57 σ =>
  gK t52 false (fun K => stepK (pureR σ (aBin .gtr .prim t55 t57)) K) (fun t58 σ =>
  stepK (pureR σ (aPick t52 (.val (Go.Value.bool Bool.true)) t58)) fun t59 σ =>
  condK t59 (
  k (.val (Go.Value.bool Bool.false)) σ
  ) (
  stepK (pureR σ (aFieldAddr 5 t7)) fun t60 σ =>
  stepK (pureR σ (aLoad false 1 t60 σ)) fun t61 σ =>
  stepK (pureR σ (aBin .geq .prim t61 (.val (Go.Value.int Go.IntKind.i64 1)))) fun t62 σ =>
  gK t62 true (fun K => stepK (pureR σ (aFieldAddr 5 t7)) K) (fun t64 σ =>
  gK t62 true (fun K => stepK (pureR σ (aLoad false 1 t64 σ)) K) (fun t65 σ =>
  gK t62 true (fun K => stepK (pureR σ (aFieldAddr 0 t5)) K) (fun t66 σ =>
  gK t62 true (fun K => stepK (pureR σ (aLoad false 1 t66 σ)) K) (fun t67 σ =>
  gK t62 true (fun K => stepK (pureR σ (aMax (.val (Go.Value.int Go.IntKind.i64 1)) t67)) K) (fun t68 σ =>
  gK t62 true (fun K => stepK (pureR σ (aBin .leq .prim t65 t68)) K) (fun t69 σ =>
  stepK (pureR σ (aPick t62 t69 (.val (Go.Value.bool Bool.false)))) fun t70 σ =>
  gK t70 true (fun K => stepK (pureR σ (aFieldAddr 6 t7)) K) (fun t72 σ =>
  gK t70 true (fun K => stepK (pureR σ (aLoad false 1 t72 σ)) K) (fun t73 σ =>
  gK t70 true (fun K => stepK (pureR σ (aFieldAddr 7 t7)) K) (fun t74 σ =>
  gK t70 true (fun K => stepK (pureR σ (aLoad false 1 t74 σ)) K) (fun t75 σ =>
  gK t70 true (fun K => stepK (pureR σ (aBin .leq .prim t73 t75)) K) (fun t76 σ =>
  stepK (pureR σ (aPick t70 t76 (.val (Go.Value.bool Bool.false)))) fun t77 σ =>
  gK t77 true (fun K => stepK (pureR σ (aFieldAddr 7 t7)) K) (fun t79 σ =>
  gK t77 true (fun K => stepK (pureR σ (aLoad false 1 t79 σ)) K) (fun t80 σ =>
  gK t77 true (fun K => stepK (pureR σ (aFieldAddr 1 t5)) K) (fun t81 σ =>
  gK t77 true (fun K => stepK (pureR σ (aLoad false 1 t81 σ)) K) (fun t82 σ =>
  gK t77 true (fun K => stepK (pureR σ (aMax (.val (Go.Value.int Go.IntKind.i64 0)) t82)) K) (fun t83 σ =>
  gK t77 true (fun K => stepK (pureR σ (aBin .leq .prim t80 t83)) K) (fun t84 σ =>
  stepK (pureR σ (aPick t77 t84 (.val (Go.Value.bool Bool.false)))) fun t85 σ =>
  gK t85 true (fun K => Ev Go.Proofs.Tryz.prog 11 [] σ K kp) (fun t87 σ =>
  stepK (pureR σ (aPick t85 t87 (.val (Go.Value.bool Bool.false)))) fun t88 σ =>
  k t88 σ
  ) σ) σ) σ) σ) σ) σ) σ) σ) σ) σ) σ) σ) σ) σ) σ) σ) σ) σ)
  ) σ) σ) σ) σ) σ) σ) σ) σ) σ) σ) σ) σ)
  ) kp)) σ) σ) kp
def keep6 : List (Nat × List Nat) := [(0, [1, 3, 5]), (1, [1, 3, 5, 15]), (2, [6]), (3, [1, 5, 7, 8]), (4, [1, 5, 7, 25]), (5, [6]), (6, [1, 5, 7, 9]), (7, [5, 7, 59]), (8, [6]), (9, [6])]
noncomputable def body6 : Code := (Go.Proofs.Tryz.f6).body.getD .skip
theorem F6_eq (t0 t1 t2 : AV) (σ : AHeap) (k kp : AV → AHeap → Prop) : aw Go.Proofs.Tryz.prog (keepOf keep6) body6 (retK Go.Proofs.Tryz.prog (Go.Proofs.Tryz.f6).results.toList k kp) (frameOf 0 [t0, t1, t2]) σ = F6 t0 t1 t2 σ k kp := by kernel_rfl
theorem F6_ev {t0 t1 t2 : AV} {σ : AHeap} {k kp : AV → AHeap → Prop} (h : F6 t0 t1 t2 σ k kp) : Ev Go.Proofs.Tryz.prog 6 [t0, t1, t2] σ k kp :=
  Ev_of_aw mixedL Go.Proofs.Tryz.func6 (show (Go.Proofs.Tryz.f6).body = some body6 by kernel_rfl) (by kernel_rfl) (args := [t0, t1, t2]) (of_decide_eq_true (by kernel_rfl)) (keepOf keep6) (by kernel_rfl) (by rw [F6_eq]; exact h)

/-- enclave/enclavelaw20.awake -/
def F11 (σ : AHeap) (k kp : AV → AHeap → Prop) : Prop :=
  stepK (pureR σ (aBuild [.val (.int .u8 0), .val (.int .u8 0), .val (.int .i64 0), .val (.int .i64 0), .val (.string ByteArray.empty), .val (.string ByteArray.empty), .val (.string ByteArray.empty)] [(0, 1, (.val (Go.Value.int Go.IntKind.u8 3)))])) fun t5 σ =>
  callK Go.Proofs.Tryz.prog (.fn (.func 23) []) [(.val (Go.Value.int Go.IntKind.i64 3))] σ (fun t7 σ =>
  callK Go.Proofs.Tryz.prog (.fn (.func 23) []) [(.val (Go.Value.int Go.IntKind.i64 4))] σ (fun t9 σ =>
  stepK (pureR σ (aBuildSl 2 19 [.val (.int .u8 0), .val (.int .u8 0), .val (.int .i64 0), .val (.int .i64 0), .val (.string ByteArray.empty), .val (.string ByteArray.empty), .val (.string ByteArray.empty), .val (.int .i64 0), .val (.slice none 0 0), .val (.slice none 0 0), .val (.int .u8 0), .val (.int .i64 0), .val (.slice none 0 0), .val (.slice none 0 0), .val (.int .u8 0), .val (.int .i64 0), .val (.slice none 0 0), .val (.slice none 0 0), .val (.slice none 0 0)] [(0, t7), (1, t9)])) fun t10 σ =>
  stepK (pureR σ (aBuild [.val (.int .u8 0), .val (.int .u8 0), .val (.int .i64 0), .val (.int .i64 0), .val (.string ByteArray.empty), .val (.string ByteArray.empty), .val (.string ByteArray.empty), .val (.int .i64 0), .val (.slice none 0 0), .val (.slice none 0 0), .val (.int .u8 0), .val (.int .i64 0), .val (.slice none 0 0), .val (.slice none 0 0), .val (.int .u8 0), .val (.int .i64 0), .val (.slice none 0 0), .val (.slice none 0 0), .val (.slice none 0 0)] [(0, 7, t5), (18, 1, t10)])) fun t11 σ =>
  stepK (aAlloc [.val (.int .u8 0), .val (.int .u8 0), .val (.int .i64 0), .val (.int .i64 0), .val (.string ByteArray.empty), .val (.string ByteArray.empty), .val (.string ByteArray.empty), .val (.int .i64 0), .val (.slice none 0 0), .val (.slice none 0 0), .val (.int .u8 0), .val (.int .i64 0), .val (.slice none 0 0), .val (.slice none 0 0), .val (.int .u8 0), .val (.int .i64 0), .val (.slice none 0 0), .val (.slice none 0 0), .val (.slice none 0 0)] σ) fun t2 σ =>
  stepK (unitR (aStore 19 t2 t11 σ)) fun _ σ =>
  stepK (pureR σ (aBuild [.val (.int .u8 0), .val (.int .u8 0), .val (.int .i64 0), .val (.int .i64 0), .val (.string ByteArray.empty), .val (.string ByteArray.empty), .val (.string ByteArray.empty)] [(0, 1, (.val (Go.Value.int Go.IntKind.u8 4)))])) fun t13 σ =>
  stepK (pureR σ (aLoad true 19 t2 σ)) fun t14 σ =>
  stepK (pureR σ (aBuildSl 1 19 [.val (.int .u8 0), .val (.int .u8 0), .val (.int .i64 0), .val (.int .i64 0), .val (.string ByteArray.empty), .val (.string ByteArray.empty), .val (.string ByteArray.empty), .val (.int .i64 0), .val (.slice none 0 0), .val (.slice none 0 0), .val (.int .u8 0), .val (.int .i64 0), .val (.slice none 0 0), .val (.slice none 0 0), .val (.int .u8 0), .val (.int .i64 0), .val (.slice none 0 0), .val (.slice none 0 0), .val (.slice none 0 0)] [(0, t14)])) fun t15 σ =>
  stepK (pureR σ (aBuild [.val (.int .u8 0), .val (.int .u8 0), .val (.int .i64 0), .val (.int .i64 0), .val (.string ByteArray.empty), .val (.string ByteArray.empty), .val (.string ByteArray.empty), .val (.int .i64 0), .val (.slice none 0 0), .val (.slice none 0 0), .val (.int .u8 0), .val (.int .i64 0), .val (.slice none 0 0), .val (.slice none 0 0), .val (.int .u8 0), .val (.int .i64 0), .val (.slice none 0 0), .val (.slice none 0 0), .val (.slice none 0 0)] [(0, 7, t13), (18, 1, t15)])) fun t16 σ =>
  stepK (pureR σ (aBuild [.val (.int .i64 0), .val (.int .i64 0)] [(0, 1, (.val (Go.Value.int Go.IntKind.i64 1))), (1, 1, (.val (Go.Value.int Go.IntKind.i64 1)))])) fun t17 σ =>
  Ev Go.Proofs.Tryz.prog 12 [t16, (.val (Go.Value.int Go.IntKind.i64 9)), t17] σ (fun t18 σ =>
  stepK (pureR σ (aExtract 0 t18)) fun t19 σ =>
  stepK (pureR σ (aExtract 1 t18)) fun t20 σ =>
  stepK (aAlloc [.val (.int .u8 0), .val (.bool false), .val (.int .i64 0), .val (.string ByteArray.empty), .val (.int .i64 0), .val (.int .i64 0), .val (.int .i64 0), .val (.int .i64 0)] σ) fun t3 σ =>
  stepK (unitR (aStore 8 t3 t19 σ)) fun _ σ =>
  stepK (pureR σ (aBin .eql .prim t20 (.val (Go.Value.int Go.IntKind.i64 0)))) fun t22 σ =>
  gK t22 true (fun K => stepK (pureR σ (aFieldAddr 0 t3)) K) (fun t24 σ =>
  gK t22 true (fun K => stepK (pureR σ (aLoad true 4 t24 σ)) K) (fun t25 σ =>
  gK t22 true (fun K => stepK (pureR σ (aBuild [.val (.int .u8 0), .val (.bool false), .val (.int .i64 0), .val (.string ByteArray.empty)] [(0, 1, (.val (Go.Value.int Go.IntKind.u8 1))), (1, 1, (.val (Go.Value.bool Bool.true))), (2, 1, (.val (Go.Value.int Go.IntKind.i64 3)))])) K) (fun t26 σ =>
  gK t22 true (fun K => stepK (pureR σ (aBin .eql (.agg [.i, .b, .i, .s]) t25 t26)) K) (fun t27 σ =>
  stepK (pureR σ (aPick t22 t27 (.val (Go.Value.bool Bool.false)))) fun t28 σ =>
  gK t28 true (fun K => stepK (pureR σ (aFieldAddr 4 t3)) K) (fun t30 σ =>
  gK t28 true (fun K => stepK (pureR σ (aLoad false 1 t30 σ)) K) (fun t31 σ =>
  gK t28 true (fun K => stepK (pureR σ (aBin .eql .prim t31 (.val (Go.Value.int Go.IntKind.i64 4)))) K) (fun t32 σ =>
  stepK (pureR σ (aPick t28 t32 (.val (Go.Value.bool Bool.false)))) fun t33 σ =>
  gK t33 true (fun K => stepK (pureR σ (aFieldAddr 6 t3)) K) (fun t35 σ =>
  gK t33 true (fun K => stepK (pureR σ (aLoad false 1 t35 σ)) K) (fun t36 σ =>
  gK t33 true (fun K => stepK (pureR σ (aBin .eql .prim t36 (.val (Go.Value.int Go.IntKind.i64 1)))) K) (fun t37 σ =>
  stepK (pureR σ (aPick t33 t37 (.val (Go.Value.bool Bool.false)))) fun t38 σ =>
  gK t38 true (fun K => stepK (pureR σ (aFieldAddr 5 t3)) K) (fun t40 σ =>
  gK t38 true (fun K => stepK (pureR σ (aLoad false 1 t40 σ)) K) (fun t41 σ =>
  gK t38 true (fun K => stepK (pureR σ (aBin .eql .prim t41 (.val (Go.Value.int Go.IntKind.i64 1)))) K) (fun t42 σ =>
  stepK (pureR σ (aPick t38 t42 (.val (Go.Value.bool Bool.false)))) fun t43 σ =>
  k t43 σ) σ) σ) σ) σ) σ) σ) σ) σ) σ) σ) σ) σ) σ) kp) kp) kp
def keep11 : List (Nat × List Nat) := [(0, []), (1, [1]), (2, [2]), (4002, [1]), (3, [3, 4]), (4003, [1]), (4, [0])]
noncomputable def body11 : Code := (Go.Proofs.Tryz.f11).body.getD .skip
theorem F11_eq (σ : AHeap) (k kp : AV → AHeap → Prop) : aw Go.Proofs.Tryz.prog (keepOf keep11) body11 (retK Go.Proofs.Tryz.prog (Go.Proofs.Tryz.f11).results.toList k kp) (frameOf 0 []) σ = F11 σ k kp := by kernel_rfl
theorem F11_ev {σ : AHeap} {k kp : AV → AHeap → Prop} (h : F11 σ k kp) : Ev Go.Proofs.Tryz.prog 11 [] σ k kp :=
  Ev_of_aw mixedL Go.Proofs.Tryz.func11 (show (Go.Proofs.Tryz.f11).body = some body11 by kernel_rfl) (by kernel_rfl) (args := []) (of_decide_eq_true (by kernel_rfl)) (keepOf keep11) (by kernel_rfl) (by rw [F11_eq]; exact h)

end Go.Proofs.MacD
set_option linter.unusedVariables false
set_option linter.unusedSimpArgs false
set_option linter.deprecated false
namespace Go.Abs.Mac
open Go Go.Abs Go.Abs.Stk Go.Abs.At Go.Proofs.MacD Go.Proofs.AtD
variable {σ τ : AHeap} {K kp : AV → AHeap → Prop}

theorem mgreat_ev {t : AT} (hfit : t.fit) (hk : ∀ b : Bool, (b = false → t.Ok ∧ t.size ≤ 150) → K (bool b) σ) : Ev PR 10 [t.v] σ K kp := by
  refine Ev.pureE ?_
  apply F10_ev; unfold F10
  simp
  have hG : Grows σ (σ.new (.cells 19 [t.av])) := Grows.new _ _
  refine great_ev hfit fun b hb => ?_
  cases b with
  | true =>
    simp
    exact ⟨hG, .val _, hk true (by simp)⟩
  | false =>
    obtain ⟨hsz, hsm⟩ := hb rfl
    simp
    refine all_ref _ t (Nat.le_refl _) (by omega) _ _ _ ?_
    have hl : t.all.length = t.size := AT.all_len t
    simp [hl]
    refine ⟨hG, .val _, hk _ fun h => ⟨⟨hsm, hsz⟩, ?_⟩⟩
    simp at h
    omega

/-! ### The document's example -/
abbrev numT (n : Int) : AT := .mk ⟨1, 0, 0, n, ByteArray.empty, ByteArray.empty, ByteArray.empty⟩ 0 [] [] (.mk 0 0 [] []) (.mk 0 0 [] []) []
abbrev pairT : AT := .mk ⟨3, 0, 0, 0, ByteArray.empty, ByteArray.empty, ByteArray.empty⟩ 0 [] [] (.mk 0 0 [] []) (.mk 0 0 [] []) [numT 3, numT 4]
abbrev fstT : AT := .mk ⟨4, 0, 0, 0, ByteArray.empty, ByteArray.empty, ByteArray.empty⟩ 0 [] [] (.mk 0 0 [] []) (.mk 0 0 [] []) [pairT]
theorem fst_may : mayM fstT = true := by decide +kernel
theorem fst_wf : Wf fstT := by
  have n : ∀ i, Wf (numT i) := fun i => .mk (by simp [AT.h]) rfl (by simp [AT.kids]) (by simp [AT.rhos])
  have p : Wf pairT := .mk (by simp [AT.h]) rfl (by intro c hc; simp [AT.kids] at hc; rcases hc with rfl | rfl <;> exact n _) (by simp [AT.rhos])
  exact .mk (by simp [AT.h]) rfl (by intro c hc; simp [AT.kids] at hc; subst hc; exact p) (by simp [AT.rhos])
def fstS : Sa := ⟨⟨1, 1, [(true, [⟨1, num 3, num 4, 0⟩])], 1⟩, 4, []⟩
theorem fst_big : Big 9 (s0 1 1) fstT En.nil fstS (.val (num 3)) := by
  have n3 : Big 9 ⟨st0 1 1, 2, []⟩ (numT 3) En.nil ⟨st0 1 1, 3, []⟩ (.val (num 3)) := .leaf (by decide) (by simp [isLeaf, AT.h]) (by simp [leaf, AT.h, tick, st0])
  have n4 : Big 9 ⟨st0 1 1, 3, []⟩ (numT 4) En.nil ⟨st0 1 1, 4, []⟩ (.val (num 4)) := .leaf (by decide) (by simp [isLeaf, AT.h]) (by simp [leaf, AT.h, tick, st0])
  have p : Big 9 ⟨st0 1 1, 1, []⟩ pairT En.nil fstS (.val ⟨2, 0, 0, 0⟩) := .rule2 (s₁ := ⟨st0 1 1, 3, []⟩) (s₂ := ⟨st0 1 1, 4, []⟩) (v := num 3) (w := num 4) (by decide) (by simp [AT.h]) rfl n3 n4 (by
    have : rule ⟨st0 1 1, 4, []⟩ pairT En.nil [num 3, num 4] = .ok (.val ⟨2, 0, 0, 0⟩) fstS := by rfl
    rw [this]; exact .val)
  refine .rule1 (s₁ := fstS) (v := ⟨2, 0, 0, 0⟩) (by decide) (by simp [AT.h]) rfl p ?_
  have : rule fstS fstT En.nil [⟨2, 0, 0, 0⟩] = .ok (.val (num 3)) fstS := by rfl
  rw [this]; exact .val
theorem fst_run : RunOk 9 1 1 fstT := ⟨by omega, fst_wf, by decide, ⟨by omega, by omega⟩⟩
theorem fst_whole : Whole (fuelN 9) (limR 1) (limC 1) fstT ⟨fstS, 1, true, 3, ByteArray.empty⟩ := by
  have e1 : fuelN 9 = 9 := rfl
  have e2 : limR 1 = 1 := rfl
  have e3 : limC 1 = 1 := rfl
  rw [e1, e2, e3]
  exact whole_of fst_run.f fst_run.wf fst_run.sz fst_run.lim fst_big
theorem fst_ok : fstT.Ok := ⟨by simp [AT.small, AT.smalls, Head.small, effOk, RT.size, RT.sizes, RT.small, RT.smalls], by decide⟩
theorem fst_kinds : fstT.Kinds := by
  intro x hx
  simp [AT.all, AT.alls] at hx
  rcases hx with rfl | rfl | rfl | rfl <;> simp [AT.h, Byte]
abbrev zM (kd n : Int) (ks : AV) : List AV := [u8 kd, u8 0, int 0, int n, str ByteArray.empty, str ByteArray.empty, str ByteArray.empty, int 0, .val (.slice none 0 0), .val (.slice none 0 0), u8 0, int 0, .val (.slice none 0 0), .val (.slice none 0 0), u8 0, int 0, .val (.slice none 0 0), .val (.slice none 0 0), ks]
theorem zM_fz {τ : AHeap} {D : Nat → Prop} {kd n : Int} {ks : AV} {l : List AT} (h : Fz τ D ks (AT.vs l)) : FzL τ D (zM kd n ks) (AT.av (.mk ⟨kd, 0, 0, n, ByteArray.empty, ByteArray.empty, ByteArray.empty⟩ 0 [] [] (.mk 0 0 [] []) (.mk 0 0 [] []) l)) :=
  .cons (.refl _) (.cons (.refl _) (.cons (.refl _) (.cons (.refl _) (.cons (.refl _) (.cons (.refl _) (.cons (.refl _) (.cons (.refl _) (.cons .nil (.cons .nil (.cons (.refl _) (.cons (.refl _) (.cons .nil (.cons .nil (.cons (.refl _) (.cons (.refl _) (.cons .nil (.cons .nil (.cons h .nil))))))))))))))))))
theorem num23_ev {n : Int} (hk : K (.agg (zM 1 n (.val (.slice none 0 0)))) σ) : Ev PR 23 [int n] σ K kp := by
  refine Ev.pureD hk ((Dat.agg (by simp [Dat.val])).low _) fun k' hk' => ?_
  apply F23_ev; unfold F23
  simp [get_new, get_set]
  exact hk' _ ((Grows.new _ _).set (Nat.le_refl _) _)
theorem eq_agg (ks : List LK) (cs ds : List AV) : aBin .eql (.agg ks) (.agg cs) (.agg ds) = (eqLeaves ks cs ds).map fun b => bool b := by simp [aBin, aBinEq, aEq]
theorem awake_ev (hk : K (bool true) σ) : Ev PR 11 [] σ K kp := by
  refine Ev.pureD hk ((Dat.val _).low _) fun k' hk' => ?_
  apply F11_ev; unfold F11
  simp [callK, get_new]
  refine num23_ev (num23_ev ?_)
  simp [get_new, get_set]
  generalize hτ : AHeap.set _ _ _ = τ
  have hg : Grows σ τ := by rw [← hτ]; exact (Grows.new _ _).set (Nat.le_refl _) _
  have hz : ∀ {D : Nat → Prop}, FzL τ D (zM 4 0 (.sl true 19 [zM 3 0 (.sl true 19 [zM 1 3 (.val (.slice none 0 0)), zM 1 4 (.val (.slice none 0 0))])])) fstT.av :=
    zM_fz (FzR.sl (.cons (zM_fz (FzR.sl (.cons (zM_fz .nil) (.cons (zM_fz .nil) .nil)))) .nil))
  refine Ev.weak (args' := [fstT.v, int 9, .agg [int 1, int 1]]) (.cons hz.agg (.cons (.refl _) (.cons (.refl _) .nil))) ?_
  refine Run_ev fst_ok fst_kinds (by omega) (fun _ => fst_whole) ?_
  have e : runV fstT ⟨fstS, 1, true, 3, ByteArray.empty⟩ = .tup [.agg (outC 1 true 3 ByteArray.empty 4 1 1 1), int 0] := by
    unfold runV; rw [if_pos fst_may]; rfl
  rw [e]
  simp [outC, get_new, get_set, eq_agg, eqLeaves, eqLeaf]
  exact hk' _ (hg.trans ((Grows.new _ _).set (Nat.le_refl _) _))
end Go.Abs.Mac
set_option linter.unusedVariables false
set_option linter.unusedSimpArgs false
set_option linter.deprecated false
namespace Go.Abs.Mac
open Go Go.Abs Go.Abs.Stk Go.Abs.At Go.Proofs.MacD
variable {σ τ : AHeap} {K kp : AV → AHeap → Prop}

theorem whole_ex {t : AT} (ok : t.Ok) {f : Int} (hf : f ≤ 3000) (a b : Int) : ∃ r, mayM t = true → Whole (fuelN f) (limR a) (limC b) t r := by
  by_cases h : mayM t = true
  · have hf' : fuelN f ≤ 3000 := by unfold fuelN; omega
    obtain ⟨s', o, hb⟩ := whole_total hf' (mayM_wf ok h) ok.size (lim_ok a b)
    exact ⟨_, fun _ => whole_of hf' (mayM_wf ok h) ok.size (lim_ok a b) hb⟩
  · exact ⟨⟨s0 1 1, 0, false, 0, ByteArray.empty⟩, fun e => absurd e h⟩
theorem runOk {t : AT} (ok : t.Ok) (h : mayM t = true) {f : Int} (hf : f ≤ 3000) (a b : Int) : RunOk (fuelN f) (limR a) (limC b) t := ⟨by unfold fuelN; omega, mayM_wf ok h, ok.size, lim_ok a b⟩
theorem law_leaves {t : AT} (hfit : t.fit) (hkd : t.Kinds) {f a b : Int} (hk : K (bool true) σ) : Ev PR 6 [t.v, int f, .agg [int a, int b]] σ K kp := by
  refine Ev.pureD hk ((Dat.val _).low _) fun k' hk' => ?_
  apply F6_ev; unfold F6
  simp [Nat.add_assoc, get_new]
  generalize hτ : AHeap.new _ (.cells 2 _) = τ
  have hg : Grows σ τ := by rw [← hτ]; exact (Grows.new _ _).trans (Grows.new _ _)
  have g0 : τ.get σ.next = some (.cells 19 [t.av]) := by rw [← hτ]; simp [get_new]
  have g1 : τ.get (σ.next + 1) = some (.cells 2 [[int a, int b]]) := by rw [← hτ]; simp [get_new]
  have hn : τ.next = σ.next + 2 := by rw [← hτ]; rfl
  clear hτ
  refine mgreat_ev hfit fun g hg' => ?_
  cases g with
  | true =>
    simp
    exact awake_ev (hk' _ hg)
  | false =>
    obtain ⟨ok, hsz⟩ := hg' rfl
    by_cases hf : (2000 : Int) < f
    · simp [hf]
      exact awake_ev (hk' _ hg)
    · simp [hf, g0, g1]
      obtain ⟨r, hr⟩ := whole_ex ok (f := f) (by omega) a b
      refine Run_ev ok hkd (by omega) hr ?_
      cases hm : mayM t with
      | false =>
        have e : runV t r = .tup [outZ, int 1] := by unfold runV; rw [hm]; rfl
        rw [e]
        simp [outZ, outC, get_new, get_set]
        refine awake_ev ?_
        exact hk' _ (hg.trans ((Grows.new _ _).set (Nat.le_refl _) _))
      | true =>
        have e : runV t r = .tup [outV r, int 0] := by unfold runV; rw [hm]; rfl
        rw [e]
        obtain ⟨h1, h2, h3, h4, h5, h6⟩ := leaves_law (runOk ok hm (by omega) a b) (hr hm)
        have h7 : limR a ≤ (if 1 < a then a else 1) := by unfold limR; split <;> omega
        have h8 : limC b ≤ (if 0 < b then b else 0) := by unfold limC; split <;> omega
        have h9 : ((fuelN f : Nat) : Int) ≤ (if 0 < f then f else 0) ∧ (fuelN f : Int) ≤ (if f < 0 then 0 else f) := by unfold fuelN; constructor <;> split <;> omega
        have q1 : ¬ ((if f < 0 then 0 else f) < (r.s.steps : Int)) := by omega
        have q2 : (1 : Int) ≤ (r.s.store.live.length : Int) := by omega
        have q3 : (r.s.store.live.length : Int) ≤ (if 1 < a then a else 1) := Int.le_trans h4 h7
        have q4 : r.s.store.most ≤ (if 0 < b then b else 0) := Int.le_trans h6 h8
        have g2 : σ.next + 1 ≠ τ.next := by omega
        have fin : k' (bool true) ((τ.new (.cells 8 [outC 0 false 0 ByteArray.empty 0 0 0 0])).set τ.next (.cells 8 [outC r.kind r.isInt r.n r.exn r.s.steps r.s.store.live.length r.s.store.cells r.s.store.most])) := hk' _ (hg.trans ((Grows.new _ _).set (Nat.le_refl _) _))
        by_cases k1 : r.kind = 1
        · have hL := h1 (.inl k1)
          simp [outC, k1, hL] at fin q3
          simp [outV, outC, get_new, get_set, k1, hL, q1, q3, q4, h5, g1, g2]
          exact awake_ev fin
        · by_cases k2 : r.kind = 2
          · have hL := h1 (.inr k2)
            simp [outC, k2, hL] at fin q3
            simp [outV, outC, get_new, get_set, k2, hL, q1, q3, q4, h5, g1, g2]
            exact awake_ev fin
          · simp [outC] at fin
            simp [outV, outC, get_new, get_set, k1, k2, q1, q2, q3, q4, h5, g1, g2]
            exact awake_ev fin
end Go.Abs.Mac
