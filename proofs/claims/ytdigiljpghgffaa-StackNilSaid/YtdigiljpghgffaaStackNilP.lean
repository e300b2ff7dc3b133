/-
  StackNil.
-/
import Derived.Test.YtdigiljpghgffaaStackE
set_option linter.unusedVariables false
set_option linter.unusedSimpArgs false
set_option linter.deprecated false
namespace Go.Abs.Stk
open Go Go.Abs Go.Proofs.StackD
variable {σ : AHeap} {k kp : AV → AHeap → Prop}

theorem nil_ev {r kd n vr va : Int} (hk : ∀ τ, k (.val (.bool true)) τ) : Ev PR 6 [int r, valV kd n vr va] σ k kp := by
  apply F6_ev; unfold F6
  simp
  refine push_nil ?_
  simp
  refine put_nil rfl fun τ1 g1 => ?_
  simp
  generalize h2 : (τ1.new (.cells 4 [[u8 0, int 0, int 0, int 0]])).set τ1.next (.cells 4 [[u8 0, int 0, int 0, int 0]]) = τ2
  have n0 : σ.next < τ1.next := Nat.lt_of_lt_of_le (Nat.lt_succ_self _) g1.next
  have a0 : τ2.get σ.next = some (.cells 4 [[u8 kd, int n, int vr, int va]]) := by
    rw [← h2, get_set, if_neg (by omega), get_new, if_neg (by omega), g1.get _ (by simp)]; simp
  have a1 : τ2.get τ1.next = some (.cells 4 [[u8 0, int 0, int 0, int 0]]) := by rw [← h2]; simp
  have n2 : τ2.next = τ1.next + 1 := by rw [← h2]; rfl
  simp [a0]
  refine get_nil fun τ3 g3 => ?_
  simp
  generalize h4 : (τ3.new (.cells 10 [zeroC])).set τ3.next (.cells 10 [zeroC]) = τ4
  have m3 := g3.next
  have b0 : τ4.get σ.next = some (.cells 4 [[u8 kd, int n, int vr, int va]]) := by
    rw [← h4, get_set, if_neg (by omega), get_new, if_neg (by omega), g3.get _ (by omega)]; exact a0
  have b1 : τ4.get τ1.next = some (.cells 4 [[u8 0, int 0, int 0, int 0]]) := by
    rw [← h4, get_set, if_neg (by omega), get_new, if_neg (by omega), g3.get _ (by omega)]; exact a1
  have b2 : τ4.get τ3.next = some (.cells 10 [zeroC]) := by rw [← h4]; simp
  have n4 : τ4.next = τ3.next + 1 := by rw [← h4]; rfl
  simp [b0]
  refine set_nil rfl fun τ5 g5 => ?_
  have m5 := g5.next
  have c0 : τ5.get σ.next = some (.cells 4 [[u8 kd, int n, int vr, int va]]) := by rw [g5.get _ (by omega)]; exact b0
  have c1 : τ5.get τ1.next = some (.cells 4 [[u8 0, int 0, int 0, int 0]]) := by rw [g5.get _ (by omega)]; exact b1
  have c2 : τ5.get τ3.next = some (.cells 10 [zeroC]) := by rw [g5.get _ (by omega)]; exact b2
  refine seqW_in ?_
  simp [c0]
  have hg6 : Grows τ5 (τ5.new (.cells 1 [[int r]])) := Grows.new _ _
  have d1 : (τ5.new (.cells 1 [[int r]])).get τ1.next = some (.cells 4 [[u8 0, int 0, int 0, int 0]]) := by rw [hg6.get _ (by omega)]; exact c1
  have d2 : (τ5.new (.cells 1 [[int r]])).get τ3.next = some (.cells 10 [zeroC]) := by rw [hg6.get _ (by omega)]; exact c2
  have d3 : (τ5.new (.cells 1 [[int r]])).get τ5.next = some (.cells 1 [[int r]]) := by simp
  generalize hτ6 : τ5.new (.cells 1 [[int r]]) = τ6 at d1 d2 d3
  by_cases h1 : kd = 2 <;> by_cases h2 : n = 0 <;> simp [h1, h2, c0]
  all_goals
    refine pop_nil ?_
    simp [hτ6]
    refine live_nil (l := [r]) (.inr (.inr ⟨τ5.next, [], rfl, by simpa using d3⟩)) ?_
    simp
    refine live_nil (l := []) (.inl ⟨rfl, rfl⟩) ?_
    simp [d1, d2]
    refine regions_nil ?_
    refine cells_nil ?_
    simp
    refine most_nil ?_
    simp
    exact awake_ev fun τ7 _ => hk _

end Go.Abs.Stk
