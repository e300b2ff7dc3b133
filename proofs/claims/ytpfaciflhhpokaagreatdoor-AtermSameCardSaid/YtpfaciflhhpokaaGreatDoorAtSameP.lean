/-
  AtermSame: the law.
-/
import Derived.Test.YtpfaciflhhpokaaGreatDoorAtZ
set_option linter.unusedVariables false
set_option linter.unusedSimpArgs false
namespace Go.Abs.At
open Go Go.Abs Go.Proofs.AtD
attribute [local simp] Nat.add_assoc

theorem withinM_self (e : List Atom) : withinM e e = true := List.all_eq_true.2 fun x hx => by simp [hx]
mutual
theorem RT.same_self : ∀ t : RT, RT.same t t = true
  | .mk k r e ks => by simp [RT.same, withinM_self, RT.sames_self ks]
theorem RT.sames_self : ∀ l : List RT, RT.sames l l = true
  | [] => rfl
  | t :: ts => by simp [RT.sames, RT.same_self t, RT.sames_self ts]
end
mutual
theorem RT.same_comm : ∀ a b : RT, RT.same a b = RT.same b a
  | .mk k r e ks, .mk k' r' e' ks' => by
    simp only [RT.same]
    rw [RT.sames_comm ks ks', Bool.and_comm (withinM e e'), decide_eq_decide.2 (eq_comm (a := k) (b := k')), decide_eq_decide.2 (eq_comm (a := r) (b := r'))]
theorem RT.sames_comm : ∀ l m : List RT, RT.sames l m = RT.sames m l
  | [], [] => rfl
  | [], _ :: _ => rfl
  | _ :: _, [] => rfl
  | a :: l, b :: m => by simp only [RT.sames]; rw [RT.same_comm a b, RT.sames_comm l m]
end
mutual
theorem AT.same_self : ∀ t : AT, AT.same t t = true
  | .mk h r rs e ty re ks => by simp [AT.same, withinM_self, RT.same_self, AT.sames_self ks]
theorem AT.sames_self : ∀ l : List AT, AT.sames l l = true
  | [] => rfl
  | t :: ts => by simp [AT.sames, AT.same_self t, AT.sames_self ts]
end
mutual
theorem AT.same_comm : ∀ a b : AT, AT.same a b = AT.same b a
  | .mk h r rs e ty re ks, .mk h' r' rs' e' ty' re' ks' => by
    simp only [AT.same]
    rw [AT.sames_comm ks ks', Bool.and_comm (withinM e e'), RT.same_comm ty ty', RT.same_comm re re', decide_eq_decide.2 (eq_comm (a := h) (b := h')), decide_eq_decide.2 (eq_comm (a := r) (b := r')), decide_eq_decide.2 (eq_comm (a := rs) (b := rs'))]
theorem AT.sames_comm : ∀ l m : List AT, AT.sames l m = AT.sames m l
  | [], [] => rfl
  | [], _ :: _ => rfl
  | _ :: _, [] => rfl
  | a :: l, b :: m => by simp only [AT.sames]; rw [AT.same_comm a b, AT.sames_comm l m]
end

theorem law_same {a b : AT} (hfa : a.fit) (hfb : b.fit) {σ : AHeap} {k kp : AV → AHeap → Prop} (hk : k (bool true) σ) : Ev PR 8 [a.v, b.v] σ k kp := by
  refine Ev.pureD hk ((Dat.val _).low _) fun k' hk' => ?_
  apply F8_ev; unfold F8
  simp
  generalize hτ : (σ.new (.cells 19 [a.av])).new (.cells 19 [b.av]) = τ
  have hg : Grows σ τ := by rw [← hτ]; exact (Grows.new _ _).trans (Grows.new _ _)
  have g0 : τ.get σ.next = some (.cells 19 [a.av]) := by rw [← hτ]; simp [get_new]
  have g1 : τ.get (σ.next + 1) = some (.cells 19 [b.av]) := by rw [← hτ]; simp [get_new]
  clear hτ
  simp [g0]
  refine great_ev hfa fun ga hga => ?_
  cases ga with
  | true =>
    simp
    refine awake_ev ?_
    exact hk' _ hg
  | false =>
    obtain ⟨sa, ma⟩ := hga rfl
    have oa : a.Ok := ⟨ma, sa⟩
    simp [g1]
    refine great_ev hfb fun gb hgb => ?_
    cases gb with
    | true =>
      simp
      refine awake_ev ?_
      exact hk' _ hg
    | false =>
      obtain ⟨sb, mb⟩ := hgb rfl
      have ob : b.Ok := ⟨mb, sb⟩
      simp [g0, g1]
      refine tsame_ref _ _ _ (Nat.le_refl _) oa ob _ _ _ ?_
      simp [g0, g1]
      refine tsame_ev _ _ _ (Nat.le_refl _) oa ob _ _ _ ?_
      simp [g0, g1]
      refine tsame_ev _ _ _ (Nat.le_refl _) ob oa _ _ _ ?_
      rw [AT.same_comm b a]
      simp [g0]
      refine tsame_ev _ _ _ (Nat.le_refl _) oa oa _ _ _ ?_
      rw [AT.same_self]
      simp
      refine awake_ev ?_
      exact hk' _ hg
end Go.Abs.At
