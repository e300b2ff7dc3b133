/-
  AtermErase: the law.
-/
import Derived.Test.YtpfaciflhhpokaaGreatDoorAtL
set_option linter.unusedVariables false
set_option linter.unusedSimpArgs false
namespace Go.Abs.At
open Go Go.Abs Go.Proofs.AtD
attribute [local simp] Nat.add_assoc

mutual
theorem erase_size : ∀ t : AT, (erase t).size ≤ t.size
  | .mk h r rs e ty re ks => by
    have hk := eraseKids_size ks
    unfold erase
    split
    · simp [T.size, T.sizes, AT.size]
    · rename_i k l hks
      rw [hks] at hk
      split
      · simp [T.sizes, AT.size] at *; omega
      · simp [T.size, AT.size]; exact hk
theorem eraseKids_size : ∀ l : List AT, T.sizes (eraseKids l) ≤ AT.sizes l
  | [] => by simp [eraseKids, T.sizes]
  | t :: ts => by
    have h1 := erase_size t
    have h2 := eraseKids_size ts
    simp [eraseKids, T.sizes, AT.sizes]; omega
end

theorem law_erase {t : AT} {rho : Int} (hfit : t.fit) {σ : AHeap} {k kp : AV → AHeap → Prop} (hk : k (bool true) σ) : Ev PR 4 [t.v, int rho] σ k kp := by
  refine Ev.pureD hk ((Dat.val _).low _) fun k' hk' => ?_
  apply F4_ev; unfold F4
  simp
  refine great_ev hfit fun b hb => ?_
  cases b with
  | true =>
    simp
    refine awake_ev ?_
    exact hk' _ (Grows.new _ _)
  | false =>
    obtain ⟨hsz, _⟩ := hb rfl
    have hes := erase_size t
    simp
    generalize hτ : AHeap.set _ _ _ = τ
    have hg : Grows σ τ := by rw [← hτ]; exact ((Grows.new _ _).trans (Grows.new _ _)).set (by simp) _
    have hn : τ.next = σ.next + 2 := by rw [← hτ]; simp
    have g0 : τ.get σ.next = some (.cells 19 [t.av]) := by rw [← hτ]; simp [get_set, get_new]
    have g1 : τ.get (σ.next + 1) = some (.cells 19 [zA 17 rho (.sl true 19 [t.av])]) := by rw [← hτ]; simp [get_set]
    clear hτ
    simp [g0]
    refine erase_ref _ t (Nat.le_refl _) (by omega) _ _ _ ?_
    simp
    generalize hυ : AHeap.set _ _ _ = υ
    have hgu : Grows σ υ := by rw [← hυ]; exact (hg.trans (Grows.new _ _)).set (by omega) _
    have u0 : υ.get σ.next = some (.cells 19 [t.av]) := by rw [← hυ]; simp [get_set, get_new, hn, g0]
    have u1 : υ.get (σ.next + 1) = some (.cells 19 [zA 17 rho (.sl true 19 [t.av])]) := by rw [← hυ]; simp [get_set, get_new, hn, g1]
    have u2 : υ.get (σ.next + 2) = some (.cells 8 [(erase t).av]) := by rw [← hυ]; simp [get_set, hn]
    clear hυ
    simp [u0, u2, hn]
    refine erase_ev _ t (Nat.le_refl _) (by omega) _ _ _ ?_
    simp [u2]
    refine equal_self (by omega) ?_
    simp [u1, u2]
    have hsz2 : (AT.mk (hd 17) rho [] [] rt0 rt0 [t]).size = 1 + t.size := by simp [AT.size, AT.sizes]
    have herx : erase (AT.mk (hd 17) rho [] [] rt0 rt0 [t]) = erase t := erase_region (by rfl) (by rfl)
    refine Ev.weak (args' := [AT.v (.mk (hd 17) rho [] [] rt0 rt0 [t])]) (.cons (zA_fz (AT.clip1 t)).agg .nil) ?_
    refine erase_ev _ _ (Nat.le_refl _) (by omega) _ _ _ ?_
    rw [herx]
    simp [u2]
    refine equal_self (by omega) ?_
    simp
    refine awake_ev ?_
    exact hk' _ hgu
end Go.Abs.At
