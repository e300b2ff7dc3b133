/-
  An act in a law: two orders.
-/
import Derived.Test.YtjilebpcaemopaaGreatBasY
set_option linter.unusedVariables false
set_option linter.unusedSimpArgs false
namespace Go.Abs.Bas
open Go Go.Abs Go.Abs.At Go.Proofs.BasD
attribute [local simp] Nat.add_assoc
variable {σ : AHeap} {id q : Nat} {b m : B} {F : Nat → Prop} {k kp : AV → AHeap → Prop} {xR xV xL : AV}

theorem does_two {K : AV → AV → AHeap → Prop} {φ : AHeap} {acts : List Act} {i : Nat} {a : Act} (s1 : Bs φ id b F) (s2 : ¬ F q) (s3 : q < φ.next) (s4 : φ.get q = some (.cells 5 [bcells m xR xV xL])) (s5 : BRowD m xR xV xL) (s6 : ∀ j, F j → j < φ.next)
    (hs : Small b) (hf : Fair m) (ha : acts[i]? = some a) (hgr : a.great = false)
    (hK : ∀ ok q2 ψ G xR' xV' xL', (b = m → ok = true) → Bs ψ id (b.act a) G → ¬ G q → (∀ j, G j → F j ∨ φ.next ≤ j) → Off F φ ψ → q < ψ.next → ψ.get q = some (.cells 5 [bcells m xR xV xL]) → ψ.get q2 = some (.cells 5 [bcells (m.act a) xR' xV' xL']) → BRowD (m.act a) xR' xV' xL' → K (bool ok) (.ptr q2 0 0) ψ) :
    (stepK (pureR φ (aLoad true 5 (.ptr q 0 0) φ)) fun t39 σ =>
      stepK (pureR σ (aIndexAddr 4 (.sl false 4 (acts.map Act.av)) (int i) σ)) fun t42 σ =>
      stepK (pureR σ (aLoad true 4 t42 σ)) fun t43 σ =>
      Ev PR 13 [.ptr id 0 0, t39, t43] σ (fun t44 σ =>
      stepK (pureR σ (aExtract 0 t44)) fun t45 σ =>
      stepK (pureR σ (aExtract 1 t44)) fun t46 σ =>
      stepK (aAlloc [.val (.int .i64 0), .val (.int .i64 0), .val (.slice none 0 0), .val (.slice none 0 0), .val (.slice none 0 0)] σ) fun t13 σ =>
      (stepK (pureR σ (aLoad true 5 (.ptr q 0 0) σ)) (fun y θ => y = t39 ∧ θ = σ)) ∧ (
      (stepK (pureR σ (aIndexAddr 4 (.sl false 4 (acts.map Act.av)) (int i) σ)) (fun y θ => y = t42 ∧ θ = σ)) ∧ (
      (stepK (pureR σ (aLoad true 4 t42 σ)) (fun y θ => y = t43 ∧ θ = σ)) ∧ (
      stepK (unitR (aStore 5 t13 t46 σ)) fun _ σ =>
      K t45 t13 σ)))) kp) ∧
    (stepK (pureR φ (aLoad true 5 (.ptr q 0 0) φ)) fun t39 σ =>
      stepK (pureR σ (aIndexAddr 4 (.sl false 4 (acts.map Act.av)) (int i) σ)) fun t42 σ =>
      stepK (pureR σ (aLoad true 4 t42 σ)) fun t43 σ =>
      stepK (aAlloc [.val (.int .i64 0), .val (.int .i64 0), .val (.slice none 0 0), .val (.slice none 0 0), .val (.slice none 0 0)] σ) fun t13 σ =>
      (stepK (pureR σ (aLoad true 5 (.ptr q 0 0) σ)) (fun y θ => y = t39 ∧ θ = σ)) ∧ (
      (stepK (pureR σ (aIndexAddr 4 (.sl false 4 (acts.map Act.av)) (int i) σ)) (fun y θ => y = t42 ∧ θ = σ)) ∧ (
      (stepK (pureR σ (aLoad true 4 t42 σ)) (fun y θ => y = t43 ∧ θ = σ)) ∧ (
      Ev PR 13 [.ptr id 0 0, t39, t43] σ (fun t44 σ =>
      stepK (pureR σ (aExtract 0 t44)) fun t45 σ =>
      stepK (pureR σ (aExtract 1 t44)) fun t46 σ =>
      stepK (unitR (aStore 5 t13 t46 σ)) fun _ σ =>
      K t45 t13 σ) kp)))) := by
  have haa := acts_at ha
  have hal : ∀ ω : AHeap, aLoad true 4 (.ref a.av) ω = some (.agg a.av) := fun ω => by simp
  refine ⟨?_, ?_⟩
  · simp [s4]
    refine stepP (haa φ) ?_
    refine stepP (hal φ) ?_
    refine does_ev s1 hs s5 hf hgr fun τ xR' xV' xL' ok hok hL hd => ?_
    have hqn : ¬ Wide F φ.next q := fun hw => by
      rcases hw with hw | hw
      · exact s2 hw
      · omega
    have o4 : τ.get q = some (.cells 5 [bcells m xR xV xL]) := by rw [hL.off.get q s2 s3]; exact s4
    have hnx := hL.off.next
    have gn := Grows.new τ (.cells 5 [[int 0, int 0, nilS, nilS, nilS]])
    simp [get_new, o4, show ¬ q = τ.next by omega, haa, Act.av]
    have gs : Grows τ ((τ.new (.cells 5 [[int 0, int 0, nilS, nilS, nilS]])).set τ.next (.cells 5 [bcells (m.act a) xR' xV' xL'])) := gn.set (Nat.le_refl _) _
    exact hK ok τ.next _ (Wide F φ.next) xR' xV' xL' hok (hL.bs.grows gs) hqn (fun j hj => hj) (hL.off.trans (Off.grows gs)) (by simp; omega) (by rw [gs.get q (by omega)]; exact o4) (by simp) hd
  · simp [s4]
    refine stepP (haa φ) ?_
    refine stepP (hal φ) ?_
    have gn := Grows.new φ (.cells 5 [[int 0, int 0, nilS, nilS, nilS]])
    have q4 : (φ.new (.cells 5 [[int 0, int 0, nilS, nilS, nilS]])).get q = some (.cells 5 [bcells m xR xV xL]) := by rw [gn.get q s3]; exact s4
    simp [q4, haa, Act.av]
    have zz : (φ.new (.cells 5 [[int 0, int 0, nilS, nilS, nilS]])).get φ.next = some (.cells 5 [[int 0, int 0, nilS, nilS, nilS]]) := by simp
    have s1' := s1.grows gn
    have nn : (φ.new (.cells 5 [[int 0, int 0, nilS, nilS, nilS]])).next = φ.next + 1 := by simp
    generalize φ.new (.cells 5 [[int 0, int 0, nilS, nilS, nilS]]) = χ at q4 zz s1' nn gn
    refine does_ev s1' hs s5 hf hgr fun τ xR' xV' xL' ok hok hL hd => ?_
    have hnx := hL.off.next
    have hqn : ¬ Wide F χ.next q := fun hw => by
      rcases hw with hw | hw
      · exact s2 hw
      · omega
    have hqf : ¬ Wide F χ.next φ.next := fun hw => by
      rcases hw with hw | hw
      · have := s6 _ hw; omega
      · omega
    have o4 : τ.get q = some (.cells 5 [bcells m xR xV xL]) := by rw [hL.off.get q s2 (by omega)]; exact q4
    have o5 : τ.get φ.next = some (.cells 5 [[int 0, int 0, nilS, nilS, nilS]]) := by rw [hL.off.get φ.next (fun hf => by have := s6 _ hf; omega) (by omega)]; exact zz
    simp [o5]
    refine hK ok φ.next _ (Wide F χ.next) xR' xV' xL' hok (hL.bs.set hqf) hqn (fun j hj => ?_) ?_ (by simp; omega) (by rw [get_set, if_neg (by omega)]; exact o4) (by simp) hd
    · rcases hj with hj | hj
      · exact .inl hj
      · exact .inr (by omega)
    · exact ⟨by simp; omega, fun j hj hlt => by rw [get_set, if_neg (by omega), hL.off.get j hj (by omega), gn.get j hlt]⟩

/-- Ahead of the next one. -/
theorem Mid.set {ψ : AHeap} {G : Nat → Prop} (t1 : Bs ψ id b G) (t2 : ¬ G q) (t3 : q < ψ.next) (hd : BRowD m xR xV xL) : St (ψ.set q (.cells 5 [bcells m xR xV xL])) id q b m :=
  ⟨G, xR, xV, xL, t1.set t2, t2, t3, by simp, hd⟩
end Go.Abs.Bas
