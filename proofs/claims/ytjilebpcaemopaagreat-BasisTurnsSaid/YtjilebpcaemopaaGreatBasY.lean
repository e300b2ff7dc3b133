/-
  How far it grows.
-/
import Derived.Test.YtjilebpcaemopaaGreatBasW
set_option linter.unusedVariables false
set_option linter.unusedSimpArgs false
namespace Go.Abs.Bas
open Go Go.Abs Go.Abs.At Go.Proofs.BasD
attribute [local simp] Nat.add_assoc
variable {σ τ : AHeap} {id : Nat} {b : B} {F G : Nat → Prop} {k kp : AV → AHeap → Prop} {xR xV xL : AV}

structure Grown (b : B) (n : Nat) : Prop where
  ok : b.Ok
  regions : b.regions ≤ n
  vars : b.vars ≤ n
  len : b.L.length ≤ n
  told : ∀ t ∈ b.L, t.atoms.length ≤ 100 ∧ t.vars.length ≤ 100
  R : b.R.length ≤ 20 * n
  V : b.V.length ≤ 20 * n
theorem Grown.fair {n : Nat} (h : Grown b n) (hn : n ≤ 500) : Fair b :=
  ⟨⟨h.ok, by have := h.regions; omega, by have := h.vars; omega, by have := h.len; omega, h.told⟩, by have := h.R; omega, by have := h.V; omega⟩
theorem Grown.empty : Grown {} 0 := ⟨.empty, by simp, by simp, by simp, by simp, by simp, by simp⟩
theorem Grown.mono {n m : Nat} (h : Grown b n) (hm : n ≤ m) : Grown b m :=
  ⟨h.ok, by have := h.regions; omega, by have := h.vars; omega, by have := h.len; omega, h.told, by have := h.R; omega, by have := h.V; omega⟩
theorem great_le {a : Act} (h : a.great = false) : a.L.length ≤ 20 ∧ a.atoms.length ≤ 20 := by
  unfold Act.great at h
  simp at h
  omega
theorem pairsOf_len (l : List Int) : (pairsOf l).length = l.length := by simp [pairsOf]
theorem Grown.act {n : Nat} (h : Grown b n) {a : Act} (ha : a.great = false) : Grown (b.act a) (n + 1) := by
  obtain ⟨h1, h2⟩ := great_le ha
  have hr := h.regions
  have hv := h.vars
  have hl := h.len
  have hR := h.R
  have hV := h.V
  unfold B.act
  split
  · exact ⟨h.ok.region, by simp; omega, by simp; omega, by simp; omega, h.told, by simp; omega, by simp; omega⟩
  split
  · exact ⟨h.ok.var, by simp; omega, by simp; omega, by simp; omega, h.told, by simp; omega, by simp; omega⟩
  split
  · have := h.ok.join a.L
    unfold B.join at *
    split
    · rename_i hc
      rw [if_pos hc] at this
      exact ⟨this, by simp; omega, by simp; omega, by simp; omega, h.told, by simp [pairsOf_len]; omega, by simp; omega⟩
    · exact h.mono (by omega)
  split
  · have := h.ok.joinVars a.L
    unfold B.joinVars at *
    split
    · rename_i hc
      rw [if_pos hc] at this
      exact ⟨this, by simp; omega, by simp; omega, by simp; omega, h.told, by simp; omega, by simp [pairsOf_len]; omega⟩
    · exact h.mono (by omega)
  · have := h.ok.add a.v a.atoms a.L
    unfold B.add at *
    split
    · rename_i hc
      rw [if_pos hc] at this
      refine ⟨this, by simp; omega, by simp; omega, by simp; omega, fun t ht => ?_, by simp; omega, by simp; omega⟩
      rcases List.mem_append.1 ht with ht | ht
      · exact h.told t ht
      · simp at ht; subst ht; exact ⟨by simp; omega, by simp; omega⟩
    · exact h.mono (by omega)

/-- Where the program's basis stands, and the document's. -/
def St (φ : AHeap) (id q : Nat) (b m : B) : Prop :=
  ∃ F xR xV xL, Bs φ id b F ∧ ¬ F q ∧ q < φ.next ∧ φ.get q = some (.cells 5 [bcells m xR xV xL]) ∧ BRowD m xR xV xL
theorem St.grows {φ ψ : AHeap} {q : Nat} {m : B} (h : St φ id q b m) (g : Grows φ ψ) : St ψ id q b m := by
  obtain ⟨F, xR, xV, xL, h1, h2, h3, h4, h5⟩ := h
  exact ⟨F, xR, xV, xL, h1.grows g, h2, by have := g.next; omega, by rw [g.get q h3]; exact h4, h5⟩
theorem St.shrink {φ : AHeap} {q : Nat} {m : B} (h : St φ id q b m) : ∃ F xR xV xL, Bs φ id b F ∧ ¬ F q ∧ q < φ.next ∧ φ.get q = some (.cells 5 [bcells m xR xV xL]) ∧ BRowD m xR xV xL ∧ ∀ j, F j → j < φ.next := by
  obtain ⟨F, xR, xV, xL, h1, h2, h3, h4, h5⟩ := h
  exact ⟨_, xR, xV, xL, h1.shrink, fun hf => h2 hf.1, h3, h4, h5, fun j hj => hj.2⟩
theorem acts_at {l : List Act} {i : Nat} {a : Act} (h : l[i]? = some a) (ω : AHeap) : aIndexAddr 4 (.sl false 4 (l.map Act.av)) (int i) ω = some (.ref a.av) := by
  rw [aIndexAddr_sl]; simp [h]
end Go.Abs.Bas
