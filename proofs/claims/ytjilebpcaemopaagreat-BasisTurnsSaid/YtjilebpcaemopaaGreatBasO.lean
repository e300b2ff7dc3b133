/-
  The basis in the program: a new one, and copies.
-/
import Derived.Test.YtjilebpcaemopaaGreatBasJ
set_option linter.unusedVariables false
set_option linter.unusedSimpArgs false
namespace Go.Abs.Bas
open Go Go.Abs Go.Abs.At Go.Proofs.BasD
attribute [local simp] Nat.add_assoc
variable {σ τ : AHeap} {id : Nat} {rv vv hv : AV} {s : IS} {b : B} {F : Nat → Prop} {k kp : AV → AHeap → Prop}

theorem new_ev (hk : ∀ τ, Grows σ τ → Bs τ σ.next {} (fun i => σ.next ≤ i) → k (.ptr σ.next 0 0) τ) : Ev PR 9 [] σ k kp := by
  apply F9_ev; unfold F9
  simp [aBuild]
  refine hk _ (Grows.new _ _) ⟨⟨[], [], []⟩, ⟨nilS, nilS, nilS, ⟨by simp, by simp, .inl ⟨rfl, rfl⟩, .inl ⟨rfl, rfl⟩, .inl ⟨rfl, rfl⟩, (fun n e => by cases e), (fun n e => by cases e), (fun n e => by cases e), (fun q n m e => by cases e), (fun q n m e => by cases e), (fun q n m e => by cases e)⟩, fun i hi => ?_⟩, ⟨⟨by simp, by simp⟩, rfl, ⟨by simp, by simp⟩, rfl, rfl, by simp⟩⟩
  rcases hi with rfl | ⟨n, e | e | e⟩
  · exact ⟨Nat.le_refl _, by simp⟩
  all_goals cases e

theorem cloneI_ev {v : AV} {els : List (List AV)} (h : RowV σ v 1 els) (hb : els.length < 1000000) (hk : ∀ v' τ, Grows σ τ → RowV τ v' 1 els → (∀ q n, v' = .own q n → σ.next ≤ q) → k v' τ) : Ev PR 47 [v] σ k kp := by
  apply F47_ev; unfold F47
  rcases h with ⟨rfl, rfl⟩ | ⟨q, rest, rfl, h1, h2, h3⟩
  · simp
    exact hk _ _ (Grows.refl _) (.inl ⟨rfl, rfl⟩) fun q n e => by cases e
  · obtain ⟨n, hn⟩ : ∃ n, els.length = n + 1 := ⟨els.length - 1, by have := List.length_pos_iff.2 h1; omega⟩
    rw [hn, aBin_so, ← hn]
    simp
    refine stepK_of (aAppend_rows (σ := σ.new (.cells 1 [])) (by' := 8) (x := .own σ.next 0) (xs := []) (.inr (.inr ⟨σ.next, [], rfl, by simp [get_new]⟩)) (by intro c e; cases e) (ys := els) (.inr (.inr ⟨q, rest, rfl, by rw [AHeap.new_ne (by omega)]; exact h2⟩)) (by simp; omega)) ?_
    simp
    have g : Grows σ ((gone (.own σ.next 0) (σ.new (.cells 1 []))).new (.cells 1 els)) := ⟨by simp, fun i hi => by rw [get_new, gone_next, if_neg (by simp; omega), gone_get (fun n e => by cases e; omega), AHeap.new_ne (by omega)]⟩
    exact hk _ _ g (.inr ⟨σ.next + 1, [], rfl, h1, by rw [get_new, gone_next, if_pos (by simp)]; simp, by simp⟩) fun q n e => by cases e; omega
theorem cloneH_ev {v : AV} {els : List (List AV)} (h : RowV σ v 2 els) (hb : els.length < 1000000) (hk : ∀ v' τ, Grows σ τ → RowV τ v' 2 els → (∀ q n, v' = .own q n → σ.next ≤ q) → k v' τ) : Ev PR 48 [v] σ k kp := by
  apply F48_ev; unfold F48
  rcases h with ⟨rfl, rfl⟩ | ⟨q, rest, rfl, h1, h2, h3⟩
  · simp
    exact hk _ _ (Grows.refl _) (.inl ⟨rfl, rfl⟩) fun q n e => by cases e
  · obtain ⟨n, hn⟩ : ∃ n, els.length = n + 1 := ⟨els.length - 1, by have := List.length_pos_iff.2 h1; omega⟩
    rw [hn, aBin_so, ← hn]
    simp
    refine stepK_of (aAppend_rows (σ := σ.new (.cells 2 [])) (by' := 48) (x := .own σ.next 0) (xs := []) (.inr (.inr ⟨σ.next, [], rfl, by simp [get_new]⟩)) (by intro c e; cases e) (ys := els) (.inr (.inr ⟨q, rest, rfl, by rw [AHeap.new_ne (by omega)]; exact h2⟩)) (by simp; omega)) ?_
    simp
    have g : Grows σ ((gone (.own σ.next 0) (σ.new (.cells 2 []))).new (.cells 2 els)) := ⟨by simp, fun i hi => by rw [get_new, gone_next, if_neg (by simp; omega), gone_get (fun n e => by cases e; omega), AHeap.new_ne (by omega)]⟩
    exact hk _ _ g (.inr ⟨σ.next + 1, [], rfl, h1, by rw [get_new, gone_next, if_pos (by simp)]; simp, by simp⟩) fun q n e => by cases e; omega
theorem RowV.cells {σ v sz els} (h : RowV σ v sz els) : acells v = some [v] := h.rowG.cells
theorem RowV.grows {σ τ v sz els} (h : RowV σ v sz els) (g : Grows σ τ) : RowV τ v sz els := h.mono g.next fun q n e hq => g.get q hq
theorem copy_ev (h : Bs σ id b F) (hs : Small b) (hk : ∀ τ id', Grows σ τ → Bs τ id' b (fun i => σ.next ≤ i) → k (.ptr id' 0 0) τ) : Ev PR 22 [.ptr id 0 0] σ k kp := by
  obtain ⟨s, ⟨rv, vv, hv, h, hF⟩, hR⟩ := h
  have l1 : s.up.length < 1000000 := by rw [hR.rl]; have := hs.regions; omega
  have l2 : s.vup.length < 1000000 := by rw [hR.vl]; have := hs.vars; omega
  have l3 : s.has.length < 1000000 := by rw [hR.hl]; have := hs.vars; omega
  apply F22_ev; unfold F22
  simp [h.obj]
  refine cloneI_ev h.r (by simpa using l1) fun v1 τ1 g1 r1 o1 => ?_
  have ob : ∀ τ, Grows σ τ → τ.get id = some (.cells 3 [[rv, vv, hv]]) := fun τ g => by rw [g.get id h.lt]; exact h.obj
  simp [ob τ1 g1, aBuild, r1.cells]
  refine cloneI_ev (h.v.grows g1) (by simpa using l2) fun v2 τ2 g2 r2 o2 => ?_
  have g12 := g1.trans g2
  simp [ob τ2 g12, aBuild, r2.cells]
  refine cloneH_ev (h.h.grows g12) (by simpa using l3) fun v3 τ3 g3 r3 o3 => ?_
  have g13 := g12.trans g3
  simp [aBuild, r3.cells]
  have n1 := g1.next
  have n2 := g2.next
  have n3 := g3.next
  have low1 := fun q n (e : v1 = .own q n) => (show q < τ1.next from by
    rcases r1 with ⟨h1, _⟩ | ⟨q', rest, h1, _, _, h2⟩
    · rw [h1] at e; cases e
    · rw [h1] at e; cases e; exact h2)
  have low2 := fun q n (e : v2 = .own q n) => (show q < τ2.next from by
    rcases r2 with ⟨h1, _⟩ | ⟨q', rest, h1, _, _, h2⟩
    · rw [h1] at e; cases e
    · rw [h1] at e; cases e; exact h2)
  have low3 := fun q n (e : v3 = .own q n) => (show q < τ3.next from by
    rcases r3 with ⟨h1, _⟩ | ⟨q', rest, h1, _, _, h2⟩
    · rw [h1] at e; cases e
    · rw [h1] at e; cases e; exact h2)
  have gn := Grows.new τ3 (.cells 3 [[v1, v2, v3]])
  refine hk _ τ3.next (g13.trans gn) ⟨s, ⟨v1, v2, v3, ⟨by simp, by simp, (r1.grows (g2.trans g3)).grows gn, (r2.grows g3).grows gn, r3.grows gn, ?_, ?_, ?_, ?_, ?_, ?_⟩, fun i hi => ?_⟩, hR⟩
  · intro n e; have := low1 _ _ e; omega
  · intro n e; have := low2 _ _ e; omega
  · intro n e; have := low3 _ _ e; omega
  · intro q n m e e'; have := low1 _ _ e; have := o2 _ _ e'; omega
  · intro q n m e e'; have := low1 _ _ e; have := o3 _ _ e'; omega
  · intro q n m e e'; have := low2 _ _ e; have := o3 _ _ e'; omega
  · rcases hi with rfl | ⟨n, e | e | e⟩
    · exact ⟨by omega, by simp⟩
    · have := low1 _ _ e; have := o1 _ _ e; exact ⟨by omega, by simp; omega⟩
    · have := low2 _ _ e; have := o2 _ _ e; exact ⟨by omega, by simp; omega⟩
    · have := low3 _ _ e; have := o3 _ _ e; exact ⟨by omega, by simp; omega⟩
end Go.Abs.Bas
