/-
  The basis in the program: what an effect variable has is changed.
-/
import Derived.Test.YtjilebpcaemopaaGreatBasH
set_option linter.unusedVariables false
set_option linter.unusedSimpArgs false
namespace Go.Abs.Bas
open Go Go.Abs Go.Abs.At Go.Proofs.BasD
attribute [local simp] Nat.add_assoc
variable {σ τ : AHeap} {id : Nat} {rv vv hv : AV} {s : IS} {b : B} {F : Nat → Prop} {k kp : AV → AHeap → Prop}

theorem clipA_ev {c : Bool} {els : List (List AV)} (hk : k (.sl true 3 els) σ) : Ev PR 50 [.sl c 3 els] σ k kp := by
  apply F50_ev; unfold F50
  simp [aSlice, optInt, hk]
theorem clipI_ev {c : Bool} {els : List (List AV)} (hk : k (.sl true 1 els) σ) : Ev PR 51 [.sl c 1 els] σ k kp := by
  apply F51_ev; unfold F51
  simp [aSlice, optInt, hk]
/-- What was put behind a clipped row. -/
def Put (n : Nat) (τ : AHeap) (sz : Nat) (x : AV) (els : List (List AV)) : Prop := x = .sl true sz els ∨ ∃ q, n ≤ q ∧ q < τ.next ∧ x = .own q els.length ∧ τ.get q = some (.cells sz els)
theorem clipAppend {sz by' : Nat} {es ys : List (List AV)} {y : AV} (hy : Rows σ sz y ys) (hb : (es.length + ys.length) * by' ≤ 140737488355328 ∧ es.length + ys.length ≤ 140737488355328) :
    ∃ x τ, aAppend sz by' (.sl true sz es) y σ = some (x, τ) ∧ σ.next ≤ τ.next ∧ (∀ i, i < σ.next → τ.get i = σ.get i) ∧ Put σ.next τ sz x (es ++ ys) := by
  unfold aAppend
  rw [hy.elsOf]
  have e : elsOf sz (.sl true sz es) σ = some es := by simp [elsOf]
  rw [e]
  simp only [hb, and_self, if_true]
  by_cases h : es.length = 0 ∨ 0 < ys.length
  · rw [if_pos h]
    refine ⟨_, _, rfl, by simp, fun i hi => AHeap.new_ne (by omega), .inr ⟨σ.next, Nat.le_refl _, by simp, by simp, by simp⟩⟩
  · rw [if_neg h]
    have : ys = [] := List.length_eq_zero_iff.1 (by omega)
    subst this
    exact ⟨_, _, rfl, Nat.le_refl _, fun _ _ => rfl, .inl (by simp)⟩
theorem Put.mono {n sz x els} (h : Put n σ sz x els) (hn : σ.next ≤ τ.next) (hg : ∀ i, n ≤ i → i < σ.next → τ.get i = σ.get i) : Put n τ sz x els := by
  rcases h with h | ⟨q, h1, h2, h3, h4⟩
  · exact .inl h
  · exact .inr ⟨q, h1, Nat.lt_of_lt_of_le h2 hn, h3, by rw [hg q h1 h2]; exact h4⟩
theorem Put.low {n m sz x els} (h : Put n τ sz x els) (hm : m ≤ n) : Put m τ sz x els := by
  rcases h with h | ⟨q, h1, h2⟩
  · exact .inl h
  · exact .inr ⟨q, by omega, h2⟩
theorem Put.fz {n sz x els} (h : Put n τ sz x els) : Fz τ (fun i => n ≤ i) x (.sl false sz els) := by
  rcases h with rfl | ⟨q, h1, h2, rfl, h4⟩
  · exact Fz.clip
  · exact FzR.own (rest := []) (FzR.refl els) h1 rfl (by simpa using h4)
theorem Put.cells {n sz x els} (h : Put n τ sz x els) : acells x = some [x] := by
  rcases h with rfl | ⟨q, _, _, rfl, _⟩ <;> rfl
theorem FzR.setAt {D : Nat → Prop} {x y : List AV} (h : FzL τ D x y) : ∀ (l : List (List AV)) (i : Nat), FzR τ D (l.set i x) (l.set i y)
  | [], i => by simp; exact .nil
  | a :: l, 0 => .cons h (FzR.refl l)
  | a :: l, i + 1 => .cons (FzL.refl a) (FzR.setAt h l i)
/-- What an effect variable has is another thing. -/
theorem BAt.put (h : BAt σ id rv vv hv s) {q n : Nat} {rest : List (List AV)} (hq : hv = .own q n) (hn : n = s.has.length) (hg : σ.get q = some (.cells 2 (s.has.map hasRow ++ rest))) {i : Nat} (hi : i < s.has.length) {x1 x2 : AV} {A : List Atom} {V : List Int}
    (hτ : σ.next ≤ τ.next) (hk : ∀ j, j < σ.next → j ≠ q → τ.get j = σ.get j) (ht : τ.get q = some (.cells 2 ((s.has.map hasRow ++ rest).set i [x1, x2]))) (h1 : Put σ.next τ 3 x1 (arows A)) (h2 : Put σ.next τ 1 x2 (irows V)) :
    ∃ τ', FzS τ (fun i => σ.next ≤ i) τ' ∧ BAt τ' id rv vv hv { s with has := s.has.set i (A, V) } ∧ Off (Foot id rv vv hv) σ τ' := by
  have hqlt : q < σ.next := foot_lt h (.inr ⟨n, .inr (.inr hq)⟩)
  have hqi : q ≠ id := fun e => h.hi n (by rw [hq, e])
  let τ' : AHeap := ⟨τ.next, fun j => if j = q then some (.cells 2 ((s.has.map hasRow ++ rest).set i [effV A, rhosV V])) else if j < σ.next then σ.get j else none⟩
  have hg' : ∀ j, τ'.get j = if j = q then some (.cells 2 ((s.has.map hasRow ++ rest).set i [effV A, rhosV V])) else if j < σ.next then σ.get j else none := fun _ => rfl
  have hf : FzR τ (fun i => σ.next ≤ i) ((s.has.map hasRow ++ rest).set i [x1, x2]) ((s.has.map hasRow ++ rest).set i [effV A, rhosV V]) :=
    FzR.setAt (.cons h1.fz (.cons h2.fz .nil)) _ _
  have hset := h.setH (τ := τ') (hv' := hv) (has' := s.has.set i (A, V)) hτ (by rw [hg', if_neg (Ne.symm hqi), if_pos h.lt]; exact h.obj)
    (.inr ⟨q, rest, by rw [hq, hn]; simp, by intro e; simp at e; simp [e] at hi, by
      rw [hg', if_pos rfl, List.map_set, setRow (by simpa using hi)]; rfl, by show q < τ.next; omega⟩)
    (fun q' m e => by exact .inl ⟨m, e⟩) (fun j _ hj hne => by rw [hg', if_neg (fun e => hne n (by rw [hq, e])), if_pos hj])
  refine ⟨τ', ⟨rfl, fun j hj => by rw [hg', if_neg (by omega), if_neg (by omega)], fun j hj => ?_⟩, hset.1, hset.2.2⟩
  by_cases hjq : j = q
  · subst hjq
    exact .inr ⟨_, _, ht, by rw [hg', if_pos rfl], .cells hf⟩
  · have hjl : j < σ.next := by omega
    rw [hg', if_neg hjq, if_pos hjl, hk j hjl hjq]
    cases hgj : σ.get j with
    | none => exact .inl ⟨rfl, rfl⟩
    | some o => exact .inr ⟨o, o, rfl, rfl, .refl o⟩
end Go.Abs.Bas
