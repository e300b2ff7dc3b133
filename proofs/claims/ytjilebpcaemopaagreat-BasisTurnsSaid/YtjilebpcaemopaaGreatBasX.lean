/-
  Acts out of the data that came in.
-/
import Derived.Test.YtjilebpcaemopaaGreatBasU
import Derived.Test.YtjilebpcaemopaaGreatAbsN
set_option linter.unusedVariables false
set_option linter.unusedSimpArgs false
namespace Go.Abs.Bas
open Go Go.Abs Go.Abs.At Go.Proofs

theorem rows_of {α : Type} (f : α → List AV) : ∀ (xs : List (List AV)), (∀ el ∈ xs, ∃ a, el = f a) → ∃ l : List α, xs = l.map f
  | [], _ => ⟨[], rfl⟩
  | el :: xs, h => by
    obtain ⟨a, rfl⟩ := h el (by simp)
    obtain ⟨l, rfl⟩ := rows_of f xs fun el' h' => h el' (by simp [h'])
    exact ⟨a :: l, rfl⟩
theorem ints_of {cs : List AV} (h : DV Tryz.prog 23 cs) : ∃ l, cs = [rhosV l] ∧ l.length ≤ maxLen := by
  obtain ⟨xs, rfl, hl, hxs⟩ := h.slice_inv (e := 3) (by kernel_rfl)
  obtain ⟨l, rfl⟩ := rows_of (fun r : Int => [int r]) _ fun el he => by
    obtain ⟨_, _, rfl, ⟨n, rfl, _⟩, rfl⟩ := flat_spec 9 3 [.i .i64] _ (by kernel_rfl) (hxs el he).1
    exact ⟨n, rfl⟩
  have hc : Tryz.prog.cellsOf 3 = 1 := by kernel_rfl
  rw [hc]
  exact ⟨l, rfl, by simpa using hl⟩
theorem atoms_of {cs : List AV} (h : DV Tryz.prog 29 cs) : ∃ l, cs = [effV l] ∧ l.length ≤ maxLen := by
  obtain ⟨xs, rfl, hl, hxs⟩ := h.slice_inv (e := 56) (by kernel_rfl)
  obtain ⟨l, rfl⟩ := rows_of Atom.av _ fun el he => by
    obtain ⟨_, _, rfl, ⟨kd, rfl, _⟩, _, _, rfl, ⟨r, rfl, _⟩, _, _, rfl, ⟨s, rfl, _⟩, rfl⟩ := flat_spec 9 56 [.i .u8, .i .i64, .s] _ (by kernel_rfl) (hxs el he).1
    exact ⟨⟨kd, r, s⟩, rfl⟩
  have hc : Tryz.prog.cellsOf 56 = 3 := by kernel_rfl
  rw [hc]
  exact ⟨l, rfl, by simpa using hl⟩
theorem fields31 : fieldsOf Tryz.prog 31 = some [(3, 0, 1), (3, 1, 1), (23, 2, 1), (29, 3, 1)] := by kernel_rfl
theorem split4 {α : Type} {l : List α} (h : l.length = 4) : l = (l.drop 0).take 1 ++ (l.drop 1).take 1 ++ (l.drop 2).take 1 ++ (l.drop 3).take 1 := by
  match l, h with
  | [a, b, c, d], _ => rfl
theorem act_of {cs : List AV} (h : DV Tryz.prog 31 cs) : ∃ a : Act, cs = a.av := by
  have hl := h.structLen fields31
  rw [show Tryz.prog.cellsOf 31 = 4 by kernel_rfl] at hl
  have hf := h.fields fields31
  obtain ⟨_, _, e0, ⟨k, rfl, _⟩, rfl⟩ := flat_spec 9 3 [.i .i64] _ (by kernel_rfl) (hf (3, 0, 1) (by simp))
  obtain ⟨_, _, e1, ⟨v, rfl, _⟩, rfl⟩ := flat_spec 9 3 [.i .i64] _ (by kernel_rfl) (hf (3, 1, 1) (by simp))
  obtain ⟨L, e2, _⟩ := ints_of (hf (23, 2, 1) (by simp))
  obtain ⟨A, e3, _⟩ := atoms_of (hf (29, 3, 1) (by simp))
  refine ⟨⟨k, v, L, A⟩, ?_⟩
  rw [split4 hl, e0, e1, e2, e3]
  rfl
theorem acts_of {c : AV} (h : DV Tryz.prog 22 [c]) : ∃ l : List Act, c = .sl false 4 (l.map Act.av) ∧ l.length ≤ maxLen := by
  obtain ⟨xs, e, hl, hxs⟩ := h.slice_inv (e := 31) (by kernel_rfl)
  obtain ⟨l, rfl⟩ := rows_of Act.av _ fun el he => act_of (hxs el he).1
  have hc : Tryz.prog.cellsOf 31 = 4 := by kernel_rfl
  rw [hc] at e
  exact ⟨l, by simpa using e, by simpa using hl⟩
theorem u8_nonneg {n : Int} (h : (Lit.int .u8 n).wf = true) : 0 ≤ n := by
  simp only [Lit.wf, Bool.and_eq_true, decide_eq_true_eq] at h
  have := h.1
  simpa [IntKind.min, IntKind.signed] using this
theorem argsRel_three {c : Ctx} {x y z : AV} {u v w : Value} (h : VRel c x u) (h' : VRel c y v) (h'' : VRel c z w) : ArgsRel c [x, y, z] #[u, v, w] := ⟨rfl, fun i y u hy hu => by
  match i with
  | 0 => simp at hy hu; subst hy; subst hu; exact h
  | 1 => simp at hy hu; subst hy; subst hu; exact h'
  | 2 => simp at hy hu; subst hy; subst hu; exact h''
  | i + 3 => simp at hy⟩
theorem argsRel_four {c : Ctx} {x y z a : AV} {u v w b : Value} (h : VRel c x u) (h' : VRel c y v) (h'' : VRel c z w) (h3 : VRel c a b) : ArgsRel c [x, y, z, a] #[u, v, w, b] := ⟨rfl, fun i y u hy hu => by
  match i with
  | 0 => simp at hy hu; subst hy; subst hu; exact h
  | 1 => simp at hy hu; subst hy; subst hu; exact h'
  | 2 => simp at hy hu; subst hy; subst hu; exact h''
  | 3 => simp at hy hu; subst hy; subst hu; exact h3
  | i + 4 => simp at hy⟩
end Go.Abs.Bas
