/-
  Atoms; the same effects, types, terms.
-/
import Derived.Test.YtpfaciflhhpokaaGreatDoorAtS
set_option linter.unusedVariables false
set_option linter.unusedSimpArgs false
namespace Go.Abs.At
open Go Go.Abs Go.Proofs.AtD
attribute [local simp] Nat.add_assoc

def atomM (a : Atom) : Bool :=
  if a.kind = 3 then decide (a.rho = 0) && shapeM a.exn 4
  else (decide (a.kind = 1) || decide (a.kind = 2)) && decide (0 ≤ a.rho) && decide (a.exn = ByteArray.empty)
abbrev Atom.v (a : Atom) : AV := .agg a.av
theorem Atom.av_eq (a : Atom) : a.av = [u8 a.kind, int a.rho, str a.exn] := rfl

theorem atom_ref {a : Atom} {σ : AHeap} {k kp : AV → AHeap → Prop} (hk : k (bool (atomM a)) σ) : Ev PR 62 [a.v] σ k kp := by
  refine Ev.pureD hk ((Dat.val _).low _) fun k' hk' => ?_
  apply F62_ev; unfold F62
  obtain ⟨kd, rho, exn⟩ := a
  simp [Atom.av, empty_eq]
  generalize hτ : σ.new _ = τ
  have g0 : τ.get σ.next = some (.cells 3 [[u8 kd, int rho, str exn]]) := by rw [← hτ]; simp [get_new]
  have hG : Grows σ τ := by rw [← hτ]; exact Grows.new _ _
  clear hτ
  have fin : ∀ v, atomM ⟨kd, rho, exn⟩ = v → k' (bool v) τ := fun v h => by rw [← h]; exact hk' _ hG
  by_cases h3 : kd = 3
  · by_cases h00 : rho = 0
    · simp [g0, h3, h00]
      refine exn_ref ?_
      exact fin _ (by simp [atomM, h3, h00])
    · simp [g0, h3, h00]
      exact fin _ (by simp [atomM, h3, h00])
  · by_cases h1 : kd = 1 <;> by_cases h2 : kd = 2 <;> by_cases h0 : 0 ≤ rho <;> by_cases he : exn = ByteArray.empty
    all_goals first
      | (exfalso; omega)
      | (simp [g0, h3, h1, h2, h0, he]; exact fin _ (by simp [atomM, h3, h1, h2, h0, he]))
theorem atom_ev {a : Atom} {σ : AHeap} {k kp : AV → AHeap → Prop} (hk : k (bool (atomM a)) σ) : Ev PR 74 [a.v] σ k kp := by
  refine Ev.pureD hk ((Dat.val _).low _) fun k' hk' => ?_
  apply F74_ev; unfold F74
  obtain ⟨kd, rho, exn⟩ := a
  simp [Atom.av, empty_eq]
  generalize hτ : σ.new _ = τ
  have g0 : τ.get σ.next = some (.cells 3 [[u8 kd, int rho, str exn]]) := by rw [← hτ]; simp [get_new]
  have hG : Grows σ τ := by rw [← hτ]; exact Grows.new _ _
  clear hτ
  have fin : ∀ v, atomM ⟨kd, rho, exn⟩ = v → k' (bool v) τ := fun v h => by rw [← h]; exact hk' _ hG
  refine seqW_in ?_
  by_cases h1 : kd = 1 <;> by_cases h2 : kd = 2 <;> by_cases h3 : kd = 3 <;> by_cases h0 : 0 ≤ rho <;> by_cases h00 : rho = 0 <;> by_cases he : exn = ByteArray.empty
  all_goals first
    | (exfalso; omega)
    | (simp [g0, h3, h1, h2, h0, h00, he]; exact fin _ (by simp [atomM, h3, h1, h2, h0, h00, he]))
    | skip
  all_goals
    simp [g0, h3, h1, h2, h0, h00]
    refine exn_ev ?_
    exact fin _ (by simp [atomM, h3, h1, h2, h0, h00])

@[simp] theorem Atom.av_len (a : Atom) : a.av.length = 3 := rfl
theorem eqAtom (x a : Atom) : eqLeaves [.i, .i, .s] x.av a.av = some (decide (x = a)) := by
  obtain ⟨k1, r1, e1⟩ := x
  obtain ⟨k2, r2, e2⟩ := a
  simp [Atom.av, Bool.and_assoc]
theorem eff_at {l : List Atom} {j : Nat} {t : Atom} (h : l[j]? = some t) (ω : AHeap) : aIndexAddr 3 (effV l) (int j) ω = some (.ref t.av) := by
  rw [effV, aIndexAddr_sl]; simp [h]
theorem Atom.take3 (a : Atom) : a.av.take 3 = a.av := rfl
theorem in_ref {l : List Atom} {a : Atom} (hb : l.length < 1000000000000) {σ : AHeap} {k kp : AV → AHeap → Prop} (hk : k (bool (decide (a ∈ l))) σ) : Ev PR 63 [effV l, a.v] σ k kp := by
  refine Ev.pureD hk ((Dat.val _).low _) fun k' hk' => ?_
  apply F63_ev; unfold F63
  have hlen : ∀ ω, aLenK .slice (effV l) ω = some (int l.length) := fun ω => by simp [effV]
  simp [hlen]
  generalize hτ : σ.new _ = τ
  have g0 : τ.get σ.next = some (.cells 3 [a.av]) := by rw [← hτ]; simp [get_new]
  have hG : Grows σ τ := by rw [← hτ]; exact Grows.new _ _
  clear hτ
  refine seqW_in ?_
  refine loopW_by (fun j : Nat => [(0, effV l), (3, .ptr σ.next 0 0), (7, int l.length), (8, int j)]) (fun j φ => φ = τ ∧ j ≤ l.length ∧ a ∉ l.take j) (fun fr _ => l.length - (intOf (look fr 8)).toNat) 0 (by simp) ⟨rfl, by simp, by simp⟩ ?_
  rintro j φ ⟨rfl, hj, hne⟩
  simp
  by_cases hjl : j < l.length
  · obtain ⟨t, ht⟩ := get_some hjl
    simp [hjl, eff_at ht, g0, Atom.take3, eqAtom]
    by_cases hc : t = a
    · subst hc
      simp
      have := hk' _ hG
      rwa [decide_eq_true (List.mem_of_getElem? ht)] at this
    · simp [hc]
      rw [wrap64 (by omega)]
      refine ⟨⟨j + 1, by simp, by omega, fun h => ?_⟩, by omega⟩
      rw [List.take_add_one, ht] at h
      rcases List.mem_append.1 h with h | h
      · exact hne h
      · simp at h; exact hc h.symm
  · rw [List.take_of_length_le (by omega)] at hne
    simp [hjl]
    have := hk' _ hG
    rwa [decide_eq_false hne] at this
theorem in_ev {l : List Atom} {a : Atom} (hb : l.length < 1000000000000) {σ : AHeap} {k kp : AV → AHeap → Prop} (hk : k (bool (decide (a ∈ l))) σ) : Ev PR 82 [effV l, a.v] σ k kp := by
  refine Ev.pureD hk ((Dat.val _).low _) fun k' hk' => ?_
  apply F82_ev; unfold F82
  simp [get_new, Atom.take3]
  apply F101_ev; unfold F101
  have hlen : ∀ ω, aLenK .slice (effV l) ω = some (int l.length) := fun ω => by simp [effV]
  simp [hlen]
  generalize hτ : AHeap.new (σ.new _) _ = τ
  have g0 : τ.get (σ.next + 1) = some (.cells 3 [a.av]) := by rw [← hτ]; simp [get_new]
  have hG : Grows σ τ := by rw [← hτ]; exact (Grows.new _ _).trans (Grows.new _ _)
  clear hτ
  refine seqW_in ?_
  refine loopW_by (fun j : Nat => [(0, effV l), (3, .ptr (σ.next + 1) 0 0), (7, int l.length), (8, int j)]) (fun j φ => φ = τ ∧ j ≤ l.length ∧ a ∉ l.take j) (fun fr _ => l.length - (intOf (look fr 8)).toNat) 0 (by simp) ⟨rfl, by simp, by simp⟩ ?_
  rintro j φ ⟨rfl, hj, hne⟩
  simp
  by_cases hjl : j < l.length
  · obtain ⟨t, ht⟩ := get_some hjl
    simp [hjl, eff_at ht, g0, Atom.take3, eqAtom]
    by_cases hc : a = t
    · subst hc
      simp
      have := hk' _ hG
      rwa [decide_eq_true (List.mem_of_getElem? ht)] at this
    · simp [hc]
      rw [wrap64 (by omega)]
      refine ⟨⟨j + 1, by simp, by omega, fun h => ?_⟩, by omega⟩
      rw [List.take_add_one, ht] at h
      rcases List.mem_append.1 h with h | h
      · exact hne h
      · simp at h; exact hc h
  · rw [List.take_of_length_le (by omega)] at hne
    simp [hjl]
    have := hk' _ hG
    rwa [decide_eq_false hne] at this

def withinM (a b : List Atom) : Bool := a.all fun x => !atomM x || decide (x ∈ b)
theorem within_ref {a b : List Atom} (ha : a.length < 1000000000000) (hb : b.length < 1000000000000) {σ : AHeap} {k kp : AV → AHeap → Prop} (hk : k (bool (withinM a b)) σ) : Ev PR 39 [effV a, effV b] σ k kp := by
  apply F39_ev; unfold F39
  have hlen : ∀ ω, aLenK .slice (effV a) ω = some (int a.length) := fun ω => by simp [effV]
  simp [hlen]
  refine seqW_in ?_
  refine loopW_by (fun j : Nat => [(0, effV a), (1, effV b), (7, int a.length), (8, int j)]) (fun j φ => φ = σ ∧ j ≤ a.length ∧ withinM (a.take j) b = true) (fun fr _ => a.length - (intOf (look fr 8)).toNat) 0 (by simp) ⟨rfl, by simp, by simp [withinM]⟩ ?_
  rintro j φ ⟨rfl, hj, hall⟩
  simp
  by_cases hjl : j < a.length
  · obtain ⟨t, ht⟩ := get_some hjl
    have hstep : withinM (a.take (j + 1)) b = (!atomM t || decide (t ∈ b)) := by
      rw [List.take_add_one, ht]
      have : withinM (a.take j ++ [t]) b = (withinM (a.take j) b && (!atomM t || decide (t ∈ b))) := by simp [withinM, List.all_append]
      simpa [hall] using this
    have hno : (!atomM t || decide (t ∈ b)) = false → withinM a b = false := fun h => List.all_eq_false.2 ⟨t, List.mem_of_getElem? ht, by rw [h]; simp⟩
    simp [hjl, eff_at ht, Atom.take3]
    refine atom_ref ?_
    cases hat : atomM t with
    | false =>
      simp
      rw [wrap64 (by omega)]
      exact ⟨⟨j + 1, by simp, by omega, by rw [hstep, hat]; rfl⟩, by omega⟩
    | true =>
      simp [eff_at ht, Atom.take3]
      refine in_ref hb ?_
      by_cases hm : t ∈ b
      · simp [hm]
        rw [wrap64 (by omega)]
        exact ⟨⟨j + 1, by simp, by omega, by rw [hstep, hat]; simpa using hm⟩, by omega⟩
      · simp [hm]
        rw [hno (by simp [hat, hm])] at hk
        exact hk
  · rw [List.take_of_length_le (by omega)] at hall
    simp [hjl]
    rw [hall] at hk
    exact hk
theorem within_ev {a b : List Atom} (ha : a.length < 1000000000000) (hb : b.length < 1000000000000) {σ : AHeap} {k kp : AV → AHeap → Prop} (hk : k (bool (withinM a b)) σ) : Ev PR 64 [effV a, effV b] σ k kp := by
  refine Ev.pureD hk ((Dat.val _).low _) fun k' hk' => ?_
  apply F64_ev; unfold F64
  have hlen : ∀ ω, aLenK .slice (effV a) ω = some (int a.length) := fun ω => by simp [effV]
  have hbox : acells (effV b) = some [effV b] := rfl
  simp [hbox]
  apply F80_ev; unfold F80
  apply F100_ev; unfold F100
  simp [hlen]
  generalize hτ : σ.new _ = τ
  have g0 : τ.get σ.next = some (.cells 1 [[effV b]]) := by rw [← hτ]; simp [get_new]
  have hn : τ.next = σ.next + 1 := by rw [← hτ]; simp
  have hG : Grows σ τ := by rw [← hτ]; exact Grows.new _ _
  clear hτ
  refine seqW_in ?_
  refine loopW_by (fun j : Nat => [(0, effV a), (1, .fn (.func 81) [.ptr σ.next 0 0]), (7, int a.length), (8, int j)]) (fun j φ => Grows τ φ ∧ j ≤ a.length ∧ withinM (a.take j) b = true) (fun fr _ => a.length - (intOf (look fr 8)).toNat) 0 (by simp) ⟨Grows.refl _, by simp, by simp [withinM]⟩ ?_
  rintro j φ ⟨hφ, hj, hall⟩
  have gφ : φ.get σ.next = some (.cells 1 [[effV b]]) := by rw [hφ.get _ (by omega)]; exact g0
  simp
  by_cases hjl : j < a.length
  · obtain ⟨t, ht⟩ := get_some hjl
    have hstep : withinM (a.take (j + 1)) b = (!atomM t || decide (t ∈ b)) := by
      rw [List.take_add_one, ht]
      have : withinM (a.take j ++ [t]) b = (withinM (a.take j) b && (!atomM t || decide (t ∈ b))) := by simp [withinM, List.all_append]
      simpa [hall] using this
    have hno : (!atomM t || decide (t ∈ b)) = false → withinM a b = false := fun h => List.all_eq_false.2 ⟨t, List.mem_of_getElem? ht, by rw [h]; simp⟩
    simp [hjl, eff_at ht, Atom.take3]
    show Ev PR 81 _ _ _ _
    apply F81_ev; unfold F81
    have hgn : Grows φ (φ.new (.cells 3 [t.av])) := Grows.new _ _
    have gφ' : (φ.new (.cells 3 [t.av])).get σ.next = some (.cells 1 [[effV b]]) := by rw [hgn.get _ (by have := hφ.next; omega)]; exact gφ
    have gt : (φ.new (.cells 3 [t.av])).get φ.next = some (.cells 3 [t.av]) := by simp [get_new]
    simp [gt, Atom.take3]
    refine atom_ev ?_
    generalize φ.new (.cells 3 [t.av]) = ψ at hgn gφ' gt
    cases hat : atomM t with
    | false =>
      simp
      rw [wrap64 (by omega)]
      exact ⟨⟨j + 1, by simp, hφ.trans hgn, by omega, by rw [hstep, hat]; rfl⟩, by omega⟩
    | true =>
      simp [gt, gφ', Atom.take3]
      refine in_ev hb ?_
      by_cases hm : t ∈ b
      · simp [hm]
        rw [wrap64 (by omega)]
        exact ⟨⟨j + 1, by simp, hφ.trans hgn, by omega, by rw [hstep, hat]; simpa using hm⟩, by omega⟩
      · simp [hm]
        have := hk' _ (hG.trans (hφ.trans hgn))
        rw [hno (by simp [hat, hm])] at this
        exact this
  · rw [List.take_of_length_le (by omega)] at hall
    simp [hjl]
    have := hk' _ (hG.trans hφ)
    rw [hall] at this
    exact this
theorem effSame_ev {a b : List Atom} (ha : a.length < 1000000000000) (hb : b.length < 1000000000000) {σ : AHeap} {k kp : AV → AHeap → Prop} (hk : k (bool (withinM a b && withinM b a)) σ) : Ev PR 42 [effV a, effV b] σ k kp := by
  apply F42_ev; unfold F42
  refine within_ev ha hb ?_
  cases h : withinM a b with
  | false =>
    simp
    rw [h] at hk
    exact hk
  | true =>
    simp
    refine within_ev hb ha ?_
    rw [h] at hk
    simpa using hk
end Go.Abs.At
