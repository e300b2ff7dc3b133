/-
  The effect of atoms; the names in a forest.
-/
import Derived.Test.YtjilebpcaemopaaGreatBasL3
set_option linter.unusedVariables false
set_option linter.unusedSimpArgs false
namespace Go.Abs.Bas
open Go Go.Abs Go.Abs.At Go.Proofs.BasD
attribute [local simp] Nat.add_assoc

/-- A row that stays while new objects come. -/
def RowG (σ : AHeap) (sz : Nat) (x : AV) (els : List (List AV)) : Prop := Rows σ sz x els ∧ Low σ.next x
theorem RowG.grows {σ τ sz x els} (h : RowG σ sz x els) (g : Grows σ τ) : RowG τ sz x els := by
  refine ⟨?_, h.2.mono g.next⟩
  rcases h.1 with h1 | h1 | ⟨q, rest, rfl, h1⟩
  · exact .inl h1
  · exact .inr (.inl h1)
  · cases h.2 with
    | own hq => exact .inr (.inr ⟨q, rest, rfl, by rw [g.get q hq]; exact h1⟩)
theorem RowG.sl {σ c sz els} (h : ∀ el ∈ els, ∀ x ∈ el, Dat x) : RowG σ sz (.sl c sz els) els := ⟨.inr (.inl ⟨c, rfl⟩), (Dat.sl h).low _⟩
theorem arows_dat (l : List Atom) : ∀ el ∈ arows l, ∀ x ∈ el, Dat x := by
  intro el hel x hx
  obtain ⟨a, _, rfl⟩ := List.mem_map.1 hel
  simp only [Atom.av, List.mem_cons, List.not_mem_nil, or_false] at hx
  rcases hx with rfl | rfl | rfl <;> exact .val _
theorem irows_dat (l : List Int) : ∀ el ∈ irows l, ∀ x ∈ el, Dat x := by
  intro el hel x hx
  obtain ⟨a, _, rfl⟩ := List.mem_map.1 hel
  simp at hx; subst hx; exact .val _
theorem RowG.eff {σ} (l : List Atom) : RowG σ 3 (effV l) (arows l) := RowG.sl (arows_dat l)
theorem RowG.rhos {σ} (l : List Int) : RowG σ 1 (rhosV l) (irows l) := RowG.sl (irows_dat l)
theorem Kid.rowG {n m sz υ x rows} (h : Kid n m sz υ x rows) : RowG υ sz x rows := by
  refine ⟨h.rows, ?_⟩
  rcases h with ⟨rfl, _⟩ | ⟨q, rest, rfl, _, _, h4⟩
  · exact .val _
  · exact .own h4
theorem Kid.own0 {n sz υ q rows rest} (h1 : n ≤ q) (h2 : q < υ.next) (h3 : υ.get q = some (.cells sz (rows ++ rest))) : Kid n 0 sz υ (.own q rows.length) rows := .inr ⟨q, rest, rfl, h3, by omega, h2⟩

theorem normA {n : Nat} {x : AV} {l : List Atom} {φ : AHeap} (hK : Kid n 0 3 φ x (arows l)) (hb : l.length < 1000000000000) {k kp : AV → AHeap → Prop}
    (hk : ∀ y τ, τ.next = φ.next → (∀ i, i < n → τ.get i = φ.get i) → Kid n 0 3 τ y (arows (setOf lessM l)) → k y τ) : Ev PR 59 [x, .fn (.func 60) []] φ (fun _ σ => Ev PR 61 [x] σ k kp) kp := by
  rcases hK with ⟨rfl, h0⟩ | ⟨q, rest, rfl, h1, h2, h3⟩
  · have hl : l = [] := by simpa using h0
    subst hl
    exact sortA_nil (.inl rfl) (compactA_nil (.inl rfl) (hk _ φ rfl (fun _ _ => rfl) (.inl ⟨rfl, rfl⟩)))
  · rcases Nat.eq_zero_or_pos l.length with h0 | h0
    · have hl : l = [] := List.length_eq_zero_iff.1 h0
      subst hl
      refine sortA_nil (.inr ⟨q, rfl⟩) (compactA_nil (.inr ⟨q, .inl rfl⟩) (hk _ φ rfl (fun _ _ => rfl) (.inr ⟨q, rest, rfl, h1, h2, h3⟩)))
    · have hs := sortedA_spec l
      have hc : compactM (sortedA l) = setOf lessM l := compactM_setOf lessM_ord hs.2 fun x => hs.1.mem_iff
      refine sortA_ev (l := l) (by simp) (by simpa using h0) h1 hb fun τ t1 t2 t3 => ?_
      refine compactA_ev (l := sortedA l) (by simp [sortedA_len]) t3 (by rw [sortedA_len]; exact hb) fun υ rest' u1 u2 u3 => ?_
      rw [hc] at u3 ⊢
      refine hk _ υ (u1.trans t1) (fun i hi => by rw [u2 i (by omega), t2 i (by omega)]) (.inr ⟨q, rest', by simp, u3, h2, by omega⟩)
theorem normI {n : Nat} {x : AV} {l : List Int} {φ : AHeap} (hK : Kid n 0 1 φ x (irows l)) (hb : l.length < 1000000000000) {k kp : AV → AHeap → Prop}
    (hk : ∀ y τ, τ.next = φ.next → (∀ i, i < n → τ.get i = φ.get i) → Kid n 0 1 τ y (irows (setOf ltI l)) → k y τ) : Ev PR 55 [x] φ (fun _ σ => Ev PR 56 [x] σ k kp) kp := by
  rcases hK with ⟨rfl, h0⟩ | ⟨q, rest, rfl, h1, h2, h3⟩
  · have hl : l = [] := by simpa using h0
    subst hl
    exact sortI_nil (.inl rfl) (compactI_nil (.inl rfl) (hk _ φ rfl (fun _ _ => rfl) (.inl ⟨rfl, rfl⟩)))
  · refine sortI_ev (l := l) (by simp) h1 hb fun τ t1 t2 t3 => ?_
    have hll : (sortedI l).length = l.length := List.length_mergeSort ..
    refine compactI_ev (l := sortedI l) (by simp [hll]) t3 (by rw [hll]; exact hb) fun υ rest' u1 u2 u3 => ?_
    rw [compact_sortedI] at u3 ⊢
    exact hk _ υ (u1.trans t1) (fun i hi => by rw [u2 i (by omega), t2 i (by omega)]) (.inr ⟨q, rest', by simp, u3, h2, by omega⟩)

theorem setOf_nil {α : Type} [DecidableEq α] (lt : α → α → Bool) : setOf lt [] = [] := rfl
/-- The effect of atoms. -/
def ofM (l : List Atom) : List Atom := setOf lessM (l.filter atomM)
theorem of_ev {l : List Atom} {x : AV} {σ : AHeap} (hx : RowG σ 3 x (arows l)) (hb : l.length < 1000000000) {k kp : AV → AHeap → Prop} (hk : k (effV (ofM l)) σ) : Ev PR 37 [x] σ k kp := by
  refine Ev.pure ?_
  apply F37_ev; unfold F37
  refine seqW_in ?_
  have hlen : ∀ φ, Grows σ φ → aLenK .slice x φ = some (int l.length) := fun φ hG => by have := (hx.grows hG).1.len; simpa using this
  simp [hlen σ (Grows.refl _)]
  refine loopW_by (fun p : Nat × AV => [(3, p.2), (6, x), (7, int l.length), (8, int p.1)])
    (fun p φ => p.1 ≤ l.length ∧ Grows σ φ ∧ Kid σ.next 0 3 φ p.2 (arows ((l.take p.1).filter atomM)))
    (fun fr _ => l.length - (intOf (look fr 8)).toNat) (0, .val (.slice none 0 0)) (by simp) ⟨by simp, Grows.refl _, .inl ⟨rfl, by simp⟩⟩ ?_
  rintro ⟨i, y⟩ φ ⟨hi, hG, hK⟩
  simp only at hi hK
  simp
  by_cases hil : i < l.length
  · obtain ⟨a, ha⟩ := get_some hil
    obtain ⟨p, hp, hpt⟩ := (hx.grows hG).1.at (i := i) (el := a.av) (by simp [ha]) rfl .i64
    have htk : (l.take (i + 1)).filter atomM = (l.take i).filter atomM ++ (if atomM a = true then [a] else []) := by
      rw [List.take_add_one, ha, List.filter_append]
      simp only [Option.toList_some, List.filter_cons, List.filter_nil]
    have hfl : ((l.take i).filter atomM).length ≤ i := Nat.le_trans (List.length_filter_le _ _) (by simp; omega)
    simp only [hil, decide_true, condK_true]
    refine seqW_in ?_
    refine stepP hp ?_
    simp [hpt.load, Atom.take3, get_new]
    generalize hτ : AHeap.set _ _ _ = τ
    have g0 : τ.get φ.next = some (.cells 3 [a.av]) := by rw [← hτ]; simp [get_set]
    have gG : Grows φ τ := by rw [← hτ]; exact (Grows.new _ _).set (Nat.le_refl _) _
    have hG2 : Grows σ τ := hG.trans gG
    have hn2 : φ.next + 1 ≤ τ.next := by rw [← hτ]; simp
    clear hτ
    refine atom_ev ?_
    have hK2 := hK.grows gG
    cases h1 : atomM a
    · simp
      rw [wrap64 (by omega)]
      refine ⟨⟨i + 1, _, ⟨rfl, by simp⟩, by omega, hG2, ?_⟩, by omega⟩
      rw [htk]; simpa [h1] using hK2
    · simp [g0, Atom.take3]
      have hK3 := hK2.grows (Grows.new τ (.cells 3 [a.av]))
      refine stepK_of (aAppend_rows (by' := 32) hK3.rows hK3.ns (ys := [a.av]) (.inr (.inr ⟨τ.next, [], rfl, by simp [get_new]⟩)) (by simp; omega)) ?_
      have hnn := hG2.next
      obtain ⟨p1, p2, p3⟩ := hK3.push (by simp; omega) a.av
      generalize (gone y (τ.new (.cells 3 [a.av]))).new (.cells 3 (arows ((l.take i).filter atomM) ++ [a.av])) = υ at p1 p2 p3
      simp
      rw [wrap64 (by omega)]
      simp at p3
      refine ⟨⟨i + 1, _, ⟨rfl, by simp⟩, by omega, ⟨by omega, fun j hj => by rw [p2 j (by omega), AHeap.new_ne (by omega)]; exact hG2.get j hj⟩, ?_⟩, by omega⟩
      rw [htk]
      simpa [h1, arows] using p1
  · have hall : l.take i = l := List.take_of_length_le (by omega)
    rw [hall] at hK
    simp [hil]
    have hfl : (l.filter atomM).length ≤ l.length := List.length_filter_le _ _
    refine normA hK (by omega) fun y τ t1 t2 t3 => ?_
    refine ⟨⟨by rw [t1]; exact hG.next, fun j hj => by rw [t2 j hj]; exact hG.get j hj⟩, effV (ofM l), ?_, hk⟩
    exact t3.frz (arows_dat _)
end Go.Abs.Bas
