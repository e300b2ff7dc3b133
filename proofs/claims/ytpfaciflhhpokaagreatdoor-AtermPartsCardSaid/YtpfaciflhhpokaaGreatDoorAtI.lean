/-
  Shapes and their letters; nodes of plain terms.
-/
import Derived.Test.YtpfaciflhhpokaaGreatDoorAtH
set_option linter.unusedVariables false
set_option linter.unusedSimpArgs false
namespace Go.Abs.At
open Go Go.Abs Go.Proofs.AtD
attribute [local simp] Nat.add_assoc

def bytesOf (s : ByteArray) : List Int := s.data.toList.map fun b => (b.toNat : Int)
theorem bytesV_of (s : ByteArray) : bytesV s = (bytesOf s).map fun b => [u8 b] := by simp [bytesV, bytesOf]
abbrev u8V (l : List Int) : AV := .sl false 1 (l.map fun b => [u8 b])

theorem index_ev {l : List Int} {c : Int} (hb : l.length < 1000000000000) {σ : AHeap} {k kp : AV → AHeap → Prop} (hk : ∀ r : Int, (0 ≤ r ↔ c ∈ l) → k (int r) σ) : Ev PR 135 [u8V l, u8 c] σ k kp := by
  apply F135_ev; unfold F135
  simp
  refine seqW_in ?_
  refine loopW_by (fun j : Nat => [(0, u8V l), (1, u8 c), (7, int l.length), (8, int j)]) (fun j φ => φ = σ ∧ j ≤ l.length ∧ ∀ x ∈ l.take j, c ≠ x) (fun fr _ => l.length - (intOf (look fr 8)).toNat) 0 (by simp) ⟨rfl, by simp, by simp⟩ ?_
  rintro j φ ⟨rfl, hj, hne⟩
  simp
  by_cases hjl : j < l.length
  · obtain ⟨t, ht⟩ := get_some hjl
    have hix : ∀ ω, aIndexAddr 1 (u8V l) (int j) ω = some (.ref [u8 t]) := fun ω => by rw [aIndexAddr_sl]; simp [ht]
    simp [hjl, hix]
    by_cases hc : c = t
    · subst hc
      simp
      exact hk _ ⟨fun _ => List.mem_of_getElem? ht, fun _ => by omega⟩
    · simp [hc]
      rw [wrap64 (by omega)]
      refine ⟨⟨j + 1, by simp, by omega, fun x hx => ?_⟩, by omega⟩
      rw [List.take_add_one, ht] at hx
      rcases List.mem_append.1 hx with h | h
      · exact hne x h
      · simp at h; subst h; exact hc
  · have hall : l.take j = l := List.take_of_length_le (by omega)
    rw [hall] at hne
    simp [hjl]
    exact hk _ ⟨fun h => by omega, fun h => absurd rfl (hne c h)⟩
theorem contains_ev {l : List Int} {c : Int} (hb : l.length < 1000000000000) {σ : AHeap} {k kp : AV → AHeap → Prop} (hk : k (.val (.bool (decide (c ∈ l)))) σ) : Ev PR 117 [u8V l, u8 c] σ k kp := by
  apply F117_ev; unfold F117
  refine index_ev hb fun r hr => ?_
  simp
  have : decide (0 ≤ r) = decide (c ∈ l) := by simp [hr]
  rw [this]; exact hk
theorem has_ev {n : Int} {s : ByteArray} {c : Int} (hb : (bytesOf s).length < 1000000000000) {σ : AHeap} {k kp : AV → AHeap → Prop} (hk : k (.val (.bool (decide (c ∈ bytesOf s)))) σ) : Ev PR 104 [.agg [int n, str s], u8 c] σ k kp := by
  refine Ev.pureD hk ((Dat.val _).low _) fun k' hk' => ?_
  apply F104_ev; unfold F104
  simp [bytesV_of]
  exact contains_ev hb (hk' _ (Grows.new _ _))

/-- Ahead of a call less may be known. -/
theorem Ev.weak {P : Program} {f : FuncId} {args args' : List AV} {σ : AHeap} {k kp : AV → AHeap → Prop} (ha : FzL σ (fun _ => False) args args') (h : Ev P f args' σ k kp) : Ev P f args σ k kp := by
  refine Ev.freeze (D := fun _ => False) ⟨rfl, fun _ h => h.elim, fun id _ => ?_⟩ ha h
  cases hg : σ.get id with
  | none => exact .inl ⟨rfl, rfl⟩
  | some o => exact .inr ⟨o, o, rfl, rfl, .refl o⟩
theorem Fz.clip {τ : AHeap} {D : Nat → Prop} {c : Bool} {sz : Nat} {xs : List (List AV)} : Fz τ D (.sl c sz xs) (.sl false sz xs) := by
  refine .sl rfl (fun i el fl h1 h2 => ?_) (fun i el fl j x y h1 h2 h3 h4 => ?_)
  · rw [h1] at h2; cases h2; rfl
  · rw [h1] at h2; cases h2; rw [h3] at h4; cases h4; exact .refl _


theorem T.len_sizes (l : List T) : l.length ≤ T.sizes l := by
  induction l with
  | nil => simp
  | cons a l ih => have := a.size_pos; simp [T.sizes]; omega
theorem T.sizes_take_eq {l : List T} {i : Nat} {c : T} (h : l[i]? = some c) : T.sizes (l.take (i + 1)) = T.sizes (l.take i) + c.size := by
  rw [List.take_add_one, h, T.sizes_append]
  simp [T.sizes]
theorem T.all_eq (t : T) : t.all = t :: T.alls t.kids := by cases t; rfl
theorem T.alls_at {l : List T} {j m : Nat} {t x : T} (h : l[j]? = some t) (hm : t.all[m]? = some x) : (T.alls l)[T.sizes (l.take j) + m]? = some x := by
  have hj : j < l.length := (List.getElem?_eq_some_iff.1 h).1
  have e : l = l.take j ++ t :: l.drop (j + 1) := by
    have h2 : l[j] = t := by rw [List.getElem?_eq_getElem hj] at h; exact Option.some.inj h
    rw [← h2, ← List.drop_eq_getElem_cons hj, List.take_append_drop]
  have hm' : m < t.all.length := (List.getElem?_eq_some_iff.1 hm).1
  conv => lhs; rw [e, T.alls_append]
  rw [List.getElem?_append_right (by rw [T.alls_len, ← e]; omega)]
  simp only [T.alls]
  rw [List.getElem?_append_left (by rw [T.alls_len, ← e]; omega), T.alls_len, ← e, Nat.add_sub_cancel_left]
  exact hm

theorem T.each_ev (g : FuncId) (cap : List AV) (b : Nat) (S : AHeap → Prop) : ∀ (N : Nat) (l : List T), T.sizes l ≤ N → T.sizes l < 1000000000000 → ∀ (I : Nat → AHeap → Prop), (∀ i σ τ, I i σ → Grows σ τ → I i τ) →
    (∀ (i : Nat) t, (T.alls l)[i]? = some t → ∀ (σ : AHeap) (k kp : AV → AHeap → Prop), b ≤ σ.next → I i σ → (∀ τ, Up 8 b σ τ → I (i + 1) τ → k (.val (.bool true)) τ) → (∀ τ, Up 8 b σ τ → S τ → k (.val (.bool false)) τ) → Ev PR g (t.v :: cap) σ k kp) →
    ∀ (σ : AHeap) (k kp : AV → AHeap → Prop), b ≤ σ.next → I 0 σ → (∀ τ, Up 8 b σ τ → I (T.sizes l) τ → k (.val (.bool true)) τ) → (∀ τ, Up 8 b σ τ → S τ → k (.val (.bool false)) τ) → Ev PR 84 [.fn (.func g) cap, T.vs l] σ k kp := by
  intro N
  induction N with
  | zero =>
    intro l hl hb I hI hc σ k kp hbs h0 hT hF
    cases l with
    | nil =>
      apply F84_ev; unfold F84
      simp [T.avs]
      refine seqW_in ?_
      refine loopW_by (fun _ : Unit => [(0, .fn (.func g) cap), (7, T.vs []), (8, int 0), (9, int 0)]) (fun _ φ => φ = σ) (fun _ _ => 0) () (by simp [T.avs]) rfl ?_
      rintro ⟨⟩ φ rfl
      simp
      exact hT _ (Up.refl _ _ _) h0
    | cons t l => have := t.size_pos; simp [T.sizes] at hl; omega
  | succ N ih =>
    intro l hl hb I hI hc σ k kp hbs h0 hT hF
    apply F84_ev; unfold F84
    simp
    refine seqW_in ?_
    have hll := T.len_sizes l
    refine loopW_by (fun j : Nat => [(0, .fn (.func g) cap), (7, T.vs l), (8, int l.length), (9, int j)]) (fun j φ => j ≤ l.length ∧ Up 8 b σ φ ∧ b ≤ φ.next ∧ I (T.sizes (l.take j)) φ) (fun fr _ => l.length - (intOf (look fr 9)).toNat) 0 (by simp) ⟨by simp, Up.refl _ _ _, hbs, by simpa [T.sizes] using h0⟩ ?_
    rintro j φ ⟨hj, hu, hbf, hIj⟩
    simp
    by_cases hjl : j < l.length
    · obtain ⟨t, ht⟩ := get_some hjl
      have htm := List.mem_of_getElem? ht
      have hix : ∀ ω, aIndexAddr 8 (T.vs l) (int j) ω = some (.ref t.av) := fun ω => by rw [aIndexAddr_sl]; simp [T.avs_get ht]
      have hst := T.sizes_take_eq ht
      have hle := T.sizes_take l (j + 1)
      have hse := t.size_eq
      simp [hjl, hix]
      generalize hφ1 : AHeap.set (φ.new _) _ _ = φ1
      have hgr : Grows φ φ1 := by rw [← hφ1]; exact (Grows.new _ _).set (Nat.le_refl _) _
      have hn1 : φ1.next = φ.next + 1 := by rw [← hφ1]; simp
      have hg1 : φ1.get φ.next = some (.cells 8 [t.av]) := by rw [← hφ1]; simp [get_set]
      have hin : ∀ (m : Nat) x, t.all[m]? = some x → (T.alls l)[T.sizes (l.take j) + m]? = some x := fun m x hm => T.alls_at ht hm
      have h00 : (T.alls l)[T.sizes (l.take j)]? = some t := by have := hin 0 t (by rw [T.all_eq]; rfl); simpa using this
      refine hc _ t h00 φ1 _ _ (by omega) (hI _ _ _ hIj hgr) (fun τ hu2 hI2 => ?_) (fun τ hu2 hS => ?_)
      · have hg2 : τ.get φ.next = some (.cells 8 [t.av]) := by rw [hu2.get _ _ hbf (by omega) hg1]; exact hg1
        have hn2 := hu2.next
        simp [hg2]
        refine ih t.kids (by omega) (by omega) (fun i => I (T.sizes (l.take j) + 1 + i)) (fun i => hI _) (fun i x hx => ?_) τ _ _ (by omega) (by simpa using hI2) (fun υ hu3 hI3 => ?_) (fun υ hu3 hS => ?_)
        · have := hin (i + 1) x (by rw [T.all_eq]; simpa using hx)
          intro σ' k' kp' q1 q2 q3 q4
          exact hc _ x this σ' k' kp' q1 (by simpa [Nat.add_comm, Nat.add_left_comm] using q2) (fun τ' w1 w2 => q3 τ' w1 (by simpa [Nat.add_comm, Nat.add_left_comm] using w2)) q4
        · simp
          rw [wrap64 (by omega)]
          have huu := ((hu.trans (Up.of hgr)).trans hu2).trans hu3
          exact ⟨⟨j + 1, by simp, by omega, huu, by have := hu3.next; omega, by rw [hst, hse]; simpa [Nat.add_assoc] using hI3⟩, by omega⟩
        · simp
          exact hF _ (((hu.trans (Up.of hgr)).trans hu2).trans hu3) hS
      · simp
        exact hF _ ((hu.trans (Up.of hgr)).trans hu2) hS
    · have hall : l.take j = l := List.take_of_length_le (by omega)
      rw [hall] at hIj
      simp [hjl]
      exact hT _ hu hIj

/-- How many nodes terms have. -/
theorem T.sizes_ev {l : List T} (hb : T.sizes l < 1000000000000) {σ : AHeap} {k kp : AV → AHeap → Prop} (hk : k (int (T.sizes l)) σ) : Ev PR 83 [T.vs l] σ k kp := by
  refine Ev.pureD hk ((Dat.val _).low _) fun k' hk' => ?_
  apply F83_ev; unfold F83
  simp
  generalize hσ1 : AHeap.set (σ.new _) _ _ = σ1
  have hg : Grows σ σ1 := by rw [← hσ1]; exact (Grows.new _ _).set (Nat.le_refl _) _
  have hn1 : σ1.next = σ.next + 1 := by rw [← hσ1]; simp
  have hg1 : σ1.get σ.next = some (.cells 1 [[int 0]]) := by rw [← hσ1]; simp [get_set]
  refine T.each_ev 102 [.ptr σ.next 0 0] (σ.next + 1) (fun _ => False) _ l (Nat.le_refl _) hb (fun i φ => Grows σ φ ∧ σ.next < φ.next ∧ φ.get σ.next = some (.cells 1 [[int i]])) ?_ ?_ σ1 _ _ (by omega) ⟨hg, by omega, hg1⟩ ?_ ?_
  · rintro i φ ψ ⟨h1, h2, h3⟩ h4
    exact ⟨h1.trans h4, Nat.lt_of_lt_of_le h2 h4.next, by rw [h4.get _ h2]; exact h3⟩
  · rintro i t hi φ q qp hbφ ⟨h1, h2, h3⟩ hT hF
    have hil : i < T.sizes l := by rw [← T.alls_len]; exact (List.getElem?_eq_some_iff.1 hi).1
    apply F102_ev; unfold F102
    simp [h3, get_new, show σ.next ≠ φ.next by omega]
    rw [wrap64 (by omega)]
    refine hT _ ⟨by simp, fun j _ h5 h6 _ => by rw [get_set, if_neg (by omega), get_new, if_neg (by omega)]⟩ ⟨⟨by simp; omega, fun j hj => by rw [get_set, if_neg (by omega), get_new, if_neg (by omega)]; exact h1.get j hj⟩, by simp; omega, by simp [get_set]⟩
  · rintro τ hu ⟨h1, h2, h3⟩
    simp [h3]
    exact hk' _ h1
  · intro τ _ h; exact h.elim

end Go.Abs.At
