/-
  Through all nodes: what 'each' comes to; how many nodes there are.
-/
import Derived.Test.YtpfaciflhhpokaaGreatDoorAtQ
import Derived.Test.YtpfaciflhhpokaaGreatDoorAbsP
set_option linter.unusedVariables false
set_option linter.unusedSimpArgs false
namespace Go.Abs.At
open Go Go.Abs Go.Proofs.AtD
attribute [local simp] Nat.add_assoc

mutual
/-- All nodes, each ahead of its kids. -/
def AT.all : AT → List AT
  | .mk h r rs e t s ks => .mk h r rs e t s ks :: AT.alls ks
def AT.alls : List AT → List AT
  | [] => []
  | t :: ts => AT.all t ++ AT.alls ts
end
mutual
theorem AT.all_len : ∀ t : AT, t.all.length = t.size
  | .mk h r rs e t s ks => by simp [AT.all, AT.size, AT.alls_len ks, Nat.add_comm 1]
theorem AT.alls_len : ∀ l : List AT, (AT.alls l).length = AT.sizes l
  | [] => rfl
  | t :: ts => by simp [AT.alls, AT.sizes, AT.all_len t, AT.alls_len ts]
end
theorem AT.alls_append (l m : List AT) : AT.alls (l ++ m) = AT.alls l ++ AT.alls m := by
  induction l with
  | nil => rfl
  | cons t l ih => simp [AT.alls, ih]
theorem AT.sizes_append (l m : List AT) : AT.sizes (l ++ m) = AT.sizes l + AT.sizes m := by
  induction l with
  | nil => simp [AT.sizes]
  | cons t l ih => simp [AT.sizes, ih]
theorem AT.all_eq (t : AT) : t.all = t :: AT.alls t.kids := by cases t; rfl
theorem AT.size_eq (t : AT) : t.size = 1 + AT.sizes t.kids := by cases t; rfl
theorem AT.len_sizes (l : List AT) : l.length ≤ AT.sizes l := by
  induction l with
  | nil => simp
  | cons a l ih => have := a.size_pos; simp [AT.sizes]; omega
theorem AT.sizes_take_le (l : List AT) (i : Nat) : AT.sizes (l.take i) ≤ AT.sizes l := by
  conv => rhs; rw [← List.take_append_drop i l, AT.sizes_append]
  omega
theorem AT.alls_at {l : List AT} {j m : Nat} {t x : AT} (h : l[j]? = some t) (hm : t.all[m]? = some x) : (AT.alls l)[AT.sizes (l.take j) + m]? = some x := by
  have hj : j < l.length := (List.getElem?_eq_some_iff.1 h).1
  have e : l = l.take j ++ t :: l.drop (j + 1) := by
    have h2 : l[j] = t := by rw [List.getElem?_eq_getElem hj] at h; exact Option.some.inj h
    rw [← h2, ← List.drop_eq_getElem_cons hj, List.take_append_drop]
  have hm' : m < t.all.length := (List.getElem?_eq_some_iff.1 hm).1
  conv => lhs; rw [e, AT.alls_append]
  rw [List.getElem?_append_right (by rw [AT.alls_len, ← e]; omega)]
  simp only [AT.alls]
  rw [List.getElem?_append_left (by rw [AT.alls_len, ← e]; omega), AT.alls_len, ← e, Nat.add_sub_cancel_left]
  exact hm

/-- What may change: the objects below 'b', those of other sizes, and new ones. -/
structure Up (sz b : Nat) (σ τ : AHeap) : Prop where
  next : σ.next ≤ τ.next
  get : ∀ i els, b ≤ i → i < σ.next → σ.get i = some (.cells sz els) → τ.get i = σ.get i
theorem Up.refl (sz b σ) : Up sz b σ σ := ⟨Nat.le_refl _, fun _ _ _ _ _ => rfl⟩
theorem Up.trans {sz b σ τ υ} (h : Up sz b σ τ) (k : Up sz b τ υ) : Up sz b σ υ := ⟨Nat.le_trans h.next k.next, fun i els h1 h2 h3 => (k.get i els h1 (Nat.lt_of_lt_of_le h2 h.next) (by rw [h.get i els h1 h2 h3]; exact h3)).trans (h.get i els h1 h2 h3)⟩
theorem Up.of {sz b σ τ} (h : Grows σ τ) : Up sz b σ τ := ⟨h.next, fun i _ _ hi _ => h.get i hi⟩

theorem each_ev (g : FuncId) (cap : List AV) (b : Nat) (S : AHeap → Prop) : ∀ (N : Nat) (l : List AT), AT.sizes l ≤ N → AT.sizes l < 1000000000000 → ∀ (I : Nat → AHeap → Prop), (∀ i σ τ, I i σ → Grows σ τ → I i τ) →
    (∀ (i : Nat) t, (AT.alls l)[i]? = some t → ∀ (σ : AHeap) (k kp : AV → AHeap → Prop), b ≤ σ.next → I i σ → (∀ τ, Up 19 b σ τ → I (i + 1) τ → k (.val (.bool true)) τ) → (∀ τ, Up 19 b σ τ → S τ → k (.val (.bool false)) τ) → Ev PR g (t.v :: cap) σ k kp) →
    ∀ (σ : AHeap) (k kp : AV → AHeap → Prop), b ≤ σ.next → I 0 σ → (∀ τ, Up 19 b σ τ → I (AT.sizes l) τ → k (.val (.bool true)) τ) → (∀ τ, Up 19 b σ τ → S τ → k (.val (.bool false)) τ) → Ev PR 29 [.fn (.func g) cap, AT.vs l] σ k kp := by
  intro N
  induction N with
  | zero =>
    intro l hl hb I hI hc σ k kp hbs h0 hT hF
    cases l with
    | nil =>
      apply F29_ev; unfold F29
      simp [AT.avs]
      refine seqW_in ?_
      refine loopW_by (fun _ : Unit => [(0, .fn (.func g) cap), (7, AT.vs []), (8, int 0), (9, int 0)]) (fun _ φ => φ = σ) (fun _ _ => 0) () (by simp [AT.avs]) rfl ?_
      rintro ⟨⟩ φ rfl
      simp
      exact hT _ (Up.refl _ _ _) h0
    | cons t l => have := t.size_pos; simp [AT.sizes] at hl; omega
  | succ N ih =>
    intro l hl hb I hI hc σ k kp hbs h0 hT hF
    apply F29_ev; unfold F29
    simp
    refine seqW_in ?_
    have hll := AT.len_sizes l
    refine loopW_by (fun j : Nat => [(0, .fn (.func g) cap), (7, AT.vs l), (8, int l.length), (9, int j)]) (fun j φ => j ≤ l.length ∧ Up 19 b σ φ ∧ b ≤ φ.next ∧ I (AT.sizes (l.take j)) φ) (fun fr _ => l.length - (intOf (look fr 9)).toNat) 0 (by simp) ⟨by simp, Up.refl _ _ _, hbs, by simpa [AT.sizes] using h0⟩ ?_
    rintro j φ ⟨hj, hu, hbf, hIj⟩
    simp
    by_cases hjl : j < l.length
    · obtain ⟨t, ht⟩ := get_some hjl
      have htm := List.mem_of_getElem? ht
      have hix : ∀ ω, aIndexAddr 19 (AT.vs l) (int j) ω = some (.ref t.av) := fun ω => by rw [aIndexAddr_sl]; simp [AT.avs_get ht]
      have hst := AT.sizes_take ht
      have hle := AT.sizes_take_le l (j + 1)
      have hse := t.size_eq
      simp [hjl, hix]
      generalize hφ1 : AHeap.set (φ.new _) _ _ = φ1
      have hgr : Grows φ φ1 := by rw [← hφ1]; exact (Grows.new _ _).set (Nat.le_refl _) _
      have hn1 : φ1.next = φ.next + 1 := by rw [← hφ1]; simp
      have hg1 : φ1.get φ.next = some (.cells 19 [t.av]) := by rw [← hφ1]; simp [get_set]
      have hin : ∀ (m : Nat) x, t.all[m]? = some x → (AT.alls l)[AT.sizes (l.take j) + m]? = some x := fun m x hm => AT.alls_at ht hm
      have h00 : (AT.alls l)[AT.sizes (l.take j)]? = some t := by have := hin 0 t (by rw [AT.all_eq]; rfl); simpa using this
      refine hc _ t h00 φ1 _ _ (by omega) (hI _ _ _ hIj hgr) (fun τ hu2 hI2 => ?_) (fun τ hu2 hS => ?_)
      · have hg2 : τ.get φ.next = some (.cells 19 [t.av]) := by rw [hu2.get _ _ hbf (by omega) hg1]; exact hg1
        have hn2 := hu2.next
        simp [hg2]
        refine ih t.kids (by omega) (by omega) (fun i => I (AT.sizes (l.take j) + 1 + i)) (fun i => hI _) (fun i x hx => ?_) τ _ _ (by omega) (by simpa using hI2) (fun υ hu3 hI3 => ?_) (fun υ hu3 hS => ?_)
        · have := hin (i + 1) x (by rw [AT.all_eq]; simpa using hx)
          intro σ' k' kp' q1 q2 q3 q4
          exact hc _ x this σ' k' kp' q1 (by simpa [Nat.add_comm, Nat.add_left_comm] using q2) (fun τ' w1 w2 => q3 τ' w1 (by simpa [Nat.add_comm, Nat.add_left_comm] using w2)) q4
        · simp
          rw [wrap64 (by omega)]
          have huu := ((hu.trans (Up.of hgr)).trans hu2).trans hu3
          exact ⟨⟨j + 1, by simp, by omega, huu, by have := hu3.next; omega, by rw [hst, hse]; simpa [Nat.add_assoc] using hI3⟩, by omega⟩
        · simp
          exact hF _ (((hu.trans (Up.of hgr)).trans hu2).trans hu3) hS
      · simp
        exact hF _ ((hu.trans (Up.of hgr)).trans hu2) hS
    · have hall : l.take j = l := List.take_of_length_le (by omega)
      rw [hall] at hIj
      simp [hjl]
      exact hT _ hu hIj

/-- How many nodes terms have. -/
theorem sizes_ev {l : List AT} (hb : AT.sizes l < 1000000000000) {σ : AHeap} {k kp : AV → AHeap → Prop} (hk : k (int (AT.sizes l)) σ) : Ev PR 21 [AT.vs l] σ k kp := by
  refine Ev.pureD hk ((Dat.val _).low _) fun k' hk' => ?_
  apply F21_ev; unfold F21
  simp
  generalize hσ1 : AHeap.set (σ.new _) _ _ = σ1
  have hg : Grows σ σ1 := by rw [← hσ1]; exact (Grows.new _ _).set (Nat.le_refl _) _
  have hn1 : σ1.next = σ.next + 1 := by rw [← hσ1]; simp
  have hg1 : σ1.get σ.next = some (.cells 1 [[int 0]]) := by rw [← hσ1]; simp [get_set]
  refine each_ev 36 [.ptr σ.next 0 0] (σ.next + 1) (fun _ => False) _ l (Nat.le_refl _) hb (fun i φ => Grows σ φ ∧ σ.next < φ.next ∧ φ.get σ.next = some (.cells 1 [[int i]])) ?_ ?_ σ1 _ _ (by omega) ⟨hg, by omega, hg1⟩ ?_ ?_
  · rintro i φ ψ ⟨h1, h2, h3⟩ h4
    exact ⟨h1.trans h4, Nat.lt_of_lt_of_le h2 h4.next, by rw [h4.get _ h2]; exact h3⟩
  · rintro i t hi φ q qp hbφ ⟨h1, h2, h3⟩ hT hF
    have hil : i < AT.sizes l := by rw [← AT.alls_len]; exact (List.getElem?_eq_some_iff.1 hi).1
    apply F36_ev; unfold F36
    simp [h3, get_new, show σ.next ≠ φ.next by omega]
    rw [wrap64 (by omega)]
    refine hT _ ⟨by simp, fun j _ h5 h6 _ => by rw [get_set, if_neg (by omega), get_new, if_neg (by omega)]⟩ ⟨⟨by simp; omega, fun j hj => by rw [get_set, if_neg (by omega), get_new, if_neg (by omega)]; exact h1.get j hj⟩, by simp; omega, by simp [get_set]⟩
  · rintro τ hu ⟨h1, h2, h3⟩
    simp [h3]
    exact hk' _ h1
  · intro τ _ h; exact h.elim
end Go.Abs.At
