/-
  AtermBinds: the law.
-/
import Derived.Test.YtpfaciflhhpokaaGreatDoorAtC
set_option linter.unusedVariables false
set_option linter.unusedSimpArgs false
namespace Go.Abs.At
open Go Go.Abs Go.Proofs.AtD
attribute [local simp] Nat.add_assoc

mutual
theorem AT.small_all : ∀ t : AT, t.small → ∀ x ∈ t.all, x.rhos.length ≤ 50
  | .mk h r rs e ty s ks, hs, x, hx => by
    simp only [AT.small] at hs
    simp only [AT.all, List.mem_cons] at hx
    rcases hx with rfl | hx
    · exact hs.2.1
    · exact AT.smalls_all ks hs.2.2.2.2.2 x hx
theorem AT.smalls_all : ∀ l : List AT, AT.smalls l → ∀ x ∈ AT.alls l, x.rhos.length ≤ 50
  | [], _, x, hx => by simp [AT.alls] at hx
  | t :: ts, hs, x, hx => by
    simp only [AT.smalls] at hs
    simp only [AT.alls, List.mem_append] at hx
    rcases hx with hx | hx
    · exact AT.small_all t hs.1 x hx
    · exact AT.smalls_all ts hs.2 x hx
end
theorem own_len {t : AT} (h : t.rhos.length ≤ 50) : (own t).length ≤ 50 := by
  unfold own
  split
  · simp
  · split
    · exact h
    · simp
theorem ownAll_len {l : List AT} (h : ∀ x ∈ l, (own x).length ≤ 50) : (ownAll l).length ≤ 50 * l.length := by
  induction l with
  | nil => simp [ownAll]
  | cons t l ih =>
    have := ih fun x hx => h x (by simp [hx])
    have := h t (by simp)
    simp [ownAll] at *
    omega

theorem Tys.aterms {P : Program} {tU tI tH tAtom tRT tAT sI sAtom sRT sAT : TypeId} (T : Tys P tU tI tH tAtom tRT tAT sI sAtom sRT sAT) {x : AV} (h : DV P sAT [x]) : ∃ l : List AT, x = AT.vs l ∧ l.length ≤ maxLen ∧ ∀ t ∈ l, t.fit := by
  obtain ⟨xs, e, hl, hx⟩ := h.slice_inv T.uSAT
  cases e
  have : ∃ l : List AT, xs = AT.avs l ∧ ∀ t ∈ l, t.fit := by
    clear hl h
    induction xs with
    | nil => exact ⟨[], rfl, by simp⟩
    | cons el xs ih =>
      obtain ⟨l, h1, h2⟩ := ih (fun el' h' => hx el' (by simp [h']))
      obtain ⟨t, h3, h4⟩ := T.aterm _ el (Nat.le_refl _) (hx el (by simp)).1
      exact ⟨t :: l, by simp [AT.avs, h1, h3], fun y hy => by rcases List.mem_cons.1 hy with rfl | hy; exact h4; exact h2 y hy⟩
  obtain ⟨l, rfl, hf⟩ := this
  exact ⟨l, by rw [T.cAT], by simpa using hl, hf⟩
theorem law_binds {l : List AT} (hlen : l.length ≤ maxLen) (hfit : ∀ t ∈ l, t.fit) {σ : AHeap} {k kp : AV → AHeap → Prop} (hk : k (bool true) σ) : Ev PR 7 [AT.vs l] σ k kp := by
  refine Ev.pureD hk ((Dat.val _).low _) fun k' hk' => ?_
  apply F7_ev; unfold F7
  by_cases h10 : 10 < l.length
  · have : (10 : Int) < l.length := by omega
    simp [this]
    refine awake_ev ?_
    exact hk' _ (Grows.refl _)
  · have h10' : ¬ (10 : Int) < l.length := by omega
    simp [h10']
    refine seqW_in ?_
    refine loopW_by (fun p : Nat × AV => [(0, AT.vs l), (3, p.2), (4, int (AT.sizes (l.take p.1))), (5, int p.1)])
      (fun p φ => p.1 ≤ l.length ∧ Grows σ φ ∧ σ.next ≤ φ.next ∧ Kid σ.next 0 1 φ p.2 ((ownAll (AT.alls (l.take p.1))).map fun r => [int r]) ∧ ∀ t ∈ l.take p.1, t.size ≤ 400 ∧ t.small)
      (fun fr _ => l.length - (intOf (look fr 5)).toNat) (0, .own σ.next 0) (by simp [AT.sizes])
      ⟨by simp, Grows.new _ _, by simp, .inr ⟨σ.next, [], by simp [ownAll, AT.alls], by simp [get_new, ownAll, AT.alls], by omega, by simp⟩, by simp⟩ ?_
    have hS : ∀ (m : List AT), (∀ t ∈ m, t.size ≤ 400 ∧ t.small) → AT.sizes m ≤ 400 * m.length ∧ (ownAll (AT.alls m)).length ≤ 20000 * m.length := by
      intro m hm
      have a : AT.sizes m ≤ 400 * m.length := by
        induction m with
        | nil => simp [AT.sizes]
        | cons t m ih =>
          have := ih fun x hx => hm x (by simp [hx])
          have := (hm t (by simp)).1
          simp [AT.sizes]; omega
      refine ⟨a, ?_⟩
      have := ownAll_len (l := AT.alls m) fun x hx => own_len (AT.smalls_all m (AT.smalls_of fun t ht => (hm t ht).2) x hx)
      rw [AT.alls_len] at this
      omega
    rintro ⟨i, x⟩ φ ⟨hi, f1, f2, f3, f4⟩
    simp only at hi f3 f4
    simp
    by_cases hil : i < l.length
    · obtain ⟨c, hc⟩ := get_some hil
      have hix : ∀ ω, aIndexAddr 19 (AT.vs l) (int i) ω = some (.ref c.av) := fun ω => by rw [aIndexAddr_sl]; simp [AT.avs_get hc]
      simp [hil, hix]
      refine great_ev (hfit c (List.mem_of_getElem? hc)) fun b hb => ?_
      cases b with
      | true =>
        simp
        refine awake_ev ?_
        exact hk' _ f1
      | false =>
        obtain ⟨hsz, hsm⟩ := hb rfl
        have hcs : ∀ y ∈ c.all, (own y).length ≤ 50 := fun y hy => own_len (AT.small_all c hsm y hy)
        have hco := ownAll_len hcs
        rw [AT.all_len] at hco
        have hpre := hS _ f4
        have hpl : (l.take i).length ≤ 10 := by simp; omega
        have htk : l.take (i + 1) = l.take i ++ [c] := by rw [List.take_add_one, hc]; rfl
        have hst := AT.sizes_take hc
        have hcl := AT.all_len c
        simp [hix]
        refine binds_ref (by omega) (by omega) ?_
        refine stepK_of (aAppend_rows (by' := 8) f3.rows f3.ns (.inr (.inl ⟨false, rfl⟩)) (by simp; omega)) ?_
        obtain ⟨p1, p2, p3⟩ := f3.app (by omega) ((ownAll c.all).map fun r => [int r])
        have hgr : Grows σ ((gone x φ).new (.cells 1 (((ownAll (AT.alls (l.take i))).map fun r => [int r]) ++ (ownAll c.all).map fun r => [int r]))) := ⟨by simp; omega, fun j hj => by rw [p2 j (by omega)]; exact f1.get j hj⟩
        generalize (gone x φ).new (.cells 1 (((ownAll (AT.alls (l.take i))).map fun r => [int r]) ++ (ownAll c.all).map fun r => [int r])) = φ2 at p1 p2 p3 hgr
        simp [hix]
        refine all_ref _ c (Nat.le_refl _) (by omega) _ _ _ ?_
        simp [hix]
        rw [wrap64 (by omega)]
        refine apart_ev (by omega) (fun y hy => by have := hcs y hy; omega) ?_
        simp [hix]
        refine apart_ref (by omega) (by omega) ?_
        simp
        rw [wrap64 (by omega)]
        refine ⟨⟨i + 1, _, ⟨rfl, by omega, by simp⟩, by omega, hgr, by omega, ?_, ?_⟩, by omega⟩
        · rw [htk, AT.alls_append, ownAll_append, List.map_append]
          simpa [AT.alls] using p1
        · rw [htk]
          intro t ht
          rcases List.mem_append.1 ht with h | h
          · exact f4 t h
          · simp at h; subst h; exact ⟨hsz, hsm⟩
    · have hall : l.take i = l := List.take_of_length_le (by omega)
      rw [hall] at f3 f4
      have hpre := hS _ f4
      simp [hil, hall]
      refine binds_ev (by omega) (by omega) ?_
      refine equalInts_ev (by omega) (by omega) (.inr (.inl ⟨false, rfl⟩)) f3.rows ?_
      simp
      refine sizes_ev (by omega) ?_
      simp
      refine awake_ev ?_
      exact hk' _ f1
end Go.Abs.At
