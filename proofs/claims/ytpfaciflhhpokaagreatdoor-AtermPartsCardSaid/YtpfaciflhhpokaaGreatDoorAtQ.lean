/-
  Plain terms: the same, all nodes.
-/
import Derived.Test.YtpfaciflhhpokaaGreatDoorAtG
set_option linter.unusedVariables false
set_option linter.unusedSimpArgs false
namespace Go.Abs.At
open Go Go.Abs Go.Proofs.AtD
attribute [local simp] Nat.add_assoc

theorem same_self : ∀ (N : Nat) (t : T), t.size ≤ N → t.size < 1000000000000 → ∀ (σ : AHeap) (k kp : AV → AHeap → Prop), k (.val (.bool true)) σ → Ev PR 32 [t.v, t.v] σ k kp := by
  intro N
  induction N with
  | zero => intro t h; have := t.size_pos; omega
  | succ N ih =>
    intro t hN hb σ k kp hk
    refine Ev.pureD hk ((Dat.val _).low _) fun k' hk' => ?_
    apply F32_ev; unfold F32
    simp
    generalize hτ : (σ.new (.cells 8 [t.av])).new (.cells 8 [t.av]) = τ
    have hg : Grows σ τ := by rw [← hτ]; exact (Grows.new _ _).trans (Grows.new _ _)
    have g0 : τ.get σ.next = some (.cells 8 [t.av]) := by rw [← hτ]; simp [get_new]
    have g1 : τ.get (σ.next + 1) = some (.cells 8 [t.av]) := by rw [← hτ]; simp [get_new]
    have hlen : ∀ ω, aLenK .slice (T.vs t.kids) ω = some (int t.kids.length) := fun ω => by simp
    have hkl := t.kids_len
    simp [g0, g1, hlen]
    refine seqW_in ?_
    simp [g0, hlen]
    refine loopW_by (fun i : Nat => [(2, .ptr σ.next 0 0), (3, .ptr (σ.next + 1) 0 0), (69, int t.kids.length), (70, int i)]) (fun i υ => υ = τ ∧ i ≤ t.kids.length) (fun fr _ => t.kids.length - (intOf (look fr 70)).toNat) 0 (by simp) ⟨rfl, by simp⟩ ?_
    rintro i υ ⟨rfl, hi⟩
    simp
    by_cases hil : i < t.kids.length
    · obtain ⟨c, hc⟩ := get_some hil
      have hcm := List.mem_of_getElem? hc
      have hcl := T.kids_lt hcm
      have hix : ∀ ω, aIndexAddr 8 (T.vs t.kids) (int i) ω = some (.ref c.av) := fun ω => by rw [aIndexAddr_sl]; simp [T.avs_get hc]
      simp [hil, g0, g1, hix]
      refine ih c (by omega) (by omega) _ _ _ ?_
      simp
      rw [wrap64 (by omega)]
      exact ⟨⟨i + 1, by simp, by omega⟩, by omega⟩
    · simp [hil]
      exact hk' _ hg

theorem all_ev : ∀ (N : Nat) (t : T), t.size ≤ N → t.size < 1000000000000 → ∀ (σ : AHeap) (k kp : AV → AHeap → Prop), k (T.vs t.all) σ → Ev PR 17 [t.v] σ k kp := by
  intro N
  induction N with
  | zero => intro t h; have := t.size_pos; omega
  | succ N ih =>
    intro t hN hb σ k kp hk
    refine Ev.pure ?_
    apply F17_ev; unfold F17
    simp
    refine seqW_in ?_
    have hlen : ∀ ω, aLenK .slice (T.vs t.kids) ω = some (int t.kids.length) := fun ω => by simp
    have hkl := t.kids_len
    have hse := t.size_eq
    simp [get_new, hlen]
    refine loopW_by (fun p : Nat × AV => [(1, .ptr σ.next 0 0), (3, p.2), (9, int t.kids.length), (10, int p.1)])
      (fun p φ => p.1 ≤ t.kids.length ∧ Grows σ φ ∧ σ.next + 1 ≤ φ.next ∧ φ.get σ.next = some (.cells 8 [t.av]) ∧ Kid σ.next 1 8 φ p.2 (T.avs (t :: T.alls (t.kids.take p.1))))
      (fun fr _ => t.kids.length - (intOf (look fr 10)).toNat) (0, .own (σ.next + 1) 1) (by simp)
      ⟨by simp, (Grows.new _ _).trans (Grows.new _ _), by simp, by simp [get_new], .inr ⟨σ.next + 1, [], by simp [T.alls], by simp [get_new, T.avs, T.alls], by omega, by simp⟩⟩ ?_
    rintro ⟨i, x⟩ φ ⟨hi, f1, f2, f3, f4⟩
    simp only at hi f4
    simp
    by_cases hil : i < t.kids.length
    · obtain ⟨c, hc⟩ := get_some hil
      have hcm := List.mem_of_getElem? hc
      have hcl := T.kids_lt hcm
      have hix : ∀ ω, aIndexAddr 8 (T.vs t.kids) (int i) ω = some (.ref c.av) := fun ω => by rw [aIndexAddr_sl]; simp [T.avs_get hc]
      have htk : t.kids.take (i + 1) = t.kids.take i ++ [c] := by rw [List.take_add_one, hc]; rfl
      have hsum : T.sizes (t.kids.take (i + 1)) = T.sizes (t.kids.take i) + c.size := by rw [htk, T.sizes_append]; simp [T.sizes]
      have hle := T.sizes_take t.kids (i + 1)
      have hal := T.alls_len (t.kids.take i)
      have hcall := T.all_len c
      simp [hil, f3, hix]
      refine ih c (by omega) (by omega) _ _ _ ?_
      refine stepK_of (aAppend_rows (by' := 96) f4.rows f4.ns (.inr (.inl ⟨false, rfl⟩)) (by simp [hal, hcall]; omega)) ?_
      obtain ⟨p1, p2, p3⟩ := f4.app (by omega) (T.avs c.all)
      generalize (gone x φ).new (.cells 8 (T.avs (t :: T.alls (t.kids.take i)) ++ T.avs c.all)) = φ2 at p1 p2 p3
      simp
      rw [wrap64 (by omega)]
      refine ⟨⟨i + 1, _, ⟨rfl, by simp⟩, by omega, ⟨by have := f1.next; omega, fun j hj => by rw [p2 j (by omega)]; exact f1.get j hj⟩, by omega, by rw [p2 _ (by omega)]; exact f3, ?_⟩, by omega⟩
      have e : T.avs (t :: T.alls (t.kids.take (i + 1))) = T.avs (t :: T.alls (t.kids.take i)) ++ T.avs c.all := by
        rw [htk, T.alls_append]
        simp [T.avs_map, T.alls]
      rw [e]
      simpa using p1
    · have hall : t.kids.take i = t.kids := List.take_of_length_le (by omega)
      rw [hall] at f4
      simp [hil]
      have e : t.all = t :: T.alls t.kids := by cases t; rfl
      exact ⟨f1, _, f4.frz (T.dats _), by rw [← e]; exact hk⟩


theorem equal_self {t : T} (hb : t.size < 1000000000000) {σ : AHeap} {k kp : AV → AHeap → Prop} (hk : k (.val (.bool true)) σ) : Ev PR 14 [t.v, t.v] σ k kp := by
  refine Ev.pureD hk ((Dat.val _).low _) fun k' hk' => ?_
  apply F14_ev; unfold F14
  simp
  generalize hτ : (σ.new (.cells 8 [t.av])).new (.cells 8 [t.av]) = τ
  have hg : Grows σ τ := by rw [← hτ]; exact (Grows.new _ _).trans (Grows.new _ _)
  have g0 : τ.get σ.next = some (.cells 8 [t.av]) := by rw [← hτ]; simp [get_new]
  have g1 : τ.get (σ.next + 1) = some (.cells 8 [t.av]) := by rw [← hτ]; simp [get_new]
  simp [g0, g1]
  refine same_self _ t (Nat.le_refl _) hb _ _ _ ?_
  simp [g0, g1]
  refine all_ev _ t (Nat.le_refl _) hb _ _ _ ?_
  simp [g1]
  refine all_ev _ t (Nat.le_refl _) hb _ _ _ ?_
  refine seqW_in ?_
  have hlen : ∀ ω, aLenK .slice (T.vs t.all) ω = some (int t.all.length) := fun ω => by simp
  have hal := t.all_len
  simp [hlen]
  refine loopW_by (fun i : Nat => [(5, T.vs t.all), (6, T.vs t.all), (17, int t.all.length), (18, int i)]) (fun i υ => υ = τ ∧ i ≤ t.all.length) (fun fr _ => t.all.length - (intOf (look fr 18)).toNat) 0 (by simp) ⟨rfl, by simp⟩ ?_
  rintro i υ ⟨rfl, hi⟩
  simp
  by_cases hil : i < t.all.length
  · obtain ⟨c, hc⟩ := get_some hil
    have hix : ∀ ω, aIndexAddr 8 (T.vs t.all) (int i) ω = some (.ref c.av) := fun ω => by rw [aIndexAddr_sl]; simp [T.avs_get hc]
    simp [hil, hix]
    rw [wrap64 (by omega)]
    exact ⟨⟨i + 1, by simp, by omega⟩, by omega⟩
  · simp [hil]
    exact hk' _ hg

end Go.Abs.At
