/-
  The regions that terms bind.
-/
import Derived.Test.YtpfaciflhhpokaaGreatDoorAtermDecB
import Derived.Test.YtpfaciflhhpokaaGreatDoorAtL
set_option linter.unusedVariables false
set_option linter.unusedSimpArgs false
namespace Go.Abs.At
open Go Go.Abs Go.Proofs.AtD
attribute [local simp] Nat.add_assoc

/-- The regions that a node binds. -/
def own (t : AT) : List Int := if t.h.kind = 17 then [t.rho] else if t.h.kind = 13 then t.rhos else []
theorem rhosV_frz {τ : AHeap} {n q : Nat} {l : List Int} {rest : List (List AV)} (hn : n ≤ q) (hg : τ.get q = some (.cells 1 ((l.map fun r => [int r]) ++ rest))) : Frz τ n (.own q l.length) (rhosV l) := by
  refine FrzR.own (FrzR.refl fun el hel x hx => ?_) hn (by simp) hg
  obtain ⟨r, _, rfl⟩ := List.mem_map.1 hel
  simp at hx; subst hx; exact (Dat.val _).low _
theorem Kid.rhos {n m υ x} {l : List Int} (h : Kid n m 1 υ x (l.map fun r => [int r])) : Frz υ n x (rhosV l) := by
  refine Kid.frz h fun el hel y hy => ?_
  obtain ⟨r, _, rfl⟩ := List.mem_map.1 hel
  simp at hy; subst hy; exact Dat.val _

/-- Rows of another size stay, where one goes. -/
theorem Kid.other {n m sz sz' υ x rows} (h : Kid n m sz υ x rows) (hne : sz ≠ sz') {j : Nat} {els : List (List AV)} (hj : υ.get j = some (.cells sz' els)) : (gone x υ).get j = υ.get j := by
  rcases h with ⟨rfl, _⟩ | ⟨q, rest, rfl, h1, _⟩
  · rfl
  · show (υ.del q).get j = _
    rw [get_del, if_neg]
    rintro rfl
    rw [h1] at hj
    cases hj
    exact hne rfl
theorem own_ref {t : AT} {σ : AHeap} {k kp : AV → AHeap → Prop} (hk : k (rhosV (own t)) σ) : Ev PR 19 [t.v] σ k kp := by
  refine Ev.pure ?_
  apply F19_ev; unfold F19
  by_cases h17 : t.h.kind = 17
  · have e : own t = [t.rho] := by simp [own, h17]
    rw [e] at hk
    simp [h17, get_new]
    exact ⟨(Grows.new _ _).trans (Grows.new _ _), _, rhosV_frz (l := [t.rho]) (rest := []) (by omega) (by simp [get_new]), hk⟩
  · by_cases h13 : t.h.kind = 13
    · have e : own t = t.rhos := by simp [own, h13]
      rw [e] at hk
      simp [h13]
      exact ⟨Grows.new _ _, _, .low ((rhosV_dat _).low _), hk⟩
    · have e : own t = [] := by simp [own, h13, h17]
      rw [e] at hk
      simp [h13, h17]
      exact ⟨(Grows.new _ _).trans (Grows.new _ _), _, rhosV_frz (l := []) (rest := []) (by omega) (by simp [get_new]), hk⟩
theorem own_ev {t : AT} {σ : AHeap} {k kp : AV → AHeap → Prop} (hk : k (rhosV (own t)) σ) : Ev PR 35 [t.v] σ k kp := by
  refine Ev.pure ?_
  apply F35_ev; unfold F35
  by_cases h17 : t.h.kind = 17
  · have e : own t = [t.rho] := by simp [own, h17]
    rw [e] at hk
    simp [h17, get_new]
    exact ⟨(Grows.new _ _).trans (Grows.new _ _), _, rhosV_frz (l := [t.rho]) (rest := []) (by omega) (by simp [get_new]), hk⟩
  · by_cases h13 : t.h.kind = 13
    · have e : own t = t.rhos := by simp [own, h13]
      rw [e] at hk
      simp [h13]
      exact ⟨Grows.new _ _, _, .low ((rhosV_dat _).low _), hk⟩
    · have e : own t = [] := by simp [own, h13, h17]
      rw [e] at hk
      simp [h13, h17]
      exact ⟨Grows.new _ _, _, .nil, hk⟩

theorem all_ref : ∀ (N : Nat) (t : AT), t.size ≤ N → t.size < 100000000000 → ∀ (σ : AHeap) (k kp : AV → AHeap → Prop), k (AT.vs t.all) σ → Ev PR 16 [t.v] σ k kp := by
  intro N
  induction N with
  | zero => intro t h; have := t.size_pos; omega
  | succ N ih =>
    intro t hN hb σ k kp hk
    refine Ev.pure ?_
    apply F16_ev; unfold F16
    simp
    refine seqW_in ?_
    have hlen : ∀ ω, aLenK .slice (AT.vs t.kids) ω = some (int t.kids.length) := fun ω => by simp
    have hkl := t.kids_len
    have hse := t.size_eq
    simp [get_new, hlen]
    refine loopW_by (fun p : Nat × AV => [(1, .ptr σ.next 0 0), (3, p.2), (9, int t.kids.length), (10, int p.1)])
      (fun p φ => p.1 ≤ t.kids.length ∧ Grows σ φ ∧ σ.next + 1 ≤ φ.next ∧ φ.get σ.next = some (.cells 19 [t.av]) ∧ Kid σ.next 1 19 φ p.2 (AT.avs (t :: AT.alls (t.kids.take p.1))))
      (fun fr _ => t.kids.length - (intOf (look fr 10)).toNat) (0, .own (σ.next + 1) 1) (by simp)
      ⟨by simp, (Grows.new _ _).trans (Grows.new _ _), by simp, by simp [get_new], .inr ⟨σ.next + 1, [], by simp [AT.alls], by simp [get_new, AT.avs, AT.alls], by omega, by simp⟩⟩ ?_
    rintro ⟨i, x⟩ φ ⟨hi, f1, f2, f3, f4⟩
    simp only at hi f4
    simp
    by_cases hil : i < t.kids.length
    · obtain ⟨c, hc⟩ := get_some hil
      have hcm := List.mem_of_getElem? hc
      have hcl := AT.kids_lt hcm
      have hix : ∀ ω, aIndexAddr 19 (AT.vs t.kids) (int i) ω = some (.ref c.av) := fun ω => by rw [aIndexAddr_sl]; simp [AT.avs_get hc]
      have htk : t.kids.take (i + 1) = t.kids.take i ++ [c] := by rw [List.take_add_one, hc]; rfl
      have hsum : AT.sizes (t.kids.take (i + 1)) = AT.sizes (t.kids.take i) + c.size := by rw [htk, AT.sizes_append]; simp [AT.sizes]
      have hle := AT.sizes_take_le t.kids (i + 1)
      have hal := AT.alls_len (t.kids.take i)
      have hcall := AT.all_len c
      simp [hil, f3, hix]
      refine ih c (by omega) (by omega) _ _ _ ?_
      refine stepK_of (aAppend_rows (by' := 280) f4.rows f4.ns (.inr (.inl ⟨false, rfl⟩)) (by simp [hal, hcall]; omega)) ?_
      obtain ⟨p1, p2, p3⟩ := f4.app (by omega) (AT.avs c.all)
      generalize (gone x φ).new (.cells 19 (AT.avs (t :: AT.alls (t.kids.take i)) ++ AT.avs c.all)) = φ2 at p1 p2 p3
      simp
      rw [wrap64 (by omega)]
      refine ⟨⟨i + 1, _, ⟨rfl, by simp⟩, by omega, ⟨by have := f1.next; omega, fun j hj => by rw [p2 j (by omega)]; exact f1.get j hj⟩, by omega, by rw [p2 _ (by omega)]; exact f3, ?_⟩, by omega⟩
      have e : AT.avs (t :: AT.alls (t.kids.take (i + 1))) = AT.avs (t :: AT.alls (t.kids.take i)) ++ AT.avs c.all := by
        rw [htk, AT.alls_append]
        simp [AT.avs_map, AT.alls]
      rw [e]
      simpa using p1
    · have hall : t.kids.take i = t.kids := List.take_of_length_le (by omega)
      rw [hall] at f4
      simp [hil]
      exact ⟨f1, _, f4.frz (AT.dats _), by rw [← AT.all_eq]; exact hk⟩

/-! ### Rows of numbers -/
theorem ints_ev {l : List Int} {n : Int} (hb : l.length < 1000000000000) {x : AV} {σ : AHeap} (hx : Rows σ 1 x (l.map fun r => [int r])) {k kp : AV → AHeap → Prop} (hk : k (bool (decide (n ∈ l))) σ) : Ev PR 38 [x, int n] σ k kp := by
  apply F38_ev; unfold F38
  have hlen := hx.len
  simp only [List.length_map] at hlen
  simp [hlen]
  refine seqW_in ?_
  refine loopW_by (fun j : Nat => [(0, x), (1, int n), (7, int l.length), (8, int j)]) (fun j φ => φ = σ ∧ j ≤ l.length ∧ n ∉ l.take j) (fun fr _ => l.length - (intOf (look fr 8)).toNat) 0 (by simp) ⟨rfl, by simp, by simp⟩ ?_
  rintro j φ ⟨rfl, hj, hne⟩
  simp
  by_cases hjl : j < l.length
  · obtain ⟨t, ht⟩ := get_some hjl
    obtain ⟨p, hp, hat⟩ := hx.at (i := j) (el := [int t]) (by simp [ht]) rfl .i64
    simp [hjl, hp]
    refine stepP (x := int t) ?_ ?_
    · rw [hat.load]; rfl
    by_cases hc : t = n
    · subst hc
      simp
      have e : decide (t ∈ l) = true := decide_eq_true (List.mem_of_getElem? ht)
      rw [e] at hk
      exact hk
    · simp [hc]
      rw [wrap64 (by omega)]
      refine ⟨⟨j + 1, by simp, by omega, fun h => ?_⟩, by omega⟩
      rw [List.take_add_one, ht] at h
      rcases List.mem_append.1 h with h | h
      · exact hne h
      · simp at h; exact hc h.symm
  · have hall : l.take j = l := List.take_of_length_le (by omega)
    rw [hall] at hne
    simp [hjl]
    have e : decide (n ∈ l) = false := decide_eq_false hne
    rw [e] at hk
    exact hk
theorem equalInts_ev {l m : List Int} (hb : l.length < 1000000000000) (hb2 : m.length < 1000000000000) {x y : AV} {σ : AHeap} (hx : Rows σ 1 x (l.map fun r => [int r])) (hy : Rows σ 1 y (m.map fun r => [int r])) {k kp : AV → AHeap → Prop} (hk : k (bool (decide (l = m))) σ) : Ev PR 22 [x, y] σ k kp := by
  apply F22_ev; unfold F22
  have hlen := hx.len
  have hlen2 := hy.len
  simp only [List.length_map] at hlen hlen2
  simp [hlen, hlen2]
  by_cases hne : l.length = m.length
  · simp [hne]
    refine seqW_in ?_
    refine loopW_by (fun j : Nat => [(0, x), (1, y), (12, int m.length), (13, int j)]) (fun j φ => φ = σ ∧ j ≤ m.length ∧ l.take j = m.take j) (fun fr _ => m.length - (intOf (look fr 13)).toNat) 0 (by simp) ⟨rfl, by simp, by simp⟩ ?_
    rintro j φ ⟨rfl, hj, heq⟩
    simp
    by_cases hjl : j < m.length
    · obtain ⟨a, ha⟩ := get_some (l := l) (i := j) (by omega)
      obtain ⟨b, hb⟩ := get_some hjl
      obtain ⟨p, hp, hat⟩ := hx.at (i := j) (el := [int a]) (by simp [ha]) rfl .i64
      obtain ⟨q, hq, hqt⟩ := hy.at (i := j) (el := [int b]) (by simp [hb]) rfl .i64
      simp [hjl, hp]
      refine stepP (x := int a) (by rw [hat.load]; rfl) ?_
      simp [hq]
      refine stepP (x := int b) (by rw [hqt.load]; rfl) ?_
      by_cases hc : a = b
      · subst hc
        simp
        rw [wrap64 (by omega)]
        refine ⟨⟨j + 1, by simp, by omega, ?_⟩, by omega⟩
        rw [List.take_add_one, List.take_add_one, heq, ha, hb]
      · simp [hc]
        have e : decide (l = m) = false := decide_eq_false fun h => by rw [h, hb] at ha; exact hc (Option.some.inj ha).symm
        rw [e] at hk
        exact hk
    · rw [List.take_of_length_le (by omega), List.take_of_length_le (by omega)] at heq
      simp [hjl]
      have e : decide (l = m) = true := decide_eq_true heq
      rw [e] at hk
      exact hk
  · have hne' : ¬ ((l.length : Int) = m.length) := by omega
    simp only [hne', decide_false, Bool.not_false, condK_true]
    have e : decide (l = m) = false := decide_eq_false fun h => hne (by rw [h])
    rw [e] at hk
    exact hk

def ownAll (l : List AT) : List Int := l.flatMap own
theorem ownAll_take {l : List AT} {i : Nat} {t : AT} (h : l[i]? = some t) : ownAll (l.take (i + 1)) = ownAll (l.take i) ++ own t := by
  rw [List.take_add_one, h]; simp [ownAll]
theorem ownAll_append (l m : List AT) : ownAll (l ++ m) = ownAll l ++ ownAll m := by simp [ownAll]
theorem ownAll_take_le (l : List AT) (i : Nat) : (ownAll (l.take i)).length ≤ (ownAll l).length := by
  conv => rhs; rw [← List.take_append_drop i l, ownAll_append, List.length_append]
  omega
theorem binds_ref {t : AT} (hb : t.size < 100000000000) (hb2 : (ownAll t.all).length < 1000000000000) {σ : AHeap} {k kp : AV → AHeap → Prop} (hk : k (rhosV (ownAll t.all)) σ) : Ev PR 23 [t.v] σ k kp := by
  refine Ev.pure ?_
  apply F23_ev; unfold F23
  simp [get_new]
  refine all_ref _ t (Nat.le_refl _) hb _ _ _ ?_
  refine seqW_in ?_
  have hlen : ∀ ω, aLenK .slice (AT.vs t.all) ω = some (int t.all.length) := fun ω => by simp
  have hal := t.all_len
  simp [hlen]
  refine loopW_by (fun p : Nat × AV => [(3, p.2), (4, AT.vs t.all), (10, int t.all.length), (11, int p.1)])
    (fun p φ => p.1 ≤ t.all.length ∧ Grows σ φ ∧ σ.next + 1 ≤ φ.next ∧ Kid σ.next 1 1 φ p.2 ((ownAll (t.all.take p.1)).map fun r => [int r]))
    (fun fr _ => t.all.length - (intOf (look fr 11)).toNat) (0, .own (σ.next + 1) 0) (by simp)
    ⟨by simp, (Grows.new _ _).trans (Grows.new _ _), by simp, .inr ⟨σ.next + 1, [], by simp [ownAll], by simp [get_new, ownAll], by omega, by simp⟩⟩ ?_
  rintro ⟨i, x⟩ φ ⟨hi, f1, f2, f4⟩
  simp only at hi f4
  simp
  by_cases hil : i < t.all.length
  · obtain ⟨c, hc⟩ := get_some hil
    have hix : ∀ ω, aIndexAddr 19 (AT.vs t.all) (int i) ω = some (.ref c.av) := fun ω => by rw [aIndexAddr_sl]; simp [AT.avs_get hc]
    have htk := ownAll_take hc
    have hle := ownAll_take_le t.all (i + 1)
    rw [htk] at hle
    simp only [List.length_append] at hle
    simp [hil, hix]
    refine own_ref ?_
    refine stepK_of (aAppend_rows (by' := 8) f4.rows f4.ns (.inr (.inl ⟨false, rfl⟩)) (by simp; omega)) ?_
    obtain ⟨p1, p2, p3⟩ := f4.app (by omega) ((own c).map fun r => [int r])
    generalize (gone x φ).new (.cells 1 (((ownAll (t.all.take i)).map fun r => [int r]) ++ (own c).map fun r => [int r])) = φ2 at p1 p2 p3
    simp
    rw [wrap64 (by omega)]
    refine ⟨⟨i + 1, _, ⟨rfl, by simp⟩, by omega, ⟨by have := f1.next; omega, fun j hj => by rw [p2 j (by omega)]; exact f1.get j hj⟩, by omega, ?_⟩, by omega⟩
    rw [htk, List.map_append]
    simpa using p1
  · have hall : t.all.take i = t.all := List.take_of_length_le (by omega)
    rw [hall] at f4
    simp [hil]
    exact ⟨f1, _, f4.rhos, hk⟩
theorem binds_ev {l : List AT} (hb : AT.sizes l < 100000000000) (hb2 : (ownAll (AT.alls l)).length < 1000000000000) {σ : AHeap} {k kp : AV → AHeap → Prop} (hk : k (rhosV (ownAll (AT.alls l))) σ) : Ev PR 20 [AT.vs l] σ k kp := by
  refine Ev.pure ?_
  apply F20_ev; unfold F20
  simp
  refine each_ev 34 [.ptr σ.next 0 0] (σ.next + 1) (fun _ => False) _ l (Nat.le_refl _) (by omega)
    (fun i φ => Grows σ φ ∧ σ.next + 1 ≤ φ.next ∧ ∃ x, φ.get σ.next = some (.cells 1 [[x]]) ∧ acells x = some [x] ∧ Kid σ.next 1 1 φ x ((ownAll ((AT.alls l).take i)).map fun r => [int r])) ?_ ?_ _ _ _ (by simp)
    ⟨Grows.new _ _, by simp, _, by simp [get_new], rfl, .inl ⟨rfl, by simp [ownAll]⟩⟩ ?_ ?_
  · rintro i φ ψ ⟨h1, h2, x, h3, h4, h5⟩ hg
    have := hg.next
    exact ⟨h1.trans hg, by omega, x, by rw [hg.get _ (by omega)]; exact h3, h4, h5.grows hg⟩
  · rintro i t hi φ q qp hbφ ⟨h1, h2, x, h3, h4, h5⟩ hT hF
    have htk := ownAll_take hi
    have hle := ownAll_take_le (AT.alls l) (i + 1)
    rw [htk] at hle
    simp only [List.length_append] at hle
    apply F34_ev; unfold F34
    simp [h3, get_new, show σ.next ≠ φ.next by omega]
    have hg : Grows φ (φ.new (.cells 19 [t.av])) := Grows.new _ _
    refine own_ev ?_
    have h5' := h5.grows hg
    have hgn : (φ.new (.cells 19 [t.av])).next = φ.next + 1 := by simp
    have hgg : (φ.new (.cells 19 [t.av])).get σ.next = some (.cells 1 [[x]]) := by rw [hg.get _ (by omega)]; exact h3
    generalize φ.new (.cells 19 [t.av]) = φ1 at h5' hg hgn hgg
    refine ⟨by simp [hgg], ?_⟩
    refine stepK_of (aAppend_rows (by' := 8) h5'.rows h5'.ns (.inr (.inl ⟨false, rfl⟩)) (by simp; omega)) ?_
    obtain ⟨p1, p2, p3⟩ := h5'.app (by omega) ((own t).map fun r => [int r])
    have p4 : ∀ j els, σ.next + 1 ≤ j → j < φ.next → φ1.get j = some (.cells 19 els) → ((gone x φ1).new (.cells 1 (((ownAll ((AT.alls l).take i)).map fun r => [int r]) ++ (own t).map fun r => [int r]))).get j = φ1.get j := by
      intro j els h6 h7 h8
      rw [get_new, gone_next, if_neg (by omega)]
      exact h5'.other (by omega) h8
    generalize (gone x φ1).new (.cells 1 (((ownAll ((AT.alls l).take i)).map fun r => [int r]) ++ (own t).map fun r => [int r])) = φ2 at p1 p2 p3 p4
    have q2 : φ2.get σ.next = some (.cells 1 [[x]]) := by rw [p2 _ (by omega)]; exact hgg
    simp [q2]
    refine hT _ ⟨by simp; omega, fun j els h6 h7 h8 => ?_⟩ ⟨?_, by simp; omega, .own φ1.next ((ownAll ((AT.alls l).take i)).length + (own t).length), by simp [get_set], rfl, ?_⟩
    · rw [get_set, if_neg (by omega), p4 j els h6 h7 (by rw [hg.get j h7]; exact h8), hg.get j h7]
    · exact ⟨by simp; have := h1.next; omega, fun j hj => by rw [get_set, if_neg (by omega), p2 j (by omega), hg.get j (by omega)]; exact h1.get j hj⟩
    · rw [htk, List.map_append]
      simpa using p1.set (j := σ.next) (by omega) (.cells 1 [[.own φ1.next ((ownAll ((AT.alls l).take i)).length + (own t).length)]])
  · rintro τ hu ⟨h1, h2, x, h3, h4, h5⟩
    simp [h3]
    rw [← AT.alls_len, List.take_length] at h5
    exact ⟨h1, _, h5.rhos, hk⟩
  · intro τ _ h; exact h.elim
end Go.Abs.At
