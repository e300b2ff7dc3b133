/-
  The same terms.
-/
import Derived.Test.YtpfaciflhhpokaaGreatDoorAtY
set_option linter.unusedVariables false
set_option linter.unusedSimpArgs false
namespace Go.Abs.At
open Go Go.Abs Go.Proofs.AtD
attribute [local simp] Nat.add_assoc

theorem equal_ev {l m : List Int} (hb : l.length < 1000000000000) (hb2 : m.length < 1000000000000) {x y : AV} {σ : AHeap} (hx : Rows σ 1 x (l.map fun r => [int r])) (hy : Rows σ 1 y (m.map fun r => [int r])) {k kp : AV → AHeap → Prop} (hk : k (bool (decide (l = m))) σ) : Ev PR 41 [x, y] σ k kp := by
  apply F41_ev; unfold F41
  have hlen := hx.len
  have hlen2 := hy.len
  simp only [List.length_map] at hlen hlen2
  simp [hlen, hlen2]
  by_cases hne : l.length = m.length
  · simp [hne]
    refine seqW_in ?_
    refine loopW_by (fun j : Nat => [(0, x), (1, y), (12, int m.length), (13, int j)]) (fun j φ => φ = σ ∧ j ≤ m.length ∧ l.take j = m.take j) (fun fr _ => m.length - (intOf (look fr 13)).toNat) 0 (by simp) ⟨rfl, by simp, by simp⟩ ?_
    rintro j φ ⟨rfl, hj, heq⟩
    simp
    by_cases hjl : j < m.length
    · obtain ⟨a, ha⟩ := get_some (l := l) (i := j) (by omega)
      obtain ⟨b, hb⟩ := get_some hjl
      obtain ⟨p, hp, hat⟩ := hx.at (i := j) (el := [int a]) (by simp [ha]) rfl .i64
      obtain ⟨q, hq, hqt⟩ := hy.at (i := j) (el := [int b]) (by simp [hb]) rfl .i64
      simp [hjl, hp]
      refine stepP (x := int a) (by rw [hat.load]; rfl) ?_
      simp [hq]
      refine stepP (x := int b) (by rw [hqt.load]; rfl) ?_
      by_cases hc : a = b
      · subst hc
        simp
        rw [wrap64 (by omega)]
        refine ⟨⟨j + 1, by simp, by omega, ?_⟩, by omega⟩
        rw [List.take_add_one, List.take_add_one, heq, ha, hb]
      · simp [hc]
        have e : decide (l = m) = false := decide_eq_false fun h => by rw [h, hb] at ha; exact hc (Option.some.inj ha).symm
        rw [e] at hk
        exact hk
    · rw [List.take_of_length_le (by omega), List.take_of_length_le (by omega)] at heq
      simp [hjl]
      have e : decide (l = m) = true := decide_eq_true heq
      rw [e] at hk
      exact hk
  · have hne' : ¬ ((l.length : Int) = m.length) := by omega
    simp only [hne', decide_false, Bool.not_false, condK_true]
    have e : decide (l = m) = false := decide_eq_false fun h => hne (by rw [h])
    rw [e] at hk
    exact hk


mutual
def AT.same : AT → AT → Bool
  | .mk h r rs e t s ks, .mk h' r' rs' e' t' s' ks' => decide (h = h') && decide (r = r') && decide (rs = rs') && (withinM e e' && withinM e' e) && RT.same t t' && RT.same s s' && AT.sames ks ks'
def AT.sames : List AT → List AT → Bool
  | [], [] => true
  | a :: l, b :: m => AT.same a b && AT.sames l m
  | [], _ :: _ => false
  | _ :: _, [] => false
end
theorem AT.sames_len : ∀ {l m : List AT}, l.length ≠ m.length → AT.sames l m = false
  | [], [], h => absurd rfl h
  | [], _ :: _, _ => rfl
  | _ :: _, [], _ => rfl
  | a :: l, b :: m, h => by simp only [AT.sames]; rw [AT.sames_len (by simpa using h)]; simp
theorem AT.sames_no : ∀ {l m : List AT} {i : Nat} {a b : AT}, l[i]? = some a → m[i]? = some b → AT.same a b = false → AT.sames l m = false
  | [], _, i, a, b, h, _, _ => by simp at h
  | _ :: _, [], i, a, b, _, h, _ => by simp at h
  | x :: l, y :: m, 0, a, b, h1, h2, h3 => by simp at h1 h2; subst h1; subst h2; simp [AT.sames, h3]
  | x :: l, y :: m, i + 1, a, b, h1, h2, h3 => by simp only [AT.sames]; rw [AT.sames_no (by simpa using h1) (by simpa using h2) h3]; simp
theorem AT.sames_yes : ∀ {l m : List AT}, l.length = m.length → (∀ (i : Nat) a b, l[i]? = some a → m[i]? = some b → AT.same a b = true) → AT.sames l m = true
  | [], [], _, _ => rfl
  | [], _ :: _, h, _ => by simp at h
  | _ :: _, [], h, _ => by simp at h
  | a :: l, b :: m, h, hh => by
    simp only [AT.sames]
    rw [hh 0 a b rfl rfl, AT.sames_yes (by simpa using h) (fun i x y h1 h2 => hh (i + 1) x y (by simpa using h1) (by simpa using h2))]
    rfl

theorem AT.same_eq (a b : AT) : AT.same a b = (decide (a.h = b.h) && decide (a.rho = b.rho) && decide (a.rhos = b.rhos) && (withinM a.eff b.eff && withinM b.eff a.eff) && RT.same a.type b.type && RT.same a.res b.res && AT.sames a.kids b.kids) := by
  cases a; cases b; rfl
theorem eqHead (x a : Head) : eqLeaves [.i, .i, .i, .i, .s, .s, .s] x.av a.av = some (decide (x = a)) := by
  obtain ⟨a1, a2, a3, a4, a5, a6, a7⟩ := x
  obtain ⟨b1, b2, b3, b4, b5, b6, b7⟩ := a
  simp [Head.av, Bool.and_assoc]
/-- Small enough for every loop. -/
structure AT.Ok (t : AT) : Prop where
  small : t.small
  size : t.size ≤ 400
theorem AT.Ok.rhos {t : AT} (h : t.Ok) : t.rhos.length < 1000000000000 := by
  obtain ⟨a, b, c, d, e, f, g⟩ := t
  have := h.1
  simp only [AT.small] at this
  simp only [AT.rhos]
  omega
theorem AT.Ok.eff {t : AT} (h : t.Ok) : t.eff.length < 1000000000000 := by
  obtain ⟨a, b, c, d, e, f, g⟩ := t
  have := h.1
  simp only [AT.small, effOk] at this
  simp only [AT.eff]
  omega
theorem AT.Ok.type {t : AT} (h : t.Ok) : t.type.Ok := by
  obtain ⟨a, b, c, d, e, f, g⟩ := t
  have := h.1
  simp only [AT.small] at this
  exact ⟨this.2.2.2.1.2, this.2.2.2.1.1⟩
theorem AT.Ok.res {t : AT} (h : t.Ok) : t.res.Ok := by
  obtain ⟨a, b, c, d, e, f, g⟩ := t
  have := h.1
  simp only [AT.small] at this
  exact ⟨this.2.2.2.2.1.2, this.2.2.2.2.1.1⟩
theorem AT.Ok.kid {t k : AT} (h : t.Ok) (hk : k ∈ t.kids) : k.Ok := by
  have := AT.kids_lt hk
  obtain ⟨a, b, c, d, e, f, g⟩ := t
  have h1 := h.1
  simp only [AT.small] at h1
  exact ⟨AT.smalls_mem h1.2.2.2.2.2 k hk, by have := h.2; omega⟩

theorem tsame_ref : ∀ (N : Nat) (a b : AT), a.size ≤ N → a.Ok → b.Ok → ∀ (σ : AHeap) (k kp : AV → AHeap → Prop), k (bool (AT.same a b)) σ → Ev PR 26 [a.v, b.v] σ k kp := by
  intro N
  induction N with
  | zero => intro a b h; have := a.size_pos; omega
  | succ N ih =>
    intro a b hN ha hb σ k kp hk
    refine Ev.pureD hk ((Dat.val _).low _) fun k' hk' => ?_
    apply F26_ev; unfold F26
    simp
    generalize hτ : (σ.new (.cells 19 [a.av])).new (.cells 19 [b.av]) = τ
    have hg : Grows σ τ := by rw [← hτ]; exact (Grows.new _ _).trans (Grows.new _ _)
    have g0 : τ.get σ.next = some (.cells 19 [a.av]) := by rw [← hτ]; simp [get_new]
    have g1 : τ.get (σ.next + 1) = some (.cells 19 [b.av]) := by rw [← hτ]; simp [get_new]
    clear hτ
    have fin : ∀ v, AT.same a b = v → k' (bool v) τ := fun v h => by rw [← h]; exact hk' _ hg
    have hla : ∀ ω, aLenK .slice (AT.vs a.kids) ω = some (int a.kids.length) := fun ω => by simp
    have hlb : ∀ ω, aLenK .slice (AT.vs b.kids) ω = some (int b.kids.length) := fun ω => by simp
    have hka := a.kids_len
    have hsa := ha.size
    have heq := AT.same_eq a b
    simp [g0, g1, eqHead]
    by_cases c1 : a.h = b.h
    · by_cases c2 : a.rho = b.rho
      · simp [c1, c2, g0, g1]
        refine equalInts_ev (l := a.rhos) (m := b.rhos) ha.rhos hb.rhos (.inr (.inl ⟨false, rfl⟩)) (.inr (.inl ⟨false, rfl⟩)) ?_
        by_cases c3 : a.rhos = b.rhos
        · simp [c3, g0, g1]
          refine within_ref ha.eff hb.eff ?_
          cases w1 : withinM a.eff b.eff with
          | false =>
            simp
            exact fin false (by rw [heq, w1]; simp)
          | true =>
            simp [g0, g1]
            refine within_ref hb.eff ha.eff ?_
            cases w2 : withinM b.eff a.eff with
            | false =>
              simp
              exact fin false (by rw [heq, w2]; simp)
            | true =>
              simp [g0, g1]
              refine rsame_ref _ _ _ (Nat.le_refl _) ha.type hb.type _ _ _ ?_
              cases w3 : RT.same a.type b.type with
              | false =>
                simp
                exact fin false (by rw [heq, w3]; simp)
              | true =>
                simp [g0, g1]
                refine rsame_ref _ _ _ (Nat.le_refl _) ha.res hb.res _ _ _ ?_
                cases w4 : RT.same a.res b.res with
                | false =>
                  simp
                  exact fin false (by rw [heq, w4]; simp)
                | true =>
                  simp [g0, g1, hla, hlb]
                  by_cases c4 : a.kids.length = b.kids.length
                  · simp [c4]
                    refine seqW_in ?_
                    simp [g0, hla]
                    refine loopW_by (fun j : Nat => [(2, .ptr σ.next 0 0), (3, .ptr (σ.next + 1) 0 0), (67, int a.kids.length), (68, int j)]) (fun j φ => φ = τ ∧ j ≤ a.kids.length ∧ ∀ (i : Nat) x y, i < j → a.kids[i]? = some x → b.kids[i]? = some y → AT.same x y = true) (fun fr _ => a.kids.length - (intOf (look fr 68)).toNat) 0 (by simp [c4]) ⟨rfl, by simp, by simp⟩ ?_
                    rintro j φ ⟨rfl, hj, hall⟩
                    simp
                    by_cases hjl : j < a.kids.length
                    · obtain ⟨x, hx⟩ := get_some hjl
                      obtain ⟨y, hy⟩ := get_some (l := b.kids) (i := j) (by omega)
                      have hxk := AT.kids_lt (List.mem_of_getElem? hx)
                      have hix : ∀ ω, aIndexAddr 19 (AT.vs a.kids) (int j) ω = some (.ref x.av) := fun ω => by rw [aIndexAddr_sl]; simp [AT.avs_get hx]
                      have hiy : ∀ ω, aIndexAddr 19 (AT.vs b.kids) (int j) ω = some (.ref y.av) := fun ω => by rw [aIndexAddr_sl]; simp [AT.avs_get hy]
                      simp [hjl, g0, g1, hix, hiy]
                      refine ih x y (by omega) (ha.kid (List.mem_of_getElem? hx)) (hb.kid (List.mem_of_getElem? hy)) _ _ _ ?_
                      cases hs : AT.same x y with
                      | false =>
                        simp
                        exact fin false (by rw [heq, AT.sames_no hx hy hs]; simp)
                      | true =>
                        simp
                        rw [wrap64 (by omega)]
                        refine ⟨⟨j + 1, by simp, by omega, fun i u v hi hu hv => ?_⟩, by omega⟩
                        by_cases hij : i = j
                        · subst hij
                          rw [hx] at hu; rw [hy] at hv
                          cases hu; cases hv; exact hs
                        · exact hall i u v (by omega) hu hv
                    · simp [hjl]
                      refine fin true ?_
                      have : AT.sames a.kids b.kids = true := AT.sames_yes c4 fun i u v hu hv => hall i u v (by have := (List.getElem?_eq_some_iff.1 hu).1; omega) hu hv
                      rw [heq, w1, w2, w3, w4, this]; simp [c1, c2, c3]
                  · have : ¬ (a.kids.length : Int) = b.kids.length := by omega
                    simp [this]
                    exact fin false (by rw [heq, AT.sames_len c4]; simp)
        · simp [c3]
          exact fin false (by rw [heq]; simp [c3])
      · simp [c1, c2, g0, g1]
        exact fin false (by rw [heq]; simp [c2])
    · simp [c1]
      exact fin false (by rw [heq]; simp [c1])

theorem tsame_ev : ∀ (N : Nat) (a b : AT), a.size ≤ N → a.Ok → b.Ok → ∀ (σ : AHeap) (k kp : AV → AHeap → Prop), k (bool (AT.same a b)) σ → Ev PR 27 [a.v, b.v] σ k kp := by
  intro N
  induction N with
  | zero => intro a b h; have := a.size_pos; omega
  | succ N ih =>
    intro a b hN ha hb σ k kp hk
    refine Ev.pureD hk ((Dat.val _).low _) fun k' hk' => ?_
    apply F27_ev; unfold F27
    simp
    generalize hτ : (σ.new (.cells 19 [a.av])).new (.cells 19 [b.av]) = τ
    have hg : Grows σ τ := by rw [← hτ]; exact (Grows.new _ _).trans (Grows.new _ _)
    have g0 : τ.get σ.next = some (.cells 19 [a.av]) := by rw [← hτ]; simp [get_new]
    have g1 : τ.get (σ.next + 1) = some (.cells 19 [b.av]) := by rw [← hτ]; simp [get_new]
    clear hτ
    have fin : ∀ v ω, Grows τ ω → AT.same a b = v → k' (bool v) ω := fun v ω hω h => by rw [← h]; exact hk' _ (hg.trans hω)
    have hla : ∀ ω, aLenK .slice (AT.vs a.kids) ω = some (int a.kids.length) := fun ω => by simp
    have hlb : ∀ ω, aLenK .slice (AT.vs b.kids) ω = some (int b.kids.length) := fun ω => by simp
    have hka := a.kids_len
    have hsa := ha.size
    have heq := AT.same_eq a b
    simp [g0, g1, eqHead]
    by_cases c1 : a.h = b.h
    · by_cases c2 : a.rho = b.rho
      · simp [c1, c2, g0, g1]
        refine equal_ev (l := a.rhos) (m := b.rhos) ha.rhos hb.rhos (.inr (.inl ⟨false, rfl⟩)) (.inr (.inl ⟨false, rfl⟩)) ?_
        by_cases c3 : a.rhos = b.rhos
        · simp [c3, g0, g1]
          refine effSame_ev ha.eff hb.eff ?_
          cases w1 : (withinM a.eff b.eff && withinM b.eff a.eff) with
          | false =>
            simp
            exact fin false _ (Grows.refl _) (by rw [heq, w1]; simp)
          | true =>
            simp [g0, g1]
            refine rsame_ev _ _ _ (Nat.le_refl _) ha.type hb.type _ _ _ ?_
            cases w3 : RT.same a.type b.type with
            | false =>
              simp
              exact fin false _ (Grows.refl _) (by rw [heq, w3]; simp)
            | true =>
              simp [g0, g1]
              refine rsame_ev _ _ _ (Nat.le_refl _) ha.res hb.res _ _ _ ?_
              cases w4 : RT.same a.res b.res with
              | false =>
                simp
                exact fin false _ (Grows.refl _) (by rw [heq, w4]; simp)
              | true =>
                simp [g0, g1]
                apply F44_ev; unfold F44
                simp [hla, hlb]
                by_cases c4 : a.kids.length = b.kids.length
                · simp [c4]
                  refine seqW_in ?_
                  refine loopW_by (fun j : Nat => [(1, AT.vs b.kids), (2, .fn (.func 27) []), (15, AT.vs a.kids), (16, int b.kids.length), (17, int j)]) (fun j φ => Grows τ φ ∧ j ≤ a.kids.length ∧ ∀ (i : Nat) x y, i < j → a.kids[i]? = some x → b.kids[i]? = some y → AT.same x y = true) (fun fr _ => a.kids.length - (intOf (look fr 17)).toNat) 0 (by simp) ⟨Grows.refl _, by simp, by simp⟩ ?_
                  rintro j φ ⟨hφ, hj, hall⟩
                  simp
                  by_cases hjl : j < a.kids.length
                  · obtain ⟨x, hx⟩ := get_some hjl
                    obtain ⟨y, hy⟩ := get_some (l := b.kids) (i := j) (by omega)
                    have hjb : j < b.kids.length := by omega
                    have hxk := AT.kids_lt (List.mem_of_getElem? hx)
                    have hix : ∀ ω, aIndexAddr 19 (AT.vs a.kids) (int j) ω = some (.ref x.av) := fun ω => by rw [aIndexAddr_sl]; simp [AT.avs_get hx]
                    have hiy : ∀ ω, aIndexAddr 19 (AT.vs b.kids) (int j) ω = some (.ref y.av) := fun ω => by rw [aIndexAddr_sl]; simp [AT.avs_get hy]
                    simp [hjb, hix, hiy, get_new, get_set]
                    generalize hω : AHeap.set _ _ _ = ω
                    have hgω : Grows φ ω := by rw [← hω]; exact (((Grows.new _ _).set (by simp) _).trans (Grows.new _ _)).set (by simp) _
                    clear hω
                    show Ev PR 27 _ _ _ _
                    refine ih x y (by omega) (ha.kid (List.mem_of_getElem? hx)) (hb.kid (List.mem_of_getElem? hy)) _ _ _ ?_
                    cases hs : AT.same x y with
                    | false =>
                      simp
                      exact fin false _ (hφ.trans hgω) (by rw [heq, AT.sames_no hx hy hs]; simp)
                    | true =>
                      simp
                      rw [wrap64 (by omega)]
                      refine ⟨⟨j + 1, by simp, hφ.trans hgω, by omega, fun i u v hi hu hv => ?_⟩, by omega⟩
                      by_cases hij : i = j
                      · subst hij
                        rw [hx] at hu; rw [hy] at hv
                        cases hu; cases hv; exact hs
                      · exact hall i u v (by omega) hu hv
                  · have hjb : ¬ j < b.kids.length := by omega
                    simp [hjb]
                    refine fin true _ hφ ?_
                    have : AT.sames a.kids b.kids = true := AT.sames_yes c4 fun i u v hu hv => hall i u v (by have := (List.getElem?_eq_some_iff.1 hu).1; omega) hu hv
                    rw [heq, w1, w3, w4, this]; simp [c1, c2, c3]
                · have : ¬ (a.kids.length : Int) = b.kids.length := by omega
                  simp [this]
                  exact fin false _ (Grows.refl _) (by rw [heq, AT.sames_len c4]; simp)
        · simp [c3]
          exact fin false _ (Grows.refl _) (by rw [heq]; simp [c3])
      · simp [c1, c2, g0, g1]
        exact fin false _ (Grows.refl _) (by rw [heq]; simp [c2])
    · simp [c1]
      exact fin false _ (Grows.refl _) (by rw [heq]; simp [c1])
end Go.Abs.At
