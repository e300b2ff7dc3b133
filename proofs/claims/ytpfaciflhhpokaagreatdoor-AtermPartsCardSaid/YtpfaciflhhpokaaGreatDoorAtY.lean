/-
  The same types; the same terms.
-/
import Derived.Test.YtpfaciflhhpokaaGreatDoorAtX
set_option linter.unusedVariables false
set_option linter.unusedSimpArgs false
namespace Go.Abs.At
open Go Go.Abs Go.Proofs.AtD
attribute [local simp] Nat.add_assoc

@[simp] theorem RT.av_head (t : RT) : t.av.head? = some (u8 t.kind) := by cases t; rfl
mutual
def RT.same : RT → RT → Bool
  | .mk k r e ks, .mk k' r' e' ks' => decide (k = k') && decide (r = r') && (withinM e e' && withinM e' e) && RT.sames ks ks'
def RT.sames : List RT → List RT → Bool
  | [], [] => true
  | a :: l, b :: m => RT.same a b && RT.sames l m
  | [], _ :: _ => false
  | _ :: _, [] => false
end
theorem RT.sames_len : ∀ {l m : List RT}, l.length ≠ m.length → RT.sames l m = false
  | [], [], h => absurd rfl h
  | [], _ :: _, _ => rfl
  | _ :: _, [], _ => rfl
  | a :: l, b :: m, h => by simp only [RT.sames]; rw [RT.sames_len (by simpa using h)]; simp
theorem RT.sames_no : ∀ {l m : List RT} {i : Nat} {a b : RT}, l[i]? = some a → m[i]? = some b → RT.same a b = false → RT.sames l m = false
  | [], _, i, a, b, h, _, _ => by simp at h
  | _ :: _, [], i, a, b, _, h, _ => by simp at h
  | x :: l, y :: m, 0, a, b, h1, h2, h3 => by simp at h1 h2; subst h1; subst h2; simp [RT.sames, h3]
  | x :: l, y :: m, i + 1, a, b, h1, h2, h3 => by simp only [RT.sames]; rw [RT.sames_no (by simpa using h1) (by simpa using h2) h3]; simp
theorem RT.sames_yes : ∀ {l m : List RT}, l.length = m.length → (∀ (i : Nat) a b, l[i]? = some a → m[i]? = some b → RT.same a b = true) → RT.sames l m = true
  | [], [], _, _ => rfl
  | [], _ :: _, h, _ => by simp at h
  | _ :: _, [], h, _ => by simp at h
  | a :: l, b :: m, h, hh => by
    simp only [RT.sames]
    rw [hh 0 a b rfl rfl, RT.sames_yes (by simpa using h) (fun i x y h1 h2 => hh (i + 1) x y (by simpa using h1) (by simpa using h2))]
    rfl
theorem RT.same_eq (a b : RT) : RT.same a b = (decide (a.kind = b.kind) && decide (a.rho = b.rho) && (withinM a.eff b.eff && withinM b.eff a.eff) && RT.sames a.kids b.kids) := by
  cases a; cases b; rfl
theorem RT.kids_len (t : RT) : t.kids.length < t.size := by
  obtain ⟨k, r, e, ks⟩ := t
  have : ∀ l : List RT, l.length ≤ RT.sizes l := by
    intro l
    induction l with
    | nil => simp
    | cons a l ih => have := a.size_pos; simp [RT.sizes]; omega
  have := this ks
  simp [RT.size, RT.kids]; omega
theorem RT.smalls_mem {l : List RT} (h : RT.smalls l) : ∀ t ∈ l, t.small := by
  induction l with
  | nil => simp
  | cons a l ih =>
    intro t ht
    simp only [RT.smalls] at h
    rcases List.mem_cons.1 ht with rfl | ht
    · exact h.1
    · exact ih h.2 t ht
/-- Small enough for every loop. -/
structure RT.Ok (t : RT) : Prop where
  small : t.small
  size : t.size ≤ 100
theorem RT.Ok.eff {t : RT} (h : t.Ok) : t.eff.length < 1000000000000 := by
  obtain ⟨k, r, e, ks⟩ := t
  have := h.1
  simp only [RT.small, effOk] at this
  simp only [RT.eff]
  omega
theorem RT.Ok.kid {t k : RT} (h : t.Ok) (hk : k ∈ t.kids) : k.Ok := by
  have := RT.kids_lt hk
  obtain ⟨k1, r, e, ks⟩ := t
  exact ⟨RT.smalls_mem h.1.2 k hk, by have := h.2; omega⟩

theorem rsame_ref : ∀ (N : Nat) (a b : RT), a.size ≤ N → a.Ok → b.Ok → ∀ (σ : AHeap) (k kp : AV → AHeap → Prop), k (bool (RT.same a b)) σ → Ev PR 40 [a.v, b.v] σ k kp := by
  intro N
  induction N with
  | zero => intro a b h; have := a.size_pos; omega
  | succ N ih =>
    intro a b hN ha hb σ k kp hk
    refine Ev.pureD hk ((Dat.val _).low _) fun k' hk' => ?_
    apply F40_ev; unfold F40
    simp
    generalize hτ : (σ.new (.cells 4 [a.av])).new (.cells 4 [b.av]) = τ
    have hg : Grows σ τ := by rw [← hτ]; exact (Grows.new _ _).trans (Grows.new _ _)
    have g0 : τ.get σ.next = some (.cells 4 [a.av]) := by rw [← hτ]; simp [get_new]
    have g1 : τ.get (σ.next + 1) = some (.cells 4 [b.av]) := by rw [← hτ]; simp [get_new]
    clear hτ
    have fin : ∀ v, RT.same a b = v → k' (bool v) τ := fun v h => by rw [← h]; exact hk' _ hg
    have hla : ∀ ω, aLenK .slice (RT.vs a.kids) ω = some (int a.kids.length) := fun ω => by simp
    have hlb : ∀ ω, aLenK .slice (RT.vs b.kids) ω = some (int b.kids.length) := fun ω => by simp
    have hka := a.kids_len
    have hsa := ha.size
    have heq := RT.same_eq a b
    simp [g0, g1]
    by_cases c1 : a.kind = b.kind
    · by_cases c2 : a.rho = b.rho
      · simp [c1, c2, g0, g1, hla, hlb]
        by_cases c3 : a.kids.length = b.kids.length
        · simp [c3, g0, g1]
          refine within_ref ha.eff hb.eff ?_
          cases w1 : withinM a.eff b.eff with
          | false =>
            simp
            exact fin false (by rw [heq, w1]; simp)
          | true =>
            simp [g0, g1]
            refine within_ref hb.eff ha.eff ?_
            cases w2 : withinM b.eff a.eff with
            | false =>
              simp
              exact fin false (by rw [heq, w2]; simp)
            | true =>
              simp
              refine seqW_in ?_
              simp [g0, hla]
              refine loopW_by (fun j : Nat => [(2, .ptr σ.next 0 0), (3, .ptr (σ.next + 1) 0 0), (45, int a.kids.length), (46, int j)]) (fun j φ => φ = τ ∧ j ≤ a.kids.length ∧ ∀ (i : Nat) x y, i < j → a.kids[i]? = some x → b.kids[i]? = some y → RT.same x y = true) (fun fr _ => a.kids.length - (intOf (look fr 46)).toNat) 0 (by simp) ⟨rfl, by simp, by simp⟩ ?_
              rintro j φ ⟨rfl, hj, hall⟩
              simp
              by_cases hjl : j < a.kids.length
              · obtain ⟨x, hx⟩ := get_some hjl
                obtain ⟨y, hy⟩ := get_some (l := b.kids) (i := j) (by omega)
                have hxk := RT.kids_lt (List.mem_of_getElem? hx)
                have hix : ∀ ω, aIndexAddr 4 (RT.vs a.kids) (int j) ω = some (.ref x.av) := fun ω => by rw [aIndexAddr_sl]; simp [RT.avs_get hx]
                have hiy : ∀ ω, aIndexAddr 4 (RT.vs b.kids) (int j) ω = some (.ref y.av) := fun ω => by rw [aIndexAddr_sl]; simp [RT.avs_get hy]
                simp [hjl, g0, g1, hix, hiy]
                refine ih x y (by omega) (ha.kid (List.mem_of_getElem? hx)) (hb.kid (List.mem_of_getElem? hy)) _ _ _ ?_
                cases hs : RT.same x y with
                | false =>
                  simp
                  exact fin false (by rw [heq, RT.sames_no hx hy hs]; simp)
                | true =>
                  simp
                  rw [wrap64 (by omega)]
                  refine ⟨⟨j + 1, by simp, by omega, fun i u v hi hu hv => ?_⟩, by omega⟩
                  by_cases hij : i = j
                  · subst hij
                    rw [hx] at hu; rw [hy] at hv
                    cases hu; cases hv; exact hs
                  · exact hall i u v (by omega) hu hv
              · simp [hjl]
                refine fin true ?_
                have : RT.sames a.kids b.kids = true := RT.sames_yes c3 fun i u v hu hv => hall i u v (by have := (List.getElem?_eq_some_iff.1 hu).1; omega) hu hv
                rw [heq, w1, w2, this]; simp [c1, c2]
        · have : ¬ (a.kids.length : Int) = b.kids.length := by omega
          simp [this]
          exact fin false (by rw [heq, RT.sames_len c3]; simp)
      · simp [c1, c2, g0, g1]
        exact fin false (by rw [heq]; simp [c2])
    · simp [c1]
      exact fin false (by rw [heq]; simp [c1])

theorem rsame_ev : ∀ (N : Nat) (a b : RT), a.size ≤ N → a.Ok → b.Ok → ∀ (σ : AHeap) (k kp : AV → AHeap → Prop), k (bool (RT.same a b)) σ → Ev PR 43 [a.v, b.v] σ k kp := by
  intro N
  induction N with
  | zero => intro a b h; have := a.size_pos; omega
  | succ N ih =>
    intro a b hN ha hb σ k kp hk
    refine Ev.pureD hk ((Dat.val _).low _) fun k' hk' => ?_
    apply F43_ev; unfold F43
    simp
    generalize hτ : (σ.new (.cells 4 [a.av])).new (.cells 4 [b.av]) = τ
    have hg : Grows σ τ := by rw [← hτ]; exact (Grows.new _ _).trans (Grows.new _ _)
    have g0 : τ.get σ.next = some (.cells 4 [a.av]) := by rw [← hτ]; simp [get_new]
    have g1 : τ.get (σ.next + 1) = some (.cells 4 [b.av]) := by rw [← hτ]; simp [get_new]
    clear hτ
    have fin : ∀ v ω, Grows τ ω → RT.same a b = v → k' (bool v) ω := fun v ω hω h => by rw [← h]; exact hk' _ (hg.trans hω)
    have hla : ∀ ω, aLenK .slice (RT.vs a.kids) ω = some (int a.kids.length) := fun ω => by simp
    have hlb : ∀ ω, aLenK .slice (RT.vs b.kids) ω = some (int b.kids.length) := fun ω => by simp
    have hka := a.kids_len
    have hsa := ha.size
    have heq := RT.same_eq a b
    simp [g0, g1]
    by_cases c1 : a.kind = b.kind
    · by_cases c2 : a.rho = b.rho
      · simp [c1, c2, g0, g1, hla, hlb]
        refine effSame_ev ha.eff hb.eff ?_
        cases w1 : (withinM a.eff b.eff && withinM b.eff a.eff) with
        | false =>
          simp
          exact fin false _ (Grows.refl _) (by rw [heq, w1]; simp)
        | true =>
          simp [g0, g1]
          apply F65_ev; unfold F65
          simp [hla, hlb]
          by_cases c3 : a.kids.length = b.kids.length
          · simp [c3]
            refine seqW_in ?_
            refine loopW_by (fun j : Nat => [(1, RT.vs b.kids), (2, .fn (.func 43) []), (15, RT.vs a.kids), (16, int b.kids.length), (17, int j)]) (fun j φ => Grows τ φ ∧ j ≤ a.kids.length ∧ ∀ (i : Nat) x y, i < j → a.kids[i]? = some x → b.kids[i]? = some y → RT.same x y = true) (fun fr _ => a.kids.length - (intOf (look fr 17)).toNat) 0 (by simp) ⟨Grows.refl _, by simp, by simp⟩ ?_
            rintro j φ ⟨hφ, hj, hall⟩
            simp
            by_cases hjl : j < a.kids.length
            · obtain ⟨x, hx⟩ := get_some hjl
              obtain ⟨y, hy⟩ := get_some (l := b.kids) (i := j) (by omega)
              have hjb : j < b.kids.length := by omega
              have hxk := RT.kids_lt (List.mem_of_getElem? hx)
              have hix : ∀ ω, aIndexAddr 4 (RT.vs a.kids) (int j) ω = some (.ref x.av) := fun ω => by rw [aIndexAddr_sl]; simp [RT.avs_get hx]
              have hiy : ∀ ω, aIndexAddr 4 (RT.vs b.kids) (int j) ω = some (.ref y.av) := fun ω => by rw [aIndexAddr_sl]; simp [RT.avs_get hy]
              simp [hjb, hix, hiy, get_new, get_set]
              generalize hω : AHeap.set _ _ _ = ω
              have hgω : Grows φ ω := by rw [← hω]; exact (((Grows.new _ _).set (by simp) _).trans (Grows.new _ _)).set (by simp) _
              clear hω
              show Ev PR 43 _ _ _ _
              refine ih x y (by omega) (ha.kid (List.mem_of_getElem? hx)) (hb.kid (List.mem_of_getElem? hy)) _ _ _ ?_
              cases hs : RT.same x y with
              | false =>
                simp
                exact fin false _ (hφ.trans hgω) (by rw [heq, RT.sames_no hx hy hs]; simp)
              | true =>
                simp
                rw [wrap64 (by omega)]
                refine ⟨⟨j + 1, by simp, hφ.trans hgω, by omega, fun i u v hi hu hv => ?_⟩, by omega⟩
                by_cases hij : i = j
                · subst hij
                  rw [hx] at hu; rw [hy] at hv
                  cases hu; cases hv; exact hs
                · exact hall i u v (by omega) hu hv
            · have hjb : ¬ j < b.kids.length := by omega
              simp [hjb]
              refine fin true _ hφ ?_
              have : RT.sames a.kids b.kids = true := RT.sames_yes c3 fun i u v hu hv => hall i u v (by have := (List.getElem?_eq_some_iff.1 hu).1; omega) hu hv
              rw [heq, w1, this]; simp [c1, c2]
          · have : ¬ (a.kids.length : Int) = b.kids.length := by omega
            simp [this]
            exact fin false _ (Grows.refl _) (by rw [heq, RT.sames_len c3]; simp)
      · simp [c1, c2, g0, g1]
        exact fin false _ (Grows.refl _) (by rw [heq]; simp [c2])
    · simp [c1]
      exact fin false _ (Grows.refl _) (by rw [heq]; simp [c1])
end Go.Abs.At
