/-
  Acts, and what they do.
-/
import Derived.Test.YtjilebpcaemopaaGreatBasR7
import Derived.Test.YtjilebpcaemopaaGreatBasO
set_option linter.unusedVariables false
set_option linter.unusedSimpArgs false
namespace Go.Abs.Bas
open Go Go.Abs Go.Abs.At Go.Proofs.BasD
attribute [local simp] Nat.add_assoc
variable {σ τ : AHeap} {id : Nat} {b : B} {F G : Nat → Prop} {k kp : AV → AHeap → Prop} {xR xV xL : AV}

structure Act where
  kind : Int
  v : Int
  L : List Int
  atoms : List Atom
abbrev Act.av (a : Act) : List AV := [int a.kind, int a.v, rhosV a.L, effV a.atoms]
def greatE (l : List Atom) : Bool := decide (100 < l.length) || l.any fun a => decide (100 < a.exn.size)
def Act.great (a : Act) : Bool := decide (20 < a.L.length) || decide (20 < a.atoms.length) || greatE a.atoms
def B.act (b : B) (a : Act) : B :=
  if a.kind = 0 then { b with regions := b.regions + 1 }
  else if a.kind = 1 then { b with vars := b.vars + 1 }
  else if a.kind = 2 then (b.join a.L).1
  else if a.kind = 3 then (b.joinVars a.L).1
  else (b.add a.v a.atoms a.L).1

theorem greatE_ev {x : AV} {l : List Atom} (hx : RowG σ 3 x (arows l)) (hk : k (bool (greatE l)) σ) : Ev PR 31 [x] σ k kp := by
  apply F31_ev; unfold F31
  have fin : ∀ v, greatE l = v → k (bool v) σ := fun v e => by rw [← e]; exact hk
  simp [hx.lenA]
  by_cases h1 : 100 < l.length
  · have : (100 : Int) < l.length := by omega
    simp [this]
    exact fin true (by simp [greatE, h1])
  · have : ¬ (100 : Int) < l.length := by omega
    simp [this]
    refine seqW_in ?_
    refine loopW_by (fun i : Nat => [(0, x), (8, int l.length), (9, int i)]) (fun i φ => φ = σ ∧ i ≤ l.length ∧ ∀ a ∈ l.take i, ¬ 100 < a.exn.size) (fun fr _ => l.length - (intOf (look fr 9)).toNat) 0 (by simp) ⟨rfl, by simp, by simp⟩ ?_
    rintro i φ ⟨rfl, hi, hall⟩
    simp
    by_cases hil : i < l.length
    · obtain ⟨a, ha⟩ := get_some hil
      obtain ⟨r, r1, r2⟩ := hx.atF (i := i) (el := a.av) (by simp [ha]) rfl .i64
      obtain ⟨q, q1, q2⟩ := r2 2 (str a.exn) rfl
      simp only [hil, decide_true, condK_true]
      refine stepP r1 ?_
      refine stepP q1 ?_
      refine stepP q2 ?_
      simp
      by_cases h2 : 100 < a.exn.size
      · have c2 : (100 : Int) < a.exn.size := by omega
        simp [c2]
        exact fin true (by simp [greatE, h1]; exact ⟨a, List.mem_of_getElem? ha, h2⟩)
      · have c2 : ¬ (100 : Int) < a.exn.size := by omega
        simp [c2]
        rw [wrap64 (by omega)]
        refine ⟨⟨i + 1, by simp, by omega, fun c hc => ?_⟩, by omega⟩
        rw [List.take_add_one, ha] at hc
        rcases List.mem_append.1 hc with hc | hc
        · have := hall c hc; omega
        · simp at hc; subst hc; omega
    · rw [List.take_of_length_le (by omega)] at hall
      simp [hil]
      exact fin false (by
        simp only [greatE, h1, decide_false, Bool.false_or]
        rw [List.any_eq_false]
        intro a ha; simp; have := hall a ha; omega)
theorem great_ev {a : Act} (hk : k (bool a.great) σ) : Ev PR 12 [.agg a.av] σ k kp := by
  refine Ev.pureD hk ((Dat.val _).low _) fun k' hk' => ?_
  apply F12_ev; unfold F12
  have g := Grows.new σ (.cells 4 [a.av])
  have fin : ∀ v, a.great = v → k' (bool v) (σ.new (.cells 4 [a.av])) := fun v e => by rw [← e]; exact hk' _ g
  simp [rhosV, effV]
  by_cases h1 : 20 < a.L.length
  · have c1 : (20 : Int) < a.L.length := by omega
    simp [c1]
    exact fin true (by simp [Act.great, h1])
  · by_cases h2 : 20 < a.atoms.length
    · have c1 : ¬ (20 : Int) < a.L.length := by omega
      have c2 : (20 : Int) < a.atoms.length := by omega
      simp [c1, c2, effV]
      exact fin true (by simp [Act.great, h2])
    · have c1 : ¬ (20 : Int) < a.L.length := by omega
      have c2 : ¬ (20 : Int) < a.atoms.length := by omega
      simp [c1, c2, effV]
      refine greatE_ev (l := a.atoms) (RowG.sl (arows_dat _)) ?_
      exact fin _ (by simp [Act.great, h1, h2])

theorem Bs.shrink (h : Bs σ id b F) : Bs σ id b (fun i => F i ∧ i < σ.next) := by
  obtain ⟨s, ⟨rv, vv, hv, h1, h2⟩, hR⟩ := h
  exact ⟨s, ⟨rv, vv, hv, h1, fun i hi => ⟨h2 i hi, (h2 i hi).2⟩⟩, hR⟩
theorem Bs.wide (h : Bs σ id b F) (hG : ∀ i, F i → G i) : Bs σ id b G := let ⟨s, h1, h2⟩ := h; ⟨s, h1.wide hG, h2⟩
theorem Small.of_act {a : Act} : True := trivial

/-- What a call leaves. -/
structure Left (σ : AHeap) (id : Nat) (F : Nat → Prop) (b : B) (τ : AHeap) : Prop where
  bs : Bs τ id b (Wide F σ.next)
  off : Off F σ τ
theorem Left.of {φ : AHeap} {F' : Nat → Prop} (hF : ∀ i, F' i → F i) (g : Grows σ φ) (h1 : Bs τ id b (Wide F' φ.next)) (h2 : Off F' φ τ) : Left σ id F b τ := by
  refine ⟨h1.wide fun i hi => ?_, (Off.grows g).trans (h2.wide fun i hi => .inl (hF i hi))⟩
  rcases hi with hi | hi
  · exact .inl (hF i hi)
  · have := g.next; exact .inr (by omega)
theorem Left.of' {φ : AHeap} {F' : Nat → Prop} (hF : ∀ i, F' i → F i) (g : Grows σ φ) (h1 : Bs τ id b F') (h2 : Off F' φ τ) : Left σ id F b τ :=
  Left.of hF g (h1.wide fun i hi => .inl hi) h2
theorem Left.set {q : Nat} {o : AObj} (h : Left σ id F b τ) (hb : Bs (τ.set q o) id b (Wide F σ.next)) (hq : σ.next ≤ q) : Left σ id F b (τ.set q o) :=
  ⟨hb, h.off.next, fun i hi hlt => by rw [get_set, if_neg (by omega)]; exact h.off.get i hi hlt⟩
theorem Bs.set {q : Nat} {o : AObj} (h : Bs τ id b F) (hq : ¬ F q) : Bs (τ.set q o) id b F := h.off (G := fun i => i = q) ⟨Nat.le_refl _, fun i hi _ => by rw [get_set, if_neg hi]⟩ fun i hi _ e => hq (e ▸ hi)
end Go.Abs.Bas
