/-
  The basis in the program: what changes it.
-/
import Derived.Test.YtjilebpcaemopaaGreatBasE
set_option linter.unusedVariables false
set_option linter.unusedSimpArgs false
namespace Go.Abs.Bas
open Go Go.Abs Go.Abs.At Go.Proofs.BasD
attribute [local simp] Nat.add_assoc

/-! ### Plain -/
theorem nm_big : ∀ {l : List (Int × Int)} {n : Int}, (∀ p ∈ l, p.1 < n ∧ p.2 < n) → nm l n = n
  | [], n, _ => rfl
  | p :: l, n, h => by
    have ih := nm_big (l := l) fun q hq => h q (List.mem_cons_of_mem _ hq)
    have h0 := h p (List.mem_cons_self ..)
    have h1 := nm_le l p.1
    have h2 := nm_le l p.2
    simp only [nm, joinF, ih]
    split <;> omega
theorem FOk.grow {up : List Int} {R : List (Int × Int)} (h : FOk up R) (hR : ∀ p ∈ R, inB p.1 up.length = true ∧ inB p.2 up.length = true) (hb : up.length < 100000) : FOk (up ++ [(up.length : Int)]) R where
  len := by simp; omega
  at' i u hu := by
    by_cases hi : i < up.length
    · rw [List.getElem?_append_left hi] at hu
      exact h.at' i u hu
    · have hlt := (List.getElem?_eq_some_iff.1 hu).1
      simp at hlt
      have : i = up.length := by omega
      subst this
      simp at hu
      subst hu
      refine ⟨by omega, by omega, rfl, fun _ => nm_big fun p hp => ?_⟩
      have := hR p hp
      rw [inB_iff, inB_iff] at this
      omega
theorem FOk.join {up : List Int} {R : List (Int × Int)} (h : FOk up R) {a b : Int} {m k : Nat} (hm : max (nm R a) (nm R b) = m) (hk : min (nm R a) (nm R b) = k) : FOk (up.set m (k : Int)) ((a, b) :: R) where
  len := by simp; exact h.len
  at' i u hu := by
    have eb : ∀ n, nm ((a, b) :: R) n = if nm R n = m then (k : Int) else nm R n := fun n => by simp only [nm, joinF, hm, hk]
    have ia := nm_idem R a
    have ib := nm_idem R b
    have hk2 : nm R (k : Int) = k := by rw [← hk]; rcases Int.le_total (nm R a) (nm R b) with hh | hh <;> simp [hh, Int.min_eq_left, Int.min_eq_right, ia, ib]
    have hm2 : nm R (m : Int) = m := by rw [← hm]; rcases Int.le_total (nm R a) (nm R b) with hh | hh <;> simp [hh, Int.max_eq_left, Int.max_eq_right, ia, ib]
    have hkm : (k : Int) ≤ m := by omega
    rw [List.getElem?_set] at hu
    split at hu
    · rename_i e
      subst e
      split at hu
      · cases hu
        refine ⟨by omega, by omega, ?_, fun e => ?_⟩
        · rw [eb, eb, hk2, hm2]; split <;> simp
        · rw [eb, hm2, if_pos rfl, e]
      · cases hu
    · rename_i e
      obtain ⟨h1, h2, h3, h4⟩ := h.at' i u hu
      refine ⟨h1, h2, ?_, fun e2 => ?_⟩
      · rw [eb, eb, h3]
      · rw [eb, h4 e2, if_neg (by omega)]

/-! ### The heap -/
theorem RowV.push {σ : AHeap} {v : AV} {sz : Nat} {els : List (List AV)} (h : RowV σ v sz els) (el : List AV) :
    let τ := (gone v σ).new (.cells sz (els ++ [el]))
    RowV τ (.own σ.next (els.length + 1)) sz (els ++ [el]) ∧ τ.next = σ.next + 1 ∧ ∀ i, i < σ.next → (∀ n, v ≠ .own i n) → τ.get i = σ.get i := by
  refine ⟨.inr ⟨σ.next, [], by simp, by simp, by rw [get_new, gone_next, if_pos rfl]; simp, by simp⟩, by simp, fun i hi hv => ?_⟩
  rw [get_new, gone_next, if_neg (by omega)]
  exact gone_get hv

theorem foot_lt {σ : AHeap} {id : Nat} {rv vv hv : AV} {s : IS} (h : BAt σ id rv vv hv s) {i : Nat} (hi : Foot id rv vv hv i) : i < σ.next := by
  have key : ∀ {v sz els n}, RowV σ v sz els → v = .own i n → i < σ.next := fun h e => by
    rcases h with ⟨h1, _⟩ | ⟨q, rest, h1, _, _, h2⟩
    · rw [h1] at e; cases e
    · rw [h1] at e; cases e; exact h2
  rcases hi with rfl | ⟨n, e | e | e⟩
  · exact h.lt
  · exact key h.r e
  · exact key h.v e
  · exact key h.h e
variable {σ τ : AHeap} {id : Nat} {rv vv hv : AV} {s : IS}
/-- A row of the three is another one. -/
theorem BAt.setR (h : BAt σ id rv vv hv s) {rv' : AV} {up' : List Int} (hn : σ.next ≤ τ.next) (ho : τ.get id = some (.cells 3 [[rv', vv, hv]])) (hr : RowV τ rv' 1 (irows up'))
    (hf : ∀ q n, rv' = .own q n → (∃ m, rv = .own q m) ∨ σ.next ≤ q) (hk : ∀ i, i ≠ id → i < σ.next → (∀ n, rv ≠ .own i n) → τ.get i = σ.get i) :
    BAt τ id rv' vv hv { s with up := up' } ∧ (∀ i, Foot id rv' vv hv i → Foot id rv vv hv i ∨ σ.next ≤ i) ∧ Off (Foot id rv vv hv) σ τ := by
  refine ⟨⟨ho, Nat.lt_of_lt_of_le h.lt hn, hr, h.v.mono hn fun q n e hq => hk q ?_ hq fun m e' => h.rvv q m n e' e, h.h.mono hn fun q n e hq => hk q ?_ hq fun m e' => h.rhv q m n e' e, ?_, h.vi, h.hi, ?_, ?_, h.vhv⟩, ?_, hn, ?_⟩
  · rintro rfl; exact h.vi n e
  · rintro rfl; exact h.hi n e
  · intro n e
    rcases hf _ _ e with ⟨m, e'⟩ | hq
    · exact h.ri m e'
    · have := h.lt; omega
  · intro q n m e e'
    rcases hf _ _ e with ⟨k, e2⟩ | hq
    · exact h.rvv q k m e2 e'
    · have := foot_lt h (i := q) (.inr ⟨m, .inr (.inl e')⟩); omega
  · intro q n m e e'
    rcases hf _ _ e with ⟨k, e2⟩ | hq
    · exact h.rhv q k m e2 e'
    · have := foot_lt h (i := q) (.inr ⟨m, .inr (.inr e')⟩); omega
  · rintro i (rfl | ⟨n, e | e | e⟩)
    · exact .inl (.inl rfl)
    · rcases hf _ _ e with ⟨m, e'⟩ | hq
      · exact .inl (.inr ⟨m, .inl e'⟩)
      · exact .inr hq
    · exact .inl (.inr ⟨n, .inr (.inl e)⟩)
    · exact .inl (.inr ⟨n, .inr (.inr e)⟩)
  · intro i hi hlt
    exact hk i (fun e => hi (.inl e)) hlt fun n e => hi (.inr ⟨n, .inl e⟩)
theorem BAt.setV (h : BAt σ id rv vv hv s) {vv' : AV} {up' : List Int} (hn : σ.next ≤ τ.next) (ho : τ.get id = some (.cells 3 [[rv, vv', hv]])) (hr : RowV τ vv' 1 (irows up'))
    (hf : ∀ q n, vv' = .own q n → (∃ m, vv = .own q m) ∨ σ.next ≤ q) (hk : ∀ i, i ≠ id → i < σ.next → (∀ n, vv ≠ .own i n) → τ.get i = σ.get i) :
    BAt τ id rv vv' hv { s with vup := up' } ∧ (∀ i, Foot id rv vv' hv i → Foot id rv vv hv i ∨ σ.next ≤ i) ∧ Off (Foot id rv vv hv) σ τ := by
  refine ⟨⟨ho, Nat.lt_of_lt_of_le h.lt hn, h.r.mono hn fun q n e hq => hk q ?_ hq fun m e' => h.rvv q n m e e', hr, h.h.mono hn fun q n e hq => hk q ?_ hq fun m e' => h.vhv q m n e' e, h.ri, ?_, h.hi, ?_, h.rhv, ?_⟩, ?_, hn, ?_⟩
  · rintro rfl; exact h.ri n e
  · rintro rfl; exact h.hi n e
  · intro n e
    rcases hf _ _ e with ⟨m, e'⟩ | hq
    · exact h.vi m e'
    · have := h.lt; omega
  · intro q n m e' e
    rcases hf _ _ e with ⟨k, e2⟩ | hq
    · exact h.rvv q n k e' e2
    · have := foot_lt h (i := q) (.inr ⟨n, .inl e'⟩); omega
  · intro q n m e e'
    rcases hf _ _ e with ⟨k, e2⟩ | hq
    · exact h.vhv q k m e2 e'
    · have := foot_lt h (i := q) (.inr ⟨m, .inr (.inr e')⟩); omega
  · rintro i (rfl | ⟨n, e | e | e⟩)
    · exact .inl (.inl rfl)
    · exact .inl (.inr ⟨n, .inl e⟩)
    · rcases hf _ _ e with ⟨m, e'⟩ | hq
      · exact .inl (.inr ⟨m, .inr (.inl e')⟩)
      · exact .inr hq
    · exact .inl (.inr ⟨n, .inr (.inr e)⟩)
  · intro i hi hlt
    exact hk i (fun e => hi (.inl e)) hlt fun n e => hi (.inr ⟨n, .inr (.inl e)⟩)
theorem BAt.setH (h : BAt σ id rv vv hv s) {hv' : AV} {has' : List (List Atom × List Int)} (hn : σ.next ≤ τ.next) (ho : τ.get id = some (.cells 3 [[rv, vv, hv']])) (hr : RowV τ hv' 2 (has'.map hasRow))
    (hf : ∀ q n, hv' = .own q n → (∃ m, hv = .own q m) ∨ σ.next ≤ q) (hk : ∀ i, i ≠ id → i < σ.next → (∀ n, hv ≠ .own i n) → τ.get i = σ.get i) :
    BAt τ id rv vv hv' { s with has := has' } ∧ (∀ i, Foot id rv vv hv' i → Foot id rv vv hv i ∨ σ.next ≤ i) ∧ Off (Foot id rv vv hv) σ τ := by
  refine ⟨⟨ho, Nat.lt_of_lt_of_le h.lt hn, h.r.mono hn fun q n e hq => hk q ?_ hq fun m e' => h.rhv q n m e e', h.v.mono hn fun q n e hq => hk q ?_ hq fun m e' => h.vhv q n m e e', hr, h.ri, h.vi, ?_, h.rvv, ?_, ?_⟩, ?_, hn, ?_⟩
  · rintro rfl; exact h.ri n e
  · rintro rfl; exact h.vi n e
  · intro n e
    rcases hf _ _ e with ⟨m, e'⟩ | hq
    · exact h.hi m e'
    · have := h.lt; omega
  · intro q n m e' e
    rcases hf _ _ e with ⟨k, e2⟩ | hq
    · exact h.rhv q n k e' e2
    · have := foot_lt h (i := q) (.inr ⟨n, .inl e'⟩); omega
  · intro q n m e' e
    rcases hf _ _ e with ⟨k, e2⟩ | hq
    · exact h.vhv q n k e' e2
    · have := foot_lt h (i := q) (.inr ⟨n, .inr (.inl e')⟩); omega
  · rintro i (rfl | ⟨n, e | e | e⟩)
    · exact .inl (.inl rfl)
    · exact .inl (.inr ⟨n, .inl e⟩)
    · exact .inl (.inr ⟨n, .inr (.inl e)⟩)
    · rcases hf _ _ e with ⟨m, e'⟩ | hq
      · exact .inl (.inr ⟨m, .inr (.inr e')⟩)
      · exact .inr hq
  · intro i hi hlt
    exact hk i (fun e => hi (.inl e)) hlt fun n e => hi (.inr ⟨n, .inr (.inr e)⟩)
theorem In.of {F : Nat → Prop} {rv' vv' hv' : AV} {s' : IS} (hF : ∀ i, Foot id rv vv hv i → F i ∧ i < σ.next) (h : BAt τ id rv' vv' hv' s') (hf : ∀ i, Foot id rv' vv' hv' i → Foot id rv vv hv i ∨ σ.next ≤ i) : In τ id s' (Wide F σ.next) :=
  ⟨rv', vv', hv', h, fun i hi => ⟨by rcases hf i hi with h1 | h1; · exact .inl (hF i h1).1
                                     · exact .inr h1, foot_lt h hi⟩⟩
theorem Off.wide {F G : Nat → Prop} (h : Off F σ τ) (hG : ∀ i, F i → G i) : Off G σ τ := ⟨h.next, fun i hi hlt => h.get i (fun hf => hi (hG i hf)) hlt⟩

/-! ### Another region, another variable -/
variable {b : B} {F : Nat → Prop} {k kp : AV → AHeap → Prop}
theorem growR_ev (h : BAt σ id rv vv hv s) (hl : s.up.length < 100000) (hk : ∀ τ rv', BAt τ id rv' vv hv { s with up := s.up ++ [(s.up.length : Int)] } → (∀ i, Foot id rv' vv hv i → Foot id rv vv hv i ∨ σ.next ≤ i) → Off (Foot id rv vv hv) σ τ → k (int s.up.length) τ) : Ev PR 30 [.ptr id 0 0] σ k kp := by
  apply F30_ev; unfold F30
  simp [h.obj, h.r.rowG.lenI]
  refine stepK_of (aAppend_rows (by' := 8) h.r.rows h.r.ns (ys := [[int s.up.length]]) (.inr (.inl ⟨_, rfl⟩)) (by simp; omega)) ?_
  obtain ⟨p1, p2, p3⟩ := h.r.push [int s.up.length]
  simp at p1 p3
  simp
  have hlt := h.lt
  generalize hω : (gone rv σ).new (.cells 1 (irows s.up ++ [[int s.up.length]])) = ω at *
  have ho : ω.get id = some (.cells 3 [[rv, vv, hv]]) := by rw [p3 id hlt h.ri]; exact h.obj
  simp [ho]
  rw [wrap64 (by omega)]
  have := h.setR (τ := ω.set id (.cells 3 [[.own σ.next (s.up.length + 1), vv, hv]])) (rv' := .own σ.next (s.up.length + 1)) (up' := s.up ++ [(s.up.length : Int)]) (by simp; omega) (by simp)
    (RowV.mono (by simpa [irows] using p1) (by simp) fun q n e _ => by cases e; rw [get_set, if_neg (by omega)]) (fun q n e => by cases e; exact .inr (Nat.le_refl _))
    fun i h1 h2 h3 => by rw [get_set, if_neg h1]; exact p3 i h2 h3
  exact hk _ _ this.1 this.2.1 this.2.2
theorem growV_ev (h : BAt σ id rv vv hv s) (hl : s.vup.length < 100000) (hk : ∀ τ vv', BAt τ id rv vv' hv { s with vup := s.vup ++ [(s.vup.length : Int)] } → (∀ i, Foot id rv vv' hv i → Foot id rv vv hv i ∨ σ.next ≤ i) → Off (Foot id rv vv hv) σ τ → k (int s.vup.length) τ) : Ev PR 30 [.ptr id 0 1] σ k kp := by
  apply F30_ev; unfold F30
  simp [h.obj, h.v.rowG.lenI]
  refine stepK_of (aAppend_rows (by' := 8) h.v.rows h.v.ns (ys := [[int s.vup.length]]) (.inr (.inl ⟨_, rfl⟩)) (by simp; omega)) ?_
  obtain ⟨p1, p2, p3⟩ := h.v.push [int s.vup.length]
  simp at p1 p3
  simp
  have hlt := h.lt
  generalize hω : (gone vv σ).new (.cells 1 (irows s.vup ++ [[int s.vup.length]])) = ω at *
  have ho : ω.get id = some (.cells 3 [[rv, vv, hv]]) := by rw [p3 id hlt h.vi]; exact h.obj
  simp [ho]
  rw [wrap64 (by omega)]
  have := h.setV (τ := ω.set id (.cells 3 [[rv, .own σ.next (s.vup.length + 1), hv]])) (vv' := .own σ.next (s.vup.length + 1)) (up' := s.vup ++ [(s.vup.length : Int)]) (by simp; omega) (by simp)
    (RowV.mono (by simpa [irows] using p1) (by simp) fun q n e _ => by cases e; rw [get_set, if_neg (by omega)]) (fun q n e => by cases e; exact .inr (Nat.le_refl _))
    fun i h1 h2 h3 => by rw [get_set, if_neg h1]; exact p3 i h2 h3
  exact hk _ _ this.1 this.2.1 this.2.2
theorem Rep.region (h : Rep s b) (ok : b.Ok) (hl : s.up.length < 100000) : Rep { s with up := s.up ++ [(s.up.length : Int)] } { b with regions := b.regions + 1 } where
  r := h.r.grow (by rw [h.rl]; exact ok.R) hl
  rl := by simp [h.rl]
  v := h.v
  vl := h.vl
  hl := h.hl
  h := h.h
theorem region_ev (h : Bs σ id b F) (hs : Small b) (hk : ∀ τ, Bs τ id { b with regions := b.regions + 1 } (Wide F σ.next) → Off F σ τ → k (int b.regions) τ) : Ev PR 10 [.ptr id 0 0] σ k kp := by
  obtain ⟨s, ⟨rv, vv, hv, h, hF⟩, hR⟩ := h
  have hl : s.up.length < 100000 := by rw [hR.rl]; have := hs.regions; omega
  apply F10_ev; unfold F10
  simp
  refine growR_ev h hl fun τ rv' h1 h2 h3 => ?_
  rw [hR.rl]
  exact hk τ ⟨_, In.of hF h1 h2, hR.region hs.ok hl⟩ (h3.wide fun i hi => (hF i hi).1)
end Go.Abs.Bas
