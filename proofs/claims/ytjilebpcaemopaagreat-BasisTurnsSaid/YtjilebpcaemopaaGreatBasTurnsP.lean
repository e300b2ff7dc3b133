/-
  BasisTurns: the law.
-/
import Derived.Test.YtjilebpcaemopaaGreatBasZ
set_option linter.unusedVariables false
set_option linter.unusedSimpArgs false
namespace Go.Abs.Bas
open Go Go.Abs Go.Abs.At Go.Proofs.BasD
attribute [local simp] Nat.add_assoc
variable {σ : AHeap} {k kp : AV → AHeap → Prop}

/-! ### Plain -/
structure Took (b c : B) (l : List Act) : Prop where
  regions : c.regions = b.regions
  vars : c.vars = b.vars
  R : ∀ p, p ∈ c.R ↔ p ∈ b.R ∨ ∃ a ∈ l, a.kind = 2 ∧ there a.L b.regions = true ∧ p ∈ pairsOf a.L
  V : ∀ p, p ∈ c.V ↔ p ∈ b.V ∨ ∃ a ∈ l, a.kind = 3 ∧ there a.L b.vars = true ∧ p ∈ pairsOf a.L
  L : ∀ t, t ∈ c.L ↔ t ∈ b.L ∨ ∃ a ∈ l, a.kind ≠ 2 ∧ a.kind ≠ 3 ∧ (a.atoms.all (okA b) && inB a.v b.vars && there a.L b.vars) = true ∧ t = ⟨a.v, a.atoms, a.L⟩
theorem Took.act {b : B} {a : Act} (ha : 2 ≤ a.kind) : Took b (b.act a) [a] := by
  have h0 : ¬ a.kind = 0 := by omega
  have h1 : ¬ a.kind = 1 := by omega
  unfold B.act
  rw [if_neg h0, if_neg h1]
  by_cases h2 : a.kind = 2
  · rw [if_pos h2]
    unfold B.join
    cases ht : there a.L b.regions
    · refine ⟨rfl, rfl, fun p => ?_, fun p => ?_, fun t => ?_⟩ <;> simp [h2, ht]
    · refine ⟨rfl, rfl, fun p => ?_, fun p => ?_, fun t => ?_⟩
      · simp [h2, ht]; exact Or.comm
      · simp [h2]
      · simp [h2]
  rw [if_neg h2]
  by_cases h3 : a.kind = 3
  · rw [if_pos h3]
    unfold B.joinVars
    cases ht : there a.L b.vars
    · refine ⟨rfl, rfl, fun p => ?_, fun p => ?_, fun t => ?_⟩ <;> simp [h3, ht]
    · refine ⟨rfl, rfl, fun p => ?_, fun p => ?_, fun t => ?_⟩
      · simp [h3]
      · simp [h3, ht]; exact Or.comm
      · simp [h3]
  rw [if_neg h3]
  unfold B.add
  cases hc : (a.atoms.all (okA b) && inB a.v b.vars && there a.L b.vars)
  · refine ⟨rfl, rfl, fun p => ?_, fun p => ?_, fun t => ?_⟩
    · simp [h2]
    · simp [h3]
    · simp only [Bool.false_eq_true, if_false, List.mem_singleton]
      constructor
      · exact .inl
      · rintro (h | ⟨a', rfl, _, _, h, _⟩)
        · exact h
        · rw [hc] at h; cases h
  · refine ⟨rfl, rfl, fun p => ?_, fun p => ?_, fun t => ?_⟩
    · simp [h2]
    · simp [h3]
    · simp only [if_true, List.mem_append, List.mem_singleton]
      constructor
      · rintro (h | h)
        · exact .inl h
        · exact .inr ⟨a, rfl, h2, h3, hc, h⟩
      · rintro (h | ⟨a', rfl, _, _, _, h⟩)
        · exact .inl h
        · exact .inr h
theorem okA_fun {b c : B} (h : b.regions = c.regions) : okA b = okA c := by funext a; exact okA_congr h a
theorem Took.trans {b c d : B} {l m : List Act} (h : Took b c l) (k : Took c d m) : Took b d (l ++ m) := by
  have e1 := h.regions
  have e2 := h.vars
  have e3 : okA c = okA b := okA_fun e1
  refine ⟨k.regions.trans e1, k.vars.trans e2, fun p => ?_, fun p => ?_, fun t => ?_⟩
  · rw [k.R, h.R, e1]
    simp only [List.mem_append]
    constructor
    · rintro ((h | ⟨a, h1, h2⟩) | ⟨a, h1, h2⟩)
      · exact .inl h
      · exact .inr ⟨a, .inl h1, h2⟩
      · exact .inr ⟨a, .inr h1, h2⟩
    · rintro (h | ⟨a, h1 | h1, h2⟩)
      · exact .inl (.inl h)
      · exact .inl (.inr ⟨a, h1, h2⟩)
      · exact .inr ⟨a, h1, h2⟩
  · rw [k.V, h.V, e2]
    simp only [List.mem_append]
    constructor
    · rintro ((h | ⟨a, h1, h2⟩) | ⟨a, h1, h2⟩)
      · exact .inl h
      · exact .inr ⟨a, .inl h1, h2⟩
      · exact .inr ⟨a, .inr h1, h2⟩
    · rintro (h | ⟨a, h1 | h1, h2⟩)
      · exact .inl (.inl h)
      · exact .inl (.inr ⟨a, h1, h2⟩)
      · exact .inr ⟨a, h1, h2⟩
  · rw [k.L, h.L, e2, e3]
    simp only [List.mem_append]
    constructor
    · rintro ((h | ⟨a, h1, h2⟩) | ⟨a, h1, h2⟩)
      · exact .inl h
      · exact .inr ⟨a, .inl h1, h2⟩
      · exact .inr ⟨a, .inr h1, h2⟩
    · rintro (h | ⟨a, h1 | h1, h2⟩)
      · exact .inl (.inl h)
      · exact .inl (.inr ⟨a, h1, h2⟩)
      · exact .inr ⟨a, h1, h2⟩
theorem Took.nil (b : B) : Took b b [] := ⟨rfl, rfl, by simp, by simp, by simp⟩
theorem Took.same {b c d : B} {l m : List Act} (h : Took b c l) (k : Took b d m) (hm : ∀ a, a ∈ l ↔ a ∈ m) : c.Same d := by
  refine ⟨h.regions.trans k.regions.symm, h.vars.trans k.vars.symm, fun p => ?_, fun p => ?_, fun t => ?_⟩
  · rw [h.R, k.R]; simp only [hm]
  · rw [h.V, k.V]; simp only [hm]
  · rw [h.L, k.L]; simp only [hm]

/-! ### Two bases -/
def Pair (φ : AHeap) (id : Nat) (b : B) (id2 : Nat) (c : B) (P : Nat → Prop) : Prop :=
  ∃ F G, Bs φ id b F ∧ Bs φ id2 c G ∧ (∀ j, F j → ¬ G j) ∧ (∀ j, F j → j < φ.next ∧ ¬ P j) ∧ (∀ j, G j → j < φ.next ∧ ¬ P j)
theorem Pair.symm {φ : AHeap} {id id2 : Nat} {b c : B} {P : Nat → Prop} (h : Pair φ id b id2 c P) : Pair φ id2 c id b P := by
  obtain ⟨F, G, h1, h2, h3, h4, h5⟩ := h
  exact ⟨G, F, h2, h1, fun j a b => h3 j b a, h5, h4⟩
theorem Pair.step {φ ψ : AHeap} {id id2 : Nat} {b' c : B} {F G P : Nat → Prop} (h2 : Bs φ id2 c G) (h3 : ∀ j, F j → ¬ G j) (h4 : ∀ j, F j → j < φ.next ∧ ¬ P j) (h5 : ∀ j, G j → j < φ.next ∧ ¬ P j) (hP : ∀ j, P j → j < φ.next) (hL : Left φ id F b' ψ) : Pair ψ id b' id2 c P := by
  have hn := hL.off.next
  refine ⟨fun j => Wide F φ.next j ∧ j < ψ.next, G, hL.bs.shrink, h2.off hL.off fun j hg _ hf => h3 j hf hg, fun j hj hg => ?_, fun j hj => ⟨hj.2, fun hp => ?_⟩, fun j hj => ⟨by have := (h5 j hj).1; omega, (h5 j hj).2⟩⟩
  · have := (h5 j hg).1
    rcases hj.1 with h | h
    · exact h3 j h hg
    · omega
  · rcases hj.1 with h | h
    · exact (h4 j h).2 hp
    · have := hP j hp; omega
theorem Pair.grows {φ ψ : AHeap} {id id2 : Nat} {b c : B} {P : Nat → Prop} (h : Pair φ id b id2 c P) (g : Grows φ ψ) {Q : Nat → Prop} (hQ : ∀ j, Q j → P j ∨ φ.next ≤ j) : Pair ψ id b id2 c Q := by
  obtain ⟨F, G, h1, h2, h3, h4, h5⟩ := h
  have hn := g.next
  refine ⟨F, G, h1.grows g, h2.grows g, h3, fun j hj => ⟨by have := (h4 j hj).1; omega, fun hq => ?_⟩, fun j hj => ⟨by have := (h5 j hj).1; omega, fun hq => ?_⟩⟩
  · have := h4 j hj
    rcases hQ j hq with h | h
    · exact this.2 h
    · omega
  · have := h5 j hj
    rcases hQ j hq with h | h
    · exact this.2 h
    · omega
theorem law_turns {n : Int} (hn0 : 0 ≤ n) {acts : List Act} {l : List Int} : Ev PR 3 [u8 n, .sl false 4 (acts.map Act.av), rhosV l] σ (fun x _ => x = .val (.bool true)) kp := by
  apply F3_ev; unfold F3
  have hy : ∀ σ : AHeap, RowG σ 1 (rhosV l) (irows l) := fun σ => RowG.rhos l
  obtain ⟨K, hK⟩ : ∃ K : AV → AHeap → Prop, ∀ x φ, K x φ ↔ x = .val (.bool true) := ⟨_, fun _ _ => Iff.rfl⟩
  rw [show (fun (x : AV) (_ : AHeap) => x = .val (.bool true)) = K from by funext x φ; rw [hK]]
  have hKt : ∀ φ, K (bool true) φ := fun φ => (hK _ _).2 rfl
  clear hK
  simp only [pureR_some, stepK_some, aBin_gtr]
  by_cases h0 : 10 < n
  · simp [h0]
    exact awake_ev (hKt _)
  simp only [h0, decide_false, gK_ff, aLenK_sl, List.length_map, pureR_some, stepK_some, aBin_gtr, aPick_some, cond_false]
  by_cases h1 : 40 < acts.length
  · have c1 : (40 : Int) < acts.length := by omega
    simp [c1]
    exact awake_ev (hKt _)
  have c1 : ¬ (40 : Int) < acts.length := by omega
  simp only [c1, decide_false, gK_ff]
  refine stepP (hy σ).lenI ?_
  simp only [pureR_some, stepK_some, aBin_gtr, aPick_some, cond_false]
  by_cases h2 : 20 < l.length
  · have c2 : (20 : Int) < l.length := by omega
    simp [c2]
    exact awake_ev (hKt _)
  have c2 : ¬ (20 : Int) < l.length := by omega
  simp only [c2, decide_false, condK_false]
  refine new_ev fun τ0 g0 hb0 => ?_
  refine new_ev fun τ1 g1 hb1 => ?_
  have hp0 : Pair τ1 σ.next {} τ0.next {} (fun _ => False) := by
    refine ⟨_, _, hb0.shrink.grows g1, hb1.shrink, fun j h h' => by omega, fun j h => ⟨by have := g1.next; omega, fun h => h⟩, fun j h => ⟨h.2, fun h => h⟩⟩
  generalize σ.next = id at hp0 ⊢
  generalize τ0.next = id2 at hp0 ⊢
  have s0 : ∀ i : Nat, i ≤ 10 → Grown ⟨i, i, [], [], []⟩ 10 := fun i hi => ⟨⟨by simp, by simp, by simp⟩, hi, hi, by simp, by simp, by simp, by simp⟩
  have s1 : ∀ i : Nat, i < 10 → Small ⟨i + 1, i, [], [], []⟩ := fun i hi => ⟨⟨by simp, by simp, by simp⟩, by simp; omega, by simp; omega, by simp, by simp⟩
  obtain ⟨N, rfl⟩ : ∃ N : Nat, n = N := ⟨n.toNat, by omega⟩
  obtain ⟨J1, hJ1⟩ : ∃ J : AFrame → AHeap → Prop, ∀ fr φ, J fr φ ↔ (fr = [(1, .sl false 4 (acts.map Act.av)), (2, rhosV l), (7, .ptr id 0 0), (8, .ptr id2 0 0)] ∧ Pair φ id ⟨N, N, [], [], []⟩ id2 ⟨N, N, [], [], []⟩ (fun _ => False)) := ⟨_, fun _ _ => Iff.rfl⟩
  obtain ⟨J2, hJ2⟩ : ∃ J : AFrame → AHeap → Prop, ∀ fr φ, J fr φ ↔ (fr = [(1, .sl false 4 (acts.map Act.av)), (2, rhosV l), (7, .ptr id 0 0), (8, .ptr id2 0 0)] ∧ Pair φ id ⟨N, N, [], [], []⟩ id2 ⟨N, N, [], [], []⟩ (fun _ => False) ∧ ∀ a ∈ acts, a.great = false ∧ 2 ≤ a.kind) := ⟨_, fun _ _ => Iff.rfl⟩
  obtain ⟨J3, hJ3⟩ : ∃ J : AFrame → AHeap → Prop, ∀ fr φ, J fr φ ↔ (fr = [(2, rhosV l), (7, .ptr id 0 0), (8, .ptr id2 0 0)] ∧ ∃ b c, Grown b 60 ∧ Grown c 60 ∧ b.Same c ∧ Pair φ id b id2 c (fun _ => False)) := ⟨_, fun _ _ => Iff.rfl⟩
  refine seqW_by J1 ?_ ?_
  · refine loopW_by (fun i : Nat => [(0, u8 N), (1, .sl false 4 (acts.map Act.av)), (2, rhosV l), (7, .ptr id 0 0), (8, .ptr id2 0 0), (9, int i)])
      (fun i φ => i ≤ N ∧ Pair φ id ⟨i, i, [], [], []⟩ id2 ⟨i, i, [], [], []⟩ (fun _ => False))
      (fun fr _ => N - (intOf (look fr 9)).toNat) 0 (by simp) ⟨by simp, hp0⟩ ?_
    rintro i φ ⟨hi, hp⟩
    simp only [look_hit, look_miss, ne_eq, Nat.reduceEqDiff, not_false_eq_true, aConv_int, pureR_some, stepK_some, aBin_lss]
    rw [wrap64 (by omega)]
    by_cases hiN : i < N
    · have hiN' : (i : Int) < N := by omega
      simp only [hiN', decide_true, condK_true]
      obtain ⟨F, G, p1, p2, p3, p4, p5⟩ := hp
      refine region_ev p1 ((s0 i (by omega)).fair (by omega)).small fun ψ1 t1 o1 => ?_
      obtain ⟨F, G, p1, p2, p3, p4, p5⟩ := Pair.step (P := fun _ => False) p2 p3 p4 p5 (fun _ h => h.elim) ⟨t1, o1⟩
      refine var_ev p1 (s1 i (by omega)) fun ψ2 t2 o2 => ?_
      obtain ⟨G, F, p2, p1, p3, p5, p4⟩ := (Pair.step (P := fun _ => False) p2 p3 p4 p5 (fun _ h => h.elim) ⟨t2, o2⟩)
      have p3' := fun j a b => p3 j b a
      refine region_ev p1 ((s0 i (by omega)).fair (by omega)).small fun ψ3 t3 o3 => ?_
      obtain ⟨F, G, p1, p2, p3, p4, p5⟩ := Pair.step (P := fun _ => False) p2 p3' p4 p5 (fun _ h => h.elim) ⟨t3, o3⟩
      refine var_ev p1 (s1 i (by omega)) fun ψ4 t4 o4 => ?_
      have hp' := (Pair.step (P := fun _ => False) p2 p3 p4 p5 (fun _ h => h.elim) ⟨t4, o4⟩).symm
      simp
      rw [wrap64 (by omega)]
      exact ⟨⟨i + 1, by simp, by omega, hp'⟩, by omega⟩
    · have hiN' : ¬ (i : Int) < N := by omega
      obtain rfl : i = N := by omega
      simp only [hiN', decide_false, condK_false]
      exact (hJ1 _ _).2 ⟨rfl, hp⟩
  intro fr φ hj
  obtain ⟨rfl, hp⟩ := (hJ1 _ _).1 hj
  refine seqW_by J2 ?_ ?_
  · refine loopW_by (fun i : Nat => [(1, .sl false 4 (acts.map Act.av)), (2, rhosV l), (7, .ptr id 0 0), (8, .ptr id2 0 0), (10, int i)])
      (fun i ψ => i ≤ acts.length ∧ ψ = φ ∧ ∀ a ∈ acts.take i, a.great = false ∧ 2 ≤ a.kind)
      (fun fr _ => acts.length - (intOf (look fr 10)).toNat) 0 (by simp) ⟨by simp, rfl, by simp⟩ ?_
    rintro i ψ ⟨hi, rfl, hall⟩
    simp only [look_hit, look_miss, ne_eq, Nat.reduceEqDiff, not_false_eq_true, aLenK_sl, List.length_map, pureR_some, stepK_some, aBin_lss]
    by_cases hil : i < acts.length
    · obtain ⟨a, ha⟩ := get_some hil
      have haa := acts_at ha
      have hal : ∀ ω : AHeap, aLoad true 4 (.ref a.av) ω = some (.agg a.av) := fun ω => by simp
      have hil' : (i : Int) < acts.length := by omega
      simp only [hil', decide_true, condK_true]
      refine stepP (haa ψ) ?_
      refine stepP (hal ψ) ?_
      refine great_ev ?_
      cases hgr : a.great
      · simp only [gK_ff]
        refine stepP (haa ψ) ?_
        simp
        by_cases hk2 : a.kind < 2
        · simp [hk2]
          exact awake_ev (hKt _)
        · simp [hk2]
          rw [wrap64 (by omega)]
          refine ⟨⟨i + 1, by simp, by omega, fun x hx => ?_⟩, by omega⟩
          rw [List.take_add_one, ha] at hx
          rcases List.mem_append.1 hx with hx | hx
          · exact hall x hx
          · simp at hx; subst hx; exact ⟨hgr, by omega⟩
      · simp
        exact awake_ev (hKt _)
    · have hil' : ¬ (i : Int) < acts.length := by omega
      rw [List.take_of_length_le (by omega)] at hall
      simp only [hil', decide_false, condK_false]
      exact (hJ2 _ _).2 ⟨rfl, hp, hall⟩
  clear hp hj
  intro fr φ hj
  obtain ⟨rfl, hp, hall⟩ := (hJ2 _ _).1 hj
  refine stepP (x := .agg [int 0, int 0, nilS, nilS, nilS]) rfl ?_
  simp only [aAlloc_some, stepK_some]
  refine stepK_of (x := .val undef) (τ := (φ.new (.cells 5 [[int 0, int 0, nilS, nilS, nilS]])).set φ.next (.cells 5 [[int 0, int 0, nilS, nilS, nilS]])) (by simp) ?_
  have gq : Grows φ ((φ.new (.cells 5 [[int 0, int 0, nilS, nilS, nilS]])).set φ.next (.cells 5 [[int 0, int 0, nilS, nilS, nilS]])) := (Grows.new _ _).set (Nat.le_refl _) _
  have hp1 := hp.grows gq (Q := fun j => j = φ.next) (fun j hj => .inr (by omega))
  have hq4 : ((φ.new (.cells 5 [[int 0, int 0, nilS, nilS, nilS]])).set φ.next (.cells 5 [[int 0, int 0, nilS, nilS, nilS]])).get φ.next = some (.cells 5 [bcells {} nilS nilS nilS]) := by simp
  have hqn : φ.next < ((φ.new (.cells 5 [[int 0, int 0, nilS, nilS, nilS]])).set φ.next (.cells 5 [[int 0, int 0, nilS, nilS, nilS]])).next := by simp
  generalize (φ.new (.cells 5 [[int 0, int 0, nilS, nilS, nilS]])).set φ.next (.cells 5 [[int 0, int 0, nilS, nilS, nilS]]) = φ0 at hp1 hq4 hqn ⊢
  generalize φ.next = q at hp1 hq4 hqn ⊢
  clear hp hj gq
  have hd0 : BRowD {} nilS nilS nilS := ⟨.inl ⟨rfl, rfl⟩, .inl ⟨rfl, rfl⟩, .inl ⟨rfl, rfl⟩⟩
  have hf0 : Fair {} := Grown.empty.fair (by omega)
  have hN10 : N ≤ 10 := by omega
  refine seqW_by J3 ?_ ?_
  · refine loopW_by (fun i : Nat => [(1, .sl false 4 (acts.map Act.av)), (2, rhosV l), (7, .ptr id 0 0), (8, .ptr id2 0 0), (11, .ptr q 0 0), (12, int i)])
      (fun i φ => i ≤ acts.length ∧ q < φ.next ∧ φ.get q = some (.cells 5 [bcells {} nilS nilS nilS]) ∧ ∃ b c, Grown b (10 + i) ∧ Grown c (10 + i) ∧ Took ⟨N, N, [], [], []⟩ b (acts.take i) ∧ Took ⟨N, N, [], [], []⟩ c (acts.reverse.take i) ∧ Pair φ id b id2 c (fun j => j = q))
      (fun fr _ => acts.length - (intOf (look fr 12)).toNat) 0 (by simp) ⟨by simp, hqn, hq4, _, _, s0 N hN10, s0 N hN10, Took.nil _, Took.nil _, hp1⟩ ?_
    rintro i φ ⟨hi, hqn, hq4, b, c, gb, gc, tb, tc, hp⟩
    simp only [look_hit, look_miss, ne_eq, Nat.reduceEqDiff, not_false_eq_true, aLenK_sl, List.length_map, pureR_some, stepK_some, aBin_lss]
    by_cases hil : i < acts.length
    · obtain ⟨a, ha⟩ := get_some hil
      obtain ⟨d, hd⟩ := get_some (l := acts) (i := acts.length - 1 - i) (by omega)
      have hdr : acts.reverse[i]? = some d := by rw [List.getElem?_reverse hil]; exact hd
      have haa := acts_at ha
      have hdd := acts_at hd
      obtain ⟨ga, ka⟩ := hall a (List.mem_of_getElem? ha)
      obtain ⟨gd, kd⟩ := hall d (List.mem_of_getElem? hd)
      have hal : ∀ (a : Act) (ω : AHeap), aLoad true 4 (.ref a.av) ω = some (.agg a.av) := fun a ω => by simp
      have hil' : (i : Int) < acts.length := by omega
      simp only [hil', decide_true, condK_true]
      refine stepP (x := .agg (bcells {} nilS nilS nilS)) (by simp [hq4]) ?_
      refine stepP (haa φ) ?_
      refine stepP (hal a φ) ?_
      obtain ⟨F, G, p1, p2, p3, p4, p5⟩ := hp
      refine does_ev p1 (gb.fair (by omega)).small hd0 hf0 ga fun ψ _ _ _ ok _ hL _ => ?_
      have hqF : ¬ F q := fun h => (p4 q h).2 rfl
      have e4 : ψ.get q = some (.cells 5 [bcells {} nilS nilS nilS]) := by rw [hL.off.get q hqF hqn]; exact hq4
      have en := hL.off.next
      obtain ⟨G, F, p2, p1, p3, p5, p4⟩ := Pair.step (P := fun j => j = q) p2 p3 p4 p5 (fun j h => by omega) hL
      have p3' := fun j a b => p3 j b a
      refine stepP (x := .agg (bcells {} nilS nilS nilS)) (by simp [e4]) ?_
      simp only [aLenK_sl, List.length_map, pureR_some, stepK_some, aBin_sub]
      rw [show IntKind.i64.wrap ((acts.length : Int) - 1) = (acts.length : Int) - 1 from wrap64 (by omega), wrap64 (by omega)]
      have ei : (acts.length : Int) - 1 - i = ((acts.length - 1 - i : Nat) : Int) := by omega
      rw [ei]
      refine stepP (hdd ψ) ?_
      refine stepP (hal d ψ) ?_
      refine does_ev p1 (gc.fair (by omega)).small hd0 hf0 gd fun ω _ _ _ ok2 _ hL2 _ => ?_
      have hqF2 : ¬ F q := fun h => (p4 q h).2 rfl
      have e5 : ω.get q = some (.cells 5 [bcells {} nilS nilS nilS]) := by rw [hL2.off.get q hqF2 (by omega)]; exact e4
      have en2 := hL2.off.next
      have hp' := (Pair.step (P := fun j => j = q) p2 p3' p4 p5 (fun j h => by omega) hL2).symm
      simp only [aBin_add, pureR_some, stepK_some]
      rw [wrap64 (by omega)]
      have ta : Took ⟨N, N, [], [], []⟩ (b.act a) (acts.take (i + 1)) := by
        rw [List.take_add_one, ha]; exact tb.trans (Took.act ka)
      have td : Took ⟨N, N, [], [], []⟩ (c.act d) (acts.reverse.take (i + 1)) := by
        rw [List.take_add_one, hdr]; exact tc.trans (Took.act kd)
      refine ⟨⟨i + 1, by simp, by omega, by omega, e5, _, _, gb.act ga, gc.act gd, ta, td, hp'⟩, ?_⟩
      simp only [look_hit, look_miss, ne_eq, Nat.reduceEqDiff, not_false_eq_true, intOf_val]
      omega
    · have hil' : ¬ (i : Int) < acts.length := by omega
      have hie : i = acts.length := by omega
      subst hie
      rw [List.take_length] at tb
      rw [List.take_of_length_le (by simp)] at tc
      simp only [hil', decide_false, condK_false]
      obtain ⟨F, G, p1, p2, p3, p4, p5⟩ := hp
      exact (hJ3 _ _).2 ⟨rfl, b, c, gb.mono (by omega), gc.mono (by omega), tb.same tc (fun a => by simp), F, G, p1, p2, p3, fun j hj => ⟨(p4 j hj).1, fun h => h⟩, fun j hj => ⟨(p5 j hj).1, fun h => h⟩⟩
  clear hp1 hq4 hqn
  intro fr φ hj
  obtain ⟨rfl, b, c, gb, gc, hsame, F, G, p1, p2, _, _, _⟩ := (hJ3 _ _).1 hj
  have hsb := (gb.fair (by omega)).small
  have hsc := (gc.fair (by omega)).small
  simp only [look_hit, look_miss, ne_eq, Nat.reduceEqDiff, not_false_eq_true]
  refine comes_ev p1 hsb (hy φ) (by omega) fun M hM => ?_
  simp only [aExtract_tup, List.getElem?_cons_zero, List.getElem?_cons_succ, pureR_some, stepK_some]
  refine comes_ev p2 hsc (hy φ) (by omega) fun M' hM' => ?_
  obtain ⟨rfl, e2⟩ := hsame.comes hM hM'
  obtain ⟨hm1, hm2⟩ := comesA_len hsb hM
  rw [← e2]
  simp
  refine equalA_ev (RowG.eff _) (RowG.eff _) (by omega) (by omega) ?_
  simp
  refine equalInts_ev (l := M) (m := M) (by omega) (by omega) (RowG.rhos _).1 (RowG.rhos _).1 ?_
  simp
  exact awake_ev (hKt _)
end Go.Abs.Bas
