/-
  BasisCopies: the law.
-/
import Derived.Test.YtjilebpcaemopaaGreatBasZ
set_option linter.unusedVariables false
set_option linter.unusedSimpArgs false
namespace Go.Abs.Bas
open Go Go.Abs Go.Abs.At Go.Proofs.BasD
attribute [local simp] Nat.add_assoc
variable {σ : AHeap} {k kp : AV → AHeap → Prop}

structure Side (φ : AHeap) (id q : Nat) (b : B) (F : Nat → Prop) : Prop where
  bs : Bs φ id b F
  nq : ¬ F q
  lt : q < φ.next
  rows : ∃ xR xV xL, φ.get q = some (.cells 5 [bcells b xR xV xL]) ∧ BRowD b xR xV xL
  below : ∀ j, F j → j < φ.next
def Two (φ : AHeap) (id q : Nat) (b : B) (id2 q2 : Nat) (c : B) : Prop :=
  ∃ F G, Side φ id q b F ∧ Side φ id2 q2 c G ∧ (∀ j, F j → ¬ G j) ∧ ¬ F q2 ∧ ¬ G q ∧ q ≠ q2
theorem Two.symm {φ : AHeap} {id q id2 q2 : Nat} {b c : B} (h : Two φ id q b id2 q2 c) : Two φ id2 q2 c id q b := by
  obtain ⟨F, G, h1, h2, h3, h4, h5, h6⟩ := h
  exact ⟨G, F, h2, h1, fun j hg hf => h3 j hf hg, h5, h4, Ne.symm h6⟩
theorem Side.step {φ ψ : AHeap} {id q : Nat} {b b' : B} {F G' : Nat → Prop} {xR xV xL : AV} (h : Side φ id q b F) (t1 : Bs ψ id b' G') (t2 : ¬ G' q) (t3 : q < ψ.next) (hd : BRowD b' xR xV xL) :
    Side (ψ.set q (.cells 5 [bcells b' xR xV xL])) id q b' (fun j => G' j ∧ j < ψ.next) :=
  ⟨(t1.set t2).shrink, fun h => t2 h.1, t3, ⟨xR, xV, xL, by simp, hd⟩, fun j h => h.2⟩
theorem Two.step {φ ψ : AHeap} {id q id2 q2 : Nat} {b b' c : B} {F G G' : Nat → Prop} {xR xV xL : AV} (h : Side φ id q b F) (o : Side φ id2 q2 c G) (hdis : ∀ j, F j → ¬ G j) (h1 : ¬ F q2) (h2 : ¬ G q) (h3 : q ≠ q2)
    (t1 : Bs ψ id b' G') (t2 : ¬ G' q) (t3 : ∀ j, G' j → F j ∨ φ.next ≤ j) (t4 : Off F φ ψ) (t5 : q < ψ.next) (hd : BRowD b' xR xV xL) : Two (ψ.set q (.cells 5 [bcells b' xR xV xL])) id q b' id2 q2 c := by
  have hn := t4.next
  obtain ⟨yR, yV, yL, o4, o5⟩ := o.rows
  have hlt := o.lt
  have ob : Bs ψ id2 c G := o.bs.off t4 fun j hg _ hf => hdis j hf hg
  refine ⟨fun j => G' j ∧ j < ψ.next, G, h.step t1 t2 t5 hd, ⟨ob.set h2, o.nq, by show q2 < ψ.next; omega, ⟨yR, yV, yL, by rw [get_set, if_neg (Ne.symm h3), t4.get q2 h1 hlt]; exact o4, o5⟩, fun j hj => by have := o.below j hj; show j < ψ.next; omega⟩, fun j hj hg => ?_, fun hj => ?_, h2, h3⟩
  · have := o.below j hg
    rcases t3 j hj.1 with h' | h'
    · exact hdis j h' hg
    · omega
  · rcases t3 q2 hj.1 with h' | h'
    · exact h1 h'
    · omega
theorem Side.grows {φ ψ : AHeap} {id q : Nat} {b : B} {F : Nat → Prop} (h : Side φ id q b F) (g : Grows φ ψ) : Side ψ id q b F := by
  obtain ⟨xR, xV, xL, h4, h5⟩ := h.rows
  exact ⟨h.bs.grows g, h.nq, by have := h.lt; have := g.next; omega, ⟨xR, xV, xL, by rw [g.get q h.lt]; exact h4, h5⟩, fun j hj => by have := h.below j hj; have := g.next; omega⟩
/-- A copy, and its document. -/
theorem Two.copied {φ ψ : AHeap} {id q id2 q2 : Nat} {b : B} {F G : Nat → Prop} {xR xV xL : AV} (h : Side φ id q b F) (g : Grows φ ψ) (hb : Bs ψ id2 b (fun j => φ.next ≤ j ∧ j ≠ q2)) (hq1 : φ.next ≤ q2) (hq2 : q2 < ψ.next) (hg : ψ.get q2 = some (.cells 5 [bcells b xR xV xL])) (hd : BRowD b xR xV xL) : Two ψ id q b id2 q2 b := by
  have hlt := h.lt
  refine ⟨F, fun j => (φ.next ≤ j ∧ j ≠ q2) ∧ j < ψ.next, h.grows g, ⟨hb.shrink, fun h => h.1.2 rfl, hq2, ⟨xR, xV, xL, hg, hd⟩, fun j h => h.2⟩, fun j hj hg => by have := h.below j hj; omega, fun hj => by have := h.below q2 hj; omega, fun hj => by omega, by omega⟩

theorem law_copies {acts more other : List Act} {v : Int} : Ev PR 6 [.sl false 4 (acts.map Act.av), .sl false 4 (more.map Act.av), .sl false 4 (other.map Act.av), int v] σ (fun x _ => x = .val (.bool true)) kp := by
  apply F6_ev; unfold F6
  obtain ⟨K, hK⟩ : ∃ K : AV → AHeap → Prop, ∀ x φ, K x φ ↔ x = .val (.bool true) := ⟨_, fun _ _ => Iff.rfl⟩
  rw [show (fun (x : AV) (_ : AHeap) => x = .val (.bool true)) = K from by funext x φ; rw [hK]]
  have hKt : ∀ φ, K (bool true) φ := fun φ => (hK _ _).2 rfl
  clear hK
  simp only [aLenK_sl, List.length_map, pureR_some, stepK_some, aBin_gtr]
  by_cases h1 : 40 < acts.length
  · have c1 : (40 : Int) < acts.length := by omega
    simp [c1]
    exact awake_ev (hKt _)
  have c1 : ¬ (40 : Int) < acts.length := by omega
  simp only [c1, decide_false, gK_ff, aLenK_sl, List.length_map, pureR_some, stepK_some, aBin_gtr, aPick_some, cond_false]
  by_cases h2 : 40 < more.length
  · have c2 : (40 : Int) < more.length := by omega
    simp [c2]
    exact awake_ev (hKt _)
  have c2 : ¬ (40 : Int) < more.length := by omega
  simp only [c2, decide_false, gK_ff, aLenK_sl, List.length_map, pureR_some, stepK_some, aBin_gtr, aPick_some, cond_false]
  by_cases h3 : 40 < other.length
  · have c3 : (40 : Int) < other.length := by omega
    simp [c3]
    exact awake_ev (hKt _)
  have c3 : ¬ (40 : Int) < other.length := by omega
  simp only [c3, decide_false, condK_false]
  refine new_ev fun τ0 g0 hb0 => ?_
  refine stepP (x := .agg [int 0, int 0, nilS, nilS, nilS]) rfl ?_
  simp only [aAlloc_some, stepK_some]
  refine stepK_of (x := .val undef) (τ := (τ0.new (.cells 5 [[int 0, int 0, nilS, nilS, nilS]])).set τ0.next (.cells 5 [[int 0, int 0, nilS, nilS, nilS]])) (by simp) ?_
  have hst : ∃ F, Side ((τ0.new (.cells 5 [[int 0, int 0, nilS, nilS, nilS]])).set τ0.next (.cells 5 [[int 0, int 0, nilS, nilS, nilS]])) σ.next τ0.next {} F :=
    ⟨_, hb0.shrink.grows ((Grows.new _ _).set (Nat.le_refl _) _), fun hf => by omega, by simp, ⟨nilS, nilS, nilS, by simp, ⟨.inl ⟨rfl, rfl⟩, .inl ⟨rfl, rfl⟩, .inl ⟨rfl, rfl⟩⟩⟩, fun j hj => by simp; omega⟩
  generalize (τ0.new (.cells 5 [[int 0, int 0, nilS, nilS, nilS]])).set τ0.next (.cells 5 [[int 0, int 0, nilS, nilS, nilS]]) = φ0 at hst
  generalize τ0.next = q at hst ⊢
  generalize σ.next = id at hst ⊢
  obtain ⟨J1, hJ1⟩ : ∃ J : AFrame → AHeap → Prop, ∀ fr φ, J fr φ ↔ (fr = [(1, .sl false 4 (more.map Act.av)), (2, .sl false 4 (other.map Act.av)), (3, int v), (9, .ptr id 0 0), (10, .ptr q 0 0)] ∧ ∃ b, Grown b 40 ∧ ∃ F, Side φ id q b F) := ⟨_, fun _ _ => Iff.rfl⟩
  obtain ⟨J2, hJ2⟩ : ∃ J : AFrame → AHeap → Prop, ∀ fr φ, J fr φ ↔ ∃ id2 q2, (fr = [(1, .sl false 4 (more.map Act.av)), (2, .sl false 4 (other.map Act.av)), (3, int v), (9, .ptr id 0 0), (10, .ptr q 0 0), (14, .ptr id2 0 0), (15, .ptr q2 0 0)] ∧ ∃ b, Grown b 40 ∧ Two φ id q b id2 q2 b) := ⟨_, fun _ _ => Iff.rfl⟩
  obtain ⟨J3, hJ3⟩ : ∃ J : AFrame → AHeap → Prop, ∀ fr φ, J fr φ ↔ ∃ id2 q2, (fr = [(2, .sl false 4 (other.map Act.av)), (3, int v), (9, .ptr id 0 0), (10, .ptr q 0 0), (14, .ptr id2 0 0), (15, .ptr q2 0 0)] ∧ ∃ b c, Grown b 80 ∧ Grown c 40 ∧ Two φ id q b id2 q2 c) := ⟨_, fun _ _ => Iff.rfl⟩
  obtain ⟨J4, hJ4⟩ : ∃ J : AFrame → AHeap → Prop, ∀ fr φ, J fr φ ↔ ∃ id2 q2, (fr = [(3, int v), (9, .ptr id 0 0), (10, .ptr q 0 0), (14, .ptr id2 0 0), (15, .ptr q2 0 0)] ∧ ∃ b c, Grown b 80 ∧ Grown c 80 ∧ Two φ id q b id2 q2 c) := ⟨_, fun _ _ => Iff.rfl⟩
  refine seqW_by J1 ?_ ?_
  · skip
    refine loopW_by (fun i : Nat => [(0, .sl false 4 (acts.map Act.av)), (1, .sl false 4 (more.map Act.av)), (2, .sl false 4 (other.map Act.av)), (3, int v), (9, .ptr id 0 0), (10, .ptr q 0 0), (11, int i)])
      (fun i φ => i ≤ acts.length ∧ ∃ b, Grown b i ∧ ∃ F, Side φ id q b F)
      (fun fr _ => acts.length - (intOf (look fr 11)).toNat) 0 (by simp) ?_ ?_
    · exact ⟨by simp, {}, Grown.empty, hst⟩
    rintro i φ ⟨hi, b, hg, F, sd⟩
    simp only [look_hit, look_miss, ne_eq, Nat.reduceEqDiff, not_false_eq_true, aLenK_sl, List.length_map, pureR_some, stepK_some, aBin_lss]
    by_cases hil : i < acts.length
    · obtain ⟨a, ha⟩ := get_some hil
      have haa := acts_at ha
      have hal : ∀ ω : AHeap, aLoad true 4 (.ref a.av) ω = some (.agg a.av) := fun ω => by simp
      have hil' : (i : Int) < acts.length := by omega
      simp only [hil', decide_true, condK_true]
      refine stepP (haa φ) ?_
      refine stepP (hal φ) ?_
      refine great_ev ?_
      cases hgr : a.great
      · simp only [condK_false]
        have hf := hg.fair (by omega)
        skip
        obtain ⟨xR, xV, xL, s4, s5⟩ := sd.rows
        obtain ⟨I, hI⟩ : ∃ I : AFrame → AHeap → Prop, ∀ fr ψ, I fr ψ ↔ ∃ q3, fr = [(0, .sl false 4 (acts.map Act.av)), (1, .sl false 4 (more.map Act.av)), (2, .sl false 4 (other.map Act.av)), (3, int v), (9, .ptr id 0 0), (10, .ptr q 0 0), (11, int i), (13, .ptr q3 0 0)] ∧ ∃ G' el xR xV xL, Bs ψ id (b.act a) G' ∧ ¬ G' q ∧ (∀ j, G' j → F j ∨ φ.next ≤ j) ∧ Off F φ ψ ∧ q < ψ.next ∧ ψ.get q = some (.cells 5 [el]) ∧ el.length = 5 ∧ ψ.get q3 = some (.cells 5 [bcells (b.act a) xR xV xL]) ∧ BRowD (b.act a) xR xV xL := ⟨_, fun _ _ => Iff.rfl⟩
        refine seqW_by I ?_ ?_
        · exact does_two (K := fun _ p ψ => I [(0, .sl false 4 (acts.map Act.av)), (1, .sl false 4 (more.map Act.av)), (2, .sl false 4 (other.map Act.av)), (3, int v), (9, .ptr id 0 0), (10, .ptr q 0 0), (11, int i), (13, p)] ψ) sd.bs sd.nq sd.lt s4 s5 sd.below hf.small hf ha hgr
            fun ok q3 ψ G' xR' xV' xL' hok t1 t2 t3 t4 t5 t6 t7 t8 => (hI _ _).2 ⟨q3, rfl, G', bcells b xR xV xL, xR', xV', xL', t1, t2, t3, t4, t5, t6, rfl, t7, t8⟩
        · intro fr ψ hj
          obtain ⟨q3, rfl, G', el, xR', xV', xL', t1, t2, t3, t4, t5, t6, t7, t8, t9⟩ := (hI _ _).1 hj
          have hg' := hg.act hgr
          have he : List.drop 5 el = [] := List.drop_eq_nil_of_le (by omega)
          simp only [look_hit, look_miss, ne_eq, Nat.reduceEqDiff, not_false_eq_true]
          refine stepP (x := .agg (bcells (b.act a) xR' xV' xL')) (by simp [t8]) ?_
          refine stepK_of (x := .val undef) (τ := ψ.set q (.cells 5 [bcells (b.act a) xR' xV' xL'])) (by simp [t6, t7]; rw [he]) ?_
          have hnew := sd.step t1 t2 t5 t9
          generalize ψ.set q (.cells 5 [bcells (b.act a) xR' xV' xL']) = ω at hnew ⊢
          simp only [look_hit, look_miss, ne_eq, Nat.reduceEqDiff, not_false_eq_true, aBin_add, pureR_some, stepK_some]
          rw [wrap64 (by omega)]
          refine ⟨⟨i + 1, by simp, by omega, _, hg', _, hnew⟩, ?_⟩
          simp only [look_hit, look_miss, ne_eq, Nat.reduceEqDiff, not_false_eq_true, intOf_val]
          omega
      · simp only [condK_true]
        exact awake_ev (hKt _)
    · have hil' : ¬ (i : Int) < acts.length := by omega
      simp only [hil', decide_false, condK_false]
      exact (hJ1 _ _).2 ⟨rfl, b, hg.mono (by omega), F, sd⟩
  intro fr φ hj
  obtain ⟨rfl, b, hg, F, sd⟩ := (hJ1 _ _).1 hj
  refine seqW_by J2 ?_ ?_
  · have hf := hg.fair (by omega)
    obtain ⟨xR, xV, xL, s4, s5⟩ := sd.rows
    have hlt := sd.lt
    refine ⟨?_, ?_⟩
    · simp [s4]
      refine copy_ev sd.bs hf.small fun τ id2 g hb => ?_
      have o4 : τ.get q = some (.cells 5 [bcells b xR xV xL]) := by rw [g.get q hlt]; exact s4
      have hn := g.next
      simp [o4, get_new, show ¬ q = τ.next by omega]
      have gs : Grows τ ((τ.new (.cells 5 [[int 0, int 0, nilS, nilS, nilS]])).set τ.next (.cells 5 [bcells b xR xV xL])) := (Grows.new _ _).set (Nat.le_refl _) _
      have hb' := (hb.shrink.wide (G := fun j => φ.next ≤ j ∧ j ≠ τ.next) fun j hj => ⟨hj.1, by omega⟩).grows gs
      exact (hJ2 _ _).2 ⟨id2, τ.next, rfl, b, hg, Two.copied (xR := xR) (xV := xV) (xL := xL) (G := F) sd (g.trans gs) hb' hn (by simp) (by simp) s5⟩
    · have gn := Grows.new φ (.cells 5 [[int 0, int 0, nilS, nilS, nilS]])
      have q4 : (φ.new (.cells 5 [[int 0, int 0, nilS, nilS, nilS]])).get q = some (.cells 5 [bcells b xR xV xL]) := by rw [gn.get q hlt]; exact s4
      have zz : (φ.new (.cells 5 [[int 0, int 0, nilS, nilS, nilS]])).get φ.next = some (.cells 5 [[int 0, int 0, nilS, nilS, nilS]]) := by simp
      simp [s4, q4]
      have nn : (φ.new (.cells 5 [[int 0, int 0, nilS, nilS, nilS]])).next = φ.next + 1 := by simp
      generalize φ.new (.cells 5 [[int 0, int 0, nilS, nilS, nilS]]) = χ at q4 zz nn gn
      refine copy_ev (sd.bs.grows gn) hf.small fun τ id2 g hb => ?_
      have o4 : τ.get q = some (.cells 5 [bcells b xR xV xL]) := by rw [g.get q (by omega)]; exact q4
      have o5 : τ.get φ.next = some (.cells 5 [[int 0, int 0, nilS, nilS, nilS]]) := by rw [g.get φ.next (by omega)]; exact zz
      have hn := g.next
      simp [o4, o5]
      have gs : Grows φ (τ.set φ.next (.cells 5 [bcells b xR xV xL])) := (gn.trans g).set (Nat.le_refl _) _
      have hb' := (hb.wide (G := fun j => φ.next ≤ j ∧ j ≠ φ.next) fun j hj => ⟨by omega, by omega⟩).set (q := φ.next) (o := .cells 5 [bcells b xR xV xL]) (fun h => h.2 rfl)
      exact (hJ2 _ _).2 ⟨id2, φ.next, rfl, b, hg, Two.copied (xR := xR) (xV := xV) (xL := xL) (G := F) sd gs hb' (Nat.le_refl _) (by simp; omega) (by simp) s5⟩
  clear hg sd
  intro fr φ hj
  obtain ⟨id2, q2, rfl, b, hg, htw⟩ := (hJ2 _ _).1 hj
  refine seqW_by J3 ?_ ?_
  · skip
    refine loopW_by (fun i : Nat => [(1, .sl false 4 (more.map Act.av)), (2, .sl false 4 (other.map Act.av)), (3, int v), (9, .ptr id 0 0), (10, .ptr q 0 0), (14, .ptr id2 0 0), (15, .ptr q2 0 0), (16, int i)])
      (fun i φ => i ≤ more.length ∧ ∃ b c, Grown b (40 + i) ∧ Grown c 40 ∧ Two φ id q b id2 q2 c)
      (fun fr _ => more.length - (intOf (look fr 16)).toNat) 0 (by simp) ?_ ?_
    · exact ⟨by simp, b, b, hg, hg, htw⟩
    rintro i φ ⟨hi, b, c, hg, hgc, htw⟩
    simp only [look_hit, look_miss, ne_eq, Nat.reduceEqDiff, not_false_eq_true, aLenK_sl, List.length_map, pureR_some, stepK_some, aBin_lss]
    by_cases hil : i < more.length
    · obtain ⟨a, ha⟩ := get_some hil
      have haa := acts_at ha
      have hal : ∀ ω : AHeap, aLoad true 4 (.ref a.av) ω = some (.agg a.av) := fun ω => by simp
      have hil' : (i : Int) < more.length := by omega
      simp only [hil', decide_true, condK_true]
      refine stepP (haa φ) ?_
      refine stepP (hal φ) ?_
      refine great_ev ?_
      cases hgr : a.great
      · simp only [condK_false]
        have hf := hg.fair (by omega)
        obtain ⟨F, G, sd, so, d1, d2, d3, d4⟩ := htw
        obtain ⟨xR, xV, xL, s4, s5⟩ := sd.rows
        obtain ⟨I, hI⟩ : ∃ I : AFrame → AHeap → Prop, ∀ fr ψ, I fr ψ ↔ ∃ q3, fr = [(1, .sl false 4 (more.map Act.av)), (2, .sl false 4 (other.map Act.av)), (3, int v), (9, .ptr id 0 0), (10, .ptr q 0 0), (14, .ptr id2 0 0), (15, .ptr q2 0 0), (16, int i), (18, .ptr q3 0 0)] ∧ ∃ G' el xR xV xL, Bs ψ id (b.act a) G' ∧ ¬ G' q ∧ (∀ j, G' j → F j ∨ φ.next ≤ j) ∧ Off F φ ψ ∧ q < ψ.next ∧ ψ.get q = some (.cells 5 [el]) ∧ el.length = 5 ∧ ψ.get q3 = some (.cells 5 [bcells (b.act a) xR xV xL]) ∧ BRowD (b.act a) xR xV xL := ⟨_, fun _ _ => Iff.rfl⟩
        refine seqW_by I ?_ ?_
        · exact does_two (K := fun _ p ψ => I [(1, .sl false 4 (more.map Act.av)), (2, .sl false 4 (other.map Act.av)), (3, int v), (9, .ptr id 0 0), (10, .ptr q 0 0), (14, .ptr id2 0 0), (15, .ptr q2 0 0), (16, int i), (18, p)] ψ) sd.bs sd.nq sd.lt s4 s5 sd.below hf.small hf ha hgr
            fun ok q3 ψ G' xR' xV' xL' hok t1 t2 t3 t4 t5 t6 t7 t8 => (hI _ _).2 ⟨q3, rfl, G', bcells b xR xV xL, xR', xV', xL', t1, t2, t3, t4, t5, t6, rfl, t7, t8⟩
        · intro fr ψ hj
          obtain ⟨q3, rfl, G', el, xR', xV', xL', t1, t2, t3, t4, t5, t6, t7, t8, t9⟩ := (hI _ _).1 hj
          have hg' := hg.act hgr
          have he : List.drop 5 el = [] := List.drop_eq_nil_of_le (by omega)
          simp only [look_hit, look_miss, ne_eq, Nat.reduceEqDiff, not_false_eq_true]
          refine stepP (x := .agg (bcells (b.act a) xR' xV' xL')) (by simp [t8]) ?_
          refine stepK_of (x := .val undef) (τ := ψ.set q (.cells 5 [bcells (b.act a) xR' xV' xL'])) (by simp [t6, t7]; rw [he]) ?_
          have hnew := Two.step sd so d1 d2 d3 d4 t1 t2 t3 t4 t5 t9
          generalize ψ.set q (.cells 5 [bcells (b.act a) xR' xV' xL']) = ω at hnew ⊢
          simp only [look_hit, look_miss, ne_eq, Nat.reduceEqDiff, not_false_eq_true, aBin_add, pureR_some, stepK_some]
          rw [wrap64 (by omega)]
          refine ⟨⟨i + 1, by simp, by omega, _, _, hg', hgc, hnew⟩, ?_⟩
          simp only [look_hit, look_miss, ne_eq, Nat.reduceEqDiff, not_false_eq_true, intOf_val]
          omega
      · simp only [condK_true]
        exact awake_ev (hKt _)
    · have hil' : ¬ (i : Int) < more.length := by omega
      simp only [hil', decide_false, condK_false]
      exact (hJ3 _ _).2 ⟨id2, q2, rfl, b, c, hg.mono (by omega), hgc, htw⟩
  clear hg htw
  intro fr φ hj
  obtain ⟨id2, q2, rfl, b, c, hg, hgc, htw⟩ := (hJ3 _ _).1 hj
  refine seqW_by J4 ?_ ?_
  · skip
    refine loopW_by (fun i : Nat => [(2, .sl false 4 (other.map Act.av)), (3, int v), (9, .ptr id 0 0), (10, .ptr q 0 0), (14, .ptr id2 0 0), (15, .ptr q2 0 0), (19, int i)])
      (fun i φ => i ≤ other.length ∧ ∃ b c, Grown b 80 ∧ Grown c (40 + i) ∧ Two φ id q b id2 q2 c)
      (fun fr _ => other.length - (intOf (look fr 19)).toNat) 0 (by simp) ?_ ?_
    · exact ⟨by simp, b, c, hg, hgc, htw⟩
    rintro i φ ⟨hi, b, c, hg, hgc, htw⟩
    simp only [look_hit, look_miss, ne_eq, Nat.reduceEqDiff, not_false_eq_true, aLenK_sl, List.length_map, pureR_some, stepK_some, aBin_lss]
    by_cases hil : i < other.length
    · obtain ⟨a, ha⟩ := get_some hil
      have haa := acts_at ha
      have hal : ∀ ω : AHeap, aLoad true 4 (.ref a.av) ω = some (.agg a.av) := fun ω => by simp
      have hil' : (i : Int) < other.length := by omega
      simp only [hil', decide_true, condK_true]
      refine stepP (haa φ) ?_
      refine stepP (hal φ) ?_
      refine great_ev ?_
      cases hgr : a.great
      · simp only [condK_false]
        have hf := hgc.fair (by omega)
        obtain ⟨F, G, sd, so, d1, d2, d3, d4⟩ := htw.symm
        obtain ⟨xR, xV, xL, s4, s5⟩ := sd.rows
        obtain ⟨I, hI⟩ : ∃ I : AFrame → AHeap → Prop, ∀ fr ψ, I fr ψ ↔ ∃ q3, fr = [(2, .sl false 4 (other.map Act.av)), (3, int v), (9, .ptr id 0 0), (10, .ptr q 0 0), (14, .ptr id2 0 0), (15, .ptr q2 0 0), (19, int i), (21, .ptr q3 0 0)] ∧ ∃ G' el xR xV xL, Bs ψ id2 (c.act a) G' ∧ ¬ G' q2 ∧ (∀ j, G' j → F j ∨ φ.next ≤ j) ∧ Off F φ ψ ∧ q2 < ψ.next ∧ ψ.get q2 = some (.cells 5 [el]) ∧ el.length = 5 ∧ ψ.get q3 = some (.cells 5 [bcells (c.act a) xR xV xL]) ∧ BRowD (c.act a) xR xV xL := ⟨_, fun _ _ => Iff.rfl⟩
        refine seqW_by I ?_ ?_
        · exact does_two (K := fun _ p ψ => I [(2, .sl false 4 (other.map Act.av)), (3, int v), (9, .ptr id 0 0), (10, .ptr q 0 0), (14, .ptr id2 0 0), (15, .ptr q2 0 0), (19, int i), (21, p)] ψ) sd.bs sd.nq sd.lt s4 s5 sd.below hf.small hf ha hgr
            fun ok q3 ψ G' xR' xV' xL' hok t1 t2 t3 t4 t5 t6 t7 t8 => (hI _ _).2 ⟨q3, rfl, G', bcells c xR xV xL, xR', xV', xL', t1, t2, t3, t4, t5, t6, rfl, t7, t8⟩
        · intro fr ψ hj
          obtain ⟨q3, rfl, G', el, xR', xV', xL', t1, t2, t3, t4, t5, t6, t7, t8, t9⟩ := (hI _ _).1 hj
          have hg' := hgc.act hgr
          have he : List.drop 5 el = [] := List.drop_eq_nil_of_le (by omega)
          simp only [look_hit, look_miss, ne_eq, Nat.reduceEqDiff, not_false_eq_true]
          refine stepP (x := .agg (bcells (c.act a) xR' xV' xL')) (by simp [t8]) ?_
          refine stepK_of (x := .val undef) (τ := ψ.set q2 (.cells 5 [bcells (c.act a) xR' xV' xL'])) (by simp [t6, t7]; rw [he]) ?_
          have hnew := (Two.step sd so d1 d2 d3 d4 t1 t2 t3 t4 t5 t9).symm
          generalize ψ.set q2 (.cells 5 [bcells (c.act a) xR' xV' xL']) = ω at hnew ⊢
          simp only [look_hit, look_miss, ne_eq, Nat.reduceEqDiff, not_false_eq_true, aBin_add, pureR_some, stepK_some]
          rw [wrap64 (by omega)]
          refine ⟨⟨i + 1, by simp, by omega, _, _, hg, hg', hnew⟩, ?_⟩
          simp only [look_hit, look_miss, ne_eq, Nat.reduceEqDiff, not_false_eq_true, intOf_val]
          omega
      · simp only [condK_true]
        exact awake_ev (hKt _)
    · have hil' : ¬ (i : Int) < other.length := by omega
      simp only [hil', decide_false, condK_false]
      exact (hJ4 _ _).2 ⟨id2, q2, rfl, b, c, hg, hgc.mono (by omega), htw⟩
  clear hg hgc htw
  intro fr φ hj
  obtain ⟨id2, q2, rfl, b, c, hg, hgc, htw⟩ := (hJ4 _ _).1 hj
  obtain ⟨F, G, sd, so, d1, d2, d3, d4⟩ := htw
  have hf := hg.fair (by omega)
  have hfc := hgc.fair (by omega)
  obtain ⟨xR, xV, xL, s4, s5⟩ := sd.rows
  obtain ⟨yR, yV, yL, o4, o5⟩ := so.rows
  have g1 : Grows φ (φ.new (.cells 1 [[int v], [int 0]])) := Grows.new _ _
  have hr : ∀ φ : AHeap, RowG (φ.new (.cells 1 [[int v], [int 0]])) 1 (.own φ.next 2) (irows [v, 0]) := fun φ => ⟨.inr (.inr ⟨φ.next, [], rfl, by simp⟩), .own (by simp)⟩
  have hbs : ∀ φ : AHeap, aBuildSlice 2 1 [.val (.int .i64 0)] [(0, int v), (1, .val (.int .i64 0))] φ = some (.own φ.next 2, φ.new (.cells 1 [[int v], [int 0]])) := fun φ => by simp [aBuildSlice, aBuildSl]
  simp only [look_hit, look_miss, ne_eq, Nat.reduceEqDiff, not_false_eq_true]
  refine stepP (x := .agg (bcells b xR xV xL)) (by simp [s4]) ?_
  refine stepK_of (hbs φ) ?_
  refine agrees_ev (sd.bs.grows g1) s5 hf (hr φ) (by simp) ?_
  simp only [gK_tt]
  have o4' : (φ.new (.cells 1 [[int v], [int 0]])).get q2 = some (.cells 5 [bcells c yR yV yL]) := by rw [g1.get q2 so.lt]; exact o4
  refine stepP (x := .agg (bcells c yR yV yL)) (by simp [o4']) ?_
  refine stepK_of (hbs _) ?_
  refine agrees_ev ((so.bs.grows g1).grows (Grows.new _ _)) o5 hfc (hr _) (by simp) ?_
  simp
  exact awake_ev (hKt _)
end Go.Abs.Bas
