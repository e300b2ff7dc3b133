/-
  BasisPlays: the law.
-/
import Derived.Test.YtjilebpcaemopaaGreatBasY
set_option linter.unusedVariables false
set_option linter.unusedSimpArgs false
namespace Go.Abs.Bas
open Go Go.Abs Go.Abs.At Go.Proofs.BasD
attribute [local simp] Nat.add_assoc
variable {σ : AHeap} {k kp : AV → AHeap → Prop}

theorem law_plays {acts : List Act} {r v : Int} {l : List Int} : Ev PR 5 [.sl false 4 (acts.map Act.av), int r, int v, rhosV l] σ (fun x _ => x = .val (.bool true)) kp := by
  apply F5_ev; unfold F5
  have hy : ∀ σ : AHeap, RowG σ 1 (rhosV l) (irows l) := fun σ => RowG.rhos l
  obtain ⟨K, hK⟩ : ∃ K : AV → AHeap → Prop, ∀ x φ, K x φ ↔ x = .val (.bool true) := ⟨_, fun _ _ => Iff.rfl⟩
  rw [show (fun (x : AV) (_ : AHeap) => x = .val (.bool true)) = K from by funext x φ; rw [hK]]
  have hKt : ∀ φ, K (bool true) φ := fun φ => (hK _ _).2 rfl
  clear hK
  simp
  by_cases h1 : 60 < acts.length
  · have c1 : (60 : Int) < acts.length := by omega
    simp [c1]
    exact awake_ev (hKt _)
  have c1 : ¬ (60 : Int) < acts.length := by omega
  simp [c1, (hy σ).lenI]
  by_cases h2 : 20 < l.length
  · have c2 : (20 : Int) < l.length := by omega
    simp [c2]
    exact awake_ev (hKt _)
  have c2 : ¬ (20 : Int) < l.length := by omega
  simp [c2]
  refine new_ev fun τ0 g0 hb0 => ?_
  refine seqW_in ?_
  have hst : St ((τ0.new (.cells 5 [[int 0, int 0, nilS, nilS, nilS]])).set τ0.next (.cells 5 [[int 0, int 0, nilS, nilS, nilS]])) σ.next τ0.next {} {} :=
    ⟨_, nilS, nilS, nilS, hb0.shrink.grows ((Grows.new _ _).set (Nat.le_refl _) _), fun hf => by omega, by simp, by simp, ⟨.inl ⟨rfl, rfl⟩, .inl ⟨rfl, rfl⟩, .inl ⟨rfl, rfl⟩⟩⟩
  generalize (τ0.new (.cells 5 [[int 0, int 0, nilS, nilS, nilS]])).set τ0.next (.cells 5 [[int 0, int 0, nilS, nilS, nilS]]) = φ0 at hst
  generalize τ0.next = q at hst ⊢
  generalize σ.next = id at hst ⊢
  refine loopW_by (fun i : Nat => [(0, .sl false 4 (acts.map Act.av)), (1, int r), (2, int v), (3, rhosV l), (9, .ptr id 0 0), (10, .ptr q 0 0), (11, int i)])
    (fun i φ => i ≤ acts.length ∧ ∃ b, Grown b i ∧ St φ id q b b)
    (fun fr _ => acts.length - (intOf (look fr 11)).toNat) 0 (by simp) ⟨by simp, {}, Grown.empty, hst⟩ ?_
  rintro i φ ⟨hi, b, hg, hS⟩
  simp
  by_cases hil : i < acts.length
  · obtain ⟨a, ha⟩ := get_some hil
    have haa := acts_at ha
    have hal : ∀ ω : AHeap, aLoad true 4 (.ref a.av) ω = some (.agg a.av) := fun ω => by simp
    simp only [hil, decide_true, condK_true]
    refine stepP (haa φ) ?_
    refine stepP (hal φ) ?_
    refine great_ev ?_
    cases hgr : a.great
    · simp only [condK_false]
      have hf := hg.fair (by omega)
      obtain ⟨F, xR, xV, xL, s1, s2, s3, s4, s5, s6⟩ := hS.shrink
      obtain ⟨J, hJ⟩ : ∃ J : AFrame → AHeap → Prop, ∀ fr ψ, J fr ψ ↔ (fun fr ψ => ∃ q2, fr = [(0, .sl false 4 (acts.map Act.av)), (1, int r), (2, int v), (3, rhosV l), (9, .ptr id 0 0), (10, .ptr q 0 0), (11, int i), (12, bool true), (13, .ptr q2 0 0)] ∧ ∃ G el xR xV xL, Bs ψ id (b.act a) G ∧ ¬ G q ∧ q < ψ.next ∧ ψ.get q = some (.cells 5 [el]) ∧ el.length = 5 ∧ ψ.get q2 = some (.cells 5 [bcells (b.act a) xR xV xL]) ∧ BRowD (b.act a) xR xV xL) fr ψ := ⟨_, fun _ _ => Iff.rfl⟩
      refine seqW_by J ?_ ?_
      · refine ⟨?_, ?_⟩
        · simp [s4]
          refine stepP (haa φ) ?_
          refine stepP (hal φ) ?_
          refine does_ev s1 hf.small s5 hf hgr fun τ xR' xV' xL' ok hok hL hd => ?_
          obtain rfl := hok rfl
          have hqn : ¬ Wide F φ.next q := fun hw => by
            rcases hw with hw | hw
            · exact s2 hw
            · omega
          have o4 : τ.get q = some (.cells 5 [bcells b xR xV xL]) := by rw [hL.off.get q s2 s3]; exact s4
          have hnx := hL.off.next
          have gn := Grows.new τ (.cells 5 [[int 0, int 0, nilS, nilS, nilS]])
          simp [get_new, o4, show ¬ q = τ.next by omega, haa, Act.av]
          have gs : Grows τ ((τ.new (.cells 5 [[int 0, int 0, nilS, nilS, nilS]])).set τ.next (.cells 5 [bcells (b.act a) xR' xV' xL'])) := gn.set (Nat.le_refl _) _
          exact (hJ _ _).2 ⟨τ.next, rfl, Wide F φ.next, bcells b xR xV xL, xR', xV', xL', hL.bs.grows gs, hqn, by simp; omega, by rw [gs.get q (by omega)]; exact o4, rfl, by simp, hd⟩
        · simp [s4]
          refine stepP (haa φ) ?_
          refine stepP (hal φ) ?_
          have gn := Grows.new φ (.cells 5 [[int 0, int 0, nilS, nilS, nilS]])
          have q4 : (φ.new (.cells 5 [[int 0, int 0, nilS, nilS, nilS]])).get q = some (.cells 5 [bcells b xR xV xL]) := by rw [gn.get q s3]; exact s4
          simp [q4, haa, Act.av]
          have zz : (φ.new (.cells 5 [[int 0, int 0, nilS, nilS, nilS]])).get φ.next = some (.cells 5 [[int 0, int 0, nilS, nilS, nilS]]) := by simp
          have s1' := s1.grows gn
          have nn : (φ.new (.cells 5 [[int 0, int 0, nilS, nilS, nilS]])).next = φ.next + 1 := by simp
          generalize φ.new (.cells 5 [[int 0, int 0, nilS, nilS, nilS]]) = χ at q4 zz s1' nn
          refine does_ev s1' hf.small s5 hf hgr fun τ xR' xV' xL' ok hok hL hd => ?_
          obtain rfl := hok rfl
          have hnx := hL.off.next
          have hqn : ¬ Wide F χ.next q := fun hw => by
            rcases hw with hw | hw
            · exact s2 hw
            · omega
          have hqf : ¬ Wide F χ.next φ.next := fun hw => by
            rcases hw with hw | hw
            · have := s6 _ hw; omega
            · omega
          have o4 : τ.get q = some (.cells 5 [bcells b xR xV xL]) := by rw [hL.off.get q s2 (by omega)]; exact q4
          have o5 : τ.get φ.next = some (.cells 5 [[int 0, int 0, nilS, nilS, nilS]]) := by rw [hL.off.get φ.next (fun hf => by have := s6 _ hf; omega) (by omega)]; exact zz
          simp [o5]
          exact (hJ _ _).2 ⟨φ.next, rfl, Wide F χ.next, bcells b xR xV xL, xR', xV', xL', hL.bs.set hqf, hqn, by simp; omega, by rw [get_set, if_neg (by omega)]; exact o4, rfl, by simp, hd⟩
      · intro fr ψ hj
        obtain ⟨q2, rfl, G, el, xR', xV', xL', t1, t2, t3, t4, t5, t6, t7⟩ := (hJ _ _).1 hj
        simp [t4, t5, t6]
        have hS' : St (ψ.set q (.cells 5 [bcells (b.act a) xR' xV' xL'])) id q (b.act a) (b.act a) := ⟨G, xR', xV', xL', t1.set t2, t2, t3, by simp, t7⟩
        have hg' := hg.act hgr
        have he : List.drop 5 el = [] := List.drop_eq_nil_of_le (by omega)
        rw [he]
        have w0 : (ψ.set q (.cells 5 [bcells (b.act a) xR' xV' xL'])).get q = some (.cells 5 [bcells (b.act a) xR' xV' xL']) := by simp
        have t1' := t1.set (q := q) (o := .cells 5 [bcells (b.act a) xR' xV' xL']) t2
        have hf' := hg'.fair (by omega)
        generalize ψ.set q (.cells 5 [bcells (b.act a) xR' xV' xL']) = ω at hS' w0 t1' ⊢
        have fin : (∃ j : Nat, IntKind.i64.wrap ((i : Int) + 1) = (j : Int) ∧ j ≤ acts.length ∧ ∃ b, Grown b j ∧ St ω id q b b) ∧ acts.length - (IntKind.i64.wrap ((i : Int) + 1)).toNat < acts.length - i := by
          rw [wrap64 (by omega)]
          exact ⟨⟨i + 1, by simp, by omega, _, hg', hS'⟩, by omega⟩
        by_cases h4 : (i : Int).tmod 4 = 0
        · simp [h4, w0]
          refine agrees_ev t1' t7 hf' (hy ω) (by omega) ?_
          simp
          exact fin
        · simp [h4]
          exact fin
    · simp only [condK_true]
      exact awake_ev (hKt _)
  · have hf := hg.fair (by omega)
    obtain ⟨F, xR, xV, xL, s1, s2, s3, s4, s5⟩ := hS
    simp [hil, s4]
    refine agrees_ev s1 s5 hf (hy φ) (by omega) ?_
    simp
    exact awake_ev (hKt _)
end Go.Abs.Bas
