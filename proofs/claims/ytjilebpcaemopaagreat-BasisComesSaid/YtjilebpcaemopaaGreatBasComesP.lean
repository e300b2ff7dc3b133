/-
  BasisComes: the law.
-/
import Derived.Test.YtjilebpcaemopaaGreatBasZ
set_option linter.unusedVariables false
set_option linter.unusedSimpArgs false
namespace Go.Abs.Bas
open Go Go.Abs Go.Abs.At Go.Proofs.BasD
attribute [local simp] Nat.add_assoc
variable {σ : AHeap} {k kp : AV → AHeap → Prop}

theorem withinM_iff {a b : List Atom} : withinM a b = true ↔ ∀ x ∈ a, atomM x = true → x ∈ b := by
  unfold withinM
  rw [List.all_eq_true]
  constructor
  · intro h x hx hat
    have := h x hx
    simpa [hat] using this
  · intro h x hx
    cases hat : atomM x
    · simp
    · simpa using h x hx hat
theorem law_comes {acts : List Act} {l : List Int} : Ev PR 4 [.sl false 4 (acts.map Act.av), rhosV l] σ (fun x _ => x = .val (.bool true)) kp := by
  apply F4_ev; unfold F4
  have hy : ∀ σ : AHeap, RowG σ 1 (rhosV l) (irows l) := fun σ => RowG.rhos l
  obtain ⟨K, hK⟩ : ∃ K : AV → AHeap → Prop, ∀ x φ, K x φ ↔ x = .val (.bool true) := ⟨_, fun _ _ => Iff.rfl⟩
  rw [show (fun (x : AV) (_ : AHeap) => x = .val (.bool true)) = K from by funext x φ; rw [hK]]
  have hKt : ∀ φ, K (bool true) φ := fun φ => (hK _ _).2 rfl
  clear hK
  simp only [aLenK_sl, List.length_map, pureR_some, stepK_some, aBin_gtr]
  by_cases h1 : 60 < acts.length
  · have c1 : (60 : Int) < acts.length := by omega
    simp [c1]
    exact awake_ev (hKt _)
  have c1 : ¬ (60 : Int) < acts.length := by omega
  simp only [c1, decide_false, gK_ff]
  refine stepP (hy σ).lenI ?_
  simp only [pureR_some, stepK_some, aBin_gtr, aPick_some, cond_false]
  by_cases h2 : 20 < l.length
  · have c2 : (20 : Int) < l.length := by omega
    simp [c2]
    exact awake_ev (hKt _)
  have c2 : ¬ (20 : Int) < l.length := by omega
  simp only [c2, decide_false, condK_false]
  refine new_ev fun τ0 g0 hb0 => ?_
  refine stepP (x := .agg [int 0, int 0, nilS, nilS, nilS]) rfl ?_
  simp only [aAlloc_some, stepK_some]
  refine stepK_of (x := .val undef) (τ := (τ0.new (.cells 5 [[int 0, int 0, nilS, nilS, nilS]])).set τ0.next (.cells 5 [[int 0, int 0, nilS, nilS, nilS]])) (by simp) ?_
  have hst : St ((τ0.new (.cells 5 [[int 0, int 0, nilS, nilS, nilS]])).set τ0.next (.cells 5 [[int 0, int 0, nilS, nilS, nilS]])) σ.next τ0.next {} {} :=
    ⟨_, nilS, nilS, nilS, hb0.shrink.grows ((Grows.new _ _).set (Nat.le_refl _) _), fun hf => by omega, by simp, by simp, ⟨.inl ⟨rfl, rfl⟩, .inl ⟨rfl, rfl⟩, .inl ⟨rfl, rfl⟩⟩⟩
  generalize (τ0.new (.cells 5 [[int 0, int 0, nilS, nilS, nilS]])).set τ0.next (.cells 5 [[int 0, int 0, nilS, nilS, nilS]]) = φ0 at hst
  generalize τ0.next = q at hst ⊢
  generalize σ.next = id at hst ⊢
  obtain ⟨J, hJ⟩ : ∃ J : AFrame → AHeap → Prop, ∀ fr φ, J fr φ ↔ (fr = [(1, rhosV l), (5, .ptr id 0 0)] ∧ ∃ b, Grown b 60 ∧ ∃ F, Bs φ id b F) := ⟨_, fun _ _ => Iff.rfl⟩
  refine seqW_by J ?_ ?_
  · refine loopW_by (fun i : Nat => [(0, .sl false 4 (acts.map Act.av)), (1, rhosV l), (5, .ptr id 0 0), (6, .ptr q 0 0), (7, int i)])
      (fun i φ => i ≤ acts.length ∧ ∃ b, Grown b i ∧ St φ id q b b)
      (fun fr _ => acts.length - (intOf (look fr 7)).toNat) 0 (by simp) ⟨by simp, {}, Grown.empty, hst⟩ ?_
    rintro i φ ⟨hi, b, hg, hS⟩
    simp only [look_hit, look_miss, ne_eq, Nat.reduceEqDiff, not_false_eq_true, aLenK_sl, List.length_map, pureR_some, stepK_some, aBin_lss]
    by_cases hil : i < acts.length
    · obtain ⟨a, ha⟩ := get_some hil
      have haa := acts_at ha
      have hal : ∀ ω : AHeap, aLoad true 4 (.ref a.av) ω = some (.agg a.av) := fun ω => by simp
      have hil' : (i : Int) < acts.length := by omega
      simp only [hil', decide_true, condK_true]
      refine stepP (haa φ) ?_
      refine stepP (hal φ) ?_
      refine great_ev ?_
      cases hgr : a.great
      · simp only [condK_false]
        have hf := hg.fair (by omega)
        obtain ⟨F, xR, xV, xL, s1, s2, s3, s4, s5, s6⟩ := hS.shrink
        obtain ⟨I, hI⟩ : ∃ I : AFrame → AHeap → Prop, ∀ fr ψ, I fr ψ ↔ ∃ q2, fr = [(0, .sl false 4 (acts.map Act.av)), (1, rhosV l), (5, .ptr id 0 0), (6, .ptr q 0 0), (7, int i), (9, .ptr q2 0 0)] ∧ ∃ G el xR xV xL, Bs ψ id (b.act a) G ∧ ¬ G q ∧ q < ψ.next ∧ ψ.get q = some (.cells 5 [el]) ∧ el.length = 5 ∧ ψ.get q2 = some (.cells 5 [bcells (b.act a) xR xV xL]) ∧ BRowD (b.act a) xR xV xL := ⟨_, fun _ _ => Iff.rfl⟩
        refine seqW_by I ?_ ?_
        · exact does_two (K := fun _ p ψ => I [(0, .sl false 4 (acts.map Act.av)), (1, rhosV l), (5, .ptr id 0 0), (6, .ptr q 0 0), (7, int i), (9, p)] ψ) s1 s2 s3 s4 s5 s6 hf.small hf ha hgr
            fun ok q2 ψ G xR' xV' xL' hok t1 t2 t3 t4 t5 t6 t7 t8 => (hI _ _).2 ⟨q2, rfl, G, bcells b xR xV xL, xR', xV', xL', t1, t2, t5, t6, rfl, t7, t8⟩
        · intro fr ψ hj
          obtain ⟨q2, rfl, G, el, xR', xV', xL', t1, t2, t3, t4, t5, t6, t7⟩ := (hI _ _).1 hj
          have hS' := Mid.set t1 t2 t3 t7
          have hg' := hg.act hgr
          have he : List.drop 5 el = [] := List.drop_eq_nil_of_le (by omega)
          simp only [look_hit, look_miss, ne_eq, Nat.reduceEqDiff, not_false_eq_true]
          refine stepP (x := .agg (bcells (b.act a) xR' xV' xL')) (by simp [t6]) ?_
          refine stepK_of (x := .val undef) (τ := ψ.set q (.cells 5 [bcells (b.act a) xR' xV' xL'])) (by simp [t4, t5]; rw [he]) ?_
          simp
          rw [wrap64 (by omega)]
          exact ⟨⟨i + 1, by simp, by omega, _, hg', hS'⟩, by omega⟩
      · simp only [condK_true]
        exact awake_ev (hKt _)
    · have hil' : ¬ (i : Int) < acts.length := by omega
      simp only [hil', decide_false, condK_false]
      obtain ⟨F, xR, xV, xL, s1, s2, s3, s4, s5⟩ := hS
      exact (hJ _ _).2 ⟨rfl, b, hg.mono (by omega), F, s1⟩
  intro fr φ hj
  obtain ⟨rfl, b, hg, F, hB⟩ := (hJ _ _).1 hj
  have hf := hg.fair (by omega)
  have hs := hf.small
  simp only [look_hit, look_miss, ne_eq, Nat.reduceEqDiff, not_false_eq_true]
  refine comes_ev hB hs (hy φ) (by omega) fun M hM => ?_
  simp
  refine seqW_in ?_
  obtain ⟨hm1, hm2⟩ := comesA_len hs hM
  have hMr : ∀ ω : AHeap, RowG ω 1 (rhosV M) (irows M) := fun ω => RowG.rhos M
  refine loopW_by (fun i : Nat => [(5, .ptr id 0 0), (10, effV (b.comesA M)), (11, rhosV M), (12, int i)])
    (fun i ψ => i ≤ M.length ∧ Bs ψ id b F)
    (fun fr _ => M.length - (intOf (look fr 12)).toNat) 0 (by simp) ⟨by simp, hB⟩ ?_
  rintro i ψ ⟨hi, hBψ⟩
  simp [(hMr ψ).lenI]
  by_cases hil : i < M.length
  · obtain ⟨x, hx⟩ := get_some hil
    have hxM := List.mem_of_getElem? hx
    have hxr := (hM.2 x).1 hxM
    have hxin := hs.ok.reachIn hxr
    have ax : ∀ ω : AHeap, aIndexAddr 1 (rhosV M) (int i) ω = some (.ref [int x]) := fun ω => by rw [rhosV, aIndexAddr_sl]; simp [hx]
    simp only [hil, decide_true, condK_true]
    refine seqW_in ?_
    refine stepP (ax _) ?_
    simp [bs_int]
    have g1 := Grows.new ψ (.cells 1 [[int x]])
    have hx1 : RowG (ψ.new (.cells 1 [[int x]])) 1 (.own ψ.next 1) (irows [x]) := ⟨.inr (.inr ⟨ψ.next, [], rfl, by simp⟩), .own (by simp)⟩
    have hB1 := hBψ.grows g1
    generalize ψ.new (.cells 1 [[int x]]) = χ at g1 hx1 hB1
    refine comes_ev hB1 hs hx1 (by simp) fun N hN => ?_
    obtain ⟨hn1, hn2⟩ := comesA_len hs hN
    have hNM := B.Comes.sub hs.ok hM hxM hN
    have hxN := B.Comes.self hs.ok hM hxM hN
    have hw1 : withinM (b.comesA N) (b.comesA M) = true := withinM_iff.2 fun y hy _ => by
      obtain ⟨w, h3, h4⟩ := mem_comesA.1 hy
      exact mem_comesA.2 ⟨w, hNM w h3, h4⟩
    obtain ⟨hm3, hm4⟩ := has_mem hs hxin.1
    have hw2 : withinM (b.has x).1 (b.comesA N) = true := withinM_iff.2 fun y hy _ => mem_comesA.2 ⟨x, hxN, (hm3 y).1 hy⟩
    obtain ⟨hl1, hl2⟩ := has_len hs x
    simp
    refine stepP (ax _) ?_
    simp
    refine has_ev hB1 hs ?_
    simp
    refine stepP (ax _) ?_
    simp
    refine stepP (ax _) ?_
    simp
    refine bvarName_ev hB1 ?_
    have hvn : b.varName x = x := by rw [B.varName, if_pos hxin.1, hxin.2]
    rw [hvn]
    refine ⟨stepP (ax _) ⟨rfl, rfl⟩, ?_⟩
    simp
    refine within_ev (RowG.eff _) (RowG.eff _) (by omega) (by omega) ?_
    rw [hw1]
    simp
    refine within_ev (RowG.eff _) (RowG.eff _) (by omega) (by omega) ?_
    rw [hw2]
    simp
    refine stepP (ax _) ?_
    simp
    refine ints_ev (l := N) (by omega) (RowG.rhos (σ := χ) N).1 ?_
    simp [hxN]
    refine loopW_by (fun j : Nat => [(5, .ptr id 0 0), (10, effV (b.comesA M)), (11, rhosV M), (12, int i), (14, rhosV N), (17, int j)])
      (fun j ω => j ≤ N.length ∧ ω = χ)
      (fun fr _ => N.length - (intOf (look fr 17)).toNat) 0 (by simp) ⟨by simp, rfl⟩ ?_
    rintro j ω ⟨hj, rfl⟩
    simp [(RowG.rhos (σ := ω) N).lenI]
    by_cases hjl : j < N.length
    · obtain ⟨y, hy⟩ := get_some hjl
      have ay : aIndexAddr 1 (rhosV N) (int j) ω = some (.ref [int y]) := by rw [rhosV, aIndexAddr_sl]; simp [hy]
      simp only [hjl, decide_true, condK_true]
      refine stepP ay ?_
      simp
      refine ints_ev (l := M) (by omega) (hMr ω).1 ?_
      simp [hNM y (List.mem_of_getElem? hy)]
      rw [wrap64 (by omega)]
      exact ⟨⟨j + 1, by simp, by omega⟩, by omega⟩
    · simp only [hjl, decide_false, condK_false]
      rw [wrap64 (by omega)]
      exact ⟨⟨i + 1, by simp, by omega, hB1⟩, by omega⟩
  · simp [hil]
    exact awake_ev (hKt _)
end Go.Abs.Bas
