/-
  What is told is what the document tells; the example.
-/
import Derived.Test.YtjilebpcaemopaaGreatBasV
set_option linter.unusedVariables false
set_option linter.unusedSimpArgs false
namespace Go.Abs.Bas
open Go Go.Abs Go.Abs.At Go.Proofs.BasD
attribute [local simp] Nat.add_assoc
variable {σ τ : AHeap} {id : Nat} {b : B} {F G : Nat → Prop} {k kp : AV → AHeap → Prop} {xR xV xL : AV}

theorem comesA_len (hs : Small b) {l M : List Int} (hM : b.Comes l M) : (b.comesA M).length ≤ 100000000 ∧ M.length ≤ 1000 := by
  have hF : Far b l [] M (b.comesA M) := ⟨hM.1, setOf_rising lessM_ord _, fun x hx => (hM.2 x).1 hx, by simp, fun x hx => by
    obtain ⟨v, h1, h2⟩ := mem_comesA.1 hx
    exact ⟨v, (hM.2 v).1 h1, h2⟩⟩
  have hl := hF.len hs
  refine ⟨?_, hl⟩
  have h1 := setOf_len lessM (M.flatMap b.atomsOf)
  have h2 := flat_le (l := M) (f := b.atomsOf) (c := 100000) fun v _ => atomsOf_len hs v
  unfold B.comesA
  omega
theorem agrees_ev (h : Bs σ id b F) (hd : BRowD b xR xV xL) (hf : Fair b) {r v : Int} {y : AV} {l : List Int} (hy : RowG σ 1 y (irows l)) (hl : l.length < 1000000) (hk : k (bool true) σ) : Ev PR 21 [.ptr id 0 0, .agg (bcells b xR xV xL), int r, int v, y] σ k kp := by
  have hs := hf.small
  refine Ev.pureD hk ((Dat.val _).low _) fun k' hk' => ?_
  apply F21_ev; unfold F21
  simp only [aBox_eq, acells_agg, Option.map_some, stepK_some]
  have hG : Grows σ (σ.new (.cells 5 [bcells b xR xV xL])) := Grows.new _ _
  have g0 : (σ.new (.cells 5 [bcells b xR xV xL])).get σ.next = some (.cells 5 [bcells b xR xV xL]) := by simp
  have e5 : (bcells b xR xV xL).length = 5 := rfl
  rw [e5]
  generalize σ.new (.cells 5 [bcells b xR xV xL]) = τ at hG g0
  have hB := h.grows hG
  have hR : BRow τ b xR xV xL := hd.row
  have hyτ := hy.grows hG
  obtain ⟨hl1, hl2⟩ := has_len hs v
  refine has_ev hB hs ?_
  simp [g0]
  refine hasB_ev hR hf ?_
  simp
  refine comes_ev hB hs hyτ hl fun M hM => ?_
  simp [g0]
  refine comesB_ev hR hf hyτ hl fun M' hM' => ?_
  obtain rfl := hM.unique hM'
  obtain ⟨hm1, hm2⟩ := comesA_len hs hM
  simp
  refine count_ev hB ?_
  simp [g0]
  refine bname_ev hB ?_
  refine ⟨?_, ?_⟩
  · simp [g0]
  refine nameB_ev hR hf ?_
  simp [g0]
  refine bvarName_ev hB ?_
  refine ⟨?_, ?_⟩
  · simp [g0]
  refine varNameB_ev hR hf ?_
  simp
  refine equalA_ev (RowG.eff _) (RowG.eff _) (by omega) (by omega) ?_
  simp
  refine equalInts_ev (l := (b.has v).2) (m := (b.has v).2) (by omega) (by omega) (RowG.rhos _).1 (RowG.rhos _).1 ?_
  simp
  refine equalA_ev (RowG.eff _) (RowG.eff _) (by omega) (by omega) ?_
  simp
  refine equalInts_ev (l := M) (m := M) (by omega) (by omega) (RowG.rhos _).1 (RowG.rhos _).1 ?_
  simp
  exact hk' _ hG

def getA (r : Int) : Atom := ⟨1, r, ByteArray.empty⟩
def putA (r : Int) : Atom := ⟨2, r, ByteArray.empty⟩
theorem get_ev {r : Int} (hk : k (getA r).v σ) : Ev PR 28 [int r] σ k kp := by
  refine Ev.pureD hk ((Dat.agg fun x hx => ?_).low _) fun k' hk' => ?_
  · simp [Atom.av, getA] at hx
    rcases hx with rfl | rfl | rfl <;> exact .val _
  · apply F28_ev; unfold F28
    simp [aBuild]
    exact hk' _ ((Grows.new _ _).set (Nat.le_refl _) _)
theorem put_ev' {r : Int} (hk : k (putA r).v σ) : Ev PR 29 [int r] σ k kp := by
  refine Ev.pureD hk ((Dat.agg fun x hx => ?_).low _) fun k' hk' => ?_
  · simp [Atom.av, putA] at hx
    rcases hx with rfl | rfl | rfl <;> exact .val _
  · apply F29_ev; unfold F29
    simp [aBuild]
    exact hk' _ ((Grows.new _ _).set (Nat.le_refl _) _)
theorem FzS.del {q : Nat} : FzS τ (fun i => i = q) (τ.del q) where
  next := rfl
  gone i h := by subst h; exact AHeap.del_same _ _
  keep i h := by
    rw [AHeap.del_ne h]
    cases hg : τ.get i with
    | none => exact .inl ⟨rfl, rfl⟩
    | some o => exact .inr ⟨o, o, rfl, rfl, .refl o⟩
def bEx : B := ⟨3, 2, [], [], [⟨0, [getA 0], [1]⟩, ⟨1, [putA 2], []⟩]⟩
theorem bEx_comes : bEx.Comes [0] [0, 1] ∧ bEx.comesA [0, 1] = [getA 0, putA 2] := by
  have v0 : bEx.varsOf 0 = [1] := by simp [B.varsOf, B.toldOf, bEx, nm]
  have v1 : bEx.varsOf 1 = [] := by simp [B.varsOf, B.toldOf, bEx, nm]
  have a0 : bEx.atomsOf 0 = [getA 0] := by simp [B.atomsOf, B.toldOf, bEx, nm, B.ren, getA, B.name, inB]
  have a1 : bEx.atomsOf 1 = [putA 2] := by simp [B.atomsOf, B.toldOf, bEx, nm, B.ren, putA, B.name, inB]
  refine ⟨⟨by simp [ltI], fun x => ?_⟩, ?_⟩
  · constructor
    · intro hx
      have h0 : bEx.Reach [0] 0 := by
        have := B.Reach.start (b := bEx) (l := [0]) (n := 0) (by simp) (by simp [inB, bEx])
        simpa [bEx, nm] using this
      simp at hx
      rcases hx with rfl | rfl
      · exact h0
      · exact .step h0 (by rw [v0]; simp)
    · intro hx
      induction hx with
      | start hm hn => simp at hm; subst hm; simp [bEx, nm]
      | step _ hx ih =>
        simp at ih
        rcases ih with rfl | rfl
        · rw [v0] at hx; simp at hx; subst hx; simp
        · rw [v1] at hx; simp at hx
  · simp [B.comesA, a0, a1, setOf, ins, lessM, getA, putA]
theorem awake_ev (hk : k (bool true) σ) : Ev PR 8 [] σ k kp := by
  refine Ev.pureD hk ((Dat.val _).low _) fun k' hk' => ?_
  apply F8_ev; unfold F8
  refine new_ev fun τ0 g0 h0 => ?_
  have s0 : ∀ r v, r ≤ 1000 → v ≤ 1000 → Small ⟨r, v, [], [], []⟩ := fun r v h1 h2 => ⟨⟨by simp, by simp, by simp⟩, h1, h2, by simp, by simp⟩
  have step : ∀ (b : B) (F : Nat → Prop) (φ ψ : AHeap) (b' : B), (∀ i, F i → σ.next ≤ i) → Grows σ φ → Bs ψ σ.next b' (Wide F φ.next) → Off F φ ψ → (∀ i, Wide F φ.next i → σ.next ≤ i) ∧ Grows σ ψ := fun b F φ ψ b' hF g h1 h2 => by
    refine ⟨fun i hi => ?_, ⟨Nat.le_trans g.next h2.next, fun i hi => ?_⟩⟩
    · rcases hi with hi | hi
      · exact hF i hi
      · exact Nat.le_trans g.next hi
    · rw [h2.get i (fun hf => by have := hF i hf; omega) (Nat.lt_of_lt_of_le hi g.next)]
      exact g.get i hi
  refine region_ev h0 (s0 0 0 (by omega) (by omega)) fun τ1 t1 o1 => ?_
  obtain ⟨f1, g1⟩ := step ⟨0, 0, [], [], []⟩ _ τ0 τ1 _ (fun i h => h) g0 t1 o1
  refine region_ev t1 (s0 1 0 (by omega) (by omega)) fun τ2 t2 o2 => ?_
  obtain ⟨f2, g2⟩ := step ⟨0, 0, [], [], []⟩ _ τ1 τ2 _ f1 g1 t2 o2
  refine region_ev t2 (s0 2 0 (by omega) (by omega)) fun τ3 t3 o3 => ?_
  obtain ⟨f3, g3⟩ := step ⟨0, 0, [], [], []⟩ _ τ2 τ3 _ f2 g2 t3 o3
  refine var_ev t3 (s0 3 0 (by omega) (by omega)) fun τ4 t4 o4 => ?_
  obtain ⟨f4, g4⟩ := step ⟨0, 0, [], [], []⟩ _ τ3 τ4 _ f3 g3 t4 o4
  refine var_ev t4 (s0 3 1 (by omega) (by omega)) fun τ5 t5 o5 => ?_
  obtain ⟨f5, g5⟩ := step ⟨0, 0, [], [], []⟩ _ τ4 τ5 _ f4 g4 t5 o5
  clear t1 t2 t3 t4 o1 o2 o3 o4 o5 f1 f2 f3 f4 g0 g1 g2 g3 g4 h0
  have t5' := t5.shrink
  have hlt : ∀ i, (Wide (Wide (Wide (Wide (Wide (fun i => σ.next ≤ i) τ0.next) τ1.next) τ2.next) τ3.next) τ4.next i ∧ i < τ5.next) → σ.next ≤ i ∧ i < τ5.next := fun i hi => ⟨f5 i hi.1, hi.2⟩
  generalize hFe : (fun i => Wide (Wide (Wide (Wide (Wide (fun i => σ.next ≤ i) τ0.next) τ1.next) τ2.next) τ3.next) τ4.next i ∧ i < τ5.next) = F at t5'
  have hF : ∀ i, F i → σ.next ≤ i ∧ i < τ5.next := fun i hi => by rw [← hFe] at hi; exact hlt i hi
  clear hFe hlt f5 t5
  refine get_ev ?_
  simp only [bs_atom, stepK_some, bs_int]
  have gN : Grows τ5 ((τ5.new (.cells 3 [(getA 0).av])).new (.cells 1 [[int 1]])) := (Grows.new _ _).trans (Grows.new _ _)
  refine Ev.freeze (D := fun i => i = τ5.next + 1) (args' := [.ptr σ.next 0 0, int 0, .own τ5.next 1, .sl false 1 (irows [1])]) FzS.del
    (.cons (.refl _) (.cons (.refl _) (.cons (.refl _) (.cons (FzR.own (xs := irows [1]) (rest := []) (FzR.refl _) rfl rfl (by simp [get_new])) .nil)))) ?_
  have gD : Grows τ5 (((τ5.new (.cells 3 [(getA 0).av])).new (.cells 1 [[int 1]])).del (τ5.next + 1)) := ⟨by simp, fun i hi => by rw [AHeap.del_ne (by omega)]; exact gN.get i hi⟩
  have gx : (((τ5.new (.cells 3 [(getA 0).av])).new (.cells 1 [[int 1]])).del (τ5.next + 1)).get τ5.next = some (.cells 3 [(getA 0).av]) := by rw [AHeap.del_ne (by omega), AHeap.new_ne (by simp), AHeap.new_same]
  have nx : (((τ5.new (.cells 3 [(getA 0).av])).new (.cells 1 [[int 1]])).del (τ5.next + 1)).next = τ5.next + 2 := by simp
  generalize ((τ5.new (.cells 3 [(getA 0).av])).new (.cells 1 [[int 1]])).del (τ5.next + 1) = τ6 at gD gx nx
  have hA0 : B.add ⟨3, 2, [], [], []⟩ 0 [getA 0] [1] = (⟨3, 2, [], [], [⟨0, [getA 0], [1]⟩]⟩, true) := by simp [B.add, okA, atomM, getA, inB, there]
  refine add_ev (t5'.grows gD) (s0 3 2 (by omega) (by omega)) (A := [getA 0]) (V := [1]) ⟨.inr (.inr ⟨τ5.next, [], rfl, by simpa using gx⟩), .own (by omega)⟩ (by simp) (by simp) fun τ7 t7 o7 => ?_
  rw [hA0] at t7 ⊢
  simp only [gK_tt]
  refine put_ev' ?_
  simp only [bs_atom, stepK_some]
  have g7 : Grows τ7 (τ7.new (.cells 3 [(putA 2).av])) := Grows.new _ _
  have s1 : Small ⟨3, 2, [], [], [⟨0, [getA 0], [1]⟩]⟩ := ⟨⟨by simp, by simp, by simp [inB, there, okA, atomM, getA]⟩, by simp, by simp, by simp, by simp⟩
  have hA1 : B.add ⟨3, 2, [], [], [⟨0, [getA 0], [1]⟩]⟩ 1 [putA 2] [] = (bEx, true) := by simp [B.add, okA, atomM, putA, inB, there, bEx]
  refine Ev.weak (args' := [.ptr σ.next 0 0, int 1, .own τ7.next 1, .sl false 1 (irows [])]) (.cons (.refl _) (.cons (.refl _) (.cons (.refl _) (.cons .nil .nil)))) ?_
  refine add_ev (t7.grows g7) s1 (A := [putA 2]) (V := []) ⟨.inr (.inr ⟨τ7.next, [], rfl, by simp⟩), .own (by simp)⟩ (by simp) (by simp) fun τ8 t8 o8 => ?_
  rw [hA1] at t8 ⊢
  simp [bs_int]
  have s2 : Small bEx := ⟨⟨by simp [bEx], by simp [bEx], by simp [bEx, inB, there, okA, atomM, getA, putA]⟩, by simp [bEx], by simp [bEx], by simp [bEx], by simp [bEx]⟩
  have g8 : Grows τ8 (τ8.new (.cells 1 [[int 0]])) := Grows.new _ _
  refine comes_ev (t8.grows g8) s2 (l := [0]) ⟨.inr (.inr ⟨τ8.next, [], rfl, by simp⟩), .own (by simp)⟩ (by simp) fun M hM => ?_
  obtain rfl := hM.unique bEx_comes.1
  rw [bEx_comes.2]
  simp
  refine get_ev ?_
  refine put_ev' ?_
  refine stepK_of (x := .own (τ8.next + 1) 2) (τ := (τ8.new (.cells 1 [[int 0]])).new (.cells 3 (arows [getA 0, putA 2]))) rfl ?_
  have g9 : Grows τ8 ((τ8.new (.cells 1 [[int 0]])).new (.cells 3 (arows [getA 0, putA 2]))) := g8.trans (Grows.new _ _)
  refine equalA_ev (l := [getA 0, putA 2]) (m := [getA 0, putA 2]) (RowG.eff _) ⟨.inr (.inr ⟨τ8.next + 1, [], rfl, by simp [get_new]⟩), .own (by simp)⟩ (by simp) (by simp) ?_
  simp
  refine equalInts_ev (l := [0, 1]) (m := [0, 1]) (by simp) (by simp) (RowG.rhos _).1 (.inr (.inr ⟨_, [], rfl, by simp [get_new]⟩)) ?_
  simp
  have hoff : ∀ φ ψ, Grows σ φ → Off F φ ψ → Grows σ ψ := fun φ ψ g o => ⟨Nat.le_trans g.next o.next, fun i hi => by
    rw [o.get i (fun hf => by have := (hF i hf).1; omega) (Nat.lt_of_lt_of_le hi g.next)]
    exact g.get i hi⟩
  have gA := hoff _ _ (g5.trans gD) o7
  have gB := hoff _ _ (gA.trans g7) o8
  exact hk' _ ((gB.trans g9).trans (Grows.new _ _))
end Go.Abs.Bas
