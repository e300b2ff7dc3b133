/-
  The document's basis: joins, and more.
-/
import Derived.Test.YtjilebpcaemopaaGreatBasI
import Derived.Test.YtjilebpcaemopaaGreatBasR5
set_option linter.unusedVariables false
set_option linter.unusedSimpArgs false
namespace Go.Abs.Bas
open Go Go.Abs Go.Abs.At Go.Proofs.BasD
attribute [local simp] Nat.add_assoc
variable {σ : AHeap} {b : B} {k kp : AV → AHeap → Prop} {xR xV xL : AV}

/-- A row that nobody holds: nil, or frozen. -/
def RowD (sz : Nat) (x : AV) (els : List (List AV)) : Prop := (x = nilS ∧ els = []) ∨ ∃ c, x = .sl c sz els
theorem RowD.row {sz x els} (h : RowD sz x els) (hd : ∀ el ∈ els, ∀ x ∈ el, Dat x) : RowG σ sz x els := by
  rcases h with ⟨rfl, rfl⟩ | ⟨c, rfl⟩
  · exact ⟨.inl ⟨rfl, rfl⟩, .val _⟩
  · exact RowG.sl hd
structure BRowD (b : B) (xR xV xL : AV) : Prop where
  R : RowD 2 xR (prows b.R.reverse)
  V : RowD 2 xV (prows b.V.reverse)
  L : RowD 3 xL (lrows b.L)
theorem BRowD.row (h : BRowD b xR xV xL) : BRow σ b xR xV xL := ⟨h.R.row (prows_dat _), h.V.row (prows_dat _), h.L.row (lrows_dat _)⟩
theorem RowF.set {n m sz : Nat} {x : AV} {els : List (List AV)} (h : RowF n σ sz x els) (hm : m < n) (o : AObj) : RowF n (σ.set m o) sz x els := by
  refine ⟨⟨?_, h.1.2⟩, h.2⟩
  rcases h.1.1 with h1 | h1 | ⟨q, rest, rfl, h1⟩
  · exact .inl h1
  · exact .inr (.inl h1)
  · have := h.2 q _ rfl
    exact .inr (.inr ⟨q, rest, rfl, by rw [get_set, if_neg (by omega)]; exact h1⟩)
theorem RowF.low {n m sz : Nat} {x : AV} {els : List (List AV)} (h : RowF m σ sz x els) (hm : n ≤ m) : RowF n σ sz x els := ⟨h.1, fun q l e => Nat.le_trans hm (h.2 q l e)⟩
theorem BRow.low (h : BRow σ b xR xV xL) : Low σ.next (.agg (bcells b xR xV xL)) := by
  refine .agg fun j x hx => ?_
  match j, hx with
  | 0, hx => simp at hx; subst hx; exact .val _
  | 1, hx => simp at hx; subst hx; exact .val _
  | 2, hx => simp at hx; subst hx; exact h.R.2
  | 3, hx => simp at hx; subst hx; exact h.V.2
  | 4, hx => simp at hx; subst hx; exact h.L.2
  | j + 5, hx => simp at hx

theorem joinB_ev (hd : BRowD b xR xV xL) (hf : Fair b) {c : Bool} {l : List Int} (hl : l.length ≤ 1000) (hk : ∀ xR', BRowD (b.join l).1 xR' xV xL → k (.tup [.agg (bcells (b.join l).1 xR' xV xL), bool (b.join l).2]) σ) : Ev PR 32 [.agg (bcells b xR xV xL), .sl c 1 (irows l)] σ k kp := by
  have h : BRow σ b xR xV xL := hd.row
  refine Ev.pure ?_
  apply F32_ev; unfold F32
  have hy : ∀ σ : AHeap, RowG σ 1 (.sl c 1 (irows l)) (irows l) := fun σ => RowG.sl (irows_dat l)
  simp only [aBox_eq, acells_agg, Option.map_some, stepK_some, aAlloc_some]
  generalize hτ : AHeap.new (AHeap.new σ _) _ = τ
  have g0 : τ.get σ.next = some (.cells 5 [bcells b xR xV xL]) := by rw [← hτ]; simp [get_new]
  have g1 : τ.get (σ.next + 1) = some (.cells 5 [[int 0, int 0, nilS, nilS, nilS]]) := by rw [← hτ]; simp [get_new]
  have hG0 : Grows σ τ := by rw [← hτ]; exact (Grows.new _ _).trans (Grows.new _ _)
  have hnx0 : τ.next = σ.next + 2 := by rw [← hτ]; simp
  clear hτ
  simp [g0]
  refine thereR_ev (hy τ) (by omega) ?_
  cases ht : there l b.regions
  · have e : b.join l = (b, false) := by simp [B.join, ht]
    rw [e] at hk
    simp [g0, g1]
    refine ⟨hG0.set (by omega) _, .tup [.agg (bcells b xR xV xL), bool false], .tup rfl fun j x y hx hy => ?_, hk xR hd⟩
    match j, hx, hy with
    | 0, hx, hy => simp at hx hy; subst hx; subst hy; exact .low (h.low)
    | 1, hx, hy => simp at hx hy; subst hx; subst hy; exact .low (.val _)
    | j + 2, hx, hy => simp at hx
  · have e : b.join l = ({ b with R := pairsOf l ++ b.R }, true) := by simp [B.join, ht]
    rw [e] at hk
    simp
    refine seqW_in ?_
    simp
    obtain ⟨g, hg⟩ : ∃ g : Nat → List (Int × Int), ∀ i, g i = b.R.reverse ++ (l.take i).map fun r => (l.headD 0, r) := ⟨_, fun _ => rfl⟩
    have gl : ∀ i, (g i).length ≤ 10000 + l.length := fun i => by rw [hg]; have := hf.R; simp; omega
    refine loopW_by (fun i : Nat => [(1, .sl c 1 (irows l)), (2, .ptr σ.next 0 0), (4, .ptr (σ.next + 1) 0 0), (14, int l.length), (15, int i)])
      (fun i φ => i ≤ l.length ∧ Grows σ φ ∧ σ.next + 2 ≤ φ.next ∧ φ.get (σ.next + 1) = some (.cells 5 [[int 0, int 0, nilS, nilS, nilS]]) ∧ ∃ x, φ.get σ.next = some (.cells 5 [[int b.regions, int b.vars, x, xV, xL]]) ∧ RowG φ 2 x (prows (g i)) ∧ (x = xR ∧ i = 0 ∨ RowF (σ.next + 2) φ 2 x (prows (g i))))
      (fun fr _ => l.length - (intOf (look fr 15)).toNat) 0 (by simp) ⟨by simp, hG0, by omega, g1, xR, g0, by rw [hg]; simpa using (h.grows hG0).R, .inl ⟨rfl, rfl⟩⟩ ?_
    rintro i φ ⟨hi, hG, hn, k1, x, k0, hx, hor⟩
    simp
    by_cases hil : i < l.length
    · obtain ⟨r, hr⟩ := get_some hil
      obtain ⟨x0, hx0⟩ : ∃ x, l[0]? = some x := get_some (by omega)
      have hhd : l.headD 0 = x0 := by
        cases l with
        | nil => simp at hil
        | cons a l => simp at hx0 ⊢; exact hx0
      have gs : g (i + 1) = g i ++ [(x0, r)] := by rw [hg, hg, List.take_add_one, hr, ← hhd]; simp
      have ar : ∀ φ : AHeap, aIndexAddr 1 (.sl c 1 (irows l)) (int i) φ = some (.ref [int r]) := fun φ => by rw [aIndexAddr_sl]; simp [hr]
      have a0 : ∀ φ : AHeap, aIndexAddr 1 (.sl c 1 (irows l)) (int 0) φ = some (.ref [int x0]) := fun φ => by rw [aIndexAddr_sl]; simp [hx0]
      simp only [hil, decide_true, condK_true, k0]
      have gli := gl i
      simp [a0, ar, aBuildSl, aBuild, k0]
      obtain ⟨y, τ1, b1, b2, b3, b4⟩ := clipAppend (σ := φ) (sz := 2) (by' := 16) (es := []) (ys := prows (g i)) (y := x) hx.1 (by simp; omega)
      refine stepK_of b1 ?_
      have hown : y = .own φ.next (g i).length ∧ τ1 = φ.new (.cells 2 (prows (g i))) := by
        unfold aAppend at b1
        rw [hx.1.elsOf] at b1
        simp [elsOf] at b1
        have hbb : (g i).length * 16 ≤ 140737488355328 ∧ (g i).length ≤ 140737488355328 := ⟨by omega, by omega⟩
        exact ⟨b1.2.1.symm, b1.2.2.symm⟩
      obtain ⟨rfl, rfl⟩ := hown
      refine stepK_of (aAppend_rows (by' := 16) (xs := prows (g i)) (ys := [[int x0, int r]]) (.inr (.inr ⟨φ.next, [], by simp, by simp⟩)) (by intro c e; cases e) (.inr (.inl ⟨_, rfl⟩)) (by simp; omega)) ?_
      have q1 : ((gone (.own φ.next (g i).length) (φ.new (.cells 2 (prows (g i))))).new (.cells 2 (prows (g i) ++ [[int x0, int r]]))).next = φ.next + 2 := by simp
      have q2 : ∀ j, j < φ.next → ((gone (.own φ.next (g i).length) (φ.new (.cells 2 (prows (g i))))).new (.cells 2 (prows (g i) ++ [[int x0, int r]]))).get j = φ.get j := fun j hj => by
        rw [get_new, gone_next, if_neg (by simp; omega), gone_get (fun n e => by cases e; omega), AHeap.new_ne (by omega)]
      have q3 : ((gone (.own φ.next (g i).length) (φ.new (.cells 2 (prows (g i))))).new (.cells 2 (prows (g i) ++ [[int x0, int r]]))).get (φ.next + 1) = some (.cells 2 (prows (g i) ++ [[int x0, int r]])) := by
        rw [get_new, gone_next, if_pos (by simp)]
      simp only [AHeap.new_next, List.length_map, List.length_singleton]
      generalize (gone (.own φ.next (g i).length) (φ.new (.cells 2 (prows (g i))))).new (.cells 2 (prows (g i) ++ [[int x0, int r]])) = ω at q1 q2 q3 ⊢
      have w0 : ω.get σ.next = some (.cells 5 [[int b.regions, int b.vars, x, xV, xL]]) := by rw [q2 _ (by omega)]; exact k0
      simp [w0]
      rw [wrap64 (by omega)]
      have hgω : Grows φ ω := ⟨by omega, q2⟩
      have key : RowF (σ.next + 2) (ω.set σ.next (.cells 5 [[int b.regions, int b.vars, .own (φ.next + 1) ((g i).length + 1), xV, xL]])) 2 (.own (φ.next + 1) ((g i).length + 1)) (prows (g (i + 1))) := by
        refine ⟨⟨.inr (.inr ⟨φ.next + 1, [], by rw [gs]; simp, by rw [get_set, if_neg (by omega), q3, gs]; simp⟩), .own (by simp; omega)⟩, fun q m e => by cases e; omega⟩
      refine ⟨⟨i + 1, by simp, by omega, (hG.trans hgω).set (Nat.le_refl _) _, (by show σ.next + 2 ≤ ω.next; omega), by rw [get_set, if_neg (by omega), q2 _ (by omega)]; exact k1, key.1, .inr key⟩, by omega⟩
    · have hie : i = l.length := by omega
      subst hie
      simp [hil, k0, k1]
      have hgl : g l.length = (pairsOf l ++ b.R).reverse := by rw [hg]; simp [pairsOf]
      rcases hor with ⟨rfl, h0⟩ | hF
      · have hl0 : l = [] := List.length_eq_zero_iff.1 h0
        subst hl0
        refine ⟨hG.set (by omega) _, .tup [.agg (bcells b x xV xL), bool true], .tup rfl fun j x y hx hy => ?_, hk x (by simpa [pairsOf] using hd)⟩
        match j, hx, hy with
        | 0, hx, hy => simp at hx hy; subst hx; subst hy; exact .low (h.low)
        | 1, hx, hy => simp at hx hy; subst hx; subst hy; exact .low (.val _)
        | j + 2, hx, hy => simp at hx
      · rw [hgl] at hF
        have hR' : BRowD { b with R := pairsOf l ++ b.R } (.sl false 2 (prows (pairsOf l ++ b.R).reverse)) xV xL := ⟨.inr ⟨_, rfl⟩, hd.V, hd.L⟩
        have hz := (RowF.low (n := σ.next) (hF.set (m := σ.next + 1) (by omega) (.cells 5 [[int b.regions, int b.vars, x, xV, xL]])) (by omega)).frz (prows_dat _)
        refine ⟨hG.set (by omega) _, .tup [.agg (bcells { b with R := pairsOf l ++ b.R } (.sl false 2 (prows (pairsOf l ++ b.R).reverse)) xV xL), bool true], .tup rfl fun j x y hx hy => ?_, hk _ hR'⟩
        match j, hx, hy with
        | 0, hx, hy =>
          simp at hx hy; subst hx; subst hy
          refine .agg rfl fun j u w hu hw => ?_
          match j, hu, hw with
          | 0, hu, hw => simp at hu hw; subst hu; subst hw; exact .low (.val _)
          | 1, hu, hw => simp at hu hw; subst hu; subst hw; exact .low (.val _)
          | 2, hu, hw => simp at hu hw; subst hu; subst hw; exact by simpa [prows] using hz
          | 3, hu, hw => simp at hu hw; subst hu; subst hw; exact .low h.V.2
          | 4, hu, hw => simp at hu hw; subst hu; subst hw; exact .low h.L.2
          | j + 5, hu, hw => simp at hu
        | 1, hx, hy => simp at hx hy; subst hx; subst hy; exact .low (.val _)
        | j + 2, hx, hy => simp at hx

theorem joinVarsB_ev (hd : BRowD b xR xV xL) (hf : Fair b) {c : Bool} {l : List Int} (hl : l.length ≤ 1000) (hk : ∀ xV', BRowD (b.joinVars l).1 xR xV' xL → k (.tup [.agg (bcells (b.joinVars l).1 xR xV' xL), bool (b.joinVars l).2]) σ) : Ev PR 33 [.agg (bcells b xR xV xL), .sl c 1 (irows l)] σ k kp := by
  have h : BRow σ b xR xV xL := hd.row
  refine Ev.pure ?_
  apply F33_ev; unfold F33
  have hy : ∀ σ : AHeap, RowG σ 1 (.sl c 1 (irows l)) (irows l) := fun σ => RowG.sl (irows_dat l)
  simp only [aBox_eq, acells_agg, Option.map_some, stepK_some, aAlloc_some]
  generalize hτ : AHeap.new (AHeap.new σ _) _ = τ
  have g0 : τ.get σ.next = some (.cells 5 [bcells b xR xV xL]) := by rw [← hτ]; simp [get_new]
  have g1 : τ.get (σ.next + 1) = some (.cells 5 [[int 0, int 0, nilS, nilS, nilS]]) := by rw [← hτ]; simp [get_new]
  have hG0 : Grows σ τ := by rw [← hτ]; exact (Grows.new _ _).trans (Grows.new _ _)
  have hnx0 : τ.next = σ.next + 2 := by rw [← hτ]; simp
  clear hτ
  simp [g0]
  refine thereR_ev (hy τ) (by omega) ?_
  cases ht : there l b.vars
  · have e : b.joinVars l = (b, false) := by simp [B.joinVars, ht]
    rw [e] at hk
    simp [g0, g1]
    refine ⟨hG0.set (by omega) _, .tup [.agg (bcells b xR xV xL), bool false], .tup rfl fun j x y hx hy => ?_, hk xV hd⟩
    match j, hx, hy with
    | 0, hx, hy => simp at hx hy; subst hx; subst hy; exact .low (h.low)
    | 1, hx, hy => simp at hx hy; subst hx; subst hy; exact .low (.val _)
    | j + 2, hx, hy => simp at hx
  · have e : b.joinVars l = ({ b with V := pairsOf l ++ b.V }, true) := by simp [B.joinVars, ht]
    rw [e] at hk
    simp
    refine seqW_in ?_
    simp
    obtain ⟨g, hg⟩ : ∃ g : Nat → List (Int × Int), ∀ i, g i = b.V.reverse ++ (l.take i).map fun r => (l.headD 0, r) := ⟨_, fun _ => rfl⟩
    have gl : ∀ i, (g i).length ≤ 10000 + l.length := fun i => by rw [hg]; have := hf.V; simp; omega
    refine loopW_by (fun i : Nat => [(1, .sl c 1 (irows l)), (2, .ptr σ.next 0 0), (4, .ptr (σ.next + 1) 0 0), (14, int l.length), (15, int i)])
      (fun i φ => i ≤ l.length ∧ Grows σ φ ∧ σ.next + 2 ≤ φ.next ∧ φ.get (σ.next + 1) = some (.cells 5 [[int 0, int 0, nilS, nilS, nilS]]) ∧ ∃ x, φ.get σ.next = some (.cells 5 [[int b.regions, int b.vars, xR, x, xL]]) ∧ RowG φ 2 x (prows (g i)) ∧ (x = xV ∧ i = 0 ∨ RowF (σ.next + 2) φ 2 x (prows (g i))))
      (fun fr _ => l.length - (intOf (look fr 15)).toNat) 0 (by simp) ⟨by simp, hG0, by omega, g1, xV, g0, by rw [hg]; simpa using (h.grows hG0).V, .inl ⟨rfl, rfl⟩⟩ ?_
    rintro i φ ⟨hi, hG, hn, k1, x, k0, hx, hor⟩
    simp
    by_cases hil : i < l.length
    · obtain ⟨r, hr⟩ := get_some hil
      obtain ⟨x0, hx0⟩ : ∃ x, l[0]? = some x := get_some (by omega)
      have hhd : l.headD 0 = x0 := by
        cases l with
        | nil => simp at hil
        | cons a l => simp at hx0 ⊢; exact hx0
      have gs : g (i + 1) = g i ++ [(x0, r)] := by rw [hg, hg, List.take_add_one, hr, ← hhd]; simp
      have ar : ∀ φ : AHeap, aIndexAddr 1 (.sl c 1 (irows l)) (int i) φ = some (.ref [int r]) := fun φ => by rw [aIndexAddr_sl]; simp [hr]
      have a0 : ∀ φ : AHeap, aIndexAddr 1 (.sl c 1 (irows l)) (int 0) φ = some (.ref [int x0]) := fun φ => by rw [aIndexAddr_sl]; simp [hx0]
      simp only [hil, decide_true, condK_true, k0]
      have gli := gl i
      simp [a0, ar, aBuildSl, aBuild, k0]
      obtain ⟨y, τ1, b1, b2, b3, b4⟩ := clipAppend (σ := φ) (sz := 2) (by' := 16) (es := []) (ys := prows (g i)) (y := x) hx.1 (by simp; omega)
      refine stepK_of b1 ?_
      have hown : y = .own φ.next (g i).length ∧ τ1 = φ.new (.cells 2 (prows (g i))) := by
        unfold aAppend at b1
        rw [hx.1.elsOf] at b1
        simp [elsOf] at b1
        have hbb : (g i).length * 16 ≤ 140737488355328 ∧ (g i).length ≤ 140737488355328 := ⟨by omega, by omega⟩
        exact ⟨b1.2.1.symm, b1.2.2.symm⟩
      obtain ⟨rfl, rfl⟩ := hown
      refine stepK_of (aAppend_rows (by' := 16) (xs := prows (g i)) (ys := [[int x0, int r]]) (.inr (.inr ⟨φ.next, [], by simp, by simp⟩)) (by intro c e; cases e) (.inr (.inl ⟨_, rfl⟩)) (by simp; omega)) ?_
      have q1 : ((gone (.own φ.next (g i).length) (φ.new (.cells 2 (prows (g i))))).new (.cells 2 (prows (g i) ++ [[int x0, int r]]))).next = φ.next + 2 := by simp
      have q2 : ∀ j, j < φ.next → ((gone (.own φ.next (g i).length) (φ.new (.cells 2 (prows (g i))))).new (.cells 2 (prows (g i) ++ [[int x0, int r]]))).get j = φ.get j := fun j hj => by
        rw [get_new, gone_next, if_neg (by simp; omega), gone_get (fun n e => by cases e; omega), AHeap.new_ne (by omega)]
      have q3 : ((gone (.own φ.next (g i).length) (φ.new (.cells 2 (prows (g i))))).new (.cells 2 (prows (g i) ++ [[int x0, int r]]))).get (φ.next + 1) = some (.cells 2 (prows (g i) ++ [[int x0, int r]])) := by
        rw [get_new, gone_next, if_pos (by simp)]
      simp only [AHeap.new_next, List.length_map, List.length_singleton]
      generalize (gone (.own φ.next (g i).length) (φ.new (.cells 2 (prows (g i))))).new (.cells 2 (prows (g i) ++ [[int x0, int r]])) = ω at q1 q2 q3 ⊢
      have w0 : ω.get σ.next = some (.cells 5 [[int b.regions, int b.vars, xR, x, xL]]) := by rw [q2 _ (by omega)]; exact k0
      simp [w0]
      rw [wrap64 (by omega)]
      have hgω : Grows φ ω := ⟨by omega, q2⟩
      have key : RowF (σ.next + 2) (ω.set σ.next (.cells 5 [[int b.regions, int b.vars, xR, .own (φ.next + 1) ((g i).length + 1), xL]])) 2 (.own (φ.next + 1) ((g i).length + 1)) (prows (g (i + 1))) := by
        refine ⟨⟨.inr (.inr ⟨φ.next + 1, [], by rw [gs]; simp, by rw [get_set, if_neg (by omega), q3, gs]; simp⟩), .own (by simp; omega)⟩, fun q m e => by cases e; omega⟩
      refine ⟨⟨i + 1, by simp, by omega, (hG.trans hgω).set (Nat.le_refl _) _, (by show σ.next + 2 ≤ ω.next; omega), by rw [get_set, if_neg (by omega), q2 _ (by omega)]; exact k1, key.1, .inr key⟩, by omega⟩
    · have hie : i = l.length := by omega
      subst hie
      simp [hil, k0, k1]
      have hgl : g l.length = (pairsOf l ++ b.V).reverse := by rw [hg]; simp [pairsOf]
      rcases hor with ⟨rfl, h0⟩ | hF
      · have hl0 : l = [] := List.length_eq_zero_iff.1 h0
        subst hl0
        refine ⟨hG.set (by omega) _, .tup [.agg (bcells b xR x xL), bool true], .tup rfl fun j x y hx hy => ?_, hk x (by simpa [pairsOf] using hd)⟩
        match j, hx, hy with
        | 0, hx, hy => simp at hx hy; subst hx; subst hy; exact .low (h.low)
        | 1, hx, hy => simp at hx hy; subst hx; subst hy; exact .low (.val _)
        | j + 2, hx, hy => simp at hx
      · rw [hgl] at hF
        have hR' : BRowD { b with V := pairsOf l ++ b.V } xR (.sl false 2 (prows (pairsOf l ++ b.V).reverse)) xL := ⟨hd.R, .inr ⟨_, rfl⟩, hd.L⟩
        have hz := (RowF.low (n := σ.next) (hF.set (m := σ.next + 1) (by omega) (.cells 5 [[int b.regions, int b.vars, xR, x, xL]])) (by omega)).frz (prows_dat _)
        refine ⟨hG.set (by omega) _, .tup [.agg (bcells { b with V := pairsOf l ++ b.V } xR (.sl false 2 (prows (pairsOf l ++ b.V).reverse)) xL), bool true], .tup rfl fun j x y hx hy => ?_, hk _ hR'⟩
        match j, hx, hy with
        | 0, hx, hy =>
          simp at hx hy; subst hx; subst hy
          refine .agg rfl fun j u w hu hw => ?_
          match j, hu, hw with
          | 0, hu, hw => simp at hu hw; subst hu; subst hw; exact .low (.val _)
          | 1, hu, hw => simp at hu hw; subst hu; subst hw; exact .low (.val _)
          | 2, hu, hw => simp at hu hw; subst hu; subst hw; exact .low h.R.2
          | 3, hu, hw => simp at hu hw; subst hu; subst hw; exact by simpa [prows] using hz
          | 4, hu, hw => simp at hu hw; subst hu; subst hw; exact .low h.L.2
          | j + 5, hu, hw => simp at hu
        | 1, hx, hy => simp at hx hy; subst hx; subst hy; exact .low (.val _)
        | j + 2, hx, hy => simp at hx
end Go.Abs.Bas
