/-
  The document's basis: more of a variable.
-/
import Derived.Test.YtjilebpcaemopaaGreatBasR6
set_option linter.unusedVariables false
set_option linter.unusedSimpArgs false
namespace Go.Abs.Bas
open Go Go.Abs Go.Abs.At Go.Proofs.BasD
attribute [local simp] Nat.add_assoc
variable {σ : AHeap} {b : B} {k kp : AV → AHeap → Prop} {xR xV xL : AV}

theorem addB_ev (hd : BRowD b xR xV xL) (hf : Fair b) {v : Int} {c c' : Bool} {A : List Atom} {V : List Int} (hA : A.length ≤ 1000) (hV : V.length ≤ 1000) (hk : ∀ xL', BRowD (b.add v A V).1 xR xV xL' → k (.tup [.agg (bcells (b.add v A V).1 xR xV xL'), bool (b.add v A V).2]) σ) :
    Ev PR 34 [.agg (bcells b xR xV xL), int v, .sl c 3 (arows A), .sl c' 1 (irows V)] σ k kp := by
  have h : BRow σ b xR xV xL := hd.row
  refine Ev.pure ?_
  apply F34_ev; unfold F34
  have hya : ∀ σ : AHeap, RowG σ 3 (.sl c 3 (arows A)) (arows A) := fun σ => RowG.sl (arows_dat A)
  have hyv : ∀ σ : AHeap, RowG σ 1 (.sl c' 1 (irows V)) (irows V) := fun σ => RowG.sl (irows_dat V)
  simp only [aBox_eq, acells_agg, Option.map_some, stepK_some, aAlloc_some]
  generalize hτ : AHeap.new (AHeap.new σ _) _ = τ
  have g0 : τ.get σ.next = some (.cells 5 [bcells b xR xV xL]) := by rw [← hτ]; simp [get_new]
  have g1 : τ.get (σ.next + 1) = some (.cells 5 [[int 0, int 0, nilS, nilS, nilS]]) := by rw [← hτ]; simp [get_new]
  have hG0 : Grows σ τ := by rw [← hτ]; exact (Grows.new _ _).trans (Grows.new _ _)
  have hnx0 : τ.next = σ.next + 2 := by rw [← hτ]; simp
  clear hτ
  have no : ∀ φ, Grows τ φ → (A.all (okA b) && inB v b.vars && there V b.vars) = false → ∀ K : AV → AHeap → Prop, (∀ x φ, (∃ y, Grows σ φ ∧ Frz φ σ.next x y ∧ k y σ) → K x φ) → K (.tup [.agg (bcells b xR xV xL), bool false]) (φ.set (σ.next + 1) (.cells 5 [bcells b xR xV xL])) := fun φ g e K hK => by
    have e2 : b.add v A V = (b, false) := by simp [B.add, e]
    rw [e2] at hk
    refine hK _ _ ⟨.tup [.agg (bcells b xR xV xL), bool false], (hG0.trans g).set (by omega) _, .tup rfl fun j x y hx hy => ?_, hk xL hd⟩
    match j, hx, hy with
    | 0, hx, hy => simp at hx hy; subst hx; subst hy; exact .low (h.low)
    | 1, hx, hy => simp at hx hy; subst hx; subst hy; exact .low (.val _)
    | j + 2, hx, hy => simp at hx
  obtain ⟨K, hK⟩ : ∃ K : AV → AHeap → Prop, ∀ x φ, K x φ ↔ (∃ y, Grows σ φ ∧ Frz φ σ.next x y ∧ k y σ) := ⟨_, fun _ _ => Iff.rfl⟩
  have no' := fun φ g e => no φ g e K fun x φ h => (hK x φ).2 h
  have hK2 : ∀ x φ, K x φ → Grows σ φ ∧ ∃ y, Frz φ σ.next x y ∧ k y σ := fun x φ h => by
    obtain ⟨y, h1, h2, h3⟩ := (hK x φ).1 h
    exact ⟨h1, y, h2, h3⟩
  refine seqW_by (fun fr φ => fr = [(1, int v), (2, .sl c 3 (arows A)), (3, .sl c' 1 (irows V)), (4, .ptr σ.next 0 0), (8, .ptr (σ.next + 1) 0 0)] ∧ φ = τ ∧ A.all (okA b) = true) ?_ ?_
  · simp
    refine loopW_by (fun i : Nat => [(1, int v), (2, .sl c 3 (arows A)), (3, .sl c' 1 (irows V)), (4, .ptr σ.next 0 0), (8, .ptr (σ.next + 1) 0 0), (12, int A.length), (13, int i)])
      (fun i φ => i ≤ A.length ∧ φ = τ ∧ ∀ a ∈ A.take i, okA b a = true)
      (fun fr _ => A.length - (intOf (look fr 13)).toNat) 0 (by simp) ⟨by simp, rfl, by simp⟩ ?_
    rintro i φ ⟨hi, rfl, hall⟩
    simp
    by_cases hil : i < A.length
    · obtain ⟨a, ha⟩ := get_some hil
      have ar : aIndexAddr 3 (.sl c 3 (arows A)) (int i) φ = some (.ref a.av) := by rw [aIndexAddr_sl]; simp [ha]
      have bad : okA b a = false → A.all (okA b) = false := fun h => List.all_eq_false.2 ⟨a, List.mem_of_getElem? ha, by simp [h]⟩
      simp only [hil, decide_true, condK_true, ar]
      simp [Atom.take3]
      refine atom_ref ?_
      obtain ⟨kd, rho, exn⟩ := a
      cases hat : atomM ⟨kd, rho, exn⟩
      · simp [g0, g1]
        exact hK2 _ _ (no' φ (Grows.refl _) (by rw [bad (by simp [okA, hat])]; rfl))
      · by_cases h3 : kd = 3
        · simp [ar, h3, Atom.av]
          rw [wrap64 (by omega)]
          refine ⟨⟨i + 1, by simp, by omega, fun x hx => ?_⟩, by omega⟩
          rw [List.take_add_one, ha] at hx
          rcases List.mem_append.1 hx with hx | hx
          · exact hall x hx
          · simp at hx; subst hx; simp only [okA, hat, Bool.true_and]; simp [h3]
        · by_cases hlt : rho < (b.regions : Int)
          · have hle : ¬ (b.regions : Int) ≤ rho := by omega
            simp [ar, h3, Atom.av, g0, hle]
            rw [wrap64 (by omega)]
            refine ⟨⟨i + 1, by simp, by omega, fun x hx => ?_⟩, by omega⟩
            rw [List.take_add_one, ha] at hx
            rcases List.mem_append.1 hx with hx | hx
            · exact hall x hx
            · simp at hx; subst hx; simp [okA, hat, hlt]
          · have hle : (b.regions : Int) ≤ rho := by omega
            simp [ar, h3, Atom.av, g0, hle, g1]
            exact hK2 _ _ (no' φ (Grows.refl _) (by rw [bad (by simp [okA, hat, h3, hlt])]; rfl))
    · rw [List.take_of_length_le (by omega)] at hall
      simp [hil]
      exact hall
  · rintro fr φ ⟨rfl, rfl, hall⟩
    simp
    have gn := Grows.new φ (.cells 1 (irows [v] ++ []))
    have hv1 : RowG (φ.new (.cells 1 [[int v]])) 1 (.own φ.next 1) (irows [v]) := ⟨.inr (.inr ⟨φ.next, [], rfl, by simp⟩), .own (by simp)⟩
    have gn : Grows φ (φ.new (.cells 1 [[int v]])) := Grows.new _ _
    generalize hψ : φ.new (.cells 1 [[int v]]) = ψ at *
    have k0 : ψ.get σ.next = some (.cells 5 [bcells b xR xV xL]) := by rw [gn.get _ (by omega)]; exact g0
    have k1 : ψ.get (σ.next + 1) = some (.cells 5 [[int 0, int 0, nilS, nilS, nilS]]) := by rw [gn.get _ (by omega)]; exact g1
    have hψn : ψ.next = φ.next + 1 := by rw [← hψ]; rfl
    simp [k0]
    refine thereR_ev hv1 (by simp) ?_
    cases h1 : inB v b.vars
    · simp [there, h1, k0, k1]
      exact hK2 _ _ (no' ψ gn (by simp [h1]))
    simp [there, h1, k0]
    refine thereR_ev (hyv ψ) (by omega) ?_
    cases h2 : there V b.vars
    · simp [k0, k1]
      exact hK2 _ _ (no' ψ gn (by simp [h2]))
    simp [k0, aBuild]
    have hok : (A.all (okA b) && inB v b.vars && there V b.vars) = true := by rw [hall, h1, h2]; rfl
    have e2 : b.add v A V = ({ b with L := b.L ++ [⟨v, A, V⟩] }, true) := by simp only [B.add]; rw [if_pos hok]
    rw [e2] at hk
    have hLl := hf.small.len
    have hL2 : Rows (ψ.new (.cells 3 [])) 3 xL (lrows b.L) := (hd.L.row (σ := ψ.new (.cells 3 [])) (lrows_dat _)).1
    have k0' : (ψ.new (.cells 3 [])).get σ.next = some (.cells 5 [bcells b xR xV xL]) := by rw [AHeap.new_ne (by omega)]; exact k0
    simp only [k0']
    refine stepP (x := xL) rfl ?_
    refine stepK_of (aAppend_rows (by' := 56) (x := .own ψ.next 0) (xs := []) (.inr (.inr ⟨ψ.next, [], rfl, by simp⟩)) (by intro c e; cases e) hL2 (by simp; omega)) ?_
    simp only [List.length_nil, Nat.zero_add, List.nil_append, List.length_map, AHeap.new_next]
    have q1 : ((gone (.own ψ.next 0) (ψ.new (.cells 3 []))).new (.cells 3 (lrows b.L))).next = ψ.next + 2 := by simp
    have q2 : ∀ j, j < ψ.next → ((gone (.own ψ.next 0) (ψ.new (.cells 3 []))).new (.cells 3 (lrows b.L))).get j = ψ.get j := fun j hj => by
      rw [get_new, gone_next, if_neg (by simp; omega), gone_get (fun n e => by cases e; omega), AHeap.new_ne (by omega)]
    have q3 : ((gone (.own ψ.next 0) (ψ.new (.cells 3 []))).new (.cells 3 (lrows b.L))).get (ψ.next + 1) = some (.cells 3 (lrows b.L)) := by
      rw [get_new, gone_next, if_pos (by simp)]
    generalize (gone (.own ψ.next 0) (ψ.new (.cells 3 []))).new (.cells 3 (lrows b.L)) = ω at q1 q2 q3 ⊢
    simp
    refine stepK_of (aAppend_rows (by' := 56) (xs := lrows b.L) (ys := [[int v, .sl c 3 (arows A), .sl c' 1 (irows V)]]) (.inr (.inr ⟨ψ.next + 1, [], by simp, by rw [AHeap.new_ne (by omega)]; simpa using q3⟩)) (by intro c e; cases e) (.inr (.inr ⟨ψ.next + 2, [], rfl, by rw [← q1]; simp⟩)) (by simp; omega)) ?_
    simp only [List.length_map, List.length_singleton, AHeap.new_next]
    have r1 : ((gone (.own (ψ.next + 1) b.L.length) (ω.new (.cells 3 [[int v, .sl c 3 (arows A), .sl c' 1 (irows V)]]))).new (.cells 3 (lrows b.L ++ [[int v, .sl c 3 (arows A), .sl c' 1 (irows V)]]))).next = ω.next + 2 := by simp
    have r2 : ∀ j, j < ψ.next → ((gone (.own (ψ.next + 1) b.L.length) (ω.new (.cells 3 [[int v, .sl c 3 (arows A), .sl c' 1 (irows V)]]))).new (.cells 3 (lrows b.L ++ [[int v, .sl c 3 (arows A), .sl c' 1 (irows V)]]))).get j = ψ.get j := fun j hj => by
      rw [get_new, gone_next, if_neg (by simp; omega), gone_get (fun n e => by cases e; omega), AHeap.new_ne (by omega), q2 j hj]
    have r3 : ((gone (.own (ψ.next + 1) b.L.length) (ω.new (.cells 3 [[int v, .sl c 3 (arows A), .sl c' 1 (irows V)]]))).new (.cells 3 (lrows b.L ++ [[int v, .sl c 3 (arows A), .sl c' 1 (irows V)]]))).get (ω.next + 1) = some (.cells 3 (lrows b.L ++ [[int v, .sl c 3 (arows A), .sl c' 1 (irows V)]])) := by
      rw [get_new, gone_next, if_pos (by simp)]
    generalize (gone (.own (ψ.next + 1) b.L.length) (ω.new (.cells 3 [[int v, .sl c 3 (arows A), .sl c' 1 (irows V)]]))).new (.cells 3 (lrows b.L ++ [[int v, .sl c 3 (arows A), .sl c' 1 (irows V)]])) = υ at r1 r2 r3 ⊢
    have w0 : υ.get σ.next = some (.cells 5 [bcells b xR xV xL]) := by rw [r2 _ (by omega)]; exact k0
    have w1 : υ.get (σ.next + 1) = some (.cells 5 [[int 0, int 0, nilS, nilS, nilS]]) := by rw [r2 _ (by omega)]; exact k1
    simp [w0, w1, get_set]
    have hgυ : Grows φ υ := ⟨by omega, fun j hj => by rw [r2 j (by omega)]; exact gn.get j hj⟩
    have hR' : BRowD { b with L := b.L ++ [⟨v, A, V⟩] } xR xV (.sl false 3 (lrows (b.L ++ [⟨v, A, V⟩]))) := ⟨hd.R, hd.V, .inr ⟨_, rfl⟩⟩
    refine ⟨((hG0.trans hgυ).set (by omega) _).set (by omega) _, .tup [.agg (bcells { b with L := b.L ++ [⟨v, A, V⟩] } xR xV (.sl false 3 (lrows (b.L ++ [⟨v, A, V⟩])))), bool true], .tup rfl fun j x y hx hy => ?_, hk _ hR'⟩
    match j, hx, hy with
    | 0, hx, hy =>
      simp at hx hy; subst hx; subst hy
      refine .agg rfl fun j u w hu hw => ?_
      match j, hu, hw with
      | 0, hu, hw => simp at hu hw; subst hu; subst hw; exact .low (.val _)
      | 1, hu, hw => simp at hu hw; subst hu; subst hw; exact .low (.val _)
      | 2, hu, hw => simp at hu hw; subst hu; subst hw; exact .low h.R.2
      | 3, hu, hw => simp at hu hw; subst hu; subst hw; exact .low h.V.2
      | 4, hu, hw =>
        simp at hu hw; subst hu; subst hw
        have hrow : FrzR ((υ.set σ.next (.cells 5 [[int b.regions, int b.vars, xR, xV, .own (ω.next + 1) (b.L.length + 1)]])).set (σ.next + 1) (.cells 5 [[int b.regions, int b.vars, xR, xV, .own (ω.next + 1) (b.L.length + 1)]])) σ.next (lrows b.L ++ [[int v, .sl c 3 (arows A), .sl c' 1 (irows V)]]) (lrows (b.L ++ [⟨v, A, V⟩])) := by
          unfold lrows
          rw [List.map_append]
          refine FrzR.append (FrzR.refl fun el hel x hx => (lrows_dat b.L el hel x hx).low _) (.cons (.cons (.low (.val _)) (.cons ?_ (.cons ?_ .nil))) .nil)
          · exact FrzR.sl (FrzR.refl fun el hel x hx => (arows_dat A el hel x hx).low _)
          · exact FrzR.sl (FrzR.refl fun el hel x hx => (irows_dat V el hel x hx).low _)
        have := FrzR.own (rest := []) (len := b.L.length + 1) (id := ω.next + 1) (sz := 3) hrow (by omega) (by simp) (by rw [get_set, if_neg (by omega), get_set, if_neg (by omega), r3]; simp)
        simpa [lrows] using this
      | j + 5, hu, hw => simp at hu
    | 1, hx, hy => simp at hx hy; subst hx; subst hy; exact .low (.val _)
    | j + 2, hx, hy => simp at hx
end Go.Abs.Bas
