/-
  The document's basis: what it tells.
-/
import Derived.Test.YtjilebpcaemopaaGreatBasR3
set_option linter.unusedVariables false
set_option linter.unusedSimpArgs false
namespace Go.Abs.Bas
open Go Go.Abs Go.Abs.At Go.Proofs.BasD
attribute [local simp] Nat.add_assoc
variable {σ : AHeap} {b : B} {k kp : AV → AHeap → Prop}

abbrev tv (t : Told) : List AV := [int t.v, effV t.atoms, rhosV t.vars]
abbrev lrows (l : List Told) : List (List AV) := l.map tv
theorem lrows_dat (l : List Told) : ∀ el ∈ lrows l, ∀ x ∈ el, Dat x := by
  intro el hel x hx
  obtain ⟨a, _, rfl⟩ := List.mem_map.1 hel
  simp only [tv, List.mem_cons, List.not_mem_nil, or_false] at hx
  rcases hx with rfl | rfl | rfl
  · exact .val _
  · exact effV_dat _
  · exact rhosV_dat _
structure BRow (σ : AHeap) (b : B) (xR xV xL : AV) : Prop where
  R : RowG σ 2 xR (prows b.R.reverse)
  V : RowG σ 2 xV (prows b.V.reverse)
  L : RowG σ 3 xL (lrows b.L)
theorem BRow.grows {σ τ b xR xV xL} (h : BRow σ b xR xV xL) (g : Grows σ τ) : BRow τ b xR xV xL := ⟨h.R.grows g, h.V.grows g, h.L.grows g⟩
abbrev bcells (b : B) (xR xV xL : AV) : List AV := [int b.regions, int b.vars, xR, xV, xL]
structure Fair (b : B) : Prop where
  small : Small b
  R : b.R.length ≤ 10000
  V : b.V.length ≤ 10000
variable {xR xV xL : AV}
theorem nm_rev (l : List (Int × Int)) : nm l.reverse = nm l := nm_perm fun p => by simp
theorem nameB_ev (h : BRow σ b xR xV xL) (hf : Fair b) {n : Int} (hk : k (int (b.name n)) σ) : Ev PR 45 [.agg (bcells b xR xV xL), int n] σ k kp := by
  refine Ev.pureD hk ((Dat.val _).low _) fun k' hk' => ?_
  apply F45_ev; unfold F45
  simp
  have hG := Grows.new σ (.cells 5 [bcells b xR xV xL])
  refine nameR_ev (h.grows hG).R (fun p hp => hf.small.ok.R p (by simpa using hp)) (by have := hf.small.regions; omega) (by have := hf.R; simp; omega) ?_
  rw [nm_rev]
  exact hk' _ hG
theorem varNameB_ev (h : BRow σ b xR xV xL) (hf : Fair b) {n : Int} (hk : k (int (b.varName n)) σ) : Ev PR 46 [.agg (bcells b xR xV xL), int n] σ k kp := by
  refine Ev.pureD hk ((Dat.val _).low _) fun k' hk' => ?_
  apply F46_ev; unfold F46
  simp
  have hG := Grows.new σ (.cells 5 [bcells b xR xV xL])
  refine nameR_ev (h.grows hG).V (fun p hp => hf.small.ok.V p (by simpa using hp)) (by have := hf.small.vars; omega) (by have := hf.V; simp; omega) ?_
  rw [nm_rev]
  exact hk' _ hG

theorem RowF.beside {n sz sz' : Nat} {φ ω : AHeap} {x z : AV} {els els' : List (List AV)} (hx : Kid n 0 sz φ x els) (hz : RowF n φ sz' z els') (hne : sz ≠ sz') (hk : ∀ j, (∀ m, x ≠ .own j m) → j < φ.next → ω.get j = φ.get j) (hn : φ.next ≤ ω.next) : RowF n ω sz' z els' := by
  refine ⟨⟨?_, hz.1.2.mono hn⟩, hz.2⟩
  rcases hz.1.1 with h | h | ⟨q, rest, rfl, h⟩
  · exact .inl h
  · exact .inr (.inl h)
  · have hq : q < φ.next := by
      cases hz.1.2 with
      | own hh => exact hh
    refine .inr (.inr ⟨q, rest, rfl, ?_⟩)
    have hno : ∀ m, x ≠ .own q m := fun m e => by
      rcases hx with ⟨h1, _⟩ | ⟨q1, rest1, h1, h2, _⟩
      · rw [h1] at e; cases e
      · rw [h1] at e; cases e
        rw [h] at h2
        injection h2 with h2
        injection h2 with h3 h4
        exact hne h3.symm
    rw [hk q hno hq]; exact h
theorem Kid.keep {n sz : Nat} {σ φ ω : AHeap} {x : AV} {els : List (List AV)} (hx : Kid n 0 sz φ x els) (g : Grows σ φ) (hn0 : σ.next ≤ n) (hk : ∀ j, (∀ m, x ≠ .own j m) → j < φ.next → ω.get j = φ.get j) (hn : φ.next ≤ ω.next) : Grows σ ω :=
  ⟨Nat.le_trans g.next hn, fun j hj => by
    have hno : ∀ m, x ≠ .own j m := fun m e => by
      rcases hx with ⟨h, _⟩ | ⟨q, rest, h, _, h3, _⟩
      · rw [h] at e; cases e
      · rw [h] at e; cases e; omega
    rw [hk j hno (Nat.lt_of_lt_of_le hj g.next)]
    exact g.get j hj⟩

theorem foldl_ins_eq (l : List Int) : l.foldl (fun s a => ins ltI a s) [] = setOf ltI l := rfl
theorem hasB_ev (h : BRow σ b xR xV xL) (hf : Fair b) {v : Int} (hk : k (.tup [effV (b.has v).1, rhosV (b.has v).2]) σ) : Ev PR 43 [.agg (bcells b xR xV xL), int v] σ k kp := by
  refine Ev.pure ?_
  apply F43_ev; unfold F43
  simp only [aBox_eq, acells_agg, Option.map_some, stepK_some]
  generalize hτ : σ.new _ = τ
  have g0 : τ.get σ.next = some (.cells 5 [bcells b xR xV xL]) := by rw [← hτ]; simp [get_new]
  have hG0 : Grows σ τ := by rw [← hτ]; exact Grows.new _ _
  have hnx0 : τ.next = σ.next + 1 := by rw [← hτ]; simp
  clear hτ
  simp
  generalize hυ : AHeap.new (AHeap.new τ _) _ = υ
  have u1 : υ.get τ.next = some (.cells 3 []) := by rw [← hυ]; simp [get_new]
  have u2 : υ.get (τ.next + 1) = some (.cells 1 []) := by rw [← hυ]; simp [get_new]
  have hGu : Grows τ υ := by rw [← hυ]; exact (Grows.new _ _).trans (Grows.new _ _)
  have hnx1 : υ.next = τ.next + 2 := by rw [← hυ]; simp
  clear hυ
  have box : ∀ ω, Grows τ ω → ω.get σ.next = some (.cells 5 [bcells b xR xV xL]) := fun ω g => by rw [g.get _ (by omega)]; exact g0
  have bld : ∀ ω, Grows τ ω → aLoad true 5 (.ptr σ.next 0 0) ω = some (.agg (bcells b xR xV xL)) ∧ (∀ i, i < 5 → aFieldAddr i (.ptr σ.next 0 0) = some (.ptr σ.next 0 i)) ∧ aLoad false 1 (.ptr σ.next 0 4) ω = some xL := fun ω g => by
    refine ⟨by simp [box ω g], fun i _ => by simp, by simp [box ω g]⟩
  have hB : ∀ ω, Grows τ ω → BRow ω b xR xV xL := fun ω g => h.grows (hG0.trans g)
  obtain ⟨b1, b2, b3⟩ := bld υ hGu
  refine stepP b1 ?_
  refine varNameB_ev (hB υ hGu) hf ?_
  refine seqW_in ?_
  have hlen : ∀ ω, Grows τ ω → aLenK .slice xL ω = some (int b.L.length) := fun ω g => by have := (hB ω g).L.lenS; simpa using this
  simp [box υ hGu, hlen υ hGu]
  obtain ⟨sel, hsel⟩ : ∃ sel : Told → Bool, ∀ t, sel t = decide (0 ≤ b.varName v ∧ b.varName t.v = b.varName v) := ⟨_, fun _ => rfl⟩
  obtain ⟨Ag, hAg⟩ : ∃ Ag : List Told → List Atom, ∀ i, Ag i = ((i.filter sel).flatMap (·.atoms)).map b.ren := ⟨_, fun _ => rfl⟩
  obtain ⟨Vg, hVg⟩ : ∃ Vg : List Told → List Int, ∀ i, Vg i = ((i.filter sel).flatMap (·.vars)).map b.varName := ⟨_, fun _ => rfl⟩
  have As : ∀ l t, Ag (l ++ [t]) = Ag l ++ if sel t = true then t.atoms.map b.ren else [] := fun l t => by
    rw [hAg, hAg, List.filter_append]
    cases hs : sel t <;> simp [hs]
  have Vs : ∀ l t, Vg (l ++ [t]) = Vg l ++ if sel t = true then t.vars.map b.varName else [] := fun l t => by
    rw [hVg, hVg, List.filter_append]
    cases hs : sel t <;> simp [hs]
  have hL := hf.small.len
  have hAl : ∀ i, (Ag (b.L.take i)).length ≤ 100000 := fun i => by
    rw [hAg, List.length_map]
    have h2 := flat_le (l := (b.L.take i).filter sel) (f := (·.atoms)) (c := 100) fun t ht => (hf.small.told t (List.mem_of_mem_take (List.mem_filter.1 ht).1)).1
    have h3 : ((b.L.take i).filter sel).length ≤ (b.L.take i).length := List.length_filter_le _ _
    simp at h3; omega
  have hVl : ∀ i, (Vg (b.L.take i)).length ≤ 100000 := fun i => by
    rw [hVg, List.length_map]
    have h2 := flat_le (l := (b.L.take i).filter sel) (f := (·.vars)) (c := 100) fun t ht => (hf.small.told t (List.mem_of_mem_take (List.mem_filter.1 ht).1)).2
    have h3 : ((b.L.take i).filter sel).length ≤ (b.L.take i).length := List.length_filter_le _ _
    simp at h3; omega
  refine loopW_by (fun p : Nat × AV × AV => [(2, .ptr σ.next 0 0), (6, p.2.1), (7, p.2.2), (8, int (b.varName v)), (20, int b.L.length), (21, int p.1)])
    (fun p φ => p.1 ≤ b.L.length ∧ Grows τ φ ∧ Kid τ.next 0 3 φ p.2.1 (arows (Ag (b.L.take p.1))) ∧ RowF τ.next φ 1 p.2.2 (irows (setOf ltI (Vg (b.L.take p.1)))))
    (fun fr _ => b.L.length - (intOf (look fr 21)).toNat) (0, .own τ.next 0, .own (τ.next + 1) 0) (by simp) ⟨by simp, hGu, ?_, ?_⟩ ?_
  · rw [hAg]
    exact .inr ⟨τ.next, [], by simp, by simp [u1], by simp, by omega⟩
  · rw [hVg]
    exact ⟨⟨.inr (.inr ⟨τ.next + 1, [], by simp [setOf], by simp [u2, setOf]⟩), .own (by omega)⟩, fun q m e => by cases e; omega⟩
  rintro ⟨i, y, z⟩ φ ⟨hi, hG, hK, hZ⟩
  simp only at hi hK hZ
  simp
  obtain ⟨b1, b2, b3⟩ := bld φ hG
  have hwv : ∀ n : Int, b.varName n < 0 → ¬ 0 ≤ b.varName n := fun n h => by omega
  by_cases hil : i < b.L.length
  · obtain ⟨t, ht⟩ := get_some hil
    have htm := List.mem_of_getElem? ht
    have htold := hf.small.told t htm
    have tk : b.L.take (i + 1) = b.L.take i ++ [t] := by rw [List.take_add_one, ht]; rfl
    have at' : ∀ ω, Grows τ ω → ∃ r r0 r1 r2, aIndexAddr 3 xL (int i) ω = some r ∧ aFieldAddr 0 r = some r0 ∧ aLoad false 1 r0 ω = some (int t.v) ∧ aFieldAddr 1 r = some r1 ∧ aLoad false 1 r1 ω = some (effV t.atoms) ∧ aFieldAddr 2 r = some r2 ∧ aLoad false 1 r2 ω = some (rhosV t.vars) := fun ω g => by
      obtain ⟨r, a1, a2⟩ := (hB ω g).L.atF (i := i) (el := tv t) (by simp [ht]) rfl .i64
      obtain ⟨p0, c1, c2⟩ := a2 0 _ rfl
      obtain ⟨p1, d1, d2⟩ := a2 1 _ rfl
      obtain ⟨p2, e1, e2⟩ := a2 2 _ rfl
      exact ⟨r, p0, p1, p2, a1, c1, c2, d1, d2, e1, e2⟩
    simp only [hil, decide_true, condK_true]
    refine seqW_by (fun fr ω => ∃ y' z', fr = [(2, .ptr σ.next 0 0), (6, y'), (7, z'), (8, int (b.varName v)), (20, int b.L.length), (21, int i)] ∧ Grows τ ω ∧ Kid τ.next 0 3 ω y' (arows (Ag (b.L.take (i + 1)))) ∧ RowF τ.next ω 1 z' (irows (setOf ltI (Vg (b.L.take (i + 1)))))) ?_ ?_
    · have skip : sel t = false → ∃ y' z', ([(2, .ptr σ.next 0 0), (6, y), (7, z), (8, int (b.varName v)), (20, int b.L.length), (21, int i)] : AFrame) = [(2, .ptr σ.next 0 0), (6, y'), (7, z'), (8, int (b.varName v)), (20, int b.L.length), (21, int i)] ∧ Grows τ φ ∧ Kid τ.next 0 3 φ y' (arows (Ag (b.L.take (i + 1)))) ∧ RowF τ.next φ 1 z' (irows (setOf ltI (Vg (b.L.take (i + 1))))) := fun hs => by
        refine ⟨y, z, rfl, hG, ?_, ?_⟩
        · rw [tk, As, hs]; simpa using hK
        · rw [tk, Vs, hs]; simpa using hZ
      by_cases hneg : b.varName v < 0
      · have hs : sel t = false := by rw [hsel]; simp; intro h; omega
        simp [hneg]
        simpa using skip hs
      · obtain ⟨r, r0, r1, r2, a1, a2, a3, a4, a5, a6, a7⟩ := at' φ hG
        simp [hneg, box φ hG]
        refine stepP a1 ?_
        refine stepP a2 ?_
        refine stepP a3 ?_
        refine varNameB_ev (hB φ hG) hf ?_
        by_cases hsame : b.varName t.v = b.varName v
        · have hs : sel t = true := by rw [hsel]; simp [hsame]; omega
          have hwB : ∀ (ω : AHeap), Grows τ ω → BRow ω b xR xV xL := hB
          simp [hsame]
          refine seqW_by (fun fr ω => ∃ y', fr = [(2, .ptr σ.next 0 0), (6, y'), (7, z), (8, int (b.varName v)), (9, int i), (20, int b.L.length), (21, int i)] ∧ Grows τ ω ∧ Kid τ.next 0 3 ω y' (arows (Ag (b.L.take (i + 1)))) ∧ RowF τ.next ω 1 z (irows (setOf ltI (Vg (b.L.take i))))) ?_ ?_
          · simp [box φ hG]
            refine stepP a1 ?_
            refine stepP a4 ?_
            refine stepP a5 ?_
            simp [effV]
            refine loopW_by (fun p : Nat × AV => [(2, .ptr σ.next 0 0), (6, p.2), (7, z), (8, int (b.varName v)), (9, int i), (20, int b.L.length), (21, int i), (44, int t.atoms.length), (45, int p.1)])
              (fun p ω => p.1 ≤ t.atoms.length ∧ Grows τ ω ∧ Kid τ.next 0 3 ω p.2 (arows (Ag (b.L.take i) ++ (t.atoms.take p.1).map b.ren)) ∧ RowF τ.next ω 1 z (irows (setOf ltI (Vg (b.L.take i)))))
              (fun fr _ => t.atoms.length - (intOf (look fr 45)).toNat) (0, y) (by simp) ⟨by simp, hG, by simpa using hK, hZ⟩ ?_
            rintro ⟨j, y1⟩ ω ⟨hj, hG1, hK1, hZ1⟩
            simp only at hj hK1
            simp
            by_cases hjl : j < t.atoms.length
            · obtain ⟨a, ha⟩ := get_some hjl
              obtain ⟨q, q0, q1, q2, c1, c2, c3, c4, c5, c6, c7⟩ := at' ω hG1
              simp [hjl, box ω hG1]
              refine stepP c1 ?_
              refine stepP c4 ?_
              refine stepP c5 ?_
              refine stepP (eff_at ha ω) ?_
              simp [Atom.take3]
              generalize hψ : AHeap.set _ _ _ = ψ
              have s0 : ψ.get ω.next = some (.cells 3 [a.av]) := by rw [← hψ]; simp [get_set]
              have gψ : Grows ω ψ := by rw [← hψ]; exact (Grows.new _ _).set (Nat.le_refl _) _
              have nψ : ω.next + 1 ≤ ψ.next := by rw [← hψ]; simp
              clear hψ
              refine seqW_by (fun fr χ => fr = [(2, .ptr σ.next 0 0), (6, y1), (7, z), (8, int (b.varName v)), (9, int i), (11, .ptr ω.next 0 0), (20, int b.L.length), (21, int i), (44, int t.atoms.length), (45, int j)] ∧ Grows ω χ ∧ χ.get ω.next = some (.cells 3 [(b.ren a).av]) ∧ ω.next + 1 ≤ χ.next) ?_ ?_
              · obtain ⟨kd, rho, exn⟩ := a
                simp [s0, Atom.av]
                by_cases h3 : kd = 3
                · simp [h3]
                  exact ⟨gψ, by simp [B.ren], nψ⟩
                · simp [h3, box ψ (hG1.trans gψ), s0, Atom.av]
                  refine nameB_ev (hB ψ (hG1.trans gψ)) hf ?_
                  simp [s0, Atom.av]
                  exact ⟨gψ.set (Nat.le_refl _) _, by simp [B.ren, h3], nψ⟩
              · rintro fr χ ⟨rfl, x1, x2, x3⟩
                simp [x2, Atom.take3]
                have hl2 := hAl i
                have hl3 : t.atoms.length ≤ 100 := htold.1
                refine addRow 32 (b.ren a).av (hK1.grows x1) (by have := hG1.next; have := x1.next; omega) (by simp; omega) fun y2 ω' t1 t2 t3 t4 => ?_
                rw [wrap64 (by omega)]
                refine ⟨⟨j + 1, y2, ⟨rfl, by simp⟩, by omega, Kid.keep (hK1.grows x1) (hG1.trans x1) (by omega) t2 t1, ?_, RowF.beside (hK1.grows x1) (hZ1.grows x1) (by decide) t2 t1⟩, by omega⟩
                rw [List.take_add_one]
                simpa [arows, ha] using t3
            · rw [show t.atoms.take j = t.atoms from List.take_of_length_le (by omega)] at hK1
              simp [hjl]
              refine ⟨hG1, ?_, hZ1⟩
              rw [tk, As, if_pos hs]
              exact hK1
          · rintro fr ω ⟨y', rfl, hG1, hK1, hZ1⟩
            obtain ⟨q, q0, q1, q2, c1, c2, c3, c4, c5, c6, c7⟩ := at' ω hG1
            simp [box ω hG1]
            refine stepP c1 ?_
            refine stepP c6 ?_
            refine stepP c7 ?_
            simp [rhosV]
            obtain ⟨Wg, hWg⟩ : ∃ Wg : Nat → List Int, ∀ j, Wg j = setOf ltI (Vg (b.L.take i) ++ (t.vars.take j).map b.varName) := ⟨_, fun _ => rfl⟩
            have Ws : ∀ j n, t.vars[j]? = some n → Wg (j + 1) = ins ltI (b.varName n) (Wg j) := fun j n hn => by
              rw [hWg, hWg, List.take_add_one, hn]
              simp [setOf, List.foldl_append]
            have Wl : ∀ j, (Wg j).length ≤ 100000 + t.vars.length := fun j => by
              rw [hWg]
              have h1 := setOf_len ltI (Vg (b.L.take i) ++ (t.vars.take j).map b.varName)
              have h2 := hVl i
              rw [List.length_append, List.length_map, List.length_take] at h1
              omega
            refine loopW_by (fun p : Nat × AV => [(2, .ptr σ.next 0 0), (6, y'), (7, p.2), (8, int (b.varName v)), (9, int i), (20, int b.L.length), (21, int i), (76, int t.vars.length), (77, int p.1)])
              (fun p χ => p.1 ≤ t.vars.length ∧ χ = ω ∧ RowF τ.next ω 1 p.2 (irows (Wg p.1)))
              (fun fr _ => t.vars.length - (intOf (look fr 77)).toNat) (0, z) (by simp) ⟨by simp, rfl, by rw [hWg]; simpa using hZ1⟩ ?_
            rintro ⟨j, z1⟩ χ ⟨hj, rfl, hZ2⟩
            simp only at hj hZ2
            simp
            by_cases hjl : j < t.vars.length
            · obtain ⟨n, hn⟩ := get_some hjl
              obtain ⟨w, w1, w2⟩ := (RowG.rhos (σ := χ) t.vars).at hn .i64
              simp [hjl, box χ hG1]
              refine stepP c1 ?_
              refine stepP c6 ?_
              refine stepP c7 ?_
              refine stepP w1 ?_
              refine stepP w2 ?_
              refine varNameB_ev (hB χ hG1) hf ?_
              have := Wl j
              have := htold.2
              refine putIntL_ev hZ2 (by rw [hWg]; exact setOf_rising ltI_ord _) (by omega) fun z2 hz2 => ?_
              simp
              rw [wrap64 (by omega)]
              exact ⟨⟨j + 1, z2, ⟨rfl, by simp⟩, by omega, by rw [Ws j n hn]; exact hz2⟩, by omega⟩
            · have hje : j = t.vars.length := by omega
              simp [hjl]
              refine ⟨y', z1, ⟨rfl, rfl⟩, hG1, hK1, ?_⟩
              rw [tk, Vs, if_pos hs]
              rw [hWg, hje, List.take_length] at hZ2
              exact hZ2
        · have hs : sel t = false := by rw [hsel]; simp [hsame]
          simp [hsame]
          simpa using skip hs
    · rintro fr ω ⟨y', z', rfl, hG1, hK1, hZ1⟩
      simp
      rw [wrap64 (by omega)]
      exact ⟨⟨i + 1, y', z', ⟨rfl, rfl, by simp⟩, by omega, hG1, hK1, hZ1⟩, by omega⟩
  · rw [List.take_of_length_le (by omega)] at hK hZ
    simp only [hil, decide_false, condK_false]
    have hl1 := hAl b.L.length
    rw [List.take_length] at hl1
    refine ofR_ev (Kid.rowG hK) (by omega) ?_
    have hZ' : RowF σ.next φ 1 z (irows (setOf ltI (Vg b.L))) := ⟨hZ.1, fun q m e => by have := hZ.2 q m e; omega⟩
    refine ⟨hG0.trans hG, .tup [effV (ofM (Ag b.L)), rhosV (setOf ltI (Vg b.L))], .tup rfl fun j x y hx hy => ?_, ?_⟩
    · match j, hx, hy with
      | 0, hx, hy => simp at hx hy; subst hx; subst hy; exact .low ((effV_dat _).low _)
      | 1, hx, hy => simp at hx hy; subst hx; subst hy; exact hZ'.frz (irows_dat _)
      | j + 2, hx, hy => simp at hx
    · have hvn : b.varName v = if inB v b.vars = true then nm b.V v else -1 := rfl
      cases hin : inB v b.vars
      · rw [hin] at hvn
        simp at hvn
        have e1 : b.L.filter sel = [] := List.filter_eq_nil_iff.2 fun t _ => by rw [hsel, hvn]; simp
        have e2 : Ag b.L = [] := by rw [hAg, e1]; rfl
        have e3 : Vg b.L = [] := by rw [hVg, e1]; rfl
        rw [e2, e3]
        simpa [B.has, hin, ofM, setOf] using hk
      · rw [hin] at hvn
        simp at hvn
        have h0 := (inB_iff.1 (nm_in hf.small.ok.V hin)).1
        have e1 : b.L.filter sel = b.toldOf v := by
          unfold B.toldOf
          refine List.filter_congr fun t ht => ?_
          rw [hsel, hvn]
          have := (hf.small.ok.L t ht).1
          simp [B.varName, this, h0]
        have e2 : Ag b.L = b.atomsOf v := by rw [hAg, e1]; rfl
        have e3 : Vg b.L = b.varsOf v := by
          rw [hVg, e1]
          unfold B.varsOf
          refine List.map_congr_left fun n hn => ?_
          obtain ⟨t, ht, hnt⟩ := List.mem_flatMap.1 hn
          have := there_iff.1 (hf.small.ok.L t (List.mem_filter.1 ht).1).2.1 n hnt
          rw [B.varName, if_pos (inB_iff.2 this)]
        rw [e2, e3, ofM_ren hf.small]
        simpa [B.has, hin] using hk
end Go.Abs.Bas
