/-
  What an act does: in the program, and by the document.
-/
import Derived.Test.YtjilebpcaemopaaGreatBasU
set_option linter.unusedVariables false
set_option linter.unusedSimpArgs false
namespace Go.Abs.Bas
open Go Go.Abs Go.Abs.At Go.Proofs.BasD
attribute [local simp] Nat.add_assoc
variable {σ τ : AHeap} {id : Nat} {b : B} {F G : Nat → Prop} {k kp : AV → AHeap → Prop} {xR xV xL : AV}

theorem Left.fin {φ : AHeap} {F' : Nat → Prop} (hFF : ∀ i, F' i → F i) (hlt : ∀ i, F' i → i < σ.next) (g : Grows σ φ) (t1 : Bs τ id b (Wide F' φ.next)) (t2 : Off F' φ τ) {q : Nat} (hq1 : σ.next ≤ q) (hq2 : q < φ.next) (o : AObj) : Left σ id F b (τ.set q o) := by
  have hL := Left.of hFF g t1 t2
  refine hL.set ?_ hq1
  refine (t1.set (q := q) (o := o) fun hw => ?_).wide fun i hi => ?_
  · rcases hw with hw | hw
    · have := hlt q hw; omega
    · omega
  · rcases hi with hi | hi
    · exact .inl (hFF i hi)
    · have := g.next; exact .inr (by omega)
theorem does_ev {m : B} (h : Bs σ id b F) (hs : Small b) (hd : BRowD m xR xV xL) (hf : Fair m) {a : Act} (ha : a.great = false) (hk : ∀ τ xR' xV' xL' ok, (b = m → ok = true) → Left σ id F (b.act a) τ → BRowD (m.act a) xR' xV' xL' → k (.tup [bool ok, .agg (bcells (m.act a) xR' xV' xL')]) τ) :
    Ev PR 13 [.ptr id 0 0, .agg (bcells m xR xV xL), .agg a.av] σ k kp := by
  have hsm := hf.small
  have hF' : ∀ i, (F i ∧ i < σ.next) → F i := fun i h => h.1
  have h' := h.shrink
  generalize hFe : (fun i => F i ∧ i < σ.next) = F' at h'
  have hlt : ∀ i, F' i → i < σ.next := fun i hi => by rw [← hFe] at hi; exact hi.2
  have hFF : ∀ i, F' i → F i := fun i hi => by rw [← hFe] at hi; exact hi.1
  clear hFe hF' h
  obtain ⟨aL, aA⟩ : a.L.length ≤ 20 ∧ a.atoms.length ≤ 20 := by
    unfold Act.great at ha
    simp at ha
    omega
  apply F13_ev; unfold F13
  simp only [aBox_eq, acells_agg, Option.map_some, stepK_some, aAlloc_some]
  generalize hφ : AHeap.new (AHeap.new (AHeap.new σ _) _) _ = φ
  have g0 : φ.get σ.next = some (.cells 5 [bcells m xR xV xL]) := by rw [← hφ]; simp [get_new]
  have g1 : φ.get (σ.next + 1) = some (.cells 4 [a.av]) := by rw [← hφ]; simp [get_new]
  have g2 : φ.get (σ.next + 2) = some (.cells 5 [[int 0, int 0, nilS, nilS, nilS]]) := by rw [← hφ]; simp [get_new]
  have hG : Grows σ φ := by rw [← hφ]; exact ((Grows.new _ _).trans (Grows.new _ _)).trans (Grows.new _ _)
  have hn : φ.next = σ.next + 3 := by rw [← hφ]; simp
  clear hφ
  have hB := h'.grows hG
  have off0 : ∀ {τ}, Off F' φ τ → ∀ j, σ.next ≤ j → j < φ.next → τ.get j = φ.get j := fun o j h1 h2 => o.get j (fun hf => by have := hlt j hf; omega) h2
  simp [g1]
  by_cases k0 : a.kind = 0
  · have e : b.act a = { b with regions := b.regions + 1 } := by simp [B.act, k0]
    have em : m.act a = { m with regions := m.regions + 1 } := by simp [B.act, k0]
    rw [e, em] at hk
    simp [k0, g0]
    rw [wrap64 (by have := hsm.regions; omega)]
    rw [wrap64 (by have := hsm.regions; omega)]
    have hg : Grows σ (φ.set σ.next (.cells 5 [[int ((m.regions : Int) + 1), int m.vars, xR, xV, xL]])) := hG.set (Nat.le_refl _) _
    have hB2 : Bs (φ.set σ.next (.cells 5 [[int ((m.regions : Int) + 1), int m.vars, xR, xV, xL]])) id b F' := hB.set fun hf => by have := hlt _ hf; omega
    refine region_ev hB2 hs fun τ t1 t2 => ?_
    have o0 : τ.get σ.next = some (.cells 5 [[int ((m.regions : Int) + 1), int m.vars, xR, xV, xL]]) := by
      rw [t2.get σ.next (fun hf => by have := hlt _ hf; omega) (by simp; omega)]; simp
    have o2 : τ.get (σ.next + 2) = some (.cells 5 [[int 0, int 0, nilS, nilS, nilS]]) := by
      rw [t2.get (σ.next + 2) (fun hf => by have := hlt _ hf; omega) (by simp; omega), get_set, if_neg (by omega)]; exact g2
    have ew : (b.regions : Int) + 1 - 1 = b.regions := by omega
    simp [o0, o2]
    have hL := Left.fin hFF hlt hg t1 t2 (q := σ.next + 2) (by omega) (by simp; omega) (.cells 5 [[int ((m.regions : Int) + 1), int m.vars, xR, xV, xL]])
    have e3 : ((m.regions + 1 : Nat) : Int) = (m.regions : Int) + 1 := by omega
    have := hk _ xR xV xL (decide ((b.regions : Int) = m.regions)) (fun e => decide_eq_true (by rw [e])) hL ⟨hd.R, hd.V, hd.L⟩
    simpa [bcells, e3] using this
  by_cases k1 : a.kind = 1
  · have e : b.act a = { b with vars := b.vars + 1 } := by simp [B.act, k1]
    have em : m.act a = { m with vars := m.vars + 1 } := by simp [B.act, k1]
    rw [e, em] at hk
    simp [k1, g0]
    rw [wrap64 (by have := hsm.vars; omega)]
    rw [wrap64 (by have := hsm.vars; omega)]
    have hg : Grows σ (φ.set σ.next (.cells 5 [[int m.regions, int ((m.vars : Int) + 1), xR, xV, xL]])) := hG.set (Nat.le_refl _) _
    have hB2 : Bs (φ.set σ.next (.cells 5 [[int m.regions, int ((m.vars : Int) + 1), xR, xV, xL]])) id b F' := hB.set fun hf => by have := hlt _ hf; omega
    refine var_ev hB2 hs fun τ t1 t2 => ?_
    have o0 : τ.get σ.next = some (.cells 5 [[int m.regions, int ((m.vars : Int) + 1), xR, xV, xL]]) := by
      rw [t2.get σ.next (fun hf => by have := hlt _ hf; omega) (by simp; omega)]; simp
    have o2 : τ.get (σ.next + 2) = some (.cells 5 [[int 0, int 0, nilS, nilS, nilS]]) := by
      rw [t2.get (σ.next + 2) (fun hf => by have := hlt _ hf; omega) (by simp; omega), get_set, if_neg (by omega)]; exact g2
    have ew : (b.vars : Int) + 1 - 1 = b.vars := by omega
    simp [o0, o2]
    have hL := Left.fin hFF hlt hg t1 t2 (q := σ.next + 2) (by omega) (by simp; omega) (.cells 5 [[int m.regions, int ((m.vars : Int) + 1), xR, xV, xL]])
    have e3 : ((m.vars + 1 : Nat) : Int) = (m.vars : Int) + 1 := by omega
    have := hk _ xR xV xL (decide ((b.vars : Int) = m.vars)) (fun e => decide_eq_true (by rw [e])) hL ⟨hd.R, hd.V, hd.L⟩
    simpa [bcells, e3] using this
  by_cases k2 : a.kind = 2
  · have e : b.act a = (b.join a.L).1 := by simp [B.act, k2]
    have em : m.act a = (m.join a.L).1 := by simp [B.act, k2]
    rw [e, em] at hk
    simp [k2, g0, g1]
    refine joinB_ev hd hf (c := false) (l := a.L) (by omega) fun xR' hd' => ?_
    simp
    generalize hχ : AHeap.set _ _ _ = χ
    have c3 : χ.get φ.next = some (.cells 5 [bcells (m.join a.L).1 xR' xV xL]) := by rw [← hχ]; simp
    have hGχ : Grows φ χ := by rw [← hχ]; exact (Grows.new _ _).set (Nat.le_refl _) _
    have hnχ : χ.next = φ.next + 1 := by rw [← hχ]; simp
    clear hχ
    have c1 : χ.get (σ.next + 1) = some (.cells 4 [a.av]) := by rw [hGχ.get _ (by omega)]; exact g1
    have c2 : χ.get (σ.next + 2) = some (.cells 5 [[int 0, int 0, nilS, nilS, nilS]]) := by rw [hGχ.get _ (by omega)]; exact g2
    simp [c1, c3]
    refine bjoin_ev (hB.grows hGχ) hs (c := false) (l := a.L) (by omega) fun τ t1 t2 => ?_
    have o3 : τ.get φ.next = some (.cells 5 [bcells (m.join a.L).1 xR' xV xL]) := by
      rw [t2.get φ.next (fun hf => by have := hlt _ hf; omega) (by omega)]; exact c3
    have o2 : τ.get (σ.next + 2) = some (.cells 5 [[int 0, int 0, nilS, nilS, nilS]]) := by
      rw [t2.get (σ.next + 2) (fun hf => by have := hlt _ hf; omega) (by omega)]; exact c2
    simp [o3, o2]
    exact hk _ xR' xV xL _ (fun e => decide_eq_true (by rw [e])) (Left.fin hFF hlt (hG.trans hGχ) (t1.wide fun i hi => .inl hi) t2 (by omega) (by omega) _) hd'
  by_cases k3 : a.kind = 3
  · have e : b.act a = (b.joinVars a.L).1 := by simp [B.act, k3]
    have em : m.act a = (m.joinVars a.L).1 := by simp [B.act, k3]
    rw [e, em] at hk
    simp [k3, g0, g1]
    refine joinVarsB_ev hd hf (c := false) (l := a.L) (by omega) fun xV' hd' => ?_
    simp
    generalize hχ : AHeap.set _ _ _ = χ
    have c3 : χ.get φ.next = some (.cells 5 [bcells (m.joinVars a.L).1 xR xV' xL]) := by rw [← hχ]; simp
    have hGχ : Grows φ χ := by rw [← hχ]; exact (Grows.new _ _).set (Nat.le_refl _) _
    have hnχ : χ.next = φ.next + 1 := by rw [← hχ]; simp
    clear hχ
    have c1 : χ.get (σ.next + 1) = some (.cells 4 [a.av]) := by rw [hGχ.get _ (by omega)]; exact g1
    have c2 : χ.get (σ.next + 2) = some (.cells 5 [[int 0, int 0, nilS, nilS, nilS]]) := by rw [hGχ.get _ (by omega)]; exact g2
    simp [c1, c3]
    refine bjoinVars_ev (hB.grows hGχ) hs (c := false) (l := a.L) (by omega) fun τ t1 t2 => ?_
    have o3 : τ.get φ.next = some (.cells 5 [bcells (m.joinVars a.L).1 xR xV' xL]) := by
      rw [t2.get φ.next (fun hf => by have := hlt _ hf; omega) (by omega)]; exact c3
    have o2 : τ.get (σ.next + 2) = some (.cells 5 [[int 0, int 0, nilS, nilS, nilS]]) := by
      rw [t2.get (σ.next + 2) (fun hf => by have := hlt _ hf; omega) (by omega)]; exact c2
    simp [o3, o2]
    exact hk _ xR xV' xL _ (fun e => decide_eq_true (by rw [e])) (Left.fin hFF hlt (hG.trans hGχ) (t1.wide fun i hi => .inl hi) t2 (by omega) (by omega) _) hd'
  · have e : b.act a = (b.add a.v a.atoms a.L).1 := by simp [B.act, k0, k1, k2, k3]
    have em : m.act a = (m.add a.v a.atoms a.L).1 := by simp [B.act, k0, k1, k2, k3]
    rw [e, em] at hk
    simp [k0, k1, k2, k3, g1]
    have hy := (RowG.eff (σ := φ.new (.cells 3 [])) a.atoms).1
    have g1' : (φ.new (.cells 3 [])).get (σ.next + 1) = some (.cells 4 [a.av]) := by rw [AHeap.new_ne (by omega)]; exact g1
    simp only [g1']
    refine stepP (x := effV a.atoms) rfl ?_
    refine stepK_of (aAppend_rows (by' := 32) (x := .own φ.next 0) (xs := []) (.inr (.inr ⟨φ.next, [], rfl, by simp⟩)) (by intro c e; cases e) hy (by simp; omega)) ?_
    simp only [List.length_nil, Nat.zero_add, List.nil_append, List.length_map, AHeap.new_next]
    have q1 : ((gone (.own φ.next 0) (φ.new (.cells 3 []))).new (.cells 3 (arows a.atoms))).next = φ.next + 2 := by simp
    have q2 : ∀ j, j < φ.next → ((gone (.own φ.next 0) (φ.new (.cells 3 []))).new (.cells 3 (arows a.atoms))).get j = φ.get j := fun j hj => by
      rw [get_new, gone_next, if_neg (by simp; omega), gone_get (fun n e => by cases e; omega), AHeap.new_ne (by omega)]
    have q3 : ((gone (.own φ.next 0) (φ.new (.cells 3 []))).new (.cells 3 (arows a.atoms))).get (φ.next + 1) = some (.cells 3 (arows a.atoms)) := by
      rw [get_new, gone_next, if_pos (by simp)]
    generalize (gone (.own φ.next 0) (φ.new (.cells 3 []))).new (.cells 3 (arows a.atoms)) = ω at q1 q2 q3 ⊢
    have w0 : ω.get σ.next = some (.cells 5 [bcells m xR xV xL]) := by rw [q2 _ (by omega)]; exact g0
    have w1 : ω.get (σ.next + 1) = some (.cells 4 [a.av]) := by rw [q2 _ (by omega)]; exact g1
    have w2 : ω.get (σ.next + 2) = some (.cells 5 [[int 0, int 0, nilS, nilS, nilS]]) := by rw [q2 _ (by omega)]; exact g2
    have hGω : Grows φ ω := ⟨by omega, q2⟩
    simp [w0, w1]
    refine addB_ev hd hf (c := false) (c' := false) (A := a.atoms) (V := a.L) (by omega) (by omega) fun xL' hd' => ?_
    simp
    generalize hχ : AHeap.set _ _ _ = χ
    have c3 : χ.get ω.next = some (.cells 5 [bcells (m.add a.v a.atoms a.L).1 xR xV xL']) := by rw [← hχ]; simp
    have hGχ : Grows ω χ := by rw [← hχ]; exact (Grows.new _ _).set (Nat.le_refl _) _
    have hnχ : χ.next = ω.next + 1 := by rw [← hχ]; simp
    clear hχ
    have c1 : χ.get (σ.next + 1) = some (.cells 4 [a.av]) := by rw [hGχ.get _ (by omega)]; exact w1
    have c2 : χ.get (σ.next + 2) = some (.cells 5 [[int 0, int 0, nilS, nilS, nilS]]) := by rw [hGχ.get _ (by omega)]; exact w2
    have c4 : χ.get (φ.next + 1) = some (.cells 3 (arows a.atoms)) := by rw [hGχ.get _ (by omega)]; exact q3
    simp [c1]
    have hGs := (hG.trans hGω).trans hGχ
    have hx : RowG χ 3 (.own (φ.next + 1) a.atoms.length) (arows a.atoms) := ⟨.inr (.inr ⟨φ.next + 1, [], by simp, by simpa using c4⟩), .own (by omega)⟩
    refine add_ev ((hB.grows hGω).grows hGχ) hs (c := false) (V := a.L) hx (by omega) (by omega) fun τ t1 t2 => ?_
    have ofχ : ∀ j, σ.next ≤ j → j < χ.next → τ.get j = χ.get j := fun j h1 h2 => t2.get j (fun hf => by have := hlt _ hf; omega) h2
    simp
    refine seqW_in ?_
    refine loopW_by (fun i : Nat => [(7, .ptr (σ.next + 2) 0 0), (12, .own (φ.next + 1) a.atoms.length), (13, .ptr ω.next 0 0), (15, bool (decide ((b.add a.v a.atoms a.L).2 = (m.add a.v a.atoms a.L).2))), (16, int i)])
      (fun i υ => i ≤ a.atoms.length ∧ υ.next = τ.next ∧ (∀ j, j ≠ φ.next + 1 → υ.get j = τ.get j) ∧ ∃ rows, υ.get (φ.next + 1) = some (.cells 3 rows) ∧ rows.length = a.atoms.length ∧ ∀ el ∈ rows, el.length = 3)
      (fun fr _ => a.atoms.length - (intOf (look fr 16)).toNat) 0 (by simp) ⟨by simp, rfl, fun _ _ => rfl, arows a.atoms, by rw [ofχ _ (by omega) (by omega)]; exact c4, by simp, fun el hel => by obtain ⟨x, _, rfl⟩ := List.mem_map.1 hel; rfl⟩ ?_
    rintro i υ ⟨hi, v1, v2, rows, v3, v4, v5⟩
    simp
    by_cases hil : i < a.atoms.length
    · obtain ⟨el, hel⟩ := get_some (l := rows) (i := i) (by omega)
      have hl3 := v5 el (List.mem_of_getElem? hel)
      have a1 : aIndexAddr 3 (.own (φ.next + 1) a.atoms.length) (int i) υ = some (.ptr (φ.next + 1) i 0) := by
        rw [aIndexAddr_own, if_pos ⟨by omega, by omega⟩]
        simp only [elAt_eq, v3, Int.toNat_natCast, hel, Option.bind_some, hl3, if_true]
      simp only [hil, decide_true, condK_true]
      refine stepP a1 ?_
      simp [v3, hel, hl3]
      rw [wrap64 (by omega)]
      refine ⟨⟨i + 1, by simp, by omega, v1, fun j hj => by rw [get_set, if_neg hj]; exact v2 j hj, by simp [v4], fun e he => ?_⟩, by omega⟩
      rcases List.mem_or_eq_of_mem_set he with he | rfl
      · exact v5 e he
      · simp [hl3]
    · have o3 : υ.get ω.next = some (.cells 5 [bcells (m.add a.v a.atoms a.L).1 xR xV xL']) := by
        rw [v2 _ (by omega), ofχ _ (by omega) (by omega)]; exact c3
      have o2 : υ.get (σ.next + 2) = some (.cells 5 [[int 0, int 0, nilS, nilS, nilS]]) := by
        rw [v2 _ (by omega), ofχ _ (by omega) (by omega)]; exact c2
      simp [hil, o2, o3]
      have hne : ¬ F' (φ.next + 1) := fun hf => by have := hlt _ hf; omega
      have hoff : Off (fun i => i = φ.next + 1) τ υ := ⟨by omega, fun j hj _ => v2 j hj⟩
      have t1' : Bs υ id (b.add a.v a.atoms a.L).1 F' := t1.off hoff fun j hf _ e => hne (e ▸ hf)
      have t2' : Off F' φ υ := ⟨by have := t2.next; omega, fun j hf hj => by rw [v2 j (by omega), t2.get j hf (by omega), hGχ.get j (by omega), q2 j hj]⟩
      exact hk _ xR xV xL' _ (fun e => decide_eq_true (by rw [e])) (Left.fin hFF hlt hG (t1'.wide fun i hi => .inl hi) t2' (by omega) (by omega) _) hd'
end Go.Abs.Bas
