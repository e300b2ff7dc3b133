/-
  Forests: what is there, names.
-/
import Derived.Test.YtjilebpcaemopaaGreatBasN
set_option linter.unusedVariables false
set_option linter.unusedSimpArgs false
namespace Go.Abs.Bas
open Go Go.Abs Go.Abs.At Go.Proofs.BasD
attribute [local simp] Nat.add_assoc

/-- A place where a row of numbers stands. -/
structure FV (σ : AHeap) (p : AV) (up : List Int) : Prop where
  ex : ∃ x rest, PtrAt σ p (x :: rest) ∧ RowG σ 1 x (irows up)
  low : Low σ.next p
theorem PtrAt.grows {σ τ p cs} (h : PtrAt σ p cs) (hl : Low σ.next p) (g : Grows σ τ) : PtrAt τ p cs := by
  rcases h with rfl | ⟨q, i, o, el, rfl, h1, h2⟩
  · exact .inl rfl
  · cases hl with
    | ptr hq => exact .inr ⟨q, i, o, el, rfl, by unfold elAt at *; rw [g.get q hq]; exact h1, h2⟩
theorem FV.grows {σ τ p up} (h : FV σ p up) (g : Grows σ τ) : FV τ p up :=
  let ⟨x, rest, h1, h2⟩ := h.ex
  ⟨⟨x, rest, PtrAt.grows h1 h.low g, h2.grows g⟩, h.low.mono g.next⟩
theorem FV.use {σ p up} (h : FV σ p up) : ∃ x, aNilCheck p = some p ∧ aFieldAddr 0 p = some p ∧ ∀ τ, Grows σ τ → aLoad false 1 p τ = some x ∧ RowG τ 1 x (irows up) := by
  obtain ⟨x, rest, h1, h2⟩ := h.ex
  refine ⟨x, h1.nil, ?_, fun τ g => ⟨(PtrAt.grows h1 h.low g).load false 1, h2.grows g⟩⟩
  rcases h1 with rfl | ⟨q, i, o, el, rfl, _, _⟩ <;> rfl
theorem RowG.at {σ x} {l : List Int} (h : RowG σ 1 x (irows l)) {i : Nat} {n : Int} (hn : l[i]? = some n) (k : IntKind) : ∃ p, aIndexAddr 1 x (.val (.int k i)) σ = some p ∧ aLoad false 1 p σ = some (int n) := by
  obtain ⟨p, h1, h2⟩ := h.1.at (i := i) (el := [int n]) (by simp [hn]) rfl k
  exact ⟨p, h1, h2.load false 1⟩
theorem RowG.lenI {σ x} {l : List Int} (h : RowG σ 1 x (irows l)) : aLenK .slice x σ = some (int l.length) := by have := h.1.len; simpa using this

theorem out_ev {σ : AHeap} {p : AV} {up : List Int} (h : FV σ p up) {q : Nat} (hq : σ.get q = some (.cells 1 [[p]])) {n : Int} {k kp : AV → AHeap → Prop} (hk : k (bool (!inB n up.length)) σ) : Ev PR 63 [int n, .ptr q 0 0] σ k kp := by
  apply F63_ev; unfold F63
  obtain ⟨x, h1, h2, h3⟩ := h.use
  obtain ⟨h4, h5⟩ := h3 σ (Grows.refl _)
  have fin : ∀ v, inB n up.length = !v → k (bool v) σ := fun v e => by rw [e] at hk; simpa using hk
  by_cases h0 : n < 0
  · simp [h0]
    exact fin true (by simp [inB]; omega)
  · simp [h0, hq, h1, h2, h4, h5.lenI]
    refine fin _ ?_
    by_cases h6 : n < (up.length : Int)
    · have h7 : 0 ≤ n := by omega
      have h8 : ¬ (up.length : Int) ≤ n := by omega
      simp [inB, h6, h7, h8]
    · have h8 : (up.length : Int) ≤ n := by omega
      simp [inB, h6, h8]
theorem there_ev {σ : AHeap} {p y : AV} {up l : List Int} (h : FV σ p up) (hr : RowG σ 1 y (irows l)) (hb : l.length < 1000000000000) {k kp : AV → AHeap → Prop} (hk : k (bool (there l up.length)) σ) : Ev PR 38 [p, y] σ k kp := by
  refine Ev.pureD hk ((Dat.val _).low _) fun k' hk' => ?_
  apply F38_ev; unfold F38
  have hp1 : acells p = some [p] := by
    obtain ⟨x, rest, h1, _⟩ := h.ex
    rcases h1 with rfl | ⟨q, i, o, el, rfl, _, _⟩ <;> rfl
  simp [hp1]
  apply F62_ev; unfold F62
  apply F80_ev; unfold F80
  generalize hτ : σ.new _ = τ
  have g0 : τ.get σ.next = some (.cells 1 [[p]]) := by rw [← hτ]; simp [get_new]
  have hG : Grows σ τ := by rw [← hτ]; exact Grows.new _ _
  clear hτ
  have fin : ∀ v, there l up.length = v → ∀ φ, Grows σ φ → k' (bool v) φ := fun v e φ hφ => by rw [← e]; exact hk' _ hφ
  refine seqW_in ?_
  simp [(hr.grows hG).lenI]
  refine loopW_by (fun i : Nat => [(0, y), (1, .fn (.func 63) [.ptr σ.next 0 0]), (7, int l.length), (8, int i)]) (fun i φ => φ = τ ∧ i ≤ l.length ∧ ∀ n ∈ l.take i, inB n up.length = true) (fun fr _ => l.length - (intOf (look fr 8)).toNat) 0 (by simp) ⟨rfl, by simp, by simp⟩ ?_
  rintro i φ ⟨rfl, hi, hall⟩
  simp
  by_cases hil : i < l.length
  · obtain ⟨n, hn⟩ := get_some hil
    obtain ⟨r, h1, h2⟩ := (hr.grows hG).at hn .i64
    simp [hil, h1, h2]
    show Ev PR 63 _ _ _ _
    refine out_ev (h.grows hG) g0 ?_
    cases hin : inB n up.length
    · simp
      exact fin false (by rw [there, List.all_eq_false]; exact ⟨n, List.mem_of_getElem? hn, by simp [hin]⟩) _ hG
    · simp
      rw [wrap64 (by omega)]
      refine ⟨⟨i + 1, by simp, by omega, fun m hm => ?_⟩, by omega⟩
      rw [List.take_add_one, hn] at hm
      rcases List.mem_append.1 hm with hm | hm
      · exact hall m hm
      · simp at hm; subst hm; exact hin
  · have e : l.take i = l := List.take_of_length_le (by omega)
    rw [e] at hall
    simp [hil]
    exact fin true (by rw [there, List.all_eq_true]; exact hall) _ hG

/-- A forest that tells names. -/
structure FOk (up : List Int) (R : List (Int × Int)) : Prop where
  len : up.length < 1000000000000
  at' : ∀ (i : Nat) (u : Int), up[i]? = some u → 0 ≤ u ∧ u ≤ i ∧ nm R u = nm R i ∧ (u = i → nm R i = i)
def nameIn (up : List Int) (R : List (Int × Int)) (n : Int) : Int := if inB n up.length then nm R n else -1
theorem name_ev {σ : AHeap} {p : AV} {up : List Int} {R : List (Int × Int)} (h : FV σ p up) (hf : FOk up R) {n : Int} {k kp : AV → AHeap → Prop} (hk : k (int (nameIn up R n)) σ) : Ev PR 39 [p, int n] σ k kp := by
  refine Ev.pureD hk ((Dat.val _).low _) fun k' hk' => ?_
  apply F39_ev; unfold F39
  simp
  generalize hτ : σ.new _ = τ
  have g0 : τ.get σ.next = some (.cells 1 (irows [n] ++ [])) := by rw [← hτ]; simp [get_new]
  have hG : Grows σ τ := by rw [← hτ]; exact Grows.new _ _
  have hnx : σ.next < τ.next := by rw [← hτ]; simp
  clear hτ
  refine there_ev (l := [n]) (h.grows hG) ⟨.inr (.inr ⟨σ.next, [], rfl, g0⟩), .own hnx⟩ (by simp) ?_
  have fin : ∀ v, nameIn up R n = v → ∀ φ, Grows σ φ → k' (int v) φ := fun v e φ hφ => by rw [← e]; exact hk' _ hφ
  obtain ⟨x, h1, h2, h3⟩ := (h.grows hG).use
  obtain ⟨h4, h5⟩ := h3 τ (Grows.refl _)
  cases hin : inB n up.length
  · simp [there, hin]
    exact fin (-1) (by simp [nameIn, hin]) _ hG
  · simp [there, hin]
    refine seqW_in ?_
    have hn0 := inB_iff.1 hin
    refine loopW_by (fun m : Nat => [(0, p), (1, int m)]) (fun m φ => φ = τ ∧ m < up.length ∧ nm R m = nm R n) (fun fr _ => (intOf (look fr 1)).toNat) n.toNat (by simp; omega) ⟨rfl, by omega, by rw [Int.toNat_of_nonneg hn0.1]⟩ ?_
    rintro m φ ⟨rfl, hm, he⟩
    obtain ⟨u, hu⟩ := get_some hm
    obtain ⟨r, q1, q2⟩ := h5.at hu .i64
    obtain ⟨f1, f2, f3, f4⟩ := hf.at' m u hu
    simp [h1, h2, h4, q1, q2]
    by_cases hum : u = m
    · simp [hum]
      exact fin _ (by rw [nameIn, if_pos hin, ← he]; exact f4 hum) _ hG
    · simp [hum]
      refine ⟨⟨u.toNat, by omega, by omega, by rw [Int.toNat_of_nonneg f1, f3, he]⟩, by omega⟩

theorem names_evK {σ : AHeap} {p y : AV} {up l : List Int} {R : List (Int × Int)} (h : FV σ p up) (hf : FOk up R) (hr : RowG σ 1 y (irows l)) (hb : l.length < 1000000000) {k kp : AV → AHeap → Prop}
    (hk : ∀ z τ, Grows σ τ → Kid σ.next 0 1 τ z (irows (setOf ltI ((l.filter fun n => inB n up.length).map (nm R)))) → k z τ) : Ev PR 35 [p, y] σ k kp := by
  apply F35_ev; unfold F35
  refine seqW_in ?_
  simp [hr.lenI]
  refine loopW_by (fun q : Nat × AV => [(0, p), (5, q.2), (8, y), (9, int l.length), (10, int q.1)])
    (fun q φ => q.1 ≤ l.length ∧ Grows σ φ ∧ Kid σ.next 0 1 φ q.2 (irows (((l.take q.1).filter fun n => inB n up.length).map (nm R))))
    (fun fr _ => l.length - (intOf (look fr 10)).toNat) (0, .val (.slice none 0 0)) (by simp) ⟨by simp, Grows.refl _, .inl ⟨rfl, by simp⟩⟩ ?_
  rintro ⟨i, z⟩ φ ⟨hi, hG, hK⟩
  simp only at hi hK
  simp
  by_cases hil : i < l.length
  · obtain ⟨n, hn⟩ := get_some hil
    obtain ⟨r, h1, h2⟩ := (hr.grows hG).at hn .i64
    have htk : (l.take (i + 1)).filter (fun n => inB n up.length) = (l.take i).filter (fun n => inB n up.length) ++ (if inB n up.length = true then [n] else []) := by
      rw [List.take_add_one, hn, List.filter_append]
      simp only [Option.toList_some, List.filter_cons, List.filter_nil]
    have hfl : ((l.take i).filter fun n => inB n up.length).length ≤ i := Nat.le_trans (List.length_filter_le _ _) (by simp; omega)
    simp only [hil, decide_true, condK_true]
    refine seqW_in ?_
    refine stepP h1 ?_
    refine stepP h2 ?_
    simp
    generalize hτ : φ.new _ = τ
    have g0 : τ.get φ.next = some (.cells 1 (irows [n] ++ [])) := by rw [← hτ]; simp [get_new]
    have gG : Grows φ τ := by rw [← hτ]; exact Grows.new _ _
    have hnx : φ.next < τ.next := by rw [← hτ]; simp
    clear hτ
    have hG2 := hG.trans gG
    have hK2 := hK.grows gG
    refine there_ev (l := [n]) (h.grows hG2) ⟨.inr (.inr ⟨φ.next, [], rfl, g0⟩), .own hnx⟩ (by simp) ?_
    cases hin : inB n up.length
    · simp [there, hin]
      rw [wrap64 (by omega)]
      refine ⟨⟨i + 1, _, ⟨rfl, by simp⟩, by omega, hG2, ?_⟩, by omega⟩
      rw [htk]; simpa [hin] using hK2
    · simp [there, hin]
      refine name_ev (h.grows hG2) hf ?_
      simp [nameIn, hin]
      have hK3 := hK2.grows (Grows.new τ (.cells 1 [[int (nm R n)]]))
      refine stepK_of (aAppend_rows (by' := 8) hK3.rows hK3.ns (ys := [[int (nm R n)]]) (.inr (.inr ⟨τ.next, [], rfl, by simp [get_new]⟩)) (by simp; omega)) ?_
      have hnn := hG2.next
      obtain ⟨p1, p2, p3⟩ := hK3.push (by simp; omega) [int (nm R n)]
      generalize (gone z (τ.new (.cells 1 [[int (nm R n)]]))).new (.cells 1 (irows (((l.take i).filter fun n => inB n up.length).map (nm R)) ++ [[int (nm R n)]])) = υ at p1 p2 p3
      simp
      rw [wrap64 (by omega)]
      simp at p3
      refine ⟨⟨i + 1, _, ⟨rfl, by simp⟩, by omega, ⟨by omega, fun j hj => by rw [p2 j (by omega), AHeap.new_ne (by omega)]; exact hG2.get j hj⟩, ?_⟩, by omega⟩
      rw [htk]
      simpa [hin, irows] using p1
  · have hall : l.take i = l := List.take_of_length_le (by omega)
    rw [hall] at hK
    simp [hil]
    have hfl : (l.filter fun n => inB n up.length).length ≤ l.length := List.length_filter_le _ _
    refine normI hK (by simp; omega) fun y τ t1 t2 t3 => ?_
    exact hk y τ ⟨by rw [t1]; exact hG.next, fun j hj => by rw [t2 j hj]; exact hG.get j hj⟩ t3
theorem names_ev {σ : AHeap} {p y : AV} {up l : List Int} {R : List (Int × Int)} (h : FV σ p up) (hf : FOk up R) (hr : RowG σ 1 y (irows l)) (hb : l.length < 1000000000) {k kp : AV → AHeap → Prop}
    (hk : k (rhosV (setOf ltI ((l.filter fun n => inB n up.length).map (nm R)))) σ) : Ev PR 35 [p, y] σ k kp :=
  Ev.pure (names_evK h hf hr hb fun z τ hG hK => ⟨hG, rhosV _, hK.frz (irows_dat _), hk⟩)
end Go.Abs.Bas
