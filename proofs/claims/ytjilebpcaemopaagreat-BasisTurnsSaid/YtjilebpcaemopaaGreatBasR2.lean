/-
  The document's effects of atoms.
-/
import Derived.Test.YtjilebpcaemopaaGreatBasR
set_option linter.unusedVariables false
set_option linter.unusedSimpArgs false
namespace Go.Abs.Bas
open Go Go.Abs Go.Abs.At Go.Proofs.BasD
attribute [local simp] Nat.add_assoc
variable {σ : AHeap} {k kp : AV → AHeap → Prop}

theorem RowG.atA {x} {l : List Atom} (h : RowG σ 3 x (arows l)) {i : Nat} {a : Atom} (hn : l[i]? = some a) (k : IntKind) : ∃ p, aIndexAddr 3 x (.val (.int k i)) σ = some p ∧ aLoad true 3 p σ = some a.v := by
  obtain ⟨p, h1, h2⟩ := h.1.at (i := i) (el := a.av) (by simp [hn]) rfl k
  exact ⟨p, h1, by rw [h2.load]; simp [Atom.take3]⟩
theorem RowG.cells {σ sz x els} (h : RowG σ sz x els) : acells x = some [x] := by
  rcases h.1 with ⟨rfl, _⟩ | ⟨c, rfl⟩ | ⟨q, rest, rfl, _⟩ <;> rfl
theorem RowG.lenA {x} {l : List Atom} (h : RowG σ 3 x (arows l)) : aLenK .slice x σ = some (int l.length) := by have := h.1.len; simpa using this
theorem inA_ev {x : AV} {l : List Atom} {a : Atom} (hx : RowG σ 3 x (arows l)) (hb : l.length < 1000000000000) (hk : k (bool (decide (a ∈ l))) σ) : Ev PR 42 [x, a.v] σ k kp := by
  refine Ev.pureD hk ((Dat.val _).low _) fun k' hk' => ?_
  apply F42_ev; unfold F42
  simp
  generalize hτ : σ.new _ = τ
  have g0 : τ.get σ.next = some (.cells 3 [a.av]) := by rw [← hτ]; simp [get_new]
  have hG : Grows σ τ := by rw [← hτ]; exact Grows.new _ _
  clear hτ
  have hx2 := hx.grows hG
  refine seqW_in ?_
  simp [hx2.lenA]
  refine loopW_by (fun j : Nat => [(0, x), (3, .ptr σ.next 0 0), (7, int l.length), (8, int j)]) (fun j φ => φ = τ ∧ j ≤ l.length ∧ a ∉ l.take j) (fun fr _ => l.length - (intOf (look fr 8)).toNat) 0 (by simp) ⟨rfl, by simp, by simp⟩ ?_
  rintro j φ ⟨rfl, hj, hne⟩
  simp
  by_cases hjl : j < l.length
  · obtain ⟨t, ht⟩ := get_some hjl
    obtain ⟨r, h1, h2⟩ := hx2.atA ht .i64
    simp only [hjl, decide_true, condK_true]
    refine stepP h1 ?_
    refine stepP h2 ?_
    simp [g0, Atom.take3, eqAtom]
    by_cases hc : t = a
    · subst hc
      simp
      have := hk' _ hG
      rwa [decide_eq_true (List.mem_of_getElem? ht)] at this
    · simp [hc]
      rw [wrap64 (by omega)]
      refine ⟨⟨j + 1, by simp, by omega, fun h => ?_⟩, by omega⟩
      rw [List.take_add_one, ht] at h
      rcases List.mem_append.1 h with h | h
      · exact hne h
      · simp at h; exact hc h.symm
  · rw [List.take_of_length_le (by omega)] at hne
    simp [hjl]
    have := hk' _ hG
    rwa [decide_eq_false hne] at this
theorem within_ev {x y : AV} {a b : List Atom} (hx : RowG σ 3 x (arows a)) (hy : RowG σ 3 y (arows b)) (ha : a.length < 1000000000000) (hb : b.length < 1000000000000) (hk : k (bool (withinM a b)) σ) : Ev PR 19 [x, y] σ k kp := by
  apply F19_ev; unfold F19
  refine seqW_in ?_
  simp [hx.lenA]
  refine loopW_by (fun j : Nat => [(0, x), (1, y), (7, int a.length), (8, int j)]) (fun j φ => φ = σ ∧ j ≤ a.length ∧ withinM (a.take j) b = true) (fun fr _ => a.length - (intOf (look fr 8)).toNat) 0 (by simp) ⟨rfl, by simp, by simp [withinM]⟩ ?_
  rintro j φ ⟨rfl, hj, hall⟩
  simp
  by_cases hjl : j < a.length
  · obtain ⟨t, ht⟩ := get_some hjl
    obtain ⟨r, h1, h2⟩ := hx.atA ht .i64
    have hstep : withinM (a.take (j + 1)) b = (!atomM t || decide (t ∈ b)) := by
      rw [List.take_add_one, ht]
      have : withinM (a.take j ++ [t]) b = (withinM (a.take j) b && (!atomM t || decide (t ∈ b))) := by simp [withinM, List.all_append]
      simpa [hall] using this
    have hno : (!atomM t || decide (t ∈ b)) = false → withinM a b = false := fun h => List.all_eq_false.2 ⟨t, List.mem_of_getElem? ht, by rw [h]; simp⟩
    simp only [hjl, decide_true, condK_true]
    refine stepP h1 ?_
    refine stepP h2 ?_
    refine atom_ref ?_
    cases hat : atomM t with
    | false =>
      simp
      rw [wrap64 (by omega)]
      exact ⟨⟨j + 1, by simp, by omega, by rw [hstep, hat]; rfl⟩, by omega⟩
    | true =>
      simp only [gK_tt, gK_ff]
      refine stepP h1 ?_
      refine stepP h2 ?_
      refine inA_ev hy hb ?_
      by_cases hm : t ∈ b
      · simp [hm]
        rw [wrap64 (by omega)]
        exact ⟨⟨j + 1, by simp, by omega, by rw [hstep, hat]; simpa using hm⟩, by omega⟩
      · simp [hm]
        rw [hno (by simp [hat, hm])] at hk
        exact hk
  · rw [List.take_of_length_le (by omega)] at hall
    simp [hjl]
    rw [hall] at hk
    exact hk
theorem equalA_ev {x y : AV} {l m : List Atom} (hx : RowG σ 3 x (arows l)) (hy : RowG σ 3 y (arows m)) (hb : l.length < 1000000000000) (hb2 : m.length < 1000000000000) (hk : k (bool (decide (l = m))) σ) : Ev PR 15 [x, y] σ k kp := by
  apply F15_ev; unfold F15
  simp [hx.lenA, hy.lenA]
  by_cases hne : l.length = m.length
  · simp [hne]
    refine seqW_in ?_
    refine loopW_by (fun j : Nat => [(0, x), (1, y), (12, int m.length), (13, int j)]) (fun j φ => φ = σ ∧ j ≤ m.length ∧ l.take j = m.take j) (fun fr _ => m.length - (intOf (look fr 13)).toNat) 0 (by simp) ⟨rfl, by simp, by simp⟩ ?_
    rintro j φ ⟨rfl, hj, heq⟩
    simp
    by_cases hjl : j < m.length
    · obtain ⟨a, ha⟩ := get_some (l := l) (i := j) (by omega)
      obtain ⟨b, hb⟩ := get_some hjl
      obtain ⟨p, p1, p2⟩ := hx.atA ha .i64
      obtain ⟨q, q1, q2⟩ := hy.atA hb .i64
      simp only [hjl, decide_true, condK_true]
      refine stepP p1 ?_
      refine stepP p2 ?_
      refine stepP q1 ?_
      refine stepP q2 ?_
      simp [eqAtom]
      by_cases hc : a = b
      · subst hc
        simp
        rw [wrap64 (by omega)]
        refine ⟨⟨j + 1, by simp, by omega, ?_⟩, by omega⟩
        rw [List.take_add_one, List.take_add_one, heq, ha, hb]
      · simp [hc]
        have e : decide (l = m) = false := decide_eq_false fun h => by rw [h, hb] at ha; exact hc (Option.some.inj ha).symm
        rw [e] at hk
        exact hk
    · rw [List.take_of_length_le (by omega), List.take_of_length_le (by omega)] at heq
      simp [hjl]
      have e : decide (l = m) = true := decide_eq_true heq
      rw [e] at hk
      exact hk
  · have hne' : ¬ ((l.length : Int) = m.length) := by omega
    simp only [hne', decide_false, Bool.not_false, condK_true]
    have e : decide (l = m) = false := decide_eq_false fun h => hne (by rw [h])
    rw [e] at hk
    exact hk

/-- An effect with one more. -/
def putM (a : Atom) (l : List Atom) : List Atom := if atomM a = true then ins lessM a l else l
theorem putM_len (a : Atom) (l : List Atom) : (putM a l).length ≤ l.length + 1 := by
  unfold putM
  have : ∀ l : List Atom, (ins lessM a l).length ≤ l.length + 1 := fun l => by
    induction l with
    | nil => simp [ins]
    | cons b l ih =>
      unfold ins
      split
      · simp
      · split
        · simp
        · simp; omega
  split
  · exact this l
  · omega
theorem putM_rising (a : Atom) {l : List Atom} (h : l.Pairwise fun a b => lessM a b = true) : (putM a l).Pairwise fun a b => lessM a b = true := by
  unfold putM
  split
  · exact ins_rising lessM_ord a h
  · exact h
theorem put_ev {x : AV} {l : List Atom} {a : Atom} (hx : RowG σ 3 x (arows l)) (hs : l.Pairwise fun a b => lessM a b = true) (hb : l.length < 1000000000) (hk : ∀ y, (y = x ∧ putM a l = l) ∨ y = effV (putM a l) → k y σ) : Ev PR 82 [x, a.v] σ k kp := by
  refine Ev.pure ?_
  apply F82_ev; unfold F82
  have hga : ∀ φ : AHeap, φ.get σ.next = some (.cells 3 [a.av]) → aLoad true 3 (.ptr σ.next 0 0) φ = some a.v := fun φ h => by simp [h, Atom.take3]
  simp only [aBox_eq, acells_agg, Option.map_some, Atom.av_len]
  generalize hτ : σ.new _ = τ
  have g0 : τ.get σ.next = some (.cells 3 [a.av]) := by rw [← hτ]; simp [get_new]
  have hG : Grows σ τ := by rw [← hτ]; exact Grows.new _ _
  have hnx : τ.next = σ.next + 1 := by rw [← hτ]; simp
  clear hτ
  have hx2 := hx.grows hG
  simp only [stepK_some]
  refine stepP (hga _ g0) ?_
  refine atom_ref ?_
  cases ha : atomM a
  · simp
    exact ⟨hG, x, .low hx.2, hk _ (.inl ⟨rfl, by simp [putM, ha]⟩)⟩
  simp only [aNot_bool, pureR_some, stepK_some, Bool.not_true, gK_tt, gK_ff, gK_tf, gK_ft]
  refine stepP (hga _ g0) ?_
  refine inA_ev hx2 (by omega) ?_
  have hp : putM a l = ins lessM a l := by simp [putM, ha]
  rw [hp] at hk
  by_cases hm : a ∈ l
  · simp [hm]
    exact ⟨hG, x, .low hx.2, hk _ (.inl ⟨rfl, insA_of_mem lessM_ord hs hm⟩)⟩
  · simp [hm]
    have hu := insU_ins (lt := lessM) hm
    have hlen : ∀ φ, Grows τ φ → aLenK .slice x φ = some (int l.length) := fun φ g => (hx2.grows g).lenA
    refine seqW_in ?_
    simp [hlen _ (Grows.new τ _)]
    refine loopW_by (fun p : Nat × AV => [(0, x), (3, .ptr σ.next 0 0), (5, p.2), (6, bool (insU lessM a (l.take p.1)).2), (19, int l.length), (20, int p.1)])
      (fun p φ => p.1 ≤ l.length ∧ Grows τ φ ∧ Kid τ.next 0 3 φ p.2 (arows (insU lessM a (l.take p.1)).1))
      (fun fr _ => l.length - (intOf (look fr 20)).toNat) (0, .own τ.next 0) (by simp [insU]) ⟨by simp, Grows.new _ _, .inr ⟨τ.next, [], by simp [insU], by simp [insU, get_new], by simp, by simp⟩⟩ ?_
    rintro ⟨i, y⟩ φ ⟨hi, hG2, hK⟩
    simp only at hi hK
    simp
    have hnx2 := hG2.next
    have keep : ∀ (υ ω : AHeap) (z : AV) rows, Grows τ υ → Kid τ.next 0 3 υ z rows → (∀ j, (∀ m, z ≠ .own j m) → j < υ.next → ω.get j = υ.get j) → υ.next ≤ ω.next → Grows τ ω := fun υ ω z rows g hK h1 h2 =>
      ⟨Nat.le_trans g.next h2, fun j hj => by
        rw [h1 j (fun m e => ?_) (Nat.lt_of_lt_of_le hj g.next)]
        · exact g.get j hj
        · rcases hK with ⟨h, _⟩ | ⟨q, rest, h, _, h3, _⟩ <;> rw [h] at e <;> cases e
          omega⟩
    have gl : ∀ υ, Grows τ υ → aLoad true 3 (.ptr σ.next 0 0) υ = some a.v := fun υ g => hga υ (by rw [g.get _ (by omega)]; exact g0)
    by_cases hil : i < l.length
    · obtain ⟨c, hcc⟩ := get_some hil
      have htk := insU_snoc (lt := lessM) (a := a) (c := c) (l := l.take i)
      rw [show l.take i ++ [c] = l.take (i + 1) by rw [List.take_add_one, hcc]; rfl] at htk
      have hil2 : (insU lessM a (l.take i)).1.length ≤ i + 1 := by have := insU_len (lt := lessM) (a := a) (l := l.take i); simp at this; omega
      simp only [hil, decide_true, condK_true]
      refine seqW_by (fun fr υ => ∃ z, fr = [(0, x), (3, .ptr σ.next 0 0), (5, z), (6, bool (insU lessM a (l.take (i + 1))).2), (7, int i), (19, int l.length), (20, int i)] ∧ Grows τ υ ∧ ∃ rows, Kid τ.next 0 3 υ z (arows rows) ∧ rows.length ≤ i + 3 ∧ (insU lessM a (l.take (i + 1))).1 = rows ++ [c]) ?_ ?_
      · obtain ⟨r, h1, h2⟩ := (hx2.grows hG2).atA hcc .i64
        cases hd : (insU lessM a (l.take i)).2
        · rw [hd] at htk
          simp only [Bool.false_eq_true, if_false] at htk
          simp only [Bool.not_false, gK_tt, gK_ff]
          refine stepP (gl _ hG2) ?_
          refine stepP h1 ?_
          refine stepP h2 ?_
          refine less_ref ?_
          cases hlt : lessM a c
          · rw [hlt] at htk
            simp only [Bool.false_eq_true, if_false] at htk
            simp
            exact ⟨y, ⟨rfl, by rw [htk]⟩, hG2, _, hK, by omega, by rw [htk]⟩
          · rw [hlt, if_pos rfl] at htk
            simp only [cond_false, condK_true]
            refine stepP (gl _ hG2) ?_
            refine stepK_of (bs_atom a φ) (addRow 32 a.av hK hnx2 (by simp; omega) fun z ω t1 t2 t3 t4 => ?_)
            refine ⟨z, by rw [htk], keep _ _ _ _ hG2 hK t2 t1, (insU lessM a (l.take i)).1 ++ [a], by simpa [arows] using t3, by simp; omega, by rw [htk]; simp⟩
        · simp
          rw [hd] at htk
          simp only [if_true] at htk
          exact ⟨y, ⟨rfl, by rw [htk]⟩, hG2, _, hK, by omega, by rw [htk]⟩
      · rintro fr υ ⟨z, rfl, hG3, rows, hK2, hr1, hr2⟩
        simp only [look_hit, look_miss, ne_eq, Nat.reduceEqDiff, not_false_eq_true]
        obtain ⟨r, h1, h2⟩ := (hx2.grows hG3).atA hcc .i64
        refine stepP h1 ?_
        refine stepP h2 ?_
        have := hG3.next
        refine stepK_of (bs_atom c υ) (addRow 32 c.av hK2 this (by simp; omega) fun z2 ω t1 t2 t3 t4 => ?_)
        simp
        rw [wrap64 (by omega)]
        refine ⟨⟨i + 1, z2, ⟨rfl, by simp⟩, by omega, keep _ _ _ _ hG3 hK2 t2 t1, ?_⟩, by omega⟩
        rw [hr2]; simpa [arows] using t3
    · rw [List.take_of_length_le (by omega)] at hK
      have hil2 : (insU lessM a l).1.length ≤ l.length + 1 := insU_len
      have e0 : l.take i = l := List.take_of_length_le (by omega)
      simp only [hil, decide_false, condK_false, e0]
      refine seqW_in ?_
      cases hd : (insU lessM a l).2
      · rw [hd] at hu
        simp only [Bool.false_eq_true, if_false] at hu
        simp only [look_hit, look_miss, ne_eq, Nat.reduceEqDiff, not_false_eq_true, aNot_bool, Bool.not_false, pureR_some, stepK_some, condK_true]
        refine stepP (gl _ hG2) ?_
        refine stepK_of (bs_atom a φ) (addRow 32 a.av hK hnx2 (by simp; omega) fun z ω t1 t2 t3 t4 => ?_)
        refine ⟨hG.trans (keep _ _ _ _ hG2 hK t2 t1), effV (ins lessM a l), ?_, hk _ (.inr rfl)⟩
        have : Kid σ.next 0 3 ω z (arows (ins lessM a l)) := by
          rw [hu]
          rcases t3 with h | ⟨q, rest, h1, h2, h3, h4⟩
          · exact .inl ⟨h.1, by simpa [arows] using h.2⟩
          · exact .inr ⟨q, rest, by simpa using h1, by simpa [arows] using h2, by omega, h4⟩
        exact this.frz (arows_dat _)
      · rw [hd] at hu
        simp only [if_true, List.append_nil] at hu
        simp
        refine ⟨hG.trans hG2, effV (ins lessM a l), ?_, hk _ (.inr rfl)⟩
        rw [hu]
        have : Kid σ.next 0 3 φ y (arows (insU lessM a l).1) := by
          rcases hK with h | ⟨q, rest, h1, h2, h3, h4⟩
          · exact .inl h
          · exact .inr ⟨q, rest, h1, h2, by omega, h4⟩
        exact this.frz (arows_dat _)

/-- A row in hand that nobody else holds, or a frozen one. -/
def RowF (n : Nat) (σ : AHeap) (sz : Nat) (x : AV) (els : List (List AV)) : Prop := RowG σ sz x els ∧ ∀ q m, x = .own q m → n ≤ q
theorem RowF.grows {n σ τ sz x els} (h : RowF n σ sz x els) (g : Grows σ τ) : RowF n τ sz x els := ⟨h.1.grows g, h.2⟩
theorem RowF.sl {n σ sz els} (h : ∀ el ∈ els, ∀ x ∈ el, Dat x) : RowF n σ sz (.sl false sz els) els := ⟨RowG.sl h, fun q m e => by cases e⟩
theorem RowF.frz {n σ sz x els} (h : RowF n σ sz x els) (hd : ∀ el ∈ els, ∀ x ∈ el, Dat x) : Frz σ n x (.sl false sz els) := by
  rcases h.1.1 with ⟨rfl, rfl⟩ | ⟨c, rfl⟩ | ⟨q, rest, rfl, h1⟩
  · exact .nil
  · refine .sl rfl (fun i el fl h1 h2 => by rw [h1] at h2; cases h2; rfl) fun i el fl j x y h1 h2 h3 h4 => ?_
    rw [h1] at h2; cases h2
    rw [h3] at h4; cases h4
    exact .low ((hd el (List.mem_of_getElem? h1) x (List.mem_of_getElem? h3)).low _)
  · have hq := h.2 q _ rfl
    have hK : Kid n 0 sz σ (.own q els.length) els := .inr ⟨q, rest, rfl, h1, by omega, by
      cases h.1.2 with
      | own hh => exact hh⟩
    exact hK.frz hd
theorem RowF.new {n sz} {σ : AHeap} (hn : n ≤ σ.next) : RowF n (σ.new (.cells sz [])) sz (.own σ.next 0) [] :=
  ⟨⟨.inr (.inr ⟨σ.next, [], rfl, by simp [get_new]⟩), .own (by simp)⟩, fun q m e => by cases e; exact hn⟩
theorem putM_foldl (l : List Atom) : ∀ s, l.foldl (fun s a => putM a s) s = (l.filter atomM).foldl (fun s a => ins lessM a s) s := by
  induction l with
  | nil => intro s; rfl
  | cons a l ih =>
    intro s
    rw [List.foldl_cons, ih, List.filter_cons]
    unfold putM
    split <;> simp
theorem putM_all (l : List Atom) : l.foldl (fun s a => putM a s) [] = ofM l := putM_foldl l []
theorem foldl_putM_rising (l : List Atom) : ∀ {s : List Atom}, s.Pairwise (fun a b => lessM a b = true) → (l.foldl (fun s a => putM a s) s).Pairwise fun a b => lessM a b = true := by
  induction l with
  | nil => exact fun h => h
  | cons a l ih => exact fun h => ih (putM_rising a h)
theorem foldl_putM_len (l : List Atom) : ∀ {s : List Atom}, (l.foldl (fun s a => putM a s) s).length ≤ s.length + l.length := by
  induction l with
  | nil => intro s; simp
  | cons a l ih =>
    intro s
    have h1 := ih (s := putM a s)
    have h2 := putM_len a s
    simp only [List.foldl_cons, List.length_cons]; omega

/-- One more atom in a loop. -/
theorem putL_ev {n : Nat} {x : AV} {l : List Atom} {a : Atom} (hx : RowF n σ 3 x (arows l)) (hs : l.Pairwise fun a b => lessM a b = true) (hb : l.length < 1000000000) (hk : ∀ y, RowF n σ 3 y (arows (putM a l)) → k y σ) : Ev PR 82 [x, a.v] σ k kp := by
  refine put_ev hx.1 hs hb fun y hy => hk y ?_
  rcases hy with ⟨rfl, e⟩ | rfl
  · rw [e]; exact hx
  · exact RowF.sl (arows_dat _)
theorem putIntL_ev {n : Nat} {x : AV} {l : List Int} {a : Int} (hx : RowF n σ 1 x (irows l)) (hs : l.Pairwise fun a b => ltI a b = true) (hb : l.length < 1000000000) (hk : ∀ y, RowF n σ 1 y (irows (ins ltI a l)) → k y σ) : Ev PR 65 [x, int a] σ k kp := by
  refine putInt_ev hx.1 hs hb fun y hy => hk y ?_
  rcases hy with ⟨rfl, e⟩ | rfl
  · rw [e]; exact hx
  · exact RowF.sl (irows_dat _)

theorem ofR_ev {x : AV} {l : List Atom} (hx : RowG σ 3 x (arows l)) (hb : l.length < 1000000000) (hk : k (effV (ofM l)) σ) : Ev PR 66 [x] σ k kp := by
  refine Ev.pure ?_
  apply F66_ev; unfold F66
  simp
  refine seqW_in ?_
  simp [(hx.grows (Grows.new σ _)).lenA]
  obtain ⟨g, hg⟩ : ∃ g : Nat → List Atom, ∀ i, g i = (l.take i).foldl (fun s a => putM a s) [] := ⟨_, fun _ => rfl⟩
  have gr : ∀ i, (g i).Pairwise fun a b => lessM a b = true := fun i => by rw [hg]; exact foldl_putM_rising _ List.Pairwise.nil
  have gl : ∀ i, (g i).length ≤ i := fun i => by rw [hg]; have := foldl_putM_len (l.take i) (s := []); simp at this; omega
  refine loopW_by (fun p : Nat × AV => [(0, x), (3, p.2), (7, int l.length), (8, int p.1)])
    (fun p φ => p.1 ≤ l.length ∧ Grows σ φ ∧ RowF σ.next φ 3 p.2 (arows (g p.1)))
    (fun fr _ => l.length - (intOf (look fr 8)).toNat) (0, .own σ.next 0) (by simp) ⟨by simp, Grows.new _ _, by rw [hg]; exact RowF.new (Nat.le_refl _)⟩ ?_
  rintro ⟨i, y⟩ φ ⟨hi, hG, hK⟩
  simp only at hi hK
  simp
  by_cases hil : i < l.length
  · obtain ⟨a, ha⟩ := get_some hil
    obtain ⟨r, h1, h2⟩ := (hx.grows hG).atA ha .i64
    simp only [hil, decide_true, condK_true]
    refine stepP h1 ?_
    refine stepP h2 ?_
    have := gl i
    refine putL_ev hK (gr i) (by omega) fun z hz => ?_
    rw [wrap64 (by omega)]
    refine ⟨⟨i + 1, z, ⟨rfl, by simp⟩, by omega, hG, ?_⟩, by omega⟩
    have e : g (i + 1) = putM a (g i) := by rw [hg, hg, List.take_add_one, ha, List.foldl_append]; rfl
    rw [e]; exact hz
  · have e : g i = ofM l := by rw [hg, List.take_of_length_le (by omega), putM_all]
    rw [e] at hK
    simp [hil]
    exact ⟨hG, effV (ofM l), hK.frz (arows_dat _), hk⟩
end Go.Abs.Bas
