/-
  Whether all are atoms; the regions of atoms.
-/
import Derived.Test.YtjilebpcaemopaaGreatBasR2
set_option linter.unusedVariables false
set_option linter.unusedSimpArgs false
namespace Go.Abs.Bas
open Go Go.Abs Go.Abs.At Go.Proofs.BasD
attribute [local simp] Nat.add_assoc
variable {σ : AHeap} {k kp : AV → AHeap → Prop}

theorem notAtom_ev {a : Atom} (hk : k (bool (!atomM a)) σ) : Ev PR 70 [a.v] σ k kp := by
  refine Ev.pureD hk ((Dat.val _).low _) fun k' hk' => ?_
  apply F70_ev; unfold F70
  simp only [aBox_eq, acells_agg, Option.map_some, Atom.av_len, stepK_some]
  have hg := Grows.new σ (.cells 3 [a.av])
  refine stepP (x := a.v) (by simp [get_new, Atom.take3]) ?_
  refine atom_ev ?_
  simp
  exact hk' _ hg
theorem allAtoms_ev {x : AV} {l : List Atom} (hx : RowG σ 3 x (arows l)) (hb : l.length < 1000000000000) (hk : k (bool (l.all atomM)) σ) : Ev PR 52 [x] σ k kp := by
  apply F52_ev; unfold F52
  apply F69_ev; unfold F69
  apply F83_ev; unfold F83
  have fin : ∀ v, l.all atomM = v → k (bool v) σ := fun v e => by rw [← e]; exact hk
  refine seqW_in ?_
  simp [hx.lenA]
  refine loopW_by (fun i : Nat => [(0, x), (1, .fn (.func 70) []), (7, int l.length), (8, int i)]) (fun i φ => φ = σ ∧ i ≤ l.length ∧ ∀ a ∈ l.take i, atomM a = true) (fun fr _ => l.length - (intOf (look fr 8)).toNat) 0 (by simp) ⟨rfl, by simp, by simp⟩ ?_
  rintro i φ ⟨rfl, hi, hall⟩
  simp
  by_cases hil : i < l.length
  · obtain ⟨a, ha⟩ := get_some hil
    obtain ⟨r, h1, h2⟩ := hx.atA ha .i64
    simp only [hil, decide_true, condK_true]
    refine stepP h1 ?_
    refine stepP h2 ?_
    show Ev PR 70 _ _ _ _
    refine notAtom_ev ?_
    cases hat : atomM a
    · simp
      exact fin false (by rw [List.all_eq_false]; exact ⟨a, List.mem_of_getElem? ha, by simp [hat]⟩)
    · simp
      rw [wrap64 (by omega)]
      refine ⟨⟨i + 1, by simp, by omega, fun c hc => ?_⟩, by omega⟩
      rw [List.take_add_one, ha] at hc
      rcases List.mem_append.1 hc with hc | hc
      · exact hall c hc
      · simp at hc; subst hc; exact hat
  · rw [List.take_of_length_le (by omega)] at hall
    simp [hil]
    exact fin true (by rw [List.all_eq_true]; exact hall)

theorem grow_ev {n : Nat} (hb : n < 1000000000) (hk : ∀ y τ, Grows σ τ → Kid σ.next 0 3 τ y [] → k y τ) : Ev PR 112 [.val (.slice none 0 0), int n] σ k kp := by
  apply F112_ev; unfold F112
  refine seqW_in ?_
  have h0 : ¬ ((n : Int) < 0) := by omega
  simp [h0]
  refine seqW_in ?_
  simp [aCap0]
  rw [wrap64 (by omega)]
  by_cases hn : 0 < n
  · have : (0 : Int) < n := by omega
    have hbb : n * 32 ≤ 140737488355328 := by omega
    simp [hn, aSlice, optInt]
    have e : n * 32 ≤ 140737488355328 ∧ (n : Int) ≤ 140737488355328 := ⟨by omega, by omega⟩
    rw [if_pos e]
    simp
    exact hk _ _ (Grows.new _ _) (.inr ⟨σ.next, List.replicate n [u8 0, int 0, str ByteArray.empty], by simp, by simp, by simp, by simp⟩)
  · have : n = 0 := by omega
    subst this
    simp
    exact hk _ _ (Grows.refl _) (.inl ⟨rfl, rfl⟩)
theorem concat1_ev {c : Bool} {x : AV} {l : List Atom} (hx : RowG σ 3 x (arows l)) (hb : l.length < 1000000000) (hk : k (effV l) σ) : Ev PR 84 [.sl c 1 [[x]]] σ k kp := by
  refine Ev.pure ?_
  apply F84_ev; unfold F84
  refine seqW_by (fun fr φ => fr = [(0, .sl c 1 [[x]]), (3, int l.length)] ∧ φ = σ) ?_ ?_
  · simp
    refine loopW_by (fun i : Nat => [(0, .sl c 1 [[x]]), (3, int (if i = 0 then 0 else l.length)), (9, .sl c 1 [[x]]), (10, int 1), (11, int i)])
      (fun i φ => φ = σ ∧ i ≤ 1) (fun fr _ => 1 - (intOf (look fr 11)).toNat) 0 (by simp) ⟨rfl, by simp⟩ ?_
    rintro i φ ⟨rfl, hi⟩
    simp
    rcases Nat.lt_or_ge i 1 with h | h
    · obtain rfl : i = 0 := by omega
      simp
      refine seqW_in ?_
      simp [aIndexAddr_sl]
      simp [hx.lenA]
      have h1 : ¬ ((IntKind.i64.wrap (l.length : Int)) < 0) := by rw [wrap64 (by omega)]; omega
      rw [wrap64 (by omega)] at *
      have h2 : ¬ ((l.length : Int) < 0) := by omega
      simp [h2]
      exact ⟨1, by simp, by simp⟩
    · obtain rfl : i = 1 := by omega
      simp
  · rintro fr φ ⟨rfl, rfl⟩
    simp
    refine grow_ev hb fun y τ hG hK => ?_
    refine seqW_in ?_
    simp
    refine loopW_by (fun p : Nat × AV => [(6, p.2), (25, .sl c 1 [[x]]), (26, int 1), (27, int p.1)])
      (fun p υ => p.1 ≤ 1 ∧ Grows φ υ ∧ Kid φ.next 0 3 υ p.2 (arows (if p.1 = 0 then [] else l)))
      (fun fr _ => 1 - (intOf (look fr 27)).toNat) (0, y) (by simp) ⟨by simp, hG, by simpa using hK⟩ ?_
    rintro ⟨i, z⟩ υ ⟨hi, hG1, hK1⟩
    simp only at hi hK1
    simp
    rcases Nat.lt_or_ge i 1 with h | h
    · obtain rfl : i = 0 := by omega
      simp [aIndexAddr_sl]
      simp at hK1
      have hx1 := hx.grows hG1
      refine stepK_of (aAppend_rows (by' := 32) hK1.rows hK1.ns hx1.1 (by simp; omega)) ?_
      simp
      have p1 : ((gone z υ).new (.cells 3 (arows l))).next = υ.next + 1 := by simp
      have p2 : ∀ j, (∀ m, z ≠ .own j m) → j < υ.next → ((gone z υ).new (.cells 3 (arows l))).get j = υ.get j := fun j h1 h2 => by
        rw [get_new, gone_next, if_neg (by omega), gone_get h1]
      have p3 : ((gone z υ).new (.cells 3 (arows l))).get υ.next = some (.cells 3 (arows l)) := by rw [get_new, gone_next, if_pos rfl]
      generalize (gone z υ).new (.cells 3 (arows l)) = ω at p1 p2 p3 ⊢
      have hnx := hG1.next
      have hG2 : Grows φ ω := ⟨by omega, fun j hj => by
        have hno : ∀ m, z ≠ .own j m := fun m e => by
          rcases hK1 with ⟨h, _⟩ | ⟨q, rest, h, _, h3, _⟩
          · rw [h] at e; cases e
          · rw [h] at e; cases e; omega
        rw [p2 j hno (by omega)]
        exact hG1.get j hj⟩
      exact ⟨1, .own υ.next l.length, ⟨rfl, rfl⟩, Nat.le_refl _, hG2, .inr ⟨υ.next, [], by simp, by simpa using p3, by omega, by omega⟩⟩
    · obtain rfl : i = 1 := by omega
      simp at hK1
      simp
      exact ⟨hG1, effV l, hK1.frz (arows_dat _), hk⟩
theorem union1_ev {c : Bool} {x : AV} {l : List Atom} (hx : RowG σ 3 x (arows l)) (hb : l.length < 1000000000) (hk : k (effV (ofM l)) σ) : Ev PR 71 [.sl c 1 [[x]]] σ k kp := by
  apply F71_ev; unfold F71
  refine concat1_ev hx hb ?_
  refine of_ev (RowG.eff l) hb ?_
  exact hk
/-- The regions of atoms. -/
def rhosM (l : List Atom) : List Int := setOf ltI (((ofM l).filter fun a => decide (a.kind ≠ 3)).map (·.rho))
theorem ofM_len (l : List Atom) : (ofM l).length ≤ l.length := Nat.le_trans (setOf_len lessM _) (List.length_filter_le _ _)
theorem rhosE_ev {c : Bool} {x : AV} {l : List Atom} (hx : RowG σ 3 x (arows l)) (hb : l.length < 1000000000) (hk : k (rhosV (rhosM l)) σ) : Ev PR 53 [.sl c 1 [[x]]] σ k kp := by
  refine Ev.pure ?_
  apply F53_ev; unfold F53
  refine seqW_in ?_
  refine union1_ev hx hb ?_
  have hml := ofM_len l
  have hrm : rhosM l = setOf ltI (((ofM l).filter fun a => decide (a.kind ≠ 3)).map (·.rho)) := rfl
  generalize ofM l = m at *
  have hxm : ∀ φ, RowG φ 3 (effV m) (arows m) := fun φ => RowG.eff m
  simp [(hxm σ).lenA]
  obtain ⟨g, hg⟩ : ∃ g : Nat → List Int, ∀ i, g i = ((m.take i).filter fun a => decide (a.kind ≠ 3)).map (·.rho) := ⟨_, fun _ => rfl⟩
  have gl : ∀ i, (g i).length ≤ i := fun i => by
    rw [hg, List.length_map]
    exact Nat.le_trans (List.length_filter_le _ _) (by simp; omega)
  refine loopW_by (fun p : Nat × AV => [(3, p.2), (7, effV m), (8, int m.length), (9, int p.1)])
    (fun p φ => p.1 ≤ m.length ∧ Grows σ φ ∧ Kid σ.next 0 1 φ p.2 (irows (g p.1)))
    (fun fr _ => m.length - (intOf (look fr 9)).toNat) (0, nilS) (by simp) ⟨by simp, Grows.refl _, .inl ⟨rfl, by rw [hg]; rfl⟩⟩ ?_
  rintro ⟨i, y⟩ φ ⟨hi, hG, hK⟩
  simp only at hi hK
  simp
  by_cases hil : i < m.length
  · obtain ⟨a, ha⟩ := get_some hil
    obtain ⟨r, h1, h2⟩ := (hxm φ).atA ha .i64
    simp only [hil, decide_true, condK_true]
    refine seqW_in ?_
    refine stepP h1 ?_
    refine stepP h2 ?_
    simp
    generalize hτ : AHeap.set _ _ _ = τ
    have g0 : τ.get φ.next = some (.cells 3 [a.av]) := by rw [← hτ]; simp [get_set]
    have gG : Grows φ τ := by rw [← hτ]; exact (Grows.new _ _).set (Nat.le_refl _) _
    have hnτ : φ.next + 1 ≤ τ.next := by rw [← hτ]; simp
    clear hτ
    have gs : g (i + 1) = g i ++ if a.kind ≠ 3 then [a.rho] else [] := by
      rw [hg, hg, List.take_add_one, ha, List.filter_append, List.map_append]
      congr 1
      by_cases h3 : a.kind = 3 <;> simp [h3]
    have hgi := gl i
    have hφ := hG.next
    obtain ⟨kd, rho, exn⟩ := a
    simp [g0, Atom.av]
    by_cases h3 : kd = 3
    · simp [h3]
      rw [wrap64 (by omega)]
      refine ⟨⟨i + 1, y, ⟨rfl, by simp⟩, by omega, hG.trans gG, ?_⟩, by omega⟩
      rw [gs]; simpa [h3] using hK.grows gG
    · simp [h3, g0, Atom.av]
      refine addRow 8 [int rho] (hK.grows gG) (by omega) (by simp; omega) fun z ω t1 t2 t3 t4 => ?_
      rw [wrap64 (by omega)]
      have hK2 := hK.grows gG
      refine ⟨⟨i + 1, z, ⟨rfl, by simp⟩, by omega, ⟨by omega, fun j hj => ?_⟩, ?_⟩, by omega⟩
      · have hno : ∀ m', y ≠ .own j m' := fun m' e => by
          rcases hK2 with ⟨h, _⟩ | ⟨q, rest, h, _, h3, _⟩
          · rw [h] at e; cases e
          · rw [h] at e; cases e; omega
        rw [t2 j hno (by omega)]
        exact (hG.trans gG).get j hj
      · rw [gs]; simpa [h3, irows] using t3
  · have hie : i = m.length := by omega
    subst hie
    have e : g m.length = (m.filter fun a => decide (a.kind ≠ 3)).map (·.rho) := by rw [hg, List.take_length]
    have hgl := gl m.length
    rw [e] at hK hgl
    simp only [hil, decide_false, condK_false]
    refine normI hK (by omega) fun z τ t1 t2 t3 => ?_
    refine ⟨⟨by rw [t1]; exact hG.next, fun j hj => by rw [t2 j hj]; exact hG.get j hj⟩, rhosV (rhosM l), ?_, hk⟩
    rw [hrm]
    exact t3.frz (irows_dat _)
/-- Atoms whose regions there are. -/
theorem okA_all (b : B) (l : List Atom) : l.all (okA b) = (l.all atomM && there (rhosM l) b.regions) := by
  rw [Bool.eq_iff_iff, Bool.and_eq_true, List.all_eq_true, List.all_eq_true, there_iff]
  have hm : ∀ n, n ∈ rhosM l ↔ ∃ a ∈ l, atomM a = true ∧ a.kind ≠ 3 ∧ a.rho = n := fun n => by
    unfold rhosM ofM
    rw [mem_setOf, List.mem_map]
    constructor
    · rintro ⟨a, ha, rfl⟩
      obtain ⟨h1, h2⟩ := List.mem_filter.1 ha
      rw [mem_setOf] at h1
      obtain ⟨h3, h4⟩ := List.mem_filter.1 h1
      exact ⟨a, h3, h4, by simpa using h2, rfl⟩
    · rintro ⟨a, h1, h2, h3, rfl⟩
      exact ⟨a, List.mem_filter.2 ⟨(mem_setOf _ _ _).2 (List.mem_filter.2 ⟨h1, h2⟩), by simpa using h3⟩, rfl⟩
  have hpos : ∀ a, atomM a = true → a.kind ≠ 3 → 0 ≤ a.rho := fun a h1 h3 => by
    unfold atomM at h1
    simp only [h3] at h1
    by_cases h5 : a.kind = 1 ∨ a.kind = 2
    · rcases h5 with h5 | h5 <;> simp [h5] at h1 <;> exact h1.1
    · simp only [not_or] at h5
      simp [h5.1, h5.2] at h1
  constructor
  · intro h
    have h1 : ∀ a ∈ l, atomM a = true ∧ (a.kind = 3 ∨ a.rho < b.regions) := fun a ha => by
      have := h a ha
      simpa [okA] using this
    refine ⟨fun a ha => (h1 a ha).1, fun n hn => ?_⟩
    obtain ⟨a, ha, h2, h3, rfl⟩ := (hm n).1 hn
    refine ⟨hpos a h2 h3, ?_⟩
    rcases (h1 a ha).2 with h | h
    · exact absurd h h3
    · exact h
  · rintro ⟨h1, h2⟩ a ha
    simp only [okA, Bool.and_eq_true, Bool.or_eq_true, decide_eq_true_eq]
    refine ⟨h1 a ha, ?_⟩
    by_cases h3 : a.kind = 3
    · exact .inl h3
    · exact .inr (h2 a.rho ((hm _).2 ⟨a, ha, h1 a ha, h3, rfl⟩)).2
end Go.Abs.Bas
