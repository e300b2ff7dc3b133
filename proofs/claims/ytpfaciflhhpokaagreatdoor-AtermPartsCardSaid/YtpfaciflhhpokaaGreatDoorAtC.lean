/-
  Is a term apart?
-/
import Derived.Test.YtpfaciflhhpokaaGreatDoorAtB
set_option linter.unusedVariables false
set_option linter.unusedSimpArgs false
namespace Go.Abs.At
open Go Go.Abs Go.Proofs.AtD
attribute [local simp] Nat.add_assoc

def ownGo (met : List Int) : List Int → Option (List Int)
  | [] => some met
  | r :: rs => if r ∈ met then none else ownGo (met ++ [r]) rs
def apartGo (met : List Int) : List AT → Int × Bool
  | [] => (0, true)
  | t :: ts => match ownGo met (own t) with
    | none => (t.h.pos, false)
    | some m => apartGo m ts
def apartIn (met rs : List Int) (pos : Int) (ts : List AT) : Int × Bool := match ownGo met rs with
  | none => (pos, false)
  | some m => apartGo m ts
theorem apartGo_cons (met : List Int) (t : AT) (ts : List AT) : apartGo met (t :: ts) = apartIn met (own t) t.h.pos ts := rfl
theorem apartIn_nil (met : List Int) (pos : Int) (ts : List AT) : apartIn met [] pos ts = apartGo met ts := rfl
theorem apartIn_met {met rs : List Int} {r pos : Int} {ts : List AT} (h : r ∈ met) : apartIn met (r :: rs) pos ts = (pos, false) := by simp [apartIn, ownGo, h]
theorem apartIn_new {met rs : List Int} {r pos : Int} {ts : List AT} (h : r ∉ met) : apartIn met (r :: rs) pos ts = apartIn (met ++ [r]) rs pos ts := by simp [apartIn, ownGo, h]
theorem drop_at {α : Type} {l : List α} {i : Nat} {x : α} (h : l[i]? = some x) : l.drop i = x :: l.drop (i + 1) := by
  have hi := (List.getElem?_eq_some_iff.1 h).1
  rw [List.drop_eq_getElem_cons hi]
  rw [List.getElem?_eq_getElem hi] at h
  rw [Option.some.inj h]

abbrev pairV (p : Int × Bool) : AV := .tup [int p.1, bool p.2]

theorem apart_ref {t : AT} (hb : t.size < 100000000000) (hb2 : (ownAll t.all).length < 1000000000000) {σ : AHeap} {k kp : AV → AHeap → Prop} (hk : k (pairV (apartGo [] t.all)) σ) : Ev PR 25 [t.v] σ k kp := by
  refine Ev.pureD hk ((Dat.tup fun x hx => by simp at hx; rcases hx with rfl | rfl <;> exact Dat.val _).low _) fun k' hk' => ?_
  apply F25_ev; unfold F25
  simp [get_new]
  refine all_ref _ t (Nat.le_refl _) hb _ _ _ ?_
  refine seqW_in ?_
  have hlen : ∀ ω, aLenK .slice (AT.vs t.all) ω = some (int t.all.length) := fun ω => by simp
  have hal := t.all_len
  simp [hlen]
  refine loopW_by (fun p : Nat × AV => [(4, p.2), (5, AT.vs t.all), (13, int t.all.length), (14, int p.1)])
    (fun p φ => p.1 ≤ t.all.length ∧ Grows σ φ ∧ σ.next + 1 ≤ φ.next ∧ ∃ met : List Int, Kid σ.next 1 1 φ p.2 (met.map fun r => [int r]) ∧ apartGo met (t.all.drop p.1) = apartGo [] t.all ∧ met.length ≤ (ownAll (t.all.take p.1)).length)
    (fun fr _ => t.all.length - (intOf (look fr 14)).toNat) (0, .own (σ.next + 1) 0) (by simp)
    ⟨by simp, (Grows.new _ _).trans (Grows.new _ _), by simp, [], .inr ⟨σ.next + 1, [], by simp, by simp [get_new], by omega, by simp⟩, by simp, by simp⟩ ?_
  rintro ⟨i, x⟩ φ ⟨hi, f1, f2, met, f3, f4, f5⟩
  simp only at hi f3 f4 f5
  simp
  by_cases hil : i < t.all.length
  · obtain ⟨c, hc⟩ := get_some hil
    have hix : ∀ ω, aIndexAddr 19 (AT.vs t.all) (int i) ω = some (.ref c.av) := fun ω => by rw [aIndexAddr_sl]; simp [AT.avs_get hc]
    have htk := ownAll_take hc
    have hle := ownAll_take_le t.all (i + 1)
    rw [htk] at hle
    simp only [List.length_append] at hle
    rw [drop_at hc, apartGo_cons] at f4
    simp [hil, hix]
    refine seqW_in ?_
    refine own_ref ?_
    have hol : ∀ ω, aLenK .slice (rhosV (own c)) ω = some (int (own c).length) := fun ω => by simp [rhosV]
    simp [hol]
    refine loopW_by (fun p : Nat × AV => [(4, p.2), (5, AT.vs t.all), (6, int i), (7, rhosV (own c)), (13, int t.all.length), (14, int i), (23, int (own c).length), (24, int p.1)])
      (fun p φ => p.1 ≤ (own c).length ∧ Grows σ φ ∧ σ.next + 1 ≤ φ.next ∧ ∃ met : List Int, Kid σ.next 1 1 φ p.2 (met.map fun r => [int r]) ∧ apartIn met ((own c).drop p.1) c.h.pos (t.all.drop (i + 1)) = apartGo [] t.all ∧ met.length ≤ (ownAll (t.all.take i)).length + p.1)
      (fun fr _ => (own c).length - (intOf (look fr 24)).toNat) (0, x) (by simp) ⟨by simp, f1, f2, met, f3, by simpa using f4, by simpa using f5⟩ ?_
    clear f1 f2 f3 f4 f5
    rintro ⟨j, x⟩ φ ⟨hj, f1, f2, met, f3, f4, f5⟩
    simp only at hj f3 f4 f5
    simp
    by_cases hjl : j < (own c).length
    · obtain ⟨r, hr⟩ := get_some hjl
      have hjx : ∀ ω, aIndexAddr 1 (rhosV (own c)) (int j) ω = some (.ref [int r]) := fun ω => by rw [rhosV, aIndexAddr_sl]; simp [hr]
      rw [drop_at hr] at f4
      simp [hjl, hjx]
      refine ints_ev (by omega) f3.rows ?_
      by_cases hm : r ∈ met
      · simp [hm, hix]
        rw [apartIn_met hm] at f4
        have := hk' _ f1
        rw [← f4] at this
        simpa using this
      · rw [apartIn_new hm] at f4
        simp [hm, hjx]
        have f3' := f3.grows (Grows.new φ (.cells 1 [[int r]]))
        have hy : Rows (φ.new (.cells 1 [[int r]])) 1 (.own φ.next 1) [[int r]] := .inr (.inr ⟨φ.next, [], rfl, by simp [get_new]⟩)
        have g2 : Grows σ (φ.new (.cells 1 [[int r]])) := f1.trans (Grows.new _ _)
        have hn2 : (φ.new (.cells 1 [[int r]])).next = φ.next + 1 := by simp
        generalize φ.new (.cells 1 [[int r]]) = φ1 at f3' hy g2 hn2
        refine stepK_of (aAppend_rows (by' := 8) f3'.rows f3'.ns hy (by simp; omega)) ?_
        obtain ⟨p1, p2, p3⟩ := f3'.app (by omega) [[int r]]
        generalize (gone x φ1).new (.cells 1 ((met.map fun r => [int r]) ++ [[int r]])) = φ2 at p1 p2 p3
        simp
        rw [wrap64 (by omega)]
        refine ⟨⟨j + 1, _, ⟨rfl, by simp⟩, by omega, ⟨by have := f1.next; omega, fun q hq => by rw [p2 q (by omega)]; exact g2.get q hq⟩, by omega, met ++ [r], by simpa using p1, f4, by simp; omega⟩, by omega⟩
    · have hall : (own c).drop j = [] := List.drop_of_length_le (by omega)
      rw [hall, apartIn_nil] at f4
      simp [hjl]
      rw [wrap64 (by omega)]
      refine ⟨⟨i + 1, x, ⟨rfl, by simp⟩, by omega, f1, f2, met, f3, f4, ?_⟩, by omega⟩
      rw [htk]; simp; omega
  · have hall : t.all.drop i = [] := List.drop_of_length_le (by omega)
    rw [hall] at f4
    simp [hil]
    have := hk' _ f1
    rw [← f4] at this
    simpa [apartGo] using this

/-- The program's: the regions met, as a map's keys. -/
structure MetMap (es : List (MK × AV)) (met : List Int) : Prop where
  fit : keysFit (.int .i64) es = true
  has : ∀ r : Int, (mget es (.i .i64 r)).isSome = decide (r ∈ met)
  val : ∀ q y, mget es q = some y → y = .agg []
theorem MetMap.put {es : List (MK × AV)} {met : List Int} (h : MetMap es met) (r : Int) : MetMap (mset es (.i .i64 r) (.agg [])) (met ++ [r]) := by
  refine ⟨keysFit_mset h.fit (q := .i .i64 r) rfl _, fun q => ?_, fun q y hq => ?_⟩
  · rw [mget_mset]
    by_cases hq : q = r
    · subst hq; simp
    · have : ¬ (MK.i .i64 q = MK.i .i64 r) := fun e => hq (by cases e; rfl)
      simp [this, hq, h.has q]
  · rw [mget_mset] at hq
    split at hq
    · cases hq; rfl
    · exact h.val q y hq

set_option maxHeartbeats 1000000 in
theorem apart_ev {t : AT} (hb : t.size < 100000000000) (hb2 : ∀ x ∈ t.all, (own x).length < 1000000000000) {σ : AHeap} {k kp : AV → AHeap → Prop} (hk : k (pairV (apartGo [] t.all)) σ) : Ev PR 24 [t.v] σ k kp := by
  refine Ev.pureD hk ((Dat.tup fun x hx => by simp at hx; rcases hx with rfl | rfl <;> exact Dat.val _).low _) fun k' hk' => ?_
  apply F24_ev; unfold F24
  simp [get_new, get_set]
  generalize hτ : AHeap.set _ _ _ = τ
  have hg : Grows σ τ := by
    rw [← hτ]
    exact (((((Grows.new _ _).trans (Grows.new _ _)).trans (Grows.new _ _)).set (by simp) _).trans (Grows.new _ _)).set (by simp) _
  have hn : τ.next = σ.next + 4 := by rw [← hτ]; simp
  have g1 : τ.get (σ.next + 1) = some (.map []) := by rw [← hτ]; simp [get_set, get_new]
  have g2 : τ.get (σ.next + 2) = some (.cells 1 [[.mp (σ.next + 1)]]) := by rw [← hτ]; simp [get_set, get_new]
  have g3 : τ.get (σ.next + 3) = some (.cells 1 [[int 0]]) := by rw [← hτ]; simp [get_set, get_new]
  clear hτ
  refine Ev.weak (.cons (.refl _) (.cons (AT.clip1 t) .nil)) ?_
  have e1 : AT.sizes [t] = t.size := by simp [AT.sizes]
  have e3 : AT.alls [t] = t.all := by simp [AT.alls]
  refine each_ev 37 [.ptr (σ.next + 2) 0 0, .ptr (σ.next + 3) 0 0] (σ.next + 4)
    (fun φ => Grows σ φ ∧ ∃ p, φ.get (σ.next + 3) = some (.cells 1 [[int p]]) ∧ apartGo [] t.all = (p, false)) _ [t] (Nat.le_refl _) (by omega)
    (fun i φ => Grows σ φ ∧ σ.next + 4 ≤ φ.next ∧ φ.get (σ.next + 2) = some (.cells 1 [[.mp (σ.next + 1)]]) ∧ φ.get (σ.next + 3) = some (.cells 1 [[int 0]]) ∧ ∃ es met, φ.get (σ.next + 1) = some (.map es) ∧ MetMap es met ∧ apartGo met (t.all.drop i) = apartGo [] t.all)
    ?_ ?_ _ _ _ (by omega) ⟨hg, by omega, g2, g3, [], [], g1, ⟨rfl, fun r => by simp [mget], fun q y h => by simp [mget] at h⟩, by simp⟩ ?_ ?_
  · rintro i φ ψ ⟨h1, h2, h3, h4, es, met, h5, h6, h7⟩ hgg
    have := hgg.next
    exact ⟨h1.trans hgg, by omega, by rw [hgg.get _ (by omega)]; exact h3, by rw [hgg.get _ (by omega)]; exact h4, es, met, by rw [hgg.get _ (by omega)]; exact h5, h6, h7⟩
  · rintro i c hi φ q qp hbφ ⟨h1, h2, h3, h4, es, met, h5, h6, h7⟩ hT hF
    rw [e3] at hi
    have hcb := hb2 c (List.mem_of_getElem? hi)
    rw [drop_at hi, apartGo_cons] at h7
    apply F37_ev; unfold F37
    simp
    refine seqW_in ?_
    have hg0 : Grows φ (φ.new (.cells 19 [c.av])) := Grows.new _ _
    have f1 : Grows σ (φ.new (.cells 19 [c.av])) := h1.trans hg0
    have f2 : (φ.new (.cells 19 [c.av])).get (σ.next + 2) = some (.cells 1 [[.mp (σ.next + 1)]]) := by rw [hg0.get _ (by omega)]; exact h3
    have f3 : (φ.new (.cells 19 [c.av])).get (σ.next + 3) = some (.cells 1 [[int 0]]) := by rw [hg0.get _ (by omega)]; exact h4
    have f4 : (φ.new (.cells 19 [c.av])).get (σ.next + 1) = some (.map es) := by rw [hg0.get _ (by omega)]; exact h5
    have f5 : (φ.new (.cells 19 [c.av])).get φ.next = some (.cells 19 [c.av]) := by simp [get_new]
    have f6 : (φ.new (.cells 19 [c.av])).next = φ.next + 1 := by simp
    simp [f5]
    refine own_ev ?_
    have hol : ∀ ω, aLenK .slice (rhosV (own c)) ω = some (int (own c).length) := fun ω => by simp [rhosV]
    simp [hol]
    generalize φ.new (.cells 19 [c.av]) = φ1 at hg0 f1 f2 f3 f4 f5 f6
    refine loopW_by (fun j : Nat => [(1, .ptr (σ.next + 2) 0 0), (2, .ptr (σ.next + 3) 0 0), (3, .ptr φ.next 0 0), (10, rhosV (own c)), (11, int (own c).length), (12, int j)])
      (fun j ψ => j ≤ (own c).length ∧ Grows σ ψ ∧ Up 19 (σ.next + 4) φ ψ ∧ φ.next + 1 ≤ ψ.next ∧ ψ.get φ.next = some (.cells 19 [c.av]) ∧ ψ.get (σ.next + 2) = some (.cells 1 [[.mp (σ.next + 1)]]) ∧ ψ.get (σ.next + 3) = some (.cells 1 [[int 0]]) ∧
        ∃ es met, ψ.get (σ.next + 1) = some (.map es) ∧ MetMap es met ∧ apartIn met ((own c).drop j) c.h.pos (t.all.drop (i + 1)) = apartGo [] t.all)
      (fun fr _ => (own c).length - (intOf (look fr 12)).toNat) 0 (by simp) ⟨by simp, f1, Up.of hg0, by omega, f5, f2, f3, es, met, f4, h6, by simpa using h7⟩ ?_
    rintro j ψ ⟨hj, w1, w2, w3, w4, w5, w6, es', met', w7, w8, w9⟩
    simp
    by_cases hjl : j < (own c).length
    · obtain ⟨r, hr⟩ := get_some hjl
      have hjx : ∀ ω, aIndexAddr 1 (rhosV (own c)) (int j) ω = some (.ref [int r]) := fun ω => by rw [rhosV, aIndexAddr_sl]; simp [hr]
      rw [drop_at hr] at w9
      simp [hjl, hjx, w5]
      have hlk := aLookup_mp (d := .int .i64) (z := .agg []) (ok := true) (id := σ.next + 1) (x := int r) (q := .i .i64 r) (σ := ψ) rfl rfl w7 w8.fit
      refine stepP hlk ?_
      have hmm := w8.has r
      by_cases hm : r ∈ met'
      · rw [apartIn_met hm] at w9
        obtain ⟨y, hy⟩ : ∃ y, mget es' (.i .i64 r) = some y := Option.isSome_iff_exists.1 (by rw [hmm]; simpa using hm)
        obtain rfl := w8.val _ _ hy
        simp [hy]
        generalize hω : AHeap.set _ _ _ = ω
        have v1 : Grows ψ ω := by rw [← hω]; exact (Grows.new _ _).set (Nat.le_refl _) _
        have := w2.next
        have v4 : ω.get φ.next = some (.cells 19 [c.av]) := by rw [v1.get _ (by omega)]; exact w4
        have v6 : ω.get (σ.next + 3) = some (.cells 1 [[int 0]]) := by rw [v1.get _ (by omega)]; exact w6
        have := v1.next
        clear hω
        simp [v4, v6]
        refine hF _ ⟨by simp; omega, fun q els a1 a2 a3 => ?_⟩ ⟨(w1.trans v1).set (by omega) _, c.h.pos, by simp [get_set], w9.symm⟩
        rw [get_set, if_neg (by omega), v1.get _ (by omega)]
        exact w2.get q els a1 a2 a3
      · rw [apartIn_new hm] at w9
        have hy : mget es' (.i .i64 r) = none := by
          cases h : mget es' (.i .i64 r) with
          | none => rfl
          | some y => rw [h] at hmm; simp [hm] at hmm
        simp [hy]
        generalize hω : AHeap.set _ _ _ = ω
        have v1 : Grows ψ ω := by rw [← hω]; exact (Grows.new _ _).set (Nat.le_refl _) _
        have := w2.next
        have v4 : ω.get φ.next = some (.cells 19 [c.av]) := by rw [v1.get _ (by omega)]; exact w4
        have v5 : ω.get (σ.next + 2) = some (.cells 1 [[.mp (σ.next + 1)]]) := by rw [v1.get _ (by omega)]; exact w5
        have v6 : ω.get (σ.next + 3) = some (.cells 1 [[int 0]]) := by rw [v1.get _ (by omega)]; exact w6
        have v7 : ω.get (σ.next + 1) = some (.map es') := by rw [v1.get _ (by omega)]; exact w7
        have := v1.next
        clear hω
        simp [v5]
        have hup := aMapUpdate_mp (d := .int .i64) (id := σ.next + 1) (x := int r) (y := .agg []) (q := .i .i64 r) (σ := ω) rfl rfl v7 w8.fit
        simp [hup]
        rw [wrap64 (by omega)]
        refine ⟨⟨j + 1, by simp, by omega, (w1.trans v1).set (by omega) _, ⟨by simp; omega, fun q els a1 a2 a3 => ?_⟩, by omega, by simp [get_set, show φ.next ≠ σ.next + 1 by omega, v4], by simp [get_set, v5], by simp [get_set, v6], _, w8.put r, w9⟩, by omega⟩
        rw [get_set, if_neg (by omega), v1.get _ (by omega)]
        exact w2.get q els a1 a2 a3
    · have hall : (own c).drop j = [] := List.drop_of_length_le (by omega)
      rw [hall, apartIn_nil] at w9
      simp [hjl]
      exact hT _ w2 ⟨w1, by have := w2.next; omega, w5, w6, es', met', w7, w8, w9⟩
  · rintro τ hu ⟨h1, h2, h3, h4, es, met, h5, h6, h7⟩
    rw [e1, ← AT.all_len, List.drop_length] at h7
    simp [h4]
    have := hk' _ h1
    rw [← h7] at this
    simpa [apartGo] using this
  · rintro τ hu ⟨h1, p, h2, h3⟩
    simp [h2]
    have := hk' _ h1
    rw [h3] at this
    simpa using this
end Go.Abs.At
