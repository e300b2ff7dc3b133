/-
  One of each of atoms, walked; the effect of atoms.
-/
import Derived.Test.YtjilebpcaemopaaGreatBasL2
set_option linter.unusedVariables false
set_option linter.unusedSimpArgs false
namespace Go.Abs.Bas
open Go Go.Abs Go.Abs.At Go.Proofs.BasD
attribute [local simp] Nat.add_assoc

theorem compactM_snoc {α : Type} [DecidableEq α] (a : α) : ∀ (l : List α) {b : α}, l.getLast? = some b → compactM (l ++ [a]) = if b = a then compactM l else compactM l ++ [a]
  | [], b, h => by simp at h
  | [c], b, h => by
    simp at h; subst h
    simp only [List.cons_append, List.nil_append, compactM]
    split <;> simp_all
  | c :: d :: l, b, h => by
    have ih := compactM_snoc a (d :: l) (b := b) (by simpa using h)
    simp only [List.cons_append] at ih ⊢
    simp only [compactM, ih]
    split <;> split <;> simp
theorem compactM_take {α : Type} [DecidableEq α] {l : List α} {i : Nat} {a b : α} (ha : l[i]? = some a) (hb : l[i - 1]? = some b) (h0 : 0 < i) : compactM (l.take (i + 1)) = if b = a then compactM (l.take i) else compactM (l.take i) ++ [a] := by
  rw [List.take_add_one, ha]
  have : (l.take i).getLast? = some b := by
    have hi := (List.getElem?_eq_some_iff.1 ha).1
    rw [List.getLast?_eq_getElem?]
    simp only [List.length_take, Nat.min_eq_left (Nat.le_of_lt hi)]
    rw [List.getElem?_take, if_pos (by omega)]
    exact hb
  exact compactM_snoc a _ this
theorem compactM_len {α : Type} [DecidableEq α] : ∀ l : List α, (compactM l).length ≤ l.length
  | [] => Nat.le_refl _
  | [a] => Nat.le_refl _
  | a :: b :: l => by
    have := compactM_len (b :: l)
    unfold compactM
    split <;> simp at * <;> omega
theorem compactM_pos {α : Type} [DecidableEq α] : ∀ {l : List α}, l ≠ [] → 0 < (compactM l).length
  | [a], _ => by simp [compactM]
  | a :: b :: l, _ => by
    have := compactM_pos (l := b :: l) (by simp)
    unfold compactM
    split
    · exact this
    · simp

theorem arow_at {l : List Atom} {i : Nat} {a : Atom} (h : l[i]? = some a) (rest : List (List AV)) : (arows l ++ rest)[i]? = some a.av := by
  have hi := (List.getElem?_eq_some_iff.1 h).1
  rw [List.getElem?_append_left (by simpa using hi)]
  simp [h]

theorem compactA_nil {x : AV} (hx : x = .val (.slice none 0 0) ∨ ∃ q, x = .own q 0 ∨ x = .own q 1) {σ : AHeap} {k kp : AV → AHeap → Prop} (hk : k x σ) : Ev PR 61 [x] σ k kp := by
  apply F61_ev; unfold F61
  rcases hx with rfl | ⟨q, rfl | rfl⟩
  · simp [hk]
  · simp [hk]
  · simp [hk]
theorem compactA_ev {q len : Nat} {l : List Atom} {rest : List (List AV)} {σ : AHeap} (hlen : len = l.length) (hg : σ.get q = some (.cells 3 (arows l ++ rest))) (hb : l.length < 1000000000000) {k kp : AV → AHeap → Prop}
    (hk : ∀ τ rest', τ.next = σ.next → (∀ i, i ≠ q → τ.get i = σ.get i) → τ.get q = some (.cells 3 (arows (compactM l) ++ rest')) → k (.own q (compactM l).length) τ) : Ev PR 61 [.own q len] σ k kp := by
  subst hlen
  by_cases h2 : l.length < 2
  · have hc : compactM l = l := by
      match l, h2 with
      | [], _ => rfl
      | [a], _ => rfl
    refine compactA_nil (.inr ⟨q, ?_⟩) ?_
    · rcases Nat.lt_or_ge l.length 1 with h | h
      · exact .inl (by rw [show l.length = 0 by omega])
      · exact .inr (by rw [show l.length = 1 by omega])
    have := hk σ rest rfl (fun _ _ => rfl) (by rw [hc]; exact hg)
    rwa [hc] at this
  apply F61_ev; unfold F61
  have h2' : ¬ ((l.length : Int) < 2) := by omega
  simp [h2']
  refine seqW_in ?_
  have hat : ∀ (τ : AHeap) (m : List Atom) (r : List (List AV)) (i : Nat) (a : Atom), τ.get q = some (.cells 3 (arows m ++ r)) → m[i]? = some a → i < l.length → aIndexAddr 3 (.own q l.length) (int i) τ = some (.ptr q i 0) ∧ aLoad true 3 (.ptr q i 0) τ = some a.v := by
    intro τ m r i a hg hi hil
    have hrow := arow_at hi r
    constructor
    · rw [aIndexAddr_own]; simp [hil, hg, hrow]
    · simp [hg, hrow, Atom.take3]
  refine loopW_by (fun i : Nat => [(0, .own q l.length), (3, int i)]) (fun i φ => φ = σ ∧ 1 ≤ i ∧ i ≤ l.length ∧ compactM (l.take i) = l.take i) (fun fr _ => l.length - (intOf (look fr 3)).toNat) 1 (by simp) ⟨rfl, by omega, by omega, ?_⟩ ?_
  · obtain ⟨a, ha⟩ := get_some (l := l) (i := 0) (by omega)
    have : l.take 1 = [a] := by rw [show (1 : Nat) = 0 + 1 from rfl, List.take_add_one, ha]; rfl
    rw [this]; rfl
  rintro i φ ⟨rfl, hi1, hi2, hc⟩
  simp
  by_cases hil : i < l.length
  · obtain ⟨a, ha⟩ := get_some hil
    obtain ⟨b, hbb⟩ := get_some (l := l) (i := i - 1) (by omega)
    obtain ⟨q1, q2⟩ := hat φ l rest i a hg ha hil
    obtain ⟨q3, q4⟩ := hat φ l rest (i - 1) b hg hbb (by omega)
    have hw : IntKind.i64.wrap ((i : Int) - 1) = ((i - 1 : Nat) : Int) := by rw [wrap64 (by omega)]; omega
    have htk := compactM_take ha hbb (by omega)
    simp [hil]
    refine seqW_in ?_
    refine stepP q1 ?_
    refine stepP q2 ?_
    simp only [stepK_some, aBin_sub, pureR_some, hw]
    refine stepP q3 ?_
    refine stepP q4 ?_
    by_cases hab : a = b
    · subst hab
      rw [if_pos rfl] at htk
      simp only [aBin_agg, eqAtom, decide_true, Option.map_some, pureR_some, stepK_some, condK_true]
      rw [aSlice_own_lo _ _ _ _ _ ⟨by omega, by omega⟩]
      simp only [pureR_some, stepK_some, Int.toNat_natCast]
      have hwl : ((l.length : Int) - i).toNat = l.length - i := by omega
      rw [hwl]
      refine seqW_in ?_
      simp
      refine loopW_by (fun p : Nat × Nat => [(0, .own q l.length), (3, int p.1), (4, .win q i 3 (l.length - i)), (5, int p.2)])
        (fun p ψ => 1 ≤ p.2 ∧ p.2 ≤ l.length - i ∧ ψ.next = φ.next ∧ (∀ j, j ≠ q → ψ.get j = φ.get j) ∧ p.1 = (compactM (l.take (i + p.2))).length ∧ p.1 < i + p.2 ∧ ψ.get q = some (.cells 3 (arows (compactM (l.take (i + p.2)) ++ l.drop p.1) ++ rest)))
        (fun fr _ => l.length - (intOf (look fr 5)).toNat) (i, 1) (by simp) ?_ ?_
      · have hl : (compactM (l.take (i + 1))).length = i := by rw [htk, hc]; simp; omega
        refine ⟨Nat.le_refl _, by omega, rfl, fun _ _ => rfl, hl.symm, by omega, ?_⟩
        rw [htk, hc, List.take_append_drop]; exact hg
      · rintro ⟨n, p⟩ ψ ⟨hp1, hp2, hnx, hot, hn, hnl, hgq⟩
        simp only at hp1 hp2 hn hnl hgq
        simp
        have hcast : (((l.length - i : Nat)) : Int) = (l.length : Int) - i := by omega
        by_cases hpl : p < l.length - i
        · obtain ⟨c, hcc⟩ := get_some (l := l) (i := i + p) (by omega)
          obtain ⟨d, hdd⟩ := get_some (l := l) (i := i + p - 1) (by omega)
          have hpl' : (p : Int) < ((l.length - i : Nat) : Int) := by omega
          have hcl : (compactM (l.take (i + p)) ++ l.drop n)[i + p]? = some c := by
            rw [List.getElem?_append_right (by omega), ← hn, List.getElem?_drop, show n + (i + p - n) = i + p by omega]; exact hcc
          have hdl : (compactM (l.take (i + p)) ++ l.drop n)[i + p - 1]? = some d := by
            rw [List.getElem?_append_right (by omega), ← hn, List.getElem?_drop, show n + (i + p - 1 - n) = i + p - 1 by omega]; exact hdd
          have hrow1 := arow_at hcl rest
          have hrow2 := arow_at hdl rest
          have i1 : ∀ (k : IntKind), aIndexAddr 3 (.win q i 3 (l.length - i)) (.val (.int k p)) ψ = some (.ptr q (i + p) 0) := by
            intro k; rw [aIndexAddr_win]
            rw [if_pos ⟨by omega, by omega, rfl⟩]
            simp only [elAt_eq, hgq, Int.toNat_natCast, hrow1, Option.bind_some, Atom.av_len, if_true]
          have i2 : ∀ (k : IntKind), aIndexAddr 3 (.win q i 3 (l.length - i)) (.val (.int k ((p - 1 : Nat) : Int))) ψ = some (.ptr q (i + p - 1) 0) := by
            intro k; rw [aIndexAddr_win]
            rw [if_pos ⟨by omega, by omega, rfl⟩]
            simp only [elAt_eq, hgq, Int.toNat_natCast, show i + (p - 1) = i + p - 1 by omega, hrow2, Option.bind_some, Atom.av_len, if_true]
          have l1 : aLoad true 3 (.ptr q (i + p) 0) ψ = some c.v := by simp only [aLoad_ptr, elAt_eq, hgq, hrow1, Option.bind_some, List.drop_zero]; simp [Atom.take3]
          have l2 : aLoad true 3 (.ptr q (i + p - 1) 0) ψ = some d.v := by simp only [aLoad_ptr, elAt_eq, hgq, hrow2, Option.bind_some, List.drop_zero]; simp [Atom.take3]
          have hw2 : IntKind.i64.wrap ((p : Int) - 1) = ((p - 1 : Nat) : Int) := by rw [wrap64 (by omega)]; omega
          have htk2 := compactM_take hcc hdd (by omega)
          rw [decide_eq_true hpl]
          simp only [condK_true]
          refine seqW_in ?_
          refine stepP (i1 _) ?_
          refine stepP l1 ?_
          simp only [stepK_some, aBin_sub, pureR_some, hw2]
          refine stepP (i2 _) ?_
          refine stepP l2 ?_
          by_cases hcd : c = d
          · subst hcd
            rw [if_pos rfl] at htk2
            simp [eqAtom]
            rw [wrap64 (by omega)]
            refine ⟨⟨n, p + 1, by simp, by omega, by omega, hnx, hot, by rw [← Nat.add_assoc, htk2]; exact hn, by omega, by rw [← Nat.add_assoc, htk2]; simpa [arows] using hgq⟩, by omega⟩
          · rw [if_neg (fun e => hcd e.symm)] at htk2
            have hnl2 : n < l.length := by omega
            have hcn : (compactM (l.take (i + p)) ++ l.drop n)[n]? ≠ none := by
              rw [List.getElem?_append_right (by omega), ← hn, Nat.sub_self, List.getElem?_drop]
              simp; omega
            obtain ⟨e, he⟩ : ∃ e, (compactM (l.take (i + p)) ++ l.drop n)[n]? = some e := by
              cases hh : (compactM (l.take (i + p)) ++ l.drop n)[n]? with
              | none => exact absurd hh hcn
              | some e => exact ⟨e, rfl⟩
            have hrow3 := arow_at he rest
            have i3 : ∀ k : IntKind, aIndexAddr 3 (.own q l.length) (.val (.int k n)) ψ = some (.ptr q n 0) := by
              intro k; rw [aIndexAddr_own]
              rw [if_pos ⟨by omega, by omega⟩]
              simp only [elAt_eq, hgq, Int.toNat_natCast, hrow3, Option.bind_some, Atom.av_len, if_true]
            simp only [aBin_agg', eqAtom, hcd, decide_false, Bool.not_false, Option.map_some, pureR_some, stepK_some, condK_true]
            refine stepP (i1 _) ?_
            refine stepP l1 ?_
            refine stepP (i3 _) ?_
            have hst : aStore 3 (.ptr q n 0) c.v ψ = some (ψ.set q (.cells 3 ((arows (compactM (l.take (i + p)) ++ l.drop n) ++ rest).set n c.av))) := by
              rw [aStore_ptr]
              have e3 : e.av.drop 3 = [] := rfl
              simp only [hgq, hrow3, acells_agg, Atom.av_len, Nat.zero_add, Nat.le_refl, and_self, if_true, List.take_zero, List.nil_append, e3, List.append_nil]
            rw [hst]
            simp
            rw [wrap64 (by omega), wrap64 (by omega)]
            have hset : (arows (compactM (l.take (i + p)) ++ l.drop n) ++ rest).set n c.av = arows ((compactM (l.take (i + p)) ++ [c]) ++ l.drop (n + 1)) ++ rest := by
              obtain ⟨z, hz⟩ := get_some hnl2
              have hd : l.drop n = z :: l.drop (n + 1) := drop_at hz
              rw [hd]
              have hlen : (compactM (l.take (i + p))).length = n := hn.symm
              simp only [arows, List.map_append, List.map_cons, List.append_assoc, List.cons_append, List.map_nil, List.nil_append]
              rw [List.set_append_right _ _ (by simp [hlen])]
              simp [hlen]
            refine ⟨⟨n + 1, p + 1, by simp, by omega, by omega, by simpa using hnx, fun j hj => by rw [get_set, if_neg hj]; exact hot j hj, by rw [← Nat.add_assoc, htk2]; simp [hn], by omega, ?_⟩, by omega⟩
            rw [← Nat.add_assoc, htk2]
            simpa [arows] using hset
        · have hpe : i + p = l.length := by omega
          have hpl' : ¬ (p : Int) < ((l.length - i : Nat) : Int) := by omega
          rw [hpe, List.take_length] at hn hgq
          have hpos := compactM_pos (l := l) (by intro e; subst e; simp at h2)
          rw [decide_eq_false hpl]
          simp only [condK_false]
          rw [aSlice_own_lo _ _ _ _ _ ⟨by omega, by omega⟩]
          simp only [pureR_some, stepK_some, Int.toNat_natCast]
          have hcl : ∀ zs : List AV, zs.length = 3 → aClear 3 zs (.win q n 3 ((l.length : Int) - n).toNat) ψ = some (ψ.set q (.cells 3 ((arows (compactM l ++ l.drop n) ++ rest).take n ++ List.replicate (l.length - n) zs ++ (arows (compactM l ++ l.drop n) ++ rest).drop (n + (l.length - n))))) := by
            intro zs hzs
            have e1 : ((l.length : Int) - n).toNat = l.length - n := by omega
            unfold aClear
            rw [e1]
            have e2 : ¬ l.length - n = 0 := by omega
            simp only [if_neg e2, hgq]
            rw [if_pos ⟨trivial, trivial, hzs, by simp; omega⟩]
          rw [hcl _ rfl]
          simp only [Option.map_some, stepK_some, aSlice_own_hi]
          rw [if_pos (by omega)]
          simp only [pureR_some, stepK_some, Int.toNat_natCast]
          subst hn
          refine hk _ (List.replicate (l.length - (compactM l).length) [u8 0, int 0, str ByteArray.empty] ++ (arows (compactM l ++ l.drop (compactM l).length) ++ rest).drop ((compactM l).length + (l.length - (compactM l).length))) (by simpa using hnx) (fun j hj => by rw [get_set, if_neg hj]; exact hot j hj) ?_
          rw [get_set, if_pos rfl]
          congr 2
          rw [← List.append_assoc]
          congr 2
          simp only [arows, List.map_append, List.append_assoc]
          rw [List.take_left' (by simp)]
    · simp only [aBin_agg, eqAtom, hab, decide_false, Option.map_some, pureR_some, stepK_some, condK_false]
      rw [if_neg (fun e => hab e.symm)] at htk
      simp
      rw [wrap64 (by omega)]
      refine ⟨⟨i + 1, by simp, by omega, by omega, ?_⟩, by omega⟩
      rw [htk, hc, List.take_add_one, ha]; rfl
  · have hall : l.take i = l := List.take_of_length_le (by omega)
    rw [hall] at hc
    simp [hil]
    have := hk φ rest rfl (fun _ _ => rfl) (by rw [hc]; exact hg)
    rwa [hc] at this
end Go.Abs.Bas
