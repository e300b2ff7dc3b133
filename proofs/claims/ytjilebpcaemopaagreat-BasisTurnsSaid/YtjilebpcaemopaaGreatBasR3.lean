/-
  The document's union of two; its names.
-/
import Derived.Test.YtjilebpcaemopaaGreatBasR2
set_option linter.unusedVariables false
set_option linter.unusedSimpArgs false
namespace Go.Abs.Bas
open Go Go.Abs Go.Abs.At Go.Proofs.BasD
attribute [local simp] Nat.add_assoc
variable {σ : AHeap} {k kp : AV → AHeap → Prop}

theorem union2_ev {q : Nat} {x y : AV} {l m : List Atom} (hq : σ.get q = some (.cells 1 [[x], [y]])) (hlt : q < σ.next) (hx : RowG σ 3 x (arows l)) (hy : RowG σ 3 y (arows m)) (hb : l.length + m.length < 1000000000) (hk : k (effV (ofM (l ++ m))) σ) : Ev PR 67 [.own q 2] σ k kp := by
  refine Ev.pure ?_
  apply F67_ev; unfold F67
  simp
  refine seqW_in ?_
  simp
  obtain ⟨g, hg⟩ : ∃ g : List Atom → List Atom, ∀ i, g i = i.foldl (fun s a => putM a s) [] := ⟨_, fun _ => rfl⟩
  have gr : ∀ i, (g i).Pairwise fun a b => lessM a b = true := fun i => by rw [hg]; exact foldl_putM_rising _ List.Pairwise.nil
  have gl : ∀ i, (g i).length ≤ i.length := fun i => by rw [hg]; have := foldl_putM_len i (s := []); simp at this; omega
  have gs : ∀ i a, g (i ++ [a]) = putM a (g i) := fun i a => by rw [hg, hg, List.foldl_append]; rfl
  obtain ⟨pre, hpre⟩ : ∃ pre : Nat → List Atom, pre 0 = [] ∧ pre 1 = l ∧ pre 2 = l ++ m := ⟨fun i => if i = 0 then [] else if i = 1 then l else l ++ m, by simp⟩
  have inner : ∀ (i : Nat) (z0 z : AV) (rows pr nx : List Atom) (φ : AHeap) (kk : Frame → AHeap → Prop) (z1 : AV), i < 2 → [[x], [y]][i]? = some [z0] → RowG σ 3 z0 (arows rows) → pr.length + rows.length < 1000000000 → nx = pr ++ rows → Grows σ φ → RowF σ.next φ 3 z (arows (g pr)) → True := fun _ _ _ _ _ _ _ _ _ _ _ _ _ _ _ _ => trivial
  clear inner
  refine loopW_by (fun p : Nat × AV => [(0, .own q 2), (3, p.2), (8, int 2), (9, int p.1)])
    (fun p φ => p.1 ≤ 2 ∧ Grows σ φ ∧ RowF σ.next φ 3 p.2 (arows (g (pre p.1))))
    (fun fr _ => 2 - (intOf (look fr 9)).toNat) (0, .own σ.next 0) (by simp) ⟨by simp, Grows.new _ _, by rw [hpre.1, hg]; exact RowF.new (Nat.le_refl _)⟩ ?_
  rintro ⟨i, z⟩ φ ⟨hi, hG, hK⟩
  simp only at hi hK
  simp
  by_cases hi2 : i < 2
  · have hd : decide ((i : Int) < 2) = true := by simp; omega
    rw [hd]
    simp only [condK_true]
    obtain ⟨z0, rows, h1, h2, h3, h4⟩ : ∃ (z0 : AV) (rows : List Atom), [[x], [y]][i]? = some [z0] ∧ RowG σ 3 z0 (arows rows) ∧ (pre i).length + rows.length < 1000000000 ∧ pre (i + 1) = pre i ++ rows := by
      rcases Nat.lt_or_ge i 1 with h | h
      · obtain rfl : i = 0 := by omega
        exact ⟨x, l, rfl, hx, by rw [hpre.1]; simp; omega, by rw [hpre.1, hpre.2.1]; rfl⟩
      · obtain rfl : i = 1 := by omega
        exact ⟨y, m, rfl, hy, by rw [hpre.2.1]; omega, by rw [hpre.2.1, hpre.2.2]⟩
    have hidx : ∀ υ, Grows σ υ → aIndexAddr 1 (.own q 2) (int i) υ = some (.ptr q i 0) ∧ aLoad false 1 (.ptr q i 0) υ = some z0 := fun υ g => by
      have e : υ.get q = some (.cells 1 [[x], [y]]) := by rw [g.get q hlt]; exact hq
      constructor
      · rw [aIndexAddr_own, if_pos ⟨by omega, by omega⟩]
        simp only [elAt_eq, e, Int.toNat_natCast, h1, Option.bind_some, List.length_singleton, if_true]
      · simp only [aLoad_ptr, elAt_eq, e, h1, Option.bind_some]; rfl
    refine seqW_by (fun fr υ => ∃ z', fr = [(0, .own q 2), (3, z'), (8, int 2), (9, int i)] ∧ Grows σ υ ∧ RowF σ.next υ 3 z' (arows (g (pre (i + 1))))) ?_ ?_
    · simp only [look_hit, look_miss, ne_eq, Nat.reduceEqDiff, not_false_eq_true]
      refine stepP (hidx φ hG).1 ?_
      refine stepP (hidx φ hG).2 ?_
      simp [(h2.grows hG).lenA]
      refine loopW_by (fun p : Nat × AV => [(0, .own q 2), (3, p.2), (4, int i), (8, int 2), (9, int i), (16, int rows.length), (17, int p.1)])
        (fun p υ => p.1 ≤ rows.length ∧ Grows σ υ ∧ RowF σ.next υ 3 p.2 (arows (g (pre i ++ rows.take p.1))))
        (fun fr _ => rows.length - (intOf (look fr 17)).toNat) (0, z) (by simp) ⟨by simp, hG, by simpa using hK⟩ ?_
      rintro ⟨j, z1⟩ υ ⟨hj, hG1, hK1⟩
      simp only at hj hK1
      simp
      by_cases hjl : j < rows.length
      · obtain ⟨a, ha⟩ := get_some hjl
        obtain ⟨r, r1, r2⟩ := (h2.grows hG1).atA ha .i64
        simp only [hjl, decide_true, condK_true]
        refine stepP (hidx υ hG1).1 ?_
        refine stepP (hidx υ hG1).2 ?_
        refine stepP r1 ?_
        refine stepP r2 ?_
        have := gl (pre i ++ rows.take j)
        simp at this
        refine putL_ev hK1 (gr _) (by omega) fun z2 hz2 => ?_
        rw [wrap64 (by omega)]
        refine ⟨⟨j + 1, z2, ⟨rfl, by simp⟩, by omega, hG1, ?_⟩, by omega⟩
        rw [List.take_add_one, ha, ← List.append_assoc]
        simp only [Option.toList_some]
        rw [gs]; exact hz2
      · rw [List.take_of_length_le (by omega)] at hK1
        simp [hjl]
        exact ⟨hG1, by rw [h4]; exact hK1⟩
    · rintro fr υ ⟨z', rfl, hG1, hK1⟩
      simp
      rw [wrap64 (by omega)]
      exact ⟨⟨i + 1, z', ⟨rfl, by simp⟩, by omega, hG1, hK1⟩, by omega⟩
  · obtain rfl : i = 2 := by omega
    rw [hpre.2.2, hg, putM_all] at hK
    simp
    exact ⟨hG, effV _, hK.frz (arows_dat _), hk⟩

abbrev prows (l : List (Int × Int)) : List (List AV) := l.map fun p => [int p.1, int p.2]
theorem prows_dat (l : List (Int × Int)) : ∀ el ∈ prows l, ∀ x ∈ el, Dat x := by
  intro el hel x hx
  obtain ⟨a, _, rfl⟩ := List.mem_map.1 hel
  simp only [List.mem_cons, List.not_mem_nil, or_false] at hx
  rcases hx with rfl | rfl <;> exact .val _
theorem RowG.atF {sz : Nat} {x : AV} {els : List (List AV)} (h : RowG σ sz x els) {i : Nat} {el : List AV} (he : els[i]? = some el) (hl : el.length = sz) (k : IntKind) :
    ∃ p, aIndexAddr sz x (.val (.int k i)) σ = some p ∧ ∀ o c, el[o]? = some c → ∃ q, aFieldAddr o p = some q ∧ aLoad false 1 q σ = some c := by
  obtain ⟨p, h1, h2⟩ := h.1.at he hl k
  refine ⟨p, h1, fun o c hc => ?_⟩
  obtain ⟨q, h3, h4⟩ := h2.field o
  refine ⟨q, h3, ?_⟩
  rw [h4.load]
  simp only [getCells_one, List.head?_drop, hc]
theorem RowG.lenS {sz x} {els : List (List AV)} (h : RowG σ sz x els) : aLenK .slice x σ = some (int els.length) := h.1.len

theorem nameR_ev {x : AV} {l : List (Int × Int)} {c : Nat} {n : Int} (hx : RowG σ 2 x (prows l)) (hin : ∀ p ∈ l, inB p.1 c = true ∧ inB p.2 c = true) (hc : c < 100000000) (hlb : l.length < 100000000) (hk : k (int (if inB n c then nm l n else -1)) σ) : Ev PR 68 [int n, int c, x] σ k kp := by
  refine Ev.pureD hk ((Dat.val _).low _) fun k' hk' => ?_
  apply F68_ev; unfold F68
  have fin : ∀ v, (if inB n c then nm l n else -1) = v → ∀ φ, Grows σ φ → k' (int v) φ := fun v e φ hφ => by rw [← e]; exact hk' _ hφ
  by_cases h0 : n < 0
  · simp [h0]
    exact fin _ (by rw [if_neg]; simp [inB]; omega) _ (Grows.refl _)
  by_cases h1 : (c : Int) ≤ n
  · simp [h0, h1]
    exact fin _ (by rw [if_neg]; simp [inB]; omega) _ (Grows.refl _)
  have hnin : inB n c = true := inB_iff.2 ⟨by omega, by omega⟩
  simp [h0, h1]
  refine seqW_in ?_
  rw [if_pos hnin] at fin
  obtain ⟨Q, hQ⟩ : ∃ Q : List Int → Prop, ∀ ms, Q ms ↔ ms.Nodup ∧ ∀ m ∈ ms, inB m c = true ∧ nm l m = nm l n := ⟨_, fun _ => Iff.rfl⟩
  obtain ⟨C, hC⟩ : ∃ C : List (Int × Int) → Int → List Int → Prop, ∀ l v ms, C l v ms ↔ ∀ pp ∈ l, (pp.1 = v → pp.2 ∈ ms) ∧ (pp.2 = v → pp.1 ∈ ms) := ⟨_, fun _ _ _ => Iff.rfl⟩
  have Qle : ∀ ms, Q ms → ms.length ≤ c := fun ms h => nodup_le c ms ((hQ ms).1 h).1 fun x hx => inB_iff.1 (((hQ ms).1 h).2 x hx).1
  have Qadd : ∀ ms m, Q ms → m ∉ ms → inB m c = true → nm l m = nm l n → Q (ms ++ [m]) := fun ms m h h1 h2 h3 => (hQ _).2 ⟨by
      rw [List.nodup_append]
      refine ⟨((hQ ms).1 h).1, by simp, fun a ha b hb => ?_⟩
      simp at hb; subst hb
      rintro rfl; exact h1 ha, fun a ha => by
      rcases List.mem_append.1 ha with ha | ha
      · exact ((hQ ms).1 h).2 a ha
      · simp at ha; subst ha; exact ⟨h2, h3⟩⟩
  have hlen : ∀ φ, Grows σ φ → aLenK .slice x φ = some (int l.length) := fun φ g => by have := (hx.grows g).lenS; simpa using this
  refine loopW_by (fun p : Nat × AV × Int => [(2, x), (7, p.2.1), (8, int p.2.2), (9, int p.1)])
    (fun p φ => Grows σ φ ∧ ∃ ms, Kid σ.next 0 1 φ p.2.1 (irows ms) ∧ p.1 ≤ ms.length ∧ Q ms ∧ n ∈ ms ∧ p.2.2 ∈ ms ∧ (∀ j m, j < p.1 → ms[j]? = some m → p.2.2 ≤ m) ∧
      ∀ j m, j < p.1 → ms[j]? = some m → C l m ms)
    (fun fr _ => c - (intOf (look fr 9)).toNat) (0, .own σ.next 1, n) (by simp) ⟨Grows.new _ _, [n], .inr ⟨σ.next, [], by simp, by simp [get_new], by simp, by simp⟩, by simp, (hQ _).2 ⟨by simp, by simp [hnin]⟩, by simp, by simp, by simp, by simp⟩ ?_
  rintro ⟨i, mv, least⟩ φ ⟨hG, ms, hK, hi, hq, hn, hl, hmin, hcl⟩
  simp only at hK hi hl hmin hcl
  have hmc := Qle ms hq
  simp [(Kid.rowG hK).lenI]
  by_cases hil : i < ms.length
  · obtain ⟨v, hv⟩ := get_some hil
    have hvm := List.mem_of_getElem? hv
    have hnv := (((hQ ms).1 hq).2 v hvm).2
    simp only [hil, decide_true, condK_true]
    refine seqW_by (fun fr υ => ∃ z, fr = [(2, x), (7, z), (8, int (min least v)), (9, int i)] ∧ Grows σ υ ∧ ∃ ext, Kid σ.next 0 1 υ z (irows (ms ++ ext)) ∧ Q (ms ++ ext) ∧ C l v (ms ++ ext)) ?_ ?_
    · refine seqW_by (fun fr υ => fr = [(2, x), (7, mv), (8, int (min least v)), (9, int i)] ∧ υ = φ) ?_ ?_
      · obtain ⟨r, r1, r2⟩ := (Kid.rowG hK).at hv .i64
        simp only [look_hit, look_miss, ne_eq, Nat.reduceEqDiff, not_false_eq_true]
        refine stepP r1 ?_
        refine stepP r2 ?_
        by_cases hvl : v < least
        · simp [hvl, r1, r2]; omega
        · simp [hvl, r1, r2]; omega
      · rintro fr υ ⟨rfl, rfl⟩
        simp [hlen _ hG]
        refine loopW_by (fun p : Nat × AV => [(2, x), (7, p.2), (8, int (min least v)), (9, int i), (38, int l.length), (39, int p.1)])
          (fun p ψ => p.1 ≤ l.length ∧ Grows σ ψ ∧ ∃ ext, Kid σ.next 0 1 ψ p.2 (irows (ms ++ ext)) ∧ Q (ms ++ ext) ∧ C (l.take p.1) v (ms ++ ext))
          (fun fr _ => l.length - (intOf (look fr 39)).toNat) (0, mv) (by simp) ⟨by simp, hG, [], by simpa using hK, by simpa using hq, by rw [hC]; simp⟩ ?_
        rintro ⟨j, z⟩ ψ ⟨hj, hG1, ext, hK1, hq1, hcl1⟩
        simp only at hj hK1 hcl1
        simp
        have atv : ∀ (z : AV) (ω : AHeap) (ext : List Int), Kid σ.next 0 1 ω z (irows (ms ++ ext)) → ∃ r, aIndexAddr 1 z (int i) ω = some r ∧ aLoad false 1 r ω = some (int v) := fun z ω ext h => (Kid.rowG h).at (by rw [List.getElem?_append_left hil]; exact hv) .i64
        by_cases hjl : j < l.length
        · obtain ⟨pp, hpp⟩ := get_some hjl
          have hpm := List.mem_of_getElem? hpp
          have hpn := nm_pair hpm
          have hpc := hin pp hpm
          simp only [hjl, decide_true, condK_true]
          have pr : ∀ ω, Grows σ ω → ∃ p p0 p1, aIndexAddr 2 x (int j) ω = some p ∧ aFieldAddr 0 p = some p0 ∧ aLoad false 1 p0 ω = some (int pp.1) ∧ aFieldAddr 1 p = some p1 ∧ aLoad false 1 p1 ω = some (int pp.2) := fun ω g => by
            obtain ⟨p, a1, a2⟩ := (hx.grows g).atF (i := j) (el := [int pp.1, int pp.2]) (by simp [hpp]) rfl .i64
            obtain ⟨p0, b1, b2⟩ := a2 0 _ rfl
            obtain ⟨p1, c1, c2⟩ := a2 1 _ rfl
            exact ⟨p, p0, p1, a1, b1, b2, c1, c2⟩
          have grow : ∀ (ω υ : AHeap) (z : AV) rows, Grows σ ω → Kid σ.next 0 1 ω z rows → ω.next ≤ υ.next → (∀ j, (∀ m, z ≠ .own j m) → j < ω.next → υ.get j = ω.get j) → Grows σ υ := fun ω υ z rows g hK h2 h1 =>
            ⟨Nat.le_trans g.next h2, fun j hj => by
              rw [h1 j (fun m e => ?_) (Nat.lt_of_lt_of_le hj g.next)]
              · exact g.get j hj
              · rcases hK with ⟨h, _⟩ | ⟨q, rest, h, _, h3, _⟩ <;> rw [h] at e <;> cases e
                omega⟩
          refine seqW_by (fun fr ω => ∃ z', fr = [(2, x), (7, z'), (8, int (min least v)), (9, int i), (38, int l.length), (39, int j)] ∧ Grows σ ω ∧ ∃ ext', Kid σ.next 0 1 ω z' (irows (ms ++ ext')) ∧ Q (ms ++ ext') ∧ (∀ m ∈ ms ++ ext, m ∈ ms ++ ext') ∧ (pp.1 = v → pp.2 ∈ ms ++ ext') ∧ (pp.2 = v → pp.1 ∈ ms ++ ext')) ?_ ?_
          · refine seqW_by (fun fr ω => ∃ z', fr = [(2, x), (7, z'), (8, int (min least v)), (9, int i), (10, int j), (38, int l.length), (39, int j)] ∧ Grows σ ω ∧ ∃ ext', Kid σ.next 0 1 ω z' (irows (ms ++ ext')) ∧ Q (ms ++ ext') ∧ (∀ m ∈ ms ++ ext, m ∈ ms ++ ext') ∧ (pp.1 = v → pp.2 ∈ ms ++ ext')) ?_ ?_
            · obtain ⟨p, p0, p1, a1, a2, a3, a4, a5⟩ := pr ψ hG1
              obtain ⟨r, r1, r2⟩ := atv z ψ ext hK1
              simp only [look_hit, look_miss, ne_eq, Nat.reduceEqDiff, not_false_eq_true]
              refine stepP a1 ?_
              refine stepP a2 ?_
              refine stepP a3 ?_
              refine stepP r1 ?_
              refine stepP r2 ?_
              by_cases h5 : pp.1 = v
              · simp only [aBin_eql, h5, decide_true, pureR_some, stepK_some, gK_tt, gK_ff]
                refine stepP a1 ?_
                refine stepP a4 ?_
                refine stepP a5 ?_
                refine ints_ev (l := ms ++ ext) (by have := Qle _ hq1; omega) (by simpa [irows] using hK1.rows) ?_
                by_cases h6 : pp.2 ∈ ms ++ ext
                · rw [decide_eq_true h6]
                  simp only [aNot_bool, Bool.not_true, pureR_some, stepK_some, aPick_some, cond_true, condK_false]
                  exact ⟨z, rfl, hG1, ext, hK1, hq1, fun _ h => h, fun _ => h6⟩
                · rw [decide_eq_false h6]
                  simp only [aNot_bool, Bool.not_false, pureR_some, stepK_some, aPick_some, cond_true, condK_true]
                  refine stepP a1 ?_
                  refine stepP a4 ?_
                  refine stepP a5 ?_
                  have := Qle _ hq1
                  refine stepK_of (bs_int pp.2 ψ) (addRow 8 [int pp.2] hK1 hG1.next (by simp at this ⊢; omega) fun z' ω t1 t2 t3 t4 => ?_)
                  refine ⟨z', rfl, grow _ _ _ _ hG1 hK1 t1 t2, ext ++ [pp.2], by simpa [irows] using t3, by rw [← List.append_assoc]; exact Qadd _ _ hq1 h6 hpc.2 (by rw [← hpn, h5, hnv]), fun m hm => by rw [← List.append_assoc]; exact List.mem_append_left _ hm, fun _ => by simp⟩
              · simp only [aBin_eql, h5, decide_false, pureR_some, stepK_some, gK_tf, gK_ft, aPick_some, cond_false, condK_false]
                exact ⟨z, rfl, hG1, ext, hK1, hq1, fun _ h => h, fun h => h.elim⟩
            · rintro fr ω ⟨z', rfl, hG2, ext2, hK2, hq2, hsub, hc1⟩
              obtain ⟨p, p0, p1, a1, a2, a3, a4, a5⟩ := pr ω hG2
              obtain ⟨r, r1, r2⟩ := atv z' ω ext2 hK2
              simp only [look_hit, look_miss, ne_eq, Nat.reduceEqDiff, not_false_eq_true]
              refine stepP a1 ?_
              refine stepP a4 ?_
              refine stepP a5 ?_
              refine stepP r1 ?_
              refine stepP r2 ?_
              by_cases h5 : pp.2 = v
              · simp only [aBin_eql, h5, decide_true, pureR_some, stepK_some, gK_tt, gK_ff]
                refine stepP a1 ?_
                refine stepP a2 ?_
                refine stepP a3 ?_
                refine ints_ev (l := ms ++ ext2) (by have := Qle _ hq2; omega) (by simpa [irows] using hK2.rows) ?_
                by_cases h6 : pp.1 ∈ ms ++ ext2
                · rw [decide_eq_true h6]
                  simp only [aNot_bool, Bool.not_true, pureR_some, stepK_some, aPick_some, cond_true, condK_false]
                  exact ⟨z', rfl, hG2, ext2, hK2, hq2, hsub, h5 ▸ hc1, fun _ => h6⟩
                · rw [decide_eq_false h6]
                  simp only [aNot_bool, Bool.not_false, pureR_some, stepK_some, aPick_some, cond_true, condK_true]
                  refine stepP a1 ?_
                  refine stepP a2 ?_
                  refine stepP a3 ?_
                  have := Qle _ hq2
                  refine stepK_of (bs_int pp.1 ω) (addRow 8 [int pp.1] hK2 hG2.next (by simp at this ⊢; omega) fun z3 ω' t1 t2 t3 t4 => ?_)
                  refine ⟨z3, rfl, grow _ _ _ _ hG2 hK2 t1 t2, ext2 ++ [pp.1], by simpa [irows] using t3, by rw [← List.append_assoc]; exact Qadd _ _ hq2 h6 hpc.1 (by rw [hpn, h5, hnv]), fun m hm => by rw [← List.append_assoc]; exact List.mem_append_left _ (hsub m hm), fun h => by rw [← List.append_assoc]; exact List.mem_append_left _ (h5 ▸ hc1 h), fun _ => by simp⟩
              · simp only [aBin_eql, h5, decide_false, pureR_some, stepK_some, gK_tf, gK_ft, aPick_some, cond_false, condK_false]
                exact ⟨z', rfl, hG2, ext2, hK2, hq2, hsub, hc1, fun h => h.elim⟩
          · rintro fr ω ⟨z', rfl, hG2, ext2, hK2, hq2, hsub, hc1, hc2⟩
            simp
            rw [wrap64 (by omega)]
            refine ⟨⟨j + 1, z', ⟨rfl, by simp⟩, by omega, hG2, ext2, by simpa [irows] using hK2, hq2, (hC _ _ _).2 fun p2 hp2 => ?_⟩, by omega⟩
            rw [hC] at hcl1
            rw [List.take_add_one, hpp] at hp2
            rcases List.mem_append.1 hp2 with hp2 | hp2
            · exact ⟨fun h => hsub _ ((hcl1 p2 hp2).1 h), fun h => hsub _ ((hcl1 p2 hp2).2 h)⟩
            · simp at hp2; subst hp2; exact ⟨hc1, hc2⟩
        · rw [List.take_of_length_le (by omega)] at hcl1
          simp only [hjl, decide_false, condK_false]
          exact ⟨hG1, ext, by simpa [irows] using hK1, hq1, hcl1⟩
    · rintro fr υ ⟨z, rfl, hG1, ext, hK1, hq1, hcl1⟩
      simp
      rw [wrap64 (by have := Qle _ hq1; simp at this; omega)]
      have hget : ∀ j m, j < i + 1 → (ms ++ ext)[j]? = some m → ms[j]? = some m := fun j m h1 h2 => by rwa [List.getElem?_append_left (by omega)] at h2
      have hlv : min least v ∈ ms := by
        rcases Int.le_total least v with h | h
        · rw [Int.min_eq_left h]; exact hl
        · rw [Int.min_eq_right h]; exact hvm
      refine ⟨⟨i + 1, z, min least v, ⟨rfl, rfl, by simp⟩, hG1, ms ++ ext, by simpa [irows] using hK1, by simp; omega, hq1, List.mem_append_left _ hn, List.mem_append_left _ hlv, fun j m h1 h2 => ?_, fun j m h1 h2 => ?_⟩, by omega⟩
      · have h3 := hget j m h1 h2
        by_cases h4 : j < i
        · have := hmin j m h4 h3; omega
        · obtain rfl : j = i := by omega
          rw [hv] at h3; cases h3; omega
      · have h3 := hget j m h1 h2
        by_cases h4 : j < i
        · have h5 := hcl j m h4 h3
          rw [hC] at h5
          exact (hC _ _ _).2 fun pp hpp => ⟨fun h => List.mem_append_left _ ((h5 pp hpp).1 h), fun h => List.mem_append_left _ ((h5 pp hpp).2 h)⟩
        · obtain rfl : j = i := by omega
          rw [hv] at h3; cases h3; exact hcl1
  · have hie : i = ms.length := by omega
    simp only [hil, decide_false, condK_false]
    refine fin _ ?_ _ hG
    have hmem : ∀ m, m ∈ ms → least ≤ m ∧ ∀ pp ∈ l, (pp.1 = m → pp.2 ∈ ms) ∧ (pp.2 = m → pp.1 ∈ ms) := fun m hm => by
      obtain ⟨j, hj⟩ := List.getElem?_of_mem hm
      have hjl := (List.getElem?_eq_some_iff.1 hj).1
      exact ⟨hmin j m (by omega) hj, (hC _ _ _).1 (hcl j m (by omega) hj)⟩
    have h7 : nm l n ∈ ms := (nm_closed (S := fun m => m ∈ ms) (fun pp hpp => ⟨fun h => ((hmem _ h).2 pp hpp).1 rfl, fun h => ((hmem _ h).2 pp hpp).2 rfl⟩) n).1 hn
    have h8 := (hmem _ h7).1
    have h9 := (((hQ ms).1 hq).2 least hl).2
    have h10 := nm_le l least
    omega
end Go.Abs.Bas
