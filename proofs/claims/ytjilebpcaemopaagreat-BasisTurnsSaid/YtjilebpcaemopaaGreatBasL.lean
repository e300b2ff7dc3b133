/-
  Sorting, and one of each.
-/
import Derived.Test.YtjilebpcaemopaaGreatBasS
import Derived.Test.YtjilebpcaemopaaGreatBasShelf
import Derived.Test.YtjilebpcaemopaaGreatAbsQ
set_option linter.unusedVariables false
set_option linter.unusedSimpArgs false
namespace Go.Abs.Bas
open Go Go.Abs Go.Abs.At Go.Proofs.BasD Go.Proofs Go.RowKit

/-! ### ints -/
abbrev ivals (l : List Int) : List (List Value) := l.map fun i => [.int .i64 i]
abbrev irows (l : List Int) : List (List AV) := l.map fun i => [int i]
theorem irows_v (l : List Int) : irows l = vrow (ivals l) := by simp [vrow]
theorem ivals_len (l : List Int) : ∀ v ∈ ivals l, v.length = 1 := by
  intro v hv; obtain ⟨i, _, rfl⟩ := List.mem_map.1 hv; rfl
theorem ivals_one (l : List Int) : ∀ v ∈ ivals l, ∀ x ∈ v, x.oneCell' = true := by
  intro v hv x hx; obtain ⟨i, _, rfl⟩ := List.mem_map.1 hv; simp at hx; subst hx; rfl
theorem ivals_flat (l : List Int) : (ivals l).flatten = l.map (Value.int .i64) := by
  induction l with
  | nil => rfl
  | cons a l ih => simp only [ivals, List.map_cons, List.flatten_cons] at *; rw [ih]; rfl
theorem holds_int {w : World} {b : Nat} {l : List Int} (h : Sort.Holds (fun v : Value => v) w b 0 (ivals l).flatten.toArray) : Sort.Holds (Value.int .i64) w b 0 l.toArray := by
  rw [ivals_flat] at h
  intro j hj
  have hj' : j < l.length := by simpa using hj
  obtain ⟨h1, h2⟩ := h j (by simpa using hj')
  refine ⟨?_, h2⟩
  rw [h1]
  simp [hj']
theorem putRow_int (w : World) (b : Nat) (l : List Int) : Sort.putRow (Value.int .i64) w b 0 l.toArray = Sort.putRow (fun v : Value => v) w b 0 (ivals l).flatten.toArray := by
  unfold Sort.putRow Sort.putCells
  rw [ivals_flat]
  congr 1
  funext c
  congr 1
  funext k x
  simp only [List.size_toArray, List.length_map]
  split
  · rename_i h
    have hk : k < l.length := by omega
    simp [hk]
  · rfl
theorem callable55 : Callable PR 55 := ⟨_, Tryz.func55, by kernel_rfl, by kernel_rfl⟩
theorem callable56 : Callable PR 56 := ⟨_, Tryz.func56, by kernel_rfl, by kernel_rfl⟩
theorem callable59 : Callable PR 59 := ⟨_, Tryz.func59, by kernel_rfl, by kernel_rfl⟩
theorem callable60 : Callable PR 60 := ⟨_, Tryz.func60, by kernel_rfl, by kernel_rfl⟩
theorem noMore : ∀ c vs, ArgsRel c [] vs → vs = #[] := fun c vs h => Array.eq_empty_of_size_eq_zero h.1.symm

abbrev sortedI (l : List Int) : List Int := l.mergeSort fun x y => decide (x ≤ y)
theorem sortI_nil {x : AV} (hx : x = .val (.slice none 0 0) ∨ ∃ q, x = .own q 0) {σ : AHeap} {k kp : AV → AHeap → Prop} (hk : k (.val (.tuple #[])) σ) : Ev PR 55 [x] σ k kp :=
  Ev.rowNone callable55 noMore hx (ret := fun _ _ => .tuple #[]) (fun w a cap => by rw [Array.append_empty]; exact Any.slices_Sort_int_none Tryz.lays189 a cap w) (fun _ _ _ _ => .val _) hk
theorem sortI_ev {q len : Nat} {l : List Int} {rest : List (List AV)} {σ : AHeap} (hlen : len = l.length) (hg : σ.get q = some (.cells 1 (irows l ++ rest))) (hb : l.length < 1000000000000) {k kp : AV → AHeap → Prop}
    (hk : ∀ τ, τ.next = σ.next → (∀ i, i ≠ q → τ.get i = σ.get i) → τ.get q = some (.cells 1 (irows (sortedI l) ++ rest)) → k (.val (.tuple #[])) τ) : Ev PR 55 [.own q len] σ k kp := by
  rcases Nat.eq_zero_or_pos len with h0 | h0
  · subst h0
    have hl0 : l = [] := List.length_eq_zero_iff.1 hlen.symm
    subst hl0
    exact sortI_nil (.inr ⟨q, rfl⟩) (hk σ rfl (fun _ _ => rfl) (by rw [hg]; simp [sortedI]))
  have hll : (sortedI l).length = l.length := List.length_mergeSort ..
  refine Ev.rerowT callable55 noMore (vals := ivals l) (news := ivals (sortedI l)) (rest := rest) (sz := 1) (by simp [hlen]) h0 (by rw [hg, irows_v]) (by simp [hll]) (ivals_len _) (ivals_one _) (fun w b cap hH hblk hcap => ?_) ?_
  · have := Any.slices_Sort_int Tryz.lays189 b 0 cap l w (holds_int hH) hblk (by omega)
    subst hlen
    rw [Array.append_empty]
    refine (show Calls PR 55 _ w _ from this).mono ?_
    rintro e w' ⟨he, n, os, rfl⟩
    exact ⟨he, n, os, by rw [putRow_int]⟩
  · exact hk _ rfl (fun i hi => by rw [get_set, if_neg hi]) (by rw [get_set, if_pos rfl, irows_v])

theorem compactI_nil {x : AV} (hx : x = .val (.slice none 0 0) ∨ ∃ q, x = .own q 0) {σ : AHeap} {k kp : AV → AHeap → Prop} (hk : k x σ) : Ev PR 56 [x] σ k kp :=
  Ev.rowNone callable56 noMore hx (ret := fun a cap => .slice a 0 cap) (fun w a cap => by rw [Array.append_empty]; exact Any.slices_Compact_int_empty Tryz.laysNm220 a cap w) (fun _ _ _ h => h) hk
theorem compact_le {α : Type} [Inhabited α] [DecidableEq α] (l : List α) : (Lib.compact l).length ≤ l.length := by
  unfold Lib.compact Lib.compactUpTo
  rw [List.length_map]
  exact Nat.le_trans (List.length_filter_le _ _) (by simp)
theorem compactI_ev {q len : Nat} {l : List Int} {rest : List (List AV)} {σ : AHeap} (hlen : len = l.length) (hg : σ.get q = some (.cells 1 (irows l ++ rest))) (hb : l.length < 1000000000000) {k kp : AV → AHeap → Prop}
    (hk : ∀ τ rest', τ.next = σ.next → (∀ i, i ≠ q → τ.get i = σ.get i) → τ.get q = some (.cells 1 (irows (Lib.compact l) ++ rest')) → k (.own q (Lib.compact l).length) τ) : Ev PR 56 [.own q len] σ k kp := by
  rcases Nat.eq_zero_or_pos len with h0 | h0
  · subst h0
    have hl0 : l = [] := List.length_eq_zero_iff.1 hlen.symm
    subst hl0
    exact compactI_nil (.inr ⟨q, rfl⟩) (hk σ rest rfl (fun _ _ => rfl) (by rw [hg]; simp [Lib.compact, Lib.compactUpTo]))
  have hcl := compact_le l
  refine Ev.rerowS callable56 (vals := ivals l) (news := ivals (Lib.compact l ++ List.replicate (l.length - (Lib.compact l).length) 0)) (rest := rest) (sz := 1) (by simp [hlen]) h0 (by rw [hg, irows_v]) (by simp; omega) (ivals_len _) (ivals_one _) (n := (Lib.compact l).length) (by omega) (fun w b cap hH hblk hcap => ?_) ?_
  · have := Any.slices_Compact_int Tryz.laysNm220 b 0 cap l w (holds_int hH) (by omega) (by omega)
    subst hlen
    refine (show Calls PR 56 _ w _ from this).mono ?_
    rintro e w' ⟨he, n, rfl⟩
    exact ⟨he, n, #[], by rw [← putRow_int]; simp⟩
  · refine hk _ (irows (List.replicate (l.length - (Lib.compact l).length) 0) ++ rest) rfl (fun i hi => by rw [get_set, if_neg hi]) ?_
    rw [get_set, if_pos rfl, ← irows_v]
    simp only [irows, List.map_append, List.append_assoc]

theorem keeps_iff {l : List Int} {j : Nat} (hj : j < l.length) : Lib.keeps l.toArray j = true ↔ (j = 0 ∨ l[j]? ≠ l[j - 1]?) := by
  have h1 : j - 1 < l.length := by omega
  simp [Lib.keeps, hj, h1]
/-- Of a rising row one of each: the rising row of what stands in it. -/
theorem compact_setOf {l m : List Int} (hs : l.Pairwise fun a b => a ≤ b) (hm : ∀ x, x ∈ l ↔ x ∈ m) : Lib.compact l = setOf ltI m := by
  have hget : ∀ j, j < l.length → (l.toArray)[j]! = l[j]?.getD 0 := by intro j hj; simp [hj]
  have hs' : ∀ (i j : Nat) (x y : Int), i ≤ j → l[i]? = some x → l[j]? = some y → x ≤ y := by
    intro i j x y hij hx hy
    obtain ⟨h1, rfl⟩ := List.getElem?_eq_some_iff.1 hx
    obtain ⟨h2, rfl⟩ := List.getElem?_eq_some_iff.1 hy
    rcases Nat.lt_or_eq_of_le hij with h | rfl
    · exact List.pairwise_iff_getElem.1 hs i j h1 h2 h
    · exact Int.le_refl _
  refine setOf_unique ltI_ord ?_ fun x => ?_
  · unfold Lib.compact Lib.compactUpTo
    rw [List.pairwise_map]
    refine List.Pairwise.imp_of_mem ?_ ((List.pairwise_lt_range (n := l.length)).filter _)
    intro i j hi hj hij
    obtain ⟨hi1, hi2⟩ := List.mem_filter.1 hi
    obtain ⟨hj1, hj2⟩ := List.mem_filter.1 hj
    rw [List.mem_range] at hi1 hj1
    rw [hget i hi1, hget j hj1]
    rcases (keeps_iff hj1).1 hj2 with h | h
    · omega
    · have hj3 : j - 1 < l.length := by omega
      obtain ⟨x, hx⟩ := get_some hi1
      obtain ⟨y, hy⟩ := get_some hj1
      obtain ⟨z, hz⟩ := get_some hj3
      have h1 := hs' i (j - 1) x z (by omega) hx hz
      have h2 := hs' (j - 1) j z y (by omega) hz hy
      rw [hy, hz] at h
      have : y ≠ z := fun e => h (by rw [e])
      rw [hx, hy]
      simp [ltI]; omega
  · rw [← hm x]
    unfold Lib.compact Lib.compactUpTo
    rw [List.mem_map]
    constructor
    · rintro ⟨j, hj, rfl⟩
      obtain ⟨hj1, _⟩ := List.mem_filter.1 hj
      rw [List.mem_range] at hj1
      simp [hj1]
    · intro hx
      have hex : ∃ j, l[j]? = some x := List.getElem?_of_mem hx
      let p : Nat → Bool := fun j => decide (l[j]? = some x)
      obtain ⟨j0, hj0⟩ := hex
      have key : ∀ (n j : Nat), j ≤ n → l[j]? = some x → ∃ i : Nat, l[i]? = some x ∧ (i = 0 ∨ l[i - 1]? ≠ some x) := by
        intro n
        induction n with
        | zero => intro j hj h; exact ⟨j, h, .inl (by omega)⟩
        | succ n ih =>
          intro j hj h
          by_cases h0 : j = 0
          · exact ⟨j, h, .inl h0⟩
          · by_cases h1 : l[j - 1]? = some x
            · exact ih (j - 1) (by omega) h1
            · exact ⟨j, h, .inr h1⟩
      obtain ⟨i, hi, hk⟩ := key j0 j0 (Nat.le_refl _) hj0
      have hil := (List.getElem?_eq_some_iff.1 hi).1
      refine ⟨i, List.mem_filter.2 ⟨List.mem_range.2 hil, (keeps_iff hil).2 ?_⟩, by rw [hget i hil, hi]; rfl⟩
      rcases hk with h | h
      · exact .inl h
      · exact .inr (by rw [hi]; exact fun e => h e.symm)
theorem compact_sortedI (l : List Int) : Lib.compact (sortedI l) = setOf ltI l := by
  refine compact_setOf ?_ fun x => (List.mergeSort_perm l _).mem_iff
  have := List.pairwise_mergeSort (le := fun x y : Int => decide (x ≤ y)) (fun a b c h1 h2 => by simp at *; omega) (fun a b => by simp; omega) l
  exact this.imp fun h => by simpa using h
end Go.Abs.Bas
