/-
  What comes of effect variables.
-/
import Derived.Test.YtjilebpcaemopaaGreatBasC
set_option linter.unusedVariables false
set_option linter.unusedSimpArgs false
namespace Go.Abs.Bas
open Go Go.Abs Go.Abs.At Go.Proofs.BasD
attribute [local simp] Nat.add_assoc
variable {σ : AHeap} {id : Nat} {b : B} {F : Nat → Prop} {k kp : AV → AHeap → Prop}

theorem nodup_le : ∀ (c : Nat) (l : List Int), l.Nodup → (∀ x ∈ l, 0 ≤ x ∧ x < c) → l.length ≤ c
  | 0, l, _, h => by
    cases l with
    | nil => simp
    | cons a l => have := h a (by simp); omega
  | c + 1, l, hn, h => by
    by_cases hc : (c : Int) ∈ l
    · obtain ⟨s, t, rfl⟩ := List.append_of_mem hc
      rw [List.nodup_append] at hn
      obtain ⟨h1, h2, h3⟩ := hn
      rw [List.nodup_cons] at h2
      have := nodup_le c (s ++ t) (List.nodup_append.2 ⟨h1, h2.2, fun a ha d hd => h3 a ha d (by simp [hd])⟩) fun x hx => by
        have hx' : x ∈ s ++ (c : Int) :: t := by
          rcases List.mem_append.1 hx with hx | hx <;> simp [hx]
        have hne : x ≠ c := by
          rintro rfl
          rcases List.mem_append.1 hx with hx | hx
          · exact h3 _ hx _ (by simp) rfl
          · exact h2.1 hx
        have := h x hx'
        omega
      simp at this ⊢; omega
    · have := nodup_le c l hn fun x hx => by
        have h1 := h x hx
        have : x ≠ c := fun e => hc (e ▸ hx)
        omega
      omega

theorem containsI_ev {x : AV} {l : List Int} {n : Int} (hx : RowG σ 1 x (irows l)) (hb : l.length < 1000000000000) (hk : k (bool (decide (n ∈ l))) σ) : Ev PR 36 [x, int n] σ k kp := by
  apply F36_ev; unfold F36
  apply F57_ev; unfold F57
  refine seqW_in ?_
  simp [hx.lenI]
  have fin : ∀ v, decide (n ∈ l) = v → k (bool v) σ := fun v e => by rw [← e]; exact hk
  refine loopW_by (fun i : Nat => [(0, x), (1, int n), (7, int l.length), (8, int i)]) (fun i φ => φ = σ ∧ i ≤ l.length ∧ n ∉ l.take i) (fun fr _ => l.length - (intOf (look fr 8)).toNat) 0 (by simp) ⟨rfl, by simp, by simp⟩ ?_
  rintro i φ ⟨rfl, hi, hne⟩
  simp
  by_cases hil : i < l.length
  · obtain ⟨m, hm⟩ := get_some hil
    obtain ⟨r, h1, h2⟩ := hx.at hm .i64
    simp [hil, h1, h2]
    by_cases hnm : n = m
    · subst hnm
      simp
      exact fin true (by simpa using List.mem_of_getElem? hm)
    · simp [hnm]
      rw [wrap64 (by omega)]
      refine ⟨⟨i + 1, by simp, by omega, fun h => ?_⟩, by omega⟩
      rw [List.take_add_one, hm] at h
      rcases List.mem_append.1 h with h | h
      · exact hne h
      · simp at h; exact hnm h
  · rw [List.take_of_length_le (by omega)] at hne
    simp [hil]
    exact fin false (by simpa using hne)

/-- A row that grows beside another one. -/
theorem Kid.beside {n sz sz' υ x rows y rows'} (hx : Kid n 0 sz υ x rows) (hy : Kid n 0 sz' υ y rows') (hne : sz ≠ sz') (hn : n ≤ υ.next) (els : List (List AV)) :
    Kid n 0 sz' ((gone x υ).new (.cells sz (rows ++ els))) y rows' := by
  rcases hy with h | ⟨q, rest, h1, h2, h3, h4⟩
  · exact .inl h
  · refine .inr ⟨q, rest, h1, ?_, h3, by simp; omega⟩
    rw [get_new, gone_next, if_neg (by omega)]
    exact (Kid.other hx hne h2).trans h2

theorem ins_len {α : Type} [DecidableEq α] (lt : α → α → Bool) (a : α) : ∀ l : List α, (ins lt a l).length ≤ l.length + 1
  | [] => by simp [ins]
  | b :: l => by
    have := ins_len lt a l
    unfold ins
    split
    · simp
    · split
      · simp
      · simp; omega
theorem foldl_ins_len {α : Type} [DecidableEq α] (lt : α → α → Bool) : ∀ l s : List α, (l.foldl (fun s a => ins lt a s) s).length ≤ l.length + s.length
  | [], s => by simp
  | a :: l, s => by
    have h1 := foldl_ins_len lt l (ins lt a s)
    have h2 := ins_len lt a s
    simp only [List.foldl_cons, List.length_cons]; omega
theorem setOf_len {α : Type} [DecidableEq α] (lt : α → α → Bool) (l : List α) : (setOf lt l).length ≤ l.length := by
  have := foldl_ins_len lt l []
  simpa [setOf] using this
theorem has_len (hs : Small b) (v : Int) : (b.has v).1.length ≤ 100000 ∧ (b.has v).2.length ≤ 100000 := by
  unfold B.has
  split
  · have h1 := setOf_len lessM (b.atomsOf v)
    have h2 := setOf_len ltI (b.varsOf v)
    have h3 := hs.atoms v
    have h4 := hs.varsL v
    simp only [B.atomsOf, B.varsOf, List.length_map] at h1 h2
    constructor
    · show (setOf lessM (b.atomsOf v)).length ≤ _
      simp only [B.atomsOf]; omega
    · show (setOf ltI (b.varsOf v)).length ≤ _
      simp only [B.varsOf]; omega
  · simp
theorem has_mem (hs : Small b) {v : Int} (hv : inB v b.vars = true) : (∀ a, a ∈ (b.has v).1 ↔ a ∈ b.atomsOf v) ∧ ∀ x, x ∈ (b.has v).2 ↔ x ∈ b.varsOf v := by
  simp only [B.has, if_pos hv]
  exact ⟨fun a => mem_setOf _ _ _, fun x => mem_setOf _ _ _⟩
theorem atom_ok (hs : Small b) {v : Int} {a : Atom} (ha : a ∈ b.atomsOf v) : atomM a = true := by
  have h1 := ofM_ren hs v
  have h2 : a ∈ setOf lessM (b.atomsOf v) := (mem_setOf _ _ _).2 ha
  rw [← h1] at h2
  unfold ofM at h2
  rw [mem_setOf] at h2
  exact (List.mem_filter.1 h2).2

theorem comes_ev (h : Bs σ id b F) (hs : Small b) {y : AV} {l : List Int} (hr : RowG σ 1 y (irows l)) (hl : l.length < 1000000) (hk : ∀ M, b.Comes l M → k (.tup [effV (b.comesA M), rhosV M]) σ) : Ev PR 14 [.ptr id 0 0, y] σ k kp := by
  refine Ev.pure ?_
  have hBs := h
  obtain ⟨s, ⟨rv, vv, hv, hB, _⟩, hR⟩ := h
  apply F14_ev; unfold F14
  simp
  refine names_evK hB.fvV hR.v hr (by omega) fun z0 τ0 hG0 hK0 => ?_
  generalize hset : setOf ltI ((l.filter fun n => inB n s.vup.length).map (nm b.V)) = set0 at hK0
  have hset0 : ∀ x, x ∈ set0 ↔ ∃ n ∈ l, inB n b.vars = true ∧ nm b.V n = x := by
    intro x
    rw [← hset, mem_setOf]
    simp only [List.mem_map, List.mem_filter, hR.vl]
    constructor
    · rintro ⟨n, ⟨h1, h2⟩, h3⟩; exact ⟨n, h1, h2, h3⟩
    · rintro ⟨n, h1, h2, h3⟩; exact ⟨n, ⟨h1, h2⟩, h3⟩
  have hnd0 : set0.Nodup := by rw [← hset]; exact setOf_nodup ltI_ord _
  have hreach0 : ∀ x ∈ set0, b.Reach l x := fun x hx => by
    obtain ⟨n, h1, h2, rfl⟩ := (hset0 x).1 hx
    exact .start h1 h2
  have hbound : ∀ ms : List Int, ms.Nodup → (∀ x ∈ ms, b.Reach l x) → ms.length ≤ 1000 := fun ms h1 h2 =>
    Nat.le_trans (nodup_le b.vars ms h1 fun x hx => inB_iff.1 (hs.ok.reachIn (h2 x hx)).1) hs.vars
  clear hset
  refine seqW_in ?_
  refine loopW_by (fun q : Nat × AV × AV => [(0, .ptr id 0 0), (6, q.2.1), (7, q.2.2), (8, int q.1)])
    (fun q φ => Grows σ φ ∧ ∃ ms ax, Kid σ.next 0 1 φ q.2.1 (irows ms) ∧ Kid σ.next 0 3 φ q.2.2 (arows ax) ∧ q.1 ≤ ms.length ∧ ms.Nodup ∧ (∀ x ∈ ms, b.Reach l x) ∧ (∀ x ∈ set0, x ∈ ms) ∧
      (∀ (j : Nat) v, j < q.1 → ms[j]? = some v → ∀ x ∈ b.varsOf v, x ∈ ms) ∧ (∀ a, a ∈ ax ↔ ∃ (j : Nat) (v : Int), j < q.1 ∧ ms[j]? = some v ∧ a ∈ b.atomsOf v) ∧ ax.length ≤ q.1 * 100000)
    (fun fr _ => 1000 - (intOf (look fr 8)).toNat) (0, z0, nilS) (by simp) ⟨hG0, set0, [], hK0, .inl ⟨rfl, rfl⟩, by simp, hnd0, hreach0, fun x hx => hx, by simp, by simp, by simp⟩ ?_
  rintro ⟨i, mv, av⟩ φ ⟨hG, ms, ax, hK1, hK3, hi, hnd, hre, h0, hcl, has', hal⟩
  simp only at hK1 hK3 hi hcl has' hal
  have hml := hbound ms hnd hre
  have hlen1 : aLenK .slice mv φ = some (int ms.length) := (Kid.rowG hK1).lenI
  simp [hlen1]
  have hσφ := hG.next
  by_cases hil : i < ms.length
  · obtain ⟨v, hv'⟩ := get_some hil
    obtain ⟨r, r1, r2⟩ := (Kid.rowG hK1).at hv' .i64
    have hvr := hs.ok.reachIn (hre v (List.mem_of_getElem? hv'))
    obtain ⟨hm1, hm2⟩ := has_mem hs hvr.1
    obtain ⟨hn1, hn2⟩ := has_len hs v
    simp only [hil, decide_true, condK_true]
    refine seqW_in ?_
    refine stepP r1 ?_
    refine stepP r2 ?_
    refine has_ev (hBs.grows hG) hs ?_
    simp
    refine stepK_of (aAppend_rows (by' := 32) hK3.rows hK3.ns (ys := arows (b.has v).1) (.inr (.inl ⟨false, rfl⟩)) (by simp; omega)) ?_
    obtain ⟨p1, p2, p3⟩ := hK3.app (by simp; omega) (arows (b.has v).1)
    have hK1' := Kid.beside hK3 hK1 (by decide) hσφ (arows (b.has v).1)
    generalize hυ : (gone av φ).new (.cells 3 (arows ax ++ arows (b.has v).1)) = υ at p1 p2 p3 hK1'
    have hGυ : Grows σ υ := ⟨by omega, fun j hj => by rw [p2 j (by omega)]; exact hG.get j hj⟩
    clear hυ
    simp
    have hK3' : Kid σ.next 0 3 υ (.own φ.next (ax.length + (b.has v).1.length)) (arows (ax ++ (b.has v).1)) := by
      have e : arows (ax ++ (b.has v).1) = arows ax ++ arows (b.has v).1 := by simp [arows]
      rw [e]
      simpa using p1
    generalize (AV.own φ.next (ax.length + (b.has v).1.length)) = av' at hK3'
    clear p1
    obtain ⟨ay, hay⟩ : ∃ ay, ay = ax ++ (b.has v).1 := ⟨_, rfl⟩
    rw [← hay] at hK3'
    refine stepP (RowG.rhos (b.has v).2).lenI ?_
    refine loopW_by (fun q : Nat × AV => [(0, .ptr id 0 0), (6, q.2), (7, av'), (8, int i), (38, rhosV (b.has v).2), (39, int (b.has v).2.length), (40, int q.1)])
      (fun q ψ => Grows σ ψ ∧ q.1 ≤ (b.has v).2.length ∧ Kid σ.next 0 3 ψ av' (arows ay) ∧ ∃ ext, Kid σ.next 0 1 ψ q.2 (irows (ms ++ ext)) ∧ (ms ++ ext).Nodup ∧ (∀ x ∈ ms ++ ext, b.Reach l x) ∧ ∀ x ∈ (b.has v).2.take q.1, x ∈ ms ++ ext)
      (fun fr _ => (b.has v).2.length - (intOf (look fr 40)).toNat) (0, mv) (by simp) ⟨hGυ, by simp, hK3', [], by simpa using hK1', by simpa using hnd, by simpa using hre, by simp⟩ ?_
    rintro ⟨t, mv'⟩ ψ ⟨hGψ, ht, hK3ψ, ext, hK1ψ, hndψ, hreψ, htk⟩
    simp only at ht hK1ψ htk
    have hmlψ := hbound _ hndψ hreψ
    have hσψ := hGψ.next
    simp
    by_cases htl : t < (b.has v).2.length
    · obtain ⟨x, hx⟩ := get_some htl
      obtain ⟨r', r1', r2'⟩ := (RowG.rhos (σ := ψ) (b.has v).2).at hx .i64
      have hxr : b.Reach l x := .step (hre v (List.mem_of_getElem? hv')) ((hm2 x).1 (List.mem_of_getElem? hx))
      simp only [htl, decide_true, condK_true]
      refine seqW_in ?_
      refine stepP r1' ?_
      refine stepP r2' ?_
      refine containsI_ev (Kid.rowG hK1ψ) (by omega) ?_
      have htk1 : (b.has v).2.take (t + 1) = (b.has v).2.take t ++ [x] := by rw [List.take_add_one, hx]; rfl
      by_cases hxm : x ∈ ms ++ ext
      · simp [List.mem_append.1 hxm]
        rw [wrap64 (by omega)]
        refine ⟨⟨t + 1, _, ⟨rfl, by simp⟩, hGψ, by omega, hK3ψ, ext, by simpa [irows] using hK1ψ, by simpa using hndψ, by simpa using hreψ, fun w hw => ?_⟩, by omega⟩
        rw [htk1] at hw
        rcases List.mem_append.1 hw with hw | hw
        · exact List.mem_append.1 (htk w hw)
        · simp at hw; subst hw; exact List.mem_append.1 hxm
      · have hxm' : ¬ (x ∈ ms ∨ x ∈ ext) := fun hh => hxm (List.mem_append.2 hh)
        simp [hxm']
        have hKa := hK1ψ.grows (Grows.new ψ (.cells 1 [[int x]]))
        have hKb := hK3ψ.grows (Grows.new ψ (.cells 1 [[int x]]))
        refine stepK_of (aAppend_rows (by' := 8) hKa.rows hKa.ns (ys := [[int x]]) (.inr (.inr ⟨ψ.next, [], rfl, by simp [get_new]⟩)) (by simp at hmlψ ⊢; omega)) ?_
        obtain ⟨p1, q2, q3⟩ := hKa.push (by simp; omega) [int x]
        have hKc := Kid.beside hKa hKb (by decide) (by simp; omega) [[int x]]
        generalize hω : (gone mv' (ψ.new (.cells 1 [[int x]]))).new (.cells 1 (irows (ms ++ ext) ++ [[int x]])) = ω at p1 q2 q3 hKc
        simp at q3
        have hGω : Grows σ ω := ⟨by omega, fun j hj => by rw [q2 j (by omega), AHeap.new_ne (by omega)]; exact hGψ.get j hj⟩
        clear hω
        simp
        rw [wrap64 (by omega)]
        refine ⟨⟨t + 1, _, ⟨rfl, by simp⟩, hGω, by omega, hKc, ext ++ [x], ?_, ?_, ?_, fun w hw => ?_⟩, by omega⟩
        · simpa [irows] using p1
        · rw [← List.append_assoc, List.nodup_append]
          exact ⟨hndψ, by simp, fun a ha d hd => by simp at hd; subst hd; rintro rfl; exact hxm ha⟩
        · intro w hw
          rcases List.mem_append.1 (by simpa using hw : w ∈ (ms ++ ext) ++ [x]) with hw | hw
          · exact hreψ w hw
          · simp at hw; subst hw; exact hxr
        · rw [htk1] at hw
          rcases List.mem_append.1 hw with hw | hw
          · rcases List.mem_append.1 (htk w hw) with h1 | h1 <;> simp [h1]
          · simp at hw; subst hw; simp
    · rw [List.take_of_length_le (by omega)] at htk
      simp only [htl, decide_false, condK_false]
      subst hay
      rw [wrap64 (by omega)]
      refine ⟨⟨i + 1, _, _, ⟨rfl, rfl, by simp⟩, hGψ, ms ++ ext, hK1ψ, ax ++ (b.has v).1, hK3ψ, by simp; omega, hndψ, hreψ, fun x hx => by simp [h0 x hx], ?_, ?_, by simp; omega⟩, by omega⟩
      · intro j w hj hw x hx
        rw [List.getElem?_append_left (by omega)] at hw
        by_cases hji : j < i
        · simp [hcl j w hji hw x hx]
        · obtain rfl : j = i := by omega
          rw [hv'] at hw; cases hw
          exact htk x ((hm2 x).2 hx)
      · intro a
        rw [List.mem_append, has']
        constructor
        · rintro (⟨j, w, h1, h2, h3⟩ | h1)
          · exact ⟨j, by omega, w, by rw [List.getElem?_append_left (by omega)]; exact h2, h3⟩
          · exact ⟨i, by omega, v, by rw [List.getElem?_append_left hil]; exact hv', (hm1 a).1 h1⟩
        · rintro ⟨j, h1, w, h2, h3⟩
          rw [List.getElem?_append_left (by omega)] at h2
          by_cases hji : j < i
          · exact .inl ⟨j, w, hji, h2, h3⟩
          · obtain rfl : j = i := by omega
            rw [hv'] at h2; cases h2
            exact .inr ((hm1 a).2 h3)
  · obtain rfl : i = ms.length := by omega
    simp only [hil, decide_false, condK_false]
    refine of_ev (Kid.rowG hK3) (by omega) ?_
    refine names_ev (hB.fvV.grows hG) hR.v (Kid.rowG hK1) (by omega) ?_
    have hM : b.Comes l (setOf ltI ((ms.filter fun n => inB n s.vup.length).map (nm b.V))) := by
      refine ⟨setOf_rising ltI_ord _, fun x => ?_⟩
      rw [mem_setOf]
      simp only [List.mem_map, List.mem_filter, hR.vl]
      constructor
      · rintro ⟨n, ⟨h1, _⟩, rfl⟩
        rw [(hs.ok.reachIn (hre n h1)).2]; exact hre n h1
      · intro hx
        have hxm : x ∈ ms := by
          induction hx with
          | start hm hn => exact h0 _ ((hset0 _).2 ⟨_, hm, hn, rfl⟩)
          | step _ hx ih =>
            obtain ⟨j, hj⟩ := List.getElem?_of_mem ih
            exact hcl j _ (List.getElem?_eq_some_iff.1 hj).1 hj _ hx
        have := hs.ok.reachIn hx
        exact ⟨x, ⟨hxm, this.1⟩, this.2⟩
    have hA : ofM ax = b.comesA (setOf ltI ((ms.filter fun n => inB n s.vup.length).map (nm b.V))) := by
      refine setOf_congr lessM_ord fun a => ?_
      rw [List.mem_filter, has', List.mem_flatMap]
      constructor
      · rintro ⟨⟨j, v, h1, h2, h3⟩, _⟩
        exact ⟨v, (hM.2 v).2 (hre v (List.mem_of_getElem? h2)), h3⟩
      · rintro ⟨v, h1, h2⟩
        have h3 := (hM.2 v).1 h1
        rw [mem_setOf] at h1
        obtain ⟨n, hn, hnv⟩ := List.mem_map.1 h1
        have hnm := (List.mem_filter.1 hn).1
        rw [(hs.ok.reachIn (hre n hnm)).2] at hnv
        subst hnv
        obtain ⟨j, hj⟩ := List.getElem?_of_mem hnm
        exact ⟨⟨j, n, (List.getElem?_eq_some_iff.1 hj).1, hj, h2⟩, atom_ok hs h2⟩
    rw [hA]
    refine ⟨hG, _, .low ((Dat.tup fun x hx => ?_).low _), hk _ hM⟩
    simp at hx
    rcases hx with rfl | rfl
    · exact effV_dat _
    · exact rhosV_dat _
end Go.Abs.Bas
