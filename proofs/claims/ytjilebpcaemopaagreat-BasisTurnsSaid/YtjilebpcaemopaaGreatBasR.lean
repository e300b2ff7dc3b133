/-
  The document's basis: rows, effects, names.
-/
import Derived.Test.YtjilebpcaemopaaGreatBasE
set_option linter.unusedVariables false
set_option linter.unusedSimpArgs false
namespace Go.Abs.Bas
open Go Go.Abs Go.Abs.At Go.Proofs.BasD
attribute [local simp] Nat.add_assoc

/-- One more at the end of a row in hand. -/
theorem addRow {n sz : Nat} (by' : Nat) (el : List AV) {φ : AHeap} {x : AV} {els : List (List AV)} {body : AV → AHeap → Prop} (hK : Kid n 0 sz φ x els) (hn : n ≤ φ.next) (hb : (els.length + 1) * by' ≤ 140737488355328 ∧ els.length + 1 ≤ 140737488355328)
    (h : ∀ y τ, φ.next ≤ τ.next → (∀ j, (∀ m, x ≠ .own j m) → j < φ.next → τ.get j = φ.get j) → Kid n 0 sz τ y (els ++ [el]) → (∀ j m, y = .own j m → φ.next ≤ j) → body y τ) :
    stepK (aAppend sz by' x (.own φ.next 1) (φ.new (.cells sz [el]))) body := by
  have hK2 := hK.grows (Grows.new φ (.cells sz [el]))
  refine stepK_of (aAppend_rows (by' := by') hK2.rows hK2.ns (ys := [el]) (.inr (.inr ⟨φ.next, [], rfl, by simp [get_new]⟩)) (by simpa using hb)) ?_
  obtain ⟨p1, p2, p3⟩ := hK2.push (by simp; omega) el
  have p4 : ∀ j, (∀ m, x ≠ .own j m) → j < φ.next → ((gone x (φ.new (.cells sz [el]))).new (.cells sz (els ++ [el]))).get j = φ.get j := fun j h1 h2 => by
    rw [get_new, gone_next, if_neg (by simp; omega), gone_get h1, AHeap.new_ne (by omega)]
  generalize (gone x (φ.new (.cells sz [el]))).new (.cells sz (els ++ [el])) = υ at p1 p2 p3 p4
  simp at p1 p3
  simp
  exact h _ υ (by omega) p4 p1 fun j m e => by cases e; omega
theorem bs_int (v : Int) (φ : AHeap) : aBuildSlice 1 1 [.val (.int .i64 0)] [(0, int v)] φ = some (.own φ.next 1, φ.new (.cells 1 [[int v]])) := by simp [aBuildSlice, aBuildSl]
theorem bs_atom (a : Atom) (φ : AHeap) : aBuildSlice 1 3 [.val (.int .u8 0), .val (.int .i64 0), .val (.string ByteArray.empty)] [(0, a.v)] φ = some (.own φ.next 1, φ.new (.cells 3 [a.av])) := by simp [aBuildSlice, aBuildSl, Atom.av]

variable {σ : AHeap} {k kp : AV → AHeap → Prop}
theorem thereR_ev {x : AV} {l : List Int} {c : Nat} (hx : RowG σ 1 x (irows l)) (hb : l.length < 1000000000000) (hk : k (bool (there l c)) σ) : Ev PR 54 [x, int c] σ k kp := by
  apply F54_ev; unfold F54
  refine seqW_in ?_
  simp [hx.lenI]
  have fin : ∀ v, there l c = v → k (bool v) σ := fun v e => by rw [← e]; exact hk
  refine loopW_by (fun i : Nat => [(0, x), (1, int c), (7, int l.length), (8, int i)]) (fun i φ => φ = σ ∧ i ≤ l.length ∧ ∀ n ∈ l.take i, inB n c = true) (fun fr _ => l.length - (intOf (look fr 8)).toNat) 0 (by simp) ⟨rfl, by simp, by simp⟩ ?_
  rintro i φ ⟨rfl, hi, hall⟩
  simp
  by_cases hil : i < l.length
  · obtain ⟨n, hn⟩ := get_some hil
    obtain ⟨r, h1, h2⟩ := hx.at hn .i64
    have no : inB n c = false → there l c = false := fun h => by rw [there, List.all_eq_false]; exact ⟨n, List.mem_of_getElem? hn, by simp [h]⟩
    simp [hil, h1, h2]
    by_cases h0 : n < 0
    · simp [h0]
      exact fin false (no (by simp [inB]; omega))
    · by_cases h3 : (c : Int) ≤ n
      · simp [h0, h3, h1, h2]
        exact fin false (no (by simp [inB]; omega))
      · simp [h0, h3, h1, h2]
        rw [wrap64 (by omega)]
        refine ⟨⟨i + 1, by simp, by omega, fun m hm => ?_⟩, by omega⟩
        rw [List.take_add_one, hn] at hm
        rcases List.mem_append.1 hm with hm | hm
        · exact hall m hm
        · simp at hm; subst hm; exact inB_iff.2 ⟨by omega, by omega⟩
  · rw [List.take_of_length_le (by omega)] at hall
    simp [hil]
    exact fin true (by rw [there, List.all_eq_true]; exact hall)

theorem ins_of_mem (o : Ord ltI) {a : Int} : ∀ {l : List Int}, l.Pairwise (fun x y => ltI x y = true) → a ∈ l → ins ltI a l = l
  | b :: l, hs, h => by
    rw [List.pairwise_cons] at hs
    unfold ins
    split
    · rfl
    · rename_i hab
      have h2 : a ∈ l := by
        rcases List.mem_cons.1 h with h | h
        · exact absurd h hab
        · exact h
      have h3 := hs.1 a h2
      have h4 : ltI a b = false := by simp [ltI] at *; omega
      rw [h4]
      simp only [Bool.false_eq_true, if_false]
      rw [ins_of_mem o hs.2 h2]
theorem insA_of_mem {α : Type} [DecidableEq α] {lt : α → α → Bool} (o : Ord lt) {a : α} : ∀ {l : List α}, l.Pairwise (fun x y => lt x y = true) → a ∈ l → ins lt a l = l
  | b :: l, hs, h => by
    rw [List.pairwise_cons] at hs
    unfold ins
    split
    · rfl
    · rename_i hab
      have h2 : a ∈ l := by
        rcases List.mem_cons.1 h with h | h
        · exact absurd h hab
        · exact h
      have h3 := hs.1 a h2
      have h4 : lt a b = false := by
        cases h5 : lt a b
        · rfl
        · have := o.tr _ _ _ h5 h3; rw [o.irr] at this; cases this
      rw [h4]
      simp only [Bool.false_eq_true, if_false]
      rw [insA_of_mem o hs.2 h2]
/-- What is ahead of a place, with one more that is put in as soon as it fits. -/
def insU {α : Type} (lt : α → α → Bool) (a : α) : List α → List α × Bool
  | [] => ([], false)
  | b :: l => if lt a b = true then (a :: b :: l, true) else ((b :: (insU lt a l).1), (insU lt a l).2)
theorem insU_ins {α : Type} [DecidableEq α] {lt : α → α → Bool} {a : α} : ∀ {l : List α}, a ∉ l → ins lt a l = (insU lt a l).1 ++ if (insU lt a l).2 = true then [] else [a]
  | [], _ => rfl
  | b :: l, h => by
    have ih := insU_ins (lt := lt) (l := l) fun hh => h (List.mem_cons_of_mem _ hh)
    have hab : a ≠ b := fun e => h (e ▸ List.mem_cons_self ..)
    unfold ins insU
    rw [if_neg hab]
    split
    · simp
    · rw [ih]; simp
theorem insU_snoc {α : Type} {lt : α → α → Bool} {a c : α} : ∀ {l : List α}, insU lt a (l ++ [c]) = if (insU lt a l).2 = true then ((insU lt a l).1 ++ [c], true) else if lt a c = true then ((insU lt a l).1 ++ [a, c], true) else ((insU lt a l).1 ++ [c], false)
  | [] => by simp [insU]
  | b :: l => by
    have ih := insU_snoc (lt := lt) (a := a) (c := c) (l := l)
    simp only [List.cons_append, insU]
    by_cases h : lt a b = true
    · simp [h]
    · simp only [h, ih]
      cases (insU lt a l).2 <;> cases lt a c <;> simp
theorem insU_len {α : Type} {lt : α → α → Bool} {a : α} : ∀ {l : List α}, (insU lt a l).1.length ≤ l.length + 1
  | [] => by simp [insU]
  | b :: l => by
    have := insU_len (lt := lt) (a := a) (l := l)
    unfold insU
    split <;> simp <;> omega

theorem putInt_ev {x : AV} {l : List Int} {n : Int} (hx : RowG σ 1 x (irows l)) (hs : l.Pairwise fun a b => ltI a b = true) (hb : l.length < 1000000000) (hk : ∀ y, (y = x ∧ ins ltI n l = l) ∨ y = rhosV (ins ltI n l) → k y σ) : Ev PR 65 [x, int n] σ k kp := by
  refine Ev.pure ?_
  apply F65_ev; unfold F65
  refine ints_ev (by omega) hx.1 ?_
  by_cases hm : n ∈ l
  · simp [hm]
    exact ⟨Grows.refl _, x, .low hx.2, hk _ (.inl ⟨rfl, ins_of_mem ltI_ord hs hm⟩)⟩
  · simp [hm]
    have hu := insU_ins (lt := ltI) hm
    have hl0 := (hx.grows (Grows.new σ (.cells 1 []))).lenI
    have hlen : ∀ φ, Grows σ φ → aLenK .slice x φ = some (int l.length) := fun φ g => (hx.grows g).lenI
    refine seqW_in ?_
    simp [hl0]
    refine loopW_by (fun p : Nat × AV => [(0, x), (1, int n), (5, p.2), (6, bool (insU ltI n (l.take p.1)).2), (14, int l.length), (15, int p.1)])
      (fun p φ => p.1 ≤ l.length ∧ Grows σ φ ∧ Kid σ.next 0 1 φ p.2 (irows (insU ltI n (l.take p.1)).1))
      (fun fr _ => l.length - (intOf (look fr 15)).toNat) (0, .own σ.next 0) (by simp [insU]) ⟨by simp, Grows.new _ _, .inr ⟨σ.next, [], by simp [insU], by simp [insU, get_new], by simp, by simp⟩⟩ ?_
    rintro ⟨i, y⟩ φ ⟨hi, hG, hK⟩
    simp only at hi hK
    simp
    have hnx := hG.next
    by_cases hil : i < l.length
    · obtain ⟨m, hmm⟩ := get_some hil
      have htk := insU_snoc (lt := ltI) (a := n) (c := m) (l := l.take i)
      rw [show l.take i ++ [m] = l.take (i + 1) by rw [List.take_add_one, hmm]; rfl] at htk
      have hil2 : (insU ltI n (l.take i)).1.length ≤ i + 1 := by have := insU_len (lt := ltI) (a := n) (l := l.take i); simp at this; omega
      simp only [hil, decide_true, condK_true]
      refine seqW_by (fun fr υ => ∃ z, fr = [(0, x), (1, int n), (5, z), (6, bool (insU ltI n (l.take (i + 1))).2), (7, int i), (14, int l.length), (15, int i)] ∧ Grows σ υ ∧ ∃ rows, Kid σ.next 0 1 υ z (irows rows) ∧ rows.length ≤ i + 3 ∧ (insU ltI n (l.take (i + 1))).1 = rows ++ [m]) ?_ ?_
      · obtain ⟨r, h1, h2⟩ := (hx.grows hG).at hmm .i64
        cases hd : (insU ltI n (l.take i)).2
        · simp [h1, h2]
          rw [hd] at htk
          simp only [Bool.false_eq_true, if_false] at htk
          by_cases hlt : n < m
          · have hlt2 : ltI n m = true := by simp [ltI, hlt]
            rw [if_pos hlt2] at htk
            simp only [hlt, decide_true, condK_true]
            refine addRow 8 [int n] hK hnx (by simp; omega) fun z τ t1 t2 t3 t4 => ?_
            refine ⟨z, ⟨rfl, by rw [htk]⟩, ⟨by omega, fun j hj => ?_⟩, (insU ltI n (l.take i)).1 ++ [n], by simpa [irows] using t3, by simp; omega, by rw [htk]; simp⟩
            rw [t2 j (fun m' e => ?_) (by omega)]
            · exact hG.get j hj
            · rcases hK with ⟨h, _⟩ | ⟨q, rest, h, _, h3, _⟩ <;> rw [h] at e <;> cases e
              omega
          · have hlt2 : ¬ ltI n m = true := by simp [ltI, hlt]
            rw [if_neg hlt2] at htk
            simp only [hlt, decide_false, condK_false]
            exact ⟨y, ⟨rfl, by rw [htk]⟩, hG, _, hK, by omega, by rw [htk]⟩
        · simp
          rw [hd] at htk
          simp only [if_true] at htk
          exact ⟨y, ⟨rfl, by rw [htk]⟩, hG, _, hK, by omega, by rw [htk]⟩
      · rintro fr υ ⟨z, rfl, hG2, rows, hK2, hr1, hr2⟩
        simp
        obtain ⟨r, h1, h2⟩ := (hx.grows hG2).at hmm .i64
        refine stepP h1 ?_
        refine stepP h2 ?_
        have := hG2.next
        refine stepK_of (bs_int m υ) ?_
        refine addRow 8 [int m] hK2 this (by simp; omega) fun z2 τ t1 t2 t3 t4 => ?_
        rw [wrap64 (by omega)]
        refine ⟨⟨i + 1, z2, ⟨rfl, by simp⟩, by omega, ⟨by omega, fun j hj => ?_⟩, ?_⟩, by omega⟩
        · rw [t2 j (fun m' e => ?_) (by omega)]
          · exact hG2.get j hj
          · rcases hK2 with ⟨h, _⟩ | ⟨q, rest, h, _, h3, _⟩ <;> rw [h] at e <;> cases e
            omega
        · rw [hr2]; simpa [irows] using t3
    · rw [List.take_of_length_le (by omega)] at hK
      have hil2 : (insU ltI n l).1.length ≤ l.length + 1 := insU_len
      have e0 : l.take i = l := List.take_of_length_le (by omega)
      simp only [hil, decide_false, condK_false, e0]
      refine seqW_in ?_
      cases hd : (insU ltI n l).2
      · rw [hd] at hu
        simp only [Bool.false_eq_true, if_false] at hu
        simp
        refine addRow 8 [int n] hK hnx (by simp; omega) fun z τ t1 t2 t3 t4 => ?_
        refine ⟨⟨by omega, fun j hj => ?_⟩, rhosV (ins ltI n l), ?_, hk _ (.inr rfl)⟩
        · rw [t2 j (fun m' e => ?_) (by omega)]
          · exact hG.get j hj
          · rcases hK with ⟨h, _⟩ | ⟨q, rest, h, _, h3, _⟩ <;> rw [h] at e <;> cases e
            omega
        · have : Kid σ.next 0 1 τ z (irows (ins ltI n l)) := by rw [hu]; simpa [irows] using t3
          exact this.frz (irows_dat _)
      · rw [hd] at hu
        simp only [if_true, List.append_nil] at hu
        simp
        refine ⟨hG, rhosV (ins ltI n l), ?_, hk _ (.inr rfl)⟩
        rw [hu]
        exact hK.frz (irows_dat _)
end Go.Abs.Bas
