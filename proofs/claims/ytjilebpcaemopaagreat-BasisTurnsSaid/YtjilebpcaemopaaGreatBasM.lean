/-
  Regions and effect variables: names, plain.
-/
set_option linter.unusedVariables false
set_option linter.unusedSimpArgs false
namespace Go.Abs.Bas

/-! ### Names: pairs that are one, the newest first -/
def joinF (f : Int → Int) (p : Int × Int) (n : Int) : Int := if f n = max (f p.1) (f p.2) then min (f p.1) (f p.2) else f n
def nm : List (Int × Int) → Int → Int
  | [], n => n
  | p :: l, n => joinF (nm l) p n
theorem joinF_idem {f : Int → Int} (hf : ∀ n, f (f n) = f n) (p : Int × Int) (n : Int) : joinF f p (joinF f p n) = joinF f p n := by
  unfold joinF
  have ex := hf p.1
  have ey := hf p.2
  have en := hf n
  generalize f p.1 = x at *
  generalize f p.2 = y at *
  rcases Int.le_total x y with h | h
  · rw [show max x y = y by omega, show min x y = x by omega]
    by_cases hn : f n = y
    · simp only [hn, if_true, ex]; split <;> rfl
    · simp only [hn, if_false, en]
  · rw [show max x y = x by omega, show min x y = y by omega]
    by_cases hn : f n = x
    · simp only [hn, if_true, ey]; split <;> rfl
    · simp only [hn, if_false, en]
theorem nm_idem : ∀ (l : List (Int × Int)) (n : Int), nm l (nm l n) = nm l n
  | [], n => rfl
  | p :: l, n => joinF_idem (nm_idem l) p n
theorem nm_le : ∀ (l : List (Int × Int)) (n : Int), nm l n ≤ n
  | [], n => Int.le_refl _
  | p :: l, n => by
    have := nm_le l n
    simp only [nm, joinF]
    split <;> omega
theorem joinF_pair (f : Int → Int) (p : Int × Int) : joinF f p p.1 = joinF f p p.2 := by
  unfold joinF
  split <;> split <;> omega
theorem nm_pair : ∀ {l : List (Int × Int)} {p : Int × Int}, p ∈ l → nm l p.1 = nm l p.2
  | q :: l, p, h => by
    rcases List.mem_cons.1 h with rfl | h
    · exact joinF_pair _ _
    · have := nm_pair h
      simp only [nm, joinF, this]
theorem nm_closed {S : Int → Prop} : ∀ {l : List (Int × Int)}, (∀ p ∈ l, S p.1 ↔ S p.2) → ∀ n, S n ↔ S (nm l n)
  | [], _, n => Iff.rfl
  | q :: l, h, n => by
    have ih := nm_closed (l := l) fun p hp => h p (List.mem_cons_of_mem _ hp)
    have h0 := h q (List.mem_cons_self ..)
    have h1 : S (nm l q.1) ↔ S (nm l q.2) := (ih q.1).symm.trans (h0.trans (ih q.2))
    have h2 := ih n
    simp only [nm, joinF]
    generalize nm l q.1 = x at *
    generalize nm l q.2 = y at *
    split
    · rename_i e
      rw [e] at h2
      rcases Int.le_total x y with hh | hh
      · rw [show max x y = y by omega] at h2; rw [show min x y = x by omega]; exact h2.trans h1.symm
      · rw [show max x y = x by omega] at h2; rw [show min x y = y by omega]; exact h2.trans h1
    · exact h2
theorem nm_nonneg {l : List (Int × Int)} (h : ∀ p ∈ l, 0 ≤ p.1 ∧ 0 ≤ p.2) {n : Int} (hn : 0 ≤ n) : 0 ≤ nm l n :=
  (nm_closed (S := fun n => 0 ≤ n) (fun p hp => by have := h p hp; omega) n).1 hn
/-- The same pairs, in whatever order. -/
theorem nm_sub {l m : List (Int × Int)} (h : ∀ p, p ∈ l → p ∈ m) (n : Int) : nm m n ≤ nm l n := by
  have := (nm_closed (S := fun k => nm m k = nm m n) (l := l) (fun p hp => by rw [nm_pair (h p hp)]) n).1 rfl
  rw [← this]; exact nm_le _ _
theorem nm_perm {l m : List (Int × Int)} (h : ∀ p, p ∈ l ↔ p ∈ m) : nm l = nm m := by
  funext n
  exact Int.le_antisymm (nm_sub (fun p hp => (h p).2 hp) n) (nm_sub (fun p hp => (h p).1 hp) n)
theorem joinF_same {f : Int → Int} {p : Int × Int} (h : f p.1 = f p.2) : joinF f p = f := by
  funext n
  unfold joinF
  rw [h]
  split <;> omega

/-! ### Rows that rise -/
section
variable {α : Type} {r : α → α → Prop}
theorem rising_ext (irr : ∀ a, ¬ r a a) (tr : ∀ a b c, r a b → r b c → r a c) : ∀ {l m : List α}, l.Pairwise r → m.Pairwise r → (∀ x, x ∈ l ↔ x ∈ m) → l = m
  | [], [], _, _, _ => rfl
  | [], b :: m, _, _, h => absurd ((h b).2 (List.mem_cons_self ..)) (by simp)
  | a :: l, [], _, _, h => absurd ((h a).1 (List.mem_cons_self ..)) (by simp)
  | a :: l, b :: m, hl, hm, h => by
    rw [List.pairwise_cons] at hl hm
    have hab : a = b := by
      rcases List.mem_cons.1 ((h a).1 (List.mem_cons_self ..)) with e | e
      · exact e
      · rcases List.mem_cons.1 ((h b).2 (List.mem_cons_self ..)) with e' | e'
        · exact e'.symm
        · exact absurd (tr _ _ _ (hl.1 b e') (hm.1 a e)) (irr a)
    subst hab
    have : l = m := rising_ext irr tr hl.2 hm.2 fun x => by
      constructor
      · intro hx
        rcases List.mem_cons.1 ((h x).1 (List.mem_cons_of_mem _ hx)) with e | e
        · subst e; exact absurd (hl.1 x hx) (irr x)
        · exact e
      · intro hx
        rcases List.mem_cons.1 ((h x).2 (List.mem_cons_of_mem _ hx)) with e | e
        · subst e; exact absurd (hm.1 x hx) (irr x)
        · exact e
    rw [this]
end
/-- A rising row with one more. -/
def ins {α : Type} [DecidableEq α] (lt : α → α → Bool) (a : α) : List α → List α
  | [] => [a]
  | b :: l => if a = b then b :: l else if lt a b = true then a :: b :: l else b :: ins lt a l
theorem mem_ins {α : Type} [DecidableEq α] (lt : α → α → Bool) (a x : α) : ∀ l : List α, x ∈ ins lt a l ↔ x = a ∨ x ∈ l
  | [] => by simp [ins]
  | b :: l => by
    have ih := mem_ins lt a x l
    unfold ins
    split
    · rename_i e; subst e; simp
    · split
      · simp
      · simp [ih]; constructor
        · rintro (h | h | h) <;> simp [h]
        · rintro (h | h | h) <;> simp [h]
structure Ord {α : Type} (lt : α → α → Bool) : Prop where
  irr : ∀ a, lt a a = false
  tr : ∀ a b c, lt a b = true → lt b c = true → lt a c = true
  tri : ∀ a b, lt a b = false → lt b a = false → a = b
variable {α : Type} [DecidableEq α] {lt : α → α → Bool}
theorem ins_rising (o : Ord lt) (a : α) : ∀ {l : List α}, l.Pairwise (fun a b => lt a b = true) → (ins lt a l).Pairwise fun a b => lt a b = true
  | [], _ => by simp [ins]
  | b :: l, h => by
    rw [List.pairwise_cons] at h
    unfold ins
    split
    · exact List.pairwise_cons.2 h
    · rename_i hab
      split
      · rename_i hlt
        refine List.pairwise_cons.2 ⟨fun x hx => ?_, List.pairwise_cons.2 h⟩
        rcases List.mem_cons.1 hx with rfl | hx
        · exact hlt
        · exact o.tr _ _ _ hlt (h.1 x hx)
      · rename_i hnlt
        refine List.pairwise_cons.2 ⟨fun x hx => ?_, ins_rising o a h.2⟩
        rcases (mem_ins lt a x l).1 hx with rfl | hx
        · cases hba : lt b x
          · exact absurd (o.tri _ _ (by simpa using hnlt) hba) hab
          · rfl
        · exact h.1 x hx
/-- The rising row of what stands in another one. -/
def setOf (lt : α → α → Bool) (l : List α) : List α := l.foldl (fun s a => ins lt a s) []
theorem mem_foldl_ins (lt : α → α → Bool) (x : α) : ∀ (l s : List α), x ∈ l.foldl (fun s a => ins lt a s) s ↔ x ∈ l ∨ x ∈ s
  | [], s => by simp
  | a :: l, s => by
    simp only [List.foldl_cons, mem_foldl_ins lt x l, mem_ins, List.mem_cons]
    constructor
    · rintro (h | h | h) <;> simp [h]
    · rintro ((h | h) | h) <;> simp [h]
theorem mem_setOf (lt : α → α → Bool) (x : α) (l : List α) : x ∈ setOf lt l ↔ x ∈ l := by simp [setOf, mem_foldl_ins]
theorem foldl_ins_rising (o : Ord lt) : ∀ (l : List α) {s : List α}, s.Pairwise (fun a b => lt a b = true) → (l.foldl (fun s a => ins lt a s) s).Pairwise fun a b => lt a b = true
  | [], _, h => h
  | a :: l, _, h => foldl_ins_rising o l (ins_rising o a h)
theorem setOf_rising (o : Ord lt) (l : List α) : (setOf lt l).Pairwise fun a b => lt a b = true := foldl_ins_rising o l List.Pairwise.nil
theorem setOf_unique (o : Ord lt) {l m : List α} (hm : m.Pairwise fun a b => lt a b = true) (h : ∀ x, x ∈ m ↔ x ∈ l) : m = setOf lt l :=
  rising_ext (r := fun a b => lt a b = true) (fun a => by simp [o.irr]) o.tr hm (setOf_rising o l) fun x => (h x).trans (mem_setOf lt x l).symm
theorem setOf_congr (o : Ord lt) {l m : List α} (h : ∀ x, x ∈ l ↔ x ∈ m) : setOf lt l = setOf lt m :=
  setOf_unique o (setOf_rising o l) fun x => (mem_setOf lt x l).trans (h x)
theorem setOf_nodup (o : Ord lt) (l : List α) : (setOf lt l).Nodup := by
  refine (setOf_rising o l).imp fun h e => ?_
  subst e; rw [o.irr] at h; cases h

/-- One of each that stand side by side. -/
def compactM : List α → List α
  | [] => []
  | [a] => [a]
  | a :: b :: l => if a = b then compactM (b :: l) else a :: compactM (b :: l)
theorem mem_compactM (x : α) : ∀ l : List α, x ∈ compactM l ↔ x ∈ l
  | [] => Iff.rfl
  | [a] => Iff.rfl
  | a :: b :: l => by
    have ih := mem_compactM x (b :: l)
    unfold compactM
    split
    · rename_i e; subst e; rw [ih]; simp
    · simp only [List.mem_cons] at ih ⊢; rw [ih]
theorem compactM_rising (o : Ord lt) : ∀ {l : List α}, l.Pairwise (fun a b => lt b a = false) → (compactM l).Pairwise fun a b => lt a b = true
  | [], _ => List.Pairwise.nil
  | [a], _ => by simp [compactM]
  | a :: b :: l, h => by
    rw [List.pairwise_cons] at h
    have ih := compactM_rising o h.2
    unfold compactM
    split
    · exact ih
    · rename_i hab
      refine List.pairwise_cons.2 ⟨fun x hx => ?_, ih⟩
      have hx' := (mem_compactM x (b :: l)).1 hx
      have hb := h.1 b (List.mem_cons_self ..)
      have hlt : lt a b = true := by
        cases hh : lt a b
        · exact absurd (o.tri _ _ hh hb) hab
        · rfl
      rcases List.mem_cons.1 hx' with rfl | hx'
      · exact hlt
      · have hbx := (List.pairwise_cons.1 h.2).1 x hx'
        cases hb2 : lt b x
        · have := o.tri _ _ hb2 hbx; subst this; exact hlt
        · exact o.tr _ _ _ hlt hb2
theorem compactM_setOf (o : Ord lt) {l m : List α} (hs : l.Pairwise (fun a b => lt b a = false)) (h : ∀ x, x ∈ l ↔ x ∈ m) : compactM l = setOf lt m :=
  setOf_unique o (compactM_rising o hs) fun x => (mem_compactM x l).trans (h x)

def ltI (a b : Int) : Bool := decide (a < b)
theorem ltI_ord : Ord ltI where
  irr := by simp [ltI]
  tr := by simp [ltI]; omega
  tri := by simp [ltI]; omega
end Go.Abs.Bas
