import Derived.Test.YtjilebpcaemopaaGreatDoorAbsM
import Derived.Test.YtjilebpcaemopaaGreatDoorMacDec
set_option linter.unusedVariables false
set_option linter.unusedSimpArgs false
set_option linter.deprecated false
namespace Go.Abs.Stk
open Go Go.Abs

abbrev Row := List (List AV)
variable {α : Type}
structure SG (α : Type) where
  R : Int
  C : Int
  L : List (Bool × List α)
  most : Int

def idx : List (Bool × List α) → Nat → List Nat
  | [], _ => []
  | (b, _) :: r, i => bif b then i :: idx r (i + 1) else idx r (i + 1)
def tot : List (Bool × List α) → Nat
  | [] => 0
  | (b, c) :: r => (bif b then c.length else 0) + tot r
def rowAt (l : List (Bool × List α)) (i : Nat) : Option (List α) :=
  match l[i]? with
  | some (true, c) => some c
  | _ => none
def at' (l : List (Bool × List α)) (r : Int) : Option (List α) := if 0 ≤ r then rowAt l r.toNat else none

theorem idx_append (l m : List (Bool × List α)) : ∀ i, idx (l ++ m) i = idx l i ++ idx m (i + l.length) := by
  induction l with
  | nil => intro i; simp [idx]
  | cons p l ih =>
    intro i
    obtain ⟨b, c⟩ := p
    cases b <;> simp [idx, ih, Nat.add_assoc, Nat.add_comm 1]
theorem tot_append (l m : List (Bool × List α)) : tot (l ++ m) = tot l + tot m := by
  induction l with
  | nil => simp [tot]
  | cons p l ih => obtain ⟨b, c⟩ := p; simp [tot, ih]; omega
theorem mem_idx {l : List (Bool × List α)} : ∀ {i k : Nat}, k ∈ idx l i ↔ ∃ j c, k = i + j ∧ l[j]? = some (true, c) := by
  induction l with
  | nil => intro i k; simp [idx]
  | cons p l ih =>
    intro i k
    obtain ⟨b, c⟩ := p
    constructor
    · intro h
      cases b
      · simp only [idx, cond_false] at h
        obtain ⟨j, c', e, h'⟩ := ih.1 h
        exact ⟨j + 1, c', by omega, by simpa using h'⟩
      · simp only [idx, cond_true, List.mem_cons] at h
        rcases h with rfl | h
        · exact ⟨0, c, by omega, rfl⟩
        · obtain ⟨j, c', e, h'⟩ := ih.1 h
          exact ⟨j + 1, c', by omega, by simpa using h'⟩
    · rintro ⟨j, c', e, h'⟩
      cases j with
      | zero =>
        simp at h'
        obtain ⟨rfl, rfl⟩ := h'
        simp [idx, e]
      | succ j =>
        have : k ∈ idx l (i + 1) := ih.2 ⟨j, c', by omega, by simpa using h'⟩
        cases b <;> simp [idx, this]
theorem idx_pairwise (l : List (Bool × List α)) : ∀ i, (idx l i).Pairwise (· < ·) := by
  induction l with
  | nil => intro i; simp [idx]
  | cons p l ih =>
    intro i
    obtain ⟨b, c⟩ := p
    cases b
    · simpa [idx] using ih (i + 1)
    · simp only [idx, cond_true, List.pairwise_cons]
      refine ⟨fun k hk => ?_, ih (i + 1)⟩
      obtain ⟨j, c', e, _⟩ := mem_idx.1 hk
      omega
/-- A row is another, as live as it was. -/
theorem idx_set {l : List (Bool × List α)} : ∀ {i j : Nat} {c c' : List α}, l[j]? = some (true, c) → idx (l.set j (true, c')) i = idx l i := by
  induction l with
  | nil => intro i j c c' h; simp at h
  | cons p l ih =>
    intro i j c c' h
    obtain ⟨b, d⟩ := p
    cases j with
    | zero => simp at h; obtain ⟨rfl, rfl⟩ := h; simp [idx]
    | succ j => simp at h; cases b <;> simp [idx, ih h]
theorem tot_set {l : List (Bool × List α)} : ∀ {j : Nat} {c c' : List α}, l[j]? = some (true, c) → tot (l.set j (true, c')) + c.length = tot l + c'.length := by
  induction l with
  | nil => intro j c c' h; simp at h
  | cons p l ih =>
    intro j c c' h
    obtain ⟨b, d⟩ := p
    cases j with
    | zero => simp at h; obtain ⟨rfl, rfl⟩ := h; simp [tot]; omega
    | succ j => simp at h; have := ih (c' := c') h; cases b <;> simp [tot] <;> omega
theorem tot_gone {l : List (Bool × List α)} : ∀ {j : Nat} {c : List α}, l[j]? = some (true, c) → tot (l.set j (false, [])) + c.length = tot l := by
  induction l with
  | nil => intro j c h; simp at h
  | cons p l ih =>
    intro j c h
    obtain ⟨b, d⟩ := p
    cases j with
    | zero => simp at h; obtain ⟨rfl, rfl⟩ := h; simp [tot]; omega
    | succ j => simp at h; have := ih h; cases b <;> simp [tot] <;> omega
theorem idx_gone {l : List (Bool × List α)} : ∀ {i j : Nat} {c : List α}, l[j]? = some (true, c) → idx (l.set j (false, [])) i = (idx l i).filter (· ≠ i + j) := by
  induction l with
  | nil => intro i j c h; simp at h
  | cons p l ih =>
    intro i j c h
    obtain ⟨b, d⟩ := p
    have hne : ∀ k ∈ idx l (i + 1), k ≠ i := by
      intro k hk
      obtain ⟨q, _, e, _⟩ := mem_idx.1 hk
      omega
    cases j with
    | zero =>
      simp at h; obtain ⟨rfl, rfl⟩ := h
      simp only [List.set_cons_zero, idx, cond_false, cond_true, Nat.add_zero]
      rw [List.filter_cons, if_neg (by simp)]
      exact (List.filter_eq_self.2 fun k hk => by simpa using hne k hk).symm
    | succ j =>
      simp at h
      have := ih (i := i + 1) h
      have e : i + 1 + j = i + (j + 1) := by omega
      rw [e] at this
      cases b
      · simpa [idx] using this
      · simp only [List.set_cons_succ, idx, cond_true, this]
        rw [List.filter_cons, if_pos (by simp)]
theorem tot_row {l : List (Bool × List α)} {j : Nat} {c : List α} (h : l[j]? = some (true, c)) : c.length ≤ tot l := by
  have := tot_gone h; omega

theorem rowAt_some {l : List (Bool × List α)} {i : Nat} {c : List α} : rowAt l i = some c ↔ l[i]? = some (true, c) := by
  unfold rowAt
  split
  · rename_i d h; rw [h]; simp
  · rename_i h
    constructor
    · intro h'; cases h'
    · intro h'; exact absurd h' (h c)
theorem at_some {l : List (Bool × List α)} {r : Int} {c : List α} (h : at' l r = some c) : 0 ≤ r ∧ l[r.toNat]? = some (true, c) := by
  unfold at' at h
  split at h
  · exact ⟨by assumption, rowAt_some.1 h⟩
  · cases h
theorem at_of {l : List (Bool × List α)} {i : Nat} {c : List α} (h : l[i]? = some (true, c)) : at' l i = some c := by
  simp [at', rowAt_some.2 h]
theorem at_nat (l : List (Bool × List α)) (i : Nat) : at' l i = rowAt l i := by simp [at']

/-- The last of a row that grows. -/
theorem filter_last {l : List Nat} (h : l.Pairwise (· < ·)) {k : Nat} (hk : l.getLast? = some k) : l.filter (· ≠ k) = l.dropLast := by
  obtain ⟨m, rfl⟩ : ∃ m, l = m ++ [k] := by
    obtain ⟨m, e⟩ := List.getLast?_eq_some_iff.1 hk
    exact ⟨m, e⟩
  rw [List.pairwise_append] at h
  rw [List.filter_append, List.filter_eq_self.2 (fun a ha => by simpa using Nat.ne_of_lt (h.2.2 a ha k (by simp)))]
  simp

namespace SG
def live (s : SG α) : List Nat := idx s.L 0
def cells (s : SG α) : Nat := tot s.L
def row (s : SG α) (r : Int) : Option (List α) := at' s.L r
def more (s : SG α) : SG α := { s with L := s.L ++ [(true, [])] }
def less (s : SG α) (i : Nat) : SG α := { s with L := s.L.set i (false, []) }
def put (s : SG α) (i : Nat) (c : List α) : SG α := { s with L := s.L.set i (true, c) }

theorem live_more (s : SG α) : s.more.live = s.live ++ [s.L.length] := by simp [more, live, idx_append, idx]
theorem cells_more (s : SG α) : s.more.cells = s.cells := by simp [more, cells, tot_append, tot]
theorem row_more (s : SG α) (r : Int) : s.more.row r = if r = s.L.length then some [] else s.row r := by
  unfold SG.row more at' rowAt
  by_cases h : 0 ≤ r
  · obtain ⟨n, rfl⟩ := Int.eq_ofNat_of_zero_le h
    simp only [Int.natCast_nonneg, if_true, Int.toNat_natCast, Int.natCast_inj]
    by_cases e : n = s.L.length
    · subst e; simp
    · rw [if_neg e]
      by_cases l : n < s.L.length
      · rw [List.getElem?_append_left l]
      · rw [List.getElem?_append_right (by omega), List.getElem?_eq_none (by simp; omega), List.getElem?_eq_none (by omega)]
  · rw [if_neg h, if_neg h, if_neg (by omega)]

theorem row_set (s : SG α) (i : Nat) (hi : i < s.L.length) (x : Bool × List α) (r : Int) : at' (s.L.set i x) r = if r = i then (match x with | (true, c) => some c | _ => none) else s.row r := by
  unfold SG.row at' rowAt
  by_cases h : 0 ≤ r
  · obtain ⟨n, rfl⟩ := Int.eq_ofNat_of_zero_le h
    simp only [Int.natCast_nonneg, if_true, Int.toNat_natCast, Int.natCast_inj]
    by_cases e : n = i
    · subst e
      rw [if_pos rfl, List.getElem?_set_self hi]
      obtain ⟨b, c⟩ := x
      cases b <;> rfl
    · rw [if_neg e, List.getElem?_set_ne (Ne.symm e)]
  · rw [if_neg h, if_neg h, if_neg (by omega)]

theorem last_mem {s : SG α} {i : Nat} (h : s.live.getLast? = some i) : ∃ c, s.L[i]? = some (true, c) := by
  obtain ⟨j, c, e, h'⟩ := mem_idx.1 (List.mem_of_getLast? h)
  have : i = j := by omega
  subst this
  exact ⟨c, h'⟩
theorem live_less {s : SG α} {i : Nat} (h : s.live.getLast? = some i) : (s.less i).live = s.live.dropLast := by
  obtain ⟨c, hc⟩ := last_mem h
  show idx (s.L.set i (false, [])) 0 = _
  rw [idx_gone hc, Nat.zero_add]
  exact filter_last (idx_pairwise _ _) h
theorem cells_less {s : SG α} {i : Nat} {c : List α} (h : s.L[i]? = some (true, c)) : (s.less i).cells + c.length = s.cells := tot_gone h
theorem row_less {s : SG α} {i : Nat} (hi : i < s.L.length) (r : Int) : (s.less i).row r = if r = i then none else s.row r := row_set s i hi _ r
theorem live_put {s : SG α} {i : Nat} {c c' : List α} (h : s.L[i]? = some (true, c)) : (s.put i c').live = s.live := idx_set h
theorem cells_put {s : SG α} {i : Nat} {c c' : List α} (h : s.L[i]? = some (true, c)) : (s.put i c').cells + c.length = s.cells + c'.length := tot_set h
theorem row_put {s : SG α} {i : Nat} (hi : i < s.L.length) (c' : List α) (r : Int) : (s.put i c').row r = if r = i then some c' else s.row r := row_set s i hi _ r
theorem row_nat {s : SG α} {r : Int} {c : List α} (h : s.row r = some c) : ∃ i : Nat, r = i ∧ s.L[i]? = some (true, c) ∧ i < s.L.length := by
  obtain ⟨h0, h1⟩ := at_some h
  exact ⟨r.toNat, by omega, h1, (List.getElem?_eq_some_iff.1 h1).1⟩
end SG

namespace SG
variable {α : Type}
def putC (s : SG α) (i : Nat) (row : List α) (c : α) : SG α := { s with L := s.L.set i (true, row ++ [c]), most := if s.most < s.cells + 1 then s.cells + 1 else s.most }
def find (s : SG α) (kd n r a : Int) : Int :=
  if kd ≠ 2 ∨ n ≠ 0 then 1 else match s.row r with
    | none => 6
    | some row => if a < 0 ∨ row.length ≤ a then 1 else 0
end SG
abbrev S := SG (List AV)
end Go.Abs.Stk
set_option linter.unusedVariables false
set_option linter.unusedSimpArgs false
set_option linter.deprecated false
namespace Go.Abs.Stk
open Go Go.Abs Go.Proofs.MacD

noncomputable abbrev PR := Go.Proofs.Tryz.prog
abbrev int (n : Int) : AV := .val (.int .i64 n)
abbrev key (r : Int) : MK := .i .i64 r
abbrev nilSl : AV := .val (.slice none 0 0)
def ints (l : List Nat) : List (List AV) := l.map fun i : Nat => [int (i : Int)]

/-- The cells of a region. -/
def RowAt (σ : AHeap) (v : AV) (c : Row) : Prop :=
  (∀ el ∈ c, el.length = 10) ∧ ((v = nilSl ∧ c = []) ∨ ∃ q rest, v = .own q c.length ∧ σ.get q = some (.cells 10 (c ++ rest)))
theorem RowAt.mono {σ τ : AHeap} {v c} (h : RowAt σ v c) (hg : ∀ q n, v = .own q n → τ.get q = σ.get q) : RowAt τ v c := by
  refine ⟨h.1, ?_⟩
  rcases h.2 with h | ⟨q, rest, rfl, h'⟩
  · exact .inl h
  · exact .inr ⟨q, rest, rfl, by rw [hg _ _ rfl]; exact h'⟩
theorem gone_get {v : AV} {σ : AHeap} {j : Nat} (h : ∀ n, v ≠ .own j n) : (gone v σ).get j = σ.get j := by
  unfold gone
  split
  · rename_i q n
    exact AHeap.del_ne fun e => h n (by rw [e])
  · rfl
theorem RowAt.rows {σ v c} (h : RowAt σ v c) : Rows σ 10 v c := by
  rcases h with ⟨_, h | h⟩
  · exact .inl h
  · exact .inr (.inr h)

structure At (σ : AHeap) (id mid lid : Nat) (es : List (MK × AV)) (s : S) : Prop where
  obj : σ.get id = some (.cells 7 [[int s.R, int s.C, .mp mid, .own lid s.live.length, int s.L.length, int s.cells, int s.most]])
  map : σ.get mid = some (.map es)
  keys : keysFit (.int .i64) es = true
  uniq : Uniq es
  lv : ∃ rest, σ.get lid = some (.cells 1 (ints s.live ++ rest))
  none : ∀ r, s.row r = none → mget es (key r) = none
  some : ∀ r c, s.row r = some c → ∃ v, mget es (key r) = some v ∧ RowAt σ v c
  ids : id ≠ mid ∧ id ≠ lid ∧ mid ≠ lid
  lt : id < σ.next ∧ mid < σ.next ∧ lid < σ.next
  apart : ∀ r q n, mget es (key r) = Option.some (.own q n) → q ≠ id ∧ q ≠ mid ∧ q ≠ lid ∧ q < σ.next
  inj : ∀ r r' q n n', mget es (key r) = Option.some (.own q n) → mget es (key r') = Option.some (.own q n') → r = r'

/-- What belongs to it. -/
def Foot (id mid lid : Nat) (es : List (MK × AV)) (i : Nat) : Prop := i = id ∨ i = mid ∨ i = lid ∨ ∃ r n, mget es (key r) = some (.own i n)
def In (σ : AHeap) (id : Nat) (s : S) (F : Nat → Prop) : Prop := ∃ mid lid es, At σ id mid lid es s ∧ ∀ i, Foot id mid lid es i → F i

/-- What stays, but for those that belong. -/
structure Off (F : Nat → Prop) (σ τ : AHeap) : Prop where
  next : σ.next ≤ τ.next
  get : ∀ i, ¬ F i → i < σ.next → τ.get i = σ.get i
def Wide (F : Nat → Prop) (n : Nat) (i : Nat) : Prop := F i ∨ n ≤ i

theorem At.grows {σ τ id mid lid es s} (h : At σ id mid lid es s) (g : Grows σ τ) : At τ id mid lid es s where
  obj := by rw [g.get _ h.lt.1]; exact h.obj
  map := by rw [g.get _ h.lt.2.1]; exact h.map
  keys := h.keys
  uniq := h.uniq
  lv := let ⟨rest, e⟩ := h.lv; ⟨rest, by rw [g.get _ h.lt.2.2]; exact e⟩
  none := h.none
  some := fun r c hr => by
    obtain ⟨v, h1, h2, h3⟩ := h.some r c hr
    refine ⟨v, h1, h2, ?_⟩
    rcases h3 with h3 | ⟨q, rest, rfl, h4⟩
    · exact .inl h3
    · exact .inr ⟨q, rest, rfl, by rw [g.get _ (h.apart _ _ _ h1).2.2.2]; exact h4⟩
  ids := h.ids
  lt := ⟨Nat.lt_of_lt_of_le h.lt.1 g.next, Nat.lt_of_lt_of_le h.lt.2.1 g.next, Nat.lt_of_lt_of_le h.lt.2.2 g.next⟩
  apart := fun r q n e => let ⟨a, b, c, d⟩ := h.apart r q n e; ⟨a, b, c, Nat.lt_of_lt_of_le d g.next⟩
  inj := h.inj
theorem In.grows {σ τ id s F} (h : In σ id s F) (g : Grows σ τ) : In τ id s F :=
  let ⟨mid, lid, es, h1, h2⟩ := h; ⟨mid, lid, es, h1.grows g, h2⟩
theorem Off.refl (F σ) : Off F σ σ := ⟨Nat.le_refl _, fun _ _ _ => rfl⟩

/-! ### Told without changing anything -/
variable {σ : AHeap} {id : Nat} {s : S} {F : Nat → Prop} {k kp : AV → AHeap → Prop}

theorem regions_ev (h : In σ id s F) (hk : k (int s.live.length) σ) : Ev PR 27 [.ptr id 0 0] σ k kp := by
  obtain ⟨mid, lid, es, h, _⟩ := h
  apply F27_ev; unfold F27
  simp [h.obj, hk]
theorem cells_ev (h : In σ id s F) (hk : k (int s.cells) σ) : Ev PR 28 [.ptr id 0 0] σ k kp := by
  obtain ⟨mid, lid, es, h, _⟩ := h
  apply F28_ev; unfold F28
  simp [h.obj, hk]
theorem most_ev (h : In σ id s F) (hk : k (int s.most) σ) : Ev PR 29 [.ptr id 0 0] σ k kp := by
  obtain ⟨mid, lid, es, h, _⟩ := h
  apply F29_ev; unfold F29
  simp [h.obj, hk]
abbrev intsZ (l : List Int) : List (List AV) := l.map fun i => [int i]
theorem live_ev (h : In σ id s F) {x : AV} {l : List Int} (hr : Rows σ 1 x (intsZ l)) (hl : l.length < 4611686018427387904) (hk : k (.val (.bool (l.all fun r => (s.row r).isSome))) σ) : Ev PR 125 [.ptr id 0 0, x] σ k kp := by
  obtain ⟨mid, lid, es, h, _⟩ := h
  apply F125_ev; unfold F125
  refine seqW_in ?_
  simp [hr.len]
  refine loopW_by (fun i : Nat => [(0, AV.ptr id 0 0), (9, x), (10, int l.length), (11, int i)]) (fun i τ => τ = σ ∧ i ≤ l.length ∧ ∀ r ∈ l.take i, (s.row r).isSome = true) (fun fr _ => l.length - (intOf (look fr 11)).toNat) 0 (by simp) ⟨rfl, by simp, by simp⟩ ?_
  rintro i τ ⟨rfl, hi, hall⟩
  simp
  by_cases hlt : i < l.length
  · obtain ⟨r, hr'⟩ : ∃ r, l[i]? = some r := ⟨_, List.getElem?_eq_getElem hlt⟩
    obtain ⟨p, hp, hpt⟩ := hr.at (i := i) (el := [int r]) (by simp [hr']) rfl .i64
    have htake : l.take (i + 1) = l.take i ++ [r] := by rw [List.take_add_one, hr']; rfl
    simp [hlt, hp, hpt.load, h.obj]
    rw [aLookup_mp (q := key r) rfl rfl h.map h.keys]
    cases hrow : s.row r with
    | none =>
      simp [h.none r hrow]
      have : l.all (fun r => (s.row r).isSome) = false := by
        rw [List.all_eq_false]
        exact ⟨r, List.mem_of_getElem? hr', by simp [hrow]⟩
      rwa [this] at hk
    | some c =>
      obtain ⟨v, hv, _⟩ := h.some r c hrow
      simp [hv]
      rw [wrap64 (by omega)]
      refine ⟨⟨i + 1, by simp, by omega, ?_⟩, by omega⟩
      rw [htake]
      intro r' hr''
      rcases List.mem_append.1 hr'' with h1 | h1
      · exact hall r' h1
      · simp at h1; subst h1; simp [hrow]
  · have : l.all (fun r => (s.row r).isSome) = true := by
      rw [List.all_eq_true]
      intro r hr'
      exact hall r (by rw [List.take_of_length_le (by omega)]; exact hr')
    rw [this] at hk
    simp [hlt, hk]

/-! ### What changes it -/
structure Ok (s : S) : Prop where
  R : 1 ≤ s.R ∧ s.R ≤ 1048576
  C : 0 ≤ s.C ∧ s.C ≤ 4194304
  live : s.live.length ≤ s.R
  cells : s.cells ≤ s.C
  most : 0 ≤ s.most ∧ s.most ≤ s.C
  len : s.L.length < 4611686018427387904

theorem push_ev (h : In σ id s F) (ok : Ok s)
    (hk : if s.live.length < s.R then ∀ σ', In σ' id s.more (Wide F σ.next) → Off F σ σ' → k (.tup [int s.L.length, .val (.bool true)]) σ' else k (.tup [int 0, .val (.bool false)]) σ) : Ev PR 78 [.ptr id 0 0] σ k kp := by
  obtain ⟨mid, lid, es, h, hF⟩ := h
  apply F78_ev; unfold F78
  simp [h.obj]
  by_cases hlt : (s.live.length : Int) < s.R
  · rw [if_pos hlt] at hk
    have := ok.R
    have := ok.len
    obtain ⟨rest, hlv⟩ := h.lv
    have i1 := h.ids.1
    have i2 := h.ids.2.1
    have i3 := h.ids.2.2
    have l1 := h.lt.1
    have l2 := h.lt.2.1
    have l3 := h.lt.2.2
    simp [show ¬ s.R ≤ (s.live.length : Int) by omega, h.obj]
    refine stepK_of (aAppend_rows (xs := ints s.live) (ys := [[int s.L.length]]) (.inr (.inr ⟨lid, rest, by simp [ints], by simp [get_new, get_set, Ne.symm i2, Nat.ne_of_lt l3, hlv]⟩)) (by simp) (.inr (.inr ⟨σ.next, [], rfl, by simp [get_new]⟩)) (by simp [ints]; omega)) ?_
    simp [gone, get_new, get_set, get_del, i1, i2, i3, Ne.symm i1, Nat.ne_of_lt l1, lt_next l1]
    refine stepK_of (by rw [aMapUpdate_mp (q := key s.L.length) (es := es) rfl rfl (by simp [get_new, get_set, get_del, i1, i2, i3, Ne.symm i1, Nat.ne_of_lt l2, lt_next l2, h.map]) h.keys]; rfl) ?_
    have hnr : s.row s.L.length = Option.none := by simp [SG.row, at_nat, rowAt]
    apply hk
    · refine ⟨mid, σ.next + 1, mset es (key s.L.length) nilSl, ?_, ?_⟩
      · refine { obj := ?_, map := ?_, keys := keysFit_mset h.keys rfl _, uniq := h.uniq.mset _ _, lv := ⟨[], ?_⟩, none := ?_, some := ?_, ids := ?_, lt := ?_, apart := ?_, inj := ?_ }
        · simp [get_set, i1]
          rw [wrap64 (by omega)]
          exact ⟨rfl, rfl, by rw [SG.live_more]; simp [ints], by simp [SG.more], by rw [SG.cells_more], rfl⟩
        · simp [get_set]
        · simp [get_set, get_new, SG.live_more, ints, Ne.symm (Nat.ne_of_lt (Nat.lt_succ_of_lt l1)), Ne.symm (Nat.ne_of_lt (Nat.lt_succ_of_lt l2))]
        · intro r hr
          rw [SG.row_more] at hr
          split at hr
          · cases hr
          · rename_i e
            rw [mget_mset, if_neg (by simpa using e)]
            exact h.none r hr
        · intro r c hr
          rw [SG.row_more] at hr
          rw [mget_mset]
          split at hr
          · rename_i e
            cases hr
            exact ⟨nilSl, by simp [e], by simp, .inl ⟨rfl, rfl⟩⟩
          · rename_i e
            rw [if_neg (by simpa using e)]
            obtain ⟨v, h1, h2, h3⟩ := h.some r c hr
            refine ⟨v, h1, h2, ?_⟩
            rcases h3 with h3 | ⟨q, rest, rfl, h4⟩
            · exact .inl h3
            · obtain ⟨a1, a2, a3, a4⟩ := h.apart _ _ _ h1
              exact .inr ⟨q, rest, rfl, by simp [get_set, get_new, get_del, a1, a2, a3, Nat.ne_of_lt a4, lt_next a4, h4]⟩
        · exact ⟨i1, by omega, by omega⟩
        · simp; omega
        · intro r q n e
          rw [mget_mset] at e
          split at e
          · cases e
          · obtain ⟨a1, a2, a3, a4⟩ := h.apart _ _ _ e
            simp; omega
        · intro r r' q n n' e e'
          rw [mget_mset] at e e'
          split at e
          · cases e
          · split at e'
            · cases e'
            · exact h.inj _ _ _ _ _ e e'
      · rintro i (rfl | rfl | rfl | ⟨r, n, e⟩)
        · exact .inl (hF _ (.inl rfl))
        · exact .inl (hF _ (.inr (.inl rfl)))
        · exact .inr (by omega)
        · rw [mget_mset] at e
          split at e
          · cases e
          · exact .inl (hF _ (.inr (.inr (.inr ⟨r, n, e⟩))))
    · refine ⟨by simp; omega, fun i hn hi => ?_⟩
      have n1 : i ≠ id := fun e => hn (hF _ (.inl e))
      have n2 : i ≠ mid := fun e => hn (hF _ (.inr (.inl e)))
      have n3 : i ≠ lid := fun e => hn (hF _ (.inr (.inr (.inl e))))
      simp [get_set, get_new, get_del, n1, n2, n3, Nat.ne_of_lt hi, lt_next hi]
  · rw [if_neg hlt] at hk
    simp [show s.R ≤ (s.live.length : Int) by omega, hk]

theorem At.rowsLive {σ id mid lid es s} (h : At σ id mid lid es s) : Rows σ 1 (.own lid s.live.length) (ints s.live) := by
  obtain ⟨rest, e⟩ := h.lv
  exact .inr (.inr ⟨lid, rest, by simp [ints], e⟩)

theorem pop_ev (h : In σ id s F) (ok : Ok s)
    (hk : if s.live.length < 2 then k (.val (.bool false)) σ else ∀ i, s.live.getLast? = some i → ∀ σ', In σ' id (s.less i) (Wide F σ.next) → Off F σ σ' → k (.val (.bool true)) σ') : Ev PR 91 [.ptr id 0 0] σ k kp := by
  obtain ⟨mid, lid, es, h, hF⟩ := h
  apply F91_ev; unfold F91
  simp [h.obj]
  by_cases hlt : s.live.length < 2
  · rw [if_pos hlt] at hk
    simp [show (s.live.length : Int) < 2 by omega, hk]
  · rw [if_neg hlt] at hk
    obtain ⟨i, hi⟩ : ∃ i, s.live.getLast? = some i := by
      cases hh : s.live.getLast? with
      | none => rw [List.getLast?_eq_none_iff] at hh; rw [hh] at hlt; simp at hlt
      | some i => exact ⟨i, rfl⟩
    obtain ⟨c, hc⟩ := SG.last_mem hi
    have hil := (List.getElem?_eq_some_iff.1 hc).1
    have hrow : s.row i = some c := at_of hc
    obtain ⟨v, hv, hvr⟩ := h.some _ _ hrow
    obtain ⟨rest, hlv⟩ := h.lv
    have := ok.R
    have := ok.C
    have := ok.cells
    have hcl := SG.cells_less hc
    have := ok.len
    have hlive := ok.live
    have i1 := h.ids.1
    have i2 := h.ids.2.1
    have i3 := h.ids.2.2
    have l1 := h.lt.1
    have l2 := h.lt.2.1
    have l3 := h.lt.2.2
    have hget : (ints s.live)[s.live.length - 1]? = some [int i] := by
      rw [List.getLast?_eq_getElem?] at hi
      simp [ints, hi]
    obtain ⟨p, hp, hpt⟩ := h.rowsLive.at (k := .i64) hget rfl
    have hw : IntKind.i64.wrap ((s.live.length : Int) - 1) = ((s.live.length - 1 : Nat) : Int) := by rw [wrap64 (by omega)]; omega
    simp only [show ¬ ((s.live.length : Int) < 2) by omega, decide_false, condK_false]
    simp [hw]
    refine stepP hp ?_
    simp [hpt.load, h.obj, hw]
    have hset : (σ.set id (AObj.cells 7 [[int s.R, int s.C, AV.mp mid, AV.own lid (s.live.length - 1), int s.L.length, int s.cells, int s.most]])).get mid = some (.map es) := by
      rw [get_set, if_neg (Ne.symm i1)]; exact h.map
    refine stepP (aLookup_mp (q := key i) rfl rfl hset h.keys) ?_
    simp [hv]
    have hlen : aLenK .slice v (σ.set id (AObj.cells 7 [[int s.R, int s.C, AV.mp mid, AV.own lid (s.live.length - 1), int s.L.length, int s.cells, int s.most]])) = some (int c.length) := by
      rcases hvr with ⟨_, ⟨rfl, rfl⟩ | ⟨q, rest, rfl, _⟩⟩ <;> rfl
    refine stepP hlen ?_
    simp [get_set]
    refine stepK_of (by rw [aMapDelete_mp (q := key i) (es := es) rfl rfl (by simp [get_set, Ne.symm i1, h.map]) h.keys]; rfl) ?_
    refine hk i hi _ ⟨mid, lid, mdel es (key i), ?_, ?_⟩ ?_
    · refine { obj := ?_, map := ?_, keys := keysFit_mdel h.keys _, uniq := h.uniq.mdel _, lv := ⟨[int i] :: rest, ?_⟩, none := ?_, some := ?_, ids := h.ids, lt := h.lt, apart := ?_, inj := ?_ }
      · simp [get_set, i1]
        rw [wrap64 (by omega), SG.live_less hi]
        exact ⟨rfl, rfl, by simp, by simp [SG.less], by omega, rfl⟩
      · simp [get_set]
      · have hsplit : s.live = s.live.dropLast ++ [i] := by
          obtain ⟨m, e⟩ := List.getLast?_eq_some_iff.1 hi
          rw [e]; simp
        simp [get_set, i2, Ne.symm i2, Ne.symm i3, hlv]
        rw [SG.live_less hi]
        conv => lhs; rw [hsplit]
        simp [ints]
      · intro r hr
        rw [SG.row_less hil] at hr
        rw [mget_mdel h.uniq]
        split
        · rfl
        · rename_i e
          rw [if_neg (by simpa using e)] at hr
          exact h.none r hr
      · intro r c' hr
        rw [SG.row_less hil] at hr
        split at hr
        · cases hr
        · rename_i e
          rw [mget_mdel h.uniq, if_neg (by simpa using e)]
          obtain ⟨v, h1, h2, h3⟩ := h.some r c' hr
          refine ⟨v, h1, h2, ?_⟩
          rcases h3 with h3 | ⟨q, rest, rfl, h4⟩
          · exact .inl h3
          · obtain ⟨a1, a2, a3, a4⟩ := h.apart _ _ _ h1
            exact .inr ⟨q, rest, rfl, by simp [get_set, a1, a2, h4]⟩
      · intro r q n e
        rw [mget_mdel h.uniq] at e
        split at e
        · cases e
        · exact h.apart _ _ _ e
      · intro r r' q n n' e e'
        rw [mget_mdel h.uniq] at e e'
        split at e
        · cases e
        · split at e'
          · cases e'
          · exact h.inj _ _ _ _ _ e e'
    · rintro j (rfl | rfl | rfl | ⟨r, n, e⟩)
      · exact .inl (hF _ (.inl rfl))
      · exact .inl (hF _ (.inr (.inl rfl)))
      · exact .inl (hF _ (.inr (.inr (.inl rfl))))
      · rw [mget_mdel h.uniq] at e
        split at e
        · cases e
        · exact .inl (hF _ (.inr (.inr (.inr ⟨r, n, e⟩))))
    · refine ⟨Nat.le_refl _, fun j hn hj => ?_⟩
      have n1 : j ≠ id := fun e => hn (hF _ (.inl e))
      have n2 : j ≠ mid := fun e => hn (hF _ (.inr (.inl e)))
      simp [get_set, n1, n2]

abbrev u8 (n : Int) : AV := .val (.int .u8 n)
abbrev zeroV : AV := .agg [u8 0, int 0, int 0, int 0]

/-- The three rows that a call leaves behind. -/
theorem put_ev (h : In σ id s F) (ok : Ok s) {r : Int} {c : List AV} (hc : c.length = 10)
    (hk : match s.row r with
      | none => ∀ τ, Grows σ τ → k (.tup [zeroV, int 6]) τ
      | some row => if s.C ≤ s.cells then ∀ τ, Grows σ τ → k (.tup [zeroV, int 3]) τ
        else ∀ i : Nat, r = i → s.L[i]? = some (true, row) → ∀ τ, In τ id (s.putC i row c) (Wide F σ.next) → Off F σ τ → k (.tup [.agg [u8 2, int 0, int r, int row.length], int 0]) τ) : Ev PR 126 [.ptr id 0 0, int r, .agg c] σ k kp := by
  apply F126_ev; unfold F126
  simp [hc]
  generalize hτ : ((σ.new (.cells 10 [c])).new (.cells 4 [[u8 0, int 0, int 0, int 0]])).new (.cells 1 [[int r]]) = τ
  have hg : Grows σ τ := by rw [← hτ]; exact ((Grows.new _ _).trans (Grows.new _ _)).trans (Grows.new _ _)
  have hn : τ.next = σ.next + 3 := by rw [← hτ]; rfl
  have g5 : τ.get σ.next = some (.cells 10 [c]) := by rw [← hτ]; simp [get_new]; omega
  have g6 : τ.get (σ.next + 1) = some (.cells 4 [[u8 0, int 0, int 0, int 0]]) := by rw [← hτ]; simp [get_new]
  have g7 : τ.get (σ.next + 2) = some (.cells 1 [[int r]]) := by rw [← hτ]; simp [get_new]
  have h' := h.grows hg
  refine live_ev h' (l := [r]) (.inr (.inr ⟨σ.next + 2, [], rfl, by simpa using g7⟩)) (by simp) ?_
  obtain ⟨mid, lid, es, h0, hF⟩ := h
  have h := h0.grows hg
  have i1 := h.ids.1
  have i2 := h.ids.2.1
  have i3 := h.ids.2.2
  have l1 := h0.lt.1
  have l2 := h0.lt.2.1
  have l3 := h0.lt.2.2
  cases hrow : s.row r with
  | none =>
    rw [hrow] at hk
    simp [hrow, g6]
    exact hk _ (hg.set (by omega) _)
  | some row =>
    rw [hrow] at hk
    simp only at hk
    simp [hrow, h.obj]
    by_cases hlt : s.C ≤ s.cells
    · rw [if_pos hlt] at hk
      simp [hlt, g6]
      exact hk _ (hg.set (by omega) _)
    · rw [if_neg hlt] at hk
      obtain ⟨i, rfl, hL, hil⟩ := SG.row_nat hrow
      obtain ⟨v, hv, hvr⟩ := h.some _ _ hrow
      have hvr0 := hvr.rows
      have := ok.C
      have := ok.cells
      have hrl : row.length ≤ s.cells := tot_row hL
      have hcp := SG.cells_put (c' := row ++ [c]) hL
      have n1 : σ.next ≠ id := by omega
      have n2 : σ.next ≠ mid := by omega
      have n3 : σ.next + 1 ≠ id := by omega
      have n4 : σ.next + 1 ≠ mid := by omega
      simp [hlt, h.obj, get_set, wrap64 (n := (s.cells : Int) + 1) (by omega)]
      refine stepP (aLookup_mp (q := key i) (es := es) rfl rfl (by simp [get_set, Ne.symm i1, h.map]) h.keys) ?_
      simp [hv, get_set, g5, n1, hc, List.take_of_length_le (Nat.le_of_eq hc)]
      generalize hT : (τ.set id (AObj.cells 7 [[int s.R, int s.C, AV.mp mid, AV.own lid s.live.length, int s.L.length, AV.val (Value.int IntKind.i64 ((s.cells : Int) + 1)), int s.most]])).set id (AObj.cells 7 [[int s.R, int s.C, AV.mp mid, AV.own lid s.live.length, int s.L.length, AV.val (Value.int IntKind.i64 ((s.cells : Int) + 1)), AV.val (Value.int IntKind.i64 (if s.most < (s.cells : Int) + 1 then (s.cells : Int) + 1 else s.most))]]) = T
      have t0 : T.get id = some (AObj.cells 7 [[int s.R, int s.C, AV.mp mid, AV.own lid s.live.length, int s.L.length, AV.val (Value.int IntKind.i64 ((s.cells : Int) + 1)), AV.val (Value.int IntKind.i64 (if s.most < (s.cells : Int) + 1 then (s.cells : Int) + 1 else s.most))]]) := by rw [← hT]; simp
      have t1 : ∀ j, j ≠ id → T.get j = τ.get j := by intro j hj; rw [← hT]; simp [get_set, hj]
      have t2 : T.next = σ.next + 3 := by rw [← hT]; exact hn
      have hap : ∀ q n, v = .own q n → q ≠ id ∧ q ≠ mid ∧ q ≠ lid ∧ q < σ.next := fun q n e => h0.apart _ _ _ (by rw [hv, e])
      have hvT : RowAt T v row := hvr.mono fun q n e => t1 q (hap q n e).1
      have hns : ∀ c', v ≠ .sl c' 10 row := by
        intro c' e
        rcases hvr.2 with ⟨e', _⟩ | ⟨q, rest, e', _⟩ <;> rw [e] at e' <;> cases e'
      refine stepK_of (aAppend_rows hvT.rows hns (.inr (.inl ⟨true, rfl⟩)) (by simp; omega)) ?_
      generalize hU : (gone v T).new (.cells 10 (row ++ [c])) = U
      have u0 : ∀ j, j ≠ σ.next + 3 → (∀ n, v ≠ .own j n) → U.get j = T.get j := by
        intro j hj hv'
        rw [← hU, get_new, gone_next, t2, if_neg hj, gone_get hv']
      have u1 : U.get (σ.next + 3) = some (.cells 10 (row ++ [c])) := by rw [← hU, ← t2]; simp [get_new]
      have u2 : U.next = σ.next + 4 := by rw [← hU]; simp [t2]
      have uid : U.get id = T.get id := u0 _ (by omega) (fun n e => (hap _ _ e).1 rfl)
      have umid : U.get mid = some (.map es) := by rw [u0 _ (by omega) (fun n e => (hap _ _ e).2.1 rfl), t1 _ (Ne.symm i1)]; exact h.map
      simp [uid, t0]
      refine stepU (aMapUpdate_mp (q := key i) rfl rfl umid h.keys) ?_
      have hK : keysFit (.int .i64) (mset es (key i) (.own T.next (row.length + 1))) = true := keysFit_mset h.keys rfl _
      generalize hV : U.set mid (.map (mset es (key i) (.own T.next (row.length + 1)))) = V
      have v0 : V.get mid = some (.map (mset es (key i) (.own T.next (row.length + 1)))) := by rw [← hV]; simp
      have v1 : ∀ j, j ≠ mid → V.get j = U.get j := by intro j hj; rw [← hV]; simp [get_set, hj]
      have v2 : V.next = σ.next + 4 := by rw [← hV]; exact u2
      have v6 : V.get (σ.next + 1) = some (.cells 4 [[u8 0, int 0, int 0, int 0]]) := by
        rw [v1 _ (by omega), u0 _ (by omega) (fun n e => by have := (hap _ _ e).2.2.2; omega), t1 _ (by omega)]; exact g6
      simp [v1 _ i1, uid, t0]
      refine stepP (aLookup_mp (q := key i) rfl rfl v0 hK) ?_
      simp [mget_mset, wrap64 (n := (row.length : Int)) (by omega), v6]
      refine hk i rfl hL _ ⟨mid, lid, mset es (key i) (.own T.next (row.length + 1)), ?_, ?_⟩ ?_
      · have hw1 : ∀ j, j ≠ σ.next + 1 → j ≠ mid → j ≠ id → j ≠ σ.next + 3 → (∀ n, v ≠ .own j n) → (V.set (σ.next + 1) (.cells 4 [[.val (.int .u8 2), .val (.int .i64 0), .val (.int .i64 i), .val (.int .i64 row.length)]])).get j = τ.get j := by
          intro j a b c' d e
          rw [get_set, if_neg a, v1 _ b, u0 _ d e, t1 _ c']
        refine { obj := ?_, map := ?_, keys := hK, uniq := h.uniq.mset _ _, lv := ?_, none := ?_, some := ?_, ids := h.ids, lt := ?_, apart := ?_, inj := ?_ }
        · rw [get_set, if_neg (by omega), v1 _ i1, uid, t0]
          have e1 : (s.putC i row c).live = s.live := idx_set hL
          have e2 : ((s.putC i row c).cells : Int) = s.cells + 1 := by
            have : (s.putC i row c).cells = (s.put i (row ++ [c])).cells := rfl
            rw [this]; simp at hcp; omega
          rw [e1, e2]
          simp [SG.putC]
        · rw [get_set, if_neg (by omega), v0]
        · obtain ⟨rest, hlv⟩ := h.lv
          have e1 : (s.putC i row c).live = s.live := idx_set hL
          rw [e1]
          exact ⟨rest, by rw [hw1 _ (by omega) (Ne.symm i3) (Ne.symm i2) (by omega) (fun n e => (hap _ _ e).2.2.1 rfl)]; exact hlv⟩
        · intro r hr
          have hr' : (s.put i (row ++ [c])).row r = none := hr
          rw [SG.row_put hil] at hr'
          split at hr'
          · cases hr'
          · rename_i e
            rw [mget_mset, if_neg (by simpa using e)]
            exact h.none r hr'
        · intro r c' hr
          have hr' : (s.put i (row ++ [c])).row r = some c' := hr
          rw [SG.row_put hil] at hr'
          rw [mget_mset]
          split at hr'
          · rename_i e
            subst e
            cases hr'
            refine ⟨_, if_pos rfl, ?_, .inr ⟨T.next, [], by simp, ?_⟩⟩
            · intro el hel
              rcases List.mem_append.1 hel with h1 | h1
              · exact hvr.1 el h1
              · simp at h1; rw [h1]; exact hc
            · rw [t2, get_set, if_neg (by omega), v1 _ (by omega), u1]; simp
          · rename_i e
            rw [if_neg (by simpa using e)]
            obtain ⟨v', h1, h2⟩ := h.some r c' hr'
            refine ⟨v', h1, h2.mono fun q n e' => ?_⟩
            obtain ⟨a1, a2, a3, a4⟩ := h0.apart r q n (by rw [h1, e'])
            refine hw1 _ (by omega) a2 a1 (by omega) fun n' e2 => ?_
            exact e (h.inj r i q n n' (by rw [h1, e']) (by rw [hv, e2]))
        · show id < V.next ∧ mid < V.next ∧ lid < V.next
          omega
        · intro r q n e
          show _ ∧ _ ∧ _ ∧ q < V.next
          rw [mget_mset] at e
          split at e
          · cases e; omega
          · obtain ⟨a1, a2, a3, a4⟩ := h0.apart r q n e
            omega
        · intro r r' q n n' e e'
          rw [mget_mset] at e e'
          split at e
          · rename_i er
            split at e'
            · rename_i er'; cases er; cases er'; rfl
            · cases e
              have := (h0.apart _ _ _ e').2.2.2
              omega
          · split at e'
            · cases e'
              have := (h0.apart _ _ _ e).2.2.2
              omega
            · exact h.inj _ _ _ _ _ e e'
      · rintro j (rfl | rfl | rfl | ⟨r, n, e⟩)
        · exact .inl (hF _ (.inl rfl))
        · exact .inl (hF _ (.inr (.inl rfl)))
        · exact .inl (hF _ (.inr (.inr (.inl rfl))))
        · rw [mget_mset] at e
          split at e
          · cases e; exact .inr (by omega)
          · exact .inl (hF _ (.inr (.inr (.inr ⟨r, n, e⟩))))
      · refine ⟨by show σ.next ≤ V.next; omega, fun j hj hlt => ?_⟩
        have n1 : j ≠ id := fun e => hj (hF _ (.inl e))
        have n2 : j ≠ mid := fun e => hj (hF _ (.inr (.inl e)))
        have n3 : ∀ n, v ≠ .own j n := fun n e => hj (hF _ (.inr (.inr (.inr ⟨i, n, by rw [hv, e]⟩))))
        rw [get_set, if_neg (by omega), v1 _ n2, u0 _ (by omega) n3, t1 _ n1]
        exact hg.get _ hlt

end Go.Abs.Stk
