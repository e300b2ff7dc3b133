/-
  StackPlays.
-/
import Derived.Test.YtdigiljpghgffaaStackRoomP
import Derived.Test.YtdigiljpghgffaaStackR
set_option linter.unusedVariables false
set_option linter.unusedSimpArgs false
namespace Go.Abs.Stk
open Go Go.Abs Go.Proofs.StackD
variable {σ : AHeap} {k kp : AV → AHeap → Prop}
attribute [local simp] Nat.add_assoc

/-- The store, and what stands beside it. -/
def LI (υ : AHeap) (id : Nat) (s : S) (ks : List (Nat × AObj)) : Prop :=
  ∃ F, In υ id s F ∧ (∀ j, F j → j < υ.next) ∧ ∀ p ∈ ks, ¬ F p.1 ∧ υ.get p.1 = some p.2 ∧ p.1 < υ.next
theorem LI.get {υ id s ks} (h : LI υ id s ks) {q : Nat} {o : AObj} (hm : (q, o) ∈ ks) : υ.get q = some o := by
  obtain ⟨F, _, _, h3⟩ := h
  exact (h3 _ hm).2.1
theorem LI.lt {υ id s ks} (h : LI υ id s ks) {q : Nat} {o : AObj} (hm : (q, o) ∈ ks) : q < υ.next := by
  obtain ⟨F, _, _, h3⟩ := h
  exact (h3 _ hm).2.2
theorem LI.in {υ id s ks} (h : LI υ id s ks) : ∃ F, In υ id s F := by
  obtain ⟨F, h1, _⟩ := h; exact ⟨F, h1⟩
theorem LI.grows {υ ω id s ks} (h : LI υ id s ks) (g : Grows υ ω) : LI ω id s ks := by
  obtain ⟨F, h1, h2, h3⟩ := h
  exact ⟨F, h1.grows g, fun j hj => Nat.lt_of_lt_of_le (h2 j hj) g.next, fun p hp => ⟨(h3 p hp).1, by rw [g.get _ (h3 p hp).2.2]; exact (h3 p hp).2.1, Nat.lt_of_lt_of_le (h3 p hp).2.2 g.next⟩⟩
theorem LI.new {υ id s ks} (h : LI υ id s ks) (o : AObj) : LI (υ.new o) id s ((υ.next, o) :: ks) := by
  obtain ⟨F, h1, h2, h3⟩ := h
  refine ⟨F, h1.grows (Grows.new _ _), fun j hj => Nat.lt_succ_of_lt (h2 j hj), fun p hp => ?_⟩
  rcases List.mem_cons.1 hp with rfl | hp
  · exact ⟨fun e => Nat.lt_irrefl _ (h2 _ e), by simp, Nat.lt_succ_self _⟩
  · exact ⟨(h3 p hp).1, by rw [get_new, if_neg (Nat.ne_of_lt (h3 p hp).2.2)]; exact (h3 p hp).2.1, Nat.lt_succ_of_lt (h3 p hp).2.2⟩
theorem At.other {υ : AHeap} {id mid lid : Nat} {es : List (MK × AV)} {s : S} (h : At υ id mid lid es s) {q : Nat} (hq : ¬ Foot id mid lid es q) (o : AObj) : At (υ.set q o) id mid lid es s := by
  have hne : ∀ j, Foot id mid lid es j → (υ.set q o).get j = υ.get j := fun j hj => by rw [get_set, if_neg (fun e => hq (by subst e; exact hj))]
  obtain ⟨r1, r2⟩ := h.lv
  exact { obj := by rw [hne _ (.inl rfl)]; exact h.obj, map := by rw [hne _ (.inr (.inl rfl))]; exact h.map, keys := h.keys, uniq := h.uniq,
          lv := ⟨r1, by rw [hne _ (.inr (.inr (.inl rfl)))]; exact r2⟩, none := h.none,
          some := fun r c hr => by
            obtain ⟨v, a, b⟩ := h.some r c hr
            exact ⟨v, a, b.mono fun q n' e => hne q (.inr (.inr (.inr ⟨r, n', by rw [a, e]⟩)))⟩
          ids := h.ids, lt := h.lt, apart := h.apart, inj := h.inj }
theorem LI.set {υ id s ks} {q : Nat} {o : AObj} (h : LI υ id s ((q, o) :: ks)) (hne : ∀ p ∈ ks, p.1 ≠ q) (o' : AObj) : LI (υ.set q o') id s ((q, o') :: ks) := by
  obtain ⟨F, ⟨mid, lid, es, h1, h1'⟩, h2, h3⟩ := h
  have hq := h3 (q, o) (by simp)
  refine ⟨F, ⟨mid, lid, es, h1.other (fun e => hq.1 (h1' _ e)) o', h1'⟩, h2, fun p hp => ?_⟩
  rcases List.mem_cons.1 hp with rfl | hp'
  · exact ⟨hq.1, by simp, hq.2.2⟩
  · have := h3 p (by simp [hp'])
    exact ⟨this.1, by rw [get_set, if_neg (hne p hp')]; exact this.2.1, this.2.2⟩
theorem LI.swap {υ id s a b ks} (h : LI υ id s (a :: b :: ks)) : LI υ id s (b :: a :: ks) := by
  obtain ⟨F, h1, h2, h3⟩ := h
  exact ⟨F, h1, h2, fun p hp => h3 p (by simp at hp ⊢; rcases hp with h | h | h <;> simp [h])⟩
theorem LI.sub {υ id s ks ks'} (h : LI υ id s ks) (hs : ∀ p ∈ ks', p ∈ ks) : LI υ id s ks' := by
  obtain ⟨F, h1, h2, h3⟩ := h
  exact ⟨F, h1, h2, fun p hp => h3 p (hs p hp)⟩
theorem LI.call {υ id s ks} (h : LI υ id s ks) : ∃ F, In υ id s F ∧ ∀ ω s', In ω id s' (Wide F υ.next) → Off F υ ω → LI ω id s' ks := by
  obtain ⟨F, h1, h2, h3⟩ := h
  refine ⟨F, h1, fun ω s' hin hoff => ⟨_, hin.cut, fun j hj => hj.2, fun p hp => ?_⟩⟩
  have := h3 p hp
  exact ⟨fun e => e.1.elim this.1 fun e => by omega, by rw [hoff.get _ this.1 this.2.2]; exact this.2.1, Nat.lt_of_lt_of_le this.2.2 hoff.next⟩

theorem new_LI {r c : Int} {ks : List (Nat × AObj)} (h : ∀ p ∈ ks, σ.get p.1 = some p.2 ∧ p.1 < σ.next) (hk : ∀ id τ, LI τ id (S.new r c) ks → k (.ptr id 0 0) τ) : Ev PR 8 [.agg [int r, int c]] σ k kp := by
  refine new_ev fun id τ hid hin hoff => hk id τ ⟨_, hin.cut, fun j hj => hj.2, fun p hp => ?_⟩
  obtain ⟨h1, h2⟩ := h p hp
  exact ⟨fun e => by have := e.1; omega, by rw [hoff.get _ (by omega) h2]; exact h1, Nat.lt_of_lt_of_le h2 hoff.next⟩

abbrev objS (s : S) : AObj := .cells 4 [[int s.R, int s.C, .sl false 2 (rowsV s.L), int s.most]]
structure PP (s : S) (i : Nat) : Prop where
  inv : Inv s
  cok : Cok s.L
  len : s.L.length ≤ i + 1

theorem PP.push {s : S} {i : Nat} (h : PP s i) (hi : i < 200) (hl : s.live.length < s.R) : PP s.more (i + 1) :=
  ⟨h.inv.more hl (by have := h.len; omega), fun p hp => by
    rcases List.mem_append.1 hp with h1 | h1
    · exact h.cok p h1
    · simp at h1; subst h1; simp, by simp [S.more]; have := h.len; omega⟩
theorem PP.stay {s : S} {i : Nat} (h : PP s i) : PP s (i + 1) := ⟨h.inv, h.cok, by have := h.len; omega⟩
theorem PP.pop {s : S} {i : Nat} (h : PP s i) (hl : ¬ s.live.length < 2) {q : Nat} (hq : s.live.getLast? = some q) : PP (s.less q) (i + 1) :=
  ⟨h.inv.less hl hq, fun p hp => by
    rcases List.mem_or_eq_of_mem_set hp with h1 | h1
    · exact h.cok p h1
    · subst h1; simp, by simp [S.less]; have := h.len; omega⟩
theorem PP.putC {s : S} {i : Nat} (h : PP s i) {q : Nat} {row : Row} {c : List AV} (hc : CellOk c) (hq : s.L[q]? = some (true, row)) (hC : ¬ s.C ≤ s.cells) : PP (s.putC q row c) (i + 1) :=
  ⟨h.inv.putC hq hC, fun p hp => by
    rcases List.mem_or_eq_of_mem_set hp with h1 | h1
    · exact h.cok p h1
    · subst h1
      intro x hx
      rcases List.mem_append.1 hx with h2 | h2
      · exact h.cok _ (List.mem_of_getElem? hq) x h2
      · simp at h2; subst h2; exact hc, by simp [S.putC]; have := h.len; omega⟩
theorem PP.put {s : S} {i : Nat} (h : PP s i) {q j : Nat} {row : Row} {c : List AV} (hc : CellOk c) (hq : s.L[q]? = some (true, row)) (hj : j < row.length) : PP (s.put q (row.set j c)) (i + 1) := by
  have hcell := S.cells_put (c' := row.set j c) hq
  have e1 : (s.put q (row.set j c)).cells = s.cells := by simp at hcell; omega
  have ok := h.inv.ok
  have hm := h.inv.most
  obtain ⟨d, hd⟩ := h.inv.first
  refine ⟨⟨⟨ok.R, ok.C, ?_, ?_, ok.most, ?_⟩, ?_, ?_⟩, fun p hp => ?_, ?_⟩
  · rw [S.live_put hq]; exact ok.live
  · rw [e1]; exact ok.cells
  · simp [S.put]; exact ok.len
  · rw [e1]; exact hm
  · by_cases h0 : q = 0
    · subst h0
      refine ⟨row.set j c, ?_⟩
      show (s.L.set 0 _)[0]? = _
      rw [List.getElem?_set_self (List.getElem?_eq_some_iff.1 hq).1]
    · refine ⟨d, ?_⟩
      show (s.L.set q _)[0]? = _
      rw [List.getElem?_set_ne h0]; exact hd
  · rcases List.mem_or_eq_of_mem_set hp with h1 | h1
    · exact h.cok p h1
    · subst h1
      intro x hx
      rcases List.mem_or_eq_of_mem_set hx with h2 | h2
      · exact h.cok _ (List.mem_of_getElem? hq) x h2
      · subst h2; exact hc
  · simp [S.put]; have := h.len; omega

/-- An act that came in. -/
def Act (el : List AV) : Prop := ∃ kd r a n vr va c, el = int kd :: int r :: u8 a :: int n :: int vr :: int va :: c ∧ CellOk c

set_option maxHeartbeats 1600000 in
theorem plays_ev {R C : Int} {xs : List (List AV)} (hxs : ∀ el ∈ xs, Act el) (hk : ∀ τ, k (.val (.bool true)) τ) : Ev PR 5 [.agg [int R, int C], .sl false 16 xs] σ k kp := by
  apply F5_ev; unfold F5
  simp
  by_cases hlen : (200 : Int) < xs.length
  · simp [hlen]
    exact awake_ev fun τ _ => hk τ
  · simp [hlen]
    refine seqW_by (fun fr ω => ∃ id b, fr = [(1, .sl false 16 xs), (5, .ptr id 0 0), (6, .ptr b 0 0)] ∧ LI ω id (S.new R C) [(b, objS (S.new R C))]) ?_ ?_
    · refine ⟨?_, ?_, ?_⟩
      · refine new_LI (ks := [(σ.next, .cells 2 [[int R, int C]])]) (by simp) fun id τ hLI => ?_
        have g0 := hLI.get (q := σ.next) (o := .cells 2 [[int R, int C]]) (by simp)
        have l0 := hLI.lt (q := σ.next) (o := .cells 2 [[int R, int C]]) (by simp)
        simp [g0]
        refine new_ref ?_
        simp [get_new, Nat.ne_of_lt l0, g0]
        exact ⟨id, _, ⟨rfl, rfl⟩, ((hLI.new _).set (by simp; omega) _).sub (by simp)⟩
      · refine new_LI (ks := [(σ.next, .cells 2 [[int R, int C]])]) (by simp) fun id τ hLI => ?_
        have g0 := hLI.get (q := σ.next) (o := .cells 2 [[int R, int C]]) (by simp)
        have l0 := hLI.lt (q := σ.next) (o := .cells 2 [[int R, int C]]) (by simp)
        have hLI2 := hLI.new (.cells 4 [[int 0, int 0, nilSl, int 0]])
        simp [g0, get_new, Nat.ne_of_lt l0]
        refine new_ref ?_
        simp [get_new, Nat.ne_of_lt l0, g0]
        exact ⟨id, _, ⟨rfl, rfl⟩, (hLI2.set (by simp; omega) _).sub (by simp)⟩
      · simp [get_new]
        refine new_LI (σ := (σ.new (.cells 2 [[int R, int C]])).new (.cells 4 [[int 0, int 0, nilSl, int 0]])) (ks := [(σ.next, .cells 2 [[int R, int C]]), (σ.next + 1, .cells 4 [[int 0, int 0, nilSl, int 0]])]) (by simp [get_new]) fun id τ hLI => ?_
        have g0 := hLI.get (q := σ.next) (o := .cells 2 [[int R, int C]]) (by simp)
        have g1 := hLI.get (q := σ.next + 1) (o := .cells 4 [[int 0, int 0, nilSl, int 0]]) (by simp)
        simp [g0]
        refine new_ref ?_
        simp [g0, g1]
        exact ⟨id, _, ⟨rfl, rfl⟩, (hLI.swap.set (by simp) _).sub (by simp)⟩
    · rintro fr ω ⟨id, b, rfl, hLI⟩
      refine seqW_in ?_
      simp
      refine loopW_by (fun i : Nat => [(1, .sl false 16 xs), (5, .ptr id 0 0), (6, .ptr b 0 0), (7, int i)])
        (fun i υ => i ≤ xs.length ∧ ∃ s, LI υ id s [(b, objS s)] ∧ PP s i) (fun fr _ => xs.length - (intOf (look fr 7)).toNat) 0 (by simp)
        ⟨by simp, S.new R C, hLI, ⟨Inv.new R C, by intro p hp; simp [S.new] at hp; subst hp; simp, by simp [S.new]⟩⟩ ?_
      rintro i υ ⟨hi, s, hL, hP⟩
      simp
      by_cases hlt : i < xs.length
      · obtain ⟨el, hel⟩ := get_some hlt
        obtain ⟨kd, r, a, n, vr, va, c, rfl, hcc⟩ := hxs el (List.mem_of_getElem? hel)
        have h10 := hcc.len
        have hix : ∀ ω, aIndexAddr 16 (.sl false 16 xs) (int i) ω = some (.ref (int kd :: int r :: u8 a :: int n :: int vr :: int va :: c)) := fun ω => by rw [aIndexAddr_sl]; simp [hel]
        simp [hlt, hix, h10, List.take_of_length_le (Nat.le_of_eq h10)]
        have hbne : b ≠ υ.next := Nat.ne_of_lt (hL.lt (q := b) (o := objS s) (by simp))
        have hL1 := (hL.new (.cells 16 [[int 0, int 0, u8 0, int 0, int 0, int 0, u8 0, u8 0, int 0, int 0, int 0, u8 0, int 0, int 0, int 0, int 0]])).set (by simp; exact hbne) (.cells 16 [int kd :: int r :: u8 a :: int n :: int vr :: int va :: c])
        generalize hυ1 : (υ.new (.cells 16 [[int 0, int 0, u8 0, int 0, int 0, int 0, u8 0, u8 0, int 0, int 0, int 0, u8 0, int 0, int 0, int 0, int 0]])).set υ.next (.cells 16 [int kd :: int r :: u8 a :: int n :: int vr :: int va :: c]) = υ1 at hL1
        generalize hq8 : υ.next = q8 at hL1 hbne
        have hlenB := hP.len
        have hcells : s.cells < 1099511627776 := by have := hP.inv.ok.cells; have := hP.inv.ok.C; omega
        have hLl : s.L.length < 1099511627776 := by omega
        have hok := hP.inv.ok
        have ga : ∀ {ω s'}, LI ω id s' [(q8, .cells 16 [int kd :: int r :: u8 a :: int n :: int vr :: int va :: c]), (b, objS s')] → ω.get q8 = some (.cells 16 [int kd :: int r :: u8 a :: int n :: int vr :: int va :: c]) := fun h => h.get (by simp)
        refine seqW_by (fun fr ω => fr = [(1, .sl false 16 xs), (5, .ptr id 0 0), (6, .ptr b 0 0), (7, int i), (8, .ptr q8 0 0), (9, .val (.bool true))] ∧ ∃ s', LI ω id s' [(q8, .cells 16 [int kd :: int r :: u8 a :: int n :: int vr :: int va :: c]), (b, objS s')] ∧ PP s' (i + 1)) ?_ ?_
        · have g8 := ga hL1
          have gb := hL1.get (q := b) (o := objS s) (by simp)
          have fin : ∀ {ω s'}, LI ω id s' [(q8, .cells 16 [int kd :: int r :: u8 a :: int n :: int vr :: int va :: c]), (b, objS s)] → LI (ω.set b (objS s')) id s' [(q8, .cells 16 [int kd :: int r :: u8 a :: int n :: int vr :: int va :: c]), (b, objS s')] := fun h => ((h.swap.set (by simp; exact fun e => hbne e.symm) _).swap)
          have l8 : q8 < υ1.next := hL1.lt (o := .cells 16 [int kd :: int r :: u8 a :: int n :: int vr :: int va :: c]) (by simp)
          have lb : b < υ1.next := hL1.lt (o := objS s) (by simp)
          have hd4 : (int n :: int vr :: int va :: c).drop 3 = c := rfl
          simp [g8, gb]
          by_cases h0 : kd = 0
          · subst h0
            simp
            refine push_ref hP.cok hLl (by omega) ?_
            split
            · rename_i hR
              simp
              have hL3 := (hL1.new (.cells 4 [[int 0, int 0, nilSl, int 0]])).set (by simp; omega) (objS s.more)
              obtain ⟨F, hin, hcall⟩ := hL3.call
              refine push_ev hin hok ?_
              rw [if_pos hR]
              intro ω hin2 hoff2
              have hL4 := hcall ω _ hin2 hoff2
              have g1 := hL4.get (q := υ1.next) (o := objS s.more) (by simp)
              have g2 := hL4.get (q := b) (o := objS s) (by simp)
              simp [g1, g2]
              exact ⟨s.more, fin (hL4.sub (by simp)), hP.push (by omega) hR⟩
            · rename_i hR
              simp
              have hL3 := (hL1.new (.cells 4 [[int 0, int 0, nilSl, int 0]])).set (by simp; omega) (objS s)
              obtain ⟨F, hin⟩ := hL3.in
              refine push_ev hin hok ?_
              rw [if_neg hR]
              have g1 := hL3.get (q := υ1.next) (o := objS s) (by simp)
              have g2 := hL3.get (q := b) (o := objS s) (by simp)
              simp [g1, g2]
              exact ⟨s, fin (hL3.sub (by simp)), hP.stay⟩
          · simp [h0, gb]
            by_cases h1 : kd = 1
            · subst h1
              simp
              refine pop_ref hP.cok hLl (by omega) ?_
              split
              · rename_i h2
                simp
                have hL3 := (hL1.new (.cells 4 [[int 0, int 0, nilSl, int 0]])).set (by simp; omega) (objS s)
                obtain ⟨F, hin⟩ := hL3.in
                refine pop_ev hin hok ?_
                rw [if_pos h2]
                have g1 := hL3.get (q := υ1.next) (o := objS s) (by simp)
                have g2 := hL3.get (q := b) (o := objS s) (by simp)
                simp [g1, g2]
                exact ⟨s, fin (hL3.sub (by simp)), hP.stay⟩
              · rename_i h2
                intro q hq
                simp
                have hL3 := (hL1.new (.cells 4 [[int 0, int 0, nilSl, int 0]])).set (by simp; omega) (objS (s.less q))
                obtain ⟨F, hin, hcall⟩ := hL3.call
                refine pop_ev hin hok ?_
                rw [if_neg h2]
                intro q' hq' ω hin2 hoff2
                rw [hq] at hq'
                cases hq'
                have hL4 := hcall ω _ hin2 hoff2
                have g1 := hL4.get (q := υ1.next) (o := objS (s.less q)) (by simp)
                have g2 := hL4.get (q := b) (o := objS s) (by simp)
                simp [g1, g2]
                exact ⟨s.less q, fin (hL4.sub (by simp)), hP.pop h2 hq⟩
            · simp [h1, gb]
              by_cases h2 : kd = 2
              · subst h2
                simp [g8, h10, List.take_of_length_le (Nat.le_of_eq h10)]
                have mk : ∀ (s' : S) (vv : List AV), LI ((((υ1.new (.cells 4 [[int 0, int 0, nilSl, int 0]])).new (.cells 4 [[u8 0, int 0, int 0, int 0]])).set υ1.next (objS s')).set (υ1.next + 1) (.cells 4 [vv])) id s
                    [(υ1.next + 1, .cells 4 [vv]), (υ1.next, objS s'), (q8, .cells 16 [int 2 :: int r :: u8 a :: int n :: int vr :: int va :: c]), (b, objS s)] := by
                  intro s' vv
                  have h1 := ((hL1.new (.cells 4 [[int 0, int 0, nilSl, int 0]])).new (.cells 4 [[u8 0, int 0, int 0, int 0]])).swap
                  have h2 := (h1.set (by simp; omega) (objS s')).swap
                  exact h2.set (by simp; omega) _
                have fin2 : ∀ {ω : AHeap} {s' s2 : S} {vv : List AV}, LI ω id s2 [(υ1.next + 1, .cells 4 [vv]), (υ1.next, objS s'), (q8, .cells 16 [int 2 :: int r :: u8 a :: int n :: int vr :: int va :: c]), (b, objS s)] →
                    LI (((ω.new (.cells 4 [[u8 0, int 0, int 0, int 0]])).set ω.next (.cells 4 [vv])).set b (objS s')) id s2 [(q8, .cells 16 [int 2 :: int r :: u8 a :: int n :: int vr :: int va :: c]), (b, objS s')] := by
                  intro ω s' s2 vv h
                  have l1 := h.lt (q := υ1.next + 1) (o := .cells 4 [vv]) (by simp)
                  have h2 := (h.new (.cells 4 [[u8 0, int 0, int 0, int 0]])).set (by simp; omega) (.cells 4 [vv])
                  have h3 : LI ((ω.new (.cells 4 [[u8 0, int 0, int 0, int 0]])).set ω.next (.cells 4 [vv])) id s2 [(b, objS s), (q8, .cells 16 [int 2 :: int r :: u8 a :: int n :: int vr :: int va :: c])] := h2.sub (by simp)
                  exact (h3.set (by simp; exact fun e => hbne e.symm) _).swap
                refine put_ref hP.cok hLl (by omega) hcc ?_
                cases hrow : s.row r with
                | none =>
                  have hL3 := mk s [u8 0, int 0, int 0, int 0]
                  simp [get_new, get_set, Nat.ne_of_lt l8, lt_next l8, g8, h10, List.take_of_length_le (Nat.le_of_eq h10)]
                  generalize (((υ1.new (.cells 4 [[int 0, int 0, nilSl, int 0]])).new (.cells 4 [[u8 0, int 0, int 0, int 0]])).set υ1.next (objS s)).set (υ1.next + 1) (.cells 4 [[u8 0, int 0, int 0, int 0]]) = ω3 at hL3
                  obtain ⟨F, hin⟩ := hL3.in
                  refine put_ev hin hok h10 ?_
                  rw [hrow]
                  intro ω4 g4
                  have hL4 := hL3.grows g4
                  have k1 := hL4.get (q := υ1.next + 1) (o := .cells 4 [[u8 0, int 0, int 0, int 0]]) (by simp)
                  have k2 := hL4.get (q := υ1.next) (o := objS s) (by simp)
                  have k3 := hL4.get (q := b) (o := objS s) (by simp)
                  have m1 := hL4.lt (q := υ1.next + 1) (o := .cells 4 [[u8 0, int 0, int 0, int 0]]) (by simp)
                  have m2 := hL4.lt (q := υ1.next) (o := objS s) (by simp)
                  have m3 := hL4.lt (q := b) (o := objS s) (by simp)
                  simp [get_new, get_set, Nat.ne_of_lt m1, Nat.ne_of_lt m2, Nat.ne_of_lt m3, k1, k2, k3]
                  exact ⟨s, fin2 hL4, hP.stay⟩
                | some row =>
                  simp only
                  split
                  · rename_i hC
                    have hL3 := mk s [u8 0, int 0, int 0, int 0]
                    simp [get_new, get_set, Nat.ne_of_lt l8, lt_next l8, g8, h10, List.take_of_length_le (Nat.le_of_eq h10)]
                    generalize (((υ1.new (.cells 4 [[int 0, int 0, nilSl, int 0]])).new (.cells 4 [[u8 0, int 0, int 0, int 0]])).set υ1.next (objS s)).set (υ1.next + 1) (.cells 4 [[u8 0, int 0, int 0, int 0]]) = ω3 at hL3
                    obtain ⟨F, hin⟩ := hL3.in
                    refine put_ev hin hok h10 ?_
                    rw [hrow]
                    simp only
                    rw [if_pos hC]
                    intro ω4 g4
                    have hL4 := hL3.grows g4
                    have k1 := hL4.get (q := υ1.next + 1) (o := .cells 4 [[u8 0, int 0, int 0, int 0]]) (by simp)
                    have k2 := hL4.get (q := υ1.next) (o := objS s) (by simp)
                    have k3 := hL4.get (q := b) (o := objS s) (by simp)
                    have m1 := hL4.lt (q := υ1.next + 1) (o := .cells 4 [[u8 0, int 0, int 0, int 0]]) (by simp)
                    have m2 := hL4.lt (q := υ1.next) (o := objS s) (by simp)
                    have m3 := hL4.lt (q := b) (o := objS s) (by simp)
                    simp [get_new, get_set, Nat.ne_of_lt m1, Nat.ne_of_lt m2, Nat.ne_of_lt m3, k1, k2, k3]
                    exact ⟨s, fin2 hL4, hP.stay⟩
                  · rename_i hC
                    intro ri hri hLri
                    have hL3 := mk (s.putC ri row c) [u8 2, int 0, int r, int row.length]
                    simp [get_new, get_set, Nat.ne_of_lt l8, lt_next l8, g8, h10, List.take_of_length_le (Nat.le_of_eq h10)]
                    generalize (((υ1.new (.cells 4 [[int 0, int 0, nilSl, int 0]])).new (.cells 4 [[u8 0, int 0, int 0, int 0]])).set υ1.next (objS (s.putC ri row c))).set (υ1.next + 1) (.cells 4 [[u8 2, int 0, int r, int row.length]]) = ω3 at hL3
                    obtain ⟨F, hin, hcall⟩ := hL3.call
                    refine put_ev hin hok h10 ?_
                    rw [hrow]
                    simp only
                    rw [if_neg hC]
                    intro ri' hri' hLri' ω4 hin4 hoff4
                    have : ri = ri' := by omega
                    subst this
                    have hL4 := hcall ω4 _ hin4 hoff4
                    have k1 := hL4.get (q := υ1.next + 1) (o := .cells 4 [[u8 2, int 0, int r, int row.length]]) (by simp)
                    have k2 := hL4.get (q := υ1.next) (o := objS (s.putC ri row c)) (by simp)
                    have k3 := hL4.get (q := b) (o := objS s) (by simp)
                    have m1 := hL4.lt (q := υ1.next + 1) (o := .cells 4 [[u8 2, int 0, int r, int row.length]]) (by simp)
                    have m2 := hL4.lt (q := υ1.next) (o := objS (s.putC ri row c)) (by simp)
                    have m3 := hL4.lt (q := b) (o := objS s) (by simp)
                    simp [get_new, get_set, Nat.ne_of_lt m1, Nat.ne_of_lt m2, Nat.ne_of_lt m3, k1, k2, k3]
                    exact ⟨s.putC ri row c, fin2 hL4, hP.putC hcc hLri hC⟩
              · simp [h2, gb]
                by_cases h3 : kd = 3
                · subst h3
                  simp [g8]
                  refine get_ref hP.cok ?_ ?_
                  · intro hf
                    have hL3 := (hL1.new (.cells 10 [zeroC])).set (by simp; omega) (.cells 10 [zeroC])
                    have k8 := hL3.get (q := q8) (o := .cells 16 [int 3 :: int r :: u8 a :: int n :: int vr :: int va :: c]) (by simp)
                    simp
                    simp [k8]
                    generalize (υ1.new (.cells 10 [zeroC])).set υ1.next (.cells 10 [zeroC]) = ω3 at hL3
                    obtain ⟨F, hin⟩ := hL3.in
                    refine get_ev hin ?_ (fun h => absurd h hf)
                    intro _ ω4 g4
                    have hL4 := hL3.grows g4
                    have k1 := hL4.get (q := υ1.next) (o := .cells 10 [zeroC]) (by simp)
                    have m1 := hL4.lt (q := υ1.next) (o := .cells 10 [zeroC]) (by simp)
                    simp [get_new, get_set, Nat.ne_of_lt m1, k1]
                    exact ⟨s, (hL4.grows ((Grows.new _ _).set (Nat.le_refl _) _)).sub (by simp), hP.stay⟩
                  · intro hf row ai ce hr1 hr2 hr3
                    have hce : CellOk ce := by
                      obtain ⟨ri, _, hLri, _⟩ := S.row_nat hr1
                      exact hP.cok _ (List.mem_of_getElem? hLri) ce (List.mem_of_getElem? hr3)
                    have hce10 := hce.len
                    have hL3 := (hL1.new (.cells 10 [zeroC])).set (by simp; omega) (.cells 10 [ce])
                    have k8 := hL3.get (q := q8) (o := .cells 16 [int 3 :: int r :: u8 a :: int n :: int vr :: int va :: c]) (by simp)
                    simp [hce10]
                    simp [k8]
                    generalize (υ1.new (.cells 10 [zeroC])).set υ1.next (.cells 10 [ce]) = ω3 at hL3
                    obtain ⟨F, hin⟩ := hL3.in
                    refine get_ev hin (fun h => absurd hf h) ?_
                    intro _ ω4 g4 row' ai' ce' hr1' hr2' hr3'
                    rw [hr1] at hr1'
                    cases hr1'
                    have : ai = ai' := by omega
                    subst this
                    rw [hr3] at hr3'
                    cases hr3'
                    have hL4 := hL3.grows g4
                    have k1 := hL4.get (q := υ1.next) (o := .cells 10 [ce]) (by simp)
                    have m1 := hL4.lt (q := υ1.next) (o := .cells 10 [ce]) (by simp)
                    have heq := hce.eq
                    simp [get_new, get_set, Nat.ne_of_lt m1, k1, hce10, List.take_of_length_le (Nat.le_of_eq hce10), heq]
                    exact ⟨s, (hL4.grows ((Grows.new _ _).set (Nat.le_refl _) _)).sub (by simp), hP.stay⟩
                · simp [h3, gb, g8]
                  simp [h10, List.take_of_length_le (Nat.le_of_eq h10)]
                  refine set_ref hP.cok hLl (by omega) hcc ?_ ?_
                  · intro hf
                    have hL3 := (hL1.new (.cells 4 [[int 0, int 0, nilSl, int 0]])).set (by simp; omega) (objS s)
                    have k8 := hL3.get (q := q8) (o := .cells 16 [int kd :: int r :: u8 a :: int n :: int vr :: int va :: c]) (by simp)
                    simp
                    simp [k8, h10, List.take_of_length_le (Nat.le_of_eq h10)]
                    generalize (υ1.new (.cells 4 [[int 0, int 0, nilSl, int 0]])).set υ1.next (objS s) = ω3 at hL3
                    obtain ⟨F, hin⟩ := hL3.in
                    refine set_ev hin h10 ?_ (fun h => absurd h hf)
                    intro _ ω4 g4
                    have hL4 := hL3.grows g4
                    have k1 := hL4.get (q := υ1.next) (o := objS s) (by simp)
                    have k3 := hL4.get (q := b) (o := objS s) (by simp)
                    simp [k1, k3]
                    exact ⟨s, fin (hL4.sub (by simp)), hP.stay⟩
                  · intro hf row ri ai hr1 hr2 hr3 hr4
                    have hL3 := (hL1.new (.cells 4 [[int 0, int 0, nilSl, int 0]])).set (by simp; omega) (objS (s.put ri (row.set ai c)))
                    have k8 := hL3.get (q := q8) (o := .cells 16 [int kd :: int r :: u8 a :: int n :: int vr :: int va :: c]) (by simp)
                    simp
                    simp [k8, h10, List.take_of_length_le (Nat.le_of_eq h10)]
                    generalize (υ1.new (.cells 4 [[int 0, int 0, nilSl, int 0]])).set υ1.next (objS (s.put ri (row.set ai c))) = ω3 at hL3
                    obtain ⟨F, hin, hcall⟩ := hL3.call
                    refine set_ev hin h10 (fun h => absurd hf h) ?_
                    intro _ row' ri' ai' hr1' hr2' hr3' hr4' ω4 hin4 hoff4
                    have e1 : ri = ri' := by omega
                    subst e1
                    rw [hr2] at hr2'
                    cases hr2'
                    have e2 : ai = ai' := by omega
                    subst e2
                    have hL4 := hcall ω4 _ hin4 hoff4
                    have k1 := hL4.get (q := υ1.next) (o := objS (s.put ri (row.set ai c))) (by simp)
                    have k3 := hL4.get (q := b) (o := objS s) (by simp)
                    simp [k1, k3]
                    exact ⟨s.put ri (row.set ai c), fin (hL4.sub (by simp)), hP.put hcc hr2 hr4⟩
        · rintro fr ω ⟨rfl, s', hL', hP'⟩
          have k8 := ga hL'
          have kb := hL'.get (q := b) (o := objS s') (by simp)
          obtain ⟨F, hin⟩ := hL'.in
          have hlenB' := hP'.len
          have hcells' : s'.cells < 1099511627776 := by have := hP'.inv.ok.cells; have := hP'.inv.ok.C; omega
          simp [kb]
          refine count_ref (by omega) (by omega) ?_
          simp
          refine regions_ev hin ?_
          simp
          refine cells_ev hin ?_
          simp [kb]
          refine most_ev hin ?_
          simp [kb, k8]
          refine live_ev hin (l := [r]) (.inr (.inl ⟨true, rfl⟩)) (by simp) ?_
          simp [kb, k8]
          refine live_ref ?_
          simp [kb, k8]
          refine live_ev hin (l := [0, vr]) (.inr (.inl ⟨true, rfl⟩)) (by simp) ?_
          have hfirst : (s'.row 0).isSome = true := by
            obtain ⟨c0, hc0⟩ := hP'.inv.first
            have : s'.row ((0 : Nat) : Int) = some c0 := at_of hc0
            simp at this
            rw [this]; rfl
          simp [kb, k8, hfirst]
          refine live_ref ?_
          simp
          rw [wrap64 (by omega)]
          exact ⟨⟨i + 1, rfl, by omega, s', hL'.sub (by simp), hP'⟩, by omega⟩
      · simp [hlt]
        exact awake_ev fun _ _ => hk _

end Go.Abs.Stk
