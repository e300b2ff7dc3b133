/-
  StackFalls.
-/
import Derived.Test.YtdigiljpghgffaaStackRoomP
set_option linter.unusedVariables false
set_option linter.unusedSimpArgs false
namespace Go.Abs.Stk
open Go Go.Abs Go.Proofs.StackD
variable {σ : AHeap} {k kp : AV → AHeap → Prop}

abbrev codeC (j : Nat) : List AV := [u8 3, u8 0, int 0, int 0, int 0, u8 0, int 0, int 0, int 0, int j]
structure PI (s : S) (g : List Nat) (i : Nat) : Prop where
  inv : Inv s
  R : s.R = 300
  C : s.C = 300
  len : s.L.length ≤ i + 1
  glen : g.length ≤ i
  zero : s.L[0]? = some (true, [])
  code : ∀ j c, 0 < j → s.L[j]? = some (true, c) → c = [codeC j]
  gone : ∀ j ∈ g, s.row (j : Nat) = none ∧ j < s.L.length
  cells : s.cells + 1 = s.live.length

theorem live_len (s : S) : s.live.length ≤ s.L.length := by
  have : ∀ (l : List (Bool × Row)) i, (idx l i).length ≤ l.length := by
    intro l
    induction l with
    | nil => intro i; simp [idx]
    | cons p l ih => intro i; obtain ⟨b, c⟩ := p; have := ih (i + 1); cases b <;> simp [idx] <;> omega
  exact this _ _
theorem PI.stay {s : S} {g : List Nat} {i : Nat} (h : PI s g i) : PI s g (i + 1) :=
  ⟨h.inv, h.R, h.C, by have := h.len; omega, by have := h.glen; omega, h.zero, h.code, h.gone, h.cells⟩
theorem PI.push {s : S} {g : List Nat} {i : Nat} (h : PI s g i) (hi : i < 200) : PI (s.more.putC s.L.length [] (codeC s.L.length)) g (i + 1) := by
  have hn : s.more.L[s.L.length]? = some (true, []) := by simp [S.more]
  have hlen := h.len
  have hll := live_len s
  have hc := h.cells
  have h1 : Inv s.more := h.inv.more (by rw [h.R]; omega) (by omega)
  have hC : ¬ s.more.C ≤ s.more.cells := by rw [S.cells_more]; show ¬ s.C ≤ _; rw [h.C]; omega
  have h2 : Inv (s.more.putC s.L.length [] (codeC s.L.length)) := h1.putC hn hC
  have hcp := S.cells_put (c' := [codeC s.L.length]) hn
  have e1 : (s.more.putC s.L.length [] (codeC s.L.length)).live = s.more.live := idx_set hn
  have e2 : (s.more.putC s.L.length [] (codeC s.L.length)).cells = s.cells + 1 := by
    have : (s.more.putC s.L.length [] (codeC s.L.length)).cells = (s.more.put s.L.length [codeC s.L.length]).cells := rfl
    rw [this]; rw [S.cells_more] at hcp; simp at hcp; omega
  have hz : 0 < s.L.length := (List.getElem?_eq_some_iff.1 h.zero).1
  have hL : ∀ j, (s.more.putC s.L.length [] (codeC s.L.length)).L[j]? = if j = s.L.length then some (true, [codeC s.L.length]) else s.L[j]? := by
    intro j
    show ((s.L ++ [(true, [])]).set s.L.length (true, [codeC s.L.length]))[j]? = _
    split
    · rename_i e; subst e; rw [List.getElem?_set_self (by simp)]
    · rename_i e
      rw [List.getElem?_set_ne (Ne.symm e)]
      by_cases hj : j < s.L.length
      · rw [List.getElem?_append_left hj]
      · rw [List.getElem?_append_right (by omega), List.getElem?_eq_none (by simp; omega), List.getElem?_eq_none (by omega)]
  refine ⟨h2, h.R, h.C, ?_, by have := h.glen; omega, ?_, ?_, ?_, ?_⟩
  · simp [S.putC, S.more]; omega
  · rw [hL, if_neg (by omega)]; exact h.zero
  · intro j c hj hc
    rw [hL] at hc
    split at hc
    · rename_i e; subst e; cases hc; rfl
    · exact h.code j c hj hc
  · intro j hj
    obtain ⟨a, b⟩ := h.gone j hj
    refine ⟨?_, by simp [S.putC, S.more]; omega⟩
    unfold S.row at a ⊢
    rw [at_nat] at a ⊢
    unfold rowAt at a ⊢
    rw [hL, if_neg (by omega)]
    exact a
  · rw [e1, e2, S.live_more]; simp; omega
theorem last_pos {s : S} (hl : ¬ s.live.length < 2) {i : Nat} (hi : s.live.getLast? = some i) : 0 < i := by
  obtain ⟨m, hm⟩ := List.getLast?_eq_some_iff.1 hi
  have hp := idx_pairwise s.L 0
  rw [show idx s.L 0 = s.live from rfl, hm, List.pairwise_append] at hp
  cases m with
  | nil => rw [hm] at hl; simp at hl
  | cons a m => have := hp.2.2 a (by simp) i (by simp); omega
theorem PI.pop {s : S} {g : List Nat} {i : Nat} (h : PI s g i) (hl : ¬ s.live.length < 2) {q : Nat} (hq : s.live.getLast? = some q) : PI (s.less q) (g ++ [q]) (i + 1) := by
  obtain ⟨c, hc⟩ := S.last_mem hq
  have hq0 := last_pos hl hq
  have hqL := (List.getElem?_eq_some_iff.1 hc).1
  have hcc := h.code q c hq0 hc
  have hcl := S.cells_less hc
  have hcs := h.cells
  refine ⟨h.inv.less hl hq, h.R, h.C, ?_, ?_, ?_, ?_, ?_, ?_⟩
  · simp [S.less]; have := h.len; omega
  · simp; exact h.glen
  · show (s.L.set q _)[0]? = _
    rw [List.getElem?_set_ne (by omega)]; exact h.zero
  · intro j c' hj hc'
    have : (s.L.set q (false, []))[j]? = some (true, c') := hc'
    by_cases e : q = j
    · subst e; rw [List.getElem?_set_self hqL] at this; cases this
    · rw [List.getElem?_set_ne e] at this; exact h.code j c' hj this
  · intro j hj
    rw [S.row_less hqL]
    have hlen : (s.less q).L.length = s.L.length := by simp [S.less]
    rw [hlen]
    rcases List.mem_append.1 hj with h1 | h1
    · obtain ⟨a, b⟩ := h.gone j h1
      refine ⟨?_, b⟩
      split
      · rfl
      · exact a
    · simp at h1; subst h1; exact ⟨by simp, hqL⟩
  · rw [S.live_less hq, hcc] at *
    simp at hcl ⊢
    omega

/-- The law's own rows beside the store. -/
def FI (υ : AHeap) (id : Nat) (s : S) (l g : List Nat) (xl xg : AV) : Prop :=
  ∃ F ql rl qg rg, In υ id s F ∧ xl = .own ql l.length ∧ υ.get ql = some (.cells 1 (ints l ++ rl)) ∧ ¬ F ql ∧ ql < υ.next ∧ xg = .own qg g.length ∧ υ.get qg = some (.cells 1 (ints g ++ rg)) ∧ ¬ F qg ∧ qg < υ.next ∧ ql ≠ qg
theorem FI.grows {υ ω id s l g xl xg} (h : FI υ id s l g xl xg) (hg : Grows υ ω) : FI ω id s l g xl xg := by
  obtain ⟨F, ql, rl, qg, rg, h1, h2, h3, h4, h5, h6, h7, h8, h9, h10⟩ := h
  exact ⟨F, ql, rl, qg, rg, h1.grows hg, h2, by rw [hg.get _ h5]; exact h3, h4, Nat.lt_of_lt_of_le h5 hg.next, h6, by rw [hg.get _ h9]; exact h7, h8, Nat.lt_of_lt_of_le h9 hg.next, h10⟩
theorem FI.rowsL {υ id s l g xl xg} (h : FI υ id s l g xl xg) : Rows υ 1 xl (ints l) := by
  obtain ⟨F, ql, rl, qg, rg, h1, h2, h3, h4, h5, h6, h7, h8, h9, h10⟩ := h
  exact .inr (.inr ⟨ql, rl, by simpa [ints] using h2, h3⟩)
theorem FI.rowsG {υ id s l g xl xg} (h : FI υ id s l g xl xg) : Rows υ 1 xg (ints g) := by
  obtain ⟨F, ql, rl, qg, rg, h1, h2, h3, h4, h5, h6, h7, h8, h9, h10⟩ := h
  exact .inr (.inr ⟨qg, rg, by simpa [ints] using h6, h7⟩)
theorem FI.nsl {υ id s l g xl xg} (h : FI υ id s l g xl xg) : ∀ c, xl ≠ .sl c 1 (ints l) := by
  obtain ⟨F, ql, rl, qg, rg, h1, h2, _⟩ := h
  intro c e; rw [h2] at e; cases e
theorem FI.in {υ id s l g xl xg} (h : FI υ id s l g xl xg) : ∃ F, In υ id s F := by
  obtain ⟨F, ql, rl, qg, rg, h1, _⟩ := h
  exact ⟨F, h1⟩
/-- A call that changes the store. -/
theorem FI.call {υ id s l g xl xg} (h : FI υ id s l g xl xg) : ∃ F, In υ id s F ∧ ∀ ω s', In ω id s' (Wide F υ.next) → Off F υ ω → FI ω id s' l g xl xg := by
  obtain ⟨F, ql, rl, qg, rg, h1, h2, h3, h4, h5, h6, h7, h8, h9, h10⟩ := h
  exact ⟨F, h1, fun ω s' hin hoff => ⟨_, ql, rl, qg, rg, hin, h2, by rw [hoff.get _ h4 h5]; exact h3, fun e => e.elim h4 fun e => by omega, Nat.lt_of_lt_of_le h5 hoff.next,
    h6, by rw [hoff.get _ h8 h9]; exact h7, fun e => e.elim h8 fun e => by omega, Nat.lt_of_lt_of_le h9 hoff.next, h10⟩⟩
theorem FI.appL {υ id s l g xl xg} (h : FI υ id s l g xl xg) (n : Nat) : FI ((gone xl υ).new (.cells 1 (ints l ++ [[int n]]))) id s (l ++ [n]) g (.own υ.next (l.length + 1)) xg := by
  obtain ⟨F, ql, rl, qg, rg, h1, rfl, h3, h4, h5, h6, h7, h8, h9, h10⟩ := h
  obtain ⟨mid, lid, es, h11, h12⟩ := h1.cut
  have hg : ∀ j, j < υ.next → j ≠ ql → ((gone (.own ql l.length) υ).new (.cells 1 (ints l ++ [[int n]]))).get j = υ.get j := by
    intro j hj hne
    rw [get_new, gone_next, if_neg (by omega)]
    simp [gone, get_del, hne]
  have hin : In ((gone (.own ql l.length) υ).new (.cells 1 (ints l ++ [[int n]]))) id s (fun i => F i ∧ i < υ.next) := by
    have hne : ∀ j, Foot id mid lid es j → j ≠ ql := fun j hj e => h4 (e ▸ (h12 j hj).1)
    have hlt : ∀ j, Foot id mid lid es j → j < υ.next := fun j hj => (h12 j hj).2
    have hgf : ∀ j, Foot id mid lid es j → ((gone (.own ql l.length) υ).new (.cells 1 (ints l ++ [[int n]]))).get j = υ.get j := fun j hj => hg j (hlt j hj) (hne j hj)
    refine ⟨mid, lid, es, ?_, h12⟩
    obtain ⟨r1, r2⟩ := h11.lv
    exact { obj := by rw [hgf _ (.inl rfl)]; exact h11.obj, map := by rw [hgf _ (.inr (.inl rfl))]; exact h11.map, keys := h11.keys, uniq := h11.uniq,
            lv := ⟨r1, by rw [hgf _ (.inr (.inr (.inl rfl)))]; exact r2⟩, none := h11.none,
            some := fun r c hr => by
              obtain ⟨v, a, b⟩ := h11.some r c hr
              exact ⟨v, a, b.mono fun q n' e => hgf q (.inr (.inr (.inr ⟨r, n', by rw [a, e]⟩)))⟩
            ids := h11.ids
            lt := by have := h11.lt; simp; omega
            apart := fun r q n' e => by have := h11.apart r q n' e; simp; omega
            inj := h11.inj }
  refine ⟨_, υ.next, [], qg, rg, hin, by simp, ?_, fun e => by omega, by simp, h6, ?_, fun e => h8 e.1, ?_, by omega⟩
  · have : υ.next = (gone (.own ql l.length) υ).next := by simp
    rw [get_new, gone_next, if_pos rfl]
    simp [ints]
  · rw [hg _ h9 (Ne.symm h10)]; exact h7
  · simp; omega
theorem FI.cutL {υ id s l g xl xg} (h : FI υ id s l g xl xg) (hl : l ≠ []) : ∃ ql, xl = .own ql l.length ∧ FI υ id s l.dropLast g (.own ql (l.length - 1)) xg := by
  obtain ⟨F, ql, rl, qg, rg, h1, h2, h3, h4, h5, h6, h7, h8, h9, h10⟩ := h
  refine ⟨ql, h2, F, ql, [int (l.getLast hl)] :: rl, qg, rg, h1, by simp, ?_, h4, h5, h6, h7, h8, h9, h10⟩
  rw [h3]
  conv => lhs; rw [← List.dropLast_concat_getLast hl]
  simp [ints]
/-- The two rows stand for each other. -/
theorem FI.flip {υ id s l g xl xg} (h : FI υ id s l g xl xg) : FI υ id s g l xg xl := by
  obtain ⟨F, ql, rl, qg, rg, h1, h2, h3, h4, h5, h6, h7, h8, h9, h10⟩ := h
  exact ⟨F, qg, rg, ql, rl, h1, h6, h7, h8, h9, h2, h3, h4, h5, Ne.symm h10⟩


theorem falls_ev {xs : List (List AV)} (hxs : ∀ el ∈ xs, ∃ b : Bool, el = [.val (.bool b)]) (hk : ∀ τ, k (.val (.bool true)) τ) : Ev PR 3 [.sl false 1 xs] σ k kp := by
  apply F3_ev; unfold F3
  simp
  by_cases hlen : (200 : Int) < xs.length
  · simp [hlen]
    exact awake_ev fun τ _ => hk τ
  · simp [hlen]
    refine new_ev fun id τ hid hin hoff => ?_
    generalize hτ1 : (τ.new (.cells 1 [[int 0]])).new (.cells 1 []) = τ1
    have hg1 : Grows τ τ1 := by rw [← hτ1]; exact (Grows.new _ _).trans (Grows.new _ _)
    have n1 : τ1.next = τ.next + 2 := by rw [← hτ1]; rfl
    have hfi : FI τ1 id (S.new 300 300) (S.new 300 300).live [] (.own τ.next 1) (.own (τ.next + 1) 0) := by
      have hc := hin.cut
      refine ⟨_, τ.next, [], τ.next + 1, [], hc.grows hg1, by simp [S.live, S.new, idx], ?_, fun e => by omega, by omega, rfl, ?_, fun e => by omega, by omega, by omega⟩
      · rw [← hτ1]; simp [get_new, S.live, S.new, idx, ints]
      · rw [← hτ1]; simp [get_new, ints]
    have hpi : PI (S.new 300 300) [] 0 := by
      refine ⟨Inv.new _ _, rfl, rfl, by simp [S.new], by simp, rfl, ?_, by simp, by simp [S.cells, S.live, S.new, tot, idx]⟩
      intro j c hj h
      cases j with
      | zero => omega
      | succ j => simp [S.new] at h
    refine seqW_in ?_
    refine loopW_by (fun p : Nat × AV × AV => [(0, .sl false 1 xs), (3, .ptr id 0 0), (4, p.2.1), (5, p.2.2), (6, int p.1)])
      (fun p υ => p.1 ≤ xs.length ∧ ∃ s g, FI υ id s s.live g p.2.1 p.2.2 ∧ PI s g p.1) (fun fr _ => xs.length - (intOf (look fr 6)).toNat) (0, .own τ.next 1, .own (τ.next + 1) 0) (by simp)
      ⟨by simp, _, _, hfi, hpi⟩ ?_
    rintro ⟨i, xl, xg⟩ υ ⟨hi, s, g, hF, hP⟩
    simp only at hi hF hP
    simp
    by_cases hlt : i < xs.length
    · obtain ⟨el, hel⟩ : ∃ el, xs[i]? = some el := ⟨_, List.getElem?_eq_getElem hlt⟩
      obtain ⟨b, rfl⟩ := hxs el (List.mem_of_getElem? hel)
      have hix : ∀ ω, aIndexAddr 1 (.sl false 1 xs) (int i) ω = some (.ref [.val (.bool b)]) := fun ω => by rw [aIndexAddr_sl]; simp [hel]
      simp [hlt]
      refine seqW_in ?_
      refine seqW_by (fun fr ω => ∃ xl xg s g, fr = [(0, .sl false 1 xs), (3, .ptr id 0 0), (4, xl), (5, xg), (6, int i)] ∧ FI ω id s s.live g xl xg ∧ PI s g (i + 1)) ?_ ?_
      · simp [hix]
        cases b with
        | true =>
          simp
          obtain ⟨F, hin, hcall⟩ := hF.call
          have hok := hP.inv.ok
          have hlenB := hP.len
          have hll := live_len s
          have hcs := hP.cells
          refine push_ev hin hok ?_
          rw [if_pos (by rw [hP.R]; omega)]
          intro ω1 hin1 hoff1
          have hF1 := hcall ω1 _ hin1 hoff1
          have hn : s.more.L[s.L.length]? = some (true, []) := by simp [S.more]
          have h1 : Inv s.more := hP.inv.more (by rw [hP.R]; omega) (by omega)
          have hr1 : s.more.row (s.L.length : Nat) = some [] := at_of hn
          obtain ⟨F1, hin1, hcall1⟩ := hF1.call
          simp
          refine put_ev hin1 h1.ok (c := codeC s.L.length) rfl ?_
          rw [hr1]
          simp only
          rw [if_neg (by rw [S.cells_more]; show ¬ s.C ≤ _; rw [hP.C]; omega)]
          intro q hq hLq ω2 hin2 hoff2
          have : s.L.length = q := by omega
          subst this
          have hF2 := hcall1 ω2 _ hin2 hoff2
          have hP2 := hP.push (by omega)
          simp
          generalize hω3 : ((ω2.new (.cells 4 [[u8 0, int 0, int 0, int 0]])).set ω2.next (.cells 4 [[u8 2, int 0, int s.L.length, int 0]])).new (.cells 1 [[int s.L.length]]) = ω3
          have g3 : Grows ω2 ω3 := by rw [← hω3]; exact ((Grows.new _ _).set (Nat.le_refl _) _).trans (Grows.new _ _)
          have hy : Rows ω3 1 (.own (ω2.next + 1) 1) [[int s.L.length]] := .inr (.inr ⟨ω2.next + 1, [], rfl, by rw [← hω3]; simp [get_new]⟩)
          have hF3 := hF2.grows g3
          refine stepK_of (aAppend_rows (by' := 8) hF3.rowsL hF3.nsl hy (by simp [ints]; omega)) ?_
          have e1 : (s.more.putC s.L.length [] (codeC s.L.length)).live = s.live ++ [s.L.length] := by
            rw [← S.live_more]; exact idx_set hn
          refine ⟨_, xg, ⟨rfl, rfl⟩, _, g, ?_, hP2⟩
          rw [e1]
          simpa [ints] using hF3.appL s.L.length
        | false =>
          simp
          obtain ⟨F, hin, hcall⟩ := hF.call
          have hok := hP.inv.ok
          have hlenB := hP.len
          have hll := live_len s
          have hl1 := hP.inv.live
          refine pop_ev hin hok ?_
          have hx : ∀ ω, aLenK .slice xl ω = some (int s.live.length) := by
            intro ω
            obtain ⟨ql, e⟩ : ∃ ql, xl = .own ql s.live.length := by
              obtain ⟨F, ql, rl, qg, rg, h1, h2, _⟩ := hF
              exact ⟨ql, h2⟩
            rw [e]; rfl
          split
          · rename_i h2
            simp [hx, show ¬ (1 < s.live.length) by omega, show (s.live.length : Int) ≤ 1 by omega, show ¬ ((1 : Int) < s.live.length) by omega]
            exact ⟨xl, xg, ⟨rfl, rfl⟩, s, g, hF, hP.stay⟩
          · rename_i h2
            intro q hq ω1 hin1 hoff1
            have hF1 := hcall ω1 _ hin1 hoff1
            have hP1 := hP.pop h2 hq
            have hw : IntKind.i64.wrap ((s.live.length : Int) - 1) = ((s.live.length - 1 : Nat) : Int) := by rw [wrap64 (by omega)]; omega
            have hget : (ints s.live)[s.live.length - 1]? = some [int q] := by
              rw [List.getLast?_eq_getElem?] at hq
              simp [ints, hq]
            obtain ⟨p, hp, hpt⟩ := hF1.rowsL.at (k := .i64) hget rfl
            simp [hx, show (1 : Int) < s.live.length by omega, hw]
            simp [hp, hpt.load]
            generalize hω3 : ω1.new (.cells 1 [[int q]]) = ω3
            have g3 : Grows ω1 ω3 := by rw [← hω3]; exact Grows.new _ _
            have hy : Rows ω3 1 (.own ω1.next 1) [[int q]] := .inr (.inr ⟨ω1.next, [], rfl, by rw [← hω3]; simp [get_new]⟩)
            have hF3 := (hF1.grows g3).flip
            have hgl := hP.glen
            refine stepK_of (aAppend_rows (by' := 8) hF3.rowsL hF3.nsl hy (by simp [ints]; omega)) ?_
            have hF4 := (hF3.appL q).flip
            obtain ⟨ql, hql, hF5⟩ := hF4.cutL (by intro e; rw [e] at hl1; simp at hl1)
            subst hql
            simp [hw]
            refine ⟨_, _, ⟨rfl, rfl⟩, s.less q, g ++ [q], ?_, hP1⟩
            rw [S.live_less hq]
            simpa [ints] using hF5
      · rintro fr ω ⟨xl, xg, s, g, rfl, hF, hP⟩
        have hlenB := hP.len
        have hglB := hP.glen
        have hll := live_len s
        have hcs := hP.cells
        refine seqW_by (fun fr ω => fr = [(0, .sl false 1 xs), (3, .ptr id 0 0), (4, xl), (5, xg), (6, int i)] ∧ FI ω id s s.live g xl xg) ?_ ?_
        · refine loopW_by (fun j : Nat => [(0, .sl false 1 xs), (3, .ptr id 0 0), (4, xl), (5, xg), (6, int i), (11, int j)])
            (fun j υ => j ≤ g.length ∧ FI υ id s s.live g xl xg) (fun fr _ => g.length - (intOf (look fr 11)).toNat) 0 (by simp) ⟨by simp, hF⟩ ?_
          rintro j υ ⟨hj, hF⟩
          have hlg : aLenK .slice xg υ = some (int g.length) := by simpa [ints] using hF.rowsG.len
          simp [hlg]
          by_cases hjl : j < g.length
          · obtain ⟨q, hq⟩ : ∃ q, g[j]? = some q := ⟨_, List.getElem?_eq_getElem hjl⟩
            obtain ⟨hrow, _⟩ := hP.gone q (List.mem_of_getElem? hq)
            have hget : (ints g)[j]? = some [int q] := by simp [ints, hq]
            obtain ⟨p, hp, hpt⟩ := hF.rowsG.at (k := .i64) hget rfl
            obtain ⟨F, hin⟩ := hF.in
            have hfind : s.find 2 0 q 0 = 6 := by simp [S.find, hrow]
            simp [hjl, hp, hpt.load]
            refine get_ev hin (kd := 2) (n := 0) (r := q) (a := 0) ?_ (fun h => by rw [hfind] at h; cases h)
            rw [hfind]
            intro _ ω1 g1
            simp
            generalize hω2 : (ω1.new (.cells 10 [zeroC])).set ω1.next (.cells 10 [zeroC]) = ω2
            have g2 : Grows ω1 ω2 := by rw [← hω2]; exact (Grows.new _ _).set (Nat.le_refl _) _
            have hF2 := hF.grows (g1.trans g2)
            obtain ⟨p', hp', hpt'⟩ := hF2.rowsG.at (k := .i64) hget rfl
            simp [hp', hpt'.load]
            generalize hω3 : ω2.new (.cells 1 [[int q]]) = ω3
            have g3 : Grows ω2 ω3 := by rw [← hω3]; exact Grows.new _ _
            have hF3 := hF2.grows g3
            obtain ⟨F3, hin3⟩ := hF3.in
            refine live_ev hin3 (l := [(q : Int)]) (.inr (.inr ⟨ω2.next, [], rfl, by rw [← hω3]; simp [get_new]⟩)) (by simp) ?_
            simp [hrow]
            rw [wrap64 (by omega)]
            exact ⟨⟨j + 1, by simp, by omega, hF3⟩, by omega⟩
          · simp [hjl]
            exact hF
        · rintro fr ω ⟨rfl, hF⟩
          refine seqW_by (fun fr ω => fr = [(0, .sl false 1 xs), (3, .ptr id 0 0), (4, xl), (5, xg), (6, int i)] ∧ FI ω id s s.live g xl xg) ?_ ?_
          · have hl1 := hP.inv.live
            refine loopW_by (fun j : Nat => [(0, .sl false 1 xs), (3, .ptr id 0 0), (4, xl), (5, xg), (6, int i), (14, int j)])
              (fun j υ => 1 ≤ j ∧ j ≤ s.live.length ∧ FI υ id s s.live g xl xg) (fun fr _ => s.live.length - (intOf (look fr 14)).toNat) 1 (by simp) ⟨by omega, hl1, hF⟩ ?_
            rintro j υ ⟨hj1, hj, hF⟩
            have hll : aLenK .slice xl υ = some (int s.live.length) := by simpa [ints] using hF.rowsL.len
            simp [hll]
            by_cases hjl : j < s.live.length
            · obtain ⟨q, hq⟩ : ∃ q, s.live[j]? = some q := ⟨_, List.getElem?_eq_getElem hjl⟩
              obtain ⟨q', c, e, hc⟩ := mem_idx.1 (List.mem_of_getElem? hq)
              have : q = q' := by omega
              subst this
              have hq0 : 0 < q := by
                obtain ⟨a, ha⟩ : ∃ a, s.live[0]? = some a := ⟨_, List.getElem?_eq_getElem (by omega)⟩
                have hp := idx_pairwise s.L 0
                have := List.pairwise_iff_getElem.1 hp 0 j (by show 0 < s.live.length; omega) hjl (by omega)
                obtain ⟨h1, h2⟩ := List.getElem?_eq_some_iff.1 hq
                have h3 : (idx s.L 0)[j]'hjl = q := h2
                omega
              have hcc := hP.code q c hq0 hc
              subst hcc
              have hrow : s.row (q : Nat) = some [codeC q] := at_of hc
              have hget : (ints s.live)[j]? = some [int q] := by simp [ints, hq]
              obtain ⟨p, hp, hpt⟩ := hF.rowsL.at (k := .i64) hget rfl
              obtain ⟨F, hin⟩ := hF.in
              have hfind : s.find 2 0 q 0 = 0 := by simp [S.find, hrow]
              simp [hjl, hp, hpt.load]
              refine get_ev hin (kd := 2) (n := 0) (r := q) (a := 0) (fun h => absurd hfind h) ?_
              intro _ ω1 g1 row i' c' h1 h2 h3
              rw [hrow] at h1
              cases h1
              have : i' = 0 := by omega
              subst this
              cases h3
              simp
              generalize hω2 : (ω1.new (.cells 10 [zeroC])).set ω1.next (.cells 10 [codeC q]) = ω2
              have g2 : Grows ω1 ω2 := by rw [← hω2]; exact (Grows.new _ _).set (Nat.le_refl _) _
              have hF2 := hF.grows (g1.trans g2)
              have hc2 : ω2.get ω1.next = some (.cells 10 [codeC q]) := by rw [← hω2]; simp
              obtain ⟨p', hp', hpt'⟩ := hF2.rowsL.at (k := .i64) hget rfl
              simp [hp', hpt'.load, hc2]
              rw [wrap64 (by omega)]
              exact ⟨⟨j + 1, by simp, by omega, by omega, hF2⟩, by omega⟩
            · simp [hjl]
              exact hF
          · rintro fr ω ⟨rfl, hF⟩
            obtain ⟨F, hin⟩ := hF.in
            have hll : ∀ ω', aLenK .slice xl ω' = some (int s.live.length) := by
              intro ω'
              obtain ⟨F, ql, rl, qg, rg, h1, h2, _⟩ := hF
              rw [h2]; rfl
            simp
            refine live_ev hin (l := s.live.map (fun i : Nat => (i : Int))) (by have := hF.rowsL; unfold ints at this; unfold intsZ; rw [List.map_map]; exact this) (by simp; omega) ?_
            have hall : ((s.live.map (fun i : Nat => (i : Int))).all fun r => (s.row r).isSome) = true := by
              rw [List.all_eq_true]
              intro r hr
              obtain ⟨q, hq, rfl⟩ := List.mem_map.1 hr
              obtain ⟨q', c, e, hc⟩ := mem_idx.1 hq
              have : q = q' := by omega
              subst this
              have : s.row ((q : Nat) : Int) = some c := at_of hc
              rw [this]; rfl
            rw [hall]
            simp
            refine regions_ev hin ?_
            simp [hll]
            refine cells_ev hin ?_
            have hl1 := hP.inv.live
            have hw : IntKind.i64.wrap ((s.live.length : Int) - 1) = s.cells := by rw [wrap64 (by omega)]; omega
            simp [hll, hw]
            rw [wrap64 (by omega)]
            exact ⟨⟨i + 1, xl, xg, ⟨rfl, rfl, rfl⟩, by omega, s, g, hF, hP⟩, by omega⟩
    · simp [hlt]
      exact awake_ev fun _ _ => hk _

end Go.Abs.Stk
