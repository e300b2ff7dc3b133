/-
  StackRoom.
-/
import Derived.Test.YtdigiljpghgffaaStackE
set_option linter.unusedVariables false
set_option linter.unusedSimpArgs false
namespace Go.Abs.Stk
open Go Go.Abs Go.Proofs.StackD
variable {σ : AHeap} {k kp : AV → AHeap → Prop}

structure Inv (s : S) : Prop where
  ok : Ok s
  most : s.cells ≤ s.most
  first : ∃ c, s.L[0]? = some (true, c)

theorem Inv.more {s : S} (h : Inv s) (hl : s.live.length < s.R) (hlen : s.L.length < 4611686018427387903) : Inv s.more := by
  obtain ⟨ok, hm, c, hc⟩ := h
  refine ⟨⟨ok.R, ok.C, ?_, ?_, ok.most, ?_⟩, ?_, c, ?_⟩
  · rw [S.live_more]; simp [S.more]; omega
  · rw [S.cells_more]; exact ok.cells
  · simp [S.more]; omega
  · rw [S.cells_more]; exact hm
  · have := (List.getElem?_eq_some_iff.1 hc).1
    show (s.L ++ _)[0]? = _
    rw [List.getElem?_append_left this]; exact hc
theorem Inv.less {s : S} (h : Inv s) (hl : ¬ s.live.length < 2) {i : Nat} (hi : s.live.getLast? = some i) : Inv (s.less i) := by
  obtain ⟨ok, hm, c, hc⟩ := h
  obtain ⟨d, hd⟩ := S.last_mem hi
  have hcell := S.cells_less hd
  have hne : i ≠ 0 := by
    intro e
    subst e
    obtain ⟨m, hm⟩ := List.getLast?_eq_some_iff.1 hi
    have hp := idx_pairwise s.L 0
    rw [show idx s.L 0 = s.live from rfl, hm, List.pairwise_append] at hp
    cases m with
    | nil => rw [hm] at hl; simp at hl
    | cons a m => exact absurd (hp.2.2 a (by simp) 0 (by simp)) (by omega)
  have hR := ok.live
  have hC := ok.cells
  refine ⟨⟨ok.R, ok.C, ?_, ?_, ok.most, ?_⟩, ?_, c, ?_⟩
  · rw [S.live_less hi]; simp [S.less]; omega
  · show ((s.less i).cells : Int) ≤ s.C; omega
  · simp [S.less]; exact ok.len
  · show ((s.less i).cells : Int) ≤ s.most; omega
  · show (s.L.set i _)[0]? = _
    rw [List.getElem?_set_ne hne]; exact hc
theorem Inv.putC {s : S} (h : Inv s) {i : Nat} {row : Row} {c : List AV} (hi : s.L[i]? = some (true, row)) (hl : ¬ s.C ≤ s.cells) : Inv (s.putC i row c) := by
  obtain ⟨ok, hm, d, hd⟩ := h
  have hcp := S.cells_put (c' := row ++ [c]) hi
  have e2 : (s.putC i row c).cells = s.cells + 1 := by
    have : (s.putC i row c).cells = (s.put i (row ++ [c])).cells := rfl
    rw [this]; simp at hcp; omega
  have e1 : (s.putC i row c).live = s.live := idx_set hi
  have hmost := ok.most
  refine ⟨⟨ok.R, ok.C, ?_, ?_, ?_, ?_⟩, ?_, ?_⟩
  · rw [e1]; exact ok.live
  · rw [e2]; show ((s.cells + 1 : Nat) : Int) ≤ s.C; omega
  · show 0 ≤ (if s.most < (s.cells : Int) + 1 then (s.cells : Int) + 1 else s.most) ∧ (if s.most < (s.cells : Int) + 1 then (s.cells : Int) + 1 else s.most) ≤ s.C
    split <;> omega
  · simp [S.putC]; exact ok.len
  · rw [e2]; show ((s.cells + 1 : Nat) : Int) ≤ (if s.most < (s.cells : Int) + 1 then (s.cells : Int) + 1 else s.most)
    split <;> omega
  · by_cases hi0 : i = 0
    · subst hi0
      refine ⟨row ++ [c], ?_⟩
      show (s.L.set 0 _)[0]? = _
      rw [List.getElem?_set_self (List.getElem?_eq_some_iff.1 hi).1]
    · refine ⟨d, ?_⟩
      show (s.L.set i _)[0]? = _
      rw [List.getElem?_set_ne hi0]; exact hd
theorem Inv.new (r c : Int) : Inv (S.new r c) := ⟨new_ok r c, by simp [S.cells, S.new, tot], [], rfl⟩
theorem Inv.live {s : S} (h : Inv s) : 1 ≤ s.live.length := by
  obtain ⟨c, hc⟩ := h.first
  have : 0 ∈ s.live := mem_idx.2 ⟨0, c, rfl, hc⟩
  exact List.length_pos_of_mem this

/-- An act's cells: its kind, its region, its place, its cell. -/
structure IsAct (el : List AV) (kd r : Int) (v c : List AV) : Prop where
  eq : el = int kd :: int r :: (v ++ c)
  v : v.length = 4
  c : c.length = 10

/-- What holds ahead of each round. -/
def RI (υ : AHeap) (id b : Nat) (R C : Int) (s : S) : Prop :=
  ∃ F, In υ id s F ∧ ¬ F b ∧ υ.get b = some (.cells 2 [[int R, int C]]) ∧ b < υ.next ∧ Inv s ∧ s.R = clampI R 1 1048576 ∧ s.C = clampI C 0 4194304

theorem RI.step {υ ω : AHeap} {id b : Nat} {R C : Int} {s' : S} {F : Nat → Prop} (hF : ¬ F b) (hb : υ.get b = some (.cells 2 [[int R, int C]])) (hlt : b < υ.next) (hin : In ω id s' (Wide F υ.next)) (hoff : Off F υ ω)
    (inv : Inv s') (e1 : s'.R = clampI R 1 1048576) (e2 : s'.C = clampI C 0 4194304) : RI ω id b R C s' :=
  ⟨_, hin, fun h => h.elim hF fun h => by omega, by rw [hoff.get _ hF hlt]; exact hb, Nat.lt_of_lt_of_le hlt hoff.next, inv, e1, e2⟩
theorem RI.grows {υ ω : AHeap} {id b : Nat} {R C : Int} {s : S} (h : RI υ id b R C s) (g : Grows υ ω) : RI ω id b R C s := by
  obtain ⟨F, h1, h2, h3, h4, h5⟩ := h
  exact ⟨F, h1.grows g, h2, by rw [g.get _ h4]; exact h3, Nat.lt_of_lt_of_le h4 g.next, h5⟩

theorem room_ev {R C : Int} {xs : List (List AV)} (hxs : ∀ el ∈ xs, ∃ kd r v c, IsAct el kd r v c) (hk : ∀ τ, k (.val (.bool true)) τ) : Ev PR 4 [.agg [int R, int C], .sl false 16 xs] σ k kp := by
  apply F4_ev; unfold F4
  simp
  by_cases hlen : (200 : Int) < xs.length
  · simp [hlen]
    exact awake_ev fun τ _ => hk τ
  · simp [hlen]
    refine new_ev fun id τ hid hin hoff => ?_
    refine seqW_in ?_
    have hb0 : τ.get σ.next = some (.cells 2 [[int R, int C]]) := by rw [hoff.get _ (by simp) (by simp)]; simp [get_new]
    have hRow : Rows τ 16 (.sl false 16 xs) xs := .inr (.inl ⟨false, rfl⟩)
    have hlim : σ.next < id := by simp at hid; omega
    refine loopW_by (fun p : Nat × Int => [(1, .sl false 16 xs), (2, .ptr σ.next 0 0), (5, .ptr id 0 0), (6, int p.2), (7, int p.1)])
      (fun p υ => p.1 ≤ xs.length ∧ ∃ s, RI υ id σ.next R C s ∧ p.2 = s.most ∧ s.L.length ≤ p.1 + 1) (fun fr _ => xs.length - (intOf (look fr 7)).toNat) (0, 0) (by simp)
      ⟨by simp, S.new R C, ⟨fun j => σ.next < j, hin.sub (fun j hj => by simp at hj; omega), by simp, hb0, by have := hoff.next; simp at this; omega, Inv.new R C, rfl, rfl⟩, rfl, by simp [S.new]⟩ ?_
    rintro ⟨i, m⟩ υ ⟨hi, s, hs, hm, hL⟩
    simp only at hi hm hL
    subst hm
    simp
    by_cases hlt : i < xs.length
    · obtain ⟨el, hel⟩ : ∃ el, xs[i]? = some el := ⟨_, List.getElem?_eq_getElem hlt⟩
      obtain ⟨kd, r, v, c, he⟩ := hxs el (List.mem_of_getElem? hel)
      have hell : el.length = 16 := by rw [he.eq]; simp [he.v, he.c]
      have hrow : ∀ ω, Rows ω 16 (.sl false 16 xs) xs := fun _ => .inr (.inl ⟨false, rfl⟩)
      have hix : ∀ ω, aIndexAddr 16 (.sl false 16 xs) (int i) ω = some (.ref el) := fun ω => by rw [aIndexAddr_sl]; simp [hel]
      simp [hlt]
      refine seqW_by (fun fr ω => fr = [(1, .sl false 16 xs), (2, .ptr σ.next 0 0), (5, .ptr id 0 0), (6, int s.most), (7, int i)] ∧ ∃ s', RI ω id σ.next R C s' ∧ s.most = s'.most ∧ s'.L.length ≤ i + 2) ?_ ?_
      · simp [hix, he.eq]
        by_cases h0 : kd = 0
        · subst h0
          simp
          obtain ⟨F, hin, hF, hb, hbl, inv, e1, e2⟩ := hs
          refine push_ev hin inv.ok ?_
          split
          · rename_i hlR
            intro ω hin' hoff'
            exact ⟨s.more, RI.step hF hb hbl hin' hoff' (inv.more hlR (by omega)) e1 e2, rfl, by simp [S.more]; omega⟩
          · exact ⟨s, ⟨F, hin, hF, hb, hbl, inv, e1, e2⟩, rfl, by omega⟩
        · simp [h0]
          exact ⟨s, hs, rfl, by omega⟩
      · rintro fr ω ⟨rfl, s', hs', hm, hL'⟩
        refine seqW_by (fun fr ω => fr = [(1, .sl false 16 xs), (2, .ptr σ.next 0 0), (5, .ptr id 0 0), (6, int s.most), (7, int i)] ∧ ∃ s', RI ω id σ.next R C s' ∧ s.most = s'.most ∧ s'.L.length ≤ i + 2) ?_ ?_
        · simp [hix, he.eq]
          by_cases h0 : kd = 1
          · subst h0
            simp
            obtain ⟨F, hin, hF, hb, hbl, inv, e1, e2⟩ := hs'
            refine pop_ev hin inv.ok ?_
            split
            · exact ⟨s', ⟨F, hin, hF, hb, hbl, inv, e1, e2⟩, hm, hL'⟩
            · rename_i hl2
              intro q hq ω' hin' hoff'
              exact ⟨s'.less q, RI.step hF hb hbl hin' hoff' (inv.less hl2 hq) e1 e2, hm, by simp [S.less]; omega⟩
          · simp [h0]
            exact ⟨s', hs', hm, hL'⟩
        · rintro fr ω' ⟨rfl, s', hs', hm, hL'⟩
          refine seqW_by (fun fr ω => fr = [(1, .sl false 16 xs), (2, .ptr σ.next 0 0), (5, .ptr id 0 0), (6, int s.most), (7, int i)] ∧ ∃ s', RI ω id σ.next R C s' ∧ (if s.most < (s'.cells : Int) then (s'.cells : Int) else s.most) = s'.most ∧ s'.L.length ≤ i + 2) ?_ ?_
          · have hmm : (if s.most < s'.cells then (s'.cells : Int) else s.most) = s'.most := by
              obtain ⟨F, hin, hF, hb, hbl, inv, e1, e2⟩ := hs'
              have := inv.most
              rw [if_neg (by omega), hm]
            have hd6 : (v ++ c).drop 4 = c := List.drop_left' he.v
            simp [hix, he.eq]
            by_cases h0 : 1 < kd
            · have hcc := he.c
              simp [h0, hix, he.eq, hd6, List.take_of_length_le (Nat.le_of_eq he.c), he.c, he.v]
              obtain ⟨F, hin, hF, hb, hbl, inv, e1, e2⟩ := hs'
              refine put_ev hin inv.ok he.c ?_
              cases hrow' : s'.row r with
              | none =>
                intro ω2 g2
                exact ⟨s', RI.grows ⟨F, hin, hF, hb, hbl, inv, e1, e2⟩ g2, hmm, hL'⟩
              | some row =>
                simp only
                split
                · intro ω2 g2
                  exact ⟨s', RI.grows ⟨F, hin, hF, hb, hbl, inv, e1, e2⟩ g2, hmm, hL'⟩
                · rename_i hC
                  intro q hq hLq ω2 hin2 hoff2
                  refine ⟨s'.putC q row c, RI.step hF hb hbl hin2 hoff2 (inv.putC hLq hC) e1 e2, ?_, by simp [S.putC]; omega⟩
                  have hcp := S.cells_put (c' := row ++ [c]) hLq
                  have e3 : (s'.putC q row c).cells = s'.cells + 1 := by
                    have : (s'.putC q row c).cells = (s'.put q (row ++ [c])).cells := rfl
                    rw [this]; simp at hcp; omega
                  rw [e3]
                  show _ = if s'.most < (s'.cells : Int) + 1 then (s'.cells : Int) + 1 else s'.most
                  rw [← hm]; simp
            · simp [h0]
              exact ⟨s', hs', hmm, hL'⟩
          · rintro fr ω2 ⟨rfl, s', hs', hm, hL'⟩
            simp
            have hs0 := hs'
            obtain ⟨F, hin, hF, hb, hbl, inv, e1, e2⟩ := hs'
            have hlive := inv.live
            have hR := inv.ok.live
            have hC := inv.ok.cells
            have g1 : ¬ (if 1 < R then R else 1) < (s'.live.length : Int) := by
              rw [e1] at hR; unfold clampI at hR
              repeat' split at hR
              all_goals split <;> omega
            have g2 : ¬ (if 0 < C then C else 0) < (s'.cells : Int) := by
              rw [e2] at hC; unfold clampI at hC
              repeat' split at hC
              all_goals split <;> omega
            refine cells_ev hin ?_
            simp
            refine regions_ev hin ?_
            simp [show ¬ ((s'.live.length : Int) < 1) by omega, hb]
            refine regions_ev hin ?_
            simp [hb, g1]
            refine cells_ev hin ?_
            simp [hb, show ¬ ((s'.cells : Int) < 0) by omega]
            refine cells_ev hin ?_
            simp [hb, g2]
            refine most_ev hin ?_
            simp [hm]
            refine live_ev hin (l := [0]) (.inr (.inl ⟨true, rfl⟩)) (by simp) ?_
            have hfirst : (s'.row 0).isSome = true := by
              obtain ⟨c0, hc0⟩ := inv.first
              have : s'.row ((0 : Nat) : Int) = some c0 := at_of hc0
              simp at this
              rw [this]; rfl
            simp [hfirst]
            rw [wrap64 (by omega)]
            exact ⟨⟨i + 1, s'.most, ⟨rfl, by omega⟩, by omega, s', hs0, rfl, hL'⟩, by omega⟩
    · simp [hlt]
      exact awake_ev fun _ _ => hk _

end Go.Abs.Stk
