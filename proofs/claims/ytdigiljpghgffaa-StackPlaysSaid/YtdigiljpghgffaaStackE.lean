/-
  The store of regions: places.
-/
import Derived.Test.YtdigiljpghgffaaStackC
set_option linter.unusedVariables false
set_option linter.unusedSimpArgs false
set_option linter.deprecated false
namespace Go.Abs.Stk
open Go Go.Abs Go.Proofs.StackD
variable {σ : AHeap} {id : Nat} {s : S} {F : Nat → Prop} {k kp : AV → AHeap → Prop}

def S.find (s : S) (kd n r a : Int) : Int :=
  if kd ≠ 2 ∨ n ≠ 0 then 1 else match s.row r with
    | none => 6
    | some row => if a < 0 ∨ row.length ≤ a then 1 else 0
abbrev valV (kd n r a : Int) : AV := .agg [u8 kd, int n, int r, int a]
abbrev nilP : AV := .val (.pointer none)

theorem look_at {mid lid : Nat} {es : List (MK × AV)} (h : At σ id mid lid es s) {r : Int} {v : AV} (hv : mget es (key r) = some v) : aLookup (.int .i64) (.val (.slice none 0 0)) false (.mp mid) (int r) σ = some v := by
  rw [aLookup_mp (q := key r) rfl rfl h.map h.keys, hv]; rfl

theorem at_ev {mid lid : Nat} {es : List (MK × AV)} (h : At σ id mid lid es s) {kd n r a : Int}
    (hk1 : s.find kd n r a ≠ 0 → ∀ τ, Grows σ τ → k (.tup [nilP, int (s.find kd n r a)]) τ)
    (hk0 : s.find kd n r a = 0 → ∀ τ, Grows σ τ → ∀ row (i : Nat) c q rest, s.row r = some row → a = i → row[i]? = some c → c.length = 10 → mget es (key r) = some (.own q row.length) → σ.get q = some (.cells 10 (row ++ rest)) → k (.tup [.ptr q i 0, int 0]) τ) :
    Ev PR 26 [.ptr id 0 0, valV kd n r a] σ k kp := by
  apply F26_ev; unfold F26
  simp
  by_cases h1 : kd ≠ 2 ∨ n ≠ 0
  · have hf : s.find kd n r a = 1 := by simp only [S.find, if_pos h1]
    rw [hf] at hk1
    have := hk1 (by omega) _ (Grows.new σ (.cells 4 [[u8 kd, int n, int r, int a]]))
    by_cases h2 : kd = 2
    · have h3 : n ≠ 0 := by omega
      simpa [h2, h3] using this
    · simpa [h2] using this
  · have h2 : kd = 2 := by omega
    have h3 : n = 0 := by omega
    subst h2; subst h3
    have hf : s.find 2 0 r a = match s.row r with | none => 6 | some row => if a < 0 ∨ row.length ≤ a then 1 else 0 := by simp only [S.find, if_neg h1]
    simp
    generalize hτ : (σ.new (.cells 4 [[u8 2, int 0, int r, int a]])).new (.cells 1 [[int r]]) = τ
    have hg : Grows σ τ := by rw [← hτ]; exact (Grows.new _ _).trans (Grows.new _ _)
    have g0 : τ.get σ.next = some (.cells 4 [[u8 2, int 0, int r, int a]]) := by rw [← hτ]; simp [get_new]
    have g1 : τ.get (σ.next + 1) = some (.cells 1 [[int r]]) := by rw [← hτ]; simp [get_new]
    have h' := h.grows hg
    refine live_ev (F := fun _ => True) ⟨mid, lid, es, h', fun _ _ => trivial⟩ (l := [r]) (.inr (.inr ⟨σ.next + 1, [], rfl, by simpa using g1⟩)) (by simp) ?_
    cases hrow : s.row r with
    | none =>
      rw [hrow] at hf
      simp only at hf
      rw [hf] at hk1
      simpa [hrow] using hk1 (by omega) τ hg
    | some row =>
      rw [hrow] at hf
      simp only at hf
      obtain ⟨v, hv, hvr⟩ := h.some _ _ hrow
      simp [hrow, g0]
      by_cases ha : a < 0
      · rw [if_pos (.inl ha)] at hf
        rw [hf] at hk1
        simpa [ha] using hk1 (by omega) τ hg
      · have hl := look_at h' hv
        have hlen : aLenK .slice v τ = some (int row.length) := by rcases hvr.2 with ⟨rfl, rfl⟩ | ⟨q, rest, rfl, _⟩ <;> rfl
        simp [ha, h'.obj, g0, hl, hlen]
        by_cases hb : (row.length : Int) ≤ a
        · rw [if_pos (.inr hb)] at hf
          rw [hf] at hk1
          simpa [hb] using hk1 (by omega) τ hg
        · rw [if_neg (by omega)] at hf
          obtain ⟨i, rfl⟩ := Int.eq_ofNat_of_zero_le (Int.not_lt.1 ha)
          have hi : i < row.length := by omega
          obtain ⟨c, hc⟩ : ∃ c, row[i]? = some c := ⟨_, List.getElem?_eq_getElem hi⟩
          have hcl := hvr.1 c (List.mem_of_getElem? hc)
          rcases hvr.2 with ⟨rfl, rfl⟩ | ⟨q, rest, rfl, hq⟩
          · simp at hi
          · have hq' : τ.get q = some (.cells 10 (row ++ rest)) := by rw [hg.get _ (h.apart _ _ _ hv).2.2.2]; exact hq
            have hel : elAt τ q i = some c := by rw [elAt_cells hq', List.getElem?_append_left hi, hc]
            have hix : aIndexAddr 10 (.own q row.length) (int i) τ = some (.ptr q i 0) := by
              rw [aIndexAddr_own, if_pos (by omega)]
              simp only [Int.toNat_natCast, hel, Option.bind_some, hcl, if_true]
            simp [hb, h'.obj, g0, hl, hix]
            exact hk0 hf τ hg row i c q rest hrow rfl hc hcl hv hq

theorem at_nil {kd n r a : Int} (hk : ∀ τ, Grows σ τ → k (.tup [nilP, int (if kd ≠ 2 ∨ n ≠ 0 then 1 else 6)]) τ) : Ev PR 26 [nilP, valV kd n r a] σ k kp := by
  apply F26_ev; unfold F26
  simp
  by_cases h1 : kd ≠ 2 ∨ n ≠ 0
  · have := hk _ (Grows.new σ (.cells 4 [[u8 kd, int n, int r, int a]]))
    rw [if_pos h1] at this
    by_cases h2 : kd = 2
    · have h3 : n ≠ 0 := by omega
      simpa [h2, h3] using this
    · simpa [h2] using this
  · have h2 : kd = 2 := by omega
    have h3 : n = 0 := by omega
    subst h2; subst h3
    rw [if_neg h1] at hk
    simp
    generalize hτ : (σ.new (.cells 4 [[u8 2, int 0, int r, int a]])).new (.cells 1 [[int r]]) = τ
    have hg : Grows σ τ := by rw [← hτ]; exact (Grows.new _ _).trans (Grows.new _ _)
    have g1 : τ.get (σ.next + 1) = some (.cells 1 [[int r]]) := by rw [← hτ]; simp [get_new]
    refine live_nil (l := [r]) (.inr (.inr ⟨σ.next + 1, [], rfl, by simpa using g1⟩)) ?_
    simpa using hk τ hg

abbrev zeroC : List AV := [u8 0, u8 0, int 0, int 0, int 0, u8 0, int 0, int 0, int 0, int 0]

theorem get_ev (h : In σ id s F) {kd n r a : Int}
    (hk1 : s.find kd n r a ≠ 0 → ∀ τ, Grows σ τ → k (.tup [.agg zeroC, int (s.find kd n r a)]) τ)
    (hk0 : s.find kd n r a = 0 → ∀ τ, Grows σ τ → ∀ row (i : Nat) c, s.row r = some row → a = i → row[i]? = some c → k (.tup [.agg c, int 0]) τ) : Ev PR 12 [.ptr id 0 0, valV kd n r a] σ k kp := by
  obtain ⟨mid, lid, es, h, hF⟩ := h
  apply F12_ev; unfold F12
  simp
  generalize hτ : (σ.new (.cells 4 [[u8 kd, int n, int r, int a]])).new (.cells 10 [zeroC]) = τ
  have hg : Grows σ τ := by rw [← hτ]; exact (Grows.new _ _).trans (Grows.new _ _)
  have hn : τ.next = σ.next + 2 := by rw [← hτ]; rfl
  have g0 : τ.get σ.next = some (.cells 4 [[u8 kd, int n, int r, int a]]) := by rw [← hτ]; simp [get_new]
  have g1 : τ.get (σ.next + 1) = some (.cells 10 [zeroC]) := by rw [← hτ]; simp [get_new]
  simp [g0]
  refine at_ev (h.grows hg) ?_ ?_
  · intro hf υ hu
    have u1 : υ.get (σ.next + 1) = some (.cells 10 [zeroC]) := by rw [hu.get _ (by omega)]; exact g1
    simp [hf, u1]
    exact hk1 hf _ ((hg.trans hu).set (by omega) _)
  · intro hf υ hu row i c q rest h1 h2 h3 h4 h5 h6
    have hql := (h.apart _ _ _ h5).2.2.2
    have u1 : υ.get (σ.next + 1) = some (.cells 10 [zeroC]) := by rw [hu.get _ (by omega)]; exact g1
    have u2 : υ.get q = some (.cells 10 (row ++ rest)) := by rw [hu.get _ (by omega)]; exact h6
    have hi := (List.getElem?_eq_some_iff.1 h3).1
    simp [u1, u2, List.getElem?_append_left hi, h3, h4, List.take_of_length_le (Nat.le_of_eq h4), List.drop_of_length_le (Nat.le_of_eq h4)]
    exact hk0 hf _ ((hg.trans hu).set (by omega) _) row i c h1 h2 h3
theorem get_nil {kd n r a : Int} (hk : ∀ τ, Grows σ τ → k (.tup [.agg zeroC, int (if kd ≠ 2 ∨ n ≠ 0 then 1 else 6)]) τ) : Ev PR 12 [nilP, valV kd n r a] σ k kp := by
  apply F12_ev; unfold F12
  simp
  generalize hτ : (σ.new (.cells 4 [[u8 kd, int n, int r, int a]])).new (.cells 10 [zeroC]) = τ
  have hg : Grows σ τ := by rw [← hτ]; exact (Grows.new _ _).trans (Grows.new _ _)
  have hn : τ.next = σ.next + 2 := by rw [← hτ]; rfl
  have g0 : τ.get σ.next = some (.cells 4 [[u8 kd, int n, int r, int a]]) := by rw [← hτ]; simp [get_new]
  have g1 : τ.get (σ.next + 1) = some (.cells 10 [zeroC]) := by rw [← hτ]; simp [get_new]
  simp [g0]
  refine at_nil fun υ hu => ?_
  have u1 : υ.get (σ.next + 1) = some (.cells 10 [zeroC]) := by rw [hu.get _ (by omega)]; exact g1
  have hne : (if kd ≠ 2 ∨ n ≠ 0 then (1 : Int) else 6) ≠ 0 := by split <;> omega
  generalize hm : (if kd ≠ 2 ∨ n ≠ 0 then (1 : Int) else 6) = m at *
  simp [hne, u1]
  exact hk _ ((hg.trans hu).set (by omega) _)

theorem push_nil (hk : k (.tup [int 0, .val (.bool false)]) σ) : Ev PR 9 [nilP] σ k kp := by
  apply F9_ev; unfold F9
  simpa using hk
theorem pop_nil (hk : k (.val (.bool false)) σ) : Ev PR 11 [nilP] σ k kp := by
  apply F11_ev; unfold F11
  simpa using hk
theorem put_nil {r : Int} {c : List AV} (hc : c.length = 10) (hk : ∀ τ, Grows σ τ → k (.tup [zeroV, int 6]) τ) : Ev PR 10 [nilP, int r, .agg c] σ k kp := by
  apply F10_ev; unfold F10
  simp [hc]
  generalize hτ : ((σ.new (.cells 10 [c])).new (.cells 4 [[u8 0, int 0, int 0, int 0]])).new (.cells 1 [[int r]]) = τ
  have hg : Grows σ τ := by rw [← hτ]; exact ((Grows.new _ _).trans (Grows.new _ _)).trans (Grows.new _ _)
  have g6 : τ.get (σ.next + 1) = some (.cells 4 [[u8 0, int 0, int 0, int 0]]) := by rw [← hτ]; simp [get_new]
  have g7 : τ.get (σ.next + 2) = some (.cells 1 [[int r]]) := by rw [← hτ]; simp [get_new]
  refine live_nil (l := [r]) (.inr (.inr ⟨σ.next + 2, [], rfl, by simpa using g7⟩)) ?_
  simp [g6]
  exact hk _ (hg.set (by omega) _)
theorem set_nil {kd n r a : Int} {c : List AV} (hc : c.length = 10) (hk : ∀ τ, Grows σ τ → k (int (if kd ≠ 2 ∨ n ≠ 0 then 1 else 6)) τ) : Ev PR 23 [nilP, valV kd n r a, .agg c] σ k kp := by
  apply F23_ev; unfold F23
  simp [hc]
  generalize hτ : (σ.new (.cells 4 [[u8 kd, int n, int r, int a]])).new (.cells 10 [c]) = τ
  have hg : Grows σ τ := by rw [← hτ]; exact (Grows.new _ _).trans (Grows.new _ _)
  have g0 : τ.get σ.next = some (.cells 4 [[u8 kd, int n, int r, int a]]) := by rw [← hτ]; simp [get_new]
  simp [g0]
  refine at_nil fun υ hu => ?_
  have hne : (if kd ≠ 2 ∨ n ≠ 0 then (1 : Int) else 6) ≠ 0 := by split <;> omega
  generalize hm : (if kd ≠ 2 ∨ n ≠ 0 then (1 : Int) else 6) = m at *
  refine seqW_in ?_
  simp [hne]
  exact hk _ (hg.trans hu)

theorem set_ev (h : In σ id s F) {kd n r a : Int} {c : List AV} (hc : c.length = 10)
    (hk1 : s.find kd n r a ≠ 0 → ∀ τ, Grows σ τ → k (int (s.find kd n r a)) τ)
    (hk0 : s.find kd n r a = 0 → ∀ row (ri i : Nat), r = ri → s.L[ri]? = some (true, row) → a = i → i < row.length → ∀ τ, In τ id (s.put ri (row.set i c)) (Wide F σ.next) → Off F σ τ → k (int 0) τ) : Ev PR 23 [.ptr id 0 0, valV kd n r a, .agg c] σ k kp := by
  obtain ⟨mid, lid, es, h, hF⟩ := h
  apply F23_ev; unfold F23
  simp [hc]
  generalize hτ : (σ.new (.cells 4 [[u8 kd, int n, int r, int a]])).new (.cells 10 [c]) = τ
  have hg : Grows σ τ := by rw [← hτ]; exact (Grows.new _ _).trans (Grows.new _ _)
  have hn : τ.next = σ.next + 2 := by rw [← hτ]; rfl
  have g0 : τ.get σ.next = some (.cells 4 [[u8 kd, int n, int r, int a]]) := by rw [← hτ]; simp [get_new]
  have g1 : τ.get (σ.next + 1) = some (.cells 10 [c]) := by rw [← hτ]; simp [get_new]
  simp [g0]
  refine at_ev (h.grows hg) ?_ ?_
  · intro hf υ hu
    refine seqW_in ?_
    simp [hf]
    exact hk1 hf _ (hg.trans hu)
  · intro hf υ hu row i c0 q rest h1 h2 h3 h4 h5 h6
    have hu' := hg.trans hu
    have hA := h.grows hu'
    obtain ⟨q1, q2, q3, q4⟩ := h.apart _ _ _ h5
    have u1 : υ.get (σ.next + 1) = some (.cells 10 [c]) := by rw [hu.get _ (by omega)]; exact g1
    have u2 : υ.get q = some (.cells 10 (row ++ rest)) := by rw [hu.get _ (by omega)]; exact h6
    have hi := (List.getElem?_eq_some_iff.1 h3).1
    obtain ⟨ri, rfl, hL, hril⟩ := S.row_nat h1
    refine seqW_in ?_
    simp [u1, u2, List.getElem?_append_left hi, h3, h4, hc, List.take_of_length_le (Nat.le_of_eq hc), List.drop_of_length_le (Nat.le_of_eq h4)]
    have hcell := S.cells_put (c' := row.set i c) hL
    have hset : (row ++ rest).set i c = row.set i c ++ rest := List.set_append_left _ _ hi
    have hw : ∀ j, j ≠ q → (υ.set q (.cells 10 ((row ++ rest).set i c))).get j = υ.get j := fun j hj => by rw [get_set, if_neg hj]
    refine hk0 hf row ri i rfl hL h2 hi _ ⟨mid, lid, es, ?_, fun j hj => .inl (hF j hj)⟩ ⟨hu'.next, fun j hj hlt => ?_⟩
    · refine { obj := ?_, map := ?_, keys := h.keys, uniq := h.uniq, lv := ?_, none := ?_, some := ?_, ids := h.ids, lt := hA.lt, apart := hA.apart, inj := h.inj }
      · rw [hw _ (Ne.symm q1), S.live_put hL]
        have : (s.put ri (row.set i c)).cells = s.cells := by simp at hcell; omega
        rw [this, hA.obj]
        simp [S.put]
      · rw [hw _ (Ne.symm q2)]; exact hA.map
      · rw [hw _ (Ne.symm q3), S.live_put hL]; exact hA.lv
      · intro r hr
        rw [S.row_put hril] at hr
        split at hr
        · cases hr
        · exact h.none r hr
      · intro r c' hr
        rw [S.row_put hril] at hr
        split at hr
        · rename_i e
          subst e
          cases hr
          obtain ⟨v, hv, hvr⟩ := h.some _ _ h1
          rw [hv] at h5
          cases h5
          refine ⟨_, hv, ?_, .inr ⟨q, rest, by simp, by rw [get_set, if_pos rfl, hset]⟩⟩
          intro el hel
          rcases List.mem_or_eq_of_mem_set hel with h1 | h1
          · exact hvr.1 el h1
          · rw [h1]; exact hc
        · rename_i e
          obtain ⟨v, hv, hvr⟩ := hA.some r c' hr
          refine ⟨v, hv, hvr.mono fun q' n' e' => hw _ fun e2 => e ?_⟩
          subst e2
          exact h.inj r ri q' _ _ (by rw [hv, e']) h5
    · have hjq : j ≠ q := fun e => hj (hF _ (.inr (.inr (.inr ⟨ri, row.length, by rw [e]; exact h5⟩))))
      rw [hw _ hjq]
      exact hu'.get _ hlt

/-! ### A new one -/
def clampI (n lo hi : Int) : Int := if n < lo then lo else if hi < n then hi else n
def S.new (r c : Int) : S := { R := clampI r 1 1048576, C := clampI c 0 4194304, L := [(true, [])], most := 0 }
theorem new_ok (r c : Int) : Ok (S.new r c) := by
  have h1 : 1 ≤ clampI r 1 1048576 ∧ clampI r 1 1048576 ≤ 1048576 := by unfold clampI; split <;> (try split) <;> omega
  have h2 : 0 ≤ clampI c 0 4194304 ∧ clampI c 0 4194304 ≤ 4194304 := by unfold clampI; split <;> (try split) <;> omega
  exact ⟨h1, h2, by simp [S.live, S.new, idx]; exact h1.1, by simp [S.cells, S.new, tot]; exact h2.1, by simp [S.new]; exact h2.1, by simp [S.new]⟩
theorem new_ev {r c : Int} (hk : ∀ id τ, σ.next ≤ id → In τ id (S.new r c) (fun i => σ.next ≤ i) → Off (fun i => σ.next ≤ i) σ τ → k (.ptr id 0 0) τ) : Ev PR 8 [.agg [int r, int c]] σ k kp := by
  apply F8_ev; unfold F8
  have e1 : (if 1 < (if (1048576 : Int) < r then 1048576 else r) then (if (1048576 : Int) < r then 1048576 else r) else 1) = clampI r 1 1048576 := by
    unfold clampI; repeat' split
    all_goals omega
  have e2 : (if 0 < (if (4194304 : Int) < c then 4194304 else c) then (if (4194304 : Int) < c then 4194304 else c) else 0) = clampI c 0 4194304 := by
    unfold clampI; repeat' split
    all_goals omega
  simp
  rw [e1, e2]
  generalize hτ : (((σ.new (.cells 2 [[int r, int c]])).set σ.next (.cells 2 [[.val (.int .i64 (clampI r 1 1048576)), int c]])).set σ.next (.cells 2 [[.val (.int .i64 (clampI r 1 1048576)), .val (.int .i64 (clampI c 0 4194304))]])).new (.map []) = τ
  have hn : τ.next = σ.next + 2 := by rw [← hτ]; rfl
  have hg : Grows σ τ := by rw [← hτ]; exact (((Grows.new _ _).set (Nat.le_refl _) _).set (Nat.le_refl _) _).trans (Grows.new _ _)
  have g1 : τ.get (σ.next + 1) = some (.map []) := by rw [← hτ]; simp [get_new]
  refine stepU (aMapUpdate_mp (q := key 0) rfl rfl g1 rfl) ?_
  simp [hn]
  refine hk _ _ (by omega) ⟨σ.next + 1, σ.next + 2, [(key 0, nilSl)], ?_, ?_⟩ ⟨by simp; omega, fun i h1 h2 => by simp [get_new, get_set, Nat.ne_of_lt h2, lt_next h2, hn, mset, hg.get i h2]; intro e; omega⟩
  · have hrow : ∀ r' : Int, (S.new r c).row r' = if r' = 0 then some [] else none := by
      intro r'
      unfold S.row S.new at' rowAt
      by_cases h0 : r' = 0
      · subst h0; rfl
      · rw [if_neg h0]
        split
        · rename_i h1
          obtain ⟨n, rfl⟩ := Int.eq_ofNat_of_zero_le h1
          cases n with
          | zero => exact absurd rfl h0
          | succ n => rfl
        · rfl
    refine { obj := ?_, map := ?_, keys := rfl, uniq := by simp [Uniq], lv := ⟨[], ?_⟩, none := ?_, some := ?_, ids := by omega, lt := ?_, apart := ?_, inj := ?_ }
    · simp [get_new, get_set, hn, S.new, S.live, S.cells, idx, tot]
    · simp [get_new, get_set, hn, mset]
    · simp [get_new, get_set, hn, S.new, S.live, idx, ints]
    · intro r' h
      rw [hrow] at h
      split at h
      · cases h
      · rename_i e; simp [mget, Ne.symm e]
    · intro r' c' h
      rw [hrow] at h
      split at h
      · rename_i e
        cases h
        exact ⟨nilSl, by simp [mget, e], by simp, .inl ⟨rfl, rfl⟩⟩
      · cases h
    · simp [hn]
    · intro r' q n h
      simp only [mget] at h
      split at h <;> cases h
    · intro r' r'' q n n' h
      simp only [mget] at h
      split at h <;> cases h
  · rintro j (rfl | rfl | rfl | ⟨r', n, h⟩)
    · omega
    · omega
    · omega
    · simp only [mget] at h
      split at h <;> cases h

theorem Off.fresh {σ τ υ : AHeap} {F : Nat → Prop} (o : Off F τ υ) (h : Grows σ τ) (hF : ∀ i, F i → σ.next ≤ i) : Grows σ υ :=
  ⟨Nat.le_trans h.next o.next, fun i hi => (o.get i (fun e => by have := hF i e; omega) (Nat.lt_of_lt_of_le hi h.next)).trans (h.get i hi)⟩
theorem In.fresh {τ : AHeap} {n m : Nat} (h : In τ id s (Wide (fun i => n ≤ i) m)) (hn : n ≤ m) : In τ id s (fun i => n ≤ i) := by
  obtain ⟨mid, lid, es, h1, h2⟩ := h
  exact ⟨mid, lid, es, h1, fun i hi => (h2 i hi).elim (fun h => h) fun h => Nat.le_trans hn h⟩

theorem In.cut {τ : AHeap} (h : In τ id s F) : In τ id s (fun i => F i ∧ i < τ.next) := by
  obtain ⟨mid, lid, es, h1, h2⟩ := h
  refine ⟨mid, lid, es, h1, fun i hi => ⟨h2 i hi, ?_⟩⟩
  rcases hi with rfl | rfl | rfl | ⟨r, n, e⟩
  · exact h1.lt.1
  · exact h1.lt.2.1
  · exact h1.lt.2.2
  · exact (h1.apart _ _ _ e).2.2.2
theorem In.sub {τ : AHeap} {G : Nat → Prop} (h : In τ id s F) (hs : ∀ i, F i → G i) : In τ id s G := by
  obtain ⟨mid, lid, es, h1, h2⟩ := h
  exact ⟨mid, lid, es, h1, fun i hi => hs i (h2 i hi)⟩

/-- The document's example. -/
theorem awake_ev (hk : ∀ τ, Grows σ τ → k (.val (.bool true)) τ) : Ev PR 7 [] σ k kp := by
  apply F7_ev; unfold F7
  simp
  refine new_ev fun id τ hid hin hoff => ?_
  have hg := hoff.fresh (Grows.refl σ) (fun _ h => h)
  have ok := new_ok 2 2
  refine push_ev hin ok ?_
  rw [if_pos (by decide)]
  intro τ1 hin1 hoff1
  have hg1 := hoff1.fresh hg (fun _ h => h)
  have hin1 := hin1.fresh hg.next
  generalize hs : (S.new 2 2).more = s1 at hin1
  have e1 : s1 = { R := 2, C := 2, L := [(true, []), (true, [])], most := 0 } := by rw [← hs]; rfl
  have ok1 : Ok s1 := by subst e1; exact ⟨by decide, by decide, by decide, by decide, by decide, by decide⟩
  have hr1 : s1.row 1 = some [] := by subst e1; rfl
  simp
  refine put_ev hin1 ok1 (r := 1) (c := [u8 2, u8 0, int 0, int 0, int 0, u8 0, int 0, int 0, int 0, int 0]) rfl ?_
  rw [hr1]
  simp only
  rw [if_neg (by subst e1; decide)]
  intro i hi hL τ2 hin2 hoff2
  have hg2 := hoff2.fresh hg1 (fun _ h => h)
  have hin2 := (hin2.fresh hg1.next).cut
  have : i = 1 := by omega
  subst this
  generalize hs2 : s1.putC 1 [] [u8 2, u8 0, int 0, int 0, int 0, u8 0, int 0, int 0, int 0, int 0] = s2 at hin2
  have e2 : s2 = { R := 2, C := 2, L := [(true, []), (true, [[u8 2, u8 0, int 0, int 0, int 0, u8 0, int 0, int 0, int 0, int 0]])], most := 1 } := by rw [← hs2, e1]; rfl
  simp
  generalize hτ3 : (τ2.new (.cells 4 [[u8 0, int 0, int 0, int 0]])).set τ2.next (.cells 4 [[u8 2, int 0, int 1, int 0]]) = τ3
  have h3 : Grows τ2 τ3 := by rw [← hτ3]; exact (Grows.new _ _).set (Nat.le_refl _) _
  have g3 : τ3.get τ2.next = some (.cells 4 [[u8 2, int 0, int 1, int 0]]) := by rw [← hτ3]; simp
  have n3 : τ3.next = τ2.next + 1 := by rw [← hτ3]; rfl
  refine get_ev (hin2.grows h3) (kd := 2) (n := 0) (r := 1) (a := 0) (fun h => absurd (by subst e2; rfl) h) ?_
  intro _ τ4 h4 row i c hrow hi2 hc
  have hr2 : s2.row 1 = some [[u8 2, u8 0, int 0, int 0, int 0, u8 0, int 0, int 0, int 0, int 0]] := by subst e2; rfl
  rw [hr2] at hrow
  cases hrow
  have : i = 0 := by omega
  subst this
  cases hc
  simp
  generalize hτ5 : (τ4.new (.cells 10 [zeroC])).set τ4.next (.cells 10 [[u8 2, u8 0, int 0, int 0, int 0, u8 0, int 0, int 0, int 0, int 0]]) = τ5
  have h5 : Grows τ4 τ5 := by rw [← hτ5]; exact (Grows.new _ _).set (Nat.le_refl _) _
  have g5 : τ5.get τ4.next = some (.cells 10 [[u8 2, u8 0, int 0, int 0, int 0, u8 0, int 0, int 0, int 0, int 0]]) := by rw [← hτ5]; simp
  have n5 : τ5.next = τ4.next + 1 := by rw [← hτ5]; rfl
  have hg5 := ((hg2.trans h3).trans h4).trans h5
  refine pop_ev (hin2.grows ((h3.trans h4).trans h5)) (by subst e2; exact ⟨by decide, by decide, by decide, by decide, by decide, by decide⟩) ?_
  rw [if_neg (by subst e2; decide)]
  intro i hi τ6 hin6 hoff6
  have hg6 := hoff6.fresh hg5 (fun _ h => h.1)
  have e3 : s2.less i = { R := 2, C := 2, L := [(true, []), (false, [])], most := 1 } := by
    subst e2
    have : i = 1 := by simpa [S.live, idx] using hi.symm
    subst this; rfl
  have g6 : τ6.get τ2.next = some (.cells 4 [[u8 2, int 0, int 1, int 0]]) := by
    rw [hoff6.get _ (fun h => by omega) (by have := h3.next; have := h4.next; have := h5.next; omega), h5.get _ (by have := h4.next; omega), h4.get _ (by omega)]; exact g3
  have g6' : τ6.get τ4.next = some (.cells 10 [[u8 2, u8 0, int 0, int 0, int 0, u8 0, int 0, int 0, int 0, int 0]]) := by
    rw [hoff6.get _ (fun h => by have := h3.next; have := h4.next; omega) (by omega)]; exact g5
  rw [e3] at hin6
  simp [g6]
  have hf : ({ R := 2, C := 2, L := [(true, []), (false, [])], most := 1 } : S).find 2 0 1 0 = 6 := rfl
  refine get_ev hin6 (kd := 2) (n := 0) (r := 1) (a := 0) ?_ (fun h => by rw [hf] at h; cases h)
  rw [hf]
  intro _ τ7 h7
  have g7 : τ7.get τ4.next = some (.cells 10 [[u8 2, u8 0, int 0, int 0, int 0, u8 0, int 0, int 0, int 0, int 0]]) := by
    rw [h7.get _ (by have := h5.next; have := hoff6.next; omega)]; exact g6'
  have hlen : ((S.new 2 2).L.length : Int) = 1 := rfl
  have hne : τ4.next ≠ τ7.next := by have := h5.next; have := hoff6.next; have := h7.next; omega
  simp [hlen, get_set, get_new, hne, g7]
  exact hk _ ((hg6.trans h7).trans ((Grows.new _ _).set (Nat.le_refl _) _))

end Go.Abs.Stk
