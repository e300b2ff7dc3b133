import Derived.Test.YtjilebpcaemopaaGreatDoorStackM
import Derived.Test.YtjilebpcaemopaaGreatDoorAbsN
set_option linter.unusedVariables false
set_option linter.unusedSimpArgs false
set_option linter.deprecated false
namespace Go.Abs.Stk
open Go Go.Abs Go.Proofs.MacD
variable {σ : AHeap} {id : Nat} {s : S} {F : Nat → Prop} {k kp : AV → AHeap → Prop}

abbrev valV (kd n r a : Int) : AV := .agg [u8 kd, int n, int r, int a]
abbrev nilP : AV := .val (.pointer none)

theorem look_at {mid lid : Nat} {es : List (MK × AV)} (h : At σ id mid lid es s) {r : Int} {v : AV} (hv : mget es (key r) = some v) : aLookup (.int .i64) (.val (.slice none 0 0)) false (.mp mid) (int r) σ = some v := by
  rw [aLookup_mp (q := key r) rfl rfl h.map h.keys, hv]; rfl

theorem at_ev {mid lid : Nat} {es : List (MK × AV)} (h : At σ id mid lid es s) {kd n r a : Int}
    (hk1 : s.find kd n r a ≠ 0 → ∀ τ, Grows σ τ → k (.tup [nilP, int (s.find kd n r a)]) τ)
    (hk0 : s.find kd n r a = 0 → ∀ τ, Grows σ τ → ∀ row (i : Nat) c q rest, s.row r = some row → a = i → row[i]? = some c → c.length = 10 → mget es (key r) = some (.own q row.length) → σ.get q = some (.cells 10 (row ++ rest)) → k (.tup [.ptr q i 0, int 0]) τ) :
    Ev PR 172 [.ptr id 0 0, valV kd n r a] σ k kp := by
  apply F172_ev; unfold F172
  simp
  by_cases h1 : kd ≠ 2 ∨ n ≠ 0
  · have hf : s.find kd n r a = 1 := by simp only [SG.find, if_pos h1]
    rw [hf] at hk1
    have := hk1 (by omega) _ (Grows.new σ (.cells 4 [[u8 kd, int n, int r, int a]]))
    by_cases h2 : kd = 2
    · have h3 : n ≠ 0 := by omega
      simpa [h2, h3] using this
    · simpa [h2] using this
  · have h2 : kd = 2 := by omega
    have h3 : n = 0 := by omega
    subst h2; subst h3
    have hf : s.find 2 0 r a = match s.row r with | none => 6 | some row => if a < 0 ∨ row.length ≤ a then 1 else 0 := by
      simp only [SG.find, if_neg h1]
      cases s.row r <;> rfl
    simp
    generalize hτ : (σ.new (.cells 4 [[u8 2, int 0, int r, int a]])).new (.cells 1 [[int r]]) = τ
    have hg : Grows σ τ := by rw [← hτ]; exact (Grows.new _ _).trans (Grows.new _ _)
    have g0 : τ.get σ.next = some (.cells 4 [[u8 2, int 0, int r, int a]]) := by rw [← hτ]; simp [get_new]
    have g1 : τ.get (σ.next + 1) = some (.cells 1 [[int r]]) := by rw [← hτ]; simp [get_new]
    have h' := h.grows hg
    refine live_ev (F := fun _ => True) ⟨mid, lid, es, h', fun _ _ => trivial⟩ (l := [r]) (.inr (.inr ⟨σ.next + 1, [], rfl, by simpa using g1⟩)) (by simp) ?_
    cases hrow : s.row r with
    | none =>
      rw [hrow] at hf
      simp only at hf
      rw [hf] at hk1
      simpa [hrow] using hk1 (by omega) τ hg
    | some row =>
      rw [hrow] at hf
      simp only at hf
      obtain ⟨v, hv, hvr⟩ := h.some _ _ hrow
      simp [hrow, g0]
      by_cases ha : a < 0
      · rw [if_pos (.inl ha)] at hf
        rw [hf] at hk1
        simpa [ha] using hk1 (by omega) τ hg
      · have hl := look_at h' hv
        have hlen : aLenK .slice v τ = some (int row.length) := by rcases hvr.2 with ⟨rfl, rfl⟩ | ⟨q, rest, rfl, _⟩ <;> rfl
        simp [ha, h'.obj, g0, hl, hlen]
        by_cases hb : (row.length : Int) ≤ a
        · rw [if_pos (.inr hb)] at hf
          rw [hf] at hk1
          simpa [hb] using hk1 (by omega) τ hg
        · rw [if_neg (by omega)] at hf
          obtain ⟨i, rfl⟩ := Int.eq_ofNat_of_zero_le (Int.not_lt.1 ha)
          have hi : i < row.length := by omega
          obtain ⟨c, hc⟩ : ∃ c, row[i]? = some c := ⟨_, List.getElem?_eq_getElem hi⟩
          have hcl := hvr.1 c (List.mem_of_getElem? hc)
          rcases hvr.2 with ⟨rfl, rfl⟩ | ⟨q, rest, rfl, hq⟩
          · simp at hi
          · have hq' : τ.get q = some (.cells 10 (row ++ rest)) := by rw [hg.get _ (h.apart _ _ _ hv).2.2.2]; exact hq
            have hel : elAt τ q i = some c := by rw [elAt_cells hq', List.getElem?_append_left hi, hc]
            have hix : aIndexAddr 10 (.own q row.length) (int i) τ = some (.ptr q i 0) := by
              rw [aIndexAddr_own, if_pos (by omega)]
              simp only [Int.toNat_natCast, hel, Option.bind_some, hcl, if_true]
            simp [hb, h'.obj, g0, hl, hix]
            exact hk0 hf τ hg row i c q rest hrow rfl hc hcl hv hq

abbrev zeroC : List AV := [u8 0, u8 0, int 0, int 0, int 0, u8 0, int 0, int 0, int 0, int 0]

theorem get_ev (h : In σ id s F) {kd n r a : Int}
    (hk1 : s.find kd n r a ≠ 0 → ∀ τ, Grows σ τ → k (.tup [.agg zeroC, int (s.find kd n r a)]) τ)
    (hk0 : s.find kd n r a = 0 → ∀ τ, Grows σ τ → ∀ row (i : Nat) c, s.row r = some row → a = i → row[i]? = some c → k (.tup [.agg c, int 0]) τ) : Ev PR 171 [.ptr id 0 0, valV kd n r a] σ k kp := by
  obtain ⟨mid, lid, es, h, hF⟩ := h
  apply F171_ev; unfold F171
  simp
  generalize hτ : (σ.new (.cells 4 [[u8 kd, int n, int r, int a]])).new (.cells 10 [zeroC]) = τ
  have hg : Grows σ τ := by rw [← hτ]; exact (Grows.new _ _).trans (Grows.new _ _)
  have hn : τ.next = σ.next + 2 := by rw [← hτ]; rfl
  have g0 : τ.get σ.next = some (.cells 4 [[u8 kd, int n, int r, int a]]) := by rw [← hτ]; simp [get_new]
  have g1 : τ.get (σ.next + 1) = some (.cells 10 [zeroC]) := by rw [← hτ]; simp [get_new]
  simp [g0]
  refine at_ev (h.grows hg) ?_ ?_
  · intro hf υ hu
    have u1 : υ.get (σ.next + 1) = some (.cells 10 [zeroC]) := by rw [hu.get _ (by omega)]; exact g1
    simp [hf, u1]
    exact hk1 hf _ ((hg.trans hu).set (by omega) _)
  · intro hf υ hu row i c q rest h1 h2 h3 h4 h5 h6
    have hql := (h.apart _ _ _ h5).2.2.2
    have u1 : υ.get (σ.next + 1) = some (.cells 10 [zeroC]) := by rw [hu.get _ (by omega)]; exact g1
    have u2 : υ.get q = some (.cells 10 (row ++ rest)) := by rw [hu.get _ (by omega)]; exact h6
    have hi := (List.getElem?_eq_some_iff.1 h3).1
    simp [u1, u2, List.getElem?_append_left hi, h3, h4, List.take_of_length_le (Nat.le_of_eq h4), List.drop_of_length_le (Nat.le_of_eq h4)]
    exact hk0 hf _ ((hg.trans hu).set (by omega) _) row i c h1 h2 h3
theorem set_ev (h : In σ id s F) {kd n r a : Int} {c : List AV} (hc : c.length = 10)
    (hk1 : s.find kd n r a ≠ 0 → ∀ τ, Grows σ τ → k (int (s.find kd n r a)) τ)
    (hk0 : s.find kd n r a = 0 → ∀ row (ri i : Nat), r = ri → s.L[ri]? = some (true, row) → a = i → i < row.length → ∀ τ, In τ id (s.put ri (row.set i c)) (Wide F σ.next) → Off F σ τ → k (int 0) τ) : Ev PR 127 [.ptr id 0 0, valV kd n r a, .agg c] σ k kp := by
  obtain ⟨mid, lid, es, h, hF⟩ := h
  apply F127_ev; unfold F127
  simp [hc]
  generalize hτ : (σ.new (.cells 4 [[u8 kd, int n, int r, int a]])).new (.cells 10 [c]) = τ
  have hg : Grows σ τ := by rw [← hτ]; exact (Grows.new _ _).trans (Grows.new _ _)
  have hn : τ.next = σ.next + 2 := by rw [← hτ]; rfl
  have g0 : τ.get σ.next = some (.cells 4 [[u8 kd, int n, int r, int a]]) := by rw [← hτ]; simp [get_new]
  have g1 : τ.get (σ.next + 1) = some (.cells 10 [c]) := by rw [← hτ]; simp [get_new]
  simp [g0]
  refine at_ev (h.grows hg) ?_ ?_
  · intro hf υ hu
    refine seqW_in ?_
    simp [hf]
    exact hk1 hf _ (hg.trans hu)
  · intro hf υ hu row i c0 q rest h1 h2 h3 h4 h5 h6
    have hu' := hg.trans hu
    have hA := h.grows hu'
    obtain ⟨q1, q2, q3, q4⟩ := h.apart _ _ _ h5
    have u1 : υ.get (σ.next + 1) = some (.cells 10 [c]) := by rw [hu.get _ (by omega)]; exact g1
    have u2 : υ.get q = some (.cells 10 (row ++ rest)) := by rw [hu.get _ (by omega)]; exact h6
    have hi := (List.getElem?_eq_some_iff.1 h3).1
    obtain ⟨ri, rfl, hL, hril⟩ := SG.row_nat h1
    refine seqW_in ?_
    simp [u1, u2, List.getElem?_append_left hi, h3, h4, hc, List.take_of_length_le (Nat.le_of_eq hc), List.drop_of_length_le (Nat.le_of_eq h4)]
    have hcell := SG.cells_put (c' := row.set i c) hL
    have hset : (row ++ rest).set i c = row.set i c ++ rest := List.set_append_left _ _ hi
    have hw : ∀ j, j ≠ q → (υ.set q (.cells 10 ((row ++ rest).set i c))).get j = υ.get j := fun j hj => by rw [get_set, if_neg hj]
    refine hk0 hf row ri i rfl hL h2 hi _ ⟨mid, lid, es, ?_, fun j hj => .inl (hF j hj)⟩ ⟨hu'.next, fun j hj hlt => ?_⟩
    · refine { obj := ?_, map := ?_, keys := h.keys, uniq := h.uniq, lv := ?_, none := ?_, some := ?_, ids := h.ids, lt := hA.lt, apart := hA.apart, inj := h.inj }
      · rw [hw _ (Ne.symm q1), SG.live_put hL]
        have : (s.put ri (row.set i c)).cells = s.cells := by simp at hcell; omega
        rw [this, hA.obj]
        simp [SG.put]
      · rw [hw _ (Ne.symm q2)]; exact hA.map
      · rw [hw _ (Ne.symm q3), SG.live_put hL]; exact hA.lv
      · intro r hr
        rw [SG.row_put hril] at hr
        split at hr
        · cases hr
        · exact h.none r hr
      · intro r c' hr
        rw [SG.row_put hril] at hr
        split at hr
        · rename_i e
          subst e
          cases hr
          obtain ⟨v, hv, hvr⟩ := h.some _ _ h1
          rw [hv] at h5
          cases h5
          refine ⟨_, hv, ?_, .inr ⟨q, rest, by simp, by rw [get_set, if_pos rfl, hset]⟩⟩
          intro el hel
          rcases List.mem_or_eq_of_mem_set hel with h1 | h1
          · exact hvr.1 el h1
          · rw [h1]; exact hc
        · rename_i e
          obtain ⟨v, hv, hvr⟩ := hA.some r c' hr
          refine ⟨v, hv, hvr.mono fun q' n' e' => hw _ fun e2 => e ?_⟩
          subst e2
          exact h.inj r ri q' _ _ (by rw [hv, e']) h5
    · have hjq : j ≠ q := fun e => hj (hF _ (.inr (.inr (.inr ⟨ri, row.length, by rw [e]; exact h5⟩))))
      rw [hw _ hjq]
      exact hu'.get _ hlt

/-! ### A new one -/
def clampI (n lo hi : Int) : Int := if n < lo then lo else if hi < n then hi else n
def SG.new (r c : Int) : S := { R := clampI r 1 1048576, C := clampI c 0 4194304, L := [(true, [])], most := 0 }
theorem new_ev {r c : Int} (hk : ∀ id τ, σ.next ≤ id → In τ id (SG.new r c) (fun i => σ.next ≤ i) → Off (fun i => σ.next ≤ i) σ τ → k (.ptr id 0 0) τ) : Ev PR 25 [.agg [int r, int c]] σ k kp := by
  apply F25_ev; unfold F25
  have e1 : (if 1 < (if (1048576 : Int) < r then 1048576 else r) then (if (1048576 : Int) < r then 1048576 else r) else 1) = clampI r 1 1048576 := by
    unfold clampI; repeat' split
    all_goals omega
  have e2 : (if 0 < (if (4194304 : Int) < c then 4194304 else c) then (if (4194304 : Int) < c then 4194304 else c) else 0) = clampI c 0 4194304 := by
    unfold clampI; repeat' split
    all_goals omega
  simp
  rw [e1, e2]
  generalize hτ : (((σ.new (.cells 2 [[int r, int c]])).set σ.next (.cells 2 [[.val (.int .i64 (clampI r 1 1048576)), int c]])).set σ.next (.cells 2 [[.val (.int .i64 (clampI r 1 1048576)), .val (.int .i64 (clampI c 0 4194304))]])).new (.map []) = τ
  have hn : τ.next = σ.next + 2 := by rw [← hτ]; rfl
  have hg : Grows σ τ := by rw [← hτ]; exact (((Grows.new _ _).set (Nat.le_refl _) _).set (Nat.le_refl _) _).trans (Grows.new _ _)
  have g1 : τ.get (σ.next + 1) = some (.map []) := by rw [← hτ]; simp [get_new]
  refine stepU (aMapUpdate_mp (q := key 0) rfl rfl g1 rfl) ?_
  simp [hn]
  refine hk _ _ (by omega) ⟨σ.next + 1, σ.next + 2, [(key 0, nilSl)], ?_, ?_⟩ ⟨by simp; omega, fun i h1 h2 => by simp [get_new, get_set, Nat.ne_of_lt h2, lt_next h2, hn, mset, hg.get i h2]; intro e; omega⟩
  · have hrow : ∀ r' : Int, (SG.new r c).row r' = if r' = 0 then some [] else none := by
      intro r'
      unfold SG.row SG.new at' rowAt
      by_cases h0 : r' = 0
      · subst h0; rfl
      · rw [if_neg h0]
        split
        · rename_i h1
          obtain ⟨n, rfl⟩ := Int.eq_ofNat_of_zero_le h1
          cases n with
          | zero => exact absurd rfl h0
          | succ n => rfl
        · rfl
    refine { obj := ?_, map := ?_, keys := rfl, uniq := by simp [Uniq], lv := ⟨[], ?_⟩, none := ?_, some := ?_, ids := by omega, lt := ?_, apart := ?_, inj := ?_ }
    · simp [get_new, get_set, hn, SG.new, SG.live, SG.cells, idx, tot]
    · simp [get_new, get_set, hn, mset]
    · simp [get_new, get_set, hn, SG.new, SG.live, idx, ints]
    · intro r' h
      rw [hrow] at h
      split at h
      · cases h
      · rename_i e; simp [mget, Ne.symm e]
    · intro r' c' h
      rw [hrow] at h
      split at h
      · rename_i e
        cases h
        exact ⟨nilSl, by simp [mget, e], by simp, .inl ⟨rfl, rfl⟩⟩
      · cases h
    · simp [hn]
    · intro r' q n h
      simp only [mget] at h
      split at h <;> cases h
    · intro r' r'' q n n' h
      simp only [mget] at h
      split at h <;> cases h
  · rintro j (rfl | rfl | rfl | ⟨r', n, h⟩)
    · omega
    · omega
    · omega
    · simp only [mget] at h
      split at h <;> cases h

theorem Off.fresh {σ τ υ : AHeap} {F : Nat → Prop} (o : Off F τ υ) (h : Grows σ τ) (hF : ∀ i, F i → σ.next ≤ i) : Grows σ υ :=
  ⟨Nat.le_trans h.next o.next, fun i hi => (o.get i (fun e => by have := hF i e; omega) (Nat.lt_of_lt_of_le hi h.next)).trans (h.get i hi)⟩
theorem In.fresh {τ : AHeap} {n m : Nat} (h : In τ id s (Wide (fun i => n ≤ i) m)) (hn : n ≤ m) : In τ id s (fun i => n ≤ i) := by
  obtain ⟨mid, lid, es, h1, h2⟩ := h
  exact ⟨mid, lid, es, h1, fun i hi => (h2 i hi).elim (fun h => h) fun h => Nat.le_trans hn h⟩

theorem In.cut {τ : AHeap} (h : In τ id s F) : In τ id s (fun i => F i ∧ i < τ.next) := by
  obtain ⟨mid, lid, es, h1, h2⟩ := h
  refine ⟨mid, lid, es, h1, fun i hi => ⟨h2 i hi, ?_⟩⟩
  rcases hi with rfl | rfl | rfl | ⟨r, n, e⟩
  · exact h1.lt.1
  · exact h1.lt.2.1
  · exact h1.lt.2.2
  · exact (h1.apart _ _ _ e).2.2.2
theorem In.sub {τ : AHeap} {G : Nat → Prop} (h : In τ id s F) (hs : ∀ i, F i → G i) : In τ id s G := by
  obtain ⟨mid, lid, es, h1, h2⟩ := h
  exact ⟨mid, lid, es, h1, fun i hi => hs i (h2 i hi)⟩

end Go.Abs.Stk
set_option linter.unusedVariables false
namespace Go.Abs
open Go

/-- All that is named stands below n. -/
inductive Low (n : Nat) : AV → Prop
  | any : Low n .any
  | val (v : Value) : Low n (.val v)
  | ptr {id i o : Nat} (h : id < n) : Low n (.ptr id i o)
  | ref {cs : List AV} (h : ∀ (j : Nat) x, cs[j]? = some x → Low n x) : Low n (.ref cs)
  | sl {c : Bool} {sz : Nat} {xs : List (List AV)} (h : ∀ (i : Nat) el (j : Nat) x, xs[i]? = some el → el[j]? = some x → Low n x) : Low n (.sl c sz xs)
  | own {id len : Nat} (h : id < n) : Low n (.own id len)
  | win {id off sz len : Nat} (h : id < n) : Low n (.win id off sz len)
  | mp {id : Nat} (h : id < n) : Low n (.mp id)
  | fn {f : Fn} {cap : List AV} (h : ∀ (j : Nat) x, cap[j]? = some x → Low n x) : Low n (.fn f cap)
  | iface {t : TypeId} {x : AV} (h : Low n x) : Low n (.iface t x)
  | agg {cs : List AV} (h : ∀ (j : Nat) x, cs[j]? = some x → Low n x) : Low n (.agg cs)
  | tup {cs : List AV} (h : ∀ (j : Nat) x, cs[j]? = some x → Low n x) : Low n (.tup cs)

theorem VRel.low {c : Ctx} {n : Nat} (hn : ∀ id p, c.ρ id = some p → id < n) {x : AV} {v : Value} (h : VRel c x v) : Low n x := by
  induction h with
  | any v => exact .any
  | val v => exact .val v
  | ptr h => exact .ptr (hn _ _ h)
  | ref f hi hc _ ih => exact .ref ih
  | sl f hl hne hcap hclip hc _ ih => exact .sl ih
  | own h hl hb => exact .own (hn _ _ h)
  | ownNil h => exact .own (hn _ _ h)
  | win h hl => exact .win (hn _ _ h)
  | winNil h => exact .win (hn _ _ h)
  | mp h => exact .mp (hn _ _ h)
  | fn hl hr ih =>
    rename_i f cap vs
    refine .fn fun j x hx => ?_
    obtain ⟨u, hu⟩ : ∃ u, vs[j]? = some u := ⟨_, Array.getElem?_eq_getElem (by rw [← hl]; exact (List.getElem?_eq_some_iff.1 hx).1)⟩
    exact ih j x u hx hu
  | iface h ih => exact .iface ih
  | agg hl h1 hr ih =>
    rename_i cs vs
    refine .agg fun j x hx => ?_
    obtain ⟨u, hu⟩ : ∃ u, vs[j]? = some u := ⟨_, Array.getElem?_eq_getElem (by rw [← hl]; exact (List.getElem?_eq_some_iff.1 hx).1)⟩
    exact ih j x u hx hu
  | tup hl hr ih =>
    rename_i cs vs
    refine .tup fun j x hx => ?_
    obtain ⟨u, hu⟩ : ∃ u, vs[j]? = some u := ⟨_, Array.getElem?_eq_getElem (by rw [← hl]; exact (List.getElem?_eq_some_iff.1 hx).1)⟩
    exact ih j x u hx hu

/-- The same heap, seen with fewer names. -/
structure Fewer (n : Nat) (c d : Ctx) : Prop where
  ρ : ∀ id, id < n → d.ρ id = c.ρ id
  imm : ∀ b, c.imm b → d.imm b
  h : d.h = c.h

theorem VRel.fewer {n : Nat} {c d : Ctx} (hf : Fewer n c d) {x : AV} {v : Value} (h : VRel c x v) : Low n x → VRel d x v := by
  induction h with
  | any v => exact fun _ => .any v
  | val v => exact fun _ => .val v
  | ptr h => intro hl; cases hl with | ptr hn => exact .ptr (by rw [hf.ρ _ hn]; exact h)
  | ref f hi hc _ ih =>
    intro hl; cases hl with
    | ref hx => exact .ref f (hf.imm _ hi) (fun j hj => by rw [hf.h]; exact hc j hj) (fun j x hj => ih j x hj (hx j x hj))
  | sl f hl hne hcap hclip hc _ ih =>
    intro hlow; cases hlow with
    | sl hx =>
      refine .sl f hl hne hcap hclip (fun i el he => ?_) (fun i el j x hi hj => ih i el j x hi hj (hx i el j x hi hj))
      obtain ⟨h1, b, o, h2, h3, h4⟩ := hc i el he
      exact ⟨h1, b, o, h2, hf.imm _ h3, fun j hj => by rw [hf.h]; exact h4 j hj⟩
  | own h hl hb => intro hlow; cases hlow with | own hn => exact .own (by rw [hf.ρ _ hn]; exact h) hl (by rw [hf.h]; exact hb)
  | ownNil h => intro hlow; cases hlow with | own hn => exact .ownNil (by rw [hf.ρ _ hn]; exact h)
  | win h hl => intro hlow; cases hlow with | win hn => exact .win (by rw [hf.ρ _ hn]; exact h) hl
  | winNil h => intro hlow; cases hlow with | win hn => exact .winNil (by rw [hf.ρ _ hn]; exact h)
  | mp h => intro hlow; cases hlow with | mp hn => exact .mp (by rw [hf.ρ _ hn]; exact h)
  | fn hl hr ih => intro hlow; cases hlow with | fn hx => exact .fn hl fun i x v h1 h2 => ih i x v h1 h2 (hx i x h1)
  | iface h ih => intro hlow; cases hlow with | iface hx => exact .iface (ih hx)
  | agg hl h1 hr ih => intro hlow; cases hlow with | agg hx => exact .agg hl h1 fun i x v h1 h2 => ih i x v h1 h2 (hx i x h1)
  | tup hl hr ih => intro hlow; cases hlow with | tup hx => exact .tup hl fun i x v h1 h2 => ih i x v h1 h2 (hx i x h1)

/-- What was new is frozen. -/
inductive Frz (τ : AHeap) (n : Nat) : AV → AV → Prop
  | low {x : AV} (h : Low n x) : Frz τ n x x
  | nil {c : Bool} {sz : Nat} : Frz τ n (.val (.slice none 0 0)) (.sl c sz [])
  | own {id len sz : Nat} {els ys : List (List AV)} (hn : n ≤ id) (hg : τ.get id = some (.cells sz els)) (hl : len ≤ els.length) (hy : ys.length = len)
      (hz : ∀ (i : Nat) el fl, els[i]? = some el → ys[i]? = some fl → fl.length = el.length)
      (hf : ∀ (i : Nat) el fl (j : Nat) x y, els[i]? = some el → ys[i]? = some fl → el[j]? = some x → fl[j]? = some y → Frz τ n x y) : Frz τ n (.own id len) (.sl false sz ys)
  | ptr {id i o : Nat} {el fl : List AV} (hn : n ≤ id) (hg : elAt τ id i = some el) (hl : fl.length = el.length - o)
      (hf : ∀ (j : Nat) x y, el[o + j]? = some x → fl[j]? = some y → Frz τ n x y) : Frz τ n (.ptr id i o) (.ref fl)
  | sl {c : Bool} {sz : Nat} {xs ys : List (List AV)} (hl : ys.length = xs.length) (hz : ∀ (i : Nat) el fl, xs[i]? = some el → ys[i]? = some fl → fl.length = el.length)
      (hf : ∀ (i : Nat) el fl (j : Nat) x y, xs[i]? = some el → ys[i]? = some fl → el[j]? = some x → fl[j]? = some y → Frz τ n x y) : Frz τ n (.sl c sz xs) (.sl false sz ys)
  | ref {cs ds : List AV} (hl : ds.length = cs.length) (hf : ∀ (j : Nat) x y, cs[j]? = some x → ds[j]? = some y → Frz τ n x y) : Frz τ n (.ref cs) (.ref ds)
  | fn {f : Fn} {cs ds : List AV} (hl : ds.length = cs.length) (hf : ∀ (j : Nat) x y, cs[j]? = some x → ds[j]? = some y → Frz τ n x y) : Frz τ n (.fn f cs) (.fn f ds)
  | iface {t : TypeId} {x y : AV} (h : Frz τ n x y) : Frz τ n (.iface t x) (.iface t y)
  | agg {cs ds : List AV} (hl : ds.length = cs.length) (hf : ∀ (j : Nat) x y, cs[j]? = some x → ds[j]? = some y → Frz τ n x y) : Frz τ n (.agg cs) (.agg ds)
  | tup {cs ds : List AV} (hl : ds.length = cs.length) (hf : ∀ (j : Nat) x y, cs[j]? = some x → ds[j]? = some y → Frz τ n x y) : Frz τ n (.tup cs) (.tup ds)

theorem get_some {α : Type} {l : List α} {i : Nat} (h : i < l.length) : ∃ x, l[i]? = some x := ⟨_, List.getElem?_eq_getElem h⟩

theorem frz_rel {ρ : Nat → Option (Option Nat × Nat)} {τ : AHeap} {w : World} (hs : Sim ρ τ w) {n : Nat} {d : Ctx} (hf : Fewer n (ctx ρ τ w) d) (himm : ∀ id o b sz, n ≤ id → τ.get id = some o → ρ id = some (some b, sz) → d.imm b) {x y : AV} (hx : Frz τ n x y) :
    ∀ v, VRel (ctx ρ τ w) x v → VRel d y v := by
  induction hx with
  | low h => exact fun v hv => hv.fewer hf h
  | nil =>
    intro v hv
    rw [hv.val_inv]
    exact .sl (fun _ _ => undef) rfl (fun _ => ⟨rfl, rfl⟩) (Nat.le_refl _) (by simp) (by simp) (by simp)
  | own hn hg hl hy hz hfr ih =>
    rename_i id len sz els ys
    intro v hv
    rcases hv.own_inv with ⟨b, sz', cap, rfl, hp, hlc, _⟩ | ⟨rfl, a, rfl, _⟩
    · have hp' : ρ id = some (some b, sz') := hp
      obtain ⟨p, hp2, hor⟩ := hs.obj id _ hg
      rw [hp'] at hp2; cases hp2
      obtain ⟨rfl, cs, t, hb, hsz, hel, hone, hr⟩ := hor.cells_inv
      have hb' : w.heap[b]? = some (.cells cs t (0, 0)) := hb
      have hcell : ∀ i j, i < len → j < sz → ∃ u, cs[i * sz + j]? = some u ∧ cellOf d.h b (0 + i * sz + j) = some u := by
        intro i j hi hj
        have hrow := mul_lt_row (sz := sz) (Nat.lt_of_lt_of_le hi hl)
        have hlt : i * sz + j < cs.size := by omega
        refine ⟨cs[i * sz + j], Array.getElem?_eq_getElem hlt, ?_⟩
        rw [hf.h]
        unfold cellOf
        rw [hb, Nat.zero_add]
        exact Array.getElem?_eq_getElem hlt
      refine .sl (fun i j => cs[i * sz + j]?.getD undef) hy.symm (fun h => by cases h) hlc (by simp) (fun i fl hi => ?_) (fun i fl j x hi hj => ?_)
      · have hilt : i < len := by rw [← hy]; exact (List.getElem?_eq_some_iff.1 hi).1
        obtain ⟨el, he⟩ := get_some (l := els) (Nat.lt_of_lt_of_le hilt hl)
        refine ⟨by rw [hz i el fl he hi]; exact hel i el he, b, 0, rfl, himm id _ b sz hn hg hp', fun j hj => ?_⟩
        obtain ⟨u, hu, hc⟩ := hcell i j hilt hj
        rw [hu]
        exact ⟨hc, hone _ _ hu⟩
      · have hilt : i < len := by rw [← hy]; exact (List.getElem?_eq_some_iff.1 hi).1
        obtain ⟨el, he⟩ := get_some (l := els) (Nat.lt_of_lt_of_le hilt hl)
        have hjl : j < el.length := by rw [← hz i el fl he hi]; exact (List.getElem?_eq_some_iff.1 hj).1
        obtain ⟨z, hzz⟩ := get_some hjl
        obtain ⟨u, hu, _⟩ := hcell i j hilt (by rw [← hel i el he]; exact hjl)
        rw [hu]
        exact ih i el fl j z x he hi hzz hj u (hr i el j z he hzz u hu)
    · have : ys = [] := List.length_eq_zero_iff.1 hy
      subst this
      exact .sl (fun _ _ => undef) rfl (fun _ => ⟨rfl, rfl⟩) (Nat.le_refl _) (by simp) (by simp) (by simp)
  | ptr hn hg hl hfr ih =>
    rename_i id i o el fl
    intro v hv
    cases hv with
    | ptr hp =>
      rename_i b sz
      have hp' : ρ id = some (some b, sz) := hp
      obtain ⟨hel, els, cs, t, hgo, hei, hb, hsz, hi, hone, hr⟩ := hs.cellsAt hg hp'
      have hcell : ∀ j, j < fl.length → ∃ u, cs[i * sz + (o + j)]? = some u ∧ cellOf d.h b (i * sz + o + j) = some u := by
        intro j hj
        have hlt : i * sz + (o + j) < cs.size := by omega
        refine ⟨cs[i * sz + (o + j)], Array.getElem?_eq_getElem hlt, ?_⟩
        rw [hf.h]
        unfold cellOf
        rw [show (ctx ρ τ w).h[b]? = some (.cells cs t (0, 0)) from hb, show i * sz + o + j = i * sz + (o + j) by omega]
        exact Array.getElem?_eq_getElem hlt
      refine .ref (fun j => cs[i * sz + (o + j)]?.getD undef) (himm id _ b sz hn hgo hp') (fun j hj => ?_) (fun j x hj => ?_)
      · obtain ⟨u, hu, hc⟩ := hcell j hj
        rw [hu]
        exact ⟨hc, hone _ _ hu⟩
      · have hjl := (List.getElem?_eq_some_iff.1 hj).1
        obtain ⟨u, hu, _⟩ := hcell j hjl
        obtain ⟨z, hz⟩ := get_some (l := el) (i := o + j) (by omega)
        have := hr (o + j) z hz
        rw [Array.getD_eq_getD_getElem?, hu] at this
        rw [hu]
        exact ih j z x hz hj u this
  | sl hl hz hfr ih =>
    rename_i c sz xs ys
    intro v hv
    cases hv with
    | sl f hlen hne hcap hclip hc hr =>
      refine .sl f (by rw [hl]; exact hlen) (fun h => ⟨List.length_eq_zero_iff.1 (by rw [hl, (hne h).1]; rfl), (hne h).2⟩) hcap (by simp) (fun i fl hi => ?_) (fun i fl j x hi hj => ?_)
      · have hilt : i < xs.length := by rw [← hl]; exact (List.getElem?_eq_some_iff.1 hi).1
        obtain ⟨el, he⟩ := get_some hilt
        obtain ⟨h1, b, o, h2, h3, h4⟩ := hc i el he
        exact ⟨by rw [hz i el fl he hi]; exact h1, b, o, h2, hf.imm _ h3, fun j hj => by rw [hf.h]; exact h4 j hj⟩
      · have hilt : i < xs.length := by rw [← hl]; exact (List.getElem?_eq_some_iff.1 hi).1
        obtain ⟨el, he⟩ := get_some hilt
        obtain ⟨z, hzz⟩ := get_some (l := el) (i := j) (by rw [← hz i el fl he hi]; exact (List.getElem?_eq_some_iff.1 hj).1)
        exact ih i el fl j z x he hi hzz hj _ (hr i el j z he hzz)
  | ref hl hfr ih =>
    rename_i cs ds
    intro v hv
    cases hv with
    | ref f hi hc hr =>
      refine .ref f (hf.imm _ hi) (fun j hj => by rw [hf.h]; exact hc j (by omega)) (fun j x hj => ?_)
      obtain ⟨z, hz⟩ := get_some (l := cs) (i := j) (by rw [← hl]; exact (List.getElem?_eq_some_iff.1 hj).1)
      exact ih j z x hz hj _ (hr j z hz)
  | fn hl hfr ih =>
    rename_i f cs ds
    intro v hv
    cases hv with
    | fn hlen hr =>
      refine .fn (by rw [hl]; exact hlen) fun j x u hj hu => ?_
      obtain ⟨z, hz⟩ := get_some (l := cs) (i := j) (by rw [← hl]; exact (List.getElem?_eq_some_iff.1 hj).1)
      exact ih j z x hz hj _ (hr j z u hz hu)
  | iface h ih => intro v hv; cases hv with | iface hx => exact .iface (ih _ hx)
  | agg hl hfr ih =>
    rename_i cs ds
    intro v hv
    cases hv with
    | agg hlen h1 hr =>
      refine .agg (by rw [hl]; exact hlen) h1 fun j x u hj hu => ?_
      obtain ⟨z, hz⟩ := get_some (l := cs) (i := j) (by rw [← hl]; exact (List.getElem?_eq_some_iff.1 hj).1)
      exact ih j z x hz hj _ (hr j z u hz hu)
  | tup hl hfr ih =>
    rename_i cs ds
    intro v hv
    cases hv with
    | tup hlen hr =>
      refine .tup (by rw [hl]; exact hlen) fun j x u hj hu => ?_
      obtain ⟨z, hz⟩ := get_some (l := cs) (i := j) (by rw [← hl]; exact (List.getElem?_eq_some_iff.1 hj).1)
      exact ih j z x hz hj _ (hr j z u hz hu)

/-- A CONTRACT THAT LEAVES THE STATE AS IT WAS. -/
theorem Ev.pure {P : Program} {f : FuncId} {args : List AV} {σ : AHeap} {k kp : AV → AHeap → Prop} (h : Ev P f args σ (fun x τ => Grows σ τ ∧ ∃ y, Frz τ σ.next x y ∧ k y σ) (fun _ _ => False)) : Ev P f args σ k kp := by
  refine fun ρ w vs hs ha => (h ρ w vs hs ha).mono ?_
  rintro e w' ⟨ρ', τ, he, hs', hp⟩
  cases e with
  | returned v =>
    obtain ⟨x, ⟨hg, y, hfz, hk⟩, hv⟩ := hp
    have hmem : ∀ id, id < σ.next → τ.get id = σ.get id := hg.get
    let ρ2 : Nat → Option (Option Nat × Nat) := fun i => if i < σ.next then ρ' i else none
    have hρ2 : ∀ id, id < σ.next → ρ2 id = ρ' id := fun id h => by simp [ρ2, h]
    have hlow : ∀ id p, ρ id = some p → id < σ.next := fun id p hp => by
      rcases Nat.lt_or_ge id σ.next with h | h
      · exact h
      · rw [hs.fresh id h] at hp; cases hp
    have hfew : Fewer σ.next (ctx ρ' τ w') (ctx ρ2 σ w') := by
      refine ⟨hρ2, fun b hb => ⟨hb.1, fun id o sz ho hp => ?_⟩, rfl⟩
      have hlt := hs.lt ho
      rw [hρ2 id hlt] at hp
      exact hb.2 id o sz (by rw [hmem id hlt]; exact ho) hp
    refine ⟨ρ2, σ, ⟨⟨fun id p hp => ?_, fun b hb => ?_, he.le.sz⟩, Nat.le_refl _, he.os, he.tape, he.output, he.size⟩, ⟨fun id hid => ?_, fun id o ho => ?_, fun i j oi oj b s t hi hj pi pj => ?_⟩, y, hk, ?_⟩
    · show ρ2 id = some p
      rw [hρ2 id (hlow id p hp)]; exact he.le.ρ id p hp
    · have := he.le.imm b hb
      exact ⟨hfew.imm b this.1, this.2⟩
    · simp [ρ2, Nat.not_lt.2 hid]
    · have hlt := hs.lt ho
      obtain ⟨p, hp, hor⟩ := hs'.obj id o (by rw [hmem id hlt]; exact ho)
      refine ⟨p, by rw [hρ2 id hlt]; exact hp, ?_⟩
      obtain ⟨p0, hp0, hor0⟩ := hs.obj id o ho
      have hpp : p = p0 := by
        have := he.le.ρ id p0 hp0
        have hp' : (ctx ρ' τ w').ρ id = some p := hp
        rw [this] at hp'; cases hp'; rfl
      subst hpp
      cases hor with
      | cells cs t hb hsz hel hone hr =>
        rename_i els b sz
        refine .cells cs t hb hsz hel hone fun i el j x h1 h2 u hu => (hr i el j x h1 h2 u hu).fewer hfew ?_
        obtain ⟨_, cs0, t0, hb0, hsz0, hel0, _, hr0⟩ := hor0.cells_inv
        have hjl := (List.getElem?_eq_some_iff.1 h2).1
        have hil := (List.getElem?_eq_some_iff.1 h1).1
        have hrow := mul_lt_row (sz := sz) hil
        rw [hel i el h1] at hjl
        have hlt : i * sz + j < cs0.size := by omega
        exact (hr0 i el j x h1 h2 _ (Array.getElem?_eq_getElem hlt)).low hlow
      | none => exact .none
      | map ents clock hb hl hr =>
        refine .map ents clock hb hl fun i k x e h1 h2 => ?_
        obtain ⟨a, b⟩ := hr i k x e h1 h2
        refine ⟨a, b.fewer hfew ?_⟩
        cases hor0 with
        | map ents0 clock0 hb0 hl0 hr0 =>
          have hil := (List.getElem?_eq_some_iff.1 h1).1
          exact (hr0 i k x _ h1 (Array.getElem?_eq_getElem (by omega))).2.low hlow
      | raw hb hn => exact .raw hb hn
    · have hli := hs.lt hi
      have hlj := hs.lt hj
      rw [hρ2 i hli] at pi
      rw [hρ2 j hlj] at pj
      exact hs'.inj i j oi oj b s t (by rw [hmem i hli]; exact hi) (by rw [hmem j hlj]; exact hj) pi pj
    · refine frz_rel hs' hfew (fun id o b sz hn ho hp => ⟨hs'.blk ho hp, fun id2 o2 sz2 ho2 hp2 => ?_⟩) hfz v hv
      have hlt := hs.lt ho2
      rw [hρ2 id2 hlt] at hp2
      have := hs'.inj id id2 o o2 b sz sz2 ho (by rw [hmem id2 hlt]; exact ho2) hp hp2
      omega
  | panicked chain => obtain ⟨x, v, _, hf, _⟩ := hp; exact hf.elim
  | outgrown => exact hp.elim


theorem Low.mono {n m : Nat} (h : n ≤ m) {x : AV} (hx : Low n x) : Low m x := by
  induction hx with
  | any => exact .any
  | val v => exact .val v
  | ptr hi => exact .ptr (Nat.lt_of_lt_of_le hi h)
  | ref _ ih => exact .ref ih
  | sl _ ih => exact .sl ih
  | own hi => exact .own (Nat.lt_of_lt_of_le hi h)
  | win hi => exact .win (Nat.lt_of_lt_of_le hi h)
  | mp hi => exact .mp (Nat.lt_of_lt_of_le hi h)
  | fn _ ih => exact .fn ih
  | iface _ ih => exact .iface ih
  | agg _ ih => exact .agg ih
  | tup _ ih => exact .tup ih

inductive FrzL (τ : AHeap) (n : Nat) : List AV → List AV → Prop
  | nil : FrzL τ n [] []
  | cons {x y : AV} {xs ys : List AV} (h : Frz τ n x y) (hs : FrzL τ n xs ys) : FrzL τ n (x :: xs) (y :: ys)
theorem FrzL.len {τ n} : ∀ {xs ys : List AV}, FrzL τ n xs ys → ys.length = xs.length
  | _, _, .nil => rfl
  | _, _, .cons _ h => by simp [FrzL.len h]
theorem FrzL.at {τ n} : ∀ {xs ys : List AV}, FrzL τ n xs ys → ∀ (j : Nat) x y, xs[j]? = some x → ys[j]? = some y → Frz τ n x y
  | _, _, .nil, j, x, y, h, _ => by simp at h
  | _, _, .cons h hs, 0, x, y, h1, h2 => by simp at h1 h2; subst h1; subst h2; exact h
  | _, _, .cons h hs, j + 1, x, y, h1, h2 => FrzL.at hs j x y (by simpa using h1) (by simpa using h2)
theorem FrzL.refl {τ n} : ∀ {xs : List AV}, (∀ x ∈ xs, Low n x) → FrzL τ n xs xs
  | [], _ => .nil
  | x :: xs, h => .cons (.low (h x (by simp))) (FrzL.refl fun y hy => h y (by simp [hy]))
theorem FrzL.agg {τ n} {xs ys : List AV} (h : FrzL τ n xs ys) : Frz τ n (.agg xs) (.agg ys) := .agg h.len h.at
theorem FrzL.tup {τ n} {xs ys : List AV} (h : FrzL τ n xs ys) : Frz τ n (.tup xs) (.tup ys) := .tup h.len h.at

inductive FrzR (τ : AHeap) (n : Nat) : List (List AV) → List (List AV) → Prop
  | nil : FrzR τ n [] []
  | cons {x y : List AV} {xs ys : List (List AV)} (h : FrzL τ n x y) (hs : FrzR τ n xs ys) : FrzR τ n (x :: xs) (y :: ys)
theorem FrzR.len {τ n} : ∀ {xs ys : List (List AV)}, FrzR τ n xs ys → ys.length = xs.length
  | _, _, .nil => rfl
  | _, _, .cons _ h => by simp [FrzR.len h]
theorem FrzR.at {τ n} : ∀ {xs ys : List (List AV)}, FrzR τ n xs ys → ∀ (j : Nat) x y, xs[j]? = some x → ys[j]? = some y → FrzL τ n x y
  | _, _, .nil, j, x, y, h, _ => by simp at h
  | _, _, .cons h hs, 0, x, y, h1, h2 => by simp at h1 h2; subst h1; subst h2; exact h
  | _, _, .cons h hs, j + 1, x, y, h1, h2 => FrzR.at hs j x y (by simpa using h1) (by simpa using h2)
theorem FrzR.refl {τ n} : ∀ {xs : List (List AV)}, (∀ el ∈ xs, ∀ x ∈ el, Low n x) → FrzR τ n xs xs
  | [], _ => .nil
  | x :: xs, h => .cons (FrzL.refl (h x (by simp))) (FrzR.refl fun y hy => h y (by simp [hy]))
theorem FrzR.append {τ n} : ∀ {xs ys xs' ys' : List (List AV)}, FrzR τ n xs ys → FrzR τ n xs' ys' → FrzR τ n (xs ++ xs') (ys ++ ys')
  | _, _, _, _, .nil, h => h
  | _, _, _, _, .cons h hs, h' => .cons h (FrzR.append hs h')
theorem FrzR.set {τ n} {x y : List AV} (hxy : FrzL τ n x y) : ∀ {xs ys : List (List AV)} (i : Nat), FrzR τ n xs ys → FrzR τ n (xs.set i x) (ys.set i y)
  | _, _, _, .nil => .nil
  | _, _, 0, .cons h hs => .cons hxy hs
  | _, _, i + 1, .cons h hs => .cons h (FrzR.set hxy i hs)
/-- A row that was made. -/
theorem FrzR.own {τ : AHeap} {n id len sz : Nat} {xs ys rest : List (List AV)} (h : FrzR τ n xs ys) (hn : n ≤ id) (hl : len = xs.length) (hg : τ.get id = some (.cells sz (xs ++ rest))) : Frz τ n (.own id len) (.sl false sz ys) := by
  subst hl
  refine .own hn hg (by simp) h.len (fun i el fl h1 h2 => ?_) (fun i el fl j x y h1 h2 h3 h4 => ?_)
  · have hi : i < xs.length := by rw [← h.len]; exact (List.getElem?_eq_some_iff.1 h2).1
    rw [List.getElem?_append_left hi] at h1
    exact (h.at i el fl h1 h2).len
  · have hi : i < xs.length := by rw [← h.len]; exact (List.getElem?_eq_some_iff.1 h2).1
    rw [List.getElem?_append_left hi] at h1
    exact (h.at i el fl h1 h2).at j x y h3 h4

theorem FrzR.sl {τ : AHeap} {n sz : Nat} {c : Bool} {xs ys : List (List AV)} (h : FrzR τ n xs ys) : Frz τ n (.sl c sz xs) (.sl false sz ys) :=
  .sl h.len (fun i el fl h1 h2 => (h.at i el fl h1 h2).len) (fun i el fl j x y h1 h2 h3 h4 => (h.at i el fl h1 h2).at j x y h3 h4)

/-- What is no heap's. -/
def Dat (x : AV) : Prop := Low 0 x
theorem Dat.low {x : AV} (h : Dat x) (n : Nat) : Low n x := Low.mono (Nat.zero_le n) h
theorem Dat.val (v : Value) : Dat (.val v) := Low.val v
theorem Dat.sl {c : Bool} {sz : Nat} {xs : List (List AV)} (h : ∀ el ∈ xs, ∀ x ∈ el, Dat x) : Dat (.sl c sz xs) :=
  Low.sl fun i el j x h1 h2 => h el (List.mem_of_getElem? h1) x (List.mem_of_getElem? h2)
theorem Dat.agg {cs : List AV} (h : ∀ x ∈ cs, Dat x) : Dat (.agg cs) := Low.agg fun j x h1 => h x (List.mem_of_getElem? h1)
theorem Dat.tup {cs : List AV} (h : ∀ x ∈ cs, Dat x) : Dat (.tup cs) := Low.tup fun j x h1 => h x (List.mem_of_getElem? h1)
theorem Dat.ref {cs : List AV} (h : ∀ x ∈ cs, Dat x) : Dat (.ref cs) := Low.ref fun j x h1 => h x (List.mem_of_getElem? h1)

/-- A pure function, whose answer is data already. -/
theorem Ev.pureD {P : Program} {f : FuncId} {args : List AV} {σ : AHeap} {k kp : AV → AHeap → Prop} {y : AV} (hk : k y σ) (hy : Low σ.next y) (h : ∀ k' : AV → AHeap → Prop, (∀ τ, Grows σ τ → k' y τ) → Ev P f args σ k' (fun _ _ => False)) : Ev P f args σ k kp :=
  Ev.pure (h _ fun τ hg => ⟨hg, y, .low hy, hk⟩)

theorem FkOk.dat {k : FK} {x : AV} (h : FkOk k x) : Dat x := by
  cases k with
  | i k => obtain ⟨n, rfl, _⟩ := h; exact .val _
  | b => obtain ⟨b, rfl⟩ := h; exact .val _
  | s => obtain ⟨b, rfl, _⟩ := h; exact .val _
theorem FlatOk.dat : ∀ {ks : List FK} {xs : List AV}, FlatOk ks xs → ∀ x ∈ xs, Dat x
  | [], xs, h, x, hx => by simp only [FlatOk] at h; subst h; simp at hx
  | k :: ks, xs, h, x, hx => by
    obtain ⟨y, r, rfl, h1, h2⟩ := h
    rcases List.mem_cons.1 hx with rfl | hx
    · exact FkOk.dat h1
    · exact FlatOk.dat h2 x hx
def lk : FK → LK
  | .i _ => .i | .b => .b | .s => .s
theorem FlatOk.eq : ∀ {ks : List FK} {xs : List AV}, FlatOk ks xs → eqLeaves (ks.map lk) xs xs = some true
  | [], xs, h => by simp only [FlatOk] at h; subst h; rfl
  | k :: ks, xs, h => by
    obtain ⟨y, r, rfl, h1, h2⟩ := h
    simp only [List.map_cons, eqLeaves_cons, FlatOk.eq h2]
    cases k with
    | i k => obtain ⟨n, rfl, _⟩ := h1; simp [lk]
    | b => obtain ⟨b, rfl⟩ := h1; simp [lk]
    | s => obtain ⟨b, rfl, _⟩ := h1; simp [lk]

def fieldsOf (P : Program) (t : TypeId) : Option (List (TypeId × Nat × Nat)) :=
  match P.underlying t with
  | some (.struct fs) => some (fs.toList.map fun f => (f.type, f.offset, P.cellsOf f.type))
  | _ => none
theorem DV.fields {P : Program} {t : TypeId} {l : List (TypeId × Nat × Nat)} {cs : List AV} (hf : fieldsOf P t = some l) (h : DV P t cs) : ∀ p ∈ l, DV P p.1 ((cs.drop p.2.1).take p.2.2) := by
  unfold fieldsOf at hf
  split at hf
  · rename_i fs hu
    cases hf
    cases h with
    | int h => rw [hu] at h; cases h
    | bool h => rw [hu] at h; cases h
    | str h => rw [hu] at h; cases h
    | slice h => rw [hu] at h; cases h
    | nilp h => rw [hu] at h; cases h
    | ptr h => rw [hu] at h; cases h
    | struct h hl hf =>
      rename_i fs'
      rw [hu] at h
      cases h
      intro p hp
      obtain ⟨f, hfm, rfl⟩ := List.mem_map.1 hp
      obtain ⟨i, hi1, hi2⟩ := List.getElem_of_mem hfm
      exact hf i f (by rw [Array.getElem?_eq_some_iff]; exact ⟨by simpa using hi1, by simpa using hi2⟩)
  · cases hf
theorem DV.structLen {P : Program} {t : TypeId} {l : List (TypeId × Nat × Nat)} {cs : List AV} (hf : fieldsOf P t = some l) (h : DV P t cs) : cs.length = P.cellsOf t := by
  unfold fieldsOf at hf
  split at hf
  · rename_i fs hu
    cases h with
    | int h => rw [hu] at h; cases h
    | bool h => rw [hu] at h; cases h
    | str h => rw [hu] at h; cases h
    | slice h => rw [hu] at h; cases h
    | nilp h => rw [hu] at h; cases h
    | ptr h => rw [hu] at h; cases h
    | struct h hl hf => exact hl
  · cases hf



/-- A pure function that answers data, of which something is known. -/
theorem Ev.pureE {P : Program} {f : FuncId} {args : List AV} {σ : AHeap} {k kp : AV → AHeap → Prop} (h : Ev P f args σ (fun x τ => Grows σ τ ∧ Low σ.next x ∧ k x σ) (fun _ _ => False)) : Ev P f args σ k kp :=
  Ev.pure (h.mono (fun x τ hh => ⟨hh.1, x, .low hh.2.1, hh.2.2⟩) fun _ _ hh => hh)

end Go.Abs
