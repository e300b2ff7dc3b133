import Derived.Test.YtjilebpcaemopaaGreatDoorMacB
set_option linter.unusedVariables false
set_option linter.unusedSimpArgs false
namespace Go.Abs.Mac
open Go Go.Abs Go.Abs.Stk Go.Abs.At

/-! ### The store stays within its limits -/
structure SOk (s : SG Cl) : Prop where
  R : 1 ≤ s.R ∧ s.R ≤ 1048576
  C : 0 ≤ s.C ∧ s.C ≤ 4194304
  live : s.live.length ≤ s.R
  cells : s.cells ≤ s.C
  most : s.cells ≤ s.most ∧ s.most ≤ s.C
theorem pushS_ok {s : SG Cl} {r st} (h : pushS s = some (r, st)) : (s.live.length : Int) < s.R ∧ r = s.L.length ∧ st = s.more := by
  unfold pushS at h
  split at h
  · cases h; exact ⟨by assumption, rfl, rfl⟩
  · cases h
theorem SOk.push {s : SG Cl} (h : SOk s) {r st} (hp : pushS s = some (r, st)) : SOk st := by
  obtain ⟨h1, rfl, rfl⟩ := pushS_ok hp
  refine ⟨h.R, h.C, ?_, ?_, ?_⟩
  · rw [SG.live_more]; simp; exact h1
  · rw [SG.cells_more]; exact h.cells
  · rw [SG.cells_more]; exact h.most
theorem SOk.pop {s : SG Cl} (h : SOk s) : SOk (popS s) := by
  unfold popS
  split
  · exact h
  · split
    · rename_i i hi
      obtain ⟨c, hc⟩ := SG.last_mem hi
      have h1 := SG.cells_less hc
      have h2 := h.live
      have h3 := h.cells
      have h4 := h.most
      refine ⟨h.R, h.C, ?_, ?_, ?_⟩
      · rw [SG.live_less hi, List.length_dropLast]; show ((s.live.length - 1 : Nat) : Int) ≤ s.R; omega
      · show ((s.less i).cells : Int) ≤ s.C; omega
      · show ((s.less i).cells : Int) ≤ s.most ∧ s.most ≤ s.C; omega
    · exact h
theorem putS_some {s : SG Cl} {r c v st} (h : putS s r c = some (v, st)) : ∃ (i : Nat) (row : List Cl), r = i ∧ s.L[i]? = some (true, row) ∧ (s.cells : Int) < s.C ∧ v = ⟨2, 0, r, row.length⟩ ∧ st = s.putC i row c := by
  unfold putS at h
  split at h
  · cases h
  · rename_i row hr
    obtain ⟨i, rfl, h1, h2⟩ := SG.row_nat hr
    split at h
    · cases h
    · cases h
      exact ⟨i, row, rfl, h1, by omega, rfl, rfl⟩
theorem SG.putC_cells {α} {s : SG α} {i : Nat} {row : List α} (h : s.L[i]? = some (true, row)) (c : α) : (s.putC i row c).cells = s.cells + 1 := by
  have := SG.cells_put (c' := row ++ [c]) h
  have e : (s.putC i row c).cells = (s.put i (row ++ [c])).cells := rfl
  rw [e]; simp at this; omega
theorem SG.putC_live {α} {s : SG α} {i : Nat} {row : List α} (h : s.L[i]? = some (true, row)) (c : α) : (s.putC i row c).live = s.live := idx_set h
theorem SOk.put {s : SG Cl} (h : SOk s) {r c v st} (hp : putS s r c = some (v, st)) : SOk st := by
  obtain ⟨i, row, rfl, h1, h2, _, rfl⟩ := putS_some hp
  have h3 := h.most
  refine ⟨h.R, h.C, ?_, ?_, ?_⟩
  · rw [SG.putC_live h1]; exact h.live
  · rw [SG.putC_cells h1]; show ((s.cells + 1 : Nat) : Int) ≤ s.C; omega
  · rw [SG.putC_cells h1]
    show ((s.cells + 1 : Nat) : Int) ≤ (if s.most < s.cells + 1 then (s.cells : Int) + 1 else s.most) ∧ (if s.most < s.cells + 1 then (s.cells : Int) + 1 else s.most) ≤ s.C
    split <;> omega
theorem setS_live (s : SG Cl) (v c) : (setS s v c).live = s.live ∧ (setS s v c).cells = s.cells ∧ (setS s v c).R = s.R ∧ (setS s v c).C = s.C ∧ (setS s v c).most = s.most := by
  unfold setS
  split
  · rename_i row hr
    obtain ⟨i, e, h1, h2⟩ := SG.row_nat hr
    rw [e]
    have hc := SG.cells_put (c' := row.set v.a.toNat c) h1
    simp at hc
    exact ⟨SG.live_put h1, by simpa using hc, rfl, rfl, rfl⟩
  · exact ⟨rfl, rfl, rfl, rfl, rfl⟩
theorem SOk.set {s : SG Cl} (h : SOk s) (v c) : SOk (setS s v c) := by
  obtain ⟨h1, h2, h3, h4, h5⟩ := setS_live s v c
  exact ⟨by rw [h3]; exact h.R, by rw [h4]; exact h.C, by rw [h1, h3]; exact h.live, by rw [h2, h4]; exact h.cells, by rw [h2, h5, h4]; exact h.most⟩

/-! ### Cells of functions stand for functions -/
def IdxOk (s : Sa) : Prop := ∀ (i : Nat) (row : List Cl) (c : Cl), s.store.L[i]? = some (true, row) → c ∈ row → c.kind = 3 → 0 ≤ c.code ∧ c.code < s.codes.length
theorem IdxOk.mono {s s' : Sa} (h : IdxOk s) (hL : ∀ (i : Nat) (row : List Cl) (c : Cl), s'.store.L[i]? = some (true, row) → c ∈ row → c.kind = 3 → (∃ row', s.store.L[i]? = some (true, row') ∧ c ∈ row') ∨ (0 ≤ c.code ∧ c.code < s'.codes.length)) (hc : s.codes.length ≤ s'.codes.length) : IdxOk s' := by
  intro i row c h1 h2 h3
  rcases hL i row c h1 h2 h3 with ⟨row', h4, h5⟩ | h4
  · have := h i row' c h4 h5 h3; omega
  · exact h4
theorem more_get {s : SG Cl} {i : Nat} {row : List Cl} (h : (s.more).L[i]? = some (true, row)) : s.L[i]? = some (true, row) ∨ row = [] := by
  have h : (s.L ++ [(true, [])])[i]? = some (true, row) := h
  by_cases hi : i < s.L.length
  · rw [List.getElem?_append_left hi] at h; exact .inl h
  · rw [List.getElem?_append_right (by omega)] at h
    cases hh : i - s.L.length with
    | zero => rw [hh] at h; simp at h; exact .inr h
    | succ n => rw [hh] at h; simp at h
theorem set_get {l : List (Bool × List Cl)} {i j : Nat} {x : Bool × List Cl} {row : List Cl} (h : (l.set j x)[i]? = some (true, row)) : (i ≠ j ∧ l[i]? = some (true, row)) ∨ (i = j ∧ x = (true, row)) := by
  by_cases e : i = j
  · subst e
    have hl : i < l.length := by have := (List.getElem?_eq_some_iff.1 h).1; simpa using this
    rw [List.getElem?_set_self hl] at h
    exact .inr ⟨rfl, by simpa using h⟩
  · rw [List.getElem?_set_ne (Ne.symm e)] at h
    exact .inl ⟨e, h⟩
theorem pop_get {s : SG Cl} {i : Nat} {row : List Cl} (h : (popS s).L[i]? = some (true, row)) : s.L[i]? = some (true, row) := by
  unfold popS at h
  split at h
  · exact h
  · split at h
    · rcases set_get h with h | ⟨_, h⟩
      · exact h.2
      · cases h
    · exact h
theorem put_get {s : SG Cl} {r : Int} {c : Cl} {v : V} {st : SG Cl} {i : Nat} {row : List Cl} (hp : putS s r c = some (v, st)) (h : st.L[i]? = some (true, row)) : ∀ x ∈ row, x = c ∨ ∃ row', s.L[i]? = some (true, row') ∧ x ∈ row' := by
  obtain ⟨j, row0, rfl, h1, h2, _, rfl⟩ := putS_some hp
  intro x hx
  have h : (s.L.set j (true, row0 ++ [c]))[i]? = some (true, row) := h
  rcases set_get h with h | ⟨ij, e⟩
  · exact .inr ⟨row, h.2, hx⟩
  · have e := (Prod.mk.injEq .. ▸ e).2
    subst e
    rcases List.mem_append.1 hx with hx | hx
    · exact .inr ⟨row0, ij ▸ h1, hx⟩
    · exact .inl (by simpa using hx)
theorem sset_get {s : SG Cl} {v : V} {c : Cl} {i : Nat} {row : List Cl} (h : (setS s v c).L[i]? = some (true, row)) : ∀ x ∈ row, x = c ∨ ∃ row', s.L[i]? = some (true, row') ∧ x ∈ row' := by
  intro x hx
  unfold setS at h
  split at h
  · rename_i row0 hr
    obtain ⟨j, e, h1, h2⟩ := SG.row_nat hr
    rw [e] at h
    have h : (s.L.set j (true, row0.set v.a.toNat c))[i]? = some (true, row) := h
    rcases set_get h with h | ⟨ij, e⟩
    · exact .inr ⟨row, h.2, hx⟩
    · have e := (Prod.mk.injEq .. ▸ e).2
      subst e
      rcases List.mem_or_eq_of_mem_set hx with hx | hx
      · exact .inr ⟨row0, ij ▸ h1, hx⟩
      · exact .inl hx
  · exact .inr ⟨row, h, hx⟩

/-- All that stays true of the store and the functions. -/
structure Good (N a b c : Nat) (s : Sa) : Prop where
  cw : CW (TN N) s
  ok : SOk s.store
  idx : IdxOk s
  steps : a ≤ s.steps
  len : b ≤ s.store.L.length
  codes : c ≤ s.codes.length
theorem patch_len (s e) : (patch s e).codes.length = s.codes.length := by
  unfold patch
  split
  · rename_i c hc
    have : s.codes ≠ [] := by intro h; rw [h] at hc; simp at hc
    have : 0 < s.codes.length := List.length_pos_iff.2 this
    simp; omega
  · rfl
theorem good_inv (N a b c : Nat) : Inv (Good N a b c) (TN N) where
  kid := (cwn_inv N).kid
  wf := (cwn_inv N).wf
  put := fun h hk hp => ⟨(cwn_inv N).put h.cw hk hp, h.ok.put hp, h.idx.mono (fun i row x h1 h2 h3 => by
      rcases put_get hp h1 x h2 with rfl | h4
      · exact absurd h3 hk
      · exact .inl h4) (Nat.le_refl _), h.steps, by rw [putS_len hp]; exact h.len, h.codes⟩
  code := @fun s co h hc => ⟨(cwn_inv N).code h.cw hc, h.ok, h.idx.mono (fun i row x h1 h2 h3 => .inl ⟨row, h1, h2⟩) (by show s.codes.length ≤ (s.codes ++ [co]).length; simp), h.steps, h.len, by have := h.codes; show c ≤ (s.codes ++ [co]).length; simp; omega⟩
  codePut := @fun s co r v st h hc hp => ⟨(cwn_inv N).codePut h.cw hc hp, h.ok.put hp, h.idx.mono (fun i row x h1 h2 h3 => by
      rcases put_get hp h1 x h2 with rfl | h4
      · refine .inr ?_
        show (0 : Int) ≤ (s.codes.length : Int) ∧ (s.codes.length : Int) < ((s.codes ++ [co]).length : Int)
        simp; omega
      · exact .inl h4) (by show s.codes.length ≤ (s.codes ++ [co]).length; simp), h.steps, by rw [putS_len hp]; exact h.len, by have := h.codes; show c ≤ (s.codes ++ [co]).length; simp; omega⟩
  set := @fun s v co h hk => ⟨(cwn_inv N).set (v := v) h.cw hk, h.ok.set _ _, h.idx.mono (fun i row x h1 h2 h3 => by
      rcases sset_get h1 x h2 with rfl | h4
      · omega
      · exact .inl h4) (Nat.le_refl _), h.steps, by rw [setS_len]; exact h.len, h.codes⟩
  body := fun h hi => (cwn_inv N).body h.cw hi
  tick := fun h => ⟨h.cw, h.ok, h.idx, Nat.le_succ_of_le h.steps, h.len, h.codes⟩
  push := @fun s r st h hp => ⟨h.cw, h.ok.push hp, h.idx.mono (fun i row x h1 h2 h3 => by
      obtain ⟨_, _, rfl⟩ := pushS_ok hp
      rcases more_get h1 with h4 | rfl
      · exact .inl ⟨row, h4, h2⟩
      · simp at h2) (Nat.le_refl _), h.steps, by rw [pushS_len hp]; exact Nat.le_succ_of_le h.len, h.codes⟩
  pop := @fun s h => ⟨h.cw, h.ok.pop, h.idx.mono (fun i row x h1 h2 h3 => .inl ⟨row, pop_get h1, h2⟩) (Nat.le_refl _), h.steps, by rw [popS_len]; exact h.len, h.codes⟩
  patch := @fun s e h => ⟨(cwn_inv N).patch h.cw, by rw [patch_store]; exact h.ok, h.idx.mono (fun i row x h1 h2 h3 => .inl ⟨row, by rw [← patch_store s e]; exact h1, h2⟩) (by rw [patch_len]; exact Nat.le_refl _), by rw [patch_steps]; exact h.steps, by rw [patch_store]; exact h.len, by rw [patch_len]; exact h.codes⟩
theorem Good.self {N a b c s} (h : Good N a b c s) : Good N s.steps s.store.L.length s.codes.length s := ⟨h.cw, h.ok, h.idx, Nat.le_refl _, Nat.le_refl _, Nat.le_refl _⟩
theorem Good.less {N a b c a' b' c' s} (h : Good N a b c s) (h1 : a' ≤ a) (h2 : b' ≤ b) (h3 : c' ≤ c) : Good N a' b' c' s := ⟨h.cw, h.ok, h.idx, Nat.le_trans h1 h.steps, Nat.le_trans h2 h.len, Nat.le_trans h3 h.codes⟩
theorem Big.good {fuel N s t e s' o} (h : Big fuel s t e s' o) (hs : Good N 0 0 0 s) (ht : TN N t) : Good N s.steps s.store.L.length s.codes.length s' := h.inv (good_inv N _ _ _) hs.self ht

/-! ### Step by step -/
structure FrOk (f : Fr) : Prop where
  wf : Wf f.t
  vals : f.vals.length < f.t.kids.length
structure Fits (N B : Nat) (m : M) : Prop where
  good : Good N 0 0 0 m.s
  len : m.s.store.L.length ≤ B
  codes : m.s.codes.length ≤ B
  k : m.k.length ≤ B
  fr : ∀ f ∈ m.k, FrOk f
  node : ∀ t e, m.x = .node t e → Wf t
structure Res where
  s : Sa
  kind : Int
  isInt : Bool
  n : Int
  exn : ByteArray
inductive Runs' (fuel N B : Nat) : M → Nat → Res → Prop
  | end_ {m s kind b n x} (hf : Fits N B m) (h : step fuel m = .end_ s kind b n x) : Runs' fuel N B m 0 ⟨s, kind, b, n, x⟩
  | on {m m' j r} (hf : Fits N B m) (h : step fuel m = .on m') (h' : Runs' fuel N B m' j r) : Runs' fuel N B m (j + 1) r
def Ends (fuel N B : Nat) (m : M) (r : Res) : Prop := ∃ j, Runs' fuel N B m j r
theorem Ends.on {fuel N B m m' r} (hf : Fits N B m) (h : step fuel m = .on m') (h' : Ends fuel N B m' r) : Ends fuel N B m r := let ⟨j, h'⟩ := h'; ⟨j + 1, .on hf h h'⟩
theorem Ends.end_ {fuel N B m s kind b n x} (hf : Fits N B m) (h : step fuel m = .end_ s kind b n x) : Ends fuel N B m ⟨s, kind, b, n, x⟩ := ⟨0, .end_ hf h⟩
/-- What is left to do behind a node. -/
def Then (fuel N B : Nat) (s : Sa) (k : List Fr) (r : Res) : Out → Prop
  | .val v => Ends fuel N B ⟨.val v, s, k⟩ r
  | .exn n x => Ends fuel N B ⟨.exn n x, s, k⟩ r
  | .over kind => r = ⟨s, kind, false, 0, ByteArray.empty⟩
end Go.Abs.Mac
set_option linter.unusedVariables false
set_option linter.unusedSimpArgs false
namespace Go.Abs.Mac
open Go Go.Abs Go.Abs.Stk Go.Abs.At

def Bd (B : Nat) (s : Sa) : Prop := s.steps + s.store.L.length ≤ B ∧ s.codes.length ≤ B
theorem Good.bd {N B s s'} (h : Good N s.steps s.store.L.length s.codes.length s') (hb : Bd B s') : Bd B s := ⟨by have := h.steps; have := h.len; have := hb.1; omega, by have := h.codes; have := hb.2; omega⟩
/-- Frames that stand well at a state. -/
structure Ks (s : Sa) (k : List Fr) : Prop where
  fr : ∀ f ∈ k, FrOk f
  len : k.length ≤ s.steps + s.store.L.length
theorem Ks.later {N s s' k} (h : Ks s k) (hg : Good N s.steps s.store.L.length s.codes.length s') : Ks s' k := ⟨h.fr, by have := h.len; have := hg.steps; have := hg.len; omega⟩
theorem fits {N B s k x} (hg : Good N 0 0 0 s) (hb : Bd B s) (hk : Ks s k) (hx : ∀ t e, x = Nx.node t e → Wf t) : Fits N B ⟨x, s, k⟩ :=
  ⟨hg, by have := hb.1; show s.store.L.length ≤ B; omega, hb.2, by have := hb.1; have := hk.len; show k.length ≤ B; omega, hk.fr, hx⟩
theorem fitsV {N B s k v} (hg : Good N 0 0 0 s) (hb : Bd B s) (hk : Ks s k) : Fits N B ⟨.val v, s, k⟩ := fits hg hb hk (by simp)
theorem fitsE {N B s k n x} (hg : Good N 0 0 0 s) (hb : Bd B s) (hk : Ks s k) : Fits N B ⟨.exn n x, s, k⟩ := fits hg hb hk (by simp)
theorem Ends.pass {fuel N B m m' r} (hf : Fits N B m) (h : step fuel m = step fuel m') (h' : Ends fuel N B m' r) : Ends fuel N B m r := by
  obtain ⟨j, h'⟩ := h'
  cases h' with
  | end_ _ h2 => exact .end_ hf (h.trans h2)
  | on _ h2 h3 => exact .on hf (h.trans h2) ⟨_, h3⟩
theorem Ks.cons {s s' : Sa} {k} {t : AT} {e : En} {vs : List V} (h : Ks s k) (hw : Wf t) (hv : vs.length < t.kids.length) (hs : s.steps + s.store.L.length < s'.steps + s'.store.L.length) : Ks s' (⟨t, e, vs⟩ :: k) :=
  ⟨fun f hf => by rcases List.mem_cons.1 hf with rfl | hf
                  · exact ⟨hw, hv⟩
                  · exact h.fr f hf, by have := h.len; simp; omega⟩
theorem then_pass {fuel N B s f k r o} (hg : Good N 0 0 0 s) (hb : Bd B s) (hk : Ks s (f :: k)) (h17 : f.t.h.kind ≠ 17) (ho : ¬ o.isVal) (hx : f.t.h.kind = 16 → ∀ n, o ≠ .exn n f.t.h.exn) (h : Then fuel N B s k r o) : Then fuel N B s (f :: k) r o := by
  cases o with
  | val v => exact absurd trivial ho
  | over kind => exact h
  | exn n x =>
    refine Ends.pass (m' := ⟨.exn n x, s, k⟩) (fitsE hg hb hk) ?_ h
    have : ¬ (f.t.h.kind = 16 ∧ f.t.h.exn = x) := fun ⟨a, b⟩ => hx a n (by rw [b])
    simp [step, raise, h17, this]

theorem kinds12 {k : Int} (h : 3 ≤ k ∧ k ≤ 10 ∨ k = 15) : k ≠ 17 ∧ ¬ isLeaf k ∧ k ≠ 13 ∧ k ≠ 16 ∧ k ≠ 12 ∧ k ≠ 14 := by unfold isLeaf; omega
theorem step_wait {fuel s k t e} (hf : s.steps < fuel) (h17 : t.h.kind ≠ 17) (hl : ¬ isLeaf t.h.kind) (h13 : t.h.kind ≠ 13) : step fuel ⟨.node t e, s, k⟩ = .on ⟨.node (kidAt t 0) e, tick s, ⟨t, e, []⟩ :: k⟩ := by
  simp [step, enter, h17, hl, h13, Nat.not_le.2 hf]
theorem kidT {N t i} (ht : TN N t) (hi : i < nk t.h.kind) : TN N (kidAt t i) := (ht.kidN hi).1
theorem good_tick {N s} (h : Good N 0 0 0 s) : Good N 0 0 0 (tick s) := (good_inv N 0 0 0).tick h
theorem Good.zero {N a b c s} (h : Good N a b c s) : Good N 0 0 0 s := h.less (Nat.zero_le _) (Nat.zero_le _) (Nat.zero_le _)
theorem Ks.tick {s k} (h : Ks s k) : Ks (tick s) k := ⟨h.fr, by have := h.len; simp [Mac.tick]; omega⟩
theorem wait {fuel N B s t e s' o k r} (hf : s.steps < fuel) (h17 : t.h.kind ≠ 17) (hl : ¬ isLeaf t.h.kind) (h13 : t.h.kind ≠ 13) (h0 : 0 < nk t.h.kind) (h : Big fuel (tick s) (kidAt t 0) e s' o)
    (ih : Good N 0 0 0 (tick s) → TN N (kidAt t 0) → Bd B s' → ∀ k r, Ks (tick s) k → Then fuel N B s' k r o → Ends fuel N B ⟨.node (kidAt t 0) e, tick s, k⟩ r)
    (hg : Good N 0 0 0 s) (ht : TN N t) (hb : Bd B s') (hk : Ks s k) (hr : Ks s' (⟨t, e, []⟩ :: k) → Good N 0 0 0 s' → Then fuel N B s' (⟨t, e, []⟩ :: k) r o) : Ends fuel N B ⟨.node t e, s, k⟩ r := by
  have hg1 := h.good (good_tick hg) (kidT ht h0)
  have hbs := hg1.bd hb
  have hK : Ks (tick s) (⟨t, e, []⟩ :: k) := hk.cons ht.1 (by rw [ht.1.len]; exact h0) (by simp [tick])
  refine .on (fits hg ⟨by have := hbs.1; simp [tick] at this; omega, hbs.2⟩ hk (by rintro _ _ ⟨⟩; exact ht.1)) (step_wait hf h17 hl h13) ?_
  exact ih (good_tick hg) (kidT ht h0) hb _ _ hK (hr (hK.later hg1) hg1.zero)
theorem rend_then {fuel N B m k r s o} {x : Re Nx} (hf : Fits N B m) (h : step fuel m = x.go k) (hx : Rend x s o) (hr : Then fuel N B s k r o) : Ends fuel N B m r := by
  cases hx with
  | val => exact .on hf h hr
  | exn => exact .on hf h hr
  | over =>
    have hr : r = _ := hr
    subst hr
    exact .end_ hf h
theorem big_runs {fuel N B s t e s' o} (h : Big fuel s t e s' o) : Good N 0 0 0 s → TN N t → Bd B s' → ∀ k r, Ks s k → Then fuel N B s' k r o → Ends fuel N B ⟨.node t e, s, k⟩ r := by
  induction h with
  | @full s t e hk h =>
    intro hg ht hb k r hk' hr
    have hr : r = _ := hr
    subst hr
    exact .end_ (fits hg hb hk' (by rintro _ _ ⟨⟩; exact ht.1)) (by simp [step, enter, hk, h])
  | @region s t e rg st s' o hk h h' ih =>
    intro hg ht hb k r hk' hr
    have h0 : 0 < nk t.h.kind := nk_pos (by omega)
    have hg1 : Good N 0 0 0 { s with store := st } := (good_inv N 0 0 0).push hg h
    have hg2 := h'.good hg1 (kidT ht h0)
    obtain ⟨p1, p2, p3⟩ := popO_same o s'
    have hb' : Bd B s' := ⟨by rw [← p1, ← p2]; exact hb.1, by rw [← p3]; exact hb.2⟩
    have hb1 := hg2.bd hb'
    have hlen := pushS_len h
    have hbs : Bd B s := ⟨by have := hb1.1; simp only at this; omega, hb1.2⟩
    have hK : Ks { s with store := st } (⟨t, e, []⟩ :: k) := hk'.cons ht.1 (by rw [ht.1.len]; exact h0) (by simp only; omega)
    have hg2' := hg2.less (a' := 0) (b' := 0) (c' := 0) (Nat.zero_le _) (Nat.zero_le _) (Nat.zero_le _)
    refine .on (fits hg hbs hk' (by rintro _ _ ⟨⟩; exact ht.1)) (m' := ⟨.node (kidAt t 0) (e.opn t.rho rg), { s with store := st }, ⟨t, e, []⟩ :: k⟩) (by simp [step, enter, hk, h]) ?_
    refine ih hg1 (kidT ht h0) hb' _ _ hK ?_
    cases o with
    | val v => exact .on (fitsV hg2' hb' (hK.later hg2)) (by simp [step, give, hk]; rfl) hr
    | exn n x => exact .pass (m' := ⟨.exn n x, _, k⟩) (fitsE hg2' hb' (hK.later hg2)) (by simp [step, raise, hk]; rfl) hr
    | over kd => exact hr
  | @fuel s t e hk h =>
    intro hg ht hb k r hk' hr
    have hr : r = _ := hr
    subst hr
    exact .end_ (fits hg hb hk' (by rintro _ _ ⟨⟩; exact ht.1)) (by simp [step, enter, hk, h])
  | @leaf s t e s' v hf hk h =>
    intro hg ht hb k r hk' hr
    have := (good_inv N (s.steps) s.store.L.length s.codes.length).leafR (s := tick s) (e := e) ((good_inv N _ _ _).tick hg.self) ht hk
    rw [h] at this
    have h17 : t.h.kind ≠ 17 := by unfold isLeaf at hk; omega
    exact .on (fits hg (Good.bd this hb) hk' (by rintro _ _ ⟨⟩; exact ht.1)) (by simp [step, enter, h17, hk, Nat.not_le.2 hf, h, Re.bind, Re.go]) hr
  | @leafOver s t e s' kd hf hk h =>
    intro hg ht hb k r hk' hr
    have := (good_inv N (s.steps) s.store.L.length s.codes.length).leafR (s := tick s) (e := e) ((good_inv N _ _ _).tick hg.self) ht hk
    rw [h] at this
    have h17 : t.h.kind ≠ 17 := by unfold isLeaf at hk; omega
    have hr : r = _ := hr
    subst hr
    exact .end_ (fits hg (Good.bd this hb) hk' (by rintro _ _ ⟨⟩; exact ht.1)) (by simp [step, enter, h17, hk, Nat.not_le.2 hf, h, Re.bind, Re.go])
  | @letStop s t e s' o hf hk h ho ih =>
    intro hg ht hb k r hk' hr
    exact wait hf (by omega) (by unfold isLeaf; omega) (by omega) (nk_pos (by omega)) h ih hg ht hb hk' fun hK hG => then_pass hG hb hK (by simp; omega) ho (fun h => by simp at h; omega) hr
  | @let_ s t e s' v s'' o hf hk h h' ih ih' =>
    intro hg ht hb k r hk' hr
    have k1 := kidT ht (i := 1) (nk_two (by omega))
    have hG := (h.good (good_tick hg) (kidT ht (nk_pos (by omega)))).zero
    have hb' := (h'.good hG k1).bd hb
    refine wait hf (by omega) (by unfold isLeaf; omega) (by omega) (nk_pos (by omega)) h ih hg ht hb' hk' fun hK hG => ?_
    exact .on (fitsV hG hb' hK) (m' := ⟨.node (kidAt t 1) (e.with t.h.name v false), s', k⟩) (by simp [step, give, hk]) (ih' hG k1 hb k r (hk'.tick.later (h.good (good_tick hg) (kidT ht (nk_pos (by omega))))) hr)
  | @letrecOver s t e s' kd hf hk h =>
    intro hg ht hb k r hk' hr
    have := (good_inv N (s.steps) s.store.L.length s.codes.length).codeR (s := tick s) (e := e) (rho := t.rho) (c := ⟨kidAt t 0, t.h.arg, e, some t.rhos⟩) ((good_inv N _ _ _).tick hg.self) (kidT ht (nk_pos (by omega)))
    rw [h] at this
    have h17 : t.h.kind ≠ 17 := by omega
    have hnl : ¬ isLeaf t.h.kind := by unfold isLeaf; omega
    have hr : r = _ := hr
    subst hr
    exact .end_ (fits hg (Good.bd this hb) hk' (by rintro _ _ ⟨⟩; exact ht.1)) (by simp [step, enter, show ¬ isLeaf 13 by unfold isLeaf; omega, hk, Nat.not_le.2 hf, h, Re.bind, Re.go])
  | @letrec s t e s' v s'' o hf hk h h' ih =>
    intro hg ht hb k r hk' hr
    have := (good_inv N (s.steps) s.store.L.length s.codes.length).codeR (s := tick s) (e := e) (rho := t.rho) (c := ⟨kidAt t 0, t.h.arg, e, some t.rhos⟩) ((good_inv N _ _ _).tick hg.self) (kidT ht (nk_pos (by omega)))
    rw [h] at this
    have this : Good N s.steps s.store.L.length s.codes.length s' := this
    have hp := (good_inv N _ _ _).patch (e := e.with t.h.name v true) this
    have k1 := kidT ht (i := 1) (nk_two (by omega))
    have hg2 := h'.good hp.zero k1
    have h17 : t.h.kind ≠ 17 := by omega
    have hnl : ¬ isLeaf t.h.kind := by unfold isLeaf; omega
    refine .on (fits hg (hp.bd (hg2.bd hb)) hk' (by rintro _ _ ⟨⟩; exact ht.1)) (m' := ⟨.node (kidAt t 1) (e.with t.h.name v true), patch s' (e.with t.h.name v true), k⟩) (by simp [step, enter, show ¬ isLeaf 13 by unfold isLeaf; omega, hk, Nat.not_le.2 hf, h, Re.bind, Re.go]) ?_
    exact ih hp.zero k1 hb k r (hk'.later hp) hr
  | @ifStop s t e s' o hf hk h ho ih =>
    intro hg ht hb k r hk' hr
    exact wait hf (by omega) (by unfold isLeaf; omega) (by omega) (nk_pos (by omega)) h ih hg ht hb hk' fun hK hG => then_pass hG hb hK (by simp; omega) ho (fun h => by simp at h; omega) hr
  | @ifStuck s t e s' v hf hk h hv ih =>
    intro hg ht hb k r hk' hr
    refine wait hf (by omega) (by unfold isLeaf; omega) (by omega) (nk_pos (by omega)) h ih hg ht hb hk' fun hK hG => ?_
    have hr : r = _ := hr
    subst hr
    exact .end_ (fitsV hG hb hK) (by simp [step, give, hk, number, hv, Re.bind, Re.go])
  | @if_ s t e s' v s'' o hf hk h hv h' ih ih' =>
    intro hg ht hb k r hk' hr
    have k1 := kidT ht (i := if v.n ≠ 0 then 1 else 2) (nk_if hk)
    have hG := (h.good (good_tick hg) (kidT ht (nk_pos (by omega)))).zero
    have hb' := (h'.good hG k1).bd hb
    refine wait hf (by omega) (by unfold isLeaf; omega) (by omega) (nk_pos (by omega)) h ih hg ht hb' hk' fun hK hG => ?_
    exact .on (fitsV hG hb' hK) (m' := ⟨.node (kidAt t (if v.n ≠ 0 then 1 else 2)) e, s', k⟩) (by simp [step, give, hk, number, hv, Re.bind, Re.go]) (ih' hG k1 hb k r (hk'.tick.later (h.good (good_tick hg) (kidT ht (nk_pos (by omega))))) hr)
  | @try_ s t e s' o hf hk h ho ih =>
    intro hg ht hb k r hk' hr
    refine wait hf (by omega) (by unfold isLeaf; omega) (by omega) (nk_pos (by omega)) h ih hg ht hb hk' fun hK hG => ?_
    by_cases hv : o.isVal
    · cases o with
      | val v => exact .on (fitsV hG hb hK) (m' := ⟨.val v, s', k⟩) (by simp [step, give, hk]) hr
      | exn n x => exact hv.elim
      | over kd => exact hv.elim
    · exact then_pass hG hb hK (by simp; omega) hv (fun _ => ho) hr
  | @catch_ s t e s' n s'' o hf hk h h' ih ih' =>
    intro hg ht hb k r hk' hr
    have k1 := kidT ht (i := 1) (nk_two (by omega))
    have hG := (h.good (good_tick hg) (kidT ht (nk_pos (by omega)))).zero
    have hb' := (h'.good hG k1).bd hb
    refine wait hf (by omega) (by unfold isLeaf; omega) (by omega) (nk_pos (by omega)) h ih hg ht hb' hk' fun hK hG => ?_
    exact .on (fitsE hG hb' hK) (m' := ⟨.node (kidAt t 1) (e.with t.h.arg (num n) false), s', k⟩) (by simp [step, raise, hk]) (ih' hG k1 hb k r (hk'.tick.later (h.good (good_tick hg) (kidT ht (nk_pos (by omega))))) hr)
  | @stop1 s t e s' o hf hk h ho ih =>
    intro hg ht hb k r hk' hr
    obtain ⟨q1, q2, q3, q4, q5, q6⟩ := kinds12 hk
    exact wait hf q1 q2 q3 (nk_pos (by omega)) h ih hg ht hb hk' fun hK hG => then_pass hG hb hK q1 ho (fun h => absurd h q4) hr
  | @stop2 s t e s' v s'' o hf hk hl h h' ho ih ih' =>
    intro hg ht hb k r hk' hr
    obtain ⟨q1, q2, q3, q4, q5, q6⟩ := kinds12 hk
    have k0 := kidT ht (i := 0) (nk_pos (by omega))
    have k1 := kidT ht (i := 1) (by rw [← ht.1.len]; omega)
    have hG := (h.good (good_tick hg) k0)
    have hg2 := h'.good hG.zero k1
    have hb' := hg2.bd hb
    refine wait hf q1 q2 q3 (nk_pos (by omega)) h ih hg ht hb' hk' fun hK _ => ?_
    refine .on (fitsV hG.zero hb' hK) (m' := ⟨.node (kidAt t 1) e, s', ⟨t, e, [v]⟩ :: k⟩) (by simp [step, give, q1, q4, q5, q6, hl]) ?_
    have hK2 : Ks s' (⟨t, e, [v]⟩ :: k) := (hk'.cons (s' := tick s) ht.1 (vs := [v]) (by simp; omega) (by simp [tick])).later hG
    exact ih' hG.zero k1 hb _ r hK2 (then_pass hg2.zero hb (hK2.later hg2) q1 ho (fun h => absurd h q4) hr)
  | @rule1 s t e s' v s₂ o hf hk hl h h' ih =>
    intro hg ht hb k r hk' hr
    obtain ⟨q1, q2, q3, q4, q5, q6⟩ := kinds12 hk
    have k0 := kidT ht (i := 0) (nk_pos (by omega))
    have hG := (h.good (good_tick hg) k0)
    have hgr := h'.all ((good_inv N s'.steps s'.store.L.length s'.codes.length).ruleR (s := s') (t := t) (e := e) (vs := [v]) hG.self)
    have hb' := hgr.bd hb
    refine wait hf q1 q2 q3 (nk_pos (by omega)) h ih hg ht hb' hk' fun hK _ => ?_
    have e1 : step fuel ⟨.val v, s', ⟨t, e, []⟩ :: k⟩ = (rule s' t e [v]).go k := by simp [step, give, q1, q4, q5, q6, hl]
    exact rend_then (fitsV hG.zero hb' hK) e1 h' hr
  | @rule2 s t e s' v s'' w s₃ o hf hk hl h h' h₂ ih ih' =>
    intro hg ht hb k r hk' hr
    obtain ⟨q1, q2, q3, q4, q5, q6⟩ := kinds12 hk
    have k0 := kidT ht (i := 0) (nk_pos (by omega))
    have k1 := kidT ht (i := 1) (by rw [← ht.1.len]; omega)
    have hG := (h.good (good_tick hg) k0)
    have hg2 := h'.good hG.zero k1
    have hgr := h₂.all ((good_inv N s''.steps s''.store.L.length s''.codes.length).ruleR (s := s'') (t := t) (e := e) (vs := [v, w]) hg2.self)
    have hb'' := hgr.bd hb
    have hb' := hg2.bd hb''
    refine wait hf q1 q2 q3 (nk_pos (by omega)) h ih hg ht hb' hk' fun hK _ => ?_
    refine .on (fitsV hG.zero hb' hK) (m' := ⟨.node (kidAt t 1) e, s', ⟨t, e, [v]⟩ :: k⟩) (by simp [step, give, q1, q4, q5, q6, hl]) ?_
    have hK2 : Ks s' (⟨t, e, [v]⟩ :: k) := (hk'.cons (s' := tick s) ht.1 (vs := [v]) (by simp; omega) (by simp [tick])).later hG
    refine ih' hG.zero k1 hb'' _ r hK2 ?_
    have e1 : step fuel ⟨.val w, s'', ⟨t, e, [v]⟩ :: k⟩ = (rule s'' t e [v, w]).go k := by simp [step, give, q1, q4, q5, q6, hl]
    exact rend_then (fitsV hg2.zero hb'' (hK2.later hg2)) e1 h₂ hr
  | @call s t e s' v s'' w s₃ b e' s₄ o hf hk hl h h' h₂ h₃ ih ih' ih₃ =>
    intro hg ht hb k r hk' hr
    obtain ⟨q1, q2, q3, q4, q5, q6⟩ := kinds12 hk
    have k0 := kidT ht (i := 0) (nk_pos (by omega))
    have k1 := kidT ht (i := 1) (by rw [← ht.1.len]; omega)
    have hG := (h.good (good_tick hg) k0)
    have hg2 := h'.good hG.zero k1
    have hrn := rule_node h₂
    obtain ⟨rfl, c, fn, _, hf', rfl, rfl, _⟩ := hrn
    have tb := (cwn_inv N).body hg2.cw hf'
    have hg3 := h₃.good hg2.zero tb
    have hb'' := hg3.bd hb
    have hb' := hg2.bd hb''
    refine wait hf q1 q2 q3 (nk_pos (by omega)) h ih hg ht hb' hk' fun hK _ => ?_
    refine .on (fitsV hG.zero hb' hK) (m' := ⟨.node (kidAt t 1) e, s', ⟨t, e, [v]⟩ :: k⟩) (by simp [step, give, q1, q4, q5, q6, hl]) ?_
    have hK2 : Ks s' (⟨t, e, [v]⟩ :: k) := (hk'.cons (s' := tick s) ht.1 (vs := [v]) (by simp; omega) (by simp [tick])).later hG
    refine ih' hG.zero k1 hb'' _ r hK2 ?_
    have e1 : step fuel ⟨.val w, s₃, ⟨t, e, [v]⟩ :: k⟩ = (rule s₃ t e [v, w]).go k := by simp [step, give, q1, q4, q5, q6, hl]
    rw [h₂] at e1
    exact .on (fitsV hg2.zero hb'' (hK2.later hg2)) e1 (ih₃ hg2.zero tb hb k r ((hk'.tick.later hG).later hg2) hr)
end Go.Abs.Mac
set_option linter.unusedVariables false
set_option linter.unusedSimpArgs false
namespace Go.Abs.Mac
open Go Go.Abs Go.Abs.Stk Go.Abs.At

/-! ### What is left at an end -/
theorem live_inv0 (N : Nat) (l : List Nat) (m : Nat) : Inv0 (fun s => s.store.live = l ∧ s.steps = m ∧ CW (TN N) s) (TN N) where
  kid := (cwn_inv N).kid
  wf := (cwn_inv N).wf
  put := @fun s r c v st h _ hp => by
    obtain ⟨i, row, rfl, h1, _, _, rfl⟩ := putS_some hp
    exact ⟨(SG.putC_live h1 _).trans h.1, h.2⟩
  code := fun h hc => ⟨h.1, h.2.1, (cwn_inv N).code h.2.2 hc⟩
  codePut := @fun s co r v st h hc hp => by
    obtain ⟨i, row, rfl, h1, _, _, rfl⟩ := putS_some hp
    exact ⟨(SG.putC_live h1 _).trans h.1, h.2.1, (cwn_inv N).code h.2.2 hc⟩
  set := @fun s v c h _ => ⟨(setS_live _ _ _).1.trans h.1, h.2⟩
  body := fun h hi => (cwn_inv N).body h.2.2 hi
def Out.isOver : Out → Prop
  | .over _ => True
  | _ => False
structure Left (fuel N : Nat) (s s' : Sa) (o : Out) : Prop where
  steps : s'.steps ≤ fuel
  one : 1 ≤ s'.store.live.length
  same : ¬ o.isOver → s'.store.live = s.store.live
  cw : CW (TN N) s'
theorem popS_live {s : SG Cl} {l : List Nat} {n : Nat} (h : s.live = l ++ [n]) (hl : 1 ≤ l.length) : (popS s).live = l := by
  unfold popS
  have h1 : ¬ s.live.length < 2 := by rw [h]; simp; omega
  rw [if_neg h1]
  have h2 : s.live.getLast? = some n := by rw [h]; simp
  rw [h2]
  simp only
  rw [SG.live_less h2, h]; simp
theorem Left.of {fuel N s s'} {o : Out} (h : s'.store.live = s.store.live ∧ s'.steps = s.steps + 1 ∧ CW (TN N) s') (hs : s.steps < fuel) (h1 : 1 ≤ s.store.live.length) : Left fuel N s s' o := ⟨by omega, by rw [h.1]; exact h1, fun _ => h.1, h.2.2⟩
theorem Big.left {fuel N s t e s' o} (h : Big fuel s t e s' o) : CW (TN N) s → TN N t → 1 ≤ s.store.live.length → s.steps ≤ fuel → Left fuel N s s' o := by
  induction h with
  | full hk h => exact fun hs ht h1 hf => ⟨hf, h1, fun h => (h trivial).elim, hs⟩
  | @region s t e r st s' o hk h h' ih =>
    intro hs ht h1 hf
    obtain ⟨_, rfl, rfl⟩ := pushS_ok h
    have hl : s.store.more.live = s.store.live ++ [s.store.L.length] := SG.live_more _
    have := ih hs (kidT ht (nk_pos (by omega))) (by show 1 ≤ s.store.more.live.length; rw [hl]; simp) hf
    obtain ⟨p1, p2, p3⟩ := popO_same o s'
    cases o with
    | over k => exact ⟨this.steps, this.one, fun h => (h trivial).elim, this.cw⟩
    | val v =>
      have e : (popS s'.store).live = s.store.live := popS_live ((this.same (by simp [Out.isOver])).trans hl) h1
      exact ⟨this.steps, by show 1 ≤ (popS s'.store).live.length; rw [e]; exact h1, fun _ => e, this.cw⟩
    | exn n x =>
      have e : (popS s'.store).live = s.store.live := popS_live ((this.same (by simp [Out.isOver])).trans hl) h1
      exact ⟨this.steps, by show 1 ≤ (popS s'.store).live.length; rw [e]; exact h1, fun _ => e, this.cw⟩
  | fuel hk h => exact fun hs ht h1 hf => ⟨hf, h1, fun h => (h trivial).elim, hs⟩
  | @leaf s t e s' v hf hk h =>
    intro hs ht h1 _
    have := (live_inv0 N s.store.live (s.steps + 1)).leafR (s := tick s) (e := e) ⟨rfl, rfl, hs⟩ ht hk
    rw [h] at this
    exact .of this hf h1
  | @leafOver s t e s' k hf hk h =>
    intro hs ht h1 _
    have := (live_inv0 N s.store.live (s.steps + 1)).leafR (s := tick s) (e := e) ⟨rfl, rfl, hs⟩ ht hk
    rw [h] at this
    exact .of this hf h1
  | @letStop s t e s' o hf hk h ho ih =>
    intro hs ht h1 _
    have a := ih hs (kidT ht (nk_pos (by omega))) h1 hf
    exact ⟨a.steps, a.one, a.same, a.cw⟩
  | @let_ s t e s' v s'' o hf hk h h' ih ih' =>
    intro hs ht h1 _
    have a := ih hs (kidT ht (nk_pos (by omega))) h1 hf
    have b := ih' a.cw (kidT ht (nk_two (by omega))) a.one a.steps
    exact ⟨b.steps, b.one, fun h => (b.same h).trans (a.same (by simp [Out.isOver])), b.cw⟩
  | @letrecOver s t e s' k hf hk h =>
    intro hs ht h1 _
    have := (live_inv0 N s.store.live (s.steps + 1)).codeR (s := tick s) (e := e) (rho := t.rho) (c := ⟨kidAt t 0, t.h.arg, e, some t.rhos⟩) ⟨rfl, rfl, hs⟩ (kidT ht (nk_pos (by omega)))
    rw [h] at this
    exact .of this hf h1
  | @letrec s t e s' v s'' o hf hk h h' ih =>
    intro hs ht h1 _
    have := (live_inv0 N s.store.live (s.steps + 1)).codeR (s := tick s) (e := e) (rho := t.rho) (c := ⟨kidAt t 0, t.h.arg, e, some t.rhos⟩) ⟨rfl, rfl, hs⟩ (kidT ht (nk_pos (by omega)))
    rw [h] at this
    obtain ⟨a1, a2, a3⟩ := this
    have b := ih ((cwn_inv N).patch a3) (kidT ht (nk_two (by omega))) (by rw [patch_store, a1]; exact h1) (by rw [patch_steps]; omega)
    exact ⟨b.steps, b.one, fun h => by rw [b.same h, patch_store, a1], b.cw⟩
  | @ifStop s t e s' o hf hk h ho ih =>
    intro hs ht h1 _
    have a := ih hs (kidT ht (nk_pos (by omega))) h1 hf
    exact ⟨a.steps, a.one, a.same, a.cw⟩
  | @ifStuck s t e s' v hf hk h hv ih =>
    intro hs ht h1 _
    have a := ih hs (kidT ht (nk_pos (by omega))) h1 hf
    exact ⟨a.steps, a.one, fun h => (h trivial).elim, a.cw⟩
  | @if_ s t e s' v s'' o hf hk h hv h' ih ih' =>
    intro hs ht h1 _
    have a := ih hs (kidT ht (nk_pos (by omega))) h1 hf
    have b := ih' a.cw (kidT ht (nk_if hk)) a.one a.steps
    exact ⟨b.steps, b.one, fun h => (b.same h).trans (a.same (by simp [Out.isOver])), b.cw⟩
  | @try_ s t e s' o hf hk h ho ih =>
    intro hs ht h1 _
    have a := ih hs (kidT ht (nk_pos (by omega))) h1 hf
    exact ⟨a.steps, a.one, a.same, a.cw⟩
  | @catch_ s t e s' n s'' o hf hk h h' ih ih' =>
    intro hs ht h1 _
    have a := ih hs (kidT ht (nk_pos (by omega))) h1 hf
    have b := ih' a.cw (kidT ht (nk_two (by omega))) a.one a.steps
    exact ⟨b.steps, b.one, fun h => (b.same h).trans (a.same (by simp [Out.isOver])), b.cw⟩
  | @stop1 s t e s' o hf hk h ho ih =>
    intro hs ht h1 _
    have a := ih hs (kidT ht (nk_pos (by omega))) h1 hf
    exact ⟨a.steps, a.one, a.same, a.cw⟩
  | @stop2 s t e s' v s'' o hf hk hl h h' ho ih ih' =>
    intro hs ht h1 _
    have a := ih hs (kidT ht (nk_pos (by omega))) h1 hf
    have b := ih' a.cw (kidT ht (by rw [← ht.1.len]; omega)) a.one a.steps
    exact ⟨b.steps, b.one, fun h => (b.same h).trans (a.same (by simp [Out.isOver])), b.cw⟩
  | @rule1 s t e s' v s₂ o hf hk hl h h' ih =>
    intro hs ht h1 _
    have a := ih hs (kidT ht (nk_pos (by omega))) h1 hf
    obtain ⟨r1, r2, r3⟩ := h'.all ((live_inv0 N s'.store.live s'.steps).ruleR (s := s') (t := t) (e := e) (vs := [v]) ⟨rfl, rfl, a.cw⟩)
    exact ⟨by rw [r2]; exact a.steps, by rw [r1]; exact a.one, fun _ => by rw [r1]; exact a.same (by simp [Out.isOver]), r3⟩
  | @rule2 s t e s' v s'' w s₃ o hf hk hl h h' h₂ ih ih' =>
    intro hs ht h1 _
    have a := ih hs (kidT ht (nk_pos (by omega))) h1 hf
    have b := ih' a.cw (kidT ht (by rw [← ht.1.len]; omega)) a.one a.steps
    obtain ⟨r1, r2, r3⟩ := h₂.all ((live_inv0 N s''.store.live s''.steps).ruleR (s := s'') (t := t) (e := e) (vs := [v, w]) ⟨rfl, rfl, b.cw⟩)
    exact ⟨by rw [r2]; exact b.steps, by rw [r1]; exact b.one, fun _ => by rw [r1, b.same (by simp [Out.isOver])]; exact a.same (by simp [Out.isOver]), r3⟩
  | @call s t e s' v s'' w s₃ b e' s₄ o hf hk hl h h' h₂ h₃ ih ih' ih₃ =>
    intro hs ht h1 _
    have a := ih hs (kidT ht (nk_pos (by omega))) h1 hf
    have b := ih' a.cw (kidT ht (by rw [← ht.1.len]; omega)) a.one a.steps
    obtain ⟨rfl, c, fn, _, hf', rfl, rfl, _⟩ := rule_node h₂
    have c := ih₃ b.cw ((cwn_inv N).body b.cw hf') b.one b.steps
    exact ⟨c.steps, c.one, fun h => by rw [c.same h, b.same (by simp [Out.isOver])]; exact a.same (by simp [Out.isOver]), c.cw⟩
end Go.Abs.Mac
