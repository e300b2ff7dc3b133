/-
  Rows that nobody will write any more are frozen ahead of a call.
-/
import Derived.Test.YtjilebpcaemopaaGreatAbsO
set_option linter.unusedVariables false
namespace Go.Abs
open Go

inductive Fz (τ : AHeap) (D : Nat → Prop) : AV → AV → Prop
  | refl (x : AV) : Fz τ D x x
  | nil {c : Bool} {sz : Nat} : Fz τ D (.val (.slice none 0 0)) (.sl c sz [])
  | own {id len sz : Nat} {els ys : List (List AV)} (hD : D id) (hg : τ.get id = some (.cells sz els)) (hl : len ≤ els.length) (hy : ys.length = len)
      (hz : ∀ (i : Nat) el fl, els[i]? = some el → ys[i]? = some fl → fl.length = el.length)
      (hf : ∀ (i : Nat) el fl (j : Nat) x y, els[i]? = some el → ys[i]? = some fl → el[j]? = some x → fl[j]? = some y → Fz τ D x y) : Fz τ D (.own id len) (.sl false sz ys)
  | sl {c : Bool} {sz : Nat} {xs ys : List (List AV)} (hl : ys.length = xs.length) (hz : ∀ (i : Nat) el fl, xs[i]? = some el → ys[i]? = some fl → fl.length = el.length)
      (hf : ∀ (i : Nat) el fl (j : Nat) x y, xs[i]? = some el → ys[i]? = some fl → el[j]? = some x → fl[j]? = some y → Fz τ D x y) : Fz τ D (.sl c sz xs) (.sl false sz ys)
  | agg {cs ds : List AV} (hl : ds.length = cs.length) (hf : ∀ (j : Nat) x y, cs[j]? = some x → ds[j]? = some y → Fz τ D x y) : Fz τ D (.agg cs) (.agg ds)
  | tup {cs ds : List AV} (hl : ds.length = cs.length) (hf : ∀ (j : Nat) x y, cs[j]? = some x → ds[j]? = some y → Fz τ D x y) : Fz τ D (.tup cs) (.tup ds)
  | fn {f : Fn} {cs ds : List AV} (hl : ds.length = cs.length) (hf : ∀ (j : Nat) x y, cs[j]? = some x → ds[j]? = some y → Fz τ D x y) : Fz τ D (.fn f cs) (.fn f ds)

inductive FzL (τ : AHeap) (D : Nat → Prop) : List AV → List AV → Prop
  | nil : FzL τ D [] []
  | cons {x y : AV} {xs ys : List AV} (h : Fz τ D x y) (hs : FzL τ D xs ys) : FzL τ D (x :: xs) (y :: ys)
theorem FzL.len {τ D} : ∀ {xs ys : List AV}, FzL τ D xs ys → ys.length = xs.length
  | _, _, .nil => rfl
  | _, _, .cons _ h => by simp [FzL.len h]
theorem FzL.at {τ D} : ∀ {xs ys : List AV}, FzL τ D xs ys → ∀ (j : Nat) x y, xs[j]? = some x → ys[j]? = some y → Fz τ D x y
  | _, _, .nil, j, x, y, h, _ => by simp at h
  | _, _, .cons h hs, 0, x, y, h1, h2 => by simp at h1 h2; subst h1; subst h2; exact h
  | _, _, .cons h hs, j + 1, x, y, h1, h2 => FzL.at hs j x y (by simpa using h1) (by simpa using h2)
theorem FzL.refl {τ D} : ∀ (xs : List AV), FzL τ D xs xs
  | [] => .nil
  | x :: xs => .cons (.refl x) (FzL.refl xs)
theorem FzL.append {τ D} : ∀ {xs ys xs' ys' : List AV}, FzL τ D xs ys → FzL τ D xs' ys' → FzL τ D (xs ++ xs') (ys ++ ys')
  | _, _, _, _, .nil, h => h
  | _, _, _, _, .cons h hs, h' => .cons h (FzL.append hs h')
theorem FzL.agg {τ D} {xs ys : List AV} (h : FzL τ D xs ys) : Fz τ D (.agg xs) (.agg ys) := .agg h.len h.at
inductive FzR (τ : AHeap) (D : Nat → Prop) : List (List AV) → List (List AV) → Prop
  | nil : FzR τ D [] []
  | cons {x y : List AV} {xs ys : List (List AV)} (h : FzL τ D x y) (hs : FzR τ D xs ys) : FzR τ D (x :: xs) (y :: ys)
theorem FzR.len {τ D} : ∀ {xs ys : List (List AV)}, FzR τ D xs ys → ys.length = xs.length
  | _, _, .nil => rfl
  | _, _, .cons _ h => by simp [FzR.len h]
theorem FzR.at {τ D} : ∀ {xs ys : List (List AV)}, FzR τ D xs ys → ∀ (j : Nat) x y, xs[j]? = some x → ys[j]? = some y → FzL τ D x y
  | _, _, .nil, j, x, y, h, _ => by simp at h
  | _, _, .cons h hs, 0, x, y, h1, h2 => by simp at h1 h2; subst h1; subst h2; exact h
  | _, _, .cons h hs, j + 1, x, y, h1, h2 => FzR.at hs j x y (by simpa using h1) (by simpa using h2)
theorem FzR.refl {τ D} : ∀ (xs : List (List AV)), FzR τ D xs xs
  | [] => .nil
  | x :: xs => .cons (FzL.refl x) (FzR.refl xs)
theorem FzR.own {τ : AHeap} {D : Nat → Prop} {id len sz : Nat} {xs ys rest : List (List AV)} (h : FzR τ D xs ys) (hD : D id) (hl : len = xs.length) (hg : τ.get id = some (.cells sz (xs ++ rest))) : Fz τ D (.own id len) (.sl false sz ys) := by
  subst hl
  refine .own hD hg (by simp) h.len (fun i el fl h1 h2 => ?_) (fun i el fl j x y h1 h2 h3 h4 => ?_)
  · have hi : i < xs.length := by rw [← h.len]; exact (List.getElem?_eq_some_iff.1 h2).1
    rw [List.getElem?_append_left hi] at h1
    exact (h.at i el fl h1 h2).len
  · have hi : i < xs.length := by rw [← h.len]; exact (List.getElem?_eq_some_iff.1 h2).1
    rw [List.getElem?_append_left hi] at h1
    exact (h.at i el fl h1 h2).at j x y h3 h4

/-- An object whose contents are frozen. -/
inductive FzO (τ : AHeap) (D : Nat → Prop) : AObj → AObj → Prop
  | refl (o : AObj) : FzO τ D o o
  | cells {sz : Nat} {xs ys : List (List AV)} (h : FzR τ D xs ys) : FzO τ D (.cells sz xs) (.cells sz ys)
structure FzS (τ : AHeap) (D : Nat → Prop) (σ : AHeap) : Prop where
  next : σ.next = τ.next
  gone : ∀ id, D id → σ.get id = none
  keep : ∀ id, ¬ D id → (τ.get id = none ∧ σ.get id = none) ∨ ∃ o o', τ.get id = some o ∧ σ.get id = some o' ∧ FzO τ D o o'

theorem fz_rel {ρ : Nat → Option (Option Nat × Nat)} {τ σ : AHeap} {w : World} {D : Nat → Prop} (hs : Sim ρ τ w) (hle : CLe (ctx ρ τ w) (ctx ρ σ w)) (himm : ∀ id o b sz, D id → τ.get id = some o → ρ id = some (some b, sz) → Imm ρ σ w b) {x y : AV} (hx : Fz τ D x y) :
    ∀ v, VRel (ctx ρ τ w) x v → VRel (ctx ρ σ w) y v := by
  induction hx with
  | refl x => exact fun v hv => hv.mono hle
  | nil =>
    intro v hv
    rw [hv.val_inv]
    exact .sl (fun _ _ => undef) rfl (fun _ => ⟨rfl, rfl⟩) (Nat.le_refl _) (by simp) (by simp) (by simp)
  | own hD hg hl hy hz hfr ih =>
    rename_i id len sz els ys
    intro v hv
    rcases hv.own_inv with ⟨b, sz', cap, rfl, hp, hlc, _⟩ | ⟨rfl, a, rfl, _⟩
    · have hp' : ρ id = some (some b, sz') := hp
      obtain ⟨p, hp2, hor⟩ := hs.obj id _ hg
      rw [hp'] at hp2; cases hp2
      obtain ⟨rfl, cs, t, hb, hsz, hel, hone, hr⟩ := hor.cells_inv
      have hb' : w.heap[b]? = some (.cells cs t (0, 0)) := hb
      have hcell : ∀ i j, i < len → j < sz → ∃ u, cs[i * sz + j]? = some u ∧ cellOf w.heap b (0 + i * sz + j) = some u := by
        intro i j hi hj
        have hrow := mul_lt_row (sz := sz) (Nat.lt_of_lt_of_le hi hl)
        have hlt : i * sz + j < cs.size := by omega
        refine ⟨cs[i * sz + j], Array.getElem?_eq_getElem hlt, ?_⟩
        unfold cellOf
        rw [hb', Nat.zero_add]
        exact Array.getElem?_eq_getElem hlt
      refine .sl (fun i j => cs[i * sz + j]?.getD undef) hy.symm (fun h => by cases h) hlc (by simp) (fun i fl hi => ?_) (fun i fl j x hi hj => ?_)
      · have hilt : i < len := by rw [← hy]; exact (List.getElem?_eq_some_iff.1 hi).1
        obtain ⟨el, he⟩ := get_some (l := els) (Nat.lt_of_lt_of_le hilt hl)
        refine ⟨by rw [hz i el fl he hi]; exact hel i el he, b, 0, rfl, himm id _ b sz hD hg hp', fun j hj => ?_⟩
        obtain ⟨u, hu, hc⟩ := hcell i j hilt hj
        rw [hu]
        exact ⟨hc, hone _ _ hu⟩
      · have hilt : i < len := by rw [← hy]; exact (List.getElem?_eq_some_iff.1 hi).1
        obtain ⟨el, he⟩ := get_some (l := els) (Nat.lt_of_lt_of_le hilt hl)
        have hjl : j < el.length := by rw [← hz i el fl he hi]; exact (List.getElem?_eq_some_iff.1 hj).1
        obtain ⟨z, hzz⟩ := get_some hjl
        obtain ⟨u, hu, _⟩ := hcell i j hilt (by rw [← hel i el he]; exact hjl)
        rw [hu]
        exact ih i el fl j z x he hi hzz hj u (hr i el j z he hzz u hu)
    · have : ys = [] := List.length_eq_zero_iff.1 hy
      subst this
      exact .sl (fun _ _ => undef) rfl (fun _ => ⟨rfl, rfl⟩) (Nat.le_refl _) (by simp) (by simp) (by simp)
  | sl hl hz hfr ih =>
    rename_i c sz xs ys
    intro v hv
    cases hv with
    | sl f hlen hne hcap hclip hc hr =>
      refine .sl f (by rw [hl]; exact hlen) (fun h => ⟨List.length_eq_zero_iff.1 (by rw [hl, (hne h).1]; rfl), (hne h).2⟩) hcap (by simp) (fun i fl hi => ?_) (fun i fl j x hi hj => ?_)
      · have hilt : i < xs.length := by rw [← hl]; exact (List.getElem?_eq_some_iff.1 hi).1
        obtain ⟨el, he⟩ := get_some hilt
        obtain ⟨h1, b, o, h2, h3, h4⟩ := hc i el he
        exact ⟨by rw [hz i el fl he hi]; exact h1, b, o, h2, (hle.imm _ h3).1, h4⟩
      · have hilt : i < xs.length := by rw [← hl]; exact (List.getElem?_eq_some_iff.1 hi).1
        obtain ⟨el, he⟩ := get_some hilt
        obtain ⟨z, hzz⟩ := get_some (l := el) (i := j) (by rw [← hz i el fl he hi]; exact (List.getElem?_eq_some_iff.1 hj).1)
        exact ih i el fl j z x he hi hzz hj _ (hr i el j z he hzz)
  | agg hl hfr ih =>
    rename_i cs ds
    intro v hv
    cases hv with
    | agg hlen h1 hr =>
      refine .agg (by rw [hl]; exact hlen) h1 fun j x u hj hu => ?_
      obtain ⟨z, hz⟩ := get_some (l := cs) (i := j) (by rw [← hl]; exact (List.getElem?_eq_some_iff.1 hj).1)
      exact ih j z x hz hj _ (hr j z u hz hu)
  | tup hl hfr ih =>
    rename_i cs ds
    intro v hv
    cases hv with
    | tup hlen hr =>
      refine .tup (by rw [hl]; exact hlen) fun j x u hj hu => ?_
      obtain ⟨z, hz⟩ := get_some (l := cs) (i := j) (by rw [← hl]; exact (List.getElem?_eq_some_iff.1 hj).1)
      exact ih j z x hz hj _ (hr j z u hz hu)
  | fn hl hfr ih =>
    rename_i f cs ds
    intro v hv
    cases hv with
    | fn hlen hr =>
      refine .fn (by rw [hl]; exact hlen) fun j x u hj hu => ?_
      obtain ⟨z, hz⟩ := get_some (l := cs) (i := j) (by rw [← hl]; exact (List.getElem?_eq_some_iff.1 hj).1)
      exact ih j z x hz hj _ (hr j z u hz hu)

theorem fz_state {ρ : Nat → Option (Option Nat × Nat)} {τ σ : AHeap} {w : World} {D : Nat → Prop} (hs : Sim ρ τ w) (hf : FzS τ D σ) : Sim ρ σ w ∧ Ext ρ τ w ρ σ w ∧ ∀ x y v, Fz τ D x y → VRel (ctx ρ τ w) x v → VRel (ctx ρ σ w) y v := by
  have hsome : ∀ id o', σ.get id = some o' → ¬ D id ∧ ∃ o, τ.get id = some o ∧ FzO τ D o o' := by
    intro id o' h
    have hD : ¬ D id := fun hd => by rw [hf.gone id hd] at h; cases h
    rcases hf.keep id hD with ⟨_, h2⟩ | ⟨o, o2, h1, h2, h3⟩
    · rw [h2] at h; cases h
    · rw [h2] at h; cases h; exact ⟨hD, o, h1, h3⟩
  have hle : CLe (ctx ρ τ w) (ctx ρ σ w) := by
    refine ⟨fun _ _ h => h, fun b hb => ⟨⟨hb.1, fun id o' sz ho hp => ?_⟩, rfl⟩, fun b cs t f hb => ⟨cs, f, hb, rfl⟩⟩
    obtain ⟨_, o, h1, _⟩ := hsome id o' ho
    exact hb.2 id o sz h1 hp
  have himm : ∀ id o b sz, D id → τ.get id = some o → ρ id = some (some b, sz) → Imm ρ σ w b := by
    intro id o b sz hD ho hp
    refine ⟨hs.blk ho hp, fun id2 o2 sz2 ho2 hp2 => ?_⟩
    obtain ⟨hnD, o3, h3, _⟩ := hsome id2 o2 ho2
    have := hs.inj id id2 o o3 b sz sz2 ho h3 hp hp2
    subst this
    exact hnD hD
  have hrel := fun x y v (hx : Fz τ D x y) => fz_rel hs hle himm hx v
  refine ⟨⟨fun id hid => hs.fresh id (by rw [hf.next] at hid; exact hid), fun id o' ho => ?_, fun i j oi oj b s t hi hj pi pj => ?_⟩, ⟨hle, Nat.le_of_eq hf.next.symm, rfl, rfl, rfl, Nat.le_refl _, Nat.le_refl _⟩, hrel⟩
  · obtain ⟨_, o, h1, h2⟩ := hsome id o' ho
    obtain ⟨p, hp, hor⟩ := hs.obj id o h1
    refine ⟨p, hp, ?_⟩
    cases h2 with
    | refl => exact hor.mono hle fun _ _ => rfl
    | cells hR =>
      rename_i sz xs ys
      cases hor with
      | cells cs t hb hsz hel hone hr =>
        refine .cells cs t hb (by rw [hR.len]; exact hsz) (fun i fl hi => ?_) hone (fun i fl j y hi hj v hv => ?_)
        · obtain ⟨el, he⟩ := get_some (l := xs) (i := i) (by rw [← hR.len]; exact (List.getElem?_eq_some_iff.1 hi).1)
          rw [(hR.at i el fl he hi).len]; exact hel i el he
        · obtain ⟨el, he⟩ := get_some (l := xs) (i := i) (by rw [← hR.len]; exact (List.getElem?_eq_some_iff.1 hi).1)
          have hL := hR.at i el fl he hi
          obtain ⟨x, hx⟩ := get_some (l := el) (i := j) (by rw [← hL.len]; exact (List.getElem?_eq_some_iff.1 hj).1)
          exact hrel x y v (hL.at j x y hx hj) (hr i el j x he hx v hv)
      | none =>
        have : ys = [] := List.length_eq_zero_iff.1 (by rw [hR.len]; rfl)
        subst this
        exact .none
  · obtain ⟨_, o1, h1, _⟩ := hsome i oi hi
    obtain ⟨_, o2, h2, _⟩ := hsome j oj hj
    exact hs.inj i j o1 o2 b s t h1 h2 pi pj

/-- AHEAD OF A CALL. -/
theorem Ev.freeze {P : Program} {f : FuncId} {args args' : List AV} {τ σ : AHeap} {D : Nat → Prop} {k kp : AV → AHeap → Prop} (hf : FzS τ D σ) (ha : FzL τ D args args') (h : Ev P f args' σ k kp) : Ev P f args τ k kp := by
  intro ρ w vs hs har
  obtain ⟨h1, h2, h3⟩ := fz_state hs hf
  have har' : ArgsRel (ctx ρ σ w) args' vs := by
    refine ⟨by rw [ha.len]; exact har.1, fun i y v hy hv => ?_⟩
    obtain ⟨x, hx⟩ := get_some (l := args) (i := i) (by rw [← ha.len]; exact (List.getElem?_eq_some_iff.1 hy).1)
    exact h3 x y v (ha.at i x y hx hy) (har.2 i x v hx hv)
  refine (h ρ w vs h1 har').mono ?_
  rintro e w' ⟨ρ', σ', he, hs', hp⟩
  exact ⟨ρ', σ', h2.trans he, hs', hp⟩

end Go.Abs
