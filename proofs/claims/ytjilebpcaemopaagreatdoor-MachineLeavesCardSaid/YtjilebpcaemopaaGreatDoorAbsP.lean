import Derived.Test.YtjilebpcaemopaaGreatDoorMStkE
import Derived.Test.YtjilebpcaemopaaGreatDoorAtM
set_option linter.unusedVariables false
namespace Go.Abs
open Go

inductive Fz (τ : AHeap) (D : Nat → Prop) : AV → AV → Prop
  | refl (x : AV) : Fz τ D x x
  | nil {c : Bool} {sz : Nat} : Fz τ D (.val (.slice none 0 0)) (.sl c sz [])
  | own {id len sz : Nat} {els ys : List (List AV)} (hD : D id) (hg : τ.get id = some (.cells sz els)) (hl : len ≤ els.length) (hy : ys.length = len)
      (hz : ∀ (i : Nat) el fl, els[i]? = some el → ys[i]? = some fl → fl.length = el.length)
      (hf : ∀ (i : Nat) el fl (j : Nat) x y, els[i]? = some el → ys[i]? = some fl → el[j]? = some x → fl[j]? = some y → Fz τ D x y) : Fz τ D (.own id len) (.sl false sz ys)
  | sl {c : Bool} {sz : Nat} {xs ys : List (List AV)} (hl : ys.length = xs.length) (hz : ∀ (i : Nat) el fl, xs[i]? = some el → ys[i]? = some fl → fl.length = el.length)
      (hf : ∀ (i : Nat) el fl (j : Nat) x y, xs[i]? = some el → ys[i]? = some fl → el[j]? = some x → fl[j]? = some y → Fz τ D x y) : Fz τ D (.sl c sz xs) (.sl false sz ys)
  | agg {cs ds : List AV} (hl : ds.length = cs.length) (hf : ∀ (j : Nat) x y, cs[j]? = some x → ds[j]? = some y → Fz τ D x y) : Fz τ D (.agg cs) (.agg ds)
  | ptr {id i o n : Nat} {els : List (List AV)} {el : List AV} (hD : D id) (hg : τ.get id = some (.cells n els)) (he : els[i]? = some el) : Fz τ D (.ptr id i o) (.ref (el.drop o))
  | tup {cs ds : List AV} (hl : ds.length = cs.length) (hf : ∀ (j : Nat) x y, cs[j]? = some x → ds[j]? = some y → Fz τ D x y) : Fz τ D (.tup cs) (.tup ds)
  | fn {f : Fn} {cs ds : List AV} (hl : ds.length = cs.length) (hf : ∀ (j : Nat) x y, cs[j]? = some x → ds[j]? = some y → Fz τ D x y) : Fz τ D (.fn f cs) (.fn f ds)

inductive FzL (τ : AHeap) (D : Nat → Prop) : List AV → List AV → Prop
  | nil : FzL τ D [] []
  | cons {x y : AV} {xs ys : List AV} (h : Fz τ D x y) (hs : FzL τ D xs ys) : FzL τ D (x :: xs) (y :: ys)
theorem FzL.len {τ D} : ∀ {xs ys : List AV}, FzL τ D xs ys → ys.length = xs.length
  | _, _, .nil => rfl
  | _, _, .cons _ h => by simp [FzL.len h]
theorem FzL.at {τ D} : ∀ {xs ys : List AV}, FzL τ D xs ys → ∀ (j : Nat) x y, xs[j]? = some x → ys[j]? = some y → Fz τ D x y
  | _, _, .nil, j, x, y, h, _ => by simp at h
  | _, _, .cons h hs, 0, x, y, h1, h2 => by simp at h1 h2; subst h1; subst h2; exact h
  | _, _, .cons h hs, j + 1, x, y, h1, h2 => FzL.at hs j x y (by simpa using h1) (by simpa using h2)
theorem FzL.refl {τ D} : ∀ (xs : List AV), FzL τ D xs xs
  | [] => .nil
  | x :: xs => .cons (.refl x) (FzL.refl xs)
theorem FzL.append {τ D} : ∀ {xs ys xs' ys' : List AV}, FzL τ D xs ys → FzL τ D xs' ys' → FzL τ D (xs ++ xs') (ys ++ ys')
  | _, _, _, _, .nil, h => h
  | _, _, _, _, .cons h hs, h' => .cons h (FzL.append hs h')
theorem FzL.agg {τ D} {xs ys : List AV} (h : FzL τ D xs ys) : Fz τ D (.agg xs) (.agg ys) := .agg h.len h.at
inductive FzR (τ : AHeap) (D : Nat → Prop) : List (List AV) → List (List AV) → Prop
  | nil : FzR τ D [] []
  | cons {x y : List AV} {xs ys : List (List AV)} (h : FzL τ D x y) (hs : FzR τ D xs ys) : FzR τ D (x :: xs) (y :: ys)
theorem FzR.len {τ D} : ∀ {xs ys : List (List AV)}, FzR τ D xs ys → ys.length = xs.length
  | _, _, .nil => rfl
  | _, _, .cons _ h => by simp [FzR.len h]
theorem FzR.at {τ D} : ∀ {xs ys : List (List AV)}, FzR τ D xs ys → ∀ (j : Nat) x y, xs[j]? = some x → ys[j]? = some y → FzL τ D x y
  | _, _, .nil, j, x, y, h, _ => by simp at h
  | _, _, .cons h hs, 0, x, y, h1, h2 => by simp at h1 h2; subst h1; subst h2; exact h
  | _, _, .cons h hs, j + 1, x, y, h1, h2 => FzR.at hs j x y (by simpa using h1) (by simpa using h2)
theorem FzR.refl {τ D} : ∀ (xs : List (List AV)), FzR τ D xs xs
  | [] => .nil
  | x :: xs => .cons (FzL.refl x) (FzR.refl xs)
theorem FzR.own {τ : AHeap} {D : Nat → Prop} {id len sz : Nat} {xs ys rest : List (List AV)} (h : FzR τ D xs ys) (hD : D id) (hl : len = xs.length) (hg : τ.get id = some (.cells sz (xs ++ rest))) : Fz τ D (.own id len) (.sl false sz ys) := by
  subst hl
  refine .own hD hg (by simp) h.len (fun i el fl h1 h2 => ?_) (fun i el fl j x y h1 h2 h3 h4 => ?_)
  · have hi : i < xs.length := by rw [← h.len]; exact (List.getElem?_eq_some_iff.1 h2).1
    rw [List.getElem?_append_left hi] at h1
    exact (h.at i el fl h1 h2).len
  · have hi : i < xs.length := by rw [← h.len]; exact (List.getElem?_eq_some_iff.1 h2).1
    rw [List.getElem?_append_left hi] at h1
    exact (h.at i el fl h1 h2).at j x y h3 h4

/-- An object whose contents are frozen. -/
inductive FzO (τ : AHeap) (D : Nat → Prop) : AObj → AObj → Prop
  | refl (o : AObj) : FzO τ D o o
  | cells {sz : Nat} {xs ys : List (List AV)} (h : FzR τ D xs ys) : FzO τ D (.cells sz xs) (.cells sz ys)
structure FzS (τ : AHeap) (D : Nat → Prop) (σ : AHeap) : Prop where
  next : σ.next = τ.next
  gone : ∀ id, D id → σ.get id = none
  keep : ∀ id, ¬ D id → (τ.get id = none ∧ σ.get id = none) ∨ ∃ o o', τ.get id = some o ∧ σ.get id = some o' ∧ FzO τ D o o'

theorem fz_rel {ρ : Nat → Option (Option Nat × Nat)} {τ σ : AHeap} {w : World} {D : Nat → Prop} (hs : Sim ρ τ w) (hle : CLe (ctx ρ τ w) (ctx ρ σ w)) (himm : ∀ id o b sz, D id → τ.get id = some o → ρ id = some (some b, sz) → Imm ρ σ w b) {x y : AV} (hx : Fz τ D x y) :
    ∀ v, VRel (ctx ρ τ w) x v → VRel (ctx ρ σ w) y v := by
  induction hx with
  | refl x => exact fun v hv => hv.mono hle
  | nil =>
    intro v hv
    rw [hv.val_inv]
    exact .sl (fun _ _ => undef) rfl (fun _ => ⟨rfl, rfl⟩) (Nat.le_refl _) (by simp) (by simp) (by simp)
  | own hD hg hl hy hz hfr ih =>
    rename_i id len sz els ys
    intro v hv
    rcases hv.own_inv with ⟨b, sz', cap, rfl, hp, hlc, _⟩ | ⟨rfl, a, rfl, _⟩
    · have hp' : ρ id = some (some b, sz') := hp
      obtain ⟨p, hp2, hor⟩ := hs.obj id _ hg
      rw [hp'] at hp2; cases hp2
      obtain ⟨rfl, cs, t, hb, hsz, hel, hone, hr⟩ := hor.cells_inv
      have hb' : w.heap[b]? = some (.cells cs t (0, 0)) := hb
      have hcell : ∀ i j, i < len → j < sz → ∃ u, cs[i * sz + j]? = some u ∧ cellOf w.heap b (0 + i * sz + j) = some u := by
        intro i j hi hj
        have hrow := mul_lt_row (sz := sz) (Nat.lt_of_lt_of_le hi hl)
        have hlt : i * sz + j < cs.size := by omega
        refine ⟨cs[i * sz + j], Array.getElem?_eq_getElem hlt, ?_⟩
        unfold cellOf
        rw [hb', Nat.zero_add]
        exact Array.getElem?_eq_getElem hlt
      refine .sl (fun i j => cs[i * sz + j]?.getD undef) hy.symm (fun h => by cases h) hlc (by simp) (fun i fl hi => ?_) (fun i fl j x hi hj => ?_)
      · have hilt : i < len := by rw [← hy]; exact (List.getElem?_eq_some_iff.1 hi).1
        obtain ⟨el, he⟩ := get_some (l := els) (Nat.lt_of_lt_of_le hilt hl)
        refine ⟨by rw [hz i el fl he hi]; exact hel i el he, b, 0, rfl, himm id _ b sz hD hg hp', fun j hj => ?_⟩
        obtain ⟨u, hu, hc⟩ := hcell i j hilt hj
        rw [hu]
        exact ⟨hc, hone _ _ hu⟩
      · have hilt : i < len := by rw [← hy]; exact (List.getElem?_eq_some_iff.1 hi).1
        obtain ⟨el, he⟩ := get_some (l := els) (Nat.lt_of_lt_of_le hilt hl)
        have hjl : j < el.length := by rw [← hz i el fl he hi]; exact (List.getElem?_eq_some_iff.1 hj).1
        obtain ⟨z, hzz⟩ := get_some hjl
        obtain ⟨u, hu, _⟩ := hcell i j hilt (by rw [← hel i el he]; exact hjl)
        rw [hu]
        exact ih i el fl j z x he hi hzz hj u (hr i el j z he hzz u hu)
    · have : ys = [] := List.length_eq_zero_iff.1 hy
      subst this
      exact .sl (fun _ _ => undef) rfl (fun _ => ⟨rfl, rfl⟩) (Nat.le_refl _) (by simp) (by simp) (by simp)
  | sl hl hz hfr ih =>
    rename_i c sz xs ys
    intro v hv
    cases hv with
    | sl f hlen hne hcap hclip hc hr =>
      refine .sl f (by rw [hl]; exact hlen) (fun h => ⟨List.length_eq_zero_iff.1 (by rw [hl, (hne h).1]; rfl), (hne h).2⟩) hcap (by simp) (fun i fl hi => ?_) (fun i fl j x hi hj => ?_)
      · have hilt : i < xs.length := by rw [← hl]; exact (List.getElem?_eq_some_iff.1 hi).1
        obtain ⟨el, he⟩ := get_some hilt
        obtain ⟨h1, b, o, h2, h3, h4⟩ := hc i el he
        exact ⟨by rw [hz i el fl he hi]; exact h1, b, o, h2, (hle.imm _ h3).1, h4⟩
      · have hilt : i < xs.length := by rw [← hl]; exact (List.getElem?_eq_some_iff.1 hi).1
        obtain ⟨el, he⟩ := get_some hilt
        obtain ⟨z, hzz⟩ := get_some (l := el) (i := j) (by rw [← hz i el fl he hi]; exact (List.getElem?_eq_some_iff.1 hj).1)
        exact ih i el fl j z x he hi hzz hj _ (hr i el j z he hzz)
  | agg hl hfr ih =>
    rename_i cs ds
    intro v hv
    cases hv with
    | agg hlen h1 hr =>
      refine .agg (by rw [hl]; exact hlen) h1 fun j x u hj hu => ?_
      obtain ⟨z, hz⟩ := get_some (l := cs) (i := j) (by rw [← hl]; exact (List.getElem?_eq_some_iff.1 hj).1)
      exact ih j z x hz hj _ (hr j z u hz hu)
  | ptr hD hg he =>
    rename_i id i o n els el
    intro v hv
    cases hv with
    | ptr hp =>
      rename_i b n
      have hp' : ρ id = some (some b, n) := hp
      obtain ⟨p, hp2, hor⟩ := hs.obj id _ hg
      rw [hp'] at hp2; cases hp2
      obtain ⟨rfl, cs, t, hb, hsz, hel, hone, hr⟩ := hor.cells_inv
      have hb' : w.heap[b]? = some (.cells cs t (0, 0)) := hb
      have hil : i < els.length := (List.getElem?_eq_some_iff.1 he).1
      have hel' := hel i el he
      refine .ref (fun j => cs[i * n + (o + j)]?.getD undef) (himm id _ b n hD hg hp') (fun j hj => ?_) (fun j x hj => ?_)
      · rw [List.length_drop, hel'] at hj
        have hrow := mul_lt_row (sz := n) hil
        have hlt : i * n + (o + j) < cs.size := by omega
        have hu : cs[i * n + (o + j)]? = some cs[i * n + (o + j)] := Array.getElem?_eq_getElem hlt
        simp only [hu, Option.getD_some]
        refine ⟨?_, hone _ _ hu⟩
        unfold cellOf
        show (match w.heap[b]? with | some (.cells c _ _) => c[i * n + o + j]? | _ => none) = _
        rw [hb', Nat.add_assoc]
        exact hu
      · rw [List.getElem?_drop] at hj
        have hjl : o + j < el.length := (List.getElem?_eq_some_iff.1 hj).1
        have hrow := mul_lt_row (sz := n) hil
        have hlt : i * n + (o + j) < cs.size := by omega
        have hu : cs[i * n + (o + j)]? = some cs[i * n + (o + j)] := Array.getElem?_eq_getElem hlt
        simp only [hu, Option.getD_some]
        exact (hr i el (o + j) x he hj _ hu).mono hle
  | tup hl hfr ih =>
    rename_i cs ds
    intro v hv
    cases hv with
    | tup hlen hr =>
      refine .tup (by rw [hl]; exact hlen) fun j x u hj hu => ?_
      obtain ⟨z, hz⟩ := get_some (l := cs) (i := j) (by rw [← hl]; exact (List.getElem?_eq_some_iff.1 hj).1)
      exact ih j z x hz hj _ (hr j z u hz hu)
  | fn hl hfr ih =>
    rename_i f cs ds
    intro v hv
    cases hv with
    | fn hlen hr =>
      refine .fn (by rw [hl]; exact hlen) fun j x u hj hu => ?_
      obtain ⟨z, hz⟩ := get_some (l := cs) (i := j) (by rw [← hl]; exact (List.getElem?_eq_some_iff.1 hj).1)
      exact ih j z x hz hj _ (hr j z u hz hu)

theorem fz_state {ρ : Nat → Option (Option Nat × Nat)} {τ σ : AHeap} {w : World} {D : Nat → Prop} (hs : Sim ρ τ w) (hf : FzS τ D σ) : Sim ρ σ w ∧ Ext ρ τ w ρ σ w ∧ ∀ x y v, Fz τ D x y → VRel (ctx ρ τ w) x v → VRel (ctx ρ σ w) y v := by
  have hsome : ∀ id o', σ.get id = some o' → ¬ D id ∧ ∃ o, τ.get id = some o ∧ FzO τ D o o' := by
    intro id o' h
    have hD : ¬ D id := fun hd => by rw [hf.gone id hd] at h; cases h
    rcases hf.keep id hD with ⟨_, h2⟩ | ⟨o, o2, h1, h2, h3⟩
    · rw [h2] at h; cases h
    · rw [h2] at h; cases h; exact ⟨hD, o, h1, h3⟩
  have hle : CLe (ctx ρ τ w) (ctx ρ σ w) := by
    refine ⟨fun _ _ h => h, fun b hb => ⟨⟨hb.1, fun id o' sz ho hp => ?_⟩, rfl⟩, fun b cs t f hb => ⟨cs, f, hb, rfl⟩⟩
    obtain ⟨_, o, h1, _⟩ := hsome id o' ho
    exact hb.2 id o sz h1 hp
  have himm : ∀ id o b sz, D id → τ.get id = some o → ρ id = some (some b, sz) → Imm ρ σ w b := by
    intro id o b sz hD ho hp
    refine ⟨hs.blk ho hp, fun id2 o2 sz2 ho2 hp2 => ?_⟩
    obtain ⟨hnD, o3, h3, _⟩ := hsome id2 o2 ho2
    have := hs.inj id id2 o o3 b sz sz2 ho h3 hp hp2
    subst this
    exact hnD hD
  have hrel := fun x y v (hx : Fz τ D x y) => fz_rel hs hle himm hx v
  refine ⟨⟨fun id hid => hs.fresh id (by rw [hf.next] at hid; exact hid), fun id o' ho => ?_, fun i j oi oj b s t hi hj pi pj => ?_⟩, ⟨hle, Nat.le_of_eq hf.next.symm, rfl, rfl, rfl, Nat.le_refl _⟩, hrel⟩
  · obtain ⟨_, o, h1, h2⟩ := hsome id o' ho
    obtain ⟨p, hp, hor⟩ := hs.obj id o h1
    refine ⟨p, hp, ?_⟩
    cases h2 with
    | refl => exact hor.mono hle fun _ _ => rfl
    | cells hR =>
      rename_i sz xs ys
      cases hor with
      | cells cs t hb hsz hel hone hr =>
        refine .cells cs t hb (by rw [hR.len]; exact hsz) (fun i fl hi => ?_) hone (fun i fl j y hi hj v hv => ?_)
        · obtain ⟨el, he⟩ := get_some (l := xs) (i := i) (by rw [← hR.len]; exact (List.getElem?_eq_some_iff.1 hi).1)
          rw [(hR.at i el fl he hi).len]; exact hel i el he
        · obtain ⟨el, he⟩ := get_some (l := xs) (i := i) (by rw [← hR.len]; exact (List.getElem?_eq_some_iff.1 hi).1)
          have hL := hR.at i el fl he hi
          obtain ⟨x, hx⟩ := get_some (l := el) (i := j) (by rw [← hL.len]; exact (List.getElem?_eq_some_iff.1 hj).1)
          exact hrel x y v (hL.at j x y hx hj) (hr i el j x he hx v hv)
      | none =>
        have : ys = [] := List.length_eq_zero_iff.1 (by rw [hR.len]; rfl)
        subst this
        exact .none
  · obtain ⟨_, o1, h1, _⟩ := hsome i oi hi
    obtain ⟨_, o2, h2, _⟩ := hsome j oj hj
    exact hs.inj i j o1 o2 b s t h1 h2 pi pj

/-- AHEAD OF A CALL. -/
theorem Ev.freeze {P : Program} {f : FuncId} {args args' : List AV} {τ σ : AHeap} {D : Nat → Prop} {k kp : AV → AHeap → Prop} (hf : FzS τ D σ) (ha : FzL τ D args args') (h : Ev P f args' σ k kp) : Ev P f args τ k kp := by
  intro ρ w vs hs har
  obtain ⟨h1, h2, h3⟩ := fz_state hs hf
  have har' : ArgsRel (ctx ρ σ w) args' vs := by
    refine ⟨by rw [ha.len]; exact har.1, fun i y v hy hv => ?_⟩
    obtain ⟨x, hx⟩ := get_some (l := args) (i := i) (by rw [← ha.len]; exact (List.getElem?_eq_some_iff.1 hy).1)
    exact h3 x y v (ha.at i x y hx hy) (har.2 i x v hx hv)
  refine (h ρ w vs h1 har').mono ?_
  rintro e w' ⟨ρ', σ', he, hs', hp⟩
  exact ⟨ρ', σ', h2.trans he, hs', hp⟩

end Go.Abs
set_option linter.unusedVariables false
set_option linter.unusedSimpArgs false
set_option linter.deprecated false
namespace Go.Abs.Mac
open Go Go.Abs Go.Abs.Stk Go.Abs.At Go.Proofs.MacD

noncomputable abbrev PR := Go.Proofs.Tryz.prog
abbrev int (n : Int) : AV := .val (.int .i64 n)
abbrev u8 (n : Int) : AV := .val (.int .u8 n)
abbrev str (s : ByteArray) : AV := .val (.string s)
abbrev bool (b : Bool) : AV := .val (.bool b)
abbrev nilP : AV := .val (.pointer none)
abbrev nilSl : AV := .val (.slice none 0 0)

def namesV : List Nm → AV
  | [] => nilP
  | n :: l => .ref [str n.name, u8 n.v.kind, int n.v.n, int n.v.r, int n.v.a, bool n.fn, namesV l]
def rhoV : List (Int × Int) → AV
  | [] => nilP
  | (a, b) :: l => .ref [int a, int b, rhoV l]
def envC (e : En) : List AV := [namesV e.names, rhoV e.rhos]
abbrev envV (e : En) : AV := .agg (envC e)
abbrev vV (v : V) : AV := .agg v.av

theorem namesV_dat : ∀ l : List Nm, Dat (namesV l)
  | [] => .val _
  | n :: l => by
    refine Dat.ref fun x hx => ?_
    simp only [List.mem_cons, List.not_mem_nil, or_false] at hx
    rcases hx with rfl | rfl | rfl | rfl | rfl | rfl | rfl
    · exact .val _
    · exact .val _
    · exact .val _
    · exact .val _
    · exact .val _
    · exact .val _
    · exact namesV_dat l
theorem rhoV_dat : ∀ l : List (Int × Int), Dat (rhoV l)
  | [] => .val _
  | (a, b) :: l => by
    refine Dat.ref fun x hx => ?_
    simp only [List.mem_cons, List.not_mem_nil, or_false] at hx
    rcases hx with rfl | rfl | rfl
    · exact .val _
    · exact .val _
    · exact rhoV_dat l
@[simp] theorem namesV_cells (l : List Nm) : acells (namesV l) = some [namesV l] := by cases l <;> rfl
@[simp] theorem rhoV_cells (l : List (Int × Int)) : acells (rhoV l) = some [rhoV l] := by cases l <;> rfl
variable {σ : AHeap} {k kp : AV → AHeap → Prop}

theorem must_ev {b : Bool} {kd : Int} (hk : b = true → k (.tup []) σ) (hp : b = false → kp (.iface 102 (.agg [u8 kd])) σ) : Ev PR 79 [bool b, u8 kd] σ k kp := by
  apply F79_ev; unfold F79
  cases b with
  | true => simpa using hk rfl
  | false => simpa [panicK] using hp rfl
theorem num_ev {n : Int} (hk : k (vV (num n)) σ) : Ev PR 83 [int n] σ k kp := by
  apply Ev.pure; apply F83_ev; unfold F83
  simp [num, V.av]
  exact ⟨(Grows.new _ _).set (Nat.le_refl _) _, _, .low ((Dat.agg (by simp [Dat.val])).low _), hk⟩
def nxV (t n r : AV) (v : V) (b : Bool) (x : ByteArray) : AV := .agg [t, n, r, u8 v.kind, int v.n, int v.r, int v.a, bool b, str x]
def Nx.av : Nx → AV
  | .node t e => nxV (.ref t.av) (namesV e.names) (rhoV e.rhos) V.zero false ByteArray.empty
  | .val v => nxV nilP nilP nilP v false ByteArray.empty
  | .exn n x => nxV nilP nilP nilP (num n) true x
theorem back_ev {v : V} (hk : k (Nx.av (.val v)) σ) : Ev PR 82 [vV v] σ k kp := by
  apply Ev.pure; apply F82_ev; unfold F82
  simp [V.av, Nx.av, nxV, get_new, get_set] at hk ⊢
  exact ⟨((Grows.new _ _).trans (Grows.new _ _)).set (by simp) _, _, .low ((Dat.agg (by simp [Dat.val])).low _), hk⟩
theorem with_ev {e : En} {nm : ByteArray} {v : V} {b : Bool} (hk : k (envV (e.with nm v b)) σ) : Ev PR 88 [envV e, str nm, vV v, bool b] σ k kp := by
  apply Ev.pure; apply F88_ev; unfold F88
  simp [V.av, envC, get_new, get_set, Nat.add_assoc]
  refine ⟨((((((Grows.new _ _).trans (Grows.new _ _)).trans (Grows.new _ _)).trans (Grows.new _ _)).set (by simp) _).set (by simp) _), envV (e.with nm v b), ?_, hk⟩
  refine FrzL.agg (.cons ?_ (.cons (.low ((rhoV_dat _).low _)) .nil))
  refine .ptr (el := [str nm, u8 v.kind, int v.n, int v.r, int v.a, bool b, namesV e.names]) (by omega) (by simp [get_set, get_new]) rfl fun j x y h1 h2 => ?_
  have : x = y := Option.some.inj (h1.symm.trans (by simpa [En.with] using h2))
  subst this
  refine .low (Dat.low ?_ _)
  have hx := List.mem_of_getElem? h2
  simp only [List.mem_cons, List.not_mem_nil, or_false] at hx
  rcases hx with rfl | rfl | rfl | rfl | rfl | rfl | rfl
  · exact .val _
  · exact .val _
  · exact .val _
  · exact .val _
  · exact .val _
  · exact .val _
  · exact namesV_dat _
theorem open_ev {e : En} {a b : Int} (hk : k (envV (e.opn a b)) σ) : Ev PR 80 [envV e, int a, int b] σ k kp := by
  apply Ev.pure; apply F80_ev; unfold F80
  simp [envC, get_new, get_set, Nat.add_assoc]
  refine ⟨(((((Grows.new _ _).trans (Grows.new _ _)).trans (Grows.new _ _)).set (by simp) _).set (by simp) _), envV (e.opn a b), ?_, hk⟩
  refine FrzL.agg (.cons (.low ((namesV_dat _).low _)) (.cons ?_ .nil))
  refine .ptr (el := [int a, int b, rhoV e.rhos]) (by omega) (by simp [get_set, get_new]) rfl fun j x y h1 h2 => ?_
  have : x = y := Option.some.inj (h1.symm.trans (by simpa [En.opn] using h2))
  subst this
  refine .low (Dat.low ?_ _)
  have hx := List.mem_of_getElem? h2
  simp only [List.mem_cons, List.not_mem_nil, or_false] at hx
  rcases hx with rfl | rfl | rfl
  · exact .val _
  · exact .val _
  · exact rhoV_dat _
/-- How long a chain is. -/
def depth : AV → Nat
  | .ref cs => depths cs + 1
  | _ => 0
where depths : List AV → Nat
  | [] => 0
  | x :: xs => depth x + depths xs
theorem find_ev {e : En} {nm : ByteArray} (h0 : e.find nm = none → k nilP σ) (h1 : ∀ n l, e.find nm = some n → k (namesV (n :: l)) σ) : Ev PR 84 [envV e, str nm] σ k kp := by
  apply Ev.pureE; apply F84_ev; unfold F84
  simp [envC, get_new, get_set, Nat.add_assoc]
  refine seqW_in ?_
  simp [get_new]
  have hg : Grows σ (σ.new (.cells 2 [[namesV e.names, rhoV e.rhos]])) := Grows.new _ _
  generalize hτ : σ.new (.cells 2 [[namesV e.names, rhoV e.rhos]]) = τ at hg
  refine loopW_by (fun l : List Nm => [(1, str nm), (5, namesV l)]) (fun l τ' => τ' = τ ∧ e.find nm = l.find? fun n => n.name = nm) (fun fr _ => depth (look fr 5)) e.names rfl ⟨rfl, rfl⟩ ?_
  rintro l τ' ⟨rfl, hf⟩
  cases l with
  | nil =>
    simp [namesV]
    exact ⟨hg, (Dat.val _).low _, h0 hf⟩
  | cons n l =>
    simp [namesV]
    by_cases hn : n.name = nm
    · simp [hn]
      refine ⟨hg, (namesV_dat (n :: l)).low _ |> fun h => by simpa [namesV, hn] using h, ?_⟩
      have := h1 n l (by rw [hf]; simp [hn])
      simpa [namesV, hn] using this
    · simp [hn]
      exact ⟨⟨l, rfl, by rw [hf]; simp [hn]⟩, by simp [depth, depth.depths]⟩
theorem region_ev {e : En} {r : Int} (hk : k (.tup [int (e.region r).1, bool (e.region r).2]) σ) : Ev PR 124 [envV e, int r] σ k kp := by
  apply Ev.pureE; apply F124_ev; unfold F124
  simp [envC, get_new, get_set, Nat.add_assoc]
  refine seqW_in ?_
  simp [get_new]
  have hg : Grows σ (σ.new (.cells 2 [[namesV e.names, rhoV e.rhos]])) := Grows.new _ _
  generalize hτ : σ.new (.cells 2 [[namesV e.names, rhoV e.rhos]]) = τ at hg
  have hlow : ∀ (a : Int) (b : Bool), Low σ.next (.tup [int a, bool b]) := fun a b => (Dat.tup (by simp [Dat.val])).low _
  refine loopW_by (fun l : List (Int × Int) => [(1, int r), (6, rhoV l)]) (fun l τ' => τ' = τ ∧ e.rhos.find? (fun q => q.1 = r) = l.find? fun q => q.1 = r) (fun fr _ => depth (look fr 6)) e.rhos rfl ⟨rfl, rfl⟩ ?_
  rintro l τ' ⟨rfl, hf⟩
  cases l with
  | nil =>
    have e1 : e.region r = (0, decide (r = 0)) := by unfold En.region; rw [hf]; rfl
    rw [e1] at hk
    simp [rhoV]
    exact ⟨hg, hlow _ _, hk⟩
  | cons q l =>
    obtain ⟨a, b⟩ := q
    simp [rhoV]
    by_cases hn : a = r
    · have e1 : e.region r = (b, true) := by unfold En.region; rw [hf]; simp [hn]
      rw [e1] at hk
      simp [hn]
      exact ⟨hg, hlow _ _, hk⟩
    · simp [hn]
      exact ⟨⟨l, rfl, by rw [hf]; simp [hn]⟩, by simp [depth, depth.depths]⟩
theorem op_ev {o a b : Int} (hk : k (int (opF o a b)) σ) : Ev PR 128 [u8 o, int a, int b] σ k kp := by
  apply F128_ev; unfold F128
  refine seqW_in ?_
  unfold opF at hk
  by_cases h1 : o = 1
  · subst h1; simpa using hk
  by_cases h2 : o = 2
  · subst h2; simpa using hk
  by_cases h3 : o = 3
  · subst h3; simpa using hk
  by_cases h4 : o = 4
  · subst h4
    by_cases h : a < b
    · simpa [h] using hk
    · simpa [h] using hk
  by_cases h5 : o = 5
  · subst h5
    by_cases h : a = b
    · simpa [h] using hk
    · simpa [h] using hk
  simpa [h1, h2, h3, h4, h5] using hk
def endV (kind : Int) (i : Bool) (n : Int) (x : ByteArray) : AV := .agg [u8 kind, bool i, int n, str x]
theorem endV_dat {kd i n x} : Dat (endV kd i n x) := Dat.agg (by simp [Dat.val])
theorem uncaught_ev {x : ByteArray} {n : Int} (hk : k (endV 2 false n x) σ) : Ev PR 45 [str x, int n] σ k kp := by
  apply Ev.pureE; apply F45_ev; unfold F45
  simp
  exact ⟨(Grows.new _ _).set (Nat.le_refl _) _, endV_dat.low _, hk⟩
theorem endInt_ev {n : Int} (hk : k (endV 1 true n ByteArray.empty) σ) : Ev PR 46 [int n] σ k kp := by
  apply Ev.pureE; apply F46_ev; unfold F46
  simp
  exact ⟨(Grows.new _ _).set (Nat.le_refl _) _, endV_dat.low _, hk⟩
theorem other_ev (hk : k (endV 1 false 0 ByteArray.empty) σ) : Ev PR 47 [] σ k kp := by
  apply Ev.pureE; apply F47_ev; unfold F47
  simp
  exact ⟨(Grows.new _ _).set (Nat.le_refl _) _, endV_dat.low _, hk⟩
theorem number_ev {v : V} (hk : v.kind = 1 → ∀ τ, Grows σ τ → k (int v.n) τ) (hp : v.kind ≠ 1 → ∀ τ, Grows σ τ → kp (.iface 102 (.agg [u8 6])) τ) : Ev PR 93 [vV v] σ k kp := by
  apply F93_ev; unfold F93
  simp [V.av, get_new]
  refine must_ev (fun h => ?_) (fun h => ?_)
  · simp [get_new]
    exact hk (by simpa using h) _ (Grows.new _ _)
  · exact hp (by simpa using h) _ (Grows.new _ _)
end Go.Abs.Mac
