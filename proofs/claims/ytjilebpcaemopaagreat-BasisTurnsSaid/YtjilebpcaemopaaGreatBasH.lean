/-
  The basis in the program: variables, joins.
-/
import Derived.Test.YtjilebpcaemopaaGreatBasG
import Derived.Test.YtjilebpcaemopaaGreatBasR
set_option linter.unusedVariables false
set_option linter.unusedSimpArgs false
namespace Go.Abs.Bas
open Go Go.Abs Go.Abs.At Go.Proofs.BasD
attribute [local simp] Nat.add_assoc
variable {σ τ : AHeap} {id : Nat} {rv vv hv : AV} {s : IS} {b : B} {F : Nat → Prop} {k kp : AV → AHeap → Prop}

/-- A row whose parts are frozen. -/
theorem fz_set {q sz : Nat} {xs ys : List (List AV)} (hq : τ.get q = some (.cells sz xs)) (h : FzR τ (fun _ => False) xs ys) : FzS τ (fun _ => False) (τ.set q (.cells sz ys)) where
  next := rfl
  gone _ h := h.elim
  keep i _ := by
    rw [get_set]
    by_cases hi : i = q
    · subst hi; rw [if_pos rfl]; exact .inr ⟨_, _, hq, rfl, .cells h⟩
    · rw [if_neg hi]
      cases hg : τ.get i with
      | none => exact .inl ⟨rfl, rfl⟩
      | some o => exact .inr ⟨o, o, rfl, rfl, .refl o⟩
theorem Rep.var (h : Rep s b) (ok : b.Ok) (hl : s.vup.length < 100000) : Rep { s with vup := s.vup ++ [(s.vup.length : Int)], has := s.has ++ [([], [])] } { b with vars := b.vars + 1 } where
  r := h.r
  rl := h.rl
  v := h.v.grow (by rw [h.vl]; exact ok.V) hl
  vl := by simp [h.vl]
  hl := by simp [h.hl]
  h i p hp hi := by
    by_cases hlt : i < s.has.length
    · rw [List.getElem?_append_left hlt] at hp
      exact h.h i p hp hi
    · have h1 := (List.getElem?_eq_some_iff.1 hp).1
      simp at h1
      have : i = s.has.length := by omega
      subst this
      simp at hp
      subst hp
      have e : B.toldOf { b with vars := b.vars + 1 } (s.has.length : Int) = [] := by
        unfold B.toldOf
        rw [List.filter_eq_nil_iff]
        intro t ht
        have h2 := inB_iff.1 (ok.L t ht).1
        have h3 := nm_le b.V t.v
        have h4 := h.hl
        simp only at hi ⊢
        rw [hi]
        simp; omega
      rw [e]
      exact ⟨.refl _, .refl _⟩
theorem Foot.wide {id : Nat} {rv vv hv hv' : AV} {n m : Nat} (h1 : ∀ i, Foot id rv vv hv' i → Foot id rv vv hv i ∨ n ≤ i) : ∀ i, Foot id rv vv hv' i → Foot id rv vv hv i ∨ n ≤ i := h1
theorem var_ev (h : Bs σ id b F) (hs : Small b) (hk : ∀ τ, Bs τ id { b with vars := b.vars + 1 } (Wide F σ.next) → Off F σ τ → k (int b.vars) τ) : Ev PR 11 [.ptr id 0 0] σ k kp := by
  obtain ⟨s, ⟨rv, vv, hv, h, hF⟩, hR⟩ := h
  have hl : s.vup.length < 100000 := by rw [hR.vl]; have := hs.vars; omega
  have hhl : s.has.length ≤ 1000 := by rw [hR.hl]; exact hs.vars
  apply F11_ev; unfold F11
  simp [h.obj]
  have hg := Grows.new σ (.cells 2 [[nilS, nilS]])
  have hh : RowV (σ.new (.cells 2 [[nilS, nilS]])) hv 2 (s.has.map hasRow) := h.h.mono hg.next fun q n e hq => hg.get q hq
  refine stepK_of (aAppend_rows (by' := 48) hh.rows hh.ns (ys := [[nilS, nilS]]) (.inr (.inr ⟨σ.next, [], rfl, by simp [get_new]⟩)) (by simp; omega)) ?_
  obtain ⟨p1, p2, p3⟩ := hh.push [nilS, nilS]
  have p4 : ∀ i, i < σ.next → (∀ n, hv ≠ .own i n) → ((gone hv (σ.new (.cells 2 [[nilS, nilS]]))).new (.cells 2 (s.has.map hasRow ++ [[nilS, nilS]]))).get i = σ.get i := fun i h1 h2 => by
    rw [p3 i (by simp; omega) h2, AHeap.new_ne (by omega)]
  have p5 : ((gone hv (σ.new (.cells 2 [[nilS, nilS]]))).new (.cells 2 (s.has.map hasRow ++ [[nilS, nilS]]))).get (σ.next + 1) = some (.cells 2 (s.has.map hasRow ++ [[nilS, nilS]])) := by
    rw [get_new, gone_next, if_pos (by simp)]
  simp only [List.length_map, List.length_singleton, List.map_cons, List.map_nil, AHeap.new_next] at p1 p3 p4 p5 ⊢
  generalize (gone hv (σ.new (.cells 2 [[nilS, nilS]]))).new (.cells 2 (s.has.map hasRow ++ [[nilS, nilS]])) = ω at p1 p2 p3 p4 p5 ⊢
  simp only [AHeap.new_next] at p2
  have hlt := h.lt
  have ho : ω.get id = some (.cells 3 [[rv, vv, hv]]) := by rw [p4 id hlt h.hi]; exact h.obj
  simp [ho]
  refine Ev.freeze (D := fun _ => False) (σ := (ω.set id (.cells 3 [[rv, vv, .own (σ.next + 1) (s.has.length + 1)]])).set (σ.next + 1) (.cells 2 ((s.has ++ [([], [])]).map hasRow))) (fz_set (xs := s.has.map hasRow ++ [[nilS, nilS]]) (by rw [get_set, if_neg (by omega)]; exact p5) ?_) (.cons (.refl _) .nil) ?_
  · have : ∀ l : List (List AV), FzR (ω.set id (.cells 3 [[rv, vv, .own (σ.next + 1) (s.has.length + 1)]])) (fun _ => False) (l ++ [[nilS, nilS]]) (l ++ [hasRow ([], [])]) := fun l => by
      induction l with
      | nil => exact .cons (.cons .nil (.cons .nil .nil)) .nil
      | cons a l ih => exact .cons (FzL.refl a) ih
    rw [List.map_append]
    exact this _
  · obtain ⟨q1, q2, q3⟩ := h.setH (τ := (ω.set id (.cells 3 [[rv, vv, .own (σ.next + 1) (s.has.length + 1)]])).set (σ.next + 1) (.cells 2 ((s.has ++ [([], [])]).map hasRow))) (hv' := .own (σ.next + 1) (s.has.length + 1)) (has' := s.has ++ [([], [])])
      (by simp; omega) (by rw [get_set, if_neg (by omega)]; simp) (.inr ⟨σ.next + 1, [], by simp, by simp, by rw [get_set, if_pos rfl]; simp, by simp; omega⟩)
      (fun q n e => by cases e; exact .inr (by omega)) (fun i h1 h2 h3 => by rw [get_set, if_neg (by omega), get_set, if_neg h1]; exact p4 i h2 h3)
    refine growV_ev q1 hl fun υ vv' u1 u2 u3 => ?_
    simp only at u1 u3
    rw [hR.vl]
    have hfoot : ∀ i, Foot id rv vv' (.own (σ.next + 1) (s.has.length + 1)) i → Foot id rv vv hv i ∨ σ.next ≤ i := fun i hi => by
      rcases u2 i hi with h1 | h1
      · exact q2 i h1
      · have := q3.next; exact .inr (by omega)
    refine hk υ ⟨_, In.of hF u1 hfoot, ?_⟩ (Off.trans (q3.wide fun i hi => (hF i hi).1) (u3.wide fun i hi => ?_))
    · have := hR.var hs.ok hl
      simpa using this
    · rcases q2 i hi with h1 | h1
      · exact .inl (hF i h1).1
      · exact .inr h1

theorem setRow {up rest : List (List AV)} {m : Nat} {el : List AV} (h : m < up.length) : (up ++ rest).set m el = up.set m el ++ rest := by
  rw [List.set_append_left _ _ h]
theorem irows_set (up : List Int) (m : Nat) (k : Int) : irows (up.set m k) = (irows up).set m [int k] := by simp [irows, List.map_set]
theorem joinR_ev (h : BAt σ id rv vv hv s) {R : List (Int × Int)} (hf : FOk s.up R) {x y : Int} (hx : inB x s.up.length = true) (hy : inB y s.up.length = true) (hin : ∀ n, inB n s.up.length = true → inB (nm R n) s.up.length = true)
    (hk : ∀ τ (m j : Nat), (m : Int) = max (nm R x) (nm R y) → (j : Int) = min (nm R x) (nm R y) → BAt τ id rv vv hv { s with up := s.up.set m (j : Int) } → Off (Foot id rv vv hv) σ τ → k (.tup []) τ) : Ev PR 49 [.ptr id 0 0, int x, int y] σ k kp := by
  apply F49_ev; unfold F49
  refine name_ev h.fvR hf ?_
  refine name_ev h.fvR hf ?_
  have e1 : nameIn s.up R x = nm R x := by simp [nameIn, hx]
  have e2 : nameIn s.up R y = nm R y := by simp [nameIn, hy]
  rw [e1, e2]
  have i1 := inB_iff.1 (hin x hx)
  have i2 := inB_iff.1 (hin y hy)
  simp [h.obj]
  obtain ⟨m, hm⟩ : ∃ m : Nat, (m : Int) = max (nm R x) (nm R y) := ⟨(max (nm R x) (nm R y)).toNat, by omega⟩
  obtain ⟨j, hj⟩ : ∃ j : Nat, (j : Int) = min (nm R x) (nm R y) := ⟨(min (nm R x) (nm R y)).toNat, by omega⟩
  have e3 : (if nm R x < nm R y then nm R y else nm R x) = (m : Int) := by rw [hm]; split <;> omega
  have e4 : (if nm R y < nm R x then nm R y else nm R x) = (j : Int) := by rw [hj]; split <;> omega
  simp only [e3, e4]
  rcases h.r with ⟨_, h0⟩ | ⟨q, rest, rfl, h1, h2, h3⟩
  · have : s.up = [] := by simpa using h0
    rw [this] at i1; simp at i1; omega
  have hml : m < s.up.length := by omega
  have hrow : (irows s.up ++ rest)[m]? = some [int s.up[m]] := by
    rw [List.getElem?_append_left (by simpa using hml)]
    simp [hml]
  have a1 : aIndexAddr 1 (.own q (irows s.up).length) (int m) σ = some (.ptr q m 0) := by
    rw [aIndexAddr_own, if_pos ⟨by omega, by simp; omega⟩]
    simp only [elAt_eq, h2, Int.toNat_natCast, hrow, Option.bind_some, List.length_singleton, if_true]
  refine stepP a1 ?_
  have a2 : aStore 1 (.ptr q m 0) (int j) σ = some (σ.set q (.cells 1 (irows (s.up.set m (j : Int)) ++ rest))) := by
    rw [aStore_ptr]
    simp only [h2, hrow, acells_int, List.length_singleton, Nat.zero_add, Nat.le_refl, and_self, if_true, List.take_zero, List.nil_append]
    rw [irows_set, ← setRow (by simpa using hml)]
    rfl
  rw [a2]
  simp only [unitR_some, stepK_some]
  have hqi : q ≠ id := fun e => h.ri (irows s.up).length (by rw [e])
  have := h.setR (τ := σ.set q (.cells 1 (irows (s.up.set m (j : Int)) ++ rest))) (rv' := .own q (irows s.up).length) (up' := s.up.set m (j : Int)) (Nat.le_refl _) (by rw [get_set, if_neg (Ne.symm hqi)]; exact h.obj)
    (.inr ⟨q, rest, by simp, by simp [irows]; intro e; simp [e] at hml, by rw [get_set, if_pos rfl], by simpa using h3⟩) (fun q' n e => by cases e; exact .inl ⟨_, rfl⟩) (fun i _ _ h3 => by rw [get_set, if_neg (fun e => h3 (irows s.up).length (by rw [e]))])
  exact hk _ m j hm hj this.1 this.2.2
theorem joinV_ev (h : BAt σ id rv vv hv s) {R : List (Int × Int)} (hf : FOk s.vup R) {x y : Int} (hx : inB x s.vup.length = true) (hy : inB y s.vup.length = true) (hin : ∀ n, inB n s.vup.length = true → inB (nm R n) s.vup.length = true)
    (hk : ∀ τ (m j : Nat), (m : Int) = max (nm R x) (nm R y) → (j : Int) = min (nm R x) (nm R y) → BAt τ id rv vv hv { s with vup := s.vup.set m (j : Int) } → Off (Foot id rv vv hv) σ τ → k (.tup []) τ) : Ev PR 49 [.ptr id 0 1, int x, int y] σ k kp := by
  apply F49_ev; unfold F49
  refine name_ev h.fvV hf ?_
  refine name_ev h.fvV hf ?_
  have e1 : nameIn s.vup R x = nm R x := by simp [nameIn, hx]
  have e2 : nameIn s.vup R y = nm R y := by simp [nameIn, hy]
  rw [e1, e2]
  have i1 := inB_iff.1 (hin x hx)
  have i2 := inB_iff.1 (hin y hy)
  simp [h.obj]
  obtain ⟨m, hm⟩ : ∃ m : Nat, (m : Int) = max (nm R x) (nm R y) := ⟨(max (nm R x) (nm R y)).toNat, by omega⟩
  obtain ⟨j, hj⟩ : ∃ j : Nat, (j : Int) = min (nm R x) (nm R y) := ⟨(min (nm R x) (nm R y)).toNat, by omega⟩
  have e3 : (if nm R x < nm R y then nm R y else nm R x) = (m : Int) := by rw [hm]; split <;> omega
  have e4 : (if nm R y < nm R x then nm R y else nm R x) = (j : Int) := by rw [hj]; split <;> omega
  simp only [e3, e4]
  rcases h.v with ⟨_, h0⟩ | ⟨q, rest, rfl, h1, h2, h3⟩
  · have : s.vup = [] := by simpa using h0
    rw [this] at i1; simp at i1; omega
  have hml : m < s.vup.length := by omega
  have hrow : (irows s.vup ++ rest)[m]? = some [int s.vup[m]] := by
    rw [List.getElem?_append_left (by simpa using hml)]
    simp [hml]
  have a1 : aIndexAddr 1 (.own q (irows s.vup).length) (int m) σ = some (.ptr q m 0) := by
    rw [aIndexAddr_own, if_pos ⟨by omega, by simp; omega⟩]
    simp only [elAt_eq, h2, Int.toNat_natCast, hrow, Option.bind_some, List.length_singleton, if_true]
  refine stepP a1 ?_
  have a2 : aStore 1 (.ptr q m 0) (int j) σ = some (σ.set q (.cells 1 (irows (s.vup.set m (j : Int)) ++ rest))) := by
    rw [aStore_ptr]
    simp only [h2, hrow, acells_int, List.length_singleton, Nat.zero_add, Nat.le_refl, and_self, if_true, List.take_zero, List.nil_append]
    rw [irows_set, ← setRow (by simpa using hml)]
    rfl
  rw [a2]
  simp only [unitR_some, stepK_some]
  have hqi : q ≠ id := fun e => h.vi (irows s.vup).length (by rw [e])
  have := h.setV (τ := σ.set q (.cells 1 (irows (s.vup.set m (j : Int)) ++ rest))) (vv' := .own q (irows s.vup).length) (up' := s.vup.set m (j : Int)) (Nat.le_refl _) (by rw [get_set, if_neg (Ne.symm hqi)]; exact h.obj)
    (.inr ⟨q, rest, by simp, by simp [irows]; intro e; simp [e] at hml, by rw [get_set, if_pos rfl], by simpa using h3⟩) (fun q' n e => by cases e; exact .inl ⟨_, rfl⟩) (fun i _ _ h3 => by rw [get_set, if_neg (fun e => h3 (irows s.vup).length (by rw [e]))])
  exact hk _ m j hm hj this.1 this.2.2

/-- Some of the pairs that come of a row. -/
def pre (l : List Int) (i : Nat) : List (Int × Int) := ((l.take i).map fun r => (l.headD 0, r)).reverse
theorem pre_all (l : List Int) : pre l l.length = pairsOf l := by simp [pre, pairsOf]
theorem pre_succ {l : List Int} {i : Nat} {r : Int} (h : l[i]? = some r) : pre l (i + 1) = (l.headD 0, r) :: pre l i := by
  unfold pre
  rw [List.take_add_one, h]
  simp
theorem Rep.joined (h : Rep s b) {p : Int × Int} {m j : Nat} (hm : (m : Int) = max (nm b.R p.1) (nm b.R p.2)) (hj : (j : Int) = min (nm b.R p.1) (nm b.R p.2)) : Rep { s with up := s.up.set m (j : Int) } { b with R := p :: b.R } where
  r := by obtain ⟨x, y⟩ := p; exact h.r.join hm.symm hj.symm
  rl := by simp [h.rl]
  v := h.v
  vl := h.vl
  hl := h.hl
  h := h.h
theorem bjoin_ev (h : Bs σ id b F) (hs : Small b) {c : Bool} {l : List Int} (hl : l.length < 1000000) (hk : ∀ τ, Bs τ id (b.join l).1 F → Off F σ τ → k (bool (b.join l).2) τ) : Ev PR 25 [.ptr id 0 0, .sl c 1 (irows l)] σ k kp := by
  obtain ⟨s, hIn, hR⟩ := h
  have hBs : Bs σ id b F := ⟨s, hIn, hR⟩
  obtain ⟨rv, vv, hv, h, hF⟩ := hIn
  apply F25_ev; unfold F25
  have hlow : ∀ σ : AHeap, RowG σ 1 (.sl c 1 (irows l)) (irows l) := fun σ => RowG.sl (irows_dat l)
  simp
  refine there_ev h.fvR (hlow σ) (by omega) ?_
  rw [hR.rl]
  cases ht : there l b.regions
  · simp
    have e : b.join l = (b, false) := by simp [B.join, ht]
    rw [e] at hk
    have h0 : ¬ (l.length : Int) = 0 := by
      intro h0
      have : l = [] := List.length_eq_zero_iff.1 (by omega)
      subst this; simp [there] at ht
    have h0' : l ≠ [] := fun e => h0 (by simp [e])
    simp [h0']
    exact hk σ hBs (Off.refl _ _)
  · simp
    have e : b.join l = ({ b with R := pairsOf l ++ b.R }, true) := by simp [B.join, ht]
    rw [e] at hk
    refine seqW_in ?_
    have hth := there_iff.1 ht
    refine loopW_by (fun i : Nat => [(0, .ptr id 0 0), (1, .sl c 1 (irows l)), (20, .sl c 1 (irows l)), (21, int l.length), (22, int i)])
      (fun i τ => i ≤ l.length ∧ Off F σ τ ∧ ∃ s', BAt τ id rv vv hv s' ∧ Rep s' { b with R := pre l i ++ b.R })
      (fun fr _ => l.length - (intOf (look fr 22)).toNat) 0 (by simp) ⟨by simp, Off.refl _ _, s, h, hR⟩ ?_
    rintro i τ ⟨hi, hO, s', hB, hR'⟩
    simp
    by_cases hil : i < l.length
    · obtain ⟨r, hr⟩ := get_some hil
      obtain ⟨x, hx⟩ : ∃ x, l[0]? = some x := get_some (by omega)
      have hhd : l.headD 0 = x := by
        cases l with
        | nil => simp at hil
        | cons a l => simp at hx ⊢; exact hx
      obtain ⟨p, p1, p2⟩ := (hlow τ).at hr .i64
      obtain ⟨q, q1, q2⟩ := (hlow τ).at hx .i64
      simp only [hil, decide_true, condK_true]
      refine stepP p1 ?_
      refine stepP p2 ?_
      refine stepP q1 ?_
      refine stepP q2 ?_
      have hrl : s'.up.length = b.regions := hR'.rl
      have hx' : inB x s'.up.length = true := inB_iff.2 (by rw [hrl]; exact hth x (List.mem_of_getElem? hx))
      have hr' : inB r s'.up.length = true := inB_iff.2 (by rw [hrl]; exact hth r (List.mem_of_getElem? hr))
      have hok : ∀ p ∈ pre l i ++ b.R, inB p.1 s'.up.length = true ∧ inB p.2 s'.up.length = true := fun p hp => by
        rw [hrl]
        rcases List.mem_append.1 hp with hp | hp
        · unfold pre at hp
          obtain ⟨y, hy, rfl⟩ := List.mem_map.1 (List.mem_reverse.1 hp)
          exact ⟨inB_iff.2 (by rw [hhd]; exact hth x (List.mem_of_getElem? hx)), inB_iff.2 (hth y (List.mem_of_mem_take hy))⟩
        · exact hs.ok.R p hp
      refine joinR_ev hB hR'.r hx' hr' (fun n hn => nm_in hok hn) fun υ m j hm hj u1 u2 => ?_
      rw [wrap64 (by omega)]
      refine ⟨⟨i + 1, by simp, by omega, hO.trans (u2.wide fun i hi => .inl (hF i hi).1), _, u1, ?_⟩, by omega⟩
      have := hR'.joined (p := (x, r)) hm hj
      rw [pre_succ hr, hhd]
      exact this
    · have hie : i = l.length := by omega
      subst hie
      rw [pre_all] at hR'
      simp [hil]
      refine hk τ ⟨s', ⟨rv, vv, hv, hB, fun i hi => ⟨(hF i hi).1, foot_lt hB hi⟩⟩, hR'⟩ hO
end Go.Abs.Bas
