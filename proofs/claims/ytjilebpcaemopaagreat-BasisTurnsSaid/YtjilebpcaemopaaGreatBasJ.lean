/-
  The basis in the program: joins of variables, more of a variable, copies.
-/
import Derived.Test.YtjilebpcaemopaaGreatBasI
import Derived.Test.YtjilebpcaemopaaGreatBasK
set_option linter.unusedVariables false
set_option linter.unusedSimpArgs false
namespace Go.Abs.Bas
open Go Go.Abs Go.Abs.At Go.Proofs.BasD
attribute [local simp] Nat.add_assoc
variable {σ τ : AHeap} {id : Nat} {rv vv hv : AV} {s : IS} {b : B} {F : Nat → Prop} {k kp : AV → AHeap → Prop}

theorem Rep.added (h : Rep s b) {v : Int} {i : Nat} {p : List Atom × List Int} (hv : nm b.V v = i) (hp : s.has[i]? = some p) (A : List Atom) (V : List Int) : Rep { s with has := s.has.set i (p.1 ++ A, p.2 ++ V) } { b with L := b.L ++ [⟨v, A, V⟩] } where
  r := h.r
  rl := h.rl
  v := h.v
  vl := h.vl
  hl := by simp [h.hl]
  h j q hq hj := by
    have e : B.toldOf { b with L := b.L ++ [⟨v, A, V⟩] } (j : Int) = b.toldOf j ++ if j = i then [⟨v, A, V⟩] else [] := by
      unfold B.toldOf
      rw [List.filter_append]
      congr 1
      by_cases hji : j = i
      · subst hji; simp [hv, hj]
      · have : ¬ (i : Int) = j := by omega
        simp [hv, hj, hji, this]
    rw [e]
    simp only at hq
    rw [List.getElem?_set] at hq
    split at hq
    · rename_i hij
      subst hij
      split at hq
      · cases hq
        obtain ⟨h1, h2⟩ := h.h i p hp hj
        rw [if_pos rfl]
        simp only [List.flatMap_append, List.flatMap_cons, List.flatMap_nil, List.append_nil]
        exact ⟨h1.append_right _, h2.append_right _⟩
      · cases hq
    · rename_i hij
      rw [if_neg (fun e => hij e.symm), List.append_nil]
      exact h.h j q hq hj
theorem filter_or {α : Type} (p q : α → Bool) : ∀ (l : List α), (∀ x ∈ l, ¬ (p x = true ∧ q x = true)) → (l.filter fun x => p x || q x).Perm (l.filter p ++ l.filter q)
  | [], _ => .refl _
  | x :: l, h => by
    have ih := filter_or p q l fun y hy => h y (List.mem_cons_of_mem _ hy)
    have hx := h x (List.mem_cons_self ..)
    cases hp : p x <;> cases hq : q x
    · simp [hp, hq]; exact ih
    · simp [hp, hq]
      exact (List.Perm.cons x ih).trans List.perm_middle.symm
    · simp [hp, hq]; exact ih
    · exact absurd ⟨hp, hq⟩ hx
theorem Rep.sameV (h : Rep s b) {p : Int × Int} (he : nm b.V p.1 = nm b.V p.2) : Rep s { b with V := p :: b.V } := by
  have e : nm (p :: b.V) = nm b.V := joinF_same he
  refine ⟨h.r, h.rl, ⟨h.v.len, fun i u hu => ?_⟩, h.vl, h.hl, fun i q hq hi => ?_⟩
  · have := h.v.at' i u hu
    simp only [e]; exact this
  · simp only [e] at hi
    have := h.h i q hq hi
    unfold B.toldOf at *
    simp only [e]; exact this
theorem Rep.joinedV (h : Rep s b) {p : Int × Int} {m j : Nat} (hm : (m : Int) = max (nm b.V p.1) (nm b.V p.2)) (hj : (j : Int) = min (nm b.V p.1) (nm b.V p.2)) (hne : nm b.V p.1 ≠ nm b.V p.2) {pj pm : List Atom × List Int} (hpj : s.has[j]? = some pj) (hpm : s.has[m]? = some pm) :
    Rep { s with vup := s.vup.set m (j : Int), has := s.has.set j (pj.1 ++ pm.1, pj.2 ++ pm.2) } { b with V := p :: b.V } where
  r := h.r
  rl := h.rl
  v := by obtain ⟨x, y⟩ := p; exact h.v.join hm.symm hj.symm
  vl := by simp [h.vl]
  hl := by simp [h.hl]
  h i q hq hi := by
    have eb : ∀ n, nm (p :: b.V) n = if nm b.V n = m then (j : Int) else nm b.V n := fun n => by simp only [nm, joinF, ← hm, ← hj]
    have hjm : j < m := by omega
    have ia := nm_idem b.V p.1
    have ib := nm_idem b.V p.2
    have hj2 : nm b.V (j : Int) = j := by rw [hj]; rcases Int.le_total (nm b.V p.1) (nm b.V p.2) with hh | hh <;> simp [hh, Int.min_eq_left, Int.min_eq_right, ia, ib]
    have hm2 : nm b.V (m : Int) = m := by rw [hm]; rcases Int.le_total (nm b.V p.1) (nm b.V p.2) with hh | hh <;> simp [hh, Int.max_eq_left, Int.max_eq_right, ia, ib]
    simp only [eb] at hi
    have him : i ≠ m := by
      rintro rfl
      rw [hm2, if_pos rfl] at hi; omega
    have hi' : nm b.V (i : Int) = i := by
      split at hi
      · rename_i hh
        have : j = i := by omega
        subst this; exact hj2
      · exact hi
    have et : ∀ n, decide (nm (p :: b.V) n = nm (p :: b.V) (i : Int)) = if i = j then (decide (nm b.V n = (j : Int)) || decide (nm b.V n = (m : Int))) else decide (nm b.V n = (i : Int)) := fun n => by
      rw [eb, eb, hi', if_neg (by omega : ¬ (i : Int) = m)]
      by_cases hij : i = j
      · subst hij
        rw [if_pos rfl]
        by_cases hnm : nm b.V n = (m : Int)
        · simp [hnm]
        · simp [hnm]
      · rw [if_neg hij]
        by_cases hnm : nm b.V n = (m : Int)
        · have h1 : ¬ (j : Int) = i := by omega
          have h2 : ¬ (m : Int) = i := by omega
          simp [hnm, h1, h2]
        · simp [hnm]
    have e2 : B.toldOf { b with V := p :: b.V } (i : Int) = b.L.filter fun t => if i = j then (decide (nm b.V t.v = (j : Int)) || decide (nm b.V t.v = (m : Int))) else decide (nm b.V t.v = (i : Int)) := by
      unfold B.toldOf
      exact List.filter_congr fun t _ => et t.v
    rw [e2]
    simp only at hq
    rw [List.getElem?_set] at hq
    by_cases hij : i = j
    · subst hij
      rw [if_pos rfl] at hq
      split at hq
      · cases hq
        simp only [if_pos]
        obtain ⟨a1, a2⟩ := h.h i pj hpj hj2
        obtain ⟨c1, c2⟩ := h.h m pm hpm hm2
        have hp := filter_or (fun t : Told => decide (nm b.V t.v = (i : Int))) (fun t => decide (nm b.V t.v = (m : Int))) b.L fun t _ => by simp; omega
        have e3 : b.toldOf (i : Int) = b.L.filter fun t => decide (nm b.V t.v = (i : Int)) := by unfold B.toldOf; rw [hj2]
        have e4 : b.toldOf (m : Int) = b.L.filter fun t => decide (nm b.V t.v = (m : Int)) := by unfold B.toldOf; rw [hm2]
        rw [e3] at a1 a2
        rw [e4] at c1 c2
        refine ⟨(a1.append c1).trans ?_, (a2.append c2).trans ?_⟩
        · rw [← List.flatMap_append]
          exact (hp.flatMap_right _).symm
        · rw [← List.flatMap_append]
          exact (hp.flatMap_right _).symm
      · cases hq
    · rw [if_neg (fun e => hij e.symm)] at hq
      have := h.h i q hq hi'
      unfold B.toldOf at this
      rw [hi'] at this
      simp only [if_neg hij]
      exact this

theorem Ev.after' {P : Program} {f : FuncId} {args : List AV} {σ : AHeap} {k kp : AV → AHeap → Prop} (h : ∀ K : AV → AHeap → Prop, (∀ x τ D τ' y, FzS τ D τ' → Fz τ D x y → k y τ' → K x τ) → Ev P f args σ K kp) : Ev P f args σ k kp :=
  Ev.after (h _ fun x τ D τ' y h1 h2 h3 => ⟨D, τ', y, h1, h2, h3⟩)
theorem FzS.same (σ : AHeap) : FzS σ (fun _ => False) σ := ⟨rfl, fun _ h => h.elim, fun i _ => by
    cases hg : σ.get i with
    | none => exact .inl ⟨rfl, rfl⟩
    | some o => exact .inr ⟨o, o, rfl, rfl, .refl o⟩⟩
theorem hasAt (h : BAt σ id rv vv hv s) {i : Nat} (hi : i < s.has.length) : ∃ q rest, hv = .own q s.has.length ∧ σ.get q = some (.cells 2 (s.has.map hasRow ++ rest)) ∧ q < σ.next := by
  rcases h.h with ⟨_, h0⟩ | ⟨q, rest, h1, _, h2, h3⟩
  · have : s.has = [] := by simpa using h0
    rw [this] at hi; simp at hi
  · exact ⟨q, rest, by simpa using h1, h2, h3⟩

theorem add_ev (h : Bs σ id b F) (hs : Small b) {v : Int} {x : AV} {A : List Atom} {c : Bool} {V : List Int} (hx : RowG σ 3 x (arows A)) (hA : A.length ≤ 1000) (hV : V.length ≤ 1000) (hk : ∀ τ, Bs τ id (b.add v A V).1 F → Off F σ τ → k (bool (b.add v A V).2) τ) :
    Ev PR 27 [.ptr id 0 0, int v, x, .sl c 1 (irows V)] σ k kp := by
  obtain ⟨s, hIn, hR⟩ := h
  have hBs : Bs σ id b F := ⟨s, hIn, hR⟩
  obtain ⟨rv, vv, hv, h, hF⟩ := hIn
  refine Ev.after' fun K hK => ?_
  apply F27_ev; unfold F27
  have no : (A.all (okA b) && inB v b.vars && there V b.vars) = false → K (bool false) σ := fun e => by
    have e2 : b.add v A V = (b, false) := by simp [B.add, e]
    rw [e2] at hk
    exact hK _ _ _ _ _ (FzS.same σ) (.refl _) (hk σ hBs (Off.refl _ _))
  simp
  refine there_ev (l := [v]) h.fvV (.sl (irows_dat [v])) (by simp) ?_
  rw [hR.vl]
  cases h1 : inB v b.vars
  · simp [there, h1]
    exact no (by simp [h1])
  simp [there, h1]
  refine there_ev (l := V) h.fvV (.sl (irows_dat V)) (by omega) ?_
  rw [hR.vl]
  cases h2 : there V b.vars
  · simp
    exact no (by simp [h2])
  simp
  refine allAtoms_ev hx (by omega) ?_
  cases h3 : A.all atomM
  · simp
    exact no (by rw [okA_all, h3]; simp)
  simp [hx.cells]
  refine rhosE_ev hx (by omega) ?_
  refine there_ev (l := rhosM A) h.fvR (RowG.rhos _) ?_ ?_
  · have := setOf_len ltI (((ofM A).filter fun a => decide (a.kind ≠ 3)).map (·.rho))
    have h5 : ((ofM A).filter fun a => decide (a.kind ≠ 3)).length ≤ (ofM A).length := List.length_filter_le _ _
    have := ofM_len A
    rw [List.length_map] at *
    unfold rhosM
    omega
  rw [hR.rl]
  cases h4 : there (rhosM A) b.regions
  · simp
    exact no (by rw [okA_all, h4]; simp)
  have hok : (A.all (okA b) && inB v b.vars && there V b.vars) = true := by rw [okA_all, h3, h4, h1, h2]; rfl
  have e2 : b.add v A V = ({ b with L := b.L ++ [⟨v, A, V⟩] }, true) := by simp only [B.add]; rw [if_pos hok]
  rw [e2] at hk
  simp [h.obj]
  refine name_ev h.fvV hR.v ?_
  rw [nameIn_V hR]
  obtain ⟨i, p, hi, hp, hp1, hp2⟩ := hR.root hs.ok h1
  have e3 : b.varName v = i := by rw [B.varName, if_pos h1, hi]
  rw [e3]
  have hil := (List.getElem?_eq_some_iff.1 hp).1
  obtain ⟨q, rest, hq, hg, hql⟩ := hasAt h hil
  have hp1l : p.1.length ≤ 100000 := by rw [hp1.length_eq]; exact hs.atoms v
  have hp2l : p.2.length ≤ 100000 := by rw [hp2.length_eq]; exact hs.varsL v
  have hrow : ∀ r : List (List AV), (s.has.map hasRow ++ r)[i]? = some (hasRow p) := fun r => by rw [List.getElem?_append_left (by simpa using hil)]; simp [hp]
  simp [h.obj]
  have a1 : aIndexAddr 2 hv (int i) σ = some (.ptr q i 0) := by
    rw [hq, aIndexAddr_own, if_pos ⟨by omega, by omega⟩]
    simp only [elAt_eq, hg, Int.toNat_natCast, hrow, Option.bind_some]
    rfl
  refine stepP a1 ?_
  simp [hg, hrow, hasRow, effV]
  refine clipA_ev ?_
  obtain ⟨x1, τ1, b1, b2, b3, b4⟩ := clipAppend (σ := σ) (sz := 3) (by' := 32) (es := arows p.1) (ys := arows A) hx.1 (by simp; omega)
  refine stepK_of b1 ?_
  have g1 : τ1.get q = some (.cells 2 (s.has.map hasRow ++ rest)) := by rw [b3 q hql]; exact hg
  simp [g1, hrow, hasRow, b4.cells]
  have hsetlen : i < (s.has.map hasRow ++ rest).length := by simp; omega
  generalize hτ2 : AHeap.set τ1 q _ = τ2
  have n2 : τ2.next = τ1.next := by rw [← hτ2]; rfl
  have o2 : ∀ j, j ≠ q → τ2.get j = τ1.get j := fun j hj => by rw [← hτ2, get_set, if_neg hj]
  have g2 : τ2.get q = some (.cells 2 ((s.has.map hasRow ++ rest).set i [x1, rhosV p.2])) := by rw [← hτ2, get_set, if_pos rfl]
  clear hτ2
  have hr2 : ((s.has.map hasRow ++ rest).set i [x1, rhosV p.2])[i]? = some [x1, rhosV p.2] := List.getElem?_set_self hsetlen
  refine stepP (x := .sl false 1 (irows p.2)) (by simp only [g2, hr2]; rfl) ?_
  refine clipI_ev ?_
  obtain ⟨x2, τ3, c1, c2, c3, c4⟩ := clipAppend (σ := τ2) (sz := 1) (by' := 8) (es := irows p.2) (ys := irows V) (y := .sl c 1 (irows V)) (.inr (.inl ⟨c, rfl⟩)) (by simp; omega)
  refine stepK_of c1 ?_
  have g3 : τ3.get q = some (.cells 2 ((s.has.map hasRow ++ rest).set i [x1, rhosV p.2])) := by rw [c3 q (by omega)]; exact g2
  simp only [g3, hr2, c4.cells]
  simp
  obtain ⟨τ', f1, f2, f3⟩ := h.put (τ := τ3.set q (.cells 2 ((s.has.map hasRow ++ rest).set i [x1, x2]))) hq rfl hg hil (A := p.1 ++ A) (V := p.2 ++ V) (x1 := x1) (x2 := x2) (by show σ.next ≤ τ3.next; omega)
    (fun j hj hjq => by rw [get_set, if_neg hjq, c3 j (by omega), o2 j hjq, b3 j hj]) (by rw [get_set, if_pos rfl])
    (by
      have : Put σ.next τ3 3 x1 (arows p.1 ++ arows A) := (b4.mono (τ := τ2) (by omega) fun j h1 h2 => o2 j (by omega)).mono c2 fun j h1 h2 => c3 j (by omega)
      have := this.mono (τ := τ3.set q (.cells 2 ((s.has.map hasRow ++ rest).set i [x1, x2]))) (Nat.le_refl _) fun j h1 h2 => by rw [get_set, if_neg (by omega)]
      simpa [arows] using this)
    (by
      have : Put σ.next τ3 1 x2 (irows p.2 ++ irows V) := c4.low (by omega)
      have := this.mono (τ := τ3.set q (.cells 2 ((s.has.map hasRow ++ rest).set i [x1, x2]))) (Nat.le_refl _) fun j h1 h2 => by rw [get_set, if_neg (by omega)]
      simpa [irows] using this)
  exact hK _ _ _ τ' (bool true) f1 (.refl _) (hk τ' ⟨_, ⟨rv, vv, hv, f2, fun j hj => ⟨(hF j hj).1, foot_lt f2 hj⟩⟩, hR.added hi hp A V⟩ (f3.wide fun j hj => (hF j hj).1))

theorem bjoinVars_ev (h : Bs σ id b F) (hs : Small b) {c : Bool} {l : List Int} (hl : l.length < 1000000) (hk : ∀ τ, Bs τ id (b.joinVars l).1 F → Off F σ τ → k (bool (b.joinVars l).2) τ) : Ev PR 26 [.ptr id 0 0, .sl c 1 (irows l)] σ k kp := by
  obtain ⟨s, hIn, hR⟩ := h
  have hBs : Bs σ id b F := ⟨s, hIn, hR⟩
  obtain ⟨rv, vv, hv, h, hF⟩ := hIn
  refine Ev.after' fun K hK => ?_
  apply F26_ev; unfold F26
  have hlow : ∀ σ : AHeap, RowG σ 1 (.sl c 1 (irows l)) (irows l) := fun σ => RowG.sl (irows_dat l)
  simp
  refine there_ev h.fvV (hlow σ) (by omega) ?_
  rw [hR.vl]
  cases ht : there l b.vars
  · simp
    have e : b.joinVars l = (b, false) := by simp [B.joinVars, ht]
    rw [e] at hk
    have h0' : l ≠ [] := by
      rintro rfl; simp [there] at ht
    simp [h0']
    exact hK _ _ _ _ _ (FzS.same σ) (.refl _) (hk σ hBs (Off.refl _ _))
  · simp
    have e : b.joinVars l = ({ b with V := pairsOf l ++ b.V }, true) := by simp [B.joinVars, ht]
    rw [e] at hk
    refine seqW_in ?_
    have hth := there_iff.1 ht
    obtain ⟨I, hI⟩ : ∃ I : Nat → AHeap → Prop, ∀ i τ, I i τ ↔ ∃ D τ', FzS τ D τ' ∧ Off F σ τ' ∧ ∃ s', BAt τ' id rv vv hv s' ∧ Rep s' { b with V := pre l i ++ b.V } := ⟨_, fun _ _ => Iff.rfl⟩
    refine loopW_by (fun i : Nat => [(0, .ptr id 0 0), (1, .sl c 1 (irows l)), (24, .sl c 1 (irows l)), (25, int l.length), (26, int i)])
      (fun i τ => i ≤ l.length ∧ I i τ)
      (fun fr _ => l.length - (intOf (look fr 26)).toNat) 0 (by simp) ⟨by simp, (hI _ _).2 ⟨_, σ, FzS.same σ, Off.refl _ _, s, h, hR⟩⟩ ?_
    rintro i τr ⟨hi, hIi⟩
    simp
    by_cases hil : i < l.length
    · obtain ⟨r, hr⟩ := get_some hil
      obtain ⟨x, hx⟩ : ∃ x, l[0]? = some x := get_some (by omega)
      have hhd : l.headD 0 = x := by
        cases l with
        | nil => simp at hil
        | cons a l => simp at hx ⊢; exact hx
      obtain ⟨D, τ, hfz, hO, s', hB, hR'⟩ := (hI _ _).1 hIi
      obtain ⟨p, p1, p2⟩ := (hlow τr).at hr .i64
      obtain ⟨q, q1, q2⟩ := (hlow τr).at hx .i64
      simp only [hil, decide_true, condK_true]
      refine seqW_by (fun fr υ => fr = [(0, .ptr id 0 0), (1, .sl c 1 (irows l)), (24, .sl c 1 (irows l)), (25, int l.length), (26, int i)] ∧ I (i + 1) υ) ?_ ?_
      · simp
        refine stepP p1 ?_
        refine stepP p2 ?_
        refine stepP q1 ?_
        refine stepP q2 ?_
        refine Ev.freeze hfz (.cons (.refl _) (.cons (.refl _) .nil)) ?_
        have hvl : s'.vup.length = b.vars := hR'.vl
        have hx' : inB x s'.vup.length = true := inB_iff.2 (by rw [hvl]; exact hth x (List.mem_of_getElem? hx))
        have hr' : inB r s'.vup.length = true := inB_iff.2 (by rw [hvl]; exact hth r (List.mem_of_getElem? hr))
        have hok : ∀ p ∈ pre l i ++ b.V, inB p.1 s'.vup.length = true ∧ inB p.2 s'.vup.length = true := fun p hp => by
          rw [hvl]
          rcases List.mem_append.1 hp with hp | hp
          · unfold pre at hp
            obtain ⟨y, hy, rfl⟩ := List.mem_map.1 (List.mem_reverse.1 hp)
            exact ⟨inB_iff.2 (by rw [hhd]; exact hth x (List.mem_of_getElem? hx)), inB_iff.2 (hth y (List.mem_of_mem_take hy))⟩
          · exact hs.ok.V p hp
        have hps : pre l (i + 1) = (x, r) :: pre l i := by rw [pre_succ hr, hhd]
        refine name_ev hB.fvV hR'.v ?_
        refine name_ev hB.fvV hR'.v ?_
        have e1 : nameIn s'.vup (pre l i ++ b.V) x = nm (pre l i ++ b.V) x := by simp [nameIn, hx']
        have e2 : nameIn s'.vup (pre l i ++ b.V) r = nm (pre l i ++ b.V) r := by simp [nameIn, hr']
        rw [e1, e2]
        by_cases heq : nm (pre l i ++ b.V) x = nm (pre l i ++ b.V) r
        · simp [heq]
          exact (hI _ _).2 ⟨_, τ, FzS.same τ, hO, s', hB, by rw [hps]; exact hR'.sameV (p := (x, r)) heq⟩
        simp [heq]
        have hidem := nm_idem (pre l i ++ b.V)
        have i1 := nm_in hok hx'
        have i2 := nm_in hok hr'
        refine joinV_ev hB hR'.v i1 i2 (fun n hn => nm_in hok hn) fun υ m j hm hj u1 u2 => ?_
        rw [hidem, hidem] at hm hj
        have j1 := inB_iff.1 i1
        have j2 := inB_iff.1 i2
        have hhl : s'.has.length = b.vars := hR'.hl
        have hml : m < s'.has.length := by omega
        have hjl : j < s'.has.length := by omega
        obtain ⟨qh, rest, hq, hg, hql⟩ := hasAt u1 (i := j) hjl
        simp only at hg hq
        obtain ⟨pj, hpj⟩ := get_some hjl
        obtain ⟨pm, hpm⟩ := get_some hml
        have e3 : (if nm (pre l i ++ b.V) x < nm (pre l i ++ b.V) r then nm (pre l i ++ b.V) r else nm (pre l i ++ b.V) x) = (m : Int) := by rw [hm]; split <;> omega
        have e4 : (if nm (pre l i ++ b.V) r < nm (pre l i ++ b.V) x then nm (pre l i ++ b.V) r else nm (pre l i ++ b.V) x) = (j : Int) := by rw [hj]; split <;> omega
        have hjm : j ≠ m := by omega
        have rowj : ∀ r : List (List AV), (s'.has.map hasRow ++ r)[j]? = some (hasRow pj) := fun r => by rw [List.getElem?_append_left (by simpa using hjl)]; simp [hpj]
        have rowm : ∀ r : List (List AV), (s'.has.map hasRow ++ r)[m]? = some (hasRow pm) := fun r => by rw [List.getElem?_append_left (by simpa using hml)]; simp [hpm]
        have aj : aIndexAddr 2 hv (int j) υ = some (.ptr qh j 0) := by
          rw [hq, aIndexAddr_own, if_pos ⟨by omega, by omega⟩]
          simp only [elAt_eq, hg, Int.toNat_natCast, rowj, Option.bind_some]
          rfl
        have am : aIndexAddr 2 hv (int m) υ = some (.ptr qh m 0) := by
          rw [hq, aIndexAddr_own, if_pos ⟨by omega, by omega⟩]
          simp only [elAt_eq, hg, Int.toNat_natCast, rowm, Option.bind_some]
          rfl
        simp [u1.obj, e3, e4]
        refine stepP aj ?_
        simp [u1.obj]
        refine stepP am ?_
        have hs' : Small { b with V := pre l i ++ b.V } := ⟨⟨hs.ok.R, fun p hp => by rw [← hvl]; exact hok p hp, fun t htt => ⟨(hs.ok.L t htt).1, (hs.ok.L t htt).2.1, fun a ha => okA_of (b := b) rfl ((hs.ok.L t htt).2.2 a ha)⟩⟩, hs.regions, hs.vars, hs.len, hs.told⟩
        have hmroot : nm (pre l i ++ b.V) (m : Int) = m := by rw [hm]; rcases Int.le_total (nm (pre l i ++ b.V) x) (nm (pre l i ++ b.V) r) with hh | hh <;> simp [hh, Int.max_eq_left, Int.max_eq_right, hidem]
        have hjroot : nm (pre l i ++ b.V) (j : Int) = j := by rw [hj]; rcases Int.le_total (nm (pre l i ++ b.V) x) (nm (pre l i ++ b.V) r) with hh | hh <;> simp [hh, Int.min_eq_left, Int.min_eq_right, hidem]
        obtain ⟨pj1, pj2⟩ := hR'.h j pj hpj hjroot
        obtain ⟨pm1, pm2⟩ := hR'.h m pm hpm hmroot
        have l1 : pj.1.length ≤ 100000 := by rw [pj1.length_eq]; exact hs'.atoms _
        have l2 : pj.2.length ≤ 100000 := by rw [pj2.length_eq]; exact hs'.varsL _
        have l3 : pm.1.length ≤ 100000 := by rw [pm1.length_eq]; exact hs'.atoms _
        have l4 : pm.2.length ≤ 100000 := by rw [pm2.length_eq]; exact hs'.varsL _
        have lm : ∀ (χ : AHeap) (g : List (List AV)), χ.get qh = some (.cells 2 g) → g[m]? = some (hasRow pm) → aLoad false 1 (.ptr qh m 0) χ = some (effV pm.1) ∧ aLoad false 1 (.ptr qh m 1) χ = some (rhosV pm.2) := fun χ g h1 h2 => by
          constructor <;> (simp only [aLoad_ptr, elAt_eq, h1, h2, Option.bind_some]; rfl)
        obtain ⟨lm1, lm2⟩ := lm υ _ hg (rowm rest)
        refine stepP (x := .sl false 3 (arows pj.1)) (by simp only [hg, rowj]; rfl) ?_
        simp only [aNilCheck_ptr, aFieldAddr_ptr, pureR_some, stepK_some, Nat.zero_add]
        refine stepP lm1 ?_
        refine clipA_ev ⟨stepP lm1 ⟨rfl, rfl⟩, ?_⟩
        obtain ⟨x1, τ1, b1, b2, b3, b4⟩ := clipAppend (σ := υ) (sz := 3) (by' := 32) (es := arows pj.1) (ys := arows pm.1) (y := effV pm.1) (RowG.eff (σ := υ) pm.1).1 (by simp; omega)
        refine stepK_of b1 ?_
        have g1 : τ1.get qh = some (.cells 2 (s'.has.map hasRow ++ rest)) := by rw [b3 qh hql]; exact hg
        simp only [g1, rowj, b4.cells]
        have hsetlen : j < (s'.has.map hasRow ++ rest).length := by simp; omega
        have hsetlen2 : m < (s'.has.map hasRow ++ rest).length := by simp; omega
        have e5 : ([x1] ++ (hasRow pj).tail) = [x1, rhosV pj.2] := rfl
        simp only [e5]
        rw [if_pos ⟨rfl, by show 1 ≤ 2; omega⟩]
        simp only [unitR_some, stepK_some]
        generalize hτ2 : AHeap.set τ1 qh _ = τ2
        have n2 : τ2.next = τ1.next := by rw [← hτ2]; rfl
        have o2 : ∀ j, j ≠ qh → τ2.get j = τ1.get j := fun j hj => by rw [← hτ2, get_set, if_neg hj]
        have g2 : τ2.get qh = some (.cells 2 ((s'.has.map hasRow ++ rest).set j [x1, rhosV pj.2])) := by rw [← hτ2, get_set, if_pos rfl]
        clear hτ2
        have hr2 : ((s'.has.map hasRow ++ rest).set j [x1, rhosV pj.2])[j]? = some [x1, rhosV pj.2] := List.getElem?_set_self hsetlen
        have hrm2 : ((s'.has.map hasRow ++ rest).set j [x1, rhosV pj.2])[m]? = some (hasRow pm) := by rw [List.getElem?_set_ne hjm]; exact rowm rest
        obtain ⟨lm3, lm4⟩ := lm τ2 _ g2 hrm2
        refine stepP (x := .sl false 1 (irows pj.2)) (by simp only [g2, hr2]; rfl) ?_
        refine stepP lm4 ?_
        refine clipI_ev ⟨stepP lm4 ⟨rfl, rfl⟩, ?_⟩
        obtain ⟨x2, τ3, c1, c2, c3, c4⟩ := clipAppend (σ := τ2) (sz := 1) (by' := 8) (es := irows pj.2) (ys := irows pm.2) (y := rhosV pm.2) (RowG.rhos (σ := τ2) pm.2).1 (by simp; omega)
        refine stepK_of c1 ?_
        have g3 : τ3.get qh = some (.cells 2 ((s'.has.map hasRow ++ rest).set j [x1, rhosV pj.2])) := by rw [c3 qh (by omega)]; exact g2
        simp only [g3, hr2, c4.cells]
        rw [if_pos ⟨rfl, by show 2 ≤ 2; omega⟩]
        simp only [unitR_some, stepK_some]
        have e6 : ((s'.has.map hasRow ++ rest).set j [x1, rhosV pj.2]).set j (List.take 1 [x1, rhosV pj.2] ++ ([x2] ++ List.drop 2 [x1, rhosV pj.2])) = (s'.has.map hasRow ++ rest).set j [x1, x2] := by simp
        rw [e6]
        obtain ⟨τ', f1, f2, f3⟩ := u1.put (τ := τ3.set qh (.cells 2 ((s'.has.map hasRow ++ rest).set j [x1, x2]))) hq rfl hg hjl (A := pj.1 ++ pm.1) (V := pj.2 ++ pm.2) (x1 := x1) (x2 := x2) (by show υ.next ≤ τ3.next; omega)
          (fun j hj hjq => by rw [get_set, if_neg hjq, c3 j (by omega), o2 j hjq, b3 j hj]) (by rw [get_set, if_pos rfl])
          (by
            have : Put υ.next τ3 3 x1 (arows pj.1 ++ arows pm.1) := (b4.mono (τ := τ2) (by omega) fun j h1 h2 => o2 j (by omega)).mono c2 fun j h1 h2 => c3 j (by omega)
            have := this.mono (τ := τ3.set qh (.cells 2 ((s'.has.map hasRow ++ rest).set j [x1, x2]))) (Nat.le_refl _) fun j h1 h2 => by rw [get_set, if_neg (by omega)]
            simpa [arows] using this)
          (by
            have : Put υ.next τ3 1 x2 (irows pj.2 ++ irows pm.2) := c4.low (by omega)
            have := this.mono (τ := τ3.set qh (.cells 2 ((s'.has.map hasRow ++ rest).set j [x1, x2]))) (Nat.le_refl _) fun j h1 h2 => by rw [get_set, if_neg (by omega)]
            simpa [irows] using this)
        refine (hI _ _).2 ⟨_, τ', f1, (hO.trans (u2.wide fun i hi => .inl (hF i hi).1)).trans (f3.wide fun i hi => .inl (hF i hi).1), _, f2, ?_⟩
        have hne : nm (pre l i ++ b.V) x ≠ nm (pre l i ++ b.V) r := heq
        have := hR'.joinedV (p := (x, r)) hm hj hne hpj hpm
        rw [hps]
        exact this
      · rintro fr υ ⟨rfl, hIu⟩
        simp
        rw [wrap64 (by omega)]
        exact ⟨⟨i + 1, by simp, by omega, hIu⟩, by omega⟩
    · have hie : i = l.length := by omega
      subst hie
      obtain ⟨D, τ, hfz, hO, s', hB, hR'⟩ := (hI _ _).1 hIi
      rw [pre_all] at hR'
      simp [hil]
      exact hK _ _ _ τ _ hfz (.refl _) (hk τ ⟨s', ⟨rv, vv, hv, hB, fun i hi => ⟨(hF i hi).1, foot_lt hB hi⟩⟩, hR'⟩ hO)
end Go.Abs.Bas
