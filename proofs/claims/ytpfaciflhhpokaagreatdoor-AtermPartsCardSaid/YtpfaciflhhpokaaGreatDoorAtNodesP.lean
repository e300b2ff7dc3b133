/-
  AtermNodes: the law.
-/
import Derived.Test.YtpfaciflhhpokaaGreatDoorAtO
import Derived.Test.YtpfaciflhhpokaaGreatDoorAtEraseP
set_option linter.unusedVariables false
set_option linter.unusedSimpArgs false
namespace Go.Abs.At
open Go Go.Abs Go.Proofs.AtD
attribute [local simp] Nat.add_assoc

def mayM (t : AT) : Bool := decide (t.size ≤ 40000) && t.all.all nodeM
mutual
theorem AT.Ok_all' : ∀ (t : AT), t.small → t.size ≤ 400 → ∀ x ∈ t.all, x.Ok
  | .mk h r rs e t s ks, hs, hb, x, hx => by
    simp only [AT.all, List.mem_cons] at hx
    rcases hx with rfl | hx
    · exact ⟨hs, hb⟩
    · simp only [AT.small] at hs
      simp only [AT.size] at hb
      exact AT.Ok_alls ks hs.2.2.2.2.2 (by omega) x hx
theorem AT.Ok_alls : ∀ (l : List AT), AT.smalls l → AT.sizes l ≤ 400 → ∀ x ∈ AT.alls l, x.Ok
  | [], _, _, x, hx => by simp [AT.alls] at hx
  | t :: ts, hs, hb, x, hx => by
    simp only [AT.alls, List.mem_append] at hx
    simp only [AT.smalls] at hs
    simp only [AT.sizes] at hb
    rcases hx with hx | hx
    · exact AT.Ok_all' t hs.1 (by omega) x hx
    · exact AT.Ok_alls ts hs.2 (by omega) x hx
end
theorem AT.Ok.all {t : AT} (h : t.Ok) : ∀ x ∈ t.all, x.Ok := AT.Ok_all' t h.small h.size

theorem may_ref {t : AT} (hok : t.Ok) {σ : AHeap} {k kp : AV → AHeap → Prop} (hk : k (bool (mayM t)) σ) : Ev PR 12 [t.v] σ k kp := by
  refine Ev.pureD hk ((Dat.val _).low _) fun k' hk' => ?_
  apply F12_ev; unfold F12
  have hsz := hok.size
  have hal := t.all_len
  have hlen : ∀ ω, aLenK .slice (AT.vs t.all) ω = some (int t.all.length) := fun ω => by simp
  simp [get_new]
  refine all_ref _ t (Nat.le_refl _) (by omega) _ _ _ ?_
  have h0 : ¬ (40000 : Int) < t.all.length := by omega
  simp [hlen, h0]
  refine seqW_in ?_
  have fin : ∀ v, t.all.all nodeM = v → k' (bool v) (σ.new (.cells 19 [t.av])) := fun v h => by
    have := hk' _ (Grows.new σ (.cells 19 [t.av]))
    have h1 : t.size ≤ 40000 := by omega
    simp only [mayM, h1, h, decide_true, Bool.true_and] at this
    exact this
  refine loopW_by (fun j : Nat => [(3, AT.vs t.all), (11, int t.all.length), (12, int j)]) (fun j φ => φ = σ.new (.cells 19 [t.av]) ∧ j ≤ t.all.length ∧ ∀ x ∈ t.all.take j, nodeM x = true) (fun fr _ => t.all.length - (intOf (look fr 12)).toNat) 0 (by simp) ⟨rfl, by simp, by simp⟩ ?_
  rintro j φ ⟨rfl, hj, hall⟩
  simp
  by_cases hjl : j < t.all.length
  · obtain ⟨c, hc⟩ := get_some hjl
    have hcm := List.mem_of_getElem? hc
    have hix : ∀ ω, aIndexAddr 19 (AT.vs t.all) (int j) ω = some (.ref c.av) := fun ω => by rw [aIndexAddr_sl]; simp [AT.avs_get hc]
    simp [hjl, hix]
    refine node_ref (hok.all c hcm) ?_
    cases hcv : nodeM c
    · simp
      refine fin false ?_
      cases hh : t.all.all nodeM
      · rfl
      · have := List.all_eq_true.1 hh c hcm
        rw [hcv] at this; cases this
    · simp
      rw [wrap64 (by omega)]
      refine ⟨⟨j + 1, by simp, by omega, fun x hx => ?_⟩, by omega⟩
      rw [List.take_add_one, hc] at hx
      rcases List.mem_append.1 hx with h | h
      · exact hall x h
      · simp at h; subst h; exact hcv
  · have htk : t.all.take j = t.all := List.take_of_length_le (by omega)
    rw [htk] at hall
    simp [hjl]
    exact fin true (List.all_eq_true.2 hall)

def tMayM (t : T) : Bool := decide (t.size ≤ 4000) && t.all.all fun x => tnodeM x.h x.kids.length
mutual
theorem T.all_le' : ∀ (t x : T), x ∈ t.all → x.size ≤ t.size
  | .mk h ks, x, hx => by
    simp only [T.all, List.mem_cons] at hx
    rcases hx with rfl | hx
    · exact Nat.le_refl _
    · have := T.alls_le' ks x hx
      simp [T.size]; omega
theorem T.alls_le' : ∀ (l : List T) (x : T), x ∈ T.alls l → x.size ≤ T.sizes l
  | [], x, hx => by simp [T.alls] at hx
  | t :: ts, x, hx => by
    simp only [T.alls, List.mem_append] at hx
    rcases hx with hx | hx
    · have := T.all_le' t x hx
      simp [T.sizes]; omega
    · have := T.alls_le' ts x hx
      simp [T.sizes]; omega
end
theorem tmay_ref {t : T} (hb : t.size ≤ 4000) {σ : AHeap} {k kp : AV → AHeap → Prop} (hk : k (bool (tMayM t)) σ) : Ev PR 18 [t.v] σ k kp := by
  refine Ev.pureD hk ((Dat.val _).low _) fun k' hk' => ?_
  apply F18_ev; unfold F18
  have hal := t.all_len
  have hlen : ∀ ω, aLenK .slice (T.vs t.all) ω = some (int t.all.length) := fun ω => by simp
  simp [get_new]
  refine all_ev _ t (Nat.le_refl _) (by omega) _ _ _ ?_
  have h0 : ¬ (4000 : Int) < t.all.length := by omega
  simp [hlen, h0]
  refine seqW_in ?_
  have fin : ∀ v, (t.all.all fun x => tnodeM x.h x.kids.length) = v → k' (bool v) (σ.new (.cells 8 [t.av])) := fun v h => by
    have := hk' _ (Grows.new σ (.cells 8 [t.av]))
    simp only [tMayM, hb, h, decide_true, Bool.true_and] at this
    exact this
  refine loopW_by (fun j : Nat => [(3, T.vs t.all), (11, int t.all.length), (12, int j)]) (fun j φ => φ = σ.new (.cells 8 [t.av]) ∧ j ≤ t.all.length ∧ ∀ x ∈ t.all.take j, tnodeM x.h x.kids.length = true) (fun fr _ => t.all.length - (intOf (look fr 12)).toNat) 0 (by simp) ⟨rfl, by simp, by simp⟩ ?_
  rintro j φ ⟨rfl, hj, hall⟩
  simp
  by_cases hjl : j < t.all.length
  · obtain ⟨c, hc⟩ := get_some hjl
    have hcm := List.mem_of_getElem? hc
    have hix : ∀ ω, aIndexAddr 8 (T.vs t.all) (int j) ω = some (.ref c.av) := fun ω => by rw [aIndexAddr_sl]; simp [T.avs_get hc]
    simp [hjl, hix]
    refine tnode_ref (by have := T.all_le' t c hcm; omega) ?_
    cases hcv : tnodeM c.h c.kids.length
    · simp
      refine fin false ?_
      cases hh : (t.all.all fun x => tnodeM x.h x.kids.length)
      · rfl
      · have := List.all_eq_true.1 hh c hcm
        rw [hcv] at this; cases this
    · simp
      rw [wrap64 (by omega)]
      refine ⟨⟨j + 1, by simp, by omega, fun x hx => ?_⟩, by omega⟩
      rw [List.take_add_one, hc] at hx
      rcases List.mem_append.1 hx with h | h
      · exact hall x h
      · simp at h; subst h; exact hcv
  · have htk : t.all.take j = t.all := List.take_of_length_le (by omega)
    rw [htk] at hall
    simp [hjl]
    exact fin true (List.all_eq_true.2 hall)

/-! ### The plain law -/
theorem headM_18 {t : AT} (h : headM t = true) (hk : t.h.kind = 18) : t.kids = [] ∧ tnodeM (eraseHead t.h) 0 = true := by
  simp only [headM, hk] at h
  simp [bareM] at h
  obtain ⟨⟨⟨⟨⟨⟨h1, h2⟩, h3⟩, h4⟩, h5⟩, h6⟩, h7⟩ := h
  refine ⟨h7, ?_⟩
  simp [tnodeM, eraseHead, hk, kidsM, fitM, h1, h2, h3, h4, h5, h6]
theorem headM_17 {t : AT} (h : headM t = true) (hk : t.h.kind = 17) : ∃ k, t.kids = [k] := by
  simp only [headM, hk, if_true, Bool.and_eq_true, decide_eq_true_eq] at h
  exact List.length_eq_one_iff.1 h.2
theorem kidsM_le (k : Int) : kidsM k ≤ 3 := by
  unfold kidsM
  repeat' split
  all_goals omega
theorem headM_else {t : AT} (h : headM t = true) (h17 : t.h.kind ≠ 17) (h18 : t.h.kind ≠ 18) : eraseHead t.h = t.h ∧ tnodeM t.h t.kids.length = true := by
  simp only [headM, h17, h18, if_false] at h
  refine ⟨by simp [eraseHead, h18], ?_⟩
  have h' := h
  simp only [tnodeM, Bool.and_eq_true, decide_eq_true_eq] at h'
  have := kidsM_le t.h.kind
  have e : min t.kids.length 4 = t.kids.length := by omega
  rw [e] at h; exact h
def notRegion (l : List AT) : Nat := (l.filter fun x => !decide (x.h.kind = 17)).length
theorem notRegion_append (l m : List AT) : notRegion (l ++ m) = notRegion l + notRegion m := by simp [notRegion]
theorem erase_all : ∀ (N : Nat) (t : AT), t.size ≤ N → (∀ x ∈ t.all, nodeM x = true) → (erase t).size = notRegion t.all ∧ ∀ y ∈ (erase t).all, tnodeM y.h y.kids.length = true := by
  intro N
  induction N with
  | zero => intro t h; have := t.size_pos; omega
  | succ N ih =>
    intro t hN hall
    have hself : nodeM t = true := hall t (by rw [AT.all_eq]; simp)
    have hh : headM t = true := by simp only [nodeM, Bool.and_eq_true] at hself; exact hself.1.1.1.1.1.1.1.1
    have hkids : ∀ k ∈ t.kids, (erase k).size = notRegion k.all ∧ ∀ y ∈ (erase k).all, tnodeM y.h y.kids.length = true := fun k hk => by
      refine ih k (by have := AT.kids_lt hk; omega) fun x hx => hall x ?_
      rw [AT.all_eq]
      refine List.mem_cons_of_mem _ ?_
      obtain ⟨i, hi⟩ := List.getElem?_of_mem hk
      obtain ⟨m, hm⟩ := List.getElem?_of_mem hx
      exact List.mem_of_getElem? (AT.alls_at hi hm)
    by_cases h17 : t.h.kind = 17
    · obtain ⟨k, hk⟩ := headM_17 hh h17
      rw [erase_region h17 hk, AT.all_eq, hk]
      have := hkids k (by rw [hk]; simp)
      refine ⟨?_, this.2⟩
      rw [this.1]
      simp [AT.alls, notRegion, h17]
    · have he := erase_node (t := t) (fun h => h17 h.1)
      have hks : ∀ l : List AT, (∀ k ∈ l, (erase k).size = notRegion k.all ∧ ∀ y ∈ (erase k).all, tnodeM y.h y.kids.length = true) → T.sizes (eraseKids l) = notRegion (AT.alls l) ∧ ∀ y ∈ T.alls (eraseKids l), tnodeM y.h y.kids.length = true := by
        intro l
        induction l with
        | nil => intro _; exact ⟨rfl, by simp [eraseKids, T.alls]⟩
        | cons a l ihl =>
          intro h
          obtain ⟨a1, a2⟩ := h a (by simp)
          obtain ⟨b1, b2⟩ := ihl fun k hk => h k (by simp [hk])
          refine ⟨by simp only [eraseKids, T.sizes, AT.alls, notRegion_append]; omega, fun y hy => ?_⟩
          simp only [eraseKids, T.alls, List.mem_append] at hy
          rcases hy with hy | hy
          · exact a2 y hy
          · exact b2 y hy
      obtain ⟨c1, c2⟩ := hks t.kids hkids
      have hlen : (eraseKids t.kids).length = t.kids.length := by rw [eraseKids_map]; simp
      rw [he]
      refine ⟨?_, fun y hy => ?_⟩
      · rw [AT.all_eq]
        simp only [T.size, c1]
        simp [notRegion, h17]; omega
      · simp only [T.all, List.mem_cons] at hy
        rcases hy with rfl | hy
        · simp only [T.h, T.kids, hlen]
          by_cases h18 : t.h.kind = 18
          · obtain ⟨d1, d2⟩ := headM_18 hh h18
            rw [d1]; exact d2
          · obtain ⟨d1, d2⟩ := headM_else hh h17 h18
            rw [d1]; exact d2
        · exact c2 y hy

theorem law_nodes {t : AT} (hfit : t.fit) {σ : AHeap} {k kp : AV → AHeap → Prop} (hk : k (bool true) σ) : Ev PR 5 [t.v] σ k kp := by
  refine Ev.pureD hk ((Dat.val _).low _) fun k' hk' => ?_
  apply F5_ev; unfold F5
  have fin : ∀ τ, Grows σ τ → k' (bool true) τ := hk'
  simp [get_new]
  have hG : Grows σ (σ.new (.cells 19 [t.av])) := Grows.new _ _
  have g0 : (σ.new (.cells 19 [t.av])).get σ.next = some (.cells 19 [t.av]) := by simp [get_new]
  have hn : (σ.new (.cells 19 [t.av])).next = σ.next + 1 := rfl
  generalize σ.new (.cells 19 [t.av]) = τ at hG g0 hn
  refine great_ev hfit fun b hb => ?_
  cases b with
  | true =>
    simp
    refine awake_ev ?_
    exact fin _ hG
  | false =>
    obtain ⟨hsz, hsm⟩ := hb rfl
    have hok : t.Ok := ⟨hsm, hsz⟩
    have hal := t.all_len
    have hes := erase_size t
    simp [g0]
    refine may_ref hok ?_
    cases hm : mayM t
    · simp
      refine awake_ev ?_
      exact fin _ hG
    · obtain ⟨e1, e2⟩ := erase_all _ t (Nat.le_refl _) (fun x hx => by
        simp only [mayM, Bool.and_eq_true] at hm
        exact List.all_eq_true.1 hm.2 x hx)
      simp [g0]
      refine all_ref _ t (Nat.le_refl _) (by omega) _ _ _ ?_
      refine seqW_by (fun fr υ => fr = [(1, .ptr σ.next 0 0), (4, int (notRegion t.all))] ∧ υ = τ) ?_ ?_
      · refine loopW_by (fun j : Nat => [(1, .ptr σ.next 0 0), (3, AT.vs t.all), (4, int (notRegion (t.all.take j))), (5, int j)]) (fun j φ => φ = τ ∧ j ≤ t.all.length) (fun fr _ => t.all.length - (intOf (look fr 5)).toNat) 0 (by simp [notRegion]) ⟨rfl, by simp⟩ ?_
        rintro j φ ⟨rfl, hj⟩
        have hlen : ∀ ω, aLenK .slice (AT.vs t.all) ω = some (int t.all.length) := fun ω => by simp
        simp [hlen]
        by_cases hjl : j < t.all.length
        · obtain ⟨c, hc⟩ := get_some hjl
          have hix : ∀ ω, aIndexAddr 19 (AT.vs t.all) (int j) ω = some (.ref c.av) := fun ω => by rw [aIndexAddr_sl]; simp [AT.avs_get hc]
          have hnr : notRegion (t.all.take j) ≤ j := by
            have := List.length_filter_le (fun x : AT => !decide (x.h.kind = 17)) (t.all.take j)
            simp only [List.length_take] at this
            unfold notRegion; omega
          have hst : notRegion (t.all.take (j + 1)) = notRegion (t.all.take j) + if c.h.kind = 17 then 0 else 1 := by
            rw [List.take_add_one, hc, notRegion_append]
            by_cases h17 : c.h.kind = 17 <;> simp [notRegion, h17]
          simp [hjl, hix]
          refine seqW_in ?_
          by_cases h17 : c.h.kind = 17
          · simp [h17]
            rw [wrap64 (by omega)]
            exact ⟨⟨j + 1, ⟨by rw [hst]; simp [h17], by simp⟩, by omega⟩, by omega⟩
          · simp [h17]
            rw [wrap64 (by omega), wrap64 (by omega)]
            exact ⟨⟨j + 1, ⟨by rw [hst]; simp [h17], by simp⟩, by omega⟩, by omega⟩
        · have htk : t.all.take j = t.all := List.take_of_length_le (by omega)
          simp [hjl, htk]
      · rintro fr υ ⟨rfl, rfl⟩
        simp [g0]
        refine erase_ev _ t (Nat.le_refl _) (by omega) _ _ _ ?_
        simp [get_new, get_set]
        generalize hω : AHeap.set _ _ _ = ω
        have w0 : ω.get υ.next = some (.cells 8 [(erase t).av]) := by rw [← hω]; simp [get_set]
        have wG : Grows σ ω := by rw [← hω]; exact (hG.trans (Grows.new _ _)).set (by omega) _
        clear hω
        refine all_ev _ (erase t) (Nat.le_refl _) (by omega) _ _ _ ?_
        have hel : ((erase t).all.length : Int) = notRegion t.all := by rw [T.all_len, e1]
        have h4 : ((notRegion t.all : Nat) : Int) ≤ 4000 := by omega
        simp [hel, w0, h4]
        refine tmay_ref (by omega) ?_
        have : tMayM (erase t) = true := by
          have : (erase t).size ≤ 4000 := by omega
          simp only [tMayM, this, decide_true, Bool.true_and]
          exact List.all_eq_true.2 e2
        simp [this]
        refine awake_ev ?_
        exact fin _ wG
end Go.Abs.At
