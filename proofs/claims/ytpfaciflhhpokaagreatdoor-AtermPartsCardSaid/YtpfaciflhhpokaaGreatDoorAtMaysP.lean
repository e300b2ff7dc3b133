/-
  AtermMays and AtermParts: the laws.
-/
import Derived.Test.YtpfaciflhhpokaaGreatDoorAtPN
import Derived.Test.YtpfaciflhhpokaaGreatDoorAtBindsP
set_option linter.unusedVariables false
set_option linter.unusedSimpArgs false
namespace Go.Abs.At
open Go Go.Abs Go.Proofs.AtD
attribute [local simp] Nat.add_assoc

def AT.Kinds (t : AT) : Prop := ∀ x ∈ t.all, Byte x.h.kind
theorem AT.Kinds.kid {t c : AT} (h : t.Kinds) (hc : c ∈ t.kids) : c.Kinds := fun x hx => h x (by
  rw [AT.all_eq]
  refine List.mem_cons_of_mem _ ?_
  obtain ⟨i, hi⟩ := List.getElem?_of_mem hc
  obtain ⟨m, hm⟩ := List.getElem?_of_mem hx
  exact List.mem_of_getElem? (AT.alls_at hi hm))
theorem mayP_ev (once : OnceGood) {t : AT} (hok : t.Ok) (hkd : t.Kinds) {σ : AHeap} {k kp : AV → AHeap → Prop} (hk : k (bool (mayM t)) σ) : Ev PR 11 [t.v] σ k kp := by
  refine Ev.pureD hk ((Dat.val _).low _) fun k' hk' => ?_
  apply F11_ev; unfold F11
  have hsz := hok.size
  simp
  refine Ev.weak (.cons (AT.clip1 t) .nil) ?_
  have e1 : AT.sizes [t] = t.size := by simp [AT.sizes]
  have e3 : AT.alls [t] = t.all := by simp [AT.alls]
  refine sizes_ev (by omega) ?_
  have h1 : (AT.sizes [t] : Int) ≤ 40000 := by omega
  have h1' : t.size ≤ 40000 := by omega
  simp [h1]
  refine Ev.weak (.cons (.refl _) (.cons (AT.clip1 t) .nil)) ?_
  refine each_ev 30 [] 0 (fun τ => Grows σ τ ∧ t.all.all nodeM = false) _ [t] (Nat.le_refl _) (by omega) (fun i φ => Grows σ φ ∧ ∀ x ∈ t.all.take i, nodeM x = true) ?_ ?_ _ _ _ (Nat.zero_le _) ⟨Grows.new _ _, by simp⟩ ?_ ?_
  · rintro i φ ψ ⟨h1, h2⟩ h3
    exact ⟨h1.trans h3, h2⟩
  · rintro i x hi φ q qp _ ⟨h1, h2⟩ hT hF
    rw [e3] at hi
    have hx := List.mem_of_getElem? hi
    refine nodeP_ev once (hok.all x hx) (hkd x hx) ?_
    cases hc : nodeM x
    · refine hF φ (Up.refl _ _ _) ⟨h1, ?_⟩
      cases hh : t.all.all nodeM
      · rfl
      · have := List.all_eq_true.1 hh x hx
        rw [hc] at this; cases this
    · refine hT φ (Up.refl _ _ _) ⟨h1, fun y hy => ?_⟩
      rw [List.take_add_one, hi] at hy
      rcases List.mem_append.1 hy with h | h
      · exact h2 y h
      · simp at h; subst h; exact hc
  · rintro τ hu ⟨h1, h2⟩
    rw [e1, List.take_of_length_le (by have := t.all_len; omega)] at h2
    have := hk' _ h1
    simp only [mayM, h1', decide_true, Bool.true_and, List.all_eq_true.2 h2] at this
    simpa using this
  · rintro τ hu ⟨h1, h2⟩
    have := hk' _ h1
    simp only [mayM, h1', decide_true, Bool.true_and, h2] at this
    simpa using this
theorem law_mays (once : OnceGood) {t : AT} (hfit : t.fit) (hkd : t.Kinds) {σ : AHeap} {k kp : AV → AHeap → Prop} (hk : k (bool true) σ) : Ev PR 3 [t.v] σ k kp := by
  refine Ev.pureD hk ((Dat.val _).low _) fun k' hk' => ?_
  apply F3_ev; unfold F3
  have hG : Grows σ (σ.new (.cells 19 [t.av])) := Grows.new _ _
  have g0 : (σ.new (.cells 19 [t.av])).get σ.next = some (.cells 19 [t.av]) := by simp [get_new]
  simp [get_new]
  generalize σ.new (.cells 19 [t.av]) = τ at hG g0
  refine great_ev hfit fun b hb => ?_
  cases b with
  | true =>
    simp
    refine awake_ev ?_
    exact hk' _ hG
  | false =>
    obtain ⟨hsz, hsm⟩ := hb rfl
    have hok : t.Ok := ⟨hsm, hsz⟩
    simp [g0]
    refine mayP_ev once hok hkd ?_
    refine ⟨by simp [g0], ?_⟩
    refine may_ref hok ?_
    simp
    refine awake_ev ?_
    exact hk' _ hG
theorem mayM_kid {t c : AT} (h : mayM t = true) (hc : c ∈ t.kids) : mayM c = true := by
  simp only [mayM, Bool.and_eq_true, decide_eq_true_eq, List.all_eq_true] at h ⊢
  refine ⟨by have := AT.kids_lt hc; omega, fun x hx => h.2 x ?_⟩
  rw [AT.all_eq]
  refine List.mem_cons_of_mem _ ?_
  obtain ⟨i, hi⟩ := List.getElem?_of_mem hc
  obtain ⟨m, hm⟩ := List.getElem?_of_mem hx
  exact List.mem_of_getElem? (AT.alls_at hi hm)
theorem aAppend_empty {σ sz by' y ys} (hy : Rows σ sz y ys) (hb : ys.length * by' ≤ 140737488355328 ∧ ys.length ≤ 140737488355328) :
    aAppend sz by' (.sl true sz []) y σ = some (.own σ.next ys.length, σ.new (.cells sz ys)) := by
  unfold aAppend
  rw [hy.elsOf]
  simp [elsOf, hb.1, hb.2]
theorem law_parts (once : OnceGood) {t : AT} (hfit : t.fit) (hkd : t.Kinds) {σ : AHeap} {k kp : AV → AHeap → Prop} (hk : k (bool true) σ) : Ev PR 6 [t.v] σ k kp := by
  refine Ev.pureD hk ((Dat.val _).low _) fun k' hk' => ?_
  apply F6_ev; unfold F6
  have hG : Grows σ (σ.new (.cells 19 [t.av])) := Grows.new _ _
  have g0 : (σ.new (.cells 19 [t.av])).get σ.next = some (.cells 19 [t.av]) := by simp [get_new]
  have hn : (σ.new (.cells 19 [t.av])).next = σ.next + 1 := rfl
  simp [get_new]
  generalize σ.new (.cells 19 [t.av]) = τ at hG g0 hn
  refine great_ev hfit fun b hb => ?_
  cases b with
  | true =>
    simp
    refine awake_ev ?_
    exact hk' _ hG
  | false =>
    obtain ⟨hsz, hsm⟩ := hb rfl
    have hok : t.Ok := ⟨hsm, hsz⟩
    have hse := t.size_eq
    have hks : AT.sizes t.kids < 400 := by omega
    have hkl := t.kids_len
    have ho1 : (own t).length ≤ 50 := own_len hok.rhos50
    have hsk : AT.smalls t.kids := by
      obtain ⟨a, b, c, d, e, f, g⟩ := t
      simp only [AT.small] at hsm
      exact hsm.2.2.2.2.2
    have ho2 : (ownAll (AT.alls t.kids)).length ≤ 20000 := by
      have := ownAll_len (l := AT.alls t.kids) fun x hx => own_len (AT.smalls_all t.kids hsk x hx)
      rw [AT.alls_len] at this
      omega
    simp [g0]
    refine own_ref ?_
    refine ⟨by simp [g0], ?_⟩
    refine stepK_of (aAppend_empty (by' := 8) (.inr (.inl ⟨false, rfl⟩)) (by simp; omega)) ?_
    have q1 : Kid τ.next 0 1 (τ.new (.cells 1 ((own t).map fun r => [int r]))) (.own τ.next (own t).length) ((own t).map fun r => [int r]) :=
      .inr ⟨τ.next, [], by simp, by simp [get_new], by omega, by simp⟩
    have q2 : Grows τ (τ.new (.cells 1 ((own t).map fun r => [int r]))) := Grows.new _ _
    have q3 : (τ.new (.cells 1 ((own t).map fun r => [int r]))).next = τ.next + 1 := rfl
    simp only [List.length_map]
    generalize τ.new (.cells 1 ((own t).map fun r => [int r])) = τ1 at q1 q2 q3
    generalize AV.own τ.next (own t).length = x at q1
    have g1 : τ1.get σ.next = some (.cells 19 [t.av]) := by rw [q2.get _ (by omega)]; exact g0
    refine ⟨by simp [g1], ?_⟩
    refine binds_ev (by omega) (by omega) ?_
    refine stepK_of (aAppend_rows (by' := 8) q1.rows q1.ns (.inr (.inl ⟨false, rfl⟩)) (by simp; omega)) ?_
    obtain ⟨p1, p2, p3⟩ := q1.app (by omega) ((ownAll (AT.alls t.kids)).map fun r => [int r])
    simp only [List.length_map] at p1 ⊢
    generalize (gone x τ1).new (.cells 1 (((own t).map fun r => [int r]) ++ (ownAll (AT.alls t.kids)).map fun r => [int r])) = φ at p1 p2 p3
    generalize AV.own τ1.next ((own t).length + (ownAll (AT.alls t.kids)).length) = y at p1
    have gφ : φ.get σ.next = some (.cells 19 [t.av]) := by rw [p2 _ (by omega)]; exact g1
    have hGφ : Grows σ φ := ⟨by have := hG.next; omega, fun j hj => by rw [p2 j (by omega), q2.get j (by omega)]; exact hG.get j hj⟩
    have hlen : ∀ ω, aLenK .slice (AT.vs t.kids) ω = some (int t.kids.length) := fun ω => by simp
    refine seqW_by (fun fr υ => fr = [(1, .ptr σ.next 0 0), (3, y)] ∧ υ = φ) ?_ ?_
    · refine loopW_by (fun j : Nat => [(1, .ptr σ.next 0 0), (3, y), (4, int j)]) (fun j ω => ω = φ ∧ j ≤ t.kids.length) (fun fr _ => t.kids.length - (intOf (look fr 4)).toNat) 0 (by simp) ⟨rfl, by simp⟩ ?_
      rintro j ω ⟨rfl, hj⟩
      simp [gφ, hlen]
      by_cases hjl : j < t.kids.length
      · obtain ⟨c, hc⟩ := get_some hjl
        have hcm := List.mem_of_getElem? hc
        have hix : ∀ ω, aIndexAddr 19 (AT.vs t.kids) (int j) ω = some (.ref c.av) := fun ω => by rw [aIndexAddr_sl]; simp [AT.avs_get hc]
        simp [hjl, gφ, hix]
        refine mayP_ev once hok hkd ?_
        cases hm : mayM t
        · simp
          rw [wrap64 (by omega)]
          exact ⟨⟨j + 1, by simp, by omega⟩, by omega⟩
        · simp [gφ, hix]
          refine mayP_ev once (hok.kid hcm) (hkd.kid hcm) ?_
          rw [mayM_kid hm hcm]
          simp
          rw [wrap64 (by omega)]
          exact ⟨⟨j + 1, by simp, by omega⟩, by omega⟩
      · simp [hjl]
    · rintro fr υ ⟨rfl, rfl⟩
      simp [gφ]
      refine Ev.weak (.cons (AT.clip1 t) .nil) ?_
      refine sizes_ev (by simp [AT.sizes]; omega) ?_
      refine ⟨by simp [gφ], ?_⟩
      refine sizes_ev (by omega) ?_
      have es : AT.sizes [t] = t.size := by simp [AT.sizes]
      have eo : ownAll (AT.alls [t]) = own t ++ ownAll (AT.alls t.kids) := by
        have : AT.alls [t] = t.all := by simp [AT.alls]
        rw [this, AT.all_eq]; simp [ownAll]
      have hw : IntKind.i64.wrap (1 + (AT.sizes t.kids : Int)) = t.size := by rw [wrap64 (by omega)]; omega
      simp [es, gφ, hw]
      refine Ev.weak (.cons (AT.clip1 t) .nil) ?_
      refine binds_ev (by simp [AT.sizes]; omega) (by rw [eo, List.length_append]; omega) ?_
      refine equalInts_ev (by rw [eo, List.length_append]; omega) (by rw [List.length_append]; omega) (.inr (.inl ⟨false, rfl⟩)) ?_ ?_ (m := own t ++ ownAll (AT.alls t.kids))
      · rw [List.map_append]; exact p1.rows
      · rw [eo]
        simp
        refine awake_ev ?_
        exact hk' _ hGφ
end Go.Abs.At
namespace Go.Abs.At
open Go Go.Abs Go.Proofs.AtD

theorem wf_u8 {n : Int} (h : (Lit.int .u8 n).wf = true) : Byte n := by
  simp only [Lit.wf, Bool.and_eq_true, decide_eq_true_eq] at h
  exact ⟨by have := h.1; simpa [IntKind.min, IntKind.signed] using this, by have := h.2; simpa [IntKind.max, IntKind.signed, IntKind.bits] using this⟩
theorem Tys.kinds {P : Program} {tU tI tH tAtom tRT tAT sI sAtom sRT sAT : TypeId} (T : Tys P tU tI tH tAtom tRT tAT sI sAtom sRT sAT) : ∀ (N : Nat) (t : AT), t.size ≤ N → DV P tAT t.av → t.Kinds := by
  intro N
  induction N with
  | zero => intro t h; have := t.size_pos; omega
  | succ N ih =>
    intro t hN h x hx
    have hf := h.fields T.at'
    obtain ⟨_, _, e0, ⟨h1, rfl, w1⟩, _⟩ := flat_spec 9 tH _ _ T.h (hf (tH, 0, 7) (by simp))
    obtain ⟨xs, e6, hxl, hx6⟩ := (hf (sAT, 18, 1) (by simp)).slice_inv T.uSAT
    obtain ⟨hd, r, rs, e, ty, re, ks⟩ := t
    rw [AT.all_eq] at hx
    rcases List.mem_cons.1 hx with rfl | hx
    · simp [AT.av, Head.av] at e0
      have : hd.kind = h1 := by simpa using e0.1
      show Byte hd.kind
      rw [this]; exact wf_u8 w1
    · have e7 : xs = AT.avs ks := by
        obtain ⟨k1, r1, f1, s1⟩ := ty
        obtain ⟨k2, r2, f2, s2⟩ := re
        simp [AT.av, Head.av, RT.av] at e6
        exact e6.2.symm
      have hsz := AT.size_eq (.mk hd r rs e ty re ks)
      have : ∀ c ∈ ks, c.Kinds := fun c hc => ih c (by have := AT.kids_lt (t := .mk hd r rs e ty re ks) hc; omega) ((hx6 c.av (by rw [e7, AT.avs_map]; exact List.mem_map_of_mem hc)).1)
      have hg : ∀ l : List AT, (∀ c ∈ l, c.Kinds) → x ∈ AT.alls l → Byte x.h.kind := by
        intro l
        induction l with
        | nil => intro _ h; simp [AT.alls] at h
        | cons c l ihl =>
          intro hl hm
          simp only [AT.alls, List.mem_append] at hm
          rcases hm with hm | hm
          · exact hl c (by simp) x hm
          · exact ihl (fun c' hc' => hl c' (by simp [hc'])) hm
      exact hg ks this hx
end Go.Abs.At
