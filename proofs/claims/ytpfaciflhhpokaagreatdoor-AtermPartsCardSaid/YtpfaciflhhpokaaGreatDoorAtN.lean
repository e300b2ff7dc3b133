/-
  What may be: the document's answer.
-/
import Derived.Test.YtpfaciflhhpokaaGreatDoorAtermDecN
import Derived.Test.YtpfaciflhhpokaaGreatDoorAtZ
set_option linter.unusedVariables false
set_option linter.unusedSimpArgs false
namespace Go.Abs.At
open Go Go.Abs Go.Proofs.AtD
attribute [local simp] Nat.add_assoc

/-! ### Kinds -/
def kidsM (k : Int) : Int :=
  if k = 1 ∨ k = 2 then 0
  else if k = 4 ∨ k = 5 ∨ k = 6 ∨ k = 7 ∨ k = 11 ∨ k = 15 then 1
  else if k = 3 ∨ k = 8 ∨ k = 9 ∨ k = 10 ∨ k = 12 ∨ k = 13 ∨ k = 16 then 2
  else if k = 14 then 3 else -1
theorem kids_ref {n : Int} {σ : AHeap} {k kp : AV → AHeap → Prop} (hk : k (int (kidsM n)) σ) : Ev PR 58 [u8 n] σ k kp := by
  apply F58_ev; unfold F58
  have fin : ∀ v, kidsM n = v → k (int v) σ := fun v h => by rw [← h]; exact hk
  refine seqW_by (fun fr υ => fr = [(3, u8 n), (4, bool (decide (n = 1 ∨ n = 2)))] ∧ υ = σ) ?_ ?_
  · by_cases h1 : n = 1
    · subst h1; simp
    · by_cases h2 : n = 2
      · subst h2; simp
      · simp [h1, h2]
  · rintro fr υ ⟨rfl, rfl⟩
    by_cases h1 : n = 1 ∨ n = 2
    · simp [h1]
      exact fin _ (by simp [kidsM, h1])
    simp [h1]
    refine seqW_by (fun fr φ => fr = [(3, u8 n), (7, bool (decide (n = 4 ∨ n = 5 ∨ n = 6 ∨ n = 7 ∨ n = 11 ∨ n = 15)))] ∧ φ = υ) ?_ ?_
    · by_cases a : n = 4 <;> by_cases b : n = 5 <;> by_cases c : n = 6 <;> by_cases d : n = 7 <;> by_cases e : n = 11 <;> by_cases f : n = 15 <;> first | (exfalso; omega) | simp [a, b, c, d, e, f]
    · rintro fr φ ⟨rfl, rfl⟩
      by_cases h2 : n = 4 ∨ n = 5 ∨ n = 6 ∨ n = 7 ∨ n = 11 ∨ n = 15
      · simp [h2]
        exact fin _ (by unfold kidsM; rw [if_neg h1, if_pos h2])
      simp [h2]
      refine seqW_by (fun fr ψ => fr = [(3, u8 n), (14, bool (decide (n = 3 ∨ n = 8 ∨ n = 9 ∨ n = 10 ∨ n = 12 ∨ n = 13 ∨ n = 16)))] ∧ ψ = φ) ?_ ?_
      · by_cases a : n = 3
        · subst a; simp
        by_cases b : n = 8
        · subst b; simp
        by_cases c : n = 9
        · subst c; simp
        by_cases d : n = 10
        · subst d; simp
        by_cases e : n = 12
        · subst e; simp
        by_cases f : n = 13
        · subst f; simp
        simp [a, b, c, d, e, f]
      · rintro fr ψ ⟨rfl, rfl⟩
        by_cases h3 : n = 3 ∨ n = 8 ∨ n = 9 ∨ n = 10 ∨ n = 12 ∨ n = 13 ∨ n = 16
        · simp [h3]
          exact fin _ (by unfold kidsM; rw [if_neg h1, if_neg h2, if_pos h3])
        simp [h3]
        by_cases h4 : n = 14
        · simp [h4]
          exact fin _ (by unfold kidsM; rw [if_neg h1, if_neg h2, if_neg h3, if_pos h4])
        · simp [h4]
          exact fin _ (by unfold kidsM; rw [if_neg h1, if_neg h2, if_neg h3, if_neg h4])

def fitM (there : Bool) (s : ByteArray) (ok : Bool) : Bool := if there = true then ok else decide (s = ByteArray.empty)
theorem fits_ref {b ok : Bool} {s : ByteArray} {σ : AHeap} {k kp : AV → AHeap → Prop} (hk : k (bool (fitM b s ok)) σ) : Ev PR 59 [bool b, str s, bool ok] σ k kp := by
  apply F59_ev; unfold F59
  cases b <;> cases ok <;> by_cases h : s = ByteArray.empty <;> simp [h, empty_eq] <;> simpa [fitM, h] using hk

/-! ### Names -/
def keysL : List ByteArray := [⟨#[108, 101, 116]⟩, ⟨#[108, 101, 116, 114, 101, 99]⟩, ⟨#[105, 110]⟩, ⟨#[102, 110]⟩, ⟨#[105, 102]⟩, ⟨#[116, 104, 101, 110]⟩, ⟨#[101, 108, 115, 101]⟩, ⟨#[114, 97, 105, 115, 101]⟩, ⟨#[116, 114, 121]⟩, ⟨#[119, 105, 116, 104]⟩, ⟨#[114, 101, 102]⟩, ⟨#[102, 115, 116]⟩, ⟨#[115, 110, 100]⟩, ⟨#[101, 120, 110]⟩]
def nameM (s : ByteArray) : Bool := shapeM s 3 && !keysL.any fun b => decide (b = s)
theorem keys_any (s : ByteArray) : (keysL.any fun b => decide (b = s)) = true ↔ s ∈ keysL := by simp
theorem keyword_ref {s : ByteArray} {σ : AHeap} {k kp : AV → AHeap → Prop} (hk : ∀ n : Int, (n = 0 ↔ s ∉ keysL) → k (int n) σ) : Ev PR 79 [str s] σ k kp := by
  refine Ev.pureE ?_
  apply F79_ev; unfold F79
  apply F99_ev; unfold F99
  refine stepP (x := .sl true 1 (keysL.map fun b => [str b])) rfl ?_
  refine seqW_in ?_
  have hlen : keysL.length = 14 := rfl
  simp [hlen]
  refine loopW_by (fun j : Nat => [(0, str s), (3, .sl true 1 (keysL.map fun b => [str b])), (7, int 14), (8, int j)]) (fun j φ => φ = σ ∧ j ≤ 14 ∧ s ∉ keysL.take j) (fun fr _ => 14 - (intOf (look fr 8)).toNat) 0 (by simp) ⟨rfl, by simp, by simp⟩ ?_
  rintro j φ ⟨rfl, hj, hne⟩
  simp
  by_cases hjl : j < 14
  · obtain ⟨t, ht⟩ := get_some (l := keysL) (i := j) (by omega)
    have hix : ∀ ω, aIndexAddr 1 (.sl true 1 (keysL.map fun b => [str b])) (int j) ω = some (.ref [str t]) := fun ω => by rw [aIndexAddr_sl]; simp [ht]
    have hjl' : (j : Int) < 14 := by omega
    simp [hjl', hix]
    by_cases hc : t = s
    · subst hc
      simp
      rw [wrap64 (by omega)]
      exact ⟨Grows.refl _, .val _, hk _ ⟨fun h => by omega, fun h => absurd (List.mem_of_getElem? ht) h⟩⟩
    · simp [hc]
      rw [wrap64 (by omega)]
      refine ⟨⟨j + 1, by simp, by omega, fun h => ?_⟩, by omega⟩
      rw [List.take_add_one, ht] at h
      rcases List.mem_append.1 h with h | h
      · exact hne h
      · simp at h; exact hc h.symm
  · have hall : keysL.take j = keysL := List.take_of_length_le (by omega)
    rw [hall] at hne
    have hjl' : ¬ (j : Int) < 14 := by omega
    simp [hjl']
    exact ⟨Grows.refl _, .val _, hk 0 ⟨fun _ => hne, fun _ => rfl⟩⟩
theorem name_ref {s : ByteArray} {σ : AHeap} {k kp : AV → AHeap → Prop} (hk : k (bool (nameM s)) σ) : Ev PR 60 [str s] σ k kp := by
  apply F60_ev; unfold F60
  have fin : ∀ v, nameM s = v → k (bool v) σ := fun v h => by rw [← h]; exact hk
  refine shape_ref ?_
  cases h : shapeM s 3
  · simp
    exact fin _ (by simp [nameM, h])
  · simp
    refine keyword_ref fun n hn => ?_
    by_cases h0 : n = 0
    · simp [h0]
      exact fin _ (by
        have : (keysL.any fun b => decide (b = s)) = false := Bool.eq_false_iff.2 fun hh => hn.1 h0 ((keys_any s).1 hh)
        simp only [nameM, h, this]; rfl)
    · have : s ∈ keysL := Classical.byContradiction fun hh => h0 (hn.2 hh)
      simp [h0]
      exact fin _ (by simp only [nameM, h, (keys_any s).2 this]; rfl)

/-! ### Effects -/
def strLt (a b : ByteArray) : Bool := match strBin .lss a b with | some (.bool t) => t | _ => false
theorem aBin_slt (a b : ByteArray) : aBin .lss .prim (str a) (str b) = some (bool (strLt a b)) := by
  rw [aBin_str]; simp [strBin, strLt]
def lessM (a b : Atom) : Bool := if a.kind = b.kind then if a.rho = b.rho then strLt a.exn b.exn else decide (a.rho < b.rho) else decide (a.kind < b.kind)
theorem less_ref {a b : Atom} {σ : AHeap} {k kp : AV → AHeap → Prop} (hk : k (bool (lessM a b)) σ) : Ev PR 77 [a.v, b.v] σ k kp := by
  refine Ev.pureD hk ((Dat.val _).low _) fun k' hk' => ?_
  apply F77_ev; unfold F77
  obtain ⟨kd, rho, exn⟩ := a
  obtain ⟨kd2, rho2, exn2⟩ := b
  simp [Atom.av]
  generalize hτ : AHeap.new _ _ = τ
  have g0 : τ.get σ.next = some (.cells 3 [[u8 kd, int rho, str exn]]) := by rw [← hτ]; simp [get_new]
  have g1 : τ.get (σ.next + 1) = some (.cells 3 [[u8 kd2, int rho2, str exn2]]) := by rw [← hτ]; simp [get_new]
  have hG : Grows σ τ := by rw [← hτ]; exact (Grows.new _ _).trans (Grows.new _ _)
  clear hτ
  have fin : ∀ v, lessM ⟨kd, rho, exn⟩ ⟨kd2, rho2, exn2⟩ = v → k' (bool v) τ := fun v h => by rw [← h]; exact hk' _ hG
  by_cases h1 : kd = kd2
  · by_cases h2 : rho = rho2
    · simp [g0, g1, h1, h2, aBin_slt]
      exact fin _ (by simp [lessM, h1, h2])
    · simp [g0, g1, h1, h2]
      exact fin _ (by simp [lessM, h1, h2])
  · simp [g0, g1, h1]
    exact fin _ (by simp [lessM, h1])

/-- The atom at a place may be, behind the one ahead of it. -/
def effAt (e : List Atom) (i : Nat) : Bool := match e[i]? with
  | none => true
  | some a => atomM a && match i with
    | 0 => true
    | i + 1 => match e[i]? with
      | none => true
      | some b => lessM b a
def effMayM (e : List Atom) : Bool := (List.range e.length).all (effAt e)
theorem effMayM_yes {e : List Atom} (h : ∀ i, i < e.length → effAt e i = true) : effMayM e = true := List.all_eq_true.2 fun i hi => h i (List.mem_range.1 hi)
theorem effMayM_no {e : List Atom} {i : Nat} (hi : i < e.length) (h : effAt e i = false) : effMayM e = false := by
  cases hh : effMayM e
  · rfl
  · have := List.all_eq_true.1 hh i (List.mem_range.2 hi)
    rw [h] at this; cases this
theorem effMay_ref {e : List Atom} (hb : e.length < 1000000000000) {σ : AHeap} {k kp : AV → AHeap → Prop} (hk : k (bool (effMayM e)) σ) : Ev PR 55 [effV e] σ k kp := by
  apply F55_ev; unfold F55
  have fin : ∀ v, effMayM e = v → k (bool v) σ := fun v h => by rw [← h]; exact hk
  have hlen : ∀ ω, aLenK .slice (effV e) ω = some (int e.length) := fun ω => by simp [effV]
  simp [hlen]
  refine seqW_in ?_
  refine loopW_by (fun j : Nat => [(0, effV e), (5, int e.length), (6, int j)]) (fun j φ => φ = σ ∧ j ≤ e.length ∧ ∀ i, i < j → effAt e i = true) (fun fr _ => e.length - (intOf (look fr 6)).toNat) 0 (by simp) ⟨rfl, by simp, by simp⟩ ?_
  rintro j φ ⟨rfl, hj, hall⟩
  simp
  by_cases hjl : j < e.length
  · obtain ⟨a, ha⟩ := get_some hjl
    simp [hjl, eff_at ha, Atom.take3]
    refine atom_ref ?_
    cases h1 : atomM a
    · simp
      exact fin _ (effMayM_no hjl (by simp [effAt, ha, h1]))
    · simp
      cases j with
      | zero =>
        simp
        refine ⟨⟨1, by simp, by omega, fun i hi => ?_⟩, by omega⟩
        obtain rfl : i = 0 := by omega
        simp [effAt, ha, h1]
      | succ j =>
        obtain ⟨b, hb2⟩ := get_some (l := e) (i := j) (by omega)
        have ha' := eff_at ha φ
        have e1 : ((j : Int) + 1 - 1) = j := by omega
        have h0 : (0 : Int) < (j : Int) + 1 := by omega
        simp only [Int.natCast_add, Int.cast_ofNat_Int] at ha'
        simp [h0, e1, wrap64 (show -9223372036854775808 ≤ (j : Int) ∧ (j : Int) ≤ 9223372036854775807 by omega), eff_at hb2, ha', Atom.take3]
        refine less_ref ?_
        cases h2 : lessM b a
        · simp
          exact fin _ (effMayM_no hjl (by simp [effAt, ha, h1, hb2, h2]))
        · simp
          rw [wrap64 (by omega)]
          refine ⟨⟨j + 1 + 1, by simp; omega, by omega, fun i hi => ?_⟩, by omega⟩
          by_cases hi2 : i < j + 1
          · exact hall i hi2
          · obtain rfl : i = j + 1 := by omega
            simp [effAt, ha, h1, hb2, h2]
  · simp [hjl]
    exact fin _ (effMayM_yes fun i hi => hall i (by omega))

/-! ### Types -/
def rKids (k : Int) : Nat := if k = 2 ∨ k = 4 then 2 else if k = 3 then 1 else 0
def rNode (t : RT) : Bool := decide (1 ≤ t.kind) && decide (t.kind ≤ 4) && decide (t.kids.length = rKids t.kind) && decide (0 ≤ t.rho) && !(decide (t.kind = 1) && decide (0 < t.rho)) && !(!decide (t.kind = 4) && decide (0 < t.eff.length)) && effMayM t.eff
mutual
def RT.may : RT → Bool
  | .mk k r e ks => rNode (.mk k r e ks) && RT.mays ks
def RT.mays : List RT → Bool
  | [] => true
  | t :: ts => RT.may t && RT.mays ts
end
theorem RT.may_eq (t : RT) : t.may = (rNode t && RT.mays t.kids) := by cases t; simp [RT.may, RT.kids]
theorem RT.mays_all (l : List RT) : RT.mays l = l.all RT.may := by
  induction l with
  | nil => rfl
  | cons t l ih => simp [RT.mays, ih]
theorem RT.mays_no {l : List RT} {i : Nat} {t : RT} (hi : l[i]? = some t) (h : t.may = false) : RT.mays l = false := by
  rw [RT.mays_all]
  cases hh : l.all RT.may
  · rfl
  · have := List.all_eq_true.1 hh t (List.mem_of_getElem? hi)
    rw [h] at this; cases this
theorem RT.mays_yes {l : List RT} (h : ∀ (i : Nat) t, l[i]? = some t → t.may = true) : RT.mays l = true := by
  rw [RT.mays_all]
  refine List.all_eq_true.2 fun t ht => ?_
  obtain ⟨i, hi⟩ := List.getElem?_of_mem ht
  exact h i t hi
theorem rmay_ref : ∀ (N : Nat) (t : RT), t.size ≤ N → t.Ok → ∀ (σ : AHeap) (k kp : AV → AHeap → Prop), k (bool t.may) σ → Ev PR 56 [t.v] σ k kp := by
  intro N
  induction N with
  | zero => intro t h; have := t.size_pos; omega
  | succ N ih =>
    intro t hN hok σ k kp hk
    refine Ev.pureD hk ((Dat.val _).low _) fun k' hk' => ?_
    apply F56_ev; unfold F56
    have heff := hok.eff
    have hkl := t.kids_len
    have hsz := hok.size
    have hlen : ∀ ω, aLenK .slice (RT.vs t.kids) ω = some (int t.kids.length) := fun ω => by simp
    have hel : ∀ ω, aLenK .slice (effV t.eff) ω = some (int t.eff.length) := fun ω => by simp [effV]
    simp
    generalize hτ : σ.new _ = τ
    have g0 : τ.get σ.next = some (.cells 4 [t.av]) := by rw [← hτ]; simp [get_new]
    have hG : Grows σ τ := by rw [← hτ]; exact Grows.new _ _
    clear hτ
    have fin : ∀ v, t.may = v → k' (bool v) τ := fun v h => by rw [← h]; exact hk' _ hG
    have no : rNode t = false → k' (bool false) τ := fun h => fin _ (by rw [RT.may_eq, h]; rfl)
    refine seqW_by (fun fr υ => fr = [(1, .ptr σ.next 0 0), (3, int (if t.kind = 2 ∨ t.kind = 4 then 2 else 0))] ∧ υ = τ) ?_ ?_
    · by_cases h1 : t.kind = 2 <;> by_cases h2 : t.kind = 4 <;> simp [g0, h1, h2]
    · rintro fr υ ⟨rfl, rfl⟩
      simp [g0]
      refine seqW_by (fun fr φ => fr = [(1, .ptr σ.next 0 0), (3, int (rKids t.kind))] ∧ φ = υ) ?_ ?_
      · by_cases h1 : t.kind = 3
        · simp [h1, rKids]
        · simp [h1, rKids]
          split <;> rfl
      · rintro fr φ ⟨rfl, rfl⟩
        simp [g0]
        by_cases h1 : t.kind < 1
        · simp [h1]
          exact no (by simp [rNode]; omega)
        by_cases h2 : 4 < t.kind
        · simp [h1, h2, g0]
          exact no (by simp [rNode]; omega)
        by_cases h3 : t.kids.length = rKids t.kind
        case neg =>
          have h3' : ¬ ((t.kids.length : Int) = rKids t.kind) := by omega
          simp [h1, h2, g0, hlen, h3']
          exact no (by simp [rNode, h3])
        by_cases h4 : t.rho < 0
        · simp [h1, h2, g0, hlen, h3, h4]
          exact no (by simp [rNode]; omega)
        by_cases h5 : t.kind = 1 <;> by_cases h6 : 0 < t.rho <;> by_cases h7 : t.kind = 4 <;> by_cases h8 : 0 < t.eff.length
        all_goals first
          | (exfalso; omega)
          | (simp [h1, h2, g0, hlen, hel, h3, h4, h5, h6, h7, h8]; exact no (by simp [rNode, h5, h6, h7, h8]; done))
          | skip
        all_goals
          have hp : rNode t = effMayM t.eff := by
            have a1 : 1 ≤ t.kind := by omega
            have a2 : t.kind ≤ 4 := by omega
            have a3 : 0 ≤ t.rho := by omega
            simp only [rNode, a1, a2, h3, a3, h5, h6, h7, h8]; simp
          simp [h1, h2, g0, hlen, hel, h3, h4, h5, h6, h7, h8]
          refine effMay_ref heff ?_
          cases he : effMayM t.eff
          · simp
            exact no (by rw [hp, he])
          · simp [g0, hlen]
            refine seqW_in ?_
            refine loopW_by (fun j : Nat => [(1, .ptr σ.next 0 0), (65, int t.kids.length), (66, int j)]) (fun j ψ => Grows σ ψ ∧ ψ.get σ.next = some (.cells 4 [t.av]) ∧ j ≤ t.kids.length ∧ ∀ (i : Nat) x, i < j → t.kids[i]? = some x → x.may = true) (fun fr _ => t.kids.length - (intOf (look fr 66)).toNat) 0 (by simp [h3]) ⟨hG, g0, by simp, by simp⟩ ?_
            rintro j ψ ⟨q1, q2, hj, hall⟩
            simp
            by_cases hjl : j < t.kids.length
            · obtain ⟨c, hc⟩ := get_some hjl
              have hcm := List.mem_of_getElem? hc
              have hcl := RT.kids_lt hcm
              have hix : ∀ ω, aIndexAddr 4 (RT.vs t.kids) (int j) ω = some (.ref c.av) := fun ω => by rw [aIndexAddr_sl]; simp [RT.avs_get hc]
              simp [hjl, q2, hix]
              refine ih c (by omega) (hok.kid hcm) _ _ _ ?_
              cases hcv : c.may
              · simp
                have := hk' _ q1
                rw [RT.may_eq, RT.mays_no hc hcv, Bool.and_false] at this
                exact this
              · simp
                rw [wrap64 (by omega)]
                refine ⟨⟨j + 1, by simp, q1, q2, by omega, fun i x hi hx => ?_⟩, by omega⟩
                by_cases hi2 : i < j
                · exact hall i x hi2 hx
                · obtain rfl : i = j := by omega
                  rw [hc] at hx; cases hx; exact hcv
            · simp [hjl]
              have := hk' _ q1
              rw [RT.may_eq, hp, he, RT.mays_yes (fun i x hx => hall i x (by have := (List.getElem?_eq_some_iff.1 hx).1; omega) hx)] at this
              exact this

/-! ### Plain terms' nodes -/
theorem kidsM_range {k : Int} (h : 0 ≤ kidsM k) : k = 1 ∨ k = 2 ∨ k = 3 ∨ k = 4 ∨ k = 5 ∨ k = 6 ∨ k = 7 ∨ k = 8 ∨ k = 9 ∨ k = 10 ∨ k = 11 ∨ k = 12 ∨ k = 13 ∨ k = 14 ∨ k = 15 ∨ k = 16 := by
  unfold kidsM at h
  split at h
  · omega
  · split at h
    · omega
    · split at h
      · omega
      · split at h <;> omega
def tnodeM (h : Head) (n : Nat) : Bool :=
  decide (0 ≤ kidsM h.kind) && decide ((n : Int) = kidsM h.kind) && decide (0 ≤ h.pos)
  && (if h.kind = 9 then decide (1 ≤ h.op) && decide (h.op ≤ 5) else decide (h.op = 0))
  && (decide (0 ≤ h.n) && decide (h.n ≤ 2147483647) && (decide (h.kind = 1) || decide (h.n = 0)))
  && fitM (decide (h.kind = 2 ∨ h.kind = 12 ∨ h.kind = 13)) h.name (nameM h.name)
  && fitM (decide (h.kind = 11 ∨ h.kind = 13 ∨ h.kind = 16)) h.arg (nameM h.arg)
  && fitM (decide (h.kind = 15 ∨ h.kind = 16)) h.exn (shapeM h.exn 4)
theorem tnode_ref {t : T} (hb : t.size < 1000000000000) {σ : AHeap} {k kp : AV → AHeap → Prop} (hk : k (bool (tnodeM t.h t.kids.length)) σ) : Ev PR 33 [t.v] σ k kp := by
  refine Ev.pureD hk ((Dat.val _).low _) fun k' hk' => ?_
  apply F33_ev; unfold F33
  have hkl := t.kids_len
  have hlen : ∀ ω, aLenK .slice (T.vs t.kids) ω = some (int t.kids.length) := fun ω => by simp
  simp
  generalize hτ : σ.new _ = τ
  have g0 : τ.get σ.next = some (.cells 8 [t.av]) := by rw [← hτ]; simp [get_new]
  have hG : Grows σ τ := by rw [← hτ]; exact Grows.new _ _
  clear hτ
  have fin : ∀ v, tnodeM t.h t.kids.length = v → k' (bool v) τ := fun v h => by rw [← h]; exact hk' _ hG
  refine kids_ref ?_
  by_cases h1 : kidsM t.h.kind < 0
  · simp [h1]
    exact fin _ (by have : ¬ 0 ≤ kidsM t.h.kind := by omega
                    simp [tnodeM, this])
  have h1' : 0 ≤ kidsM t.h.kind := by omega
  simp [h1, g0, hlen]
  refine kids_ref ?_
  simp
  by_cases h2 : (t.kids.length : Int) = kidsM t.h.kind
  case neg =>
    simp [h2, g0, hlen]
    exact fin false (by simp [tnodeM, h2])
  by_cases h3 : t.h.pos < 0
  · simp [h2, h3, g0]
    exact fin _ (by have : ¬ 0 ≤ t.h.pos := by omega
                    simp [tnodeM, this])
  have h3' : 0 ≤ t.h.pos := by omega
  by_cases h4 : (if t.h.kind = 9 then decide (1 ≤ t.h.op) && decide (t.h.op ≤ 5) else decide (t.h.op = 0)) = true
  case neg =>
    have no : k' (bool false) τ := fin _ (by simp only [tnodeM]; rw [Bool.eq_false_iff.2 h4]; simp)
    by_cases h9 : t.h.kind = 9
    · rw [if_pos h9] at h4
      by_cases h5 : t.h.op < 1
      · simp [h2, h3, g0, h9, h5]; exact no
      · have h6 : 5 < t.h.op := by
          refine Classical.byContradiction fun h => h4 ?_
          have a1 : 1 ≤ t.h.op := by omega
          have a2 : t.h.op ≤ 5 := by omega
          simp [a1, a2]
        simp [h2, h3, g0, h9, h5, h6]; exact no
    · rw [if_neg h9] at h4
      have h5 : ¬ t.h.op = 0 := by simpa using h4
      simp [h2, h3, g0, h9, h5]; exact no
  by_cases h7 : (decide (0 ≤ t.h.n) && decide (t.h.n ≤ 2147483647) && (decide (t.h.kind = 1) || decide (t.h.n = 0))) = true
  case neg =>
    have no : k' (bool false) τ := fin _ (by simp only [tnodeM]; rw [Bool.eq_false_iff.2 h7]; simp)
    by_cases h9 : t.h.kind = 9
    · rw [if_pos h9] at h4
      simp only [Bool.and_eq_true, decide_eq_true_eq] at h4
      have h5 : ¬ t.h.op < 1 := by omega
      have h6 : ¬ 5 < t.h.op := by omega
      by_cases h10 : t.h.n < 0
      · simp [h2, h3, g0, h9, h5, h6, h10]; exact no
      by_cases h11 : 2147483647 < t.h.n
      · simp [h2, h3, g0, h9, h5, h6, h10, h11]; exact no
      have h12 : ¬ t.h.n = 0 := fun h => h7 (by simp [h])
      simp [h2, h3, g0, h9, h5, h6, h10, h11, h12]; exact no
    · rw [if_neg h9] at h4
      have h5 : t.h.op = 0 := by simpa using h4
      by_cases h10 : t.h.n < 0
      · simp [h2, h3, g0, h9, h5, h10]; exact no
      by_cases h11 : 2147483647 < t.h.n
      · simp [h2, h3, g0, h9, h5, h10, h11]; exact no
      have a1 : 0 ≤ t.h.n := by omega
      have a2 : t.h.n ≤ 2147483647 := by omega
      have h12 : ¬ t.h.n = 0 := fun h => h7 (by simp [h])
      have h13 : ¬ t.h.kind = 1 := fun h => h7 (by simp [h, a1, a2])
      simp [h2, h3, g0, h9, h5, h10, h11, h12, h13]; exact no
  have hM : tnodeM t.h t.kids.length = (fitM (decide (t.h.kind = 2 ∨ t.h.kind = 12 ∨ t.h.kind = 13)) t.h.name (nameM t.h.name)
    && fitM (decide (t.h.kind = 11 ∨ t.h.kind = 13 ∨ t.h.kind = 16)) t.h.arg (nameM t.h.arg)
    && fitM (decide (t.h.kind = 15 ∨ t.h.kind = 16)) t.h.exn (shapeM t.h.exn 4)) := by
    simp only [tnodeM, h1', h2, h3', h4, h7]; simp
  rw [hM] at fin
  clear hM
  simp only [Bool.and_eq_true, Bool.or_eq_true, decide_eq_true_eq] at h7
  obtain ⟨⟨h10, h11⟩, h12⟩ := h7
  have h10' : ¬ t.h.n < 0 := by omega
  have h11' : ¬ 2147483647 < t.h.n := by omega
  rcases kidsM_range h1' with h | h | h | h | h | h | h | h | h | h | h | h | h | h | h | h
  all_goals
    simp [h] at h4 h12 fin
    first
      | (have n1 : ¬ t.h.op < 1 := by omega
         have n2 : ¬ 5 < t.h.op := by omega
         simp [h2, h3, g0, h, n1, n2, h10', h11', h12])
      | simp [h2, h3, g0, h, h4, h10', h11', h12]
    refine name_ref ?_
    simp [g0]
    refine fits_ref ?_
    cases e1 : fitM _ t.h.name (nameM t.h.name)
    · rw [e1] at fin
      simp
      simpa using fin
    rw [e1] at fin
    simp [g0]
    refine name_ref ?_
    simp [g0]
    refine fits_ref ?_
    cases e2 : fitM _ t.h.arg (nameM t.h.arg)
    · rw [e2] at fin
      simp
      simpa using fin
    rw [e2] at fin
    simp [g0]
    refine exn_ref ?_
    simp [g0]
    refine fits_ref ?_
    simpa using fin
end Go.Abs.At
