/-
  What may be: nodes of terms with regions, by the document.
-/
import Derived.Test.YtpfaciflhhpokaaGreatDoorAtN
set_option linter.unusedVariables false
set_option linter.unusedSimpArgs false
namespace Go.Abs.At
open Go Go.Abs Go.Proofs.AtD
attribute [local simp] Nat.add_assoc

theorem in_u8 {l : List Int} {n : Int} {c : Bool} (hb : l.length < 1000000000000) {σ : AHeap} {k kp : AV → AHeap → Prop} (hk : k (bool (decide (n ∈ l))) σ) : Ev PR 54 [.sl c 1 (l.map fun b => [u8 b]), u8 n] σ k kp := by
  apply F54_ev; unfold F54
  simp
  refine seqW_in ?_
  refine loopW_by (fun j : Nat => [(0, .sl c 1 (l.map fun b => [u8 b])), (1, u8 n), (7, int l.length), (8, int j)]) (fun j φ => φ = σ ∧ j ≤ l.length ∧ n ∉ l.take j) (fun fr _ => l.length - (intOf (look fr 8)).toNat) 0 (by simp) ⟨rfl, by simp, by simp⟩ ?_
  rintro j φ ⟨rfl, hj, hne⟩
  simp
  by_cases hjl : j < l.length
  · obtain ⟨t, ht⟩ := get_some hjl
    have hix : ∀ ω, aIndexAddr 1 (.sl c 1 (l.map fun b => [u8 b])) (int j) ω = some (.ref [u8 t]) := fun ω => by rw [aIndexAddr_sl]; simp [ht]
    simp [hjl, hix]
    by_cases hc : t = n
    · subst hc
      simp
      have e : decide (t ∈ l) = true := decide_eq_true (List.mem_of_getElem? ht)
      rw [e] at hk
      exact hk
    · simp [hc]
      rw [wrap64 (by omega)]
      refine ⟨⟨j + 1, by simp, by omega, fun h => ?_⟩, by omega⟩
      rw [List.take_add_one, ht] at h
      rcases List.mem_append.1 h with h | h
      · exact hne h
      · simp at h; exact hc h.symm
  · have hall : l.take j = l := List.take_of_length_le (by omega)
    rw [hall] at hne
    simp [hjl]
    have e : decide (n ∈ l) = false := decide_eq_false hne
    rw [e] at hk
    exact hk

def plainM (t : RT) : Bool := decide (t.kind = 0) && decide (t.rho = 0) && decide (t.eff.length = 0) && decide (t.kids.length = 0)
theorem plain_ref {t : RT} {σ : AHeap} {k kp : AV → AHeap → Prop} (hk : k (bool (plainM t)) σ) : Ev PR 57 [t.v] σ k kp := by
  refine Ev.pureD hk ((Dat.val _).low _) fun k' hk' => ?_
  apply F57_ev; unfold F57
  have hlen : ∀ ω, aLenK .slice (RT.vs t.kids) ω = some (int t.kids.length) := fun ω => by simp
  have hel : ∀ ω, aLenK .slice (effV t.eff) ω = some (int t.eff.length) := fun ω => by simp [effV]
  simp
  generalize hτ : σ.new _ = τ
  have g0 : τ.get σ.next = some (.cells 4 [t.av]) := by rw [← hτ]; simp [get_new]
  have hG : Grows σ τ := by rw [← hτ]; exact Grows.new _ _
  clear hτ
  have fin : ∀ v, plainM t = v → k' (bool v) τ := fun v h => by rw [← h]; exact hk' _ hG
  by_cases h1 : t.kind = 0 <;> by_cases h2 : t.rho = 0 <;> by_cases h3 : t.eff.length = 0 <;> by_cases h4 : t.kids.length = 0
  all_goals
    have e3 : ((t.eff.length : Int) = 0) = (t.eff.length = 0) := by simp
    have e4 : ((t.kids.length : Int) = 0) = (t.kids.length = 0) := by simp
    simp only [g0, h1, h2, h3, h4, hlen, hel, e3, e4, AT.av_0, elAt_eq, aLoad_ptr]
    simp [g0, h1, h2, h3, h4, hlen, hel, e3, e4]
    exact fin _ (by simp [plainM, h1, h2, h3, h4])
def bareM (h : Head) : Bool := decide (h.op = 0) && decide (h.n = 0) && decide (h.arg = ByteArray.empty) && decide (h.exn = ByteArray.empty)
def headM (t : AT) : Bool :=
  if t.h.kind = 17 then bareM t.h && decide (t.h.name = ByteArray.empty) && decide (0 ≤ t.h.pos) && decide (t.kids.length = 1)
  else if t.h.kind = 18 then bareM t.h && nameM t.h.name && decide (0 ≤ t.h.pos) && decide (t.kids.length = 0)
  else tnodeM t.h (min t.kids.length 4)
@[simp] theorem Head.av_1 (h : Head) : h.av[1]? = some (u8 h.op) := rfl
@[simp] theorem Head.av_2 (h : Head) : h.av[2]? = some (int h.pos) := rfl
@[simp] theorem Head.av_3 (h : Head) : h.av[3]? = some (int h.n) := rfl
@[simp] theorem Head.av_4 (h : Head) : h.av[4]? = some (str h.name) := rfl
@[simp] theorem Head.av_5 (h : Head) : h.av[5]? = some (str h.arg) := rfl
@[simp] theorem Head.av_6 (h : Head) : h.av[6]? = some (str h.exn) := rfl
@[simp] theorem Head.av_1' (h : Head) (hh : 1 < h.av.length) : h.av[1]'hh = u8 h.op := rfl
@[simp] theorem Head.av_2' (h : Head) (hh : 2 < h.av.length) : h.av[2]'hh = int h.pos := rfl
@[simp] theorem Head.av_3' (h : Head) (hh : 3 < h.av.length) : h.av[3]'hh = int h.n := rfl
@[simp] theorem Head.av_4' (h : Head) (hh : 4 < h.av.length) : h.av[4]'hh = str h.name := rfl
@[simp] theorem Head.av_5' (h : Head) (hh : 5 < h.av.length) : h.av[5]'hh = str h.arg := rfl
@[simp] theorem Head.av_6' (h : Head) (hh : 6 < h.av.length) : h.av[6]'hh = str h.exn := rfl
@[simp] theorem Head.av_take (h : Head) : h.av.take 7 = h.av := rfl
abbrev blank : T := .mk (hd 0) []
abbrev blankZ : List AV := [u8 0, u8 0, int 0, int 0, str ByteArray.empty, str ByteArray.empty, str ByteArray.empty, .val (.slice none 0 0)]
theorem blanks_fz {τ : AHeap} {D : Nat → Prop} : ∀ m : Nat, FzR τ D (List.replicate m blankZ) (T.avs (List.replicate m blank))
  | 0 => .nil
  | m + 1 => by
    simp only [List.replicate_succ, T.avs]
    exact .cons (.cons (.refl _) (.cons (.refl _) (.cons (.refl _) (.cons (.refl _) (.cons (.refl _) (.cons (.refl _) (.cons (.refl _) (.cons .nil .nil)))))))) (blanks_fz m)
theorem head_ref {t : AT} (hb : t.size < 1000000000000) {σ : AHeap} {k kp : AV → AHeap → Prop} (hk : k (bool (headM t)) σ) : Ev PR 53 [t.v] σ k kp := by
  refine Ev.pureD hk ((Dat.val _).low _) fun k' hk' => ?_
  apply F53_ev; unfold F53
  have hlen : ∀ ω, aLenK .slice (AT.vs t.kids) ω = some (int t.kids.length) := fun ω => by simp
  have hkl := t.kids_len
  have hheadlen : t.h.av.length = 7 := rfl
  simp [empty_eq, get_new]
  generalize hτ : AHeap.set _ _ _ = τ
  have g0 : τ.get σ.next = some (.cells 19 [t.av]) := by rw [← hτ]; simp [get_set, get_new]
  have g1 : τ.get (σ.next + 1) = some (.cells 7 [t.h.av]) := by rw [← hτ]; simp [get_set, get_new]
  have hn : τ.next = σ.next + 2 := by rw [← hτ]; simp
  have hG : Grows σ τ := by rw [← hτ]; exact ((Grows.new _ _).trans (Grows.new _ _)).set (by simp) _
  clear hτ
  have fin : ∀ v, headM t = v → k' (bool v) τ := fun v h => by rw [← h]; exact hk' _ hG
  have e4 : ((t.kids.length : Int) = 0) = (t.kids.length = 0) := by simp
  have e5 : ((t.kids.length : Int) = 1) = (t.kids.length = 1) := by simp; omega
  by_cases a1 : t.h.op = 0 <;> by_cases a2 : t.h.n = 0 <;> by_cases a3 : t.h.arg = ByteArray.empty <;> by_cases a4 : t.h.exn = ByteArray.empty <;> by_cases a5 : t.h.kind = 17 <;> by_cases a6 : t.h.kind = 18
  all_goals first
    | (exfalso; omega)
    | (have hbm : bareM t.h = false := by simp [bareM, a1, a2, a3, a4]
       simp [g0, g1, a1, a2, a3, a4, a5, a6]
       exact fin _ (by simp [headM, a5, a6, hbm]))
    | (have hbm : bareM t.h = true := by simp [bareM, a1, a2, a3, a4]
       by_cases b1 : t.h.name = ByteArray.empty <;> by_cases b2 : 0 ≤ t.h.pos <;> by_cases b3 : t.kids.length = 1
       all_goals
         simp [g0, g1, a1, a2, a3, a4, a5, a6, b1, b2, b3, hlen, e5]
         exact fin _ (by simp [headM, a5, a6, hbm, b1, b2, b3]))
    | (have hbm : bareM t.h = true := by simp [bareM, a1, a2, a3, a4]
       simp [g0, g1, a1, a2, a3, a4, a5, a6]
       refine name_ref ?_
       cases b1 : nameM t.h.name <;> by_cases b2 : 0 ≤ t.h.pos <;> by_cases b3 : t.kids.length = 0
       all_goals
         simp [g0, g1, b1, b2, b3, hlen, e4]
         exact fin _ (by simp [headM, a5, a6, hbm, b1, b2, b3]))
    | skip
  all_goals
    simp [g0, g1, a1, a2, a3, a4, a5, a6, hheadlen]
    clear a1 a2 a3 a4
    generalize hω : AHeap.set _ _ _ = ω
    have w0 : ω.get σ.next = some (.cells 19 [t.av]) := by rw [← hω]; simp [get_set, get_new, hn, g0]
    have w1 : ω.get (σ.next + 2) = some (.cells 8 [t.h.av ++ [.val (.slice none 0 0)]]) := by rw [← hω]; simp [get_set, get_new, hn]
    have wG : Grows σ ω := by rw [← hω]; exact (hG.trans (Grows.new _ _)).set (by omega) _
    have wn : ω.next = σ.next + 3 := by rw [← hω]; simp [hn]
    clear hω
    refine seqW_in ?_
    refine loopW_by (fun i : Nat => [(1, .ptr σ.next 0 0), (5, .ptr (σ.next + 2) 0 0), (6, int i)])
      (fun i φ => i ≤ min t.kids.length 4 ∧ Grows σ φ ∧ φ.get σ.next = some (.cells 19 [t.av]) ∧ σ.next + 3 ≤ φ.next ∧ ∃ x, φ.get (σ.next + 2) = some (.cells 8 [t.h.av ++ [x]]) ∧ acells x = some [x] ∧ Kid σ.next 3 8 φ x (List.replicate i blankZ))
      (fun fr _ => 4 - (intOf (look fr 6)).toNat) 0 (by simp [hn]) ⟨by simp, wG, w0, by omega, _, w1, rfl, .inl ⟨rfl, rfl⟩⟩ ?_
    rintro i φ ⟨hi, f1, f2, f3, x, f4, f5, f6⟩
    simp [f2, hlen]
    by_cases hil : i < t.kids.length ∧ i < 4
    · obtain ⟨h1, h2⟩ := hil
      have h2' : (i : Int) < 4 := by omega
      simp [h1, h2', f4, hheadlen]
      refine stepK_of (aAppend_rows (by' := 96) f6.rows f6.ns (.inr (.inl ⟨true, rfl⟩)) (by simp; omega)) ?_
      obtain ⟨p1, p2, p3⟩ := f6.push (by omega) blankZ
      generalize (gone x φ).new (.cells 8 (List.replicate i blankZ ++ [blankZ])) = φ2 at p1 p2 p3
      have q2 : φ2.get (σ.next + 2) = some (.cells 8 [t.h.av ++ [x]]) := by rw [p2 _ (by omega)]; exact f4
      simp [q2, hheadlen]
      have hdrop : List.drop 8 (t.h.av ++ [x]) = [] := List.drop_of_length_le (by simp [hheadlen])
      rw [hdrop, wrap64 (by omega)]
      have hG2 : Grows σ φ2 := ⟨by omega, fun j hj => by rw [p2 j (by omega)]; exact f1.get j hj⟩
      refine ⟨⟨i + 1, by simp, by omega, hG2.set (by omega) _, by simp [get_set, p2 σ.next (by omega), f2], by omega, ?_⟩, by omega⟩
      have := p1.set (j := σ.next + 2) (by omega) (.cells 8 [t.h.av ++ [.own φ.next (i + 1)]])
      rw [List.replicate_succ']
      simpa using this
    · have him : i = min t.kids.length 4 := by omega
      have fl : ∀ (ks : AV) (σ' : AHeap), Grows σ σ' → (∃ D, FzS φ D σ' ∧ Fz φ D x (T.vs (List.replicate i blank))) → Ev PR 33 [.agg (t.h.av ++ [x])] φ (fun t47 σ => k' t47 σ) (fun _ _ => False) := by
        rintro _ σ' hg ⟨D, d1, d2⟩
        refine Ev.freeze (args' := [T.v (.mk t.h (List.replicate i blank))]) d1 (.cons ?_ .nil) ?_
        · exact ((FzL.refl t.h.av).append (.cons d2 .nil)).agg
        · refine tnode_ref ?_ ?_
          · have : ∀ n, T.sizes (List.replicate n blank) = n := by
              intro n
              induction n with
              | zero => rfl
              | succ n ih => simp only [List.replicate_succ, T.sizes, ih]; simp [blank, T.size, T.sizes]; omega
            simp [T.size, this]; omega
          · have := hk' _ hg
            simp only [headM, a5, a6, if_false] at this
            simpa [T.h, T.kids, him] using this
      have htk : List.take 8 (t.h.av ++ [x]) = t.h.av ++ [x] := List.take_of_length_le (by simp [hheadlen])
      have fin2 : Ev PR 33 [.agg (t.h.av ++ [x])] φ (fun t47 σ => k' t47 σ) (fun _ _ => False) := by
        rcases f6 with ⟨rfl, hr⟩ | ⟨q, rest, rfl, h2, h3, h4⟩
        · have h0 : i = 0 := by simpa using congrArg List.length hr
          refine fl (.any) φ f1 ⟨fun _ => False, ⟨rfl, fun _ h => h.elim, fun id _ => ?_⟩, by rw [h0]; exact .nil⟩
          cases hg : φ.get id with
          | none => exact .inl ⟨rfl, rfl⟩
          | some o => exact .inr ⟨o, o, rfl, rfl, .refl o⟩
        · refine fl (.any) (φ.del q) ⟨f1.next, fun j hj => by rw [get_del, if_neg (by omega)]; exact f1.get j hj⟩ ⟨fun id => id = q, ⟨rfl, fun id h => by rw [h]; simp, fun id h => ?_⟩, ?_⟩
          · cases hg : φ.get id with
            | none => exact .inl ⟨rfl, by rw [get_del]; split <;> first | rfl | exact hg⟩
            | some o => exact .inr ⟨o, o, rfl, by rw [get_del, if_neg h]; exact hg, .refl o⟩
          · exact FzR.own (blanks_fz i) rfl (by simp) h2
      by_cases h1 : i < t.kids.length
      · have h2' : ¬ (i : Int) < 4 := by omega
        simp [h1, h2', f4, hheadlen, htk]
        exact fin2
      · simp [h1, f4, hheadlen, htk]
        exact fin2

/-- May a node alone be? -/
def rhoAt (t : AT) (i : Nat) : Bool := match t.rhos[i]? with
  | none => true
  | some r => decide (0 ≤ r) && (!decide (t.h.kind = 13) || (!decide (r = 0) && !decide (r ∈ t.rhos.take i)))
def rhosMayM (t : AT) : Bool := (List.range t.rhos.length).all (rhoAt t)
def nodeM (t : AT) : Bool :=
  headM t && decide (0 ≤ t.rho) && !(decide (t.h.kind = 17) && decide (t.rho = 0)) && (decide (t.h.kind ∈ [(3 : Int), 6, 11, 13, 17, 18]) || decide (t.rho = 0))
  && (decide (t.h.kind = 13) || decide (t.h.kind = 18) || decide (t.rhos.length = 0))
  && rhosMayM t
  && ((decide (t.h.kind ∈ [(11 : Int), 13, 18]) || decide (t.eff.length = 0)) && effMayM t.eff)
  && (if t.h.kind ∈ [(11 : Int), 13, 15] then t.type.may else plainM t.type)
  && (if t.h.kind = 13 then t.res.may else plainM t.res)
theorem rhosMayM_yes {t : AT} (h : ∀ i, i < t.rhos.length → rhoAt t i = true) : rhosMayM t = true := List.all_eq_true.2 fun i hi => h i (List.mem_range.1 hi)
theorem rhosMayM_no {t : AT} {i : Nat} (hi : i < t.rhos.length) (h : rhoAt t i = false) : rhosMayM t = false := by
  cases hh : rhosMayM t
  · rfl
  · have := List.all_eq_true.1 hh i (List.mem_range.2 hi)
    rw [h] at this; cases this
set_option maxHeartbeats 4000000 in
theorem node_ref {t : AT} (hok : t.Ok) {σ : AHeap} {k kp : AV → AHeap → Prop} (hk : k (bool (nodeM t)) σ) : Ev PR 31 [t.v] σ k kp := by
  refine Ev.pureD hk ((Dat.val _).low _) fun k' hk' => ?_
  apply F31_ev; unfold F31
  have hsz := hok.size
  have hrh := hok.rhos
  have heff := hok.eff
  have hrl : ∀ ω, aLenK .slice (rhosV t.rhos) ω = some (int t.rhos.length) := fun ω => by simp [rhosV]
  have hel : ∀ ω, aLenK .slice (effV t.eff) ω = some (int t.eff.length) := fun ω => by simp [effV]
  simp
  generalize hτ : σ.new _ = τ
  have g0 : τ.get σ.next = some (.cells 19 [t.av]) := by rw [← hτ]; simp [get_new]
  have hG : Grows σ τ := by rw [← hτ]; exact Grows.new _ _
  clear hτ
  have fin : ∀ v, nodeM t = v → k' (bool v) τ := fun v h => by rw [← h]; exact hk' _ hG
  refine head_ref (by omega) ?_
  cases hh : headM t
  · simp
    exact fin _ (by simp [nodeM, hh])
  by_cases h1 : t.rho < 0
  · simp [g0, h1]
    exact fin _ (by have : ¬ 0 ≤ t.rho := by omega
                    simp [nodeM, this])
  have h1' : 0 ≤ t.rho := by omega
  have lst : ∀ (l : List Int) (n : Int) (c : Bool) (φ : AHeap) (q qp : AV → AHeap → Prop), l.length < 1000000000000 → q (bool (decide (n ∈ l))) φ → Ev PR 54 [.sl c 1 (l.map fun b => [u8 b]), u8 n] φ q qp := fun l n c φ q qp hl hq => in_u8 hl hq
  by_cases d3 : t.h.kind = 3 <;> by_cases d6 : t.h.kind = 6 <;> by_cases d11 : t.h.kind = 11 <;> by_cases d13 : t.h.kind = 13 <;> by_cases d15 : t.h.kind = 15 <;> by_cases d17 : t.h.kind = 17 <;> by_cases d18 : t.h.kind = 18
  all_goals first | (exfalso; omega) | skip
  all_goals
    first | have e3 : (t.h.kind = 3) = True := eq_true d3 | have e3 : (t.h.kind = 3) = False := eq_false d3
    first | have e6 : (t.h.kind = 6) = True := eq_true d6 | have e6 : (t.h.kind = 6) = False := eq_false d6
    first | have e11 : (t.h.kind = 11) = True := eq_true d11 | have e11 : (t.h.kind = 11) = False := eq_false d11
    first | have e13 : (t.h.kind = 13) = True := eq_true d13 | have e13 : (t.h.kind = 13) = False := eq_false d13
    first | have e15 : (t.h.kind = 15) = True := eq_true d15 | have e15 : (t.h.kind = 15) = False := eq_false d15
    first | have e17 : (t.h.kind = 17) = True := eq_true d17 | have e17 : (t.h.kind = 17) = False := eq_false d17
    first | have e18 : (t.h.kind = 18) = True := eq_true d18 | have e18 : (t.h.kind = 18) = False := eq_false d18
    clear d3 d6 d11 d13 d15 d17 d18
    by_cases r0 : t.rho = 0
    all_goals first
      | (have nm : nodeM t = false := by simp [nodeM, e3, e6, e11, e13, e15, e17, e18, r0]; done
         simp [g0, h1, r0, e17]
         first
           | exact fin _ nm
           | (refine lst [3, 6, 11, 13, 17, 18] t.h.kind true τ _ _ (by simp) ?_
              simp [g0, r0, e3, e6, e11, e13, e17, e18]
              exact fin _ nm))
      | skip
    all_goals
      simp [g0, h1, r0, e17]
      refine lst [3, 6, 11, 13, 17, 18] t.h.kind true τ _ _ (by simp) ?_
      simp [g0, r0, e3, e6, e11, e13, e17, e18]
  all_goals
    have ez : ((t.rhos.length : Int) > 0) = (0 < t.rhos.length) := by simp
    by_cases rl : 0 < t.rhos.length
    all_goals first
      | (have nm : nodeM t = false := by
           have : ¬ t.rhos.length = 0 := by omega
           simp only [nodeM, e13, e18, this]; simp
         simp [hrl, rl]
         exact fin _ nm)
      | skip
    all_goals try simp [hrl, rl]
    all_goals
      have nm : rhosMayM t = false → nodeM t = false := fun h => by simp [nodeM, h]
      refine seqW_by (fun fr υ => fr = [(1, .ptr σ.next 0 0), (3, u8 t.h.kind)] ∧ υ = τ ∧ rhosMayM t = true) ?_ ?_
      · simp [g0, hrl]
        refine loopW_by (fun j : Nat => [(1, .ptr σ.next 0 0), (3, u8 t.h.kind), (50, int t.rhos.length), (51, int j)]) (fun j φ => φ = τ ∧ j ≤ t.rhos.length ∧ ∀ i, i < j → rhoAt t i = true) (fun fr _ => t.rhos.length - (intOf (look fr 51)).toNat) 0 (by simp) ⟨rfl, by simp, by simp⟩ ?_
        rintro j φ ⟨rfl, hj, hall⟩
        simp [g0]
        by_cases hjl : j < t.rhos.length
        · obtain ⟨r, hr⟩ := get_some hjl
          have hix : ∀ ω, aIndexAddr 1 (rhosV t.rhos) (int j) ω = some (.ref [int r]) := fun ω => by rw [rhosV, aIndexAddr_sl]; simp [hr]
          have bad : rhoAt t j = false → k' (bool false) φ := fun h => fin _ (nm (rhosMayM_no hjl h))
          have good : rhoAt t j = true → ((∃ j' : Nat, IntKind.i64.wrap ((j : Int) + 1) = j' ∧ j' ≤ t.rhos.length ∧ ∀ i, i < j' → rhoAt t i = true) ∧ t.rhos.length - (IntKind.i64.wrap ((j : Int) + 1)).toNat < t.rhos.length - j) := fun h => by
            rw [wrap64 (by omega)]
            refine ⟨⟨j + 1, by simp, by omega, fun i hi => ?_⟩, by omega⟩
            by_cases hi2 : i < j
            · exact hall i hi2
            · obtain rfl : i = j := by omega
              exact h
          by_cases q1 : r < 0
          · simp [hjl, hix, q1]
            exact bad (by have : ¬ 0 ≤ r := by omega
                          simp [rhoAt, hr, this])
          have q1' : 0 ≤ r := by omega
          first
            | (have ra : rhoAt t j = true := by simp [rhoAt, hr, q1', e13]; done
               simp [hjl, hix, q1, e13, g0]
               exact good ra)
            | (by_cases q2 : r = 0
               · simp [hjl, hix, q1, q2, e13, g0]
                 exact bad (by simp [rhoAt, hr, q2, e13])
               · simp [hjl, hix, q1, q2, e13, g0]
                 refine stepP (x := rhosV (t.rhos.take j)) (by simp only [rhosV]; rw [aSlice_sl_hi]; simp; omega) ?_
                 simp [g0, hix]
                 refine ints_ev (l := t.rhos.take j) (by simp; omega) (.inr (.inl ⟨false, rfl⟩)) ?_
                 by_cases q3 : r ∈ t.rhos.take j
                 · simp [q3]
                   exact bad (by simp [rhoAt, hr, q1', q2, q3, e13])
                 · simp [q3]
                   exact good (by simp [rhoAt, hr, q1', q2, q3, e13]))
        · simp [hjl]
          exact rhosMayM_yes fun i hi => hall i (by omega)
      · rintro fr υ ⟨rfl, rfl, hrm⟩
        simp
        refine lst [11, 13, 18] t.h.kind true _ _ _ (by simp) ?_
        simp [g0, e11, e13, e18]
        have hty := hok.type
        have hre := hok.res
        have fl : ∀ b, b = nodeM t → k' (bool b) υ := fun b h => fin b h.symm
        by_cases el : 0 < t.eff.length
        all_goals
          have ee : (t.eff.length = 0) = ¬ (0 < t.eff.length) := by simp
          try simp [g0, hel, el]
        all_goals try first
          | (exact fl false (by simp only [nodeM, e11, e13, e18, ee, el]; simp [e11, e13, e18, ee, el]))
        all_goals
          refine effMay_ref heff ?_
          cases hem : effMayM t.eff
        all_goals simp
        all_goals first
          | (exact fl false (by simp [nodeM, hem]))
          | skip
        all_goals
          refine lst [11, 13, 15] t.h.kind true _ _ _ (by simp) ?_
          simp [g0, e11, e13, e15]
          first
            | (have it : (t.h.kind ∈ [(11 : Int), 13, 15]) = True := by simp [e11, e13, e15]; done
               refine rmay_ref _ t.type (Nat.le_refl _) hty _ _ _ ?_
               cases hx : t.type.may
               · simp [g0, e13]
                 exact fl false (by simp [nodeM, hx, e11, e13, e15])
               simp [g0]
               refine lst [11, 13, 15] t.h.kind true _ _ _ (by simp) ?_
               simp [g0, e11, e13, e15])
            | (have it : (t.h.kind ∈ [(11 : Int), 13, 15]) = False := by simp [e11, e13, e15]; done
               refine lst [11, 13, 15] t.h.kind true _ _ _ (by simp) ?_
               simp [g0, e11, e13, e15]
               refine plain_ref ?_
               cases hx : plainM t.type
               · simp [g0, e13]
                 exact fl false (by simp [nodeM, hx, e11, e13, e15])
               simp [g0, e13])
        all_goals
          have hM : nodeM t = if t.h.kind = 13 then t.res.may else plainM t.res := by
            have ep : ((0 : Int) ≤ t.rho) = True := eq_true h1'
            have er : (t.rhos.length = 0) = ¬ (0 < t.rhos.length) := by simp
            simp only [nodeM, hh, ep, r0, rl, el, ee, er, hrm, hem, hx, e3, e6, e11, e13, e15, e17, e18, List.mem_cons, List.not_mem_nil]
            simp
          first
            | (have e13' : t.h.kind = 13 := by rw [e13]; trivial
               refine rmay_ref _ t.res (Nat.le_refl _) hre _ _ _ ?_
               cases hy : t.res.may
               all_goals
                 simp [e13]
                 exact fl _ (by rw [hM, if_pos e13', hy]))
            | (refine plain_ref ?_
               exact fl _ (by rw [hM, if_neg (by rw [e13]; exact fun h => h)]))
end Go.Abs.At
