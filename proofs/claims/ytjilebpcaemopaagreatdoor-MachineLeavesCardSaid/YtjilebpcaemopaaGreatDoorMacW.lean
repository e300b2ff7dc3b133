import Derived.Test.YtjilebpcaemopaaGreatDoorMacR
set_option linter.unusedVariables false
set_option linter.unusedSimpArgs false
namespace Go.Abs.Mac
open Go Go.Abs Go.Abs.Stk Go.Abs.At

/-! ### One code a step -/
theorem make_len {s : Sa} {e rho c} {n : Nat} (h : s.codes.length ≤ n) : (make s e rho c).all (fun s' => s'.codes.length ≤ n) := by
  unfold make
  repeat' split
  all_goals exact h
theorem code_len {s : Sa} {e rho c} {n : Nat} (h : s.codes.length + 1 ≤ n) : (Mac.code s e rho c).all (fun s' => s'.codes.length ≤ n) :=
  make_len (by show (s.codes ++ [c]).length ≤ n; simp; exact h)
theorem inst_len {s : Sa} {t e} {n : Nat} (h : s.codes.length + 1 ≤ n) : (inst s t e).all (fun s' => s'.codes.length ≤ n) := by
  have h0 : s.codes.length ≤ n := by omega
  unfold inst
  split
  · exact h0
  · split
    · refine Re.all_bind (p := fun s' => s'.codes.length ≤ n) (take_same h0) fun c s' hr _ => ?_
      obtain ⟨rfl, _⟩ := take_ok hr
      split
      · exact h0
      · split
        · split
          · exact h0
          · exact code_len h
        · exact h0
    · exact h0
theorem leaf_len {s : Sa} {t e} {n : Nat} (h : s.codes.length + 1 ≤ n) : (leaf s t e).all (fun s' => s'.codes.length ≤ n) := by
  have h0 : s.codes.length ≤ n := by omega
  unfold leaf
  split
  · exact h0
  · split
    · split
      · split <;> exact h0
      · exact h0
    · split
      · exact inst_len h
      · exact code_len h
theorem rule_len {s : Sa} {t e vs} {n : Nat} (h : s.codes.length ≤ n) : (rule s t e vs).all (fun s' => s'.codes.length ≤ n) := by
  unfold rule
  split
  · exact Re.all_bind (make_len h) fun _ _ _ hs => hs
  split
  · exact Re.all_bind (p := fun s' => s'.codes.length ≤ n) (take_same h) fun _ _ _ hs => hs
  split
  · exact Re.all_bind (p := fun s' => s'.codes.length ≤ n) (take_same h) fun _ _ _ hs => hs
  split
  · exact Re.all_bind (make_len h) fun _ _ _ hs => hs
  split
  · exact Re.all_bind (p := fun s' => s'.codes.length ≤ n) (take_same h) fun _ _ _ hs => hs
  split
  · exact Re.all_bind (p := fun s' => s'.codes.length ≤ n) (take_same h) fun _ _ _ hs => hs
  split
  · exact Re.all_bind (p := fun s' => s'.codes.length ≤ n) (number_same h) fun _ _ _ hs => Re.all_bind (p := fun s' => s'.codes.length ≤ n) (number_same hs) fun _ _ _ hs => hs
  split
  · exact Re.all_bind (p := fun s' => s'.codes.length ≤ n) (number_same h) fun _ _ _ hs => hs
  · refine Re.all_bind (p := fun s' => s'.codes.length ≤ n) (take_same h) fun _ _ _ hs => ?_
    split <;> exact hs

theorem Big.codes {fuel N s t e s' o} (h : Big fuel s t e s' o) : CW (TN N) s → TN N t → s'.codes.length + s.steps ≤ s.codes.length + s'.steps ∧ s.steps ≤ s'.steps ∧ CW (TN N) s' := by
  induction h with
  | full hk h => exact fun hs ht => ⟨Nat.le_refl _, Nat.le_refl _, hs⟩
  | @region s t e r st s' o hk h h' ih =>
    intro hs ht
    obtain ⟨h1, h2, h3⟩ := ih hs (kidT ht (nk_pos (by omega)))
    obtain ⟨p1, p2, p3⟩ := popO_same o s'
    simp only at h1 h2
    exact ⟨by rw [p2, p3]; exact h1, by rw [p2]; exact h2, by unfold CW; rw [p3]; exact h3⟩
  | fuel hk h => exact fun hs ht => ⟨Nat.le_refl _, Nat.le_refl _, hs⟩
  | @leaf s t e s' v hf hk h =>
    intro hs ht
    have := (same_inv N s.store.L.length (s.steps + 1)).leafR (s := tick s) (e := e) ⟨rfl, rfl, hs⟩ ht hk
    have l := leaf_len (s := tick s) (t := t) (e := e) (Nat.le_refl _)
    rw [h] at this l
    obtain ⟨h1, h2, h3⟩ := this
    have l : s'.codes.length ≤ s.codes.length + 1 := l
    exact ⟨by omega, by omega, h3⟩
  | @leafOver s t e s' k hf hk h =>
    intro hs ht
    have := (same_inv N s.store.L.length (s.steps + 1)).leafR (s := tick s) (e := e) ⟨rfl, rfl, hs⟩ ht hk
    have l := leaf_len (s := tick s) (t := t) (e := e) (Nat.le_refl _)
    rw [h] at this l
    obtain ⟨h1, h2, h3⟩ := this
    have l : s'.codes.length ≤ s.codes.length + 1 := l
    exact ⟨by omega, by omega, h3⟩
  | @letStop s t e s' o hf hk h ho ih =>
    intro hs ht
    obtain ⟨h1, h2, h3⟩ := ih hs (kidT ht (nk_pos (by omega)))
    simp only [tick] at h1 h2
    exact ⟨by omega, by omega, h3⟩
  | @let_ s t e s' v s'' o hf hk h h' ih ih' =>
    intro hs ht
    obtain ⟨h1, h2, h3⟩ := ih hs (kidT ht (nk_pos (by omega)))
    obtain ⟨g1, g2, g3⟩ := ih' h3 (kidT ht (nk_two (by omega)))
    simp only [tick] at h1 h2
    exact ⟨by omega, by omega, g3⟩
  | @letrecOver s t e s' k hf hk h =>
    intro hs ht
    have := (same_inv N s.store.L.length (s.steps + 1)).codeR (s := tick s) (e := e) (rho := t.rho) (c := ⟨kidAt t 0, t.h.arg, e, some t.rhos⟩) ⟨rfl, rfl, hs⟩ (kidT ht (nk_pos (by omega)))
    have l := code_len (s := tick s) (e := e) (rho := t.rho) (c := ⟨kidAt t 0, t.h.arg, e, some t.rhos⟩) (Nat.le_refl _)
    rw [h] at this l
    obtain ⟨h1, h2, h3⟩ := this
    have l : s'.codes.length ≤ s.codes.length + 1 := l
    exact ⟨by omega, by omega, h3⟩
  | @letrec s t e s' v s'' o hf hk h h' ih =>
    intro hs ht
    have := (same_inv N s.store.L.length (s.steps + 1)).codeR (s := tick s) (e := e) (rho := t.rho) (c := ⟨kidAt t 0, t.h.arg, e, some t.rhos⟩) ⟨rfl, rfl, hs⟩ (kidT ht (nk_pos (by omega)))
    have l := code_len (s := tick s) (e := e) (rho := t.rho) (c := ⟨kidAt t 0, t.h.arg, e, some t.rhos⟩) (Nat.le_refl _)
    rw [h] at this l
    obtain ⟨a1, a2, a3⟩ := this
    have l : s'.codes.length ≤ s.codes.length + 1 := l
    obtain ⟨b1, b2, b3⟩ := ih ((cwn_inv N).patch a3) (kidT ht (nk_two (by omega)))
    rw [patch_steps] at b1 b2
    rw [patch_len] at b1
    exact ⟨by omega, by omega, b3⟩
  | @ifStop s t e s' o hf hk h ho ih =>
    intro hs ht
    obtain ⟨h1, h2, h3⟩ := ih hs (kidT ht (nk_pos (by omega)))
    simp only [tick] at h1 h2
    exact ⟨by omega, by omega, h3⟩
  | @ifStuck s t e s' v hf hk h hv ih =>
    intro hs ht
    obtain ⟨h1, h2, h3⟩ := ih hs (kidT ht (nk_pos (by omega)))
    simp only [tick] at h1 h2
    exact ⟨by omega, by omega, h3⟩
  | @if_ s t e s' v s'' o hf hk h hv h' ih ih' =>
    intro hs ht
    obtain ⟨h1, h2, h3⟩ := ih hs (kidT ht (nk_pos (by omega)))
    obtain ⟨g1, g2, g3⟩ := ih' h3 (kidT ht (nk_if hk))
    simp only [tick] at h1 h2
    exact ⟨by omega, by omega, g3⟩
  | @try_ s t e s' o hf hk h ho ih =>
    intro hs ht
    obtain ⟨h1, h2, h3⟩ := ih hs (kidT ht (nk_pos (by omega)))
    simp only [tick] at h1 h2
    exact ⟨by omega, by omega, h3⟩
  | @catch_ s t e s' n s'' o hf hk h h' ih ih' =>
    intro hs ht
    obtain ⟨h1, h2, h3⟩ := ih hs (kidT ht (nk_pos (by omega)))
    obtain ⟨g1, g2, g3⟩ := ih' h3 (kidT ht (nk_two (by omega)))
    simp only [tick] at h1 h2
    exact ⟨by omega, by omega, g3⟩
  | @stop1 s t e s' o hf hk h ho ih =>
    intro hs ht
    obtain ⟨h1, h2, h3⟩ := ih hs (kidT ht (nk_pos (by omega)))
    simp only [tick] at h1 h2
    exact ⟨by omega, by omega, h3⟩
  | @stop2 s t e s' v s'' o hf hk hl h h' ho ih ih' =>
    intro hs ht
    obtain ⟨h1, h2, h3⟩ := ih hs (kidT ht (nk_pos (by omega)))
    obtain ⟨g1, g2, g3⟩ := ih' h3 (kidT ht (by rw [← ht.1.len]; omega))
    simp only [tick] at h1 h2
    exact ⟨by omega, by omega, g3⟩
  | @rule1 s t e s' v s₂ o hf hk hl h h' ih =>
    intro hs ht
    obtain ⟨h1, h2, h3⟩ := ih hs (kidT ht (nk_pos (by omega)))
    simp only [tick] at h1 h2
    have := h'.all ((same_inv N s'.store.L.length s'.steps).ruleR (s := s') (t := t) (e := e) (vs := [v]) ⟨rfl, rfl, h3⟩)
    have l : s₂.codes.length ≤ s'.codes.length := h'.all (rule_len (Nat.le_refl _))
    exact ⟨by omega, by omega, this.2.2⟩
  | @rule2 s t e s' v s'' w s₃ o hf hk hl h h' h₂ ih ih' =>
    intro hs ht
    obtain ⟨h1, h2, h3⟩ := ih hs (kidT ht (nk_pos (by omega)))
    obtain ⟨g1, g2, g3⟩ := ih' h3 (kidT ht (by rw [← ht.1.len]; omega))
    simp only [tick] at h1 h2
    have := h₂.all ((same_inv N s''.store.L.length s''.steps).ruleR (s := s'') (t := t) (e := e) (vs := [v, w]) ⟨rfl, rfl, g3⟩)
    have l : s₃.codes.length ≤ s''.codes.length := h₂.all (rule_len (Nat.le_refl _))
    exact ⟨by omega, by omega, this.2.2⟩
  | @call s t e s' v s'' w s₃ b e' s₄ o hf hk hl h h' h₂ h₃ ih ih' ih₃ =>
    intro hs ht
    obtain ⟨h1, h2, h3⟩ := ih hs (kidT ht (nk_pos (by omega)))
    obtain ⟨g1, g2, g3⟩ := ih' h3 (kidT ht (by rw [← ht.1.len]; omega))
    obtain ⟨rfl, c, fn, _, hf', rfl, rfl, _⟩ := rule_node h₂
    obtain ⟨c1, c2, c3⟩ := ih₃ g3 ((cwn_inv N).body g3 hf')
    simp only [tick] at h1 h2
    exact ⟨by omega, by omega, c3⟩

/-! ### How it may be over -/
def KO (k : Int) : Prop := k = 0 ∨ k = 3 ∨ k = 4 ∨ k = 5 ∨ k = 6
def Re.ko {α : Type} : Re α → Prop
  | .ok _ _ => True
  | .over _ k => KO k
theorem Re.ko_bind {α β : Type} {r : Re α} {f : α → Sa → Re β} (h : r.ko) (hf : ∀ x s, r = .ok x s → (f x s).ko) : (r.bind f).ko := by
  cases r with
  | ok x s => exact hf x s rfl
  | over s k => exact h
theorem make_ko {s e rho c} : (make s e rho c).ko := by
  unfold make
  split
  · split
    · trivial
    · show KO 4; simp [KO]
  · show KO 5; simp [KO]
theorem take_ko {s v k} : (take s v k).ko := by
  unfold take
  split
  · split
    · show KO 5; simp [KO]
    · split
      · split
        · split
          · trivial
          · show KO 6; simp [KO]
        · show KO 6; simp [KO]
      · show KO 6; simp [KO]
  · show KO 6; simp [KO]
theorem number_ko {s v} : (number s v).ko := by
  unfold number
  split
  · trivial
  · show KO 6; simp [KO]
theorem code_ko {s e rho c} : (Mac.code s e rho c).ko := make_ko
theorem inst_ko {s t e} : (inst s t e).ko := by
  unfold inst
  split
  · show KO 6; simp [KO]
  · split
    · refine Re.ko_bind take_ko fun c s' _ => ?_
      split
      · show KO 0; simp [KO]
      · split
        · split
          · show KO 5; simp [KO]
          · exact code_ko
        · show KO 6; simp [KO]
    · show KO 6; simp [KO]
theorem leaf_ko {s t e} : (leaf s t e).ko := by
  unfold leaf
  split
  · trivial
  · split
    · split
      · split
        · show KO 6; simp [KO]
        · trivial
      · show KO 6; simp [KO]
    · split
      · exact inst_ko
      · exact code_ko
theorem rule_ko {s t e vs} : (rule s t e vs).ko := by
  unfold rule
  split
  · exact Re.ko_bind make_ko fun _ _ _ => trivial
  split
  · exact Re.ko_bind take_ko fun _ _ _ => trivial
  split
  · exact Re.ko_bind take_ko fun _ _ _ => trivial
  split
  · exact Re.ko_bind make_ko fun _ _ _ => trivial
  split
  · exact Re.ko_bind take_ko fun _ _ _ => trivial
  split
  · exact Re.ko_bind take_ko fun _ _ _ => trivial
  split
  · exact Re.ko_bind number_ko fun _ _ _ => Re.ko_bind number_ko fun _ _ _ => trivial
  split
  · exact Re.ko_bind number_ko fun _ _ _ => trivial
  · refine Re.ko_bind take_ko fun _ _ _ => ?_
    split
    · show KO 0; simp [KO]
    · trivial
theorem Rend.ko {r : Re Nx} {s o} (h : Rend r s o) (hr : r.ko) : ∀ k, o = .over k → KO k := by
  cases h with
  | val => intro k h; cases h
  | exn => intro k h; cases h
  | over => intro k h; cases h; exact hr
theorem Big.ko {fuel s t e s' o} (h : Big fuel s t e s' o) : ∀ k, o = .over k → KO k := by
  induction h with
  | full hk h => intro k h; cases h; simp [KO]
  | region hk h h' ih => exact ih
  | fuel hk h => intro k h; cases h; simp [KO]
  | leaf hf hk h => intro k h; cases h
  | @leafOver s t e s' k0 hf hk h => intro k q; cases q; have := leaf_ko (s := tick s) (t := t) (e := e); rw [h] at this; exact this
  | letStop hf hk h ho ih => exact ih
  | let_ hf hk h h' ih ih' => exact ih'
  | @letrecOver s t e s' k0 hf hk h => intro k q; cases q; have := code_ko (s := tick s) (e := e) (rho := t.rho) (c := ⟨kidAt t 0, t.h.arg, e, some t.rhos⟩); rw [h] at this; exact this
  | letrec hf hk h h' ih => exact ih
  | ifStop hf hk h ho ih => exact ih
  | ifStuck hf hk h hv ih => intro k h; cases h; simp [KO]
  | if_ hf hk h hv h' ih ih' => exact ih'
  | try_ hf hk h ho ih => exact ih
  | catch_ hf hk h h' ih ih' => exact ih'
  | stop1 hf hk h ho ih => exact ih
  | stop2 hf hk hl h h' ho ih ih' => exact ih'
  | rule1 hf hk hl h h' ih => exact h'.ko rule_ko
  | rule2 hf hk hl h h' h₂ ih ih' => exact h₂.ko rule_ko
  | call hf hk hl h h' h₂ h₃ ih ih' ih₃ => exact ih₃

/-! ### A whole run -/
def st0 (R C : Int) : SG Cl := ⟨R, C, [(true, [])], 0⟩
def s0 (R C : Int) : Sa := ⟨st0 R C, 0, []⟩
def fin (s : Sa) : Out → Res
  | .val v => if v.kind = 1 then ⟨s, 1, true, v.n, ByteArray.empty⟩ else ⟨s, 1, false, 0, ByteArray.empty⟩
  | .exn n x => ⟨s, 2, false, n, x⟩
  | .over k => ⟨s, k, false, 0, ByteArray.empty⟩
def BB : Nat := 1000000000000
def Whole (fuel : Nat) (R C : Int) (t : AT) (r : Res) : Prop := Ends fuel t.size BB ⟨.node t En.nil, s0 R C, []⟩ r
structure Lim (R C : Int) : Prop where
  R : 1 ≤ R ∧ R ≤ 1048576
  C : 0 ≤ C ∧ C ≤ 4194304
theorem good0 {R C : Int} (h : Lim R C) (N : Nat) : Good N 0 0 0 (s0 R C) where
  cw := by intro c hc; simp [s0] at hc
  ok := by
    refine ⟨h.R, h.C, ?_, ?_, ?_⟩
    · show (1 : Int) ≤ R; exact h.R.1
    · show (0 : Int) ≤ C; exact h.C.1
    · show (0 : Int) ≤ 0 ∧ (0 : Int) ≤ C; exact ⟨Int.le_refl _, h.C.1⟩
  idx := by
    intro i row c h1 h2 h3
    have h1 : [(true, ([] : List Cl))][i]? = some (true, row) := h1
    cases i with
    | zero => simp at h1; subst h1; simp at h2
    | succ i => simp at h1
  steps := Nat.zero_le _
  len := Nat.zero_le _
  codes := Nat.zero_le _
theorem whole_total {fuel : Nat} {R C : Int} {t : AT} (hf : fuel ≤ 3000) (ht : Wf t) (hs : t.size ≤ 400) (hl : Lim R C) : ∃ s' o, Big fuel (s0 R C) t En.nil s' o := by
  exact total fuel t.size fuel t.size (s0 R C) t En.nil (by show fuel ≤ 0 + fuel; omega) (Nat.le_refl _) ⟨ht, Nat.le_refl _⟩ (good0 hl _).cw
theorem whole_of {fuel : Nat} {R C : Int} {t : AT} (hf : fuel ≤ 3000) (ht : Wf t) (hs : t.size ≤ 400) (hl : Lim R C) {s' o} (h : Big fuel (s0 R C) t En.nil s' o) : Whole fuel R C t (fin s' o) := by
  have hT : TN t.size t := ⟨ht, Nat.le_refl _⟩
  have hg := good0 hl t.size
  have hL := h.left hg.cw hT (by show 1 ≤ [0].length; simp) (Nat.zero_le _)
  obtain ⟨h1, h2, h3, _⟩ := h.regions hg.cw hT
  obtain ⟨h4, _, _⟩ := h.codes hg.cw hT
  have hst := hL.steps
  have e0 : (s0 R C).store.L.length = 1 := rfl
  have e1 : (s0 R C).steps = 0 := rfl
  have e2 : (s0 R C).codes.length = 0 := rfl
  rw [e0, e1] at h1
  rw [e1, e2] at h4
  have hm : 3 * t.size * (s'.steps - 0) ≤ 3 * 400 * 3000 := Nat.mul_le_mul (by omega) (by omega)
  have hb : Bd BB s' := ⟨by show _ ≤ 1000000000000; omega, by show _ ≤ 1000000000000; omega⟩
  have hG := h.good hg hT
  have hK : Ks (s0 R C) [] := ⟨by simp, Nat.zero_le _⟩
  have hK' := hK.later hG
  refine big_runs h hg hT hb [] _ hK ?_
  cases o with
  | val v =>
    by_cases hv : v.kind = 1
    · have e : fin s' (.val v) = ⟨s', 1, true, v.n, ByteArray.empty⟩ := by simp only [fin]; rw [if_pos hv]
      rw [e]
      exact Ends.end_ (fitsV hG.zero hb hK') (by simp [step, hv])
    · have e : fin s' (.val v) = ⟨s', 1, false, 0, ByteArray.empty⟩ := by simp only [fin]; rw [if_neg hv]
      rw [e]
      exact Ends.end_ (fitsV hG.zero hb hK') (by simp [step, hv])
  | exn n x => exact Ends.end_ (fitsE hG.zero hb hK') (by simp [step, raise])
  | over k => rfl
theorem runs_det {fuel N B m j r} (h : Runs' fuel N B m j r) : ∀ {j' r'}, Runs' fuel N B m j' r' → r' = r := by
  induction h with
  | end_ hf h =>
    intro j' r' h'
    cases h' with
    | end_ _ h2 => rw [h] at h2; cases h2; rfl
    | on _ h2 _ => rw [h] at h2; cases h2
  | on hf h h' ih =>
    intro j' r' h'
    cases h' with
    | end_ _ h2 => rw [h] at h2; cases h2
    | on _ h2 h3 => rw [h] at h2; cases h2; exact ih h3
theorem whole_det {fuel R C t r r'} (h : Whole fuel R C t r) (h' : Whole fuel R C t r') : r' = r := by
  obtain ⟨j, h⟩ := h
  obtain ⟨j', h'⟩ := h'
  exact runs_det h h'
end Go.Abs.Mac
set_option linter.unusedVariables false
set_option linter.unusedSimpArgs false
namespace Go.Abs.Mac
open Go Go.Abs Go.Abs.Stk Go.Abs.At

structure RunOk (fuel : Nat) (R C : Int) (t : AT) : Prop where
  f : fuel ≤ 3000
  wf : Wf t
  sz : t.size ≤ 400
  lim : Lim R C
theorem whole_big {fuel R C t r} (h : RunOk fuel R C t) (hw : Whole fuel R C t r) : ∃ s' o, Big fuel (s0 R C) t En.nil s' o ∧ r = fin s' o := by
  obtain ⟨s', o, hb⟩ := whole_total h.f h.wf h.sz h.lim
  exact ⟨s', o, hb, whole_det (whole_of h.f h.wf h.sz h.lim hb) hw⟩
theorem fin_s (s : Sa) (o : Out) : (fin s o).s = s := by
  cases o with
  | val v => simp only [fin]; split <;> rfl
  | exn n x => rfl
  | over k => rfl
theorem fin_done {s : Sa} {o : Out} (h : ∀ k, o = .over k → KO k) : (fin s o).kind = 1 ∨ (fin s o).kind = 2 → ¬ o.isOver := by
  cases o with
  | val v => intro _ h; exact h
  | exn n x => intro _ h; exact h
  | over q => intro hk; have := h q rfl; simp [fin] at hk; unfold KO at this; omega
theorem whole_good {fuel R C t r} (h : RunOk fuel R C t) (hw : Whole fuel R C t r) : r.s.steps ≤ fuel ∧ SOk r.s.store ∧ r.s.store.L.length ≤ BB ∧ (r.s.store.R = R ∧ r.s.store.C = C) := by
  obtain ⟨s', o, hb, rfl⟩ := whole_big h hw
  rw [fin_s]
  have hT : TN t.size t := ⟨h.wf, Nat.le_refl _⟩
  have hg := good0 h.lim t.size
  have hL := hb.left hg.cw hT (by show 1 ≤ [0].length; simp) (Nat.zero_le _)
  have hG := hb.good hg hT
  obtain ⟨h1, h2, h3, _⟩ := hb.regions hg.cw hT
  have e0 : (s0 R C).store.L.length = 1 := rfl
  have e1 : (s0 R C).steps = 0 := rfl
  rw [e0, e1] at h1
  have hst := hL.steps
  have hm : 3 * t.size * (s'.steps - 0) ≤ 3 * 400 * 3000 := Nat.mul_le_mul (by have := h.sz; omega) (by have := h.f; omega)
  have := h.sz
  exact ⟨hst, hG.ok, by show _ ≤ 1000000000000; omega, (hb.rc hg.cw hT).1⟩
/-- What a run leaves. -/
theorem leaves_law {fuel R C t r} (h : RunOk fuel R C t) (hw : Whole fuel R C t r) :
    (r.kind = 1 ∨ r.kind = 2 → r.s.store.live.length = 1) ∧ r.s.steps ≤ fuel ∧ 1 ≤ r.s.store.live.length ∧ (r.s.store.live.length : Int) ≤ R ∧ (r.s.store.cells : Int) ≤ r.s.store.most ∧ r.s.store.most ≤ C := by
  obtain ⟨g1, g2, _, g3, g4⟩ := whole_good h hw
  obtain ⟨s', o, hb, rfl⟩ := whole_big h hw
  have hT : TN t.size t := ⟨h.wf, Nat.le_refl _⟩
  have hg := good0 h.lim t.size
  have hL := hb.left hg.cw hT (by show 1 ≤ [0].length; simp) (Nat.zero_le _)
  refine ⟨fun hk => ?_, g1, by rw [fin_s]; exact hL.one, by have := g2.live; rw [g3] at this; exact this, g2.most.1, by have := g2.most.2; rw [g4] at this; exact this⟩
  rw [fin_s, hL.same (fin_done hb.ko hk)]
  rfl
/-- The same ends. -/
structure SameEnd (r r' : Res) (d : Nat) : Prop where
  kind : r'.kind = r.kind
  isInt : r'.isInt = r.isInt
  n : r'.n = r.n
  exn : r'.exn = r.exn
  steps : r'.s.steps = r.s.steps + d
  live : r'.s.store.live.length = r.s.store.live.length
  cells : r'.s.store.cells = r.s.store.cells
  most : r'.s.store.most = r.s.store.most
end Go.Abs.Mac
