import Derived.Test.YtjilebpcaemopaaGreatDoorMacM
set_option linter.unusedVariables false
set_option linter.unusedSimpArgs false
namespace Go.Abs.Mac
open Go Go.Abs Go.Abs.Stk Go.Abs.At

/-- How many kids a node has. -/
def nk (k : Int) : Nat :=
  if k = 3 ∨ k = 8 ∨ k = 9 ∨ k = 10 ∨ k = 12 ∨ k = 13 ∨ k = 16 then 2
  else if k = 4 ∨ k = 5 ∨ k = 6 ∨ k = 7 ∨ k = 11 ∨ k = 15 ∨ k = 17 then 1
  else if k = 14 then 3 else 0
inductive Wf : AT → Prop
  | mk {t : AT} (h1 : 1 ≤ t.h.kind ∧ t.h.kind ≤ 18) (h2 : t.kids.length = nk t.h.kind) (h3 : ∀ c ∈ t.kids, Wf c) (h4 : t.rhos.length ≤ 1000000) : Wf t
theorem Wf.kind {t : AT} (h : Wf t) : 1 ≤ t.h.kind ∧ t.h.kind ≤ 18 := by cases h; assumption
theorem Wf.len {t : AT} (h : Wf t) : t.kids.length = nk t.h.kind := by cases h; assumption
theorem Wf.kids {t : AT} (h : Wf t) : ∀ c ∈ t.kids, Wf c := by cases h; assumption
theorem Wf.rhos {t : AT} (h : Wf t) : t.rhos.length ≤ 1000000 := by cases h; assumption
theorem kidAt_mem {t : AT} {i : Nat} (h : i < t.kids.length) : kidAt t i ∈ t.kids := by
  unfold kidAt
  rw [List.getElem?_eq_getElem h]
  exact List.getElem_mem h
theorem kid_lt {t c : AT} (h : c ∈ t.kids) : c.size < t.size := by
  obtain ⟨_, _, _, _, _, _, ks⟩ := t
  have := AT.sizes_mem (show c ∈ ks from h)
  simp [AT.size]; omega
theorem Wf.kid {t : AT} (h : Wf t) {i : Nat} (hi : i < nk t.h.kind) : Wf (kidAt t i) := h.kids _ (kidAt_mem (by rw [h.len]; exact hi))
theorem Wf.kid_lt {t : AT} (h : Wf t) {i : Nat} (hi : i < nk t.h.kind) : (kidAt t i).size < t.size := Mac.kid_lt (kidAt_mem (by rw [h.len]; exact hi))
theorem nk_pos {k : Int} (h : k = 17 ∨ k = 12 ∨ k = 13 ∨ k = 14 ∨ k = 16 ∨ 3 ≤ k ∧ k ≤ 10 ∨ k = 15 ∨ k = 11) : 0 < nk k := by
  unfold nk; split
  · omega
  · split
    · omega
    · split <;> omega
theorem nk_two {k : Int} (h : k = 12 ∨ k = 13 ∨ k = 14 ∨ k = 16) : 1 < nk k := by
  unfold nk; split
  · omega
  · split
    · omega
    · split <;> omega
theorem nk_12 {k : Int} (h : 3 ≤ k ∧ k ≤ 10 ∨ k = 15) : nk k = 1 ∨ nk k = 2 := by
  unfold nk; split
  · omega
  · split
    · omega
    · split <;> omega
theorem nk_if {k n : Int} (h : k = 14) : (if n ≠ 0 then 1 else 2) < nk k := by
  subst h; unfold nk; simp; split <;> omega

/-! ### What a part of it leaves -/
/-- What stays true, whatever is made. -/
structure Inv0 (I : Sa → Prop) (T : AT → Prop) : Prop where
  kid : ∀ {t i}, T t → i < t.kids.length → T (kidAt t i)
  wf : ∀ {t}, T t → Wf t
  put : ∀ {s r c v st}, I s → c.kind ≠ 3 → putS s.store r c = some (v, st) → I { s with store := st }
  code : ∀ {s c}, I s → T c.body → I (coded s c).2
  codePut : ∀ {s c r v st}, I s → T c.body → putS s.store r (coded s c).1 = some (v, st) → I { (coded s c).2 with store := st }
  set : ∀ {s v c}, I s → c.kind = 2 → I { s with store := setS s.store v c }
  body : ∀ {s : Sa} {i : Nat} {f : Co}, I s → s.codes[i]? = some f → T f.body
/-- What stays true, whatever is done. -/
structure Inv (I : Sa → Prop) (T : AT → Prop) : Prop extends Inv0 I T where
  tick : ∀ {s}, I s → I (tick s)
  push : ∀ {s r st}, I s → pushS s.store = some (r, st) → I { s with store := st }
  pop : ∀ {s}, I s → I { s with store := popS s.store }
  patch : ∀ {s e}, I s → I (patch s e)

def Re.all {α : Type} (p : Sa → Prop) : Re α → Prop
  | .ok _ s => p s
  | .over s _ => p s
theorem Re.all_bind {α β : Type} {p : Sa → Prop} {r : Re α} {f : α → Sa → Re β} (h : r.all p) (hf : ∀ x s, r = .ok x s → p s → (f x s).all p) : (r.bind f).all p := by
  cases r with
  | ok x s => exact hf x s rfl h
  | over s k => exact h
theorem take_same {s v k} {p : Sa → Prop} (h : p s) : (take s v k).all p := by
  unfold take
  repeat' split
  all_goals exact h
theorem take_ok {s v k c s'} (h : take s v k = .ok c s') : s' = s ∧ c.kind = k ∧ cellAt s.store v = some c ∧ s.store.find v.kind v.n v.r v.a = 0 := by
  unfold take at h
  split at h
  · split at h
    · cases h
    · split at h
      · rename_i h0
        split at h
        · split at h
          · rename_i hc hk; cases h; exact ⟨rfl, hk, hc, h0⟩
          · cases h
        · cases h
      · cases h
  · cases h
theorem number_same {s v} {p : Sa → Prop} (h : p s) : (number s v).all p := by
  unfold number; split <;> exact h
variable {I : Sa → Prop} {T : AT → Prop}
theorem Inv0.make (H : Inv0 I T) {s e rho c} (h : I s) (hc : c.kind ≠ 3) : (make s e rho c).all I := by
  unfold Mac.make
  split
  · split
    · rename_i hp; exact H.put h hc hp
    · exact h
  · exact h
theorem Inv0.codeR (H : Inv0 I T) {s e rho c} (h : I s) (hT : T c.body) : (Mac.code s e rho c).all I := by
  unfold Mac.code Mac.make
  split
  · split
    · rename_i hp; exact H.codePut h hT hp
    · exact H.code h hT
  · exact H.code h hT
theorem Inv0.instR (H : Inv0 I T) {s t e} (h : I s) : (inst s t e).all I := by
  unfold inst
  split
  · exact h
  · split
    · refine Re.all_bind (take_same h) fun c s' hr hs => ?_
      split
      · exact hs
      · rename_i f hf
        split
        · split
          · exact hs
          · exact H.codeR hs (H.body (f := f) hs hf)
        · exact hs
    · exact h
theorem Inv0.leafR (H : Inv0 I T) {s t e} (h : I s) (hT : T t) (hk : isLeaf t.h.kind) : (leaf s t e).all I := by
  unfold leaf
  split
  · exact h
  · split
    · split
      · split <;> exact h
      · exact h
    · split
      · exact H.instR h
      · refine H.codeR h (H.kid hT ?_)
        rw [(H.wf hT).len]
        unfold isLeaf at hk
        exact nk_pos (by omega)
theorem Inv0.ruleR (H : Inv0 I T) {s t e vs} (h : I s) : (rule s t e vs).all I := by
  unfold rule
  split
  · exact Re.all_bind (H.make h (by simp)) fun _ _ _ hs => hs
  split
  · exact Re.all_bind (take_same h) fun _ _ _ hs => hs
  split
  · exact Re.all_bind (take_same h) fun _ _ _ hs => hs
  split
  · exact Re.all_bind (H.make h (by simp)) fun _ _ _ hs => hs
  split
  · exact Re.all_bind (take_same h) fun _ _ _ hs => hs
  split
  · exact Re.all_bind (take_same h) fun _ _ _ hs => H.set hs rfl
  split
  · exact Re.all_bind (number_same h) fun _ _ _ hs => Re.all_bind (number_same hs) fun _ _ _ hs => hs
  split
  · exact Re.all_bind (number_same h) fun _ _ _ hs => hs
  · refine Re.all_bind (take_same h) fun _ _ _ hs => ?_
    split <;> exact hs
theorem rule_node {s t e vs b e' s'} (h : rule s t e vs = .ok (.node b e') s') : s' = s ∧ ∃ c f, take s (at0 vs 0) 3 = .ok c s ∧ s.codes[c.code.toNat]? = some f ∧ b = f.body ∧ e' = f.env.with f.arg (at0 vs 1) false ∧ ¬ (3 ≤ t.h.kind ∧ t.h.kind ≤ 9 ∨ t.h.kind = 15) := by
  unfold rule at h
  split at h
  · cases hm : make s e t.rho ⟨1, at0 vs 0, at0 vs 1, 0⟩ <;> rw [hm] at h <;> cases h
  split at h
  · cases hm : take s (at0 vs 0) 1 <;> rw [hm] at h <;> cases h
  split at h
  · cases hm : take s (at0 vs 0) 1 <;> rw [hm] at h <;> cases h
  split at h
  · cases hm : make s e t.rho ⟨2, at0 vs 0, V.zero, 0⟩ <;> rw [hm] at h <;> cases h
  split at h
  · cases hm : take s (at0 vs 0) 2 <;> rw [hm] at h <;> cases h
  split at h
  · cases hm : take s (at0 vs 0) 2 <;> rw [hm] at h <;> cases h
  split at h
  · cases hm : number s (at0 vs 0) with
    | over => rw [hm] at h; cases h
    | ok a s1 =>
      rw [hm] at h
      simp only [Re.bind] at h
      cases hn : number s1 (at0 vs 1) <;> rw [hn] at h <;> cases h
  split at h
  · cases hm : number s (at0 vs 0) <;> rw [hm] at h <;> cases h
  · cases hm : take s (at0 vs 0) 3 with
    | over => rw [hm] at h; cases h
    | ok c s1 =>
      obtain ⟨rfl, _⟩ := take_ok hm
      rw [hm] at h
      simp only [Re.bind] at h
      split at h
      · cases h
      · rename_i f hf
        cases h
        exact ⟨rfl, c, f, rfl, hf, rfl, rfl, by omega⟩
theorem Rend.all {p : Sa → Prop} {r : Re Nx} {s o} (h : Rend r s o) (hr : r.all p) : p s := by cases h <;> exact hr
theorem Big.inv {fuel} (H : Inv I T) {s t e s' o} (h : Big fuel s t e s' o) : I s → T t → I s' := by
  induction h with
  | full hk h => exact fun h _ => h
  | @region s t e r st s' o hk h h' ih =>
    intro hs ht
    have := ih (H.push hs h) (H.kid ht (by rw [(H.wf ht).len]; exact nk_pos (by omega)))
    cases o <;> first | exact H.pop this | exact this
  | fuel hk h => exact fun h _ => h
  | @leaf s t e s' v hf hk h =>
    intro hs ht
    have := H.leafR (e := e) (H.tick hs) ht hk
    rw [h] at this; exact this
  | @leafOver s t e s' k hf hk h =>
    intro hs ht
    have := H.leafR (e := e) (H.tick hs) ht hk
    rw [h] at this; exact this
  | letStop hf hk h ho ih => exact fun hs ht => ih (H.tick hs) (H.kid ht (by rw [(H.wf ht).len]; exact nk_pos (by omega)))
  | let_ hf hk h h' ih ih' =>
    exact fun hs ht => ih' (ih (H.tick hs) (H.kid ht (by rw [(H.wf ht).len]; exact nk_pos (by omega)))) (H.kid ht (by rw [(H.wf ht).len]; exact nk_two (by omega)))
  | @letrecOver s t e s' k hf hk h =>
    intro hs ht
    have := H.codeR (e := e) (rho := t.rho) (H.tick hs) (c := ⟨kidAt t 0, t.h.arg, e, some t.rhos⟩) (H.kid ht (i := 0) (by rw [(H.wf ht).len]; exact nk_pos (by omega)))
    rw [h] at this; exact this
  | @letrec s t e s' v s'' o hf hk h h' ih =>
    intro hs ht
    have := H.codeR (e := e) (rho := t.rho) (H.tick hs) (c := ⟨kidAt t 0, t.h.arg, e, some t.rhos⟩) (H.kid ht (i := 0) (by rw [(H.wf ht).len]; exact nk_pos (by omega)))
    rw [h] at this
    exact ih (H.patch this) (H.kid ht (by rw [(H.wf ht).len]; exact nk_two (by omega)))
  | ifStop hf hk h ho ih => exact fun hs ht => ih (H.tick hs) (H.kid ht (by rw [(H.wf ht).len]; exact nk_pos (by omega)))
  | ifStuck hf hk h hv ih => exact fun hs ht => ih (H.tick hs) (H.kid ht (by rw [(H.wf ht).len]; exact nk_pos (by omega)))
  | if_ hf hk h hv h' ih ih' =>
    exact fun hs ht => ih' (ih (H.tick hs) (H.kid ht (by rw [(H.wf ht).len]; exact nk_pos (by omega)))) (H.kid ht (by rw [(H.wf ht).len]; exact nk_if hk))
  | try_ hf hk h ho ih => exact fun hs ht => ih (H.tick hs) (H.kid ht (by rw [(H.wf ht).len]; exact nk_pos (by omega)))
  | catch_ hf hk h h' ih ih' =>
    exact fun hs ht => ih' (ih (H.tick hs) (H.kid ht (by rw [(H.wf ht).len]; exact nk_pos (by omega)))) (H.kid ht (by rw [(H.wf ht).len]; exact nk_two (by omega)))
  | stop1 hf hk h ho ih => exact fun hs ht => ih (H.tick hs) (H.kid ht (by rw [(H.wf ht).len]; exact nk_pos (by omega)))
  | stop2 hf hk hl h h' ho ih ih' => exact fun hs ht => ih' (ih (H.tick hs) (H.kid ht (by omega))) (H.kid ht (by omega))
  | rule1 hf hk hl h h' ih => exact fun hs ht => h'.all (H.ruleR (ih (H.tick hs) (H.kid ht (by omega))))
  | rule2 hf hk hl h h' h2 ih ih' => exact fun hs ht => h2.all (H.ruleR (ih' (ih (H.tick hs) (H.kid ht (by omega))) (H.kid ht (by omega))))
  | call hf hk hl h h' h2 h3 ih ih' ih3 =>
    intro hs ht
    have h2' := ih' (ih (H.tick hs) (H.kid ht (by omega))) (H.kid ht (by omega))
    obtain ⟨rfl, c, f, _, hf', rfl, rfl, _⟩ := rule_node h2
    exact ih3 h2' (H.body h2' hf')

/-! ### It comes to an end -/
def CW (T : AT → Prop) (s : Sa) : Prop := ∀ c ∈ s.codes, T c.body
theorem cw_inv (T : AT → Prop) (hk : ∀ {t i}, T t → i < t.kids.length → T (kidAt t i)) (hw : ∀ {t}, T t → Wf t) : Inv (CW T) T where
  kid := hk
  wf := hw
  tick := fun h => h
  push := fun h _ => h
  pop := fun h => h
  put := fun h _ _ => h
  code := @fun s c h hc x hx => by
    have hx := List.mem_append.1 (show x ∈ s.codes ++ [c] from hx)
    rw [List.mem_singleton] at hx
    rcases hx with hx | rfl
    · exact h x hx
    · exact hc
  codePut := @fun s c r v st h hc _ x hx => by
    have hx := List.mem_append.1 (show x ∈ s.codes ++ [c] from hx)
    rw [List.mem_singleton] at hx
    rcases hx with hx | rfl
    · exact h x hx
    · exact hc
  set := fun h _ => h
  patch := fun {s e} h x hx => by
    unfold Mac.patch at hx
    split at hx
    · rename_i c hc
      simp only [List.mem_append, List.mem_singleton] at hx
      rcases hx with hx | rfl
      · exact h x (List.dropLast_subset _ hx)
      · exact h c (List.mem_of_getLast? hc)
    · exact h x hx
  body := fun h hi => h _ (List.mem_of_getElem? hi)
def TN (N : Nat) (t : AT) : Prop := Wf t ∧ t.size ≤ N
theorem cwn_inv (N : Nat) : Inv (CW (TN N)) (TN N) :=
  cw_inv (TN N) (fun h hi => ⟨h.1.kids _ (kidAt_mem hi), Nat.le_trans (Nat.le_of_lt (kid_lt (kidAt_mem hi))) h.2⟩) (fun h => h.1)
theorem steps_inv (n : Nat) (N : Nat) : Inv (fun s => n ≤ s.steps ∧ CW (TN N) s) (TN N) where
  kid := (cwn_inv N).kid
  wf := (cwn_inv N).wf
  tick := fun h => ⟨Nat.le_succ_of_le h.1, h.2⟩
  push := fun h _ => h
  pop := fun h => h
  put := fun h _ _ => h
  code := fun h hc => ⟨h.1, (cwn_inv N).code h.2 hc⟩
  codePut := fun h hc hp => ⟨h.1, (cwn_inv N).codePut h.2 hc hp⟩
  set := fun h _ => h
  patch := fun {s e} h => ⟨by unfold Mac.patch; split <;> exact h.1, (cwn_inv N).patch h.2⟩
  body := fun h hi => (cwn_inv N).body h.2 hi
theorem Big.steps_le {fuel N s t e s' o} (h : Big fuel s t e s' o) (hs : CW (TN N) s) (ht : TN N t) : s.steps ≤ s'.steps ∧ CW (TN N) s' :=
  h.inv (steps_inv s.steps N) ⟨Nat.le_refl _, hs⟩ ht

theorem kinds {k : Int} (h : 1 ≤ k ∧ k ≤ 18) (h17 : k ≠ 17) : isLeaf k ∨ k = 12 ∨ k = 13 ∨ k = 14 ∨ k = 16 ∨ (3 ≤ k ∧ k ≤ 10 ∨ k = 15) := by
  unfold isLeaf; omega
theorem code_pres {N s e rho c} (h : CW (TN N) s) (hT : TN N c.body) : (Mac.code s e rho c).all (fun s' => s'.steps = s.steps ∧ CW (TN N) s') := by
  unfold Mac.code Mac.make
  split
  · split
    · rename_i hp; exact ⟨rfl, (cwn_inv N).codePut h hT hp⟩
    · exact ⟨rfl, (cwn_inv N).code h hT⟩
  · exact ⟨rfl, (cwn_inv N).code h hT⟩
theorem patch_steps (s e) : (patch s e).steps = s.steps := by unfold patch; split <;> rfl
theorem rend_or {r : Re Nx} : (∃ s o, Rend r s o) ∨ ∃ b e s, r = .ok (.node b e) s := by
  cases r with
  | ok x s => cases x with
    | node b e => exact .inr ⟨b, e, s, rfl⟩
    | val v => exact .inl ⟨_, _, .val⟩
    | exn n x => exact .inl ⟨_, _, .exn⟩
  | over s k => exact .inl ⟨_, _, .over⟩
theorem total (fuel N : Nat) : ∀ (d m : Nat) s t e, fuel ≤ s.steps + d → t.size ≤ m → TN N t → CW (TN N) s → ∃ s' o, Big fuel s t e s' o := by
  intro d
  induction d with
  | zero =>
    intro m
    induction m with
    | zero => intro s t e hd hm; have := t.size_pos; omega
    | succ m ihm =>
      intro s t e hd hm ht hs
      by_cases h17 : t.h.kind = 17
      · cases hp : pushS s.store with
        | none => exact ⟨_, _, .full h17 hp⟩
        | some p =>
          obtain ⟨r, st⟩ := p
          have h0 : 0 < nk t.h.kind := nk_pos (by omega)
          obtain ⟨s', o, h⟩ := ihm { s with store := st } (kidAt t 0) (e.opn t.rho r) hd (by have := ht.1.kid_lt h0; omega) ((cwn_inv N).kid ht (by rw [ht.1.len]; exact h0)) hs
          exact ⟨_, _, .region h17 hp h⟩
      · exact ⟨_, _, .fuel h17 (by omega)⟩
  | succ d ihd =>
    intro m
    induction m with
    | zero => intro s t e hd hm; have := t.size_pos; omega
    | succ m ihm =>
      intro s t e hd hm ht hs
      have K := fun {i : Nat} (hi : i < nk t.h.kind) => (cwn_inv N).kid (i := i) ht (by rw [ht.1.len]; exact hi)
      by_cases h17 : t.h.kind = 17
      · cases hp : pushS s.store with
        | none => exact ⟨_, _, .full h17 hp⟩
        | some p =>
          obtain ⟨r, st⟩ := p
          have h0 : 0 < nk t.h.kind := nk_pos (by omega)
          obtain ⟨s', o, h⟩ := ihm { s with store := st } (kidAt t 0) (e.opn t.rho r) hd (by have := ht.1.kid_lt h0; omega) (K h0) hs
          exact ⟨_, _, .region h17 hp h⟩
      by_cases hf : s.steps < fuel
      case neg => exact ⟨_, _, .fuel h17 (by omega)⟩
      have ih : ∀ s₁ t₁ e₁, s.steps + 1 ≤ s₁.steps → TN N t₁ → CW (TN N) s₁ → ∃ s' o, Big fuel s₁ t₁ e₁ s' o ∧ s.steps + 1 ≤ s'.steps ∧ CW (TN N) s' := by
        intro s₁ t₁ e₁ h1 h2 h3
        obtain ⟨s', o, h⟩ := ihd t₁.size s₁ t₁ e₁ (by omega) (Nat.le_refl _) h2 h3
        have := h.steps_le h3 h2
        exact ⟨s', o, h, by omega, this.2⟩
      have hst : CW (TN N) (tick s) := hs
      have hti : s.steps + 1 ≤ (tick s).steps := Nat.le_refl _
      rcases kinds ht.1.kind h17 with hk | hk | hk | hk | hk | hk
      · cases hl : leaf (tick s) t e with
        | ok v s' => exact ⟨_, _, .leaf hf hk hl⟩
        | over s' k => exact ⟨_, _, .leafOver hf hk hl⟩
      · obtain ⟨s₁, o, h, h1, h2⟩ := ih (tick s) (kidAt t 0) e hti (K (nk_pos (by omega))) hst
        cases o with
        | val v =>
          obtain ⟨s₂, o, h', _, _⟩ := ih s₁ (kidAt t 1) (e.with t.h.name v false) h1 (K (nk_two (by omega))) h2
          exact ⟨_, _, .let_ hf hk h h'⟩
        | exn n x => exact ⟨_, _, .letStop hf hk h (by simp [Out.isVal])⟩
        | over k => exact ⟨_, _, .letStop hf hk h (by simp [Out.isVal])⟩
      · have := code_pres (e := e) (rho := t.rho) (c := ⟨kidAt t 0, t.h.arg, e, some t.rhos⟩) hst (K (nk_pos (by omega)))
        cases hl : code (tick s) e t.rho ⟨kidAt t 0, t.h.arg, e, some t.rhos⟩ with
        | ok v s' =>
          rw [hl] at this
          obtain ⟨s₂, o, h', _, _⟩ := ih (patch s' (e.with t.h.name v true)) (kidAt t 1) (e.with t.h.name v true) (by rw [patch_steps, this.1]; exact hti) (K (nk_two (by omega))) ((cwn_inv N).patch this.2)
          exact ⟨_, _, .letrec hf hk hl h'⟩
        | over s' k => exact ⟨_, _, .letrecOver hf hk hl⟩
      · obtain ⟨s₁, o, h, h1, h2⟩ := ih (tick s) (kidAt t 0) e hti (K (nk_pos (by omega))) hst
        cases o with
        | val v =>
          by_cases hv : v.kind = 1
          · obtain ⟨s₂, o, h', _, _⟩ := ih s₁ (kidAt t (if v.n ≠ 0 then 1 else 2)) e h1 (K (nk_if hk)) h2
            exact ⟨_, _, .if_ hf hk h hv h'⟩
          · exact ⟨_, _, .ifStuck hf hk h hv⟩
        | exn n x => exact ⟨_, _, .ifStop hf hk h (by simp [Out.isVal])⟩
        | over k => exact ⟨_, _, .ifStop hf hk h (by simp [Out.isVal])⟩
      · obtain ⟨s₁, o, h, h1, h2⟩ := ih (tick s) (kidAt t 0) e hti (K (nk_pos (by omega))) hst
        by_cases ho : ∃ n, o = .exn n t.h.exn
        · obtain ⟨n, rfl⟩ := ho
          obtain ⟨s₂, o, h', _, _⟩ := ih s₁ (kidAt t 1) (e.with t.h.arg (num n) false) h1 (K (nk_two (by omega))) h2
          exact ⟨_, _, .catch_ hf hk h h'⟩
        · exact ⟨_, _, .try_ hf hk h (fun n e => ho ⟨n, e⟩)⟩
      · obtain ⟨s₁, o, h, h1, h2⟩ := ih (tick s) (kidAt t 0) e hti (K (nk_pos (by omega))) hst
        cases o with
        | val v =>
          rcases nk_12 hk with hn | hn
          · have hl : t.kids.length = 1 := by rw [ht.1.len, hn]
            rcases rend_or (r := rule s₁ t e [v]) with ⟨s', o, h'⟩ | ⟨b, e', s', h'⟩
            · exact ⟨_, _, .rule1 hf hk hl h h'⟩
            · exfalso
              have h10 : t.h.kind ≠ 10 := by intro e; rw [e] at hn; simp [nk] at hn
              obtain ⟨_, _, _, _, _, _, _, hno⟩ := rule_node h'
              omega
          · have hl : t.kids.length = 2 := by rw [ht.1.len, hn]
            obtain ⟨s₂, o, h', h3, h4⟩ := ih s₁ (kidAt t 1) e h1 (K (by omega)) h2
            cases o with
            | val w =>
              rcases rend_or (r := rule s₂ t e [v, w]) with ⟨s', o, h'2⟩ | ⟨b, e', s', h'2⟩
              · exact ⟨_, _, .rule2 hf hk hl h h' h'2⟩
              · obtain ⟨rfl, c, f, _, hf', rfl, rfl, _⟩ := rule_node h'2
                obtain ⟨s₃, o, h5, _, _⟩ := ih s' f.body (f.env.with f.arg (at0 [v, w] 1) false) h3 ((cwn_inv N).body h4 hf') h4
                exact ⟨_, _, .call hf hk hl h h' h'2 h5⟩
            | exn n x => exact ⟨_, _, .stop2 hf hk hl h h' (by simp [Out.isVal])⟩
            | over k => exact ⟨_, _, .stop2 hf hk hl h h' (by simp [Out.isVal])⟩
        | exn n x => exact ⟨_, _, .stop1 hf hk h (by simp [Out.isVal])⟩
        | over k => exact ⟨_, _, .stop1 hf hk h (by simp [Out.isVal])⟩

/-! ### How many regions are made -/
theorem popS_len (s : SG Cl) : (popS s).L.length = s.L.length := by
  unfold popS
  split
  · rfl
  · split
    · simp [SG.less]
    · rfl
theorem putS_len {s : SG Cl} {r c v st} (h : putS s r c = some (v, st)) : st.L.length = s.L.length := by
  unfold putS at h
  split at h
  · cases h
  · split at h
    · cases h
    · cases h; simp [SG.putC]
theorem setS_len (s : SG Cl) (v c) : (setS s v c).L.length = s.L.length := by
  unfold setS
  split
  · simp [SG.put]
  · rfl
theorem pushS_len {s : SG Cl} {r st} (h : pushS s = some (r, st)) : st.L.length = s.L.length + 1 := by
  unfold pushS at h
  split at h
  · cases h; simp [SG.more]
  · cases h
theorem same_inv (N n m : Nat) : Inv0 (fun s => s.store.L.length = n ∧ s.steps = m ∧ CW (TN N) s) (TN N) where
  kid := (cwn_inv N).kid
  wf := (cwn_inv N).wf
  put := fun h _ hp => ⟨(putS_len hp).trans h.1, h.2⟩
  code := fun h hc => ⟨h.1, h.2.1, (cwn_inv N).code h.2.2 hc⟩
  codePut := fun h hc hp => ⟨(putS_len hp).trans h.1, h.2.1, (cwn_inv N).codePut h.2.2 hc hp⟩
  set := fun h _ => ⟨(setS_len _ _ _).trans h.1, h.2⟩
  body := fun h hi => (cwn_inv N).body h.2.2 hi
theorem popO_same (o : Out) (s : Sa) : (popO o s).store.L.length = s.store.L.length ∧ (popO o s).steps = s.steps ∧ (popO o s).codes = s.codes := by
  cases o <;> simp [popO, popS_len]
theorem patch_store (s e) : (patch s e).store = s.store := by unfold patch; split <;> rfl
theorem TN.kidN {N t i} (h : TN N t) (hi : i < nk t.h.kind) : TN N (kidAt t i) ∧ (kidAt t i).size ≤ N :=
  have := (cwn_inv N).kid h (by rw [h.1.len]; exact hi)
  ⟨this, this.2⟩
theorem arith {a b c d e : Nat} (h : a + 1 ≤ b) (h' : c ≤ d + e * 3 + 3 * e * (b - (a + 1))) : c ≤ d + 3 * e * (b - a) := by
  have : b - a = (b - (a + 1)) + 1 := by omega
  rw [this, Nat.mul_add]; omega
theorem step3 {N a b c d x y : Nat} (h1 : x ≤ a + N + 3 * N * (c - b)) (h2 : y ≤ x + N + 3 * N * (d - c)) (hbc : b ≤ c) (hcd : c ≤ d) : y ≤ a + N + N + 3 * N * (d - b) := by
  have : d - b = (c - b) + (d - c) := by omega
  rw [this, Nat.mul_add]; omega
theorem Big.regions {fuel N s t e s' o} (h : Big fuel s t e s' o) : CW (TN N) s → TN N t → s'.store.L.length ≤ s.store.L.length + t.size + 3 * N * (s'.steps - s.steps) ∧ s.steps ≤ s'.steps ∧ CW (TN N) s' ∧ (t.h.kind ≠ 17 → s'.store.L.length ≤ s.store.L.length + 3 * N * (s'.steps - s.steps)) := by
  induction h with
  | full hk h => exact fun hs ht => ⟨by omega, Nat.le_refl _, hs, fun h => absurd hk h⟩
  | @region s t e r st s' o hk h h' ih =>
    intro hs ht
    have h0 : 0 < nk t.h.kind := nk_pos (by omega)
    have hp := pushS_len h
    have hlt := ht.1.kid_lt h0
    obtain ⟨h1, h2, h3, _⟩ := ih hs (ht.kidN h0).1
    obtain ⟨p1, p2, p3⟩ := popO_same o s'
    simp only at h1 h2
    refine ⟨?_, by rw [p2]; exact h2, by unfold CW; rw [p3]; exact h3, fun h => absurd hk h⟩
    rw [p1, p2]; omega
  | fuel hk h => exact fun hs ht => ⟨by omega, Nat.le_refl _, hs, fun _ => by omega⟩
  | @leaf s t e s' v hf hk h =>
    intro hs ht
    have := (same_inv N s.store.L.length (s.steps + 1)).leafR (s := tick s) (e := e) ⟨rfl, rfl, hs⟩ ht hk
    rw [h] at this
    obtain ⟨h1, h2, h3⟩ := this
    exact ⟨by omega, by omega, h3, fun _ => by omega⟩
  | @leafOver s t e s' k hf hk h =>
    intro hs ht
    have := (same_inv N s.store.L.length (s.steps + 1)).leafR (s := tick s) (e := e) ⟨rfl, rfl, hs⟩ ht hk
    rw [h] at this
    obtain ⟨h1, h2, h3⟩ := this
    exact ⟨by omega, by omega, h3, fun _ => by omega⟩
  | @letStop s t e s' o hf hk h ho ih =>
    intro hs ht
    obtain ⟨k0, z0⟩ := ht.kidN (i := 0) (nk_pos (by omega))
    obtain ⟨h1, h2, h3, _⟩ := ih hs k0
    have h2' : s.steps + 1 ≤ s'.steps := h2
    have := arith (e := N) h2' (show s'.store.L.length ≤ s.store.L.length + N * 3 + _ from by have : s'.store.L.length ≤ s.store.L.length + (kidAt t 0).size + 3 * N * (s'.steps - (s.steps + 1)) := h1; omega)
    exact ⟨by omega, by omega, h3, fun _ => this⟩
  | @let_ s t e s' v s'' o hf hk h h' ih ih' =>
    intro hs ht
    obtain ⟨k0, z0⟩ := ht.kidN (i := 0) (nk_pos (by omega))
    obtain ⟨h1, h2, h3, _⟩ := ih hs k0
    have h2' : s.steps + 1 ≤ s'.steps := h2
    have h1' : s'.store.L.length ≤ s.store.L.length + (kidAt t 0).size + 3 * N * (s'.steps - (s.steps + 1)) := h1
    obtain ⟨k1, z1⟩ := ht.kidN (i := 1) (nk_two (by omega))
    obtain ⟨g1, g2, g3, _⟩ := ih' h3 k1
    have f := step3 (N := N) (show s'.store.L.length ≤ s.store.L.length + N + 3 * N * (s'.steps - (s.steps + 1)) from by omega) (show s''.store.L.length ≤ s'.store.L.length + N + 3 * N * (s''.steps - s'.steps) from by omega) h2' g2
    have := arith (e := N) (Nat.le_trans h2' g2) (show s''.store.L.length ≤ s.store.L.length + N * 3 + _ from by omega)
    exact ⟨by omega, by omega, g3, fun _ => this⟩
  | @letrecOver s t e s' k hf hk h =>
    intro hs ht
    have := (same_inv N s.store.L.length (s.steps + 1)).codeR (s := tick s) (e := e) (rho := t.rho) (c := ⟨kidAt t 0, t.h.arg, e, some t.rhos⟩) ⟨rfl, rfl, hs⟩ (ht.kidN (i := 0) (nk_pos (by omega))).1
    rw [h] at this
    obtain ⟨h1, h2, h3⟩ := this
    exact ⟨by omega, by omega, h3, fun _ => by omega⟩
  | @letrec s t e s' v s'' o hf hk h h' ih =>
    intro hs ht
    have := (same_inv N s.store.L.length (s.steps + 1)).codeR (s := tick s) (e := e) (rho := t.rho) (c := ⟨kidAt t 0, t.h.arg, e, some t.rhos⟩) ⟨rfl, rfl, hs⟩ (ht.kidN (i := 0) (nk_pos (by omega))).1
    rw [h] at this
    obtain ⟨h1, h2, h3⟩ := this
    obtain ⟨k1, z1⟩ := ht.kidN (i := 1) (nk_two (by omega))
    obtain ⟨g1, g2, g3, _⟩ := ih ((cwn_inv N).patch h3) k1
    rw [patch_store, patch_steps] at g1
    rw [patch_steps] at g2
    have := arith (a := s.steps) (e := N) (by omega) (show s''.store.L.length ≤ s.store.L.length + N * 3 + 3 * N * (s''.steps - (s.steps + 1)) from by rw [h1, h2] at g1; omega)
    exact ⟨by omega, by omega, g3, fun _ => this⟩
  | @ifStop s t e s' o hf hk h ho ih =>
    intro hs ht
    obtain ⟨k0, z0⟩ := ht.kidN (i := 0) (nk_pos (by omega))
    obtain ⟨h1, h2, h3, _⟩ := ih hs k0
    have h2' : s.steps + 1 ≤ s'.steps := h2
    have h1' : s'.store.L.length ≤ s.store.L.length + (kidAt t 0).size + 3 * N * (s'.steps - (s.steps + 1)) := h1
    have := arith (e := N) h2' (show s'.store.L.length ≤ s.store.L.length + N * 3 + _ from by omega)
    exact ⟨by omega, by omega, h3, fun _ => this⟩
  | @ifStuck s t e s' v hf hk h hv ih =>
    intro hs ht
    obtain ⟨k0, z0⟩ := ht.kidN (i := 0) (nk_pos (by omega))
    obtain ⟨h1, h2, h3, _⟩ := ih hs k0
    have h2' : s.steps + 1 ≤ s'.steps := h2
    have h1' : s'.store.L.length ≤ s.store.L.length + (kidAt t 0).size + 3 * N * (s'.steps - (s.steps + 1)) := h1
    have := arith (e := N) h2' (show s'.store.L.length ≤ s.store.L.length + N * 3 + _ from by omega)
    exact ⟨by omega, by omega, h3, fun _ => this⟩
  | @if_ s t e s' v s'' o hf hk h hv h' ih ih' =>
    intro hs ht
    obtain ⟨k0, z0⟩ := ht.kidN (i := 0) (nk_pos (by omega))
    obtain ⟨h1, h2, h3, _⟩ := ih hs k0
    have h2' : s.steps + 1 ≤ s'.steps := h2
    have h1' : s'.store.L.length ≤ s.store.L.length + (kidAt t 0).size + 3 * N * (s'.steps - (s.steps + 1)) := h1
    obtain ⟨k1, z1⟩ := ht.kidN (i := if v.n ≠ 0 then 1 else 2) (nk_if hk)
    obtain ⟨g1, g2, g3, _⟩ := ih' h3 k1
    have f := step3 (N := N) (show s'.store.L.length ≤ s.store.L.length + N + 3 * N * (s'.steps - (s.steps + 1)) from by omega) (show s''.store.L.length ≤ s'.store.L.length + N + 3 * N * (s''.steps - s'.steps) from by omega) h2' g2
    have := arith (e := N) (Nat.le_trans h2' g2) (show s''.store.L.length ≤ s.store.L.length + N * 3 + _ from by omega)
    exact ⟨by omega, by omega, g3, fun _ => this⟩
  | @try_ s t e s' o hf hk h ho ih =>
    intro hs ht
    obtain ⟨k0, z0⟩ := ht.kidN (i := 0) (nk_pos (by omega))
    obtain ⟨h1, h2, h3, _⟩ := ih hs k0
    have h2' : s.steps + 1 ≤ s'.steps := h2
    have h1' : s'.store.L.length ≤ s.store.L.length + (kidAt t 0).size + 3 * N * (s'.steps - (s.steps + 1)) := h1
    have := arith (e := N) h2' (show s'.store.L.length ≤ s.store.L.length + N * 3 + _ from by omega)
    exact ⟨by omega, by omega, h3, fun _ => this⟩
  | @catch_ s t e s' n s'' o hf hk h h' ih ih' =>
    intro hs ht
    obtain ⟨k0, z0⟩ := ht.kidN (i := 0) (nk_pos (by omega))
    obtain ⟨h1, h2, h3, _⟩ := ih hs k0
    have h2' : s.steps + 1 ≤ s'.steps := h2
    have h1' : s'.store.L.length ≤ s.store.L.length + (kidAt t 0).size + 3 * N * (s'.steps - (s.steps + 1)) := h1
    obtain ⟨k1, z1⟩ := ht.kidN (i := 1) (nk_two (by omega))
    obtain ⟨g1, g2, g3, _⟩ := ih' h3 k1
    have f := step3 (N := N) (show s'.store.L.length ≤ s.store.L.length + N + 3 * N * (s'.steps - (s.steps + 1)) from by omega) (show s''.store.L.length ≤ s'.store.L.length + N + 3 * N * (s''.steps - s'.steps) from by omega) h2' g2
    have := arith (e := N) (Nat.le_trans h2' g2) (show s''.store.L.length ≤ s.store.L.length + N * 3 + _ from by omega)
    exact ⟨by omega, by omega, g3, fun _ => this⟩
  | @stop1 s t e s' o hf hk h ho ih =>
    intro hs ht
    obtain ⟨k0, z0⟩ := ht.kidN (i := 0) (nk_pos (by omega))
    obtain ⟨h1, h2, h3, _⟩ := ih hs k0
    have h2' : s.steps + 1 ≤ s'.steps := h2
    have h1' : s'.store.L.length ≤ s.store.L.length + (kidAt t 0).size + 3 * N * (s'.steps - (s.steps + 1)) := h1
    have := arith (e := N) h2' (show s'.store.L.length ≤ s.store.L.length + N * 3 + _ from by omega)
    exact ⟨by omega, by omega, h3, fun _ => this⟩
  | @stop2 s t e s' v s'' o hf hk hl h h' ho ih ih' =>
    intro hs ht
    obtain ⟨k0, z0⟩ := ht.kidN (i := 0) (nk_pos (by omega))
    obtain ⟨h1, h2, h3, _⟩ := ih hs k0
    have h2' : s.steps + 1 ≤ s'.steps := h2
    have h1' : s'.store.L.length ≤ s.store.L.length + (kidAt t 0).size + 3 * N * (s'.steps - (s.steps + 1)) := h1
    obtain ⟨k1, z1⟩ := ht.kidN (i := 1) (by rw [← ht.1.len]; omega)
    obtain ⟨g1, g2, g3, _⟩ := ih' h3 k1
    have f := step3 (N := N) (show s'.store.L.length ≤ s.store.L.length + N + 3 * N * (s'.steps - (s.steps + 1)) from by omega) (show s''.store.L.length ≤ s'.store.L.length + N + 3 * N * (s''.steps - s'.steps) from by omega) h2' g2
    have := arith (e := N) (Nat.le_trans h2' g2) (show s''.store.L.length ≤ s.store.L.length + N * 3 + _ from by omega)
    exact ⟨by omega, by omega, g3, fun _ => this⟩
  | @rule1 s t e s' v s₂ o hf hk hl h h' ih =>
    intro hs ht
    obtain ⟨k0, z0⟩ := ht.kidN (i := 0) (nk_pos (by omega))
    obtain ⟨h1, h2, h3, _⟩ := ih hs k0
    have h2' : s.steps + 1 ≤ s'.steps := h2
    have h1' : s'.store.L.length ≤ s.store.L.length + (kidAt t 0).size + 3 * N * (s'.steps - (s.steps + 1)) := h1
    have hr := (same_inv N s'.store.L.length s'.steps).ruleR (s := s') (t := t) (e := e) (vs := [v]) ⟨rfl, rfl, h3⟩
    obtain ⟨r1, r2, r3⟩ := h'.all hr
    have := arith (e := N) h2' (show s'.store.L.length ≤ s.store.L.length + N * 3 + _ from by omega)
    exact ⟨by rw [r1, r2]; omega, by omega, r3, fun _ => by rw [r1, r2]; exact this⟩
  | @rule2 s t e s' v s'' w s₃ o hf hk hl h h' h₂ ih ih' =>
    intro hs ht
    obtain ⟨k0, z0⟩ := ht.kidN (i := 0) (nk_pos (by omega))
    obtain ⟨h1, h2, h3, _⟩ := ih hs k0
    have h2' : s.steps + 1 ≤ s'.steps := h2
    have h1' : s'.store.L.length ≤ s.store.L.length + (kidAt t 0).size + 3 * N * (s'.steps - (s.steps + 1)) := h1
    obtain ⟨k1, z1⟩ := ht.kidN (i := 1) (by rw [← ht.1.len]; omega)
    obtain ⟨g1, g2, g3, _⟩ := ih' h3 k1
    have f := step3 (N := N) (show s'.store.L.length ≤ s.store.L.length + N + 3 * N * (s'.steps - (s.steps + 1)) from by omega) (show s''.store.L.length ≤ s'.store.L.length + N + 3 * N * (s''.steps - s'.steps) from by omega) h2' g2
    have hr := (same_inv N s''.store.L.length s''.steps).ruleR (s := s'') (t := t) (e := e) (vs := [v, w]) ⟨rfl, rfl, g3⟩
    obtain ⟨r1, r2, r3⟩ := h₂.all hr
    have := arith (e := N) (Nat.le_trans h2' g2) (show s''.store.L.length ≤ s.store.L.length + N * 3 + _ from by omega)
    exact ⟨by rw [r1, r2]; omega, by omega, r3, fun _ => by rw [r1, r2]; exact this⟩
  | @call s t e s' v s'' w s₃ b e' s₄ o hf hk hl h h' h₂ h₃ ih ih' ih₃ =>
    intro hs ht
    obtain ⟨k0, z0⟩ := ht.kidN (i := 0) (nk_pos (by omega))
    obtain ⟨h1, h2, h3, _⟩ := ih hs k0
    have h2' : s.steps + 1 ≤ s'.steps := h2
    have h1' : s'.store.L.length ≤ s.store.L.length + (kidAt t 0).size + 3 * N * (s'.steps - (s.steps + 1)) := h1
    obtain ⟨k1, z1⟩ := ht.kidN (i := 1) (by rw [← ht.1.len]; omega)
    obtain ⟨g1, g2, g3, _⟩ := ih' h3 k1
    have f := step3 (N := N) (show s'.store.L.length ≤ s.store.L.length + N + 3 * N * (s'.steps - (s.steps + 1)) from by omega) (show s''.store.L.length ≤ s'.store.L.length + N + 3 * N * (s''.steps - s'.steps) from by omega) h2' g2
    obtain ⟨rfl, c, fn, _, hf', rfl, rfl, _⟩ := rule_node h₂
    have tb := (cwn_inv N).body g3 hf'
    obtain ⟨i1, i2, i3, _⟩ := ih₃ g3 tb
    have zb := tb.2
    have f' := step3 (N := N) (a := s.store.L.length + N) (b := s.steps + 1) (c := s₃.steps) (d := s₄.steps) (x := s₃.store.L.length) (y := s₄.store.L.length) (by omega) (by omega) (Nat.le_trans h2' g2) i2
    have := arith (e := N) (Nat.le_trans (Nat.le_trans h2' g2) i2) (show s₄.store.L.length ≤ s.store.L.length + N * 3 + _ from by omega)
    exact ⟨by omega, by omega, i3, fun _ => this⟩
end Go.Abs.Mac
