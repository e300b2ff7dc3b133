import Derived.Test.YtjilebpcaemopaaGreatDoorMacM
set_option linter.unusedVariables false
set_option linter.unusedSimpArgs false
namespace Go.Abs.Mac
open Go Go.Abs Go.Abs.Stk Go.Abs.At
def EQ (s:Sa) (e:En):Prop:=e.names.length≤2 * s.steps∧e.rhos.length≤s.store.L.length+1000000 * s.steps
def CE (s:Sa) (e:En):Prop:=e.names.length+1≤2 * s.steps∧e.rhos.length≤s.store.L.length+1000000 * s.steps
def CQ (s:Sa):Prop:=∀ c ∈ s.codes,CE s c.env
theorem EQ.later {s s' e} (h:EQ s e) (h1:s.steps≤s'.steps) (h2:s.store.L.length≤s'.store.L.length):EQ s' e:=⟨by have:=h.1;omega,by have:=h.2;omega⟩
theorem CE.later {s s' e} (h:CE s e) (h1:s.steps≤s'.steps) (h2:s.store.L.length≤s'.store.L.length):CE s' e:=⟨by have:=h.1;omega,by have:=h.2;omega⟩
theorem CQ.same {s s'} (h:CQ s) (hc:s'.codes=s.codes) (h1:s.steps≤s'.steps) (h2:s.store.L.length≤s'.store.L.length):CQ s':=fun c hm=>(h c (by rw [← hc];exact hm)).later h1 h2
theorem make_same {s:Sa} {e rho c}:(make s e rho c).all (fun s'=>s'.codes=s.codes∧s'.steps=s.steps∧s'.store.L.length=s.store.L.length):=by
  unfold make
  split
  · split
    · rename_i hp;exact ⟨rfl,rfl,putS_len hp⟩
    · exact ⟨rfl,rfl,rfl⟩
  · exact ⟨rfl,rfl,rfl⟩
theorem Re.all_imp {α:Type} {p q:Sa→Prop} {r:Re α} (h:r.all p) (hi:∀ s,p s→q s):r.all q:=by cases r <;> exact hi _ h
theorem code_cq {s:Sa} {e rho c} (h:CQ s) (hc:CE s c.env):(Mac.code s e rho c).all CQ:=by
  refine Re.all_imp (make_same (s:=(coded s c).2)) fun s' ⟨h1,h2,h3⟩=>?_
  intro d hd
  rw [h1] at hd
  have hd:d ∈ s.codes ++ [c]:=hd
  have:CE s d.env:=by
    rcases List.mem_append.1 hd with hd | hd
    · exact h d hd
    · rw [List.mem_singleton.1 hd];exact hc
  exact this.later (by rw [h2];exact Nat.le_refl _) (by rw [h3];exact Nat.le_refl _)
theorem opens_len {e:En}:∀ {l rs:List Int} {own own':En},opens e own l rs=some own'→own'.names=own.names∧own'.rhos.length=own.rhos.length+l.length
  | [],rs,own,own',h=>by simp [opens] at h;subst h;simp
  | r :: l,[],own,own',h=>by simp [opens] at h
  | r :: l,q :: rs,own,own',h=>by
    simp only [opens] at h
    split at h
    · obtain ⟨h1,h2⟩:=opens_len h
      exact ⟨h1,by rw [h2];simp [En.opn];omega⟩
    · cases h
theorem inst_cq {s:Sa} {t e} (h:CQ s) (ht:t.rhos.length≤1000000):(inst (tick s) t e).all CQ:=by
  have h':CQ (tick s):=h.same rfl (Nat.le_succ _) (Nat.le_refl _)
  unfold inst
  split
  · exact h'
  · split
    · refine Re.all_bind (p:=CQ) (take_same h') fun c s' hr hs=>?_
      obtain ⟨rfl,_⟩:=take_ok hr
      split
      · exact h'
      · rename_i f hf
        split
        · split
          · exact h'
          · rename_i own ho
            obtain ⟨h1,h2⟩:=opens_len ho
            have hc:=h f (List.mem_of_getElem? hf)
            refine code_cq h' ⟨?_,?_⟩
            · have:=hc.1;show own.names.length+1≤2 * (s.steps+1);rw [h1];omega
            · have:=hc.2;show own.rhos.length≤s.store.L.length+1000000 * (s.steps+1);rw [h2];omega
        · exact h'
    · exact h'
theorem leaf_cq {s:Sa} {t e} (h:CQ s) (he:EQ s e) (ht:t.rhos.length≤1000000):(leaf (tick s) t e).all CQ:=by
  have h':CQ (tick s):=h.same rfl (Nat.le_succ _) (Nat.le_refl _)
  unfold leaf
  split
  · exact h'
  · split
    · split
      · split <;> exact h'
      · exact h'
    · split
      · exact inst_cq h ht
      · exact code_cq h' ⟨by have:=he.1;show e.names.length+1≤2 * (s.steps+1);omega,by have:=he.2;show e.rhos.length≤s.store.L.length+1000000 * (s.steps+1);omega⟩
theorem rule_cq {s:Sa} {t e vs} (h:CQ s):(rule s t e vs).all CQ:=by
  have hm:∀ {rho c},(make s e rho c).all CQ:=fun {rho c}=>Re.all_imp make_same fun s' ⟨h1,h2,h3⟩=>h.same h1 (by rw [h2];exact Nat.le_refl _) (by rw [h3];exact Nat.le_refl _)
  unfold rule
  split
  · exact Re.all_bind hm fun _ _ _ hs=>hs
  split
  · exact Re.all_bind (p:=CQ) (take_same h) fun _ _ _ hs=>hs
  split
  · exact Re.all_bind (p:=CQ) (take_same h) fun _ _ _ hs=>hs
  split
  · exact Re.all_bind hm fun _ _ _ hs=>hs
  split
  · exact Re.all_bind (p:=CQ) (take_same h) fun _ _ _ hs=>hs
  split
  · exact Re.all_bind (p:=CQ) (take_same h) fun _ s1 _ hs=>hs.same rfl (Nat.le_refl _) (by show _≤(setS s1.store _ _).L.length;rw [setS_len];exact Nat.le_refl _)
  split
  · exact Re.all_bind (p:=CQ) (number_same h) fun _ _ _ hs=>Re.all_bind (p:=CQ) (number_same hs) fun _ _ _ hs=>hs
  split
  · exact Re.all_bind (p:=CQ) (number_same h) fun _ _ _ hs=>hs
  · refine Re.all_bind (p:=CQ) (take_same h) fun _ _ _ hs=>?_
    split <;> exact hs
theorem patch_cq {s:Sa} {e} (h:CQ s) (he:CE s e):CQ (patch s e):=by
  intro c hc
  have hm:CE s c.env:=by
    unfold patch at hc
    split at hc
    · simp only [List.mem_append,List.mem_singleton] at hc
      rcases hc with hc | rfl
      · exact h c (List.dropLast_subset _ hc)
      · exact he
    · exact h c hc
  exact hm.later (by rw [patch_steps];exact Nat.le_refl _) (by rw [patch_store];exact Nat.le_refl _)
theorem EQ.with1 {s s' e nm v b} (h:EQ s e) (h1:s.steps+1≤s'.steps) (h2:s.store.L.length≤s'.store.L.length):EQ s' (e.with nm v b):=⟨by have:=h.1;simp [En.with];omega,by have:=h.2;simp [En.with];omega⟩
theorem CE.call {s e nm v b} (h:CE s e):EQ s (e.with nm v b):=⟨by have:=h.1;simp [En.with];omega,h.2⟩
theorem Big.mono {fuel N s t e s' o} (h:Big fuel s t e s' o) (hs:Good N 0 0 0 s) (ht:TN N t):s.steps≤s'.steps∧s.store.L.length≤s'.store.L.length:=⟨(h.good hs ht).steps,(h.good hs ht).len⟩
theorem Big.cq {fuel N s t e s' o} (h:Big fuel s t e s' o):Good N 0 0 0 s→TN N t→CQ s→EQ s e→CQ s':=by
  induction h with
  | full hk h=>exact fun hs ht hc he=>hc
  | @region s t e r st s' o hk h h' ih =>
    intro hs ht hc he
    have hl:=pushS_len h
    have hg1:Good N 0 0 0 { s with store:=st }:=(good_inv N 0 0 0).push hs h
    have:=ih hg1 (kidT ht (nk_pos (by omega))) (hc.same rfl (Nat.le_refl _) (by simp only;omega)) ⟨he.1,by have:=he.2;simp [En.opn];omega⟩
    obtain ⟨p1,p2,p3⟩:=popO_same o s'
    exact this.same p3 (by rw [p2];exact Nat.le_refl _) (by rw [p1];exact Nat.le_refl _)
  | fuel hk h=>exact fun hs ht hc he=>hc
  | @leaf s t e s' v hf hk h =>
    intro hs ht hc he
    have:=leaf_cq (t:=t) hc he ht.1.rhos
    rw [h] at this;exact this
  | @leafOver s t e s' k hf hk h =>
    intro hs ht hc he
    have:=leaf_cq (t:=t) hc he ht.1.rhos
    rw [h] at this;exact this
  | @letStop s t e s' o hf hk h ho ih =>
    intro hs ht hc he
    exact ih (good_tick hs) (kidT ht (nk_pos (by omega))) (hc.same rfl (Nat.le_succ _) (Nat.le_refl _)) (he.later (Nat.le_succ _) (Nat.le_refl _))
  | @let_ s t e s' v s'' o hf hk h h' ih ih' =>
    intro hs ht hc he
    have k0:=kidT ht (i:=0) (nk_pos (by omega))
    have a:=ih (good_tick hs) k0 (hc.same rfl (Nat.le_succ _) (Nat.le_refl _)) (he.later (Nat.le_succ _) (Nat.le_refl _))
    have g:=h.good (good_tick hs) k0
    exact ih' g.zero (kidT ht (nk_two (by omega))) a (he.with1 g.steps g.len)
  | @letrecOver s t e s' k hf hk h =>
    intro hs ht hc he
    have:=code_cq (s:=tick s) (e:=e) (rho:=t.rho) (c:=⟨kidAt t 0,t.h.arg,e,some t.rhos⟩) (hc.same rfl (Nat.le_succ _) (Nat.le_refl _)) ⟨by have:=he.1;show e.names.length+1≤2 * (s.steps+1);omega,by have:=he.2;show e.rhos.length≤s.store.L.length+1000000 * (s.steps+1);omega⟩
    rw [h] at this;exact this
  | @letrec s t e s' v s'' o hf hk h h' ih =>
    intro hs ht hc he
    have a:=code_cq (s:=tick s) (e:=e) (rho:=t.rho) (c:=⟨kidAt t 0,t.h.arg,e,some t.rhos⟩) (hc.same rfl (Nat.le_succ _) (Nat.le_refl _)) ⟨by have:=he.1;show e.names.length+1≤2 * (s.steps+1);omega,by have:=he.2;show e.rhos.length≤s.store.L.length+1000000 * (s.steps+1);omega⟩
    have m:=make_same (s:=(coded (tick s) ⟨kidAt t 0,t.h.arg,e,some t.rhos⟩).2) (e:=e) (rho:=t.rho) (c:=(coded (tick s) ⟨kidAt t 0,t.h.arg,e,some t.rhos⟩).1)
    have gg:=(good_inv N 0 0 0).codeR (s:=tick s) (e:=e) (rho:=t.rho) (c:=⟨kidAt t 0,t.h.arg,e,some t.rhos⟩) (good_tick hs) (kidT ht (nk_pos (by omega)))
    rw [show make _ e t.rho _=code (tick s) e t.rho ⟨kidAt t 0,t.h.arg,e,some t.rhos⟩ from rfl] at m
    rw [h] at a m gg
    obtain ⟨m1,m2,m3⟩:=m
    have m2:s'.steps=s.steps+1:=m2
    have m3:s'.store.L.length=s.store.L.length:=m3
    refine ih ((good_inv N 0 0 0).patch gg) (kidT ht (nk_two (by omega))) (patch_cq a ⟨?_,?_⟩) ⟨?_,?_⟩
    · have:=he.1;simp [En.with];omega
    · have:=he.2;simp [En.with];omega
    · have:=he.1;rw [patch_steps];simp [En.with];omega
    · have:=he.2;rw [patch_steps,patch_store];simp [En.with];omega
  | @ifStop s t e s' o hf hk h ho ih =>
    intro hs ht hc he
    exact ih (good_tick hs) (kidT ht (nk_pos (by omega))) (hc.same rfl (Nat.le_succ _) (Nat.le_refl _)) (he.later (Nat.le_succ _) (Nat.le_refl _))
  | @ifStuck s t e s' v hf hk h hv ih =>
    intro hs ht hc he
    exact ih (good_tick hs) (kidT ht (nk_pos (by omega))) (hc.same rfl (Nat.le_succ _) (Nat.le_refl _)) (he.later (Nat.le_succ _) (Nat.le_refl _))
  | @if_ s t e s' v s'' o hf hk h hv h' ih ih' =>
    intro hs ht hc he
    have k0:=kidT ht (i:=0) (nk_pos (by omega))
    have a:=ih (good_tick hs) k0 (hc.same rfl (Nat.le_succ _) (Nat.le_refl _)) (he.later (Nat.le_succ _) (Nat.le_refl _))
    have g:=h.good (good_tick hs) k0
    exact ih' g.zero (kidT ht (nk_if hk)) a (he.later (Nat.le_trans (Nat.le_succ _) g.steps) g.len)
  | @try_ s t e s' o hf hk h ho ih =>
    intro hs ht hc he
    exact ih (good_tick hs) (kidT ht (nk_pos (by omega))) (hc.same rfl (Nat.le_succ _) (Nat.le_refl _)) (he.later (Nat.le_succ _) (Nat.le_refl _))
  | @catch_ s t e s' n s'' o hf hk h h' ih ih' =>
    intro hs ht hc he
    have k0:=kidT ht (i:=0) (nk_pos (by omega))
    have a:=ih (good_tick hs) k0 (hc.same rfl (Nat.le_succ _) (Nat.le_refl _)) (he.later (Nat.le_succ _) (Nat.le_refl _))
    have g:=h.good (good_tick hs) k0
    exact ih' g.zero (kidT ht (nk_two (by omega))) a (he.with1 g.steps g.len)
  | @stop1 s t e s' o hf hk h ho ih =>
    intro hs ht hc he
    exact ih (good_tick hs) (kidT ht (nk_pos (by omega))) (hc.same rfl (Nat.le_succ _) (Nat.le_refl _)) (he.later (Nat.le_succ _) (Nat.le_refl _))
  | @stop2 s t e s' v s'' o hf hk hl h h' ho ih ih' =>
    intro hs ht hc he
    have k0:=kidT ht (i:=0) (nk_pos (by omega))
    have a:=ih (good_tick hs) k0 (hc.same rfl (Nat.le_succ _) (Nat.le_refl _)) (he.later (Nat.le_succ _) (Nat.le_refl _))
    have g:=h.good (good_tick hs) k0
    exact ih' g.zero (kidT ht (by rw [← ht.1.len];omega)) a (he.later (Nat.le_trans (Nat.le_succ _) g.steps) g.len)
  | @rule1 s t e s' v s₂ o hf hk hl h h' ih =>
    intro hs ht hc he
    have a:=ih (good_tick hs) (kidT ht (nk_pos (by omega))) (hc.same rfl (Nat.le_succ _) (Nat.le_refl _)) (he.later (Nat.le_succ _) (Nat.le_refl _))
    exact h'.all (rule_cq a)
  | @rule2 s t e s' v s'' w s₃ o hf hk hl h h' h₂ ih ih' =>
    intro hs ht hc he
    have k0:=kidT ht (i:=0) (nk_pos (by omega))
    have a:=ih (good_tick hs) k0 (hc.same rfl (Nat.le_succ _) (Nat.le_refl _)) (he.later (Nat.le_succ _) (Nat.le_refl _))
    have g:=h.good (good_tick hs) k0
    exact h₂.all (rule_cq (ih' g.zero (kidT ht (by rw [← ht.1.len];omega)) a (he.later (Nat.le_trans (Nat.le_succ _) g.steps) g.len)))
  | @call s t e s' v s'' w s₃ b e' s₄ o hf hk hl h h' h₂ h₃ ih ih' ih₃ =>
    intro hs ht hc he
    have k0:=kidT ht (i:=0) (nk_pos (by omega))
    have k1:=kidT ht (i:=1) (by rw [← ht.1.len];omega)
    have a:=ih (good_tick hs) k0 (hc.same rfl (Nat.le_succ _) (Nat.le_refl _)) (he.later (Nat.le_succ _) (Nat.le_refl _))
    have g:=h.good (good_tick hs) k0
    have a':=ih' g.zero k1 a (he.later (Nat.le_trans (Nat.le_succ _) g.steps) g.len)
    have g':=h'.good g.zero k1
    obtain ⟨rfl,c,fn,_,hf',rfl,rfl,_⟩:=rule_node h₂
    exact ih₃ g'.zero ((cwn_inv N).body g'.cw hf') a' (a' fn (List.mem_of_getElem? hf')).call
end Go.Abs.Mac
