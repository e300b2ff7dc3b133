import Derived.Test.YtjilebpcaemopaaGreatDoorMacR
set_option linter.unusedVariables false
set_option linter.unusedSimpArgs false
namespace Go.Abs.Mac
open Go Go.Abs Go.Abs.Stk Go.Abs.At
def upS (R C:Int) (s:SG Cl):SG Cl:={s with R:=R,C:=C}
def up (R C:Int) (d:Nat) (s:Sa):Sa:=⟨upS R C s.store,s.steps+d,s.aC⟩
def Re.up {α:Type} (R C:Int) (d:Nat):Re α→Re α
 | .ok x s=>.ok x (Mac.up R C d s)
 | .over s k=>.over (Mac.up R C d s) k
variable {R C:Int} {d:Nat}
theorem cO (s:Sa):tick (up R C d s)=up R C d (tick s):=by simp[tick,up,Nat.add_right_comm]
theorem wa (s:SG Cl):cz (upS R C s)=upS R C (cz s):=by
 unfold cz
 show(if s.live.length<2 then _ else match s.live.getLast? with | some i=>(upS R C s).less i | none=>_)=_
 split
 ·rfl
 ·cases s.live.getLast?<;>rfl
theorem Db (s:SG Cl) (v c):eN (upS R C s) v c=upS R C (eN s v c):=by
 unfold eN
 show(match s.row v.r with | some row=>(upS R C s).put v.r.toNat (row.set v.a.toNat c) | none=>_)=_
 cases s.row v.r<;>rfl
theorem rm {s:Sa} {e rho c} (hC:s.store.C≤C) (h:∀s',make s e rho c= .over s' 4→C=s.store.C):make (up R C d s) e rho c=(make s e rho c).up R C d:=by
 unfold make at h⊢
 have e1:dH (up R C d s).store (e.region rho).1=dH s.store (e.region rho).1:=rfl
 rw[e1]
 by_cases hl:(e.region rho).2=true∧dH s.store (e.region rho).1=true
 ·rw[if_pos hl,if_pos hl]
  rw[if_pos hl]at h
  cases hr:s.store.row (e.region rho).1 with
  | none=>have:=hl.2;unfold dH at this;rw[hr]at this;simp at this
  | some row=>
   have hr':(up R C d s).store.row (e.region rho).1=some row:=hr
   by_cases hc:s.store.C≤s.store.cells
   ·have ep:e8 s.store (e.region rho).1 c=none:=by simp[e8,hr,hc]
    rw[ep]at h⊢
    have:=h s rfl
    have ep':e8 (up R C d s).store (e.region rho).1 c=none:=by
     simp only[e8,hr']
     rw[if_pos];show C≤s.store.cells;omega
    rw[ep'];rfl
   ·by_cases hc':C≤s.store.cells
    ·omega
    ·have ep:e8 s.store (e.region rho).1 c=some (⟨2,0,(e.region rho).1,row.length⟩,s.store.gU (e.region rho).1.toNat row c):=by simp[e8,hr,hc]
     have ep':e8 (up R C d s).store (e.region rho).1 c=some (⟨2,0,(e.region rho).1,row.length⟩,upS R C (s.store.gU (e.region rho).1.toNat row c)):=by
      simp only[e8,hr']
      rw[if_neg (by show ¬C≤s.store.cells;exact hc')]
      rfl
     rw[ep,ep'];rfl
 ·rw[if_neg hl,if_neg hl];rfl
theorem j5 {s:Sa} {v k}:take (up R C d s) v k=(take s v k).up R C d:=by
 unfold take
 have e1:(up R C d s).store.find v.kind v.n v.r v.a=s.store.find v.kind v.n v.r v.a:=rfl
 have e2:cellAt (up R C d s).store v=cellAt s.store v:=rfl
 rw[e1,e2]
 repeat' split
 all_goals rfl
theorem mr {s:Sa} {v}:number (up R C d s) v=(number s v).up R C d:=by unfold number;split<;>rfl
theorem nz {s:Sa} {e rho c} (hC:s.store.C≤C) (h:∀s',code s e rho c= .over s' 4→C=s.store.C):code (up R C d s) e rho c=(code s e rho c).up R C d:=by
 have:=rm (d:=d) (R:=R) (C:=C) (s:=(cM s c).2) (e:=e) (rho:=rho) (c:=(cM s c).1) hC h
 exact this
theorem Re.et {α β:Type} {x:Re α} {f:α→Sa→Re β} (hf:∀a s,x= .ok a s→f a (Mac.up R C d s)=(f a s).up R C d):(x.up R C d).bind f=(x.bind f).up R C d:=by
 cases x with
 | ok a s=>exact hf a s rfl
 | over s k=>rfl
theorem wF {α β:Type} {x:Re α} {f:α→Sa→Re β} {a s s' k} (hx:x= .ok a s) (h:f a s= .over s' k):x.bind f= .over s' k:=by rw[hx];exact h
theorem CF {s:Sa} {t e} (hC:s.store.C≤C) (h:∀s',inst s t e= .over s' 4→C=s.store.C):inst (up R C d s) t e=(inst s t e).up R C d:=by
 unfold inst at h⊢
 split
 ·rfl
 ·rename_i n hn
  rw[hn]at h
  simp only at h
  split
  ·rename_i hfn
   rw[if_pos hfn]at h
   rw[j5]
   refine Re.et fun c s1 hx=> ?_
   obtain⟨rfl,_⟩:=fQ hx
   have h2:=fun s' q=>h s' (wF hx q)
   have e1:(up R C d s1).aC[c.code.toNat]?=s1.aC[c.code.toNat]?:=rfl
   rw[e1]
   split
   ·rfl
   ·rename_i f hf
    split
    ·rename_i hl
     split
     ·rfl
     ·rename_i own ho
      refine nz hC fun s' q=>h2 s' ?_
      rw[hf];simp only;rw[if_pos hl,ho];exact q
    ·rfl
  ·rfl
theorem vN {s:Sa} {t e} (hC:s.store.C≤C) (h:∀s',leaf s t e= .over s' 4→C=s.store.C):leaf (up R C d s) t e=(leaf s t e).up R C d:=by
 unfold leaf at h⊢
 split
 ·rfl
 ·rename_i h1
  rw[if_neg h1]at h
  split
  ·split
   ·split<;>rfl
   ·rfl
  ·rename_i h2
   rw[if_neg h2]at h
   split
   ·rename_i h3
    rw[if_pos h3]at h
    exact CF hC h
   ·rename_i h3
    rw[if_neg h3]at h
    exact nz hC h
theorem nW {α β:Type} {x:Re α} {f:α→Sa→Re β} {s' k} (h:x= .over s' k):x.bind f= .over s' k:=by rw[h];rfl
theorem rB {s:Sa} {t e vs} (hC:s.store.C≤C) (h:∀s',eJ s t e vs= .over s' 4→C=s.store.C):eJ (up R C d s) t e vs=(eJ s t e vs).up R C d:=by
 unfold eJ at h⊢
 split
 ·rename_i h1
  rw[if_pos h1]at h
  rw[rm hC fun s' q=>h s' (nW q)]
  exact Re.et fun _ _ _=>rfl
 rename_i h1;rw[if_neg h1]at h
 split
 ·rw[j5];exact Re.et fun _ _ _=>rfl
 rename_i h1;rw[if_neg h1]at h
 split
 ·rw[j5];exact Re.et fun _ _ _=>rfl
 rename_i h1;rw[if_neg h1]at h
 split
 ·rename_i h1
  rw[if_pos h1]at h
  rw[rm hC fun s' q=>h s' (nW q)]
  exact Re.et fun _ _ _=>rfl
 rename_i h1;rw[if_neg h1]at h
 split
 ·rw[j5];exact Re.et fun _ _ _=>rfl
 split
 ·rw[j5]
  refine Re.et fun c s1 hx=> ?_
  show Re.ok _ _=Re.ok _ _
  congr 1
  show(⟨eN (upS R C s1.store) _ _,_,_⟩:Sa)=⟨upS R C (eN s1.store _ _),_,_⟩
  rw[Db];rfl
 split
 ·rw[mr]
  refine Re.et fun a s1 hx=> ?_
  rw[mr]
  exact Re.et fun _ _ _=>rfl
 split
 ·rw[mr];exact Re.et fun _ _ _=>rfl
 ·rw[j5]
  refine Re.et fun c s1 hx=> ?_
  have e1:(up R C d s1).aC[c.code.toNat]?=s1.aC[c.code.toNat]?:=rfl
  rw[e1]
  split<;>rfl
theorem zr (s:Sa) (e):patch (up R C d s) e=up R C d (patch s e):=by
 unfold patch
 have e1:(up R C d s).aC.getLast?=s.aC.getLast?:=rfl
 rw[e1]
 split<;>rfl
theorem CX (o:Out) (s:Sa):ni o (up R C d s)=up R C d (ni o s):=by
 cases o with
 | over k=>rfl
 | val v=>show(⟨cz (upS R C s.store),_,_⟩:Sa)=⟨upS R C (cz s.store),_,_⟩;rw[wa];rfl
 | exn n x=>show(⟨cz (upS R C s.store),_,_⟩:Sa)=⟨upS R C (cz s.store),_,_⟩;rw[wa];rfl
theorem wh {r:Re Nx} {s o} (h:kj r s o):kj (r.up R C d) (up R C d s) o:=by cases h<;>constructor
theorem zw (N:Nat) (a b:Int):Inv (fun s=>(s.store.R=a∧s.store.C=b)∧CW (TN N) s) (TN N) where
 kid:=(aZ N).kid
 wf:=(aZ N).wf
 put:=@fun s r c v st h _ hp=>by
  obtain⟨i,row,rfl,h1,_,_,rfl⟩:=e9 hp
  exact h
 code:=fun h hc=>⟨h.1,(aZ N).code h.2 hc⟩
 codePut:=@fun s co r v st h hc hp=>by
  obtain⟨i,row,rfl,h1,_,_,rfl⟩:=e9 hp
  exact⟨h.1,(aZ N).code h.2 hc⟩
 set:=@fun s v c h _=>⟨⟨(jZ _ _ _).2.2.1.trans h.1.1,(jZ _ _ _).2.2.2.1.trans h.1.2⟩,h.2⟩
 body:=fun h hi=>(aZ N).body h.2 hi
 tick:=fun h=>h
 push:=@fun s r st h hp=>by
  obtain⟨_,_,rfl⟩:=gu hp
  exact h
 pop:=@fun s h=>by
  refine⟨?_,h.2⟩
  show(cz s.store).R=a∧(cz s.store).C=b
  unfold cz
  split
  ·exact h.1
  ·split<;>exact h.1
 patch:=@fun s e h=>⟨by rw[cK];exact h.1,(aZ N).patch h.2⟩
theorem Big.rc {fuel N s t e s' o} (h:Big fuel s t e s' o) (hs:CW (TN N) s) (ht:TN N t):(s'.store.R=s.store.R∧s'.store.C=s.store.C)∧CW (TN N) s':=h.inv (zw N _ _) ⟨⟨rfl,rfl⟩,hs⟩ ht
structure B0 (R C:Int) (d fuel fuel':Nat) (s:Sa) (o:Out):Prop where
 f:fuel+d≤fuel'
 hR:s.store.R≤R
 hC:s.store.C≤C
 f3:o= .over 3→fuel'=fuel+d
 f4:o= .over 4→R=s.store.R∧C=s.store.C
theorem B0.next {fuel fuel':Nat} {s s':Sa} {o o':Out} (h:B0 R C d fuel fuel' s o) (hs:s'.store.R=s.store.R∧s'.store.C=s.store.C) (ho:o'=o∨¬o'.cB):B0 R C d fuel fuel' s' o':=by
 refine⟨h.f,by rw[hs.1];exact h.hR,by rw[hs.2];exact h.hC,fun e=> ?_,fun e=> ?_⟩
 ·rcases ho with ho | ho
  ·exact h.f3 (ho▸e)
  ·rw[e]at ho;exact(ho trivial).elim
 ·rw[hs.1,hs.2]
  rcases ho with ho | ho
  ·exact h.f4 (ho▸e)
  ·rw[e]at ho;exact(ho trivial).elim
theorem nv (v:V):¬(Out.val v).cB:=by simp[Out.cB]
theorem nx (n:Int) (x:ByteArray):¬(Out.exn n x).cB:=by simp[Out.cB]
theorem Cp {N s e rho c} (h:CW (TN N) s) (hT:TN N c.body):(Mac.code s e rho c).all (fun s'=>(s'.store.R=s.store.R∧s'.store.C=s.store.C)∧CW (TN N) s'):=(zw N _ _).fY ⟨⟨rfl,rfl⟩,h⟩ hT
theorem Big.up {fuel fuel' N s t e s' o} (h:Big fuel s t e s' o):CW (TN N) s→TN N t→B0 R C d fuel fuel' s o→Big fuel' (Mac.up R C d s) t e (Mac.up R C d s') o:=by
 induction h with
 | @full s t e hk h=>
  intro hs ht q
  obtain⟨rfl,rfl⟩:=q.f4 rfl
  refine .full hk ?_
  unfold dw at h⊢
  split at h
  ·cases h
  ·rename_i hn
   exact if_neg hn
 | @region s t e r st s' o hk h h' ih=>
  intro hs ht q
  obtain⟨h1,rfl,rfl⟩:=gu h
  have hp:dw (Mac.up R C d s).store=some ((s.store.L.length:Int),upS R C s.store.more):=by
   have:((Mac.up R C d s).store.live.length:Int)<(Mac.up R C d s).store.R:=by
    show(s.store.live.length:Int)<R
    have:=q.hR;omega
   unfold dw;rw[if_pos this];rfl
  rw[←CX]
  exact .region hk hp (ih hs (aS ht (aJ (by omega))) (q.next ⟨rfl,rfl⟩ (.inl rfl)))
 | @fuel s t e hk h=>
  intro hs ht q
  have:=q.f3 rfl
  exact .fuel hk (by show fuel'≤s.steps+d;omega)
 | @leaf s t e s' v hf hk h=>
  intro hs ht q
  refine .leaf (by show s.steps+d<fuel';have:=q.f;omega) hk ?_
  rw[cO,vN (s:=tick s) q.hC (fun s' e=>by rw[h]at e;cases e),h];rfl
 | @leafOver s t e s' k hf hk h=>
  intro hs ht q
  refine .leafOver (by show s.steps+d<fuel';have:=q.f;omega) hk ?_
  rw[cO,vN (s:=tick s) q.hC (fun s' e=>by rw[h]at e;cases e;exact(q.f4 rfl).2),h];rfl
 | @letStop s t e s' o hf hk h ho ih=>
  intro hs ht q
  exact .letStop (by show s.steps+d<fuel';have:=q.f;omega) hk (by rw[cO];exact ih hs (aS ht (aJ (by omega))) (q.next ⟨rfl,rfl⟩ (.inl rfl))) ho
 | @let_ s t e s' v s'' o hf hk h h' ih ih'=>
  intro hs ht q
  have k0:=aS ht (i:=0) (aJ (by omega))
  have r:=h.rc (s:=tick s) hs k0
  exact .let_ (by show s.steps+d<fuel';have:=q.f;omega) hk (by rw[cO];exact ih hs k0 (q.next ⟨rfl,rfl⟩ (.inr (nv _)))) (ih' r.2 (aS ht (cb (by omega))) (q.next r.1 (.inl rfl)))
 | @letrecOver s t e s' k hf hk h=>
  intro hs ht q
  refine .letrecOver (by show s.steps+d<fuel';have:=q.f;omega) hk ?_
  rw[cO,nz (s:=tick s) q.hC (fun s' e=>by rw[h]at e;cases e;exact(q.f4 rfl).2),h];rfl
 | @letrec s t e s' v s'' o hf hk h h' ih=>
  intro hs ht q
  have r:=Cp (N:=N) (s:=tick s) (e:=e) (rho:=t.rho) (c:=⟨aB t 0,t.h.arg,e,some t.aH⟩) hs (aS ht (aJ (by omega)))
  rw[h]at r
  have i:=ih ((aZ N).patch r.2) (aS ht (cb (by omega))) (q.next (by rw[cK];exact r.1) (.inl rfl))
  rw[←zr]at i
  refine .letrec (by show s.steps+d<fuel';have:=q.f;omega) hk ?_ i
  rw[cO,nz (s:=tick s) q.hC (fun s' e=>by rw[h]at e;cases e),h];rfl
 | @ifStop s t e s' o hf hk h ho ih=>
  intro hs ht q
  exact .ifStop (by show s.steps+d<fuel';have:=q.f;omega) hk (by rw[cO];exact ih hs (aS ht (aJ (by omega))) (q.next ⟨rfl,rfl⟩ (.inl rfl))) ho
 | @ifStuck s t e s' v hf hk h hv ih=>
  intro hs ht q
  exact .ifStuck (by show s.steps+d<fuel';have:=q.f;omega) hk (by rw[cO];exact ih hs (aS ht (aJ (by omega))) (q.next ⟨rfl,rfl⟩ (.inr (nv _)))) hv
 | @if_ s t e s' v s'' o hf hk h hv h' ih ih'=>
  intro hs ht q
  have k0:=aS ht (i:=0) (aJ (by omega))
  have r:=h.rc (s:=tick s) hs k0
  exact .if_ (by show s.steps+d<fuel';have:=q.f;omega) hk (by rw[cO];exact ih hs k0 (q.next ⟨rfl,rfl⟩ (.inr (nv _)))) hv (ih' r.2 (aS ht (mQ hk)) (q.next r.1 (.inl rfl)))
 | @try_ s t e s' o hf hk h ho ih=>
  intro hs ht q
  exact .try_ (by show s.steps+d<fuel';have:=q.f;omega) hk (by rw[cO];exact ih hs (aS ht (aJ (by omega))) (q.next ⟨rfl,rfl⟩ (.inl rfl))) ho
 | @catch_ s t e s' n s'' o hf hk h h' ih ih'=>
  intro hs ht q
  have k0:=aS ht (i:=0) (aJ (by omega))
  have r:=h.rc (s:=tick s) hs k0
  exact .catch_ (by show s.steps+d<fuel';have:=q.f;omega) hk (by rw[cO];exact ih hs k0 (q.next ⟨rfl,rfl⟩ (.inr (nx _ _)))) (ih' r.2 (aS ht (cb (by omega))) (q.next r.1 (.inl rfl)))
 | @stop1 s t e s' o hf hk h ho ih=>
  intro hs ht q
  exact .stop1 (by show s.steps+d<fuel';have:=q.f;omega) hk (by rw[cO];exact ih hs (aS ht (aJ (by omega))) (q.next ⟨rfl,rfl⟩ (.inl rfl))) ho
 | @stop2 s t e s' v s'' o hf hk hl h h' ho ih ih'=>
  intro hs ht q
  have k0:=aS ht (i:=0) (aJ (by omega))
  have r:=h.rc (s:=tick s) hs k0
  exact .stop2 (by show s.steps+d<fuel';have:=q.f;omega) hk hl (by rw[cO];exact ih hs k0 (q.next ⟨rfl,rfl⟩ (.inr (nv _)))) (ih' r.2 (aS ht (by rw[←ht.1.len];omega)) (q.next r.1 (.inl rfl))) ho
 | @rule1 s t e s' v s₂ o hf hk hl h h' ih=>
  intro hs ht q
  have k0:=aS ht (i:=0) (aJ (by omega))
  have r:=h.rc (s:=tick s) hs k0
  have q':=q.next r.1 (.inl rfl)
  refine .rule1 (by show s.steps+d<fuel';have:=q.f;omega) hk hl (by rw[cO];exact ih hs k0 (q.next ⟨rfl,rfl⟩ (.inr (nv _)))) ?_
  rw[rB q'.hC (fun s3 e=>by rw[e]at h';cases h';exact(q'.f4 rfl).2)]
  exact wh h'
 | @rule2 s t e s' v s'' w s₃ o hf hk hl h h' h₂ ih ih'=>
  intro hs ht q
  have k0:=aS ht (i:=0) (aJ (by omega))
  have k1:=aS ht (i:=1) (by rw[←ht.1.len];omega)
  have r:=h.rc (s:=tick s) hs k0
  have r':=h'.rc r.2 k1
  have q':=q.next (r'.1.1.trans r.1.1 |> fun a=>⟨a,r'.1.2.trans r.1.2⟩) (.inl rfl)
  refine .rule2 (by show s.steps+d<fuel';have:=q.f;omega) hk hl (by rw[cO];exact ih hs k0 (q.next ⟨rfl,rfl⟩ (.inr (nv _)))) (ih' r.2 k1 (q.next r.1 (.inr (nv _)))) ?_
  rw[rB q'.hC (fun s3 e=>by rw[e]at h₂;cases h₂;exact(q'.f4 rfl).2)]
  exact wh h₂
 | @call s t e s' v s'' w s₃ b e' s₄ o hf hk hl h h' h₂ h₃ ih ih' ih₃=>
  intro hs ht q
  have k0:=aS ht (i:=0) (aJ (by omega))
  have k1:=aS ht (i:=1) (by rw[←ht.1.len];omega)
  have r:=h.rc (s:=tick s) hs k0
  have r':=h'.rc r.2 k1
  have q':=q.next (r'.1.1.trans r.1.1 |> fun a=>⟨a,r'.1.2.trans r.1.2⟩) (.inl rfl)
  have hb:=dG h₂
  obtain⟨rfl,c,fn,_,hf',rfl,rfl,_⟩:=hb
  refine .call (by show s.steps+d<fuel';have:=q.f;omega) hk hl (by rw[cO];exact ih hs k0 (q.next ⟨rfl,rfl⟩ (.inr (nv _)))) (ih' r.2 k1 (q.next r.1 (.inr (nv _)))) ?_ (ih₃ r'.2 ((aZ N).body r'.2 hf') q')
  rw[rB q'.hC (fun s3 e=>by rw[e]at h₂;cases h₂),h₂];rfl
end Go.Abs.Mac
set_option linter.unusedVariables false
set_option linter.unusedSimpArgs false
namespace Go.Abs.Mac
open Go Go.Abs Go.Abs.Stk Go.Abs.At
theorem oK {s:Sa} {e rho c} {n:Nat} (h:s.aC.length≤n):(make s e rho c).all (fun s'=>s'.aC.length≤n):=by
 unfold make
 repeat' split
 all_goals exact h
theorem kX {s:Sa} {e rho c} {n:Nat} (h:s.aC.length+1≤n):(Mac.code s e rho c).all (fun s'=>s'.aC.length≤n):=
 oK (by show(s.aC++ [c]).length≤n;simp;exact h)
theorem yT {s:Sa} {t e} {n:Nat} (h:s.aC.length+1≤n):(inst s t e).all (fun s'=>s'.aC.length≤n):=by
 have h0:s.aC.length≤n:=by omega
 unfold inst
 split
 ·exact h0
 ·split
  ·refine Re.all_bind (p:=fun s'=>s'.aC.length≤n) (bR h0) fun c s' hr _=> ?_
   obtain⟨rfl,_⟩:=fQ hr
   split
   ·exact h0
   ·split
    ·split
     ·exact h0
     ·exact kX h
    ·exact h0
  ·exact h0
theorem sK {s:Sa} {t e} {n:Nat} (h:s.aC.length+1≤n):(leaf s t e).all (fun s'=>s'.aC.length≤n):=by
 have h0:s.aC.length≤n:=by omega
 unfold leaf
 split
 ·exact h0
 ·split
  ·split
   ·split<;>exact h0
   ·exact h0
  ·split
   ·exact yT h
   ·exact kX h
theorem tj {s:Sa} {t e vs} {n:Nat} (h:s.aC.length≤n):(eJ s t e vs).all (fun s'=>s'.aC.length≤n):=by
 unfold eJ
 split
 ·exact Re.all_bind (oK h) fun _ _ _ hs=>hs
 split
 ·exact Re.all_bind (p:=fun s'=>s'.aC.length≤n) (bR h) fun _ _ _ hs=>hs
 split
 ·exact Re.all_bind (p:=fun s'=>s'.aC.length≤n) (bR h) fun _ _ _ hs=>hs
 split
 ·exact Re.all_bind (oK h) fun _ _ _ hs=>hs
 split
 ·exact Re.all_bind (p:=fun s'=>s'.aC.length≤n) (bR h) fun _ _ _ hs=>hs
 split
 ·exact Re.all_bind (p:=fun s'=>s'.aC.length≤n) (bR h) fun _ _ _ hs=>hs
 split
 ·exact Re.all_bind (p:=fun s'=>s'.aC.length≤n) (dV h) fun _ _ _ hs=>Re.all_bind (p:=fun s'=>s'.aC.length≤n) (dV hs) fun _ _ _ hs=>hs
 split
 ·exact Re.all_bind (p:=fun s'=>s'.aC.length≤n) (dV h) fun _ _ _ hs=>hs
 ·refine Re.all_bind (p:=fun s'=>s'.aC.length≤n) (bR h) fun _ _ _ hs=> ?_
  split<;>exact hs
theorem Big.aC {fuel N s t e s' o} (h:Big fuel s t e s' o):CW (TN N) s→TN N t→s'.aC.length+s.steps≤s.aC.length+s'.steps∧s.steps≤s'.steps∧CW (TN N) s':=by
 induction h with
 | full hk h=>exact fun hs ht=>⟨Nat.le_refl _,Nat.le_refl _,hs⟩
 | @region s t e r st s' o hk h h' ih=>
  intro hs ht
  obtain⟨h1,h2,h3⟩:=ih hs (aS ht (aJ (by omega)))
  obtain⟨p1,p2,p3⟩:=jV o s'
  simp only at h1 h2
  exact⟨by rw[p2,p3];exact h1,by rw[p2];exact h2,by unfold CW;rw[p3];exact h3⟩
 | fuel hk h=>exact fun hs ht=>⟨Nat.le_refl _,Nat.le_refl _,hs⟩
 | @leaf s t e s' v hf hk h=>
  intro hs ht
  have:=(dg N s.store.L.length (s.steps+1)).ka (s:=tick s) (e:=e) ⟨rfl,rfl,hs⟩ ht hk
  have l:=sK (s:=tick s) (t:=t) (e:=e) (Nat.le_refl _)
  rw[h]at this l
  obtain⟨h1,h2,h3⟩:=this
  have l:s'.aC.length≤s.aC.length+1:=l
  exact⟨by omega,by omega,h3⟩
 | @leafOver s t e s' k hf hk h=>
  intro hs ht
  have:=(dg N s.store.L.length (s.steps+1)).ka (s:=tick s) (e:=e) ⟨rfl,rfl,hs⟩ ht hk
  have l:=sK (s:=tick s) (t:=t) (e:=e) (Nat.le_refl _)
  rw[h]at this l
  obtain⟨h1,h2,h3⟩:=this
  have l:s'.aC.length≤s.aC.length+1:=l
  exact⟨by omega,by omega,h3⟩
 | @letStop s t e s' o hf hk h ho ih=>
  intro hs ht
  obtain⟨h1,h2,h3⟩:=ih hs (aS ht (aJ (by omega)))
  simp only[tick]at h1 h2
  exact⟨by omega,by omega,h3⟩
 | @let_ s t e s' v s'' o hf hk h h' ih ih'=>
  intro hs ht
  obtain⟨h1,h2,h3⟩:=ih hs (aS ht (aJ (by omega)))
  obtain⟨g1,g2,g3⟩:=ih' h3 (aS ht (cb (by omega)))
  simp only[tick]at h1 h2
  exact⟨by omega,by omega,g3⟩
 | @letrecOver s t e s' k hf hk h=>
  intro hs ht
  have:=(dg N s.store.L.length (s.steps+1)).fY (s:=tick s) (e:=e) (rho:=t.rho) (c:=⟨aB t 0,t.h.arg,e,some t.aH⟩) ⟨rfl,rfl,hs⟩ (aS ht (aJ (by omega)))
  have l:=kX (s:=tick s) (e:=e) (rho:=t.rho) (c:=⟨aB t 0,t.h.arg,e,some t.aH⟩) (Nat.le_refl _)
  rw[h]at this l
  obtain⟨h1,h2,h3⟩:=this
  have l:s'.aC.length≤s.aC.length+1:=l
  exact⟨by omega,by omega,h3⟩
 | @letrec s t e s' v s'' o hf hk h h' ih=>
  intro hs ht
  have:=(dg N s.store.L.length (s.steps+1)).fY (s:=tick s) (e:=e) (rho:=t.rho) (c:=⟨aB t 0,t.h.arg,e,some t.aH⟩) ⟨rfl,rfl,hs⟩ (aS ht (aJ (by omega)))
  have l:=kX (s:=tick s) (e:=e) (rho:=t.rho) (c:=⟨aB t 0,t.h.arg,e,some t.aH⟩) (Nat.le_refl _)
  rw[h]at this l
  obtain⟨a1,a2,a3⟩:=this
  have l:s'.aC.length≤s.aC.length+1:=l
  obtain⟨b1,b2,b3⟩:=ih ((aZ N).patch a3) (aS ht (cb (by omega)))
  rw[dv]at b1 b2
  rw[mv]at b1
  exact⟨by omega,by omega,b3⟩
 | @ifStop s t e s' o hf hk h ho ih=>
  intro hs ht
  obtain⟨h1,h2,h3⟩:=ih hs (aS ht (aJ (by omega)))
  simp only[tick]at h1 h2
  exact⟨by omega,by omega,h3⟩
 | @ifStuck s t e s' v hf hk h hv ih=>
  intro hs ht
  obtain⟨h1,h2,h3⟩:=ih hs (aS ht (aJ (by omega)))
  simp only[tick]at h1 h2
  exact⟨by omega,by omega,h3⟩
 | @if_ s t e s' v s'' o hf hk h hv h' ih ih'=>
  intro hs ht
  obtain⟨h1,h2,h3⟩:=ih hs (aS ht (aJ (by omega)))
  obtain⟨g1,g2,g3⟩:=ih' h3 (aS ht (mQ hk))
  simp only[tick]at h1 h2
  exact⟨by omega,by omega,g3⟩
 | @try_ s t e s' o hf hk h ho ih=>
  intro hs ht
  obtain⟨h1,h2,h3⟩:=ih hs (aS ht (aJ (by omega)))
  simp only[tick]at h1 h2
  exact⟨by omega,by omega,h3⟩
 | @catch_ s t e s' n s'' o hf hk h h' ih ih'=>
  intro hs ht
  obtain⟨h1,h2,h3⟩:=ih hs (aS ht (aJ (by omega)))
  obtain⟨g1,g2,g3⟩:=ih' h3 (aS ht (cb (by omega)))
  simp only[tick]at h1 h2
  exact⟨by omega,by omega,g3⟩
 | @stop1 s t e s' o hf hk h ho ih=>
  intro hs ht
  obtain⟨h1,h2,h3⟩:=ih hs (aS ht (aJ (by omega)))
  simp only[tick]at h1 h2
  exact⟨by omega,by omega,h3⟩
 | @stop2 s t e s' v s'' o hf hk hl h h' ho ih ih'=>
  intro hs ht
  obtain⟨h1,h2,h3⟩:=ih hs (aS ht (aJ (by omega)))
  obtain⟨g1,g2,g3⟩:=ih' h3 (aS ht (by rw[←ht.1.len];omega))
  simp only[tick]at h1 h2
  exact⟨by omega,by omega,g3⟩
 | @rule1 s t e s' v s₂ o hf hk hl h h' ih=>
  intro hs ht
  obtain⟨h1,h2,h3⟩:=ih hs (aS ht (aJ (by omega)))
  simp only[tick]at h1 h2
  have:=h'.all ((dg N s'.store.L.length s'.steps).kc (s:=s') (t:=t) (e:=e) (vs:=[v]) ⟨rfl,rfl,h3⟩)
  have l:s₂.aC.length≤s'.aC.length:=h'.all (tj (Nat.le_refl _))
  exact⟨by omega,by omega,this.2.2⟩
 | @rule2 s t e s' v s'' w s₃ o hf hk hl h h' h₂ ih ih'=>
  intro hs ht
  obtain⟨h1,h2,h3⟩:=ih hs (aS ht (aJ (by omega)))
  obtain⟨g1,g2,g3⟩:=ih' h3 (aS ht (by rw[←ht.1.len];omega))
  simp only[tick]at h1 h2
  have:=h₂.all ((dg N s''.store.L.length s''.steps).kc (s:=s'') (t:=t) (e:=e) (vs:=[v,w]) ⟨rfl,rfl,g3⟩)
  have l:s₃.aC.length≤s''.aC.length:=h₂.all (tj (Nat.le_refl _))
  exact⟨by omega,by omega,this.2.2⟩
 | @call s t e s' v s'' w s₃ b e' s₄ o hf hk hl h h' h₂ h₃ ih ih' ih₃=>
  intro hs ht
  obtain⟨h1,h2,h3⟩:=ih hs (aS ht (aJ (by omega)))
  obtain⟨g1,g2,g3⟩:=ih' h3 (aS ht (by rw[←ht.1.len];omega))
  obtain⟨rfl,c,fn,_,hf',rfl,rfl,_⟩:=dG h₂
  obtain⟨c1,c2,c3⟩:=ih₃ g3 ((aZ N).body g3 hf')
  simp only[tick]at h1 h2
  exact⟨by omega,by omega,c3⟩
def KO (k:Int):Prop:=k=0∨k=3∨k=4∨k=5∨k=6
def Re.ko {α:Type}:Re α→Prop
 | .ok _ _=>True
 | .over _ k=>KO k
theorem Re.eF {α β:Type} {r:Re α} {f:α→Sa→Re β} (h:r.ko) (hf:∀x s,r= .ok x s→(f x s).ko):(r.bind f).ko:=by
 cases r with
 | ok x s=>exact hf x s rfl
 | over s k=>exact h
theorem rj {s e rho c}:(make s e rho c).ko:=by
 unfold make
 split
 ·split
  ·trivial
  ·show KO 4;simp[KO]
 ·show KO 5;simp[KO]
theorem j0 {s v k}:(take s v k).ko:=by
 unfold take
 split
 ·split
  ·show KO 5;simp[KO]
  ·split
   ·split
    ·split
     ·trivial
     ·show KO 6;simp[KO]
    ·show KO 6;simp[KO]
   ·show KO 6;simp[KO]
 ·show KO 6;simp[KO]
theorem mn {s v}:(number s v).ko:=by
 unfold number
 split
 ·trivial
 ·show KO 6;simp[KO]
theorem qU {s e rho c}:(Mac.code s e rho c).ko:=rj
theorem CD {s t e}:(inst s t e).ko:=by
 unfold inst
 split
 ·show KO 6;simp[KO]
 ·split
  ·refine Re.eF j0 fun c s' _=> ?_
   split
   ·show KO 0;simp[KO]
   ·split
    ·split
     ·show KO 5;simp[KO]
     ·exact qU
    ·show KO 6;simp[KO]
  ·show KO 6;simp[KO]
theorem CJ {s t e}:(leaf s t e).ko:=by
 unfold leaf
 split
 ·trivial
 ·split
  ·split
   ·split
    ·show KO 6;simp[KO]
    ·trivial
   ·show KO 6;simp[KO]
  ·split
   ·exact CD
   ·exact qU
theorem wi {s t e vs}:(eJ s t e vs).ko:=by
 unfold eJ
 split
 ·exact Re.eF rj fun _ _ _=>trivial
 split
 ·exact Re.eF j0 fun _ _ _=>trivial
 split
 ·exact Re.eF j0 fun _ _ _=>trivial
 split
 ·exact Re.eF rj fun _ _ _=>trivial
 split
 ·exact Re.eF j0 fun _ _ _=>trivial
 split
 ·exact Re.eF j0 fun _ _ _=>trivial
 split
 ·exact Re.eF mn fun _ _ _=>Re.eF mn fun _ _ _=>trivial
 split
 ·exact Re.eF mn fun _ _ _=>trivial
 ·refine Re.eF j0 fun _ _ _=> ?_
  split
  ·show KO 0;simp[KO]
  ·trivial
theorem kj.ko {r:Re Nx} {s o} (h:kj r s o) (hr:r.ko):∀k,o= .over k→KO k:=by
 cases h with
 | val=>intro k h;cases h
 | exn=>intro k h;cases h
 | over=>intro k h;cases h;exact hr
theorem Big.ko {fuel s t e s' o} (h:Big fuel s t e s' o):∀k,o= .over k→KO k:=by
 induction h with
 | full hk h=>intro k h;cases h;simp[KO]
 | region hk h h' ih=>exact ih
 | fuel hk h=>intro k h;cases h;simp[KO]
 | leaf hf hk h=>intro k h;cases h
 | @leafOver s t e s' k0 hf hk h=>intro k q;cases q;have:=CJ (s:=tick s) (t:=t) (e:=e);rw[h]at this;exact this
 | letStop hf hk h ho ih=>exact ih
 | let_ hf hk h h' ih ih'=>exact ih'
 | @letrecOver s t e s' k0 hf hk h=>intro k q;cases q;have:=qU (s:=tick s) (e:=e) (rho:=t.rho) (c:=⟨aB t 0,t.h.arg,e,some t.aH⟩);rw[h]at this;exact this
 | letrec hf hk h h' ih=>exact ih
 | ifStop hf hk h ho ih=>exact ih
 | ifStuck hf hk h hv ih=>intro k h;cases h;simp[KO]
 | if_ hf hk h hv h' ih ih'=>exact ih'
 | try_ hf hk h ho ih=>exact ih
 | catch_ hf hk h h' ih ih'=>exact ih'
 | stop1 hf hk h ho ih=>exact ih
 | stop2 hf hk hl h h' ho ih ih'=>exact ih'
 | rule1 hf hk hl h h' ih=>exact h'.ko wi
 | rule2 hf hk hl h h' h₂ ih ih'=>exact h₂.ko wi
 | call hf hk hl h h' h₂ h₃ ih ih' ih₃=>exact ih₃
def st0 (R C:Int):SG Cl:=⟨R,C,[(true,[])],0⟩
def s0 (R C:Int):Sa:=⟨st0 R C,0,[]⟩
def fin (s:Sa):Out→Res
 | .val v=>if v.kind=1 then ⟨s,1,true,v.n,ByteArray.empty⟩ else ⟨s,1,false,0,ByteArray.empty⟩
 | .exn n x=>⟨s,2,false,n,x⟩
 | .over k=>⟨s,k,false,0,ByteArray.empty⟩
def BB:Nat:=1000000000000
def Whole (fuel:Nat) (R C:Int) (t:AT) (r:Res):Prop:=Ends fuel t.size BB ⟨.node t En.nil,s0 R C,[]⟩ r
structure Lim (R C:Int):Prop where
 R:1≤R∧R≤1048576
 C:0≤C∧C≤4194304
theorem DK {R C:Int} (h:Lim R C) (N:Nat):Good N 0 0 0 (s0 R C) where
 cw:=by intro c hc;simp[s0]at hc
 ok:=by
  refine⟨h.R,h.C,?_,?_,?_⟩
  ·show(1:Int)≤R;exact h.R.1
  ·show(0:Int)≤C;exact h.C.1
  ·show(0:Int)≤0∧(0:Int)≤C;exact⟨Int.le_refl _,h.C.1⟩
 idx:=by
  intro i row c h1 h2 h3
  have h1:[(true,([]:List Cl))][i]?=some (true,row):=h1
  cases i with
  | zero=>simp at h1;subst h1;simp at h2
  | succ i=>simp at h1
 steps:=Nat.zero_le _
 len:=Nat.zero_le _
 aC:=Nat.zero_le _
theorem m7 {fuel:Nat} {R C:Int} {t:AT} (hf:fuel≤3000) (ht:Wf t) (hs:t.size≤400) (hl:Lim R C):∃s' o,Big fuel (s0 R C) t En.nil s' o:=by
 exact total fuel t.size fuel t.size (s0 R C) t En.nil (by show fuel≤0+fuel;omega) (Nat.le_refl _) ⟨ht,Nat.le_refl _⟩ (DK hl _).cw
theorem lS {fuel:Nat} {R C:Int} {t:AT} (hf:fuel≤3000) (ht:Wf t) (hs:t.size≤400) (hl:Lim R C) {s' o} (h:Big fuel (s0 R C) t En.nil s' o):Whole fuel R C t (fin s' o):=by
 have hT:TN t.size t:=⟨ht,Nat.le_refl _⟩
 have hg:=DK hl t.size
 have hL:=h.left hg.cw hT (by show 1≤[0].length;simp) (Nat.zero_le _)
 obtain⟨h1,h2,h3,_⟩:=h.regions hg.cw hT
 obtain⟨h4,_,_⟩:=h.aC hg.cw hT
 have hst:=hL.steps
 have e0:(s0 R C).store.L.length=1:=rfl
 have e1:(s0 R C).steps=0:=rfl
 have e2:(s0 R C).aC.length=0:=rfl
 rw[e0,e1]at h1
 rw[e1,e2]at h4
 have hm:3 * t.size * (s'.steps - 0)≤3 * 400 * 3000:=Nat.mul_le_mul (by omega) (by omega)
 have hb:Bd BB s':=⟨by show _≤1000000000000;omega,by show _≤1000000000000;omega⟩
 have hG:=h.eM hg hT
 have hK:Ks (s0 R C) []:=⟨by simp,Nat.zero_le _⟩
 have hK':=hK.later hG
 refine yr h hg hT hb [] _ hK ?_
 cases o with
 | val v=>
  by_cases hv:v.kind=1
  ·have e:fin s' (.val v)=⟨s',1,true,v.n,ByteArray.empty⟩:=by simp only[fin];rw[if_pos hv]
   rw[e]
   exact Ends.end_ (ib hG.zero hb hK') (by simp[step,hv])
  ·have e:fin s' (.val v)=⟨s',1,false,0,ByteArray.empty⟩:=by simp only[fin];rw[if_neg hv]
   rw[e]
   exact Ends.end_ (ib hG.zero hb hK') (by simp[step,hv])
 | exn n x=>exact Ends.end_ (vH hG.zero hb hK') (by simp[step,raise])
 | over k=>rfl
theorem zR {fuel N B m j r} (h:mG fuel N B m j r):∀ {j' r'},mG fuel N B m j' r'→r'=r:=by
 induction h with
 | end_ hf h=>
  intro j' r' h'
  cases h' with
  | end_ _ h2=>rw[h]at h2;cases h2;rfl
  | on _ h2 _=>rw[h]at h2;cases h2
 | on hf h h' ih=>
  intro j' r' h'
  cases h' with
  | end_ _ h2=>rw[h]at h2;cases h2
  | on _ h2 h3=>rw[h]at h2;cases h2;exact ih h3
theorem qB {fuel R C t r r'} (h:Whole fuel R C t r) (h':Whole fuel R C t r'):r'=r:=by
 obtain⟨j,h⟩:=h
 obtain⟨j',h'⟩:=h'
 exact zR h h'
end Go.Abs.Mac
set_option linter.unusedVariables false
set_option linter.unusedSimpArgs false
namespace Go.Abs.Mac
open Go Go.Abs Go.Abs.Stk Go.Abs.At
structure j7 (fuel:Nat) (R C:Int) (t:AT):Prop where
 f:fuel≤3000
 wf:Wf t
 sz:t.size≤400
 lim:Lim R C
theorem xN {fuel R C t r} (h:j7 fuel R C t) (hw:Whole fuel R C t r):∃s' o,Big fuel (s0 R C) t En.nil s' o∧r=fin s' o:=by
 obtain⟨s',o,hb⟩:=m7 h.f h.wf h.sz h.lim
 exact⟨s',o,hb,qB (lS h.f h.wf h.sz h.lim hb) hw⟩
theorem vF (s:Sa) (o:Out):(fin s o).s=s:=by
 cases o with
 | val v=>simp only[fin];split<;>rfl
 | exn n x=>rfl
 | over k=>rfl
structure SameEnd (r r':Res) (d:Nat):Prop where
 kind:r'.kind=r.kind
 isInt:r'.isInt=r.isInt
 n:r'.n=r.n
 exn:r'.exn=r.exn
 steps:r'.s.steps=r.s.steps+d
 live:r'.s.store.live.length=r.s.store.live.length
 cells:r'.s.store.cells=r.s.store.cells
 most:r'.s.store.most=r.s.store.most
end Go.Abs.Mac
