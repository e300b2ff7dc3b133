import Derived.Test.YtjilebpcaemopaaGreatDoorSafeC
set_option linter.unusedVariables false
set_option linter.unusedSimpArgs false
namespace Go.Abs.Safe
open Go Go.Abs Go.Abs.Stk Go.Abs.At Go.Abs.Mac Go.Abs.Chk
theorem tz {e:En}:∀ {l qs:List Int} {own:En},qs.length=l.length→(∀x∈l,(e.region x).2=true)→qs.Nodup→
 ∃own',opens e own l qs=some own'∧own'.names=own.names∧(∀x,x∉qs→own'.region x=own.region x)∧(∀x,x∈qs→own'.region x=(gOf e (dY x qs l),true))
 | [],[],own,_,_,_=>⟨own,rfl,rfl,fun _ _=>rfl,fun _ h=>by simp at h⟩
 | [],_::_,own,h,_,_=>by simp at h
 | _::_,[],own,h,_,_=>by simp at h
 | r::l,q::qs,own,hl,hr,hn=>by
  obtain⟨own',h1,h2,h3,h4⟩:=tz (e:=e) (l:=l) (qs:=qs) (own:=own.opn q (e.region r).1) (by simpa using hl) (fun x hx=>hr x (by simp[hx])) (List.nodup_cons.1 hn).2
  have hq:=(List.nodup_cons.1 hn).1
  refine⟨own',by simp only[opens];rw[if_pos (hr r (by simp))];exact h1,h2,fun x hx=> ?_,fun x hx=> ?_⟩
  ·rw[h3 x (fun h=>hx (by simp[h])),gY,if_neg (by intro h;exact hx (by simp[h]))]
  ·by_cases e':x=q
   ·subst e'
    rw[h3 _ hq,gY,if_pos rfl]
    simp[dY,gOf]
   ·have:x∈qs:=by
     rcases List.mem_cons.1 hx with h | h
     ·exact absurd h e'
     ·exact h
    rw[h4 x this]
    simp only[dY]
    rw[if_neg (fun h=>e' h.symm)]
theorem oN (c:List Co) (x:Co):nT c (c++ [x]):=fun i y hy=>by
 rw[List.getElem?_append_left (List.getElem?_eq_some_iff.1 hy).1];exact hy
theorem ld (c:List Co) (x:Co):(c++ [x])[((c.length:Int)).toNat]?=some x:=by simp
theorem CQ {a b:Atom} (h:bw b=true):Has (ofA [a,b]) b:=b8.2 ⟨by simp,h⟩
theorem CP {a b:Atom} (h:bw a=true):Has (ofA [a,b]) a:=b8.2 ⟨by simp,h⟩
def Cf (S:Sg) (s:Sa) (T:ST) (φ:Atom→Prop) (r:Re V):Prop:=
 (∃s',r= .over s' 4)∨∃v s' S',r= .ok v s'∧S.le S'∧SOK S' s'∧VT S' v T∧aW s.store s'.store φ
theorem we {S:Sg} {s:Sa} {e:En} {Γ:List Bd} {rs:List Int} {t:AT} {T:RT} {E:List Atom} (hT:Ty Γ rs t T E) (hk:bu t.h.kind) (hB:Bnd rs t) (hw:Wf t)
 (hs:SOK S s) (he:cj S e Γ rs) (hlive:gH s (bG (gOf e) E)):Cf S s (cb (gOf e) T) (bG (gOf e) E) (Mac.leaf s t e):=by
 have hmay:=hB.may t (fp t)
 unfold bu at hk
 cases hT with
 | pair hr hk'=>omega
 | proj hr hk'=>omega
 | ref hr hk'=>omega
 | get hr hk'=>omega
 | set hr hk'=>omega
 | op hr hk'=>omega
 | app hr hk'=>omega
 | let_ hr hk'=>omega
 | letrec hr hk'=>omega
 | if_ hr hk'=>omega
 | raise hr hk'=>omega
 | try_ hr hk'=>omega
 | region hr hk'=>omega
 | num hr hk'=>
  refine .inr ⟨num t.h.n,s,S,?_,Sg.le.refl _,hs,rfl,aW.refl _ _⟩
  unfold Mac.leaf;rw[if_pos hk']
 | @var _ _ _ b hr hk' hf hb=>
  obtain⟨n,hn,ok⟩:=he.find hf
  refine .inr ⟨n.v,s,S,?_,Sg.le.refl _,hs,(ok.val hb).2,aW.refl _ _⟩
  have:n.fn=false:=ok.fn.trans hb
  unfold Mac.leaf;rw[if_neg (by omega),if_pos hk',hn]
  simp[this]
 | @fn _ _ _ a e0 hr hk' h0 hww=>
  have hreg:=cB hr
  have hrho:=hreg.1 (by omega)
  have hput:Has (ofA [putAt t.rho]) (putAt t.rho):=b8.2 (fP.2 ⟨rfl,fI (kG hmay)⟩)
  have hty:InT (· ∈rs) t.type:=by have:=hreg.2.2.2.1;rwa [if_neg (by omega),List.append_nil]at this
  have hkid:0<t.kids.length:=by rw[hw.len,hk'];decide
  have hm:=mb (s:=(cy s ⟨aA t 0,t.h.arg,e,none⟩).2) (codes0:=s.aC) (c:=(cy s ⟨aA t 0,t.h.arg,e,none⟩).1) (S:=S) hs (he.regs _ hrho) (hlive _ (eE hput) (by simp[putAt]))
   (fun _=>s.aC++ [⟨aA t 0,t.h.arg,e,none⟩]) (fun _=>oN _ _) (.fn (bG (gOf e) t.eff) (cb (gOf e) t.type) (cb (gOf e) a))
   (fun v _ _ _ hle=>⟨rfl,_,ld _ _,Γ,rs,t.type,a,e0,he.mono hle,hB.ig hkid,hty,h0,rfl,rfl,fun x hx=>dL (fun b hb=>ib hww hb) hx⟩)
  unfold Mac.leaf
  rw[if_neg (by omega),if_neg (by omega),if_neg (by omega)]
  unfold Mac.code
  rcases hm with hm | ⟨v,st,hm,M⟩
  ·exact .inl ⟨_,hm⟩
  ·refine .inr ⟨v,_,_,hm,M.le,M.ok,?_,M.keep (eE hput)⟩
   exact⟨M.kind,M.n,M.rg,by have:=M.at_;rw[M.rg]at this;exact this⟩
 | @inst _ _ _ b hr hk' hf hb hl hww=>
  have hreg:=cB hr
  have hrho:=hreg.1 (by omega)
  have hto:=hreg.2.1 hk'
  have hto0:∀x∈t.aG,(0:Int)≤x:=zO hmay
  obtain⟨n,hn,ok⟩:=he.find hf
  obtain⟨L,g,p⟩:=ok.rec_ hb
  have hfn:n.fn=true:=ok.fn.trans hb
  have hfr:b.f.rho∈rs:=(p.same _ p.rho).1
  have hfr0:(0:Int)≤b.f.rho:=hB.rs.pos _ hfr
  have hput:Has (ofA [dz b.f.rho,putAt t.rho]) (putAt t.rho):=CQ (fI (kG hmay))
  have hget:Has (ofA [dz b.f.rho,putAt t.rho]) (dz b.f.rho):=CP (lU hfr0)
  obtain⟨c,hc,hok⟩:=hs.take p.at_ p.kind p.n (by rw[p.r];exact hlive _ (oe hget) (by simp[dz])) (k:=3) (fun x hx=>hx.1)
  obtain⟨_,co,hco,q1,q2,q3,q4,q5,Γ',T',E',q6,q7,q8,q9,q10⟩:=hok
  obtain⟨own,o1,o2,o3,o4⟩:=tz (e:=e) (l:=t.aG) (qs:=b.f.aG) (own:=co.env) hl (fun x hx=>he.regs _ (hto x hx)) q4
  have hg:∀x,x∈L++b.f.aG→gOf own x=gOf e (dY x b.f.aG t.aG):=fun x hx=>by
   by_cases hxf:x∈b.f.aG
   ·show(own.region x).1=_;rw[o4 x hxf]
   ·have hxL:x∈L:=by
     rcases List.mem_append.1 hx with h | h
     ·exact h
     ·exact absurd h hxf
    rw[p7 hxf,(p.same x hxL).2,←q3 x hxL]
    show(own.region x).1=_;rw[o3 x hxf];rfl
  have hown:cj S own Γ' (L++b.f.aG):=q6.more o2 (fun x hx=>by
   show(own.region x).1=_;rw[o3 x (fun h=>q5 x h hx)];rfl) (fun x hx=>by simp[hx]) (fun x hx=>by
   by_cases hxf:x∈b.f.aG
   ·rw[o4 x hxf]
   ·rw[o3 x hxf]
    rcases List.mem_append.1 hx with h | h
    ·exact q6.regs x h
    ·exact absurd h hxf)
  have et:cb (gOf own) b.f.type=cb (gOf e) (swapT b.f.aG t.aG b.f.type):=by rw[m9 hto0];exact gZ hg p.type
  have er:cb (gOf own) T'=cb (gOf e) (swapT b.f.aG t.aG b.f.res):=by rw[m9 hto0,gG q9];exact gZ hg p.res
  have ee:∀x,bG (gOf own) E' x→bG (gOf e) t.eff x:=fun x hx=>by
   have h1:bG (gOf own) b.f.eff x:=dL (fun b hb=>ib q10 hb) hx
   rw[pG p.eff hg,←qU hto0]at h1
   exact dL (fun b hb=>ib hww hb) h1
  have hm:=mb (s:=(cy s ⟨co.body,co.arg,own,none⟩).2) (codes0:=s.aC) (c:=(cy s ⟨co.body,co.arg,own,none⟩).1) (S:=S) hs (he.regs _ hrho) (hlive _ (eE hput) (by simp[putAt]))
   (fun _=>s.aC++ [⟨co.body,co.arg,own,none⟩]) (fun _=>oN _ _) (.fn (bG (gOf e) t.eff) (cb (gOf e) (swapT b.f.aG t.aG b.f.type)) (cb (gOf e) (swapT b.f.aG t.aG b.f.res)))
   (fun v _ _ _ hle=>⟨rfl,_,ld _ _,Γ',L++b.f.aG,b.f.type,T',E',hown.mono hle,q7,p.type,by rw[q1];exact q8,et,er,ee⟩)
  unfold Mac.leaf
  rw[if_neg (by omega),if_neg (by omega),if_pos hk']
  unfold inst
  rw[hn]
  simp only[hfn,if_true,hc,Re.bind,hco]
  rw[q2,if_pos hl,o1]
  simp only
  unfold Mac.code
  rcases hm with hm | ⟨v,st,hm,M⟩
  ·exact .inl ⟨_,hm⟩
  ·refine .inr ⟨v,_,_,hm,M.le,M.ok,?_,M.keep (eE hput)⟩
   exact⟨M.kind,M.n,M.rg,by have:=M.at_;rw[M.rg]at this;exact this⟩
theorem qH {S:Sg} {s:Sa} {e:En} {Γ:List Bd} {rs:List Int} {t:AT} {a:RT} {e0:List Atom} (hr:bo t rs=true) (hk:t.h.kind=13) (hB:Bnd rs t) (hw:Wf t)
 (h0:Ty ((Γ++ [jD t])++ [fR t.h.arg t.type]) (rs++t.aG) (aA t 0) a e0) (hsm:RT.same a t.res=true) (hww:bk e0 t.eff=true)
 (hs:SOK S s) (he:cj S e Γ rs) (hlive:de s.store (gOf e t.rho)=true):
 (∃s',Mac.code s e t.rho ⟨aA t 0,t.h.arg,e,some t.aG⟩= .over s' 4)∨
 ∃v s' S',Mac.code s e t.rho ⟨aA t 0,t.h.arg,e,some t.aG⟩= .ok v s'∧S.le S'∧SOK S' (patch s' (e.with t.h.name v true))∧cj S' (e.with t.h.name v true) (Γ++ [jD t]) rs∧aW s.store s'.store (fun x=>x=putAt (gOf e t.rho))∧s'.store.live=s.store.live:=by
 have hreg:=cB hr
 rw[if_pos hk]at hreg
 obtain⟨g1,_,g2,g3,g4⟩:=hreg
 have hrho:=g1 (by omega)
 have hkid:0<t.kids.length:=by rw[hw.len,hk];decide
 have hown:own t=t.aG:=by unfold own;rw[if_neg (by omega),if_pos hk]
 have hpt:∀(S':Sg) (v:V),v.kind=2→v.n=0→v.r=gOf e t.rho→S' v.r v.a=some (.poly t rs (gOf e))→PT S' e rs v t rs (gOf e):=fun S' v h1 h2 h3 h4=>
  ⟨h1,h2,h4,h3,fun x hx=>⟨hx,rfl⟩,hrho,g3,g4,g2⟩
 have hat:∀(v:V),v.r=gOf e t.rho→(S.upd (gOf e t.rho) v.a (.poly t rs (gOf e))) v.r v.a=some (.poly t rs (gOf e)):=fun v hv=>by unfold Sg.upd;rw[if_pos ⟨hv,rfl⟩]
 have hm:=mb (s:=(cy s ⟨aA t 0,t.h.arg,e,some t.aG⟩).2) (codes0:=s.aC) (c:=(cy s ⟨aA t 0,t.h.arg,e,some t.aG⟩).1) (S:=S) hs (he.regs _ hrho) hlive
  (fun v=>s.aC++ [⟨aA t 0,t.h.arg,e.with t.h.name v true,some t.aG⟩]) (fun _=>oN _ _) (.poly t rs (gOf e))
  (fun v v1 v2 v3 hle=>⟨rfl,_,ld _ _,rfl,rfl,fun _ _=>rfl,by have:=hB.xD;rwa [hown]at this,fun x hx=>hB.wq (by rw[hown];exact hx),
    Γ++ [jD t],a,e0,(he.mono hle).wM (hpt _ v v1 v2 v3 (hat v v3)),hB.kid hkid (by rw[hown];exact fun _ h=>h),h0,hsm,hww⟩)
 unfold Mac.code
 rcases hm with hm | ⟨v,st,hm,M⟩
 ·exact .inl ⟨_,hm⟩
 ·refine .inr ⟨v,_,_,hm,M.le,?_,(he.mono M.le).wM (hpt _ v M.kind M.n M.rg (by have:=M.at_;exact this)),M.keep rfl,M.live⟩
  have:patch {(cy s ⟨aA t 0,t.h.arg,e,some t.aG⟩).2 with store:=st} (e.with t.h.name v true)=⟨st,s.steps,s.aC++ [⟨aA t 0,t.h.arg,e.with t.h.name v true,some t.aG⟩]⟩:=by
   unfold Mac.patch cy
   simp
  rw[this]
  exact M.ok
def OutOK (S:Sg) (T:ST) (φ:Atom→Prop):Out→Prop
 | .val v=>VT S v T
 | .exn n x=>φ (lf x)
 | .over k=>k=3∨k=4
def dP (S:Sg) (s s':Sa) (T:ST) (φ:Atom→Prop) (o:Out):Prop:=
 ∃S',S.le S'∧OutOK S' T φ o∧(¬o.cz→SOK S' s'∧aW s.store s'.store φ)
theorem dP.stop {S s s1 s' T0 T φ0 φ} {o:Out} (h:dP S s1 s' T0 φ0 o) (ho:¬o.isVal) (hi:∀x,φ0 x→φ x) (hs:s1.store=s.store):dP S s s' T φ o:=by
 obtain⟨S',h1,h2,h3⟩:=h
 refine⟨S',h1,?_,fun h=>⟨(h3 h).1,by rw[←hs];exact(h3 h).2.mono hi⟩⟩
 cases o with
 | val v=>exact(ho trivial).elim
 | exn n x=>exact hi _ h2
 | over k=>exact h2
theorem dP.seq {S S1 s s1 s' T φ1 φ} {o:Out} (hS:S.le S1) (hk:aW s.store s1.store φ) (h:dP S1 s1 s' T φ1 o) (hi:∀x,φ1 x→φ x):dP S s s' T φ o:=by
 obtain⟨S',h1,h2,h3⟩:=h
 refine⟨S',hS.trans h1,?_,fun h=>⟨(h3 h).1,hk.trans ((h3 h).2.mono hi)⟩⟩
 cases o with
 | val v=>exact h2
 | exn n x=>exact hi _ h2
 | over k=>exact h2
theorem dP.val {S s s' T φ v} (h:dP S s s' T φ (.val v)):∃S',S.le S'∧VT S' v T∧SOK S' s'∧aW s.store s'.store φ:=by
 obtain⟨S',h1,h2,h3⟩:=h
 exact⟨S',h1,h2,h3 (by simp[Out.cz])⟩
theorem zF {s:SG Cl} {r:Int} {row:List Cl} (h:(db s).row r=some row):s.row r=some row:=by
 unfold db at h
 split at h
 ·exact h
 ·split at h
  ·rename_i i hi
   obtain⟨c0,hc0⟩:=SG.j6 hi
   rw[SG.mv (List.getElem?_eq_some_iff.1 hc0).1]at h
   split at h
   ·cases h
   ·exact h
  ·exact h
theorem xF {s s' t e r st o S Γ rs a e0} (hk:t.h.kind=17) (hp:fg s.store=some (r,st)) (hlv:¬o.cz→(qk o s').store.live=s.store.live) (hs:SOK S s) (he:cj S e Γ rs) (hB:Bnd rs t)
 (hT:Ty Γ rs t a (ofA (cU e0 [t.rho]))) (hlive:gH s (bG (gOf e) (ofA (cU e0 [t.rho]))))
 (ih:SOK S {s with store:=st}→cj S (e.opn t.rho r) Γ (rs++ [t.rho])→Bnd (rs++ [t.rho]) (aA t 0)→gH {s with store:=st} (bG (gOf (e.opn t.rho r)) e0)→dP S {s with store:=st} s' (cb (gOf (e.opn t.rho r)) a) (bG (gOf (e.opn t.rho r)) e0) o)
 (hw:Wf t):dP S s (qk o s') (cb (gOf e) a) (bG (gOf e) (ofA (cU e0 [t.rho]))) o:=by
 have hp':=hp
 obtain⟨_,rfl,rfl⟩:=fS hp
 have hown:t.rho∈own t:=by unfold own;rw[if_pos hk];simp
 have hnot:t.rho∉rs:=hB.wq hown
 have hkid:0<t.kids.length:=by rw[hw.len,hk];decide
 have hgo:∀x,gOf (e.opn t.rho s.store.L.length) x=if x=t.rho then (s.store.L.length:Int) else gOf e x:=fun x=>by
  unfold gOf;rw[gY];split<;>rfl
 have hrow:∀r row,s.store.row r=some row→s.store.more.row r=some row:=fun r row hr=>by
  obtain⟨i,rfl,_,hi⟩:=SG.gA hr
  rw[SG.ke,if_neg (by omega)];exact hr
 have hhas:∀b,Has e0 b→b.kind=3∨b.rho≠t.rho→Has (ofA (cU e0 [t.rho])) b:=fun b hb h=>b8.2 (ny.2 ⟨hb,by simpa using h⟩)
 have hl1:gH {s with store:=s.store.more} (bG (gOf (e.opn t.rho s.store.L.length)) e0):=by
  rintro x ⟨b,hb,rfl⟩ h3
  have hb3:b.kind≠3:=by intro h;apply h3;unfold eB;rw[if_pos h];exact h
  have hx:(eB (gOf (e.opn t.rho s.store.L.length)) b).rho=gOf (e.opn t.rho s.store.L.length) b.rho:=by unfold eB;rw[if_neg hb3]
  rw[hx,hgo]
  show de s.store.more _=true
  by_cases hbr:b.rho=t.rho
  ·rw[if_pos hbr]
   unfold de
   rw[SG.ke,if_pos rfl];rfl
  ·rw[if_neg hbr]
   have:=hlive _ ⟨b,hhas b hb (.inr hbr),rfl⟩ (by unfold eB;rw[if_neg hb3];exact hb3)
   have hx2:(eB (gOf e) b).rho=gOf e b.rho:=by unfold eB;rw[if_neg hb3]
   rw[hx2]at this
   unfold de at this⊢
   obtain⟨row,hr⟩:=Option.isSome_iff_exists.1 this
   rw[hrow _ _ hr];rfl
 obtain⟨S',h1,h2,h3⟩:=ih (hs.push hp') (he.opn _ hnot) (hB.kid hkid (by intro x hx;rw[List.mem_singleton.1 hx];exact hown)) hl1
 have hin:=hT.s8 he.gin hB.rs.zero
 have hT2:cb (gOf (e.opn t.rho s.store.L.length)) a=cb (gOf e) a:=gZ (P:=(· ∈rs)) (fun x hx=>by rw[hgo,if_neg (by intro h;exact hnot (by rw[←h];exact hx))]) hin.1
 rw[hT2]at h2
 refine⟨S',h1,?_,fun hno=> ?_⟩
 ·cases o with
  | val v=>exact h2
  | exn n x=>
   obtain⟨b,hb,hx⟩:=h2
   have hb3:b.kind=3:=by
    have:(eB (gOf (e.opn t.rho s.store.L.length)) b).kind=b.kind:=by unfold eB;split<;>rfl
    rw[←hx]at this;exact this.symm
   refine⟨b,hhas b hb (.inl hb3),?_⟩
   rw[hx];unfold eB;rw[if_pos hb3,if_pos hb3]
  | over k=>exact h2
 ·obtain⟨k1,k2⟩:=h3 hno
  have hlv:=hlv hno
  have hpo:qk o s'= {s' with store:=db s'.store}:=by
   cases o with
   | over k=>exact(hno trivial).elim
   | _=>rfl
  rw[hpo]at hlv⊢
  refine⟨k1.pop,fun r row hr hn=> ?_⟩
  have hne:r≠s.store.L.length:=by
   obtain⟨i,rfl,_,hi⟩:=SG.gA hr
   omega
  obtain⟨row',h4,h5⟩:=k2 r row (hrow _ _ hr) (fun hφ=>by
   obtain⟨b,hb,hx⟩:=hφ
   by_cases hb3:b.kind=3
   ·have:(eB (gOf (e.opn t.rho s.store.L.length)) b)=b:=by unfold eB;rw[if_pos hb3]
    rw[this]at hx
    rw[←hx]at hb3;simp[putAt]at hb3
   ·have hx2:(eB (gOf (e.opn t.rho s.store.L.length)) b)= {b with rho:=gOf (e.opn t.rho s.store.L.length) b.rho}:=by unfold eB;rw[if_neg hb3]
    rw[hx2,hgo]at hx
    by_cases hbr:b.rho=t.rho
    ·rw[if_pos hbr]at hx
     have:=congrArg Atom.rho hx
     simp[putAt]at this
     exact hne this
    ·rw[if_neg hbr]at hx
     refine hn ⟨b,hhas b hb (.inr hbr),?_⟩
     rw[hx];unfold eB;rw[if_neg hb3])
  have hl2:de (db s'.store) r=true:=by
   rw[qJ hlv];unfold de;rw[hr];rfl
  unfold de at hl2
  obtain⟨row'',h6⟩:=Option.isSome_iff_exists.1 hl2
  have:=zF h6
  rw[h4]at this
  cases this
  exact⟨_,h6,h5⟩
theorem Ty.DZ {Γ rs t T E} (h:Ty Γ rs t T E) (hk:t.h.kind=12):∃a e0 e1,Ty Γ rs (aA t 0) a e0∧Ty (Γ++ [fR t.h.name a]) rs (aA t 1) T e1∧E=ofA (e0++e1):=by
 cases h with
 | let_ hr hk' h0 h1=>exact⟨_,_,_,h0,h1,rfl⟩
 | _=>omega
theorem Ty.D0 {Γ rs t T E} (h:Ty Γ rs t T E) (hk:t.h.kind=13):∃a e0 e1,bo t rs=true∧Ty ((Γ++ [jD t])++ [fR t.h.arg t.type]) (rs++t.aG) (aA t 0) a e0∧RT.same a t.res=true∧bk e0 t.eff=true∧Ty (Γ++ [jD t]) rs (aA t 1) T e1∧E=ofA (putAt t.rho::e1):=by
 cases h with
 | letrec hr hk' h0 hs hw h1=>exact⟨_,_,_,hr,h0,hs,hw,h1,rfl⟩
 | _=>omega
theorem Ty.y9 {Γ rs t T E} (h:Ty Γ rs t T E) (hk:t.h.kind=14):∃a e0 e1 c e2,Ty Γ rs (aA t 0) a e0∧a.kind=1∧Ty Γ rs (aA t 1) T e1∧Ty Γ rs (aA t 2) c e2∧RT.same T c=true∧E=ofA (e0++e1++e2):=by
 cases h with
 | if_ hr hk' h0 h1 h2 ha hs=>exact⟨_,_,_,_,_,h0,ha,h1,h2,hs,rfl⟩
 | _=>omega
theorem Ty.D1 {Γ rs t T E} (h:Ty Γ rs t T E) (hk:t.h.kind=16):∃e0 b e1,Ty Γ rs (aA t 0) T e0∧Ty (Γ++ [fR t.h.arg one]) rs (aA t 1) b e1∧RT.same T b=true∧E=ofA (dm e0 [t.h.exn]++e1):=by
 cases h with
 | try_ hr hk' h0 h1 hs=>exact⟨_,_,_,h0,h1,hs,rfl⟩
 | _=>omega
theorem Ty.inv17 {Γ rs t T E} (h:Ty Γ rs t T E) (hk:t.h.kind=17):∃e0,Ty Γ (rs++ [t.rho]) (aA t 0) T e0∧E=ofA (cU e0 [t.rho]):=by
 cases h with
 | region hr hk' h0 hn=>exact⟨_,h0,rfl⟩
 | _=>omega
theorem eh {g:Int→Int} {e f:List Atom} {x:Atom} (h:bG g e x):bG g (ofA (e++f)) x:=dL (fun b hb=>b8.2 (bz.2 (.inl hb))) h
theorem fK {g:Int→Int} {e f:List Atom} {x:Atom} (h:bG g f x):bG g (ofA (e++f)) x:=dL (fun b hb=>b8.2 (bz.2 (.inr hb))) h
theorem dP.over {S s s' T φ} {k:Int} (h:k=3∨k=4):dP S s s' T φ (.over k):=⟨S,Sg.le.refl _,h,fun h=>(h trivial).elim⟩
structure Mid (N fuel:Nat) (S1:Sg) (s s1:Sa) (e:En) (Γ:List Bd) (rs:List Int):Prop where
 cw:CW (TN N) s1
 one:1≤s1.store.live.length
 steps:s1.steps≤fuel
 live:s1.store.live=s.store.live
 env:cj S1 e Γ rs
theorem mid {fuel N s t e s1 v S S1 Γ rs} (h:Big fuel s t e s1 (.val v)) (hc:CW (TN N) s) (ht:TN N t) (h1:1≤s.store.live.length) (hf:s.steps≤fuel) (he:cj S e Γ rs) (hS:S.le S1):Mid N fuel S1 s s1 e Γ rs:=by
 have hL:=h.left hc ht h1 hf
 exact⟨hL.cw,hL.one,hL.steps,hL.same (by simp[Out.cz]),he.mono hS⟩
theorem safe {fuel N s t e s' o} (h:Big fuel s t e s' o):∀ {S Γ rs T E},CW (TN N) s→TN N t→1≤s.store.live.length→s.steps≤fuel→SOK S s→cj S e Γ rs→Bnd rs t→Ty Γ rs t T E→gH s (bG (gOf e) E)→
 dP S s s' (cb (gOf e) T) (bG (gOf e) E) o:=by
 induction h with
 | full hk h=>exact fun {S} _ _ _ _ _ _ _ _ _ _ _ _ _=>⟨S,Sg.le.refl _,.inr rfl,fun h=>(h trivial).elim⟩
 | fuel hk h=>exact fun {S} _ _ _ _ _ _ _ _ _ _ _ _ _=>⟨S,Sg.le.refl _,.inl rfl,fun h=>(h trivial).elim⟩
 | @region s t e r st s' o hk hp h' ih=>
  intro S Γ rs T E hc ht h1 hf hs he hB hT hlive
  have hL:=(Big.region hk hp h').left hc ht h1 hf
  have hT':=hT
  obtain⟨_,hr',hst⟩:=fS hp
  have ht0:TN N (aA t 0):=Mac.aO ht (aI (by omega))
  have hl1:1≤st.live.length:=by rw[hst,SG.iN];simp
  obtain⟨e0,h0,rfl⟩:=hT.inv17 hk
  exact xF hk hp hL.same hs he hB hT' hlive (fun a b c d=>ih hc ht0 hl1 hf a b c h0 d) ht.1
 | @leaf s t e s' v hf hk h=>
  intro S Γ rs T E hc ht h1 _ hs he hB hT hlive
  have:=we hT hk hB ht.1 hs.tick he hlive
  rw[h]at this
  rcases this with ⟨s1,h2⟩ | ⟨v',s1,S',h2,h3,h4,h5,h6⟩
  ·cases h2
  ·cases h2;exact⟨S',h3,h5,fun _=>⟨h4,h6⟩⟩
 | @leafOver s t e s' k hf hk h=>
  intro S Γ rs T E hc ht h1 _ hs he hB hT hlive
  have:=we hT hk hB ht.1 hs.tick he hlive
  rw[h]at this
  rcases this with ⟨s1,h2⟩ | ⟨v',s1,S',h2,h3,h4,h5,h6⟩
  ·cases h2;exact⟨S,Sg.le.refl _,.inr rfl,fun h=>(h trivial).elim⟩
  ·cases h2
 | @letStop s t e s' o hf hk h ho ih=>
  intro S Γ rs T E hc ht h1 _ hs he hB hT hlive
  obtain⟨a,e0,e1,k0,k1,rfl⟩:=hT.DZ hk
  exact(ih hc (Mac.aO ht (aI (by omega))) h1 hf hs.tick he (hB.ig (by rw[ht.1.len,hk];decide)) k0 (hlive.sub fun x hx=>eh hx)).stop ho (fun x hx=>eh hx) rfl
 | @let_ s t e s1 v s2 o hf hk h h' ih ih'=>
  intro S Γ rs T E hc ht h1 _ hs he hB hT hlive
  obtain⟨a,e0,e1,k0,k1,rfl⟩:=hT.DZ hk
  have hB0:Bnd rs (aA t 0):=hB.ig (by rw[ht.1.len,hk];decide)
  obtain⟨S1,q1,q2,q3,q4⟩:=(ih hc (Mac.aO ht (aI (by omega))) h1 hf hs.tick he hB0 k0 (hlive.sub fun x hx=>eh hx)).val
  have M:=mid h (s:=tick s) hc (Mac.aO ht (aI (by omega))) h1 hf he q1
  have hin:=(k0.s8 he.gin hB.rs.zero).1
  exact(ih' M.cw (Mac.aO ht (b9 (by omega))) M.one M.steps q3 (M.env.Au hin q2) (hB.ig (by rw[ht.1.len,hk];decide)) k1 ((hlive.sub fun x hx=>fK hx).same M.live)).seq q1 (q4.mono fun x hx=>eh hx) (fun x hx=>fK hx)
 | @letrecOver s t e s' k hf hk h=>
  intro S Γ rs T E hc ht h1 _ hs he hB hT hlive
  obtain⟨a,e0,e1,hr,k0,k1,k2,k3,rfl⟩:=hT.D0 hk
  have hput:Has (ofA (putAt t.rho::e1)) (putAt t.rho):=b8.2 (oZ.2 (.inl ⟨rfl,fI (kG (hB.may t (fp t)))⟩))
  have:=qH (s:=tick s) hr hk hB ht.1 k0 k1 k2 hs.tick he (hlive _ (eE hput) (by simp[putAt]))
  rw[h]at this
  rcases this with ⟨s1,h2⟩ | ⟨v,s1,S',h2,_⟩
  ·cases h2;exact .over (.inr rfl)
  ·cases h2
 | @letrec s t e s1 v s2 o hf hk h h' ih=>
  intro S Γ rs T E hc ht h1 _ hs he hB hT hlive
  obtain⟨a,e0,e1,hr,k0,k1,k2,k3,rfl⟩:=hT.D0 hk
  have hput:Has (ofA (putAt t.rho::e1)) (putAt t.rho):=b8.2 (oZ.2 (.inl ⟨rfl,fI (kG (hB.may t (fp t)))⟩))
  have hL:=qH (s:=tick s) hr hk hB ht.1 k0 k1 k2 hs.tick he (hlive _ (eE hput) (by simp[putAt]))
  have hcw:=qA (N:=N) (s:=tick s) (e:=e) (rho:=t.rho) (c:=⟨aA t 0,t.h.arg,e,some t.aG⟩) hc (Mac.aO ht (aI (by omega)))
  rw[h]at hL hcw
  rcases hL with ⟨s1,h2⟩ | ⟨v',s1',S',h2,h3,h4,h5,h6,h7⟩
  ·cases h2
  ·cases h2
   have hpl:(patch s1 (e.with t.h.name v true)).store=s1.store:=by unfold Mac.patch;split<;>rfl
   have hi:∀x,bG (gOf e) e1 x→bG (gOf e) (ofA (putAt t.rho::e1)) x:=fun x hx=>dL (fun b hb=>b8.2 (oZ.2 (.inr hb))) hx
   have hl:(patch s1 (e.with t.h.name v true)).store.live=s.store.live:=by rw[hpl];exact h7
   refine(ih ((aZ N).patch hcw.2) (Mac.aO ht (b9 (by omega))) (by rw[hl];exact h1) (by rw[dK];have:=hcw.1;simp[Mac.tick]at this;omega) h4 h5 (hB.ig (by rw[ht.1.len,hk];decide)) k3 ((hlive.sub hi).same hl)).seq h3 ?_ hi
   rw[hpl]
   refine h6.mono fun x hx=> ?_
   rw[hx];exact eE hput
 | @ifStop s t e s' o hf hk h ho ih=>
  intro S Γ rs T E hc ht h1 _ hs he hB hT hlive
  obtain⟨a,e0,e1,c,e2,k0,ka,k1,k2,ks,rfl⟩:=hT.y9 hk
  have hi:∀x,bG (gOf e) e0 x→bG (gOf e) (ofA (e0++e1++e2)) x:=fun x hx=>by rw[List.append_assoc];exact eh hx
  exact(ih hc (Mac.aO ht (aI (by omega))) h1 hf hs.tick he (hB.ig (by rw[ht.1.len,hk];decide)) k0 (hlive.sub hi)).stop ho hi rfl
 | @ifStuck s t e s' v hf hk h hv ih=>
  intro S Γ rs T E hc ht h1 _ hs he hB hT hlive
  obtain⟨a,e0,e1,c,e2,k0,ka,k1,k2,ks,rfl⟩:=hT.y9 hk
  have hi:∀x,bG (gOf e) e0 x→bG (gOf e) (ofA (e0++e1++e2)) x:=fun x hx=>by rw[List.append_assoc];exact eh hx
  obtain⟨S1,q1,q2,q3,q4⟩:=(ih hc (Mac.aO ht (aI (by omega))) h1 hf hs.tick he (hB.ig (by rw[ht.1.len,hk];decide)) k0 (hlive.sub hi)).val
  exact absurd ((sr ka).1 q2) hv
 | @if_ s t e s1 v s2 o hf hk h hv h' ih ih'=>
  intro S Γ rs T E hc ht h1 _ hs he hB hT hlive
  obtain⟨a,e0,e1,c,e2,k0,ka,k1,k2,ks,rfl⟩:=hT.y9 hk
  have hi:∀x,bG (gOf e) e0 x→bG (gOf e) (ofA (e0++e1++e2)) x:=fun x hx=>by rw[List.append_assoc];exact eh hx
  have hi1:∀x,bG (gOf e) e1 x→bG (gOf e) (ofA (e0++e1++e2)) x:=fun x hx=>by rw[List.append_assoc];exact dL (fun b hb=>b8.2 (bz.2 (.inr (bz.2 (.inl hb))))) hx
  have hi2:∀x,bG (gOf e) e2 x→bG (gOf e) (ofA (e0++e1++e2)) x:=fun x hx=>fK hx
  obtain⟨S1,q1,q2,q3,q4⟩:=(ih hc (Mac.aO ht (aI (by omega))) h1 hf hs.tick he (hB.ig (by rw[ht.1.len,hk];decide)) k0 (hlive.sub hi)).val
  have M:=mid h (s:=tick s) hc (Mac.aO ht (aI (by omega))) h1 hf he q1
  by_cases hn:v.n≠0
  ·rw[if_pos hn]at ih'
   exact(ih' M.cw (Mac.aO ht (b9 (by omega))) M.one M.steps q3 M.env (hB.ig (by rw[ht.1.len,hk];decide)) k1 ((hlive.sub hi1).same M.live)).seq q1 (q4.mono hi) hi1
  ·rw[if_neg hn]at ih'
   have h2:2<nk t.h.kind:=by rw[hk];decide
   have:=(ih' M.cw (Mac.aO ht h2) M.one M.steps q3 M.env (hB.ig (by rw[ht.1.len];exact h2)) k2 ((hlive.sub hi2).same M.live)).seq q1 (q4.mono hi) hi2
   rwa [←gG ks]at this
 | @try_ s t e s' o hf hk h ho ih=>
  intro S Γ rs T E hc ht h1 _ hs he hB hT hlive
  obtain⟨e0,b,e1,k0,k1,ks,rfl⟩:=hT.D1 hk
  have hl0:gH s (bG (gOf e) e0):=by
   rintro x ⟨b,hb,rfl⟩ h3
   refine hlive _ ⟨b,b8.2 (bz.2 (.inl (eJ.2 ⟨hb,fun h=>h3 ?_⟩))),rfl⟩ h3
   unfold eB;rw[if_pos h.1];exact h.1
  obtain⟨S1,q1,q2,q3⟩:=ih hc (Mac.aO ht (aI (by omega))) h1 hf hs.tick he (hB.ig (by rw[ht.1.len,hk];decide)) k0 hl0
  refine⟨S1,q1,?_,fun hno=>⟨(q3 hno).1,fun r row hr hn=>(q3 hno).2 r row hr fun hp=>hn ?_⟩⟩
  ·cases o with
   | val v=>exact q2
   | exn n x=>
    obtain⟨b,hb,hx⟩:=q2
    refine⟨b,b8.2 (bz.2 (.inl (eJ.2 ⟨hb,fun h=> ?_⟩))),hx⟩
    unfold eB at hx
    rw[if_pos h.1]at hx
    have:x=t.h.exn:=by rw[←h.2,←hx];rfl
    exact ho n (by rw[this])
   | over k=>exact q2
  ·obtain⟨b,hb,hx⟩:=hp
   refine⟨b,b8.2 (bz.2 (.inl (eJ.2 ⟨hb,fun h=> ?_⟩))),hx⟩
   unfold eB at hx
   rw[if_pos h.1]at hx
   have:=h.1
   rw[←hx]at this;simp[putAt]at this
 | @catch_ s t e s1 n s2 o hf hk h h' ih ih'=>
  intro S Γ rs T E hc ht h1 _ hs he hB hT hlive
  obtain⟨e0,b,e1,k0,k1,ks,rfl⟩:=hT.D1 hk
  have hl0:gH s (bG (gOf e) e0):=by
   rintro x ⟨b,hb,rfl⟩ h3
   refine hlive _ ⟨b,b8.2 (bz.2 (.inl (eJ.2 ⟨hb,fun h=>h3 ?_⟩))),rfl⟩ h3
   unfold eB;rw[if_pos h.1];exact h.1
  obtain⟨S1,q1,q2,q3⟩:=ih hc (Mac.aO ht (aI (by omega))) h1 hf hs.tick he (hB.ig (by rw[ht.1.len,hk];decide)) k0 hl0
  have hno:¬(Out.exn n t.h.exn).cz:=by simp[Out.cz]
  have hL:=h.left (s:=tick s) hc (Mac.aO ht (aI (by omega))) h1 hf
  have:=(ih' hL.cw (Mac.aO ht (b9 (by omega))) hL.one hL.steps (q3 hno).1 ((he.mono q1).Au (pw _) (show VT S1 (num n) (cb (gOf e) one) from rfl)) (hB.ig (by rw[ht.1.len,hk];decide)) k1 ((hlive.sub fun x hx=>fK hx).same (hL.same hno))).seq (φ:=bG (gOf e) (ofA (dm e0 [t.h.exn]++e1))) (s:=s) q1 (fun r row hr hn=>(q3 hno).2 r row hr fun hp=>hn (by
   obtain⟨b,hb,hx⟩:=hp
   refine⟨b,b8.2 (bz.2 (.inl (eJ.2 ⟨hb,fun h=> ?_⟩))),hx⟩
   unfold eB at hx
   rw[if_pos h.1]at hx
   have:=h.1
   rw[←hx]at this;simp[putAt]at this)) (fun x hx=>fK hx)
  have e2:=gG (g:=gOf e) ks
  rw[e2];exact this
 | @stop1 s t e s' o hf hk h ho ih=>
  intro S Γ rs T E hc ht h1 _ hs he hB hT hlive
  obtain⟨_,⟨a,e0,R,hn,k0,hR,rfl⟩ | ⟨a,e0,b,e1,R,hn,k0,k1,hR,rfl⟩⟩:=hT.kg hk
  ·exact(ih hc (Mac.aO ht (aI (by omega))) h1 hf hs.tick he (hB.ig (by rw[ht.1.len,hn];omega)) k0 (hlive.sub fun x hx=>eh hx)).stop ho (fun x hx=>eh hx) rfl
  ·have hi:∀x,bG (gOf e) e0 x→bG (gOf e) (ofA (e0++e1++R)) x:=fun x hx=>by rw[List.append_assoc];exact eh hx
   exact(ih hc (Mac.aO ht (aI (by omega))) h1 hf hs.tick he (hB.ig (by rw[ht.1.len,hn];omega)) k0 (hlive.sub hi)).stop ho hi rfl
 | @stop2 s t e s1 v s2 o hf hk hl h h' ho ih ih'=>
  intro S Γ rs T E hc ht h1 _ hs he hB hT hlive
  obtain⟨_,⟨a,e0,R,hn,k0,hR,rfl⟩ | ⟨a,e0,b,e1,R,hn,k0,k1,hR,rfl⟩⟩:=hT.kg hk
  ·have:=ht.1.len;omega
  ·have hi:∀x,bG (gOf e) e0 x→bG (gOf e) (ofA (e0++e1++R)) x:=fun x hx=>by rw[List.append_assoc];exact eh hx
   have hi1:∀x,bG (gOf e) e1 x→bG (gOf e) (ofA (e0++e1++R)) x:=fun x hx=>by rw[List.append_assoc];exact dL (fun b hb=>b8.2 (bz.2 (.inr (bz.2 (.inl hb))))) hx
   obtain⟨S1,q1,q2,q3,q4⟩:=(ih hc (Mac.aO ht (aI (by omega))) h1 hf hs.tick he (hB.ig (by omega)) k0 (hlive.sub hi)).val
   have M:=mid h (s:=tick s) hc (Mac.aO ht (aI (by omega))) h1 hf he q1
   exact((ih' M.cw (Mac.aO ht (by omega)) M.one M.steps q3 M.env (hB.ig (by omega)) k1 ((hlive.sub hi1).same M.live)).stop ho hi1 rfl).seq q1 (q4.mono hi) (fun _ h=>h)
 | @rule1 s t e s1 v s2 o hf hk hl h h' ih=>
  intro S Γ rs T E hc ht h1 _ hs he hB hT hlive
  obtain⟨hr,⟨a,e0,R,hn,k0,hR,rfl⟩ | ⟨a,e0,b,e1,R,hn,k0,k1,hR,rfl⟩⟩:=hT.kg hk
  ·obtain⟨S1,q1,q2,q3,q4⟩:=(ih hc (Mac.aO ht (aI (by omega))) h1 hf hs.tick he (hB.ig (by omega)) k0 (hlive.sub fun x hx=>eh hx)).val
   have M:=mid h (s:=tick s) hc (Mac.aO ht (aI (by omega))) h1 hf he q1
   have hin:=(k0.s8 he.gin hB.rs.zero).1
   have hO:=sf hR hr (hB.may t (fp t)) hB.rs (by simpa using hin) q3 M.env ((hlive.sub fun x hx=>fK hx).same M.live) (vs:=[v]) (fun i a' ha=>by
    cases i with
    | zero=>simp at ha;subst ha;exact q2
    | succ i=>simp at ha)
   generalize dC s1 t e [v]=r at h' hO
   cases h' with
   | val=>cases hO with | val p1 p2 p3 p4 p5=>exact⟨_,q1.trans p1,p3,fun _=>⟨p2,(q4.mono fun x hx=>eh hx).trans (p5.mono fun x hx=>fK hx)⟩⟩
   | exn=>cases hO with | exn p=>exact⟨_,q1,fK p,fun _=>⟨q3,q4.mono fun x hx=>eh hx⟩⟩
   | over=>cases hO with | full=>exact .over (.inr rfl)
  ·have:=ht.1.len;omega
 | @rule2 s t e s1 v s2 w s3 o hf hk hl h h' h2 ih ih'=>
  intro S Γ rs T E hc ht h1 _ hs he hB hT hlive
  obtain⟨hr,⟨a,e0,R,hn,k0,hR,rfl⟩ | ⟨a,e0,b,e1,R,hn,k0,k1,hR,rfl⟩⟩:=hT.kg hk
  ·have:=ht.1.len;omega
  ·have hi:∀x,bG (gOf e) e0 x→bG (gOf e) (ofA (e0++e1++R)) x:=fun x hx=>by rw[List.append_assoc];exact eh hx
   have hi1:∀x,bG (gOf e) e1 x→bG (gOf e) (ofA (e0++e1++R)) x:=fun x hx=>by rw[List.append_assoc];exact dL (fun b hb=>b8.2 (bz.2 (.inr (bz.2 (.inl hb))))) hx
   obtain⟨S1,q1,q2,q3,q4⟩:=(ih hc (Mac.aO ht (aI (by omega))) h1 hf hs.tick he (hB.ig (by omega)) k0 (hlive.sub hi)).val
   have M:=mid h (s:=tick s) hc (Mac.aO ht (aI (by omega))) h1 hf he q1
   obtain⟨S2,u1,u2,u3,u4⟩:=(ih' M.cw (Mac.aO ht (by omega)) M.one M.steps q3 M.env (hB.ig (by omega)) k1 ((hlive.sub hi1).same M.live)).val
   have M2:=mid h' M.cw (Mac.aO ht (by omega)) M.one M.steps M.env u1
   have hin:=(k0.s8 he.gin hB.rs.zero).1
   have hin1:=(k1.s8 he.gin hB.rs.zero).1
   have hO:=sf hR hr (hB.may t (fp t)) hB.rs (fun x hx=>by
    simp only[List.mem_cons,List.mem_nil_iff,or_false]at hx
    rcases hx with rfl | rfl
    ·exact hin
    ·exact hin1) u3 M2.env (((hlive.sub fun x hx=>fK hx).same M.live).same M2.live) (vs:=[v,w]) (fun i a' ha=>by
    match i,ha with
    | 0,ha=>simp at ha;subst ha;exact q2.mono u1
    | 1,ha=>simp at ha;subst ha;exact u2
    | i+2,ha=>simp at ha)
   have hkp:=(q4.mono hi).trans (u4.mono hi1)
   generalize dC s2 t e [v,w]=r at h2 hO
   cases h2 with
   | val=>cases hO with | val p1 p2 p3 p4 p5=>exact⟨_,(q1.trans u1).trans p1,p3,fun _=>⟨p2,hkp.trans (p5.mono fun x hx=>fK hx)⟩⟩
   | exn=>cases hO with | exn p=>exact⟨_,q1.trans u1,fK p,fun _=>⟨u3,hkp⟩⟩
   | over=>cases hO with | full=>exact .over (.inr rfl)
 | @call s t e s1 v s2 w s3 b' e' s4 o hf hk hl h h' h2 h3 ih ih' ih3=>
  intro S Γ rs T E hc ht h1 _ hs he hB hT hlive
  obtain⟨hr,⟨a,e0,R,hn,k0,hR,rfl⟩ | ⟨a,e0,b,e1,R,hn,k0,k1,hR,rfl⟩⟩:=hT.kg hk
  ·have:=ht.1.len;omega
  ·have hi:∀x,bG (gOf e) e0 x→bG (gOf e) (ofA (e0++e1++R)) x:=fun x hx=>by rw[List.append_assoc];exact eh hx
   have hi1:∀x,bG (gOf e) e1 x→bG (gOf e) (ofA (e0++e1++R)) x:=fun x hx=>by rw[List.append_assoc];exact dL (fun b hb=>b8.2 (bz.2 (.inr (bz.2 (.inl hb))))) hx
   obtain⟨S1,q1,q2,q3,q4⟩:=(ih hc (Mac.aO ht (aI (by omega))) h1 hf hs.tick he (hB.ig (by omega)) k0 (hlive.sub hi)).val
   have M:=mid h (s:=tick s) hc (Mac.aO ht (aI (by omega))) h1 hf he q1
   obtain⟨S2,u1,u2,u3,u4⟩:=(ih' M.cw (Mac.aO ht (by omega)) M.one M.steps q3 M.env (hB.ig (by omega)) k1 ((hlive.sub hi1).same M.live)).val
   have M2:=mid h' M.cw (Mac.aO ht (by omega)) M.one M.steps M.env u1
   have hin:=(k0.s8 he.gin hB.rs.zero).1
   have hin1:=(k1.s8 he.gin hB.rs.zero).1
   have hlR:=((hlive.sub fun x hx=>fK hx).same M.live).same M2.live
   have hO:=sf hR hr (hB.may t (fp t)) hB.rs (fun x hx=>by
    simp only[List.mem_cons,List.mem_nil_iff,or_false]at hx
    rcases hx with rfl | rfl
    ·exact hin
    ·exact hin1) u3 M2.env hlR (vs:=[v,w]) (fun i a' ha=>by
    match i,ha with
    | 0,ha=>simp at ha;subst ha;exact q2.mono u1
    | 1,ha=>simp at ha;subst ha;exact u2
    | i+2,ha=>simp at ha)
   have hkp:=(q4.mono hi).trans (u4.mono hi1)
   obtain⟨rfl,cc,f,_,hff,rfl,_,_⟩:=dX h2
   have hTN:TN N f.body:=M2.cw f (List.mem_of_getElem? hff)
   rw[h2]at hO
   cases hO with
   | node p1 p2 p3 p4 p5=>
    have:=(ih3 M2.cw hTN M2.one M2.steps u3 p1 p2 p3 (hlR.sub p5)).seq (q1.trans u1) hkp (fun x hx=>fK (p5 x hx))
    rw[p4]at this;exact this
end Go.Abs.Safe
