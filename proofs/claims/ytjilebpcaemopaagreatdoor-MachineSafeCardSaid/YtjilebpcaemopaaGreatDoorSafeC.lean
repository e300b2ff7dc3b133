import Derived.Test.YtjilebpcaemopaaGreatDoorSafeA
set_option linter.unusedVariables false
set_option linter.unusedSimpArgs false
namespace Go.Abs.Safe
open Go Go.Abs Go.Abs.Stk Go.Abs.At Go.Abs.Mac Go.Abs.Chk
def gOf (e:En) (x:Int):Int:=(e.region x).1
inductive CT where
 | pair (a b:ST)
 | ref (a:ST)
 | fn (φ:Atom→Prop) (a b:ST)
 | poly (f:AT) (L:List Int) (g:Int→Int)
abbrev Sg:=Int→Int→Option CT
def Sg.le (S S':Sg):Prop:=∀r a c,S r a=some c→S' r a=some c
theorem Sg.le.refl (S:Sg):S.le S:=fun _ _ _ h=>h
theorem Sg.le.trans {A B C:Sg} (h:A.le B) (k:B.le C):A.le C:=fun r a c x=>k r a c (h r a c x)
def VT (S:Sg) (v:V):ST→Prop
 | .int=>v.kind=1
 | .pair r a b=>v.kind=2∧v.n=0∧v.r=r∧S r v.a=some (.pair a b)
 | .ref r a=>v.kind=2∧v.n=0∧v.r=r∧S r v.a=some (.ref a)
 | .fn r φ a b=>v.kind=2∧v.n=0∧v.r=r∧S r v.a=some (.fn φ a b)
 | .bad=>False
theorem VT.mono {S S':Sg} (h:S.le S') {v:V} {T:ST} (hv:VT S v T):VT S' v T:=by
 cases T with
 | int=>exact hv
 | pair r a b=>exact⟨hv.1,hv.2.1,hv.2.2.1,h _ _ _ hv.2.2.2⟩
 | ref r a=>exact⟨hv.1,hv.2.1,hv.2.2.1,h _ _ _ hv.2.2.2⟩
 | fn r φ a b=>exact⟨hv.1,hv.2.1,hv.2.2.1,h _ _ _ hv.2.2.2⟩
 | bad=>exact hv
structure PT (S:Sg) (e:En) (rs:List Int) (v:V) (f:AT) (L:List Int) (g:Int→Int):Prop where
 kind:v.kind=2
 n:v.n=0
 at_:S v.r v.a=some (.poly f L g)
 r:v.r=gOf e f.rho
 same:∀x∈L,x∈rs∧gOf e x=g x
 rho:f.rho∈L
 type:InT (· ∈L++f.aG) f.type
 res:InT (· ∈L++f.aG) f.res
 eff:InE (· ∈L++f.aG) f.eff
structure NOK (S:Sg) (e:En) (rs:List Int) (n:Nm) (b:Bd):Prop where
 name:n.name=b.name
 fn:n.fn=b.fn
 val:b.fn=false→InT (· ∈rs) b.t∧VT S n.v (cb (gOf e) b.t)
 rec_:b.fn=true→∃L g,PT S e rs n.v b.f L g
inductive lz (S:Sg) (e:En) (rs:List Int):List Nm→List Bd→Prop
 | nil:lz S e rs [] []
 | cons {n b ns bs} (h:NOK S e rs n b) (t:lz S e rs ns bs):lz S e rs (n::ns) (b::bs)
structure cj (S:Sg) (e:En) (Γ:List Bd) (rs:List Int):Prop where
 names:lz S e rs e.names Γ.reverse
 regs:∀x∈rs,(e.region x).2=true
theorem lz.find {S:Sg} {e:En} {rs:List Int} {nm:ByteArray} {ns:List Nm} {bs:List Bd} (h:lz S e rs ns bs) {b:Bd} (hb:bs.find? (fun b=>decide (b.name=nm))=some b):∃n,ns.find? (fun n=>decide (n.name=nm))=some n∧NOK S e rs n b:=by
 induction h with
 | nil=>simp at hb
 | @cons n b' ns bs h t ih=>
  simp only[List.find?_cons]at hb⊢
  rw[h.name]
  by_cases hn:b'.name=nm
  ·simp only[hn,decide_true]at hb⊢
   cases hb
   exact⟨n,rfl,h⟩
  ·simp only[hn,decide_false]at hb⊢
   exact ih hb
theorem cj.find {S:Sg} {e:En} {Γ:List Bd} {rs:List Int} (h:cj S e Γ rs) {nm:ByteArray} {b:Bd} (hb:gh Γ nm=some b):∃n,e.find nm=some n∧NOK S e rs n b:=h.names.find hb
theorem NOK.mono {S S':Sg} (hS:S.le S') {e rs n b} (h:NOK S e rs n b):NOK S' e rs n b:=
 ⟨h.name,h.fn,fun hb=>⟨(h.val hb).1,(h.val hb).2.mono hS⟩,fun hb=>by
  obtain⟨L,g,p⟩:=h.rec_ hb
  exact⟨L,g,p.kind,p.n,hS _ _ _ p.at_,p.r,p.same,p.rho,p.type,p.res,p.eff⟩⟩
theorem lz.mono {S S':Sg} (hS:S.le S') {e rs ns bs} (h:lz S e rs ns bs):lz S' e rs ns bs:=by
 induction h with
 | nil=>exact .nil
 | cons h _ ih=>exact .cons (h.mono hS) ih
theorem cj.mono {S S':Sg} (hS:S.le S') {e Γ rs} (h:cj S e Γ rs):cj S' e Γ rs:=⟨h.names.mono hS,h.regs⟩
theorem NOK.more {S:Sg} {e e' rs rs' n b} (h:NOK S e rs n b) (h1:∀x∈rs,gOf e' x=gOf e x) (h2:∀x∈rs,x∈rs'):NOK S e' rs' n b:=
 ⟨h.name,h.fn,fun hb=>⟨(h.val hb).1.mono h2,by rw[gZ h1 (h.val hb).1];exact(h.val hb).2⟩,fun hb=>by
  obtain⟨L,g,p⟩:=h.rec_ hb
  exact⟨L,g,p.kind,p.n,p.at_,by rw[h1 _ (p.same _ p.rho).1];exact p.r,fun x hx=>⟨h2 _ (p.same x hx).1,by rw[h1 _ (p.same x hx).1];exact(p.same x hx).2⟩,p.rho,p.type,p.res,p.eff⟩⟩
theorem lz.more {S:Sg} {e e' rs rs' ns bs} (h:lz S e rs ns bs) (h1:∀x∈rs,gOf e' x=gOf e x) (h2:∀x∈rs,x∈rs'):lz S e' rs' ns bs:=by
 induction h with
 | nil=>exact .nil
 | cons h _ ih=>exact .cons (h.more h1 h2) ih
theorem cj.more {S:Sg} {e e' Γ rs rs'} (h:cj S e Γ rs) (hn:e'.names=e.names) (h1:∀x∈rs,gOf e' x=gOf e x) (h2:∀x∈rs,x∈rs') (h3:∀x∈rs',(e'.region x).2=true):cj S e' Γ rs':=⟨by rw[hn];exact h.names.more h1 h2,h3⟩
theorem gY {e:En} {rho r x:Int}:(e.opn rho r).region x=if x=rho then (r,true) else e.region x:=by
 unfold En.region En.opn
 simp only[List.find?_cons]
 by_cases h:x=rho
 ·simp[h]
 ·have:¬rho=x:=fun h'=>h h'.symm
  simp[h,this]
theorem cj.opn {S:Sg} {e Γ rs} (h:cj S e Γ rs) {rho:Int} (r:Int) (hn:rho∉rs):cj S (e.opn rho r) Γ (rs++ [rho]):=by
 refine h.more rfl (fun x hx=> ?_) (fun x hx=>by simp[hx]) (fun x hx=> ?_)
 ·unfold gOf
  rw[gY,if_neg (by intro e;exact hn (by rw[←e];exact hx))]
 ·rw[gY]
  rcases List.mem_append.1 hx with hx | hx
  ·split
   ·rfl
   ·exact h.regs x hx
  ·rw[if_pos (List.mem_singleton.1 hx)]
theorem cj.Au {S:Sg} {e Γ rs} (h:cj S e Γ rs) {nm:ByteArray} {v:V} {t:RT} (ht:InT (· ∈rs) t) (hv:VT S v (cb (gOf e) t)):cj S (e.with nm v false) (Γ++ [fR nm t]) rs:=by
 refine⟨?_,h.regs⟩
 rw[List.reverse_append]
 exact .cons ⟨rfl,rfl,fun _=>⟨ht,hv⟩,fun hb=>by simp at hb⟩ (h.names.more (fun _ _=>rfl) (fun _ hx=>hx))
theorem cj.wM {S:Sg} {e Γ rs} (h:cj S e Γ rs) {v:V} {f:AT} {L g} (hp:PT S e rs v f L g):cj S (e.with f.h.name v true) (Γ++ [jD f]) rs:=by
 refine⟨?_,h.regs⟩
 rw[List.reverse_append]
 exact .cons ⟨rfl,rfl,fun hb=>by simp at hb,fun _=>⟨L,g,hp.kind,hp.n,hp.at_,hp.r,hp.same,hp.rho,hp.type,hp.res,hp.eff⟩⟩ (h.names.more (fun _ _=>rfl) (fun _ hx=>hx))
theorem lz.mem {S:Sg} {e rs ns bs} (h:lz S e rs ns bs):∀b∈bs,∃n,NOK S e rs n b:=by
 induction h with
 | nil=>simp
 | cons h _ ih=>
  intro b hb
  rcases List.mem_cons.1 hb with rfl | hb
  ·exact⟨_,h⟩
  ·exact ih b hb
theorem cj.gin {S:Sg} {e Γ rs} (h:cj S e Γ rs):GIn rs Γ:=fun b hb=>by
 obtain⟨n,hn⟩:=h.names.mem b (List.mem_reverse.2 hb)
 refine⟨fun h=>(hn.val h).1,fun h=> ?_⟩
 obtain⟨L,g,p⟩:=hn.rec_ h
 have:∀x,x∈L++b.f.aG→x∈rs++b.f.aG:=fun x hx=>by
  rcases List.mem_append.1 hx with hx | hx
  ·exact List.mem_append_left _ (p.same x hx).1
  ·exact List.mem_append_right _ hx
 exact⟨(p.same _ p.rho).1,p.type.mono this,p.res.mono this,p.eff.mono this⟩
structure Bnd (rs:List Int) (t:AT):Prop where
 dis:∀x∈bO t.all,x∉rs
 nodup:(bO t.all).Nodup
 may:∀n∈t.all,bE n=true
 rs:FQ rs
theorem all_cons (t:AT):t.all=t::AT.bI t.kids:=by obtain⟨h,r,rs,e,a,b,ks⟩:=t;rfl
theorem fp (t:AT):t∈t.all:=by rw[all_cons];simp
theorem qu (l:List AT):AT.bI l=l.flatMap AT.all:=by
 induction l with
 | nil=>rfl
 | cons t l ih=>simp[AT.bI,ih]
theorem wu {t:AT} (h:bE t=true):∀x∈own t,(0:Int)≤x∧x≠0:=by
 intro x hx
 unfold bE at h
 simp only[Bool.and_eq_true,Bool.not_eq_true',decide_eq_true_eq,Bool.and_eq_false_iff]at h
 unfold own at hx
 split at hx
 ·rename_i h17
  rw[List.mem_singleton.1 hx]
  have h2:=h.1.1.1.1.1.1.2
  have h1:=h.1.1.1.1.1.1.1.2
  refine⟨h1,?_⟩
  rcases h2 with h2 | h2
  ·simp[h17]at h2
  ·simpa using h2
 ·split at hx
  ·rename_i h13
   have hr:=h.1.1.1.2
   unfold eC at hr
   obtain⟨i,hi,rfl⟩:=List.mem_iff_getElem.1 hx
   have:=List.all_eq_true.1 hr i (List.mem_range.2 hi)
   unfold fk at this
   rw[List.getElem?_eq_getElem hi]at this
   simp[h13]at this
   exact⟨this.1,this.2.1⟩
  ·simp at hx
theorem zO {t:AT} (h:bE t=true):∀x∈t.aG,(0:Int)≤x:=by
 intro x hx
 unfold bE at h
 simp only[Bool.and_eq_true,Bool.not_eq_true',decide_eq_true_eq,Bool.and_eq_false_iff]at h
 have hr:=h.1.1.1.2
 unfold eC at hr
 obtain⟨i,hi,rfl⟩:=List.mem_iff_getElem.1 hx
 have:=List.all_eq_true.1 hr i (List.mem_range.2 hi)
 unfold fk at this
 rw[List.getElem?_eq_getElem hi]at this
 simp at this
 exact this.1
theorem kG {t:AT} (h:bE t=true):(0:Int)≤t.rho:=by
 unfold bE at h
 simp only[Bool.and_eq_true,Bool.not_eq_true',decide_eq_true_eq,Bool.and_eq_false_iff]at h
 exact h.1.1.1.1.1.1.1.2
theorem De {rs:List Int} {t:AT} (h:Bnd rs t) {l:List Int} (hl:∀x∈l,x∈own t):FQ (rs++l):=by
 refine⟨by simp[h.rs.zero],fun x hx=> ?_⟩
 rcases List.mem_append.1 hx with hx | hx
 ·exact h.rs.pos x hx
 ·exact(wu (h.may t (fp t)) x (hl x hx)).1
theorem CZ {t:AT} {i:Nat} (hi:i<t.kids.length):∃l m,AT.bI t.kids=l++(aA t i).all++m:=by
 have:t.kids=t.kids.take i++aA t i::t.kids.drop (i+1):=by
  have h1:aA t i=t.kids[i]:=by unfold aA;rw[List.getElem?_eq_getElem hi];rfl
  rw[h1,←List.drop_eq_getElem_cons hi,List.take_append_drop]
 rw[this,qu]
 simp only[List.flatMap_append,List.flatMap_cons]
 exact⟨_,_,(List.append_assoc _ _ _).symm⟩
theorem Bnd.kid {rs:List Int} {t:AT} (h:Bnd rs t) {i:Nat} (hi:i<t.kids.length) {l:List Int} (hl:∀x∈l,x∈own t):Bnd (rs++l) (aA t i):=by
 obtain⟨p,q,he⟩:=CZ hi
 have e:t.all=(t::p)++(aA t i).all++q:=by rw[all_cons,he];simp
 have e2:bO t.all=(own t++bO p)++bO (aA t i).all++bO q:=by
  rw[e,iz,iz];simp[bO]
 refine⟨fun x hx hm=> ?_,?_,fun n hn=>h.may n (by rw[e];simp[hn]),De h hl⟩
 ·rcases List.mem_append.1 hm with hm | hm
  ·exact h.dis x (by rw[e2];simp[hx]) hm
  ·have:=h.nodup
   rw[e2,List.append_assoc,List.append_assoc,List.nodup_append]at this
   exact this.2.2 x (hl x hm) x (by simp[hx]) rfl
 ·have:=h.nodup
  rw[e2]at this
  exact((List.nodup_append.1 (List.nodup_append.1 this).1).2.1)
theorem Bnd.ig {rs:List Int} {t:AT} (h:Bnd rs t) {i:Nat} (hi:i<t.kids.length):Bnd rs (aA t i):=by
 have:=h.kid hi (l:=[]) (by simp)
 rwa [List.append_nil]at this
theorem Bnd.wq {rs:List Int} {t:AT} (h:Bnd rs t) {x:Int} (hx:x∈own t):x∉rs:=h.dis x (by rw[all_cons];simp[bO,hx])
theorem Bnd.xD {rs:List Int} {t:AT} (h:Bnd rs t):(own t).Nodup:=by
 have:=h.nodup
 rw[all_cons]at this
 simp only[bO,List.flatMap_cons]at this
 exact(List.nodup_append.1 this).1
def Ce (S:Sg) (co:Co) (φ:Atom→Prop) (a b:ST):Prop:=
 ∃Γ rs A T E,cj S co.env Γ rs∧Bnd rs co.body∧InT (· ∈rs) A∧Ty (Γ++ [fR co.arg A]) rs co.body T E∧cb (gOf co.env) A=a∧cb (gOf co.env) T=b∧∀x,bG (gOf co.env) E x→φ x
def rv (S:Sg) (co:Co) (f:AT) (L:List Int) (g:Int→Int):Prop:=
 co.arg=f.h.arg∧co.rsl=f.aG∧(∀x∈L,gOf co.env x=g x)∧f.aG.Nodup∧(∀x∈f.aG,x∉L)∧
 ∃Γ T E,cj S co.env Γ L∧Bnd (L++f.aG) co.body∧Ty (Γ++ [fR f.h.arg f.type]) (L++f.aG) co.body T E∧RT.same T f.res=true∧bk E f.eff=true
theorem Ce.mono {S S':Sg} (hS:S.le S') {co φ a b} (h:Ce S co φ a b):Ce S' co φ a b:=by
 obtain⟨Γ,rs,A,T,E,h1,h2⟩:=h
 exact⟨Γ,rs,A,T,E,h1.mono hS,h2⟩
theorem rv.mono {S S':Sg} (hS:S.le S') {co f L g} (h:rv S co f L g):rv S' co f L g:=by
 obtain⟨h1,h2,h3,h4,h5,Γ,T,E,h6,h7⟩:=h
 exact⟨h1,h2,h3,h4,h5,Γ,T,E,h6.mono hS,h7⟩
def iZ (S:Sg) (aC:List Co):CT→Cl→Prop
 | .pair a b,x=>x.kind=1∧VT S x.a a∧VT S x.b b
 | .ref a,x=>x.kind=2∧VT S x.a a
 | .fn φ a b,x=>x.kind=3∧∃co,aC[x.code.toNat]?=some co∧Ce S co φ a b
 | .poly f L g,x=>x.kind=3∧∃co,aC[x.code.toNat]?=some co∧rv S co f L g
def nT (c c':List Co):Prop:=∀(i:Nat) x,c[i]?=some x→c'[i]?=some x
theorem iZ.mono {S S':Sg} (hS:S.le S') {c c':List Co} (hc:nT c c') {ct:CT} {x:Cl} (h:iZ S c ct x):iZ S' c' ct x:=by
 cases ct with
 | pair a b=>exact⟨h.1,h.2.1.mono hS,h.2.2.mono hS⟩
 | ref a=>exact⟨h.1,h.2.mono hS⟩
 | fn φ a b=>obtain⟨h1,co,h2,h3⟩:=h;exact⟨h1,co,hc _ _ h2,h3.mono hS⟩
 | poly f L g=>obtain⟨h1,co,h2,h3⟩:=h;exact⟨h1,co,hc _ _ h2,h3.mono hS⟩
structure SOK (S:Sg) (s:Sa):Prop where
 len:∀r a c,S r a=some c→r<s.store.L.length∧0≤a
 cell:∀r a c row,S r a=some c→s.store.row r=some row→∃x,row[a.toNat]?=some x∧iZ S s.aC c x
theorem SOK.tick {S s} (h:SOK S s):SOK S (tick s):=⟨h.len,h.cell⟩
theorem SOK.push {S:Sg} {s:Sa} (h:SOK S s) {r st} (hp:fg s.store=some (r,st)):SOK S {s with store:=st}:=by
 obtain⟨_,rfl,rfl⟩:=fS hp
 refine⟨fun r a c hc=>⟨?_,(h.len r a c hc).2⟩,fun r a c row hc hr=> ?_⟩
 ·have:=(h.len r a c hc).1
  simp[SG.more];omega
 ·have:=(h.len r a c hc).1
  change s.store.more.row r=some row at hr
  rw[SG.ke,if_neg (by omega)]at hr
  exact h.cell r a c row hc hr
theorem SOK.pop {S:Sg} {s:Sa} (h:SOK S s):SOK S {s with store:=db s.store}:=by
 unfold db
 split
 ·exact h
 ·split
  ·rename_i i hi
   obtain⟨c0,hc0⟩:=SG.j6 hi
   have hlt:=(List.getElem?_eq_some_iff.1 hc0).1
   refine⟨fun r a c hc=>⟨?_,(h.len r a c hc).2⟩,fun r a c row hc hr=> ?_⟩
   ·have:=(h.len r a c hc).1
    simp[SG.less];omega
   ·change (s.store.less i).row r=some row at hr
    rw[SG.mv hlt]at hr
    split at hr
    ·cases hr
    ·exact h.cell r a c row hc hr
  ·exact h
def Sg.upd (S:Sg) (r a:Int) (c:CT):Sg:=fun r' a'=>if r'=r∧a'=a then some c else S r' a'
theorem SG.tL {s:SG Cl} {i:Nat} {row:List Cl} (hi:i<s.L.length) (c:Cl) (r:Int):(s.iR i row c).row r=if r=i then some (row++ [c]) else s.row r:=SG.se s i hi _ r
theorem Hb {S:Sg} {r a:Int} {c:CT} (h:S r a=none):S.le (S.upd r a c):=fun r' a' c' hc=>by
 unfold Sg.upd
 split
 ·rename_i e;rw[e.1,e.2,h]at hc;cases hc
 ·exact hc
theorem SOK.put {S:Sg} {s:Sa} (h:SOK S s) {r c v st} (hp:gX s.store r c=some (v,st)) (codes':List Co) (hc:nT s.aC codes') (ct:CT) (hcell:S.le (S.upd r v.a ct)→iZ (S.upd r v.a ct) codes' ct c):
 v.kind=2∧v.n=0∧v.r=r∧S.le (S.upd r v.a ct)∧SOK (S.upd r v.a ct) ⟨st,s.steps,codes'⟩∧
 (∀r',r'≠r→st.row r'=s.store.row r'):=by
 obtain⟨i,row,rfl,h1,_,rfl,rfl⟩:=dW hp
 have hlt:=(List.getElem?_eq_some_iff.1 h1).1
 have hrow:s.store.row i=some row:=yv h1
 have hnone:S i row.length=none:=by
  cases hS:S i row.length with
  | none=>rfl
  | some c0=>
   obtain⟨x,hx,_⟩:=h.cell _ _ _ _ hS hrow
   simp at hx
 have hle:=Hb (c:=ct) hnone
 refine⟨rfl,rfl,rfl,hle,⟨fun r a c' hc'=> ?_,fun r a c' row' hc' hr=> ?_⟩,fun r' hr'=>by rw[SG.tL hlt,if_neg hr']⟩
 ·unfold Sg.upd at hc'
  split at hc'
  ·rename_i e;rw[e.1,e.2];simp[SG.iR];omega
  ·have:=h.len r a c' hc'
   simp[SG.iR];exact this
 ·rw[SG.tL hlt]at hr
  unfold Sg.upd at hc'
  split at hc'
  ·rename_i e
   obtain⟨rfl,rfl⟩:=e
   cases hc'
   rw[if_pos rfl]at hr
   cases hr
   exact⟨c,by simp,hcell hle⟩
  ·rename_i e
   by_cases hri:r=i
   ·rw[if_pos hri]at hr
    cases hr
    subst hri
    obtain⟨x,hx,hok⟩:=h.cell _ _ _ _ hc' hrow
    have hl:=(List.getElem?_eq_some_iff.1 hx).1
    exact⟨x,by rw[List.getElem?_append_left hl];exact hx,hok.mono hle hc⟩
   ·rw[if_neg hri]at hr
    obtain⟨x,hx,hok⟩:=h.cell _ _ _ _ hc' hr
    exact⟨x,hx,hok.mono hle hc⟩
theorem SOK.set {S:Sg} {s:Sa} (h:SOK S s) {v:V} {a:ST} (hv:S v.r v.a=some (.ref a)) {c:Cl} (hc:iZ S s.aC (.ref a) c):SOK S {s with store:=gB s.store v c}∧
 ∀r row,s.store.row r=some row→∃row',(gB s.store v c).row r=some row'∧row'.length=row.length:=by
 unfold gB
 cases hr:s.store.row v.r with
 | none=>exact⟨h,fun r row hr=>⟨row,hr,rfl⟩⟩
 | some row=>
  obtain⟨i,he,h1,hlt⟩:=SG.gA hr
  have hrow:∀r,(s.store.put v.r.toNat (row.set v.a.toNat c)).row r=if r=v.r then some (row.set v.a.toNat c) else s.store.row r:=fun r=>by
   have:v.r.toNat<s.store.L.length:=by omega
   rw[SG.mw this]
   have e2:((v.r.toNat:Nat):Int)=v.r:=by omega
   rw[e2]
  refine⟨⟨fun r a c hc=> ?_,fun r a c' row' hc' hr'=> ?_⟩,fun r row' hr'=> ?_⟩
  ·have:=h.len r a c hc
   simp[SG.put];exact this
  ·change (s.store.put v.r.toNat (row.set v.a.toNat c)).row r=some row' at hr'
   rw[hrow]at hr'
   split at hr'
   ·rename_i e
    cases hr'
    subst e
    obtain⟨x,hx,hok⟩:=h.cell _ _ _ _ hc' hr
    have ha:=(h.len _ _ _ hc').2
    have ha':=(h.len _ _ _ hv).2
    by_cases e:a=v.a
    ·subst e
     rw[hv]at hc';cases hc'
     exact⟨c,by rw[List.getElem?_set_self (List.getElem?_eq_some_iff.1 hx).1],hc⟩
    ·exact⟨x,by rw[List.getElem?_set_ne (by omega)];exact hx,hok⟩
   ·exact h.cell _ _ _ _ hc' hr'
  ·change ∃row'',(s.store.put v.r.toNat (row.set v.a.toNat c)).row r=some row''∧_
   rw[hrow]
   split
   ·rename_i e
    rw[e,hr]at hr'
    cases hr'
    exact⟨_,rfl,by simp⟩
   ·exact⟨row',hr',rfl⟩
theorem SOK.take {S:Sg} {s:Sa} (h:SOK S s) {v:V} {ct:CT} {k:Int} (hv:S v.r v.a=some ct) (h1:v.kind=2) (h2:v.n=0) (hl:de s.store v.r=true) (hk:∀x,iZ S s.aC ct x→x.kind=k):∃c,take s v k= .ok c s∧iZ S s.aC ct c:=by
 unfold de at hl
 cases hr:s.store.row v.r with
 | none=>rw[hr]at hl;simp at hl
 | some row=>
  obtain⟨x,hx,hok⟩:=h.cell _ _ _ _ hv hr
  have ha:=(h.len _ _ _ hv).2
  have hlt:=(List.getElem?_eq_some_iff.1 hx).1
  refine⟨x,?_,hok⟩
  have hfind:s.store.find v.kind v.n v.r v.a=0:=by
   unfold SG.find
   rw[if_neg (by omega),hr]
   simp only
   rw[if_neg (by omega)]
  unfold Mac.take
  rw[if_pos h1,hfind]
  have hc:cellAt s.store v=some x:=by unfold cellAt;rw[hr];exact hx
  simp[hc,hk x hok]
theorem qJ {s s':SG Cl} (h:s'.live=s.live) (r:Int):de s' r=de s r:=by
 have key:∀s:SG Cl,de s r=true↔0≤r∧r.toNat∈s.live:=by
  intro s
  unfold de SG.row at'
  by_cases h0:0≤r
  ·rw[if_pos h0]
   constructor
   ·intro hs
    obtain⟨row,hr⟩:=Option.isSome_iff_exists.1 hs
    exact⟨h0,me.2 ⟨r.toNat,row,by omega,jr.1 hr⟩⟩
   ·rintro⟨_,hm⟩
    obtain⟨j,c,e,hj⟩:=me.1 hm
    have:r.toNat=j:=by omega
    rw[this,jr.2 hj];rfl
  ·rw[if_neg h0]
   simp[h0]
 have h1:=key s
 have h2:=key s'
 rw[h]at h2
 cases e1:de s r<;>cases e2:de s' r<;>simp_all
end Go.Abs.Safe
set_option linter.unusedVariables false
set_option linter.unusedSimpArgs false
namespace Go.Abs.Safe
open Go Go.Abs Go.Abs.Stk Go.Abs.At Go.Abs.Mac Go.Abs.Chk
theorem CG {t:AT} (h:bE t=true) (hk:t.h.kind=15):bw (lf t.h.exn)=true:=by
 have hh:dx t=true:=by
  unfold bE at h
  simp only[Bool.and_eq_true]at h
  exact h.1.1.1.1.1.1.1.1
 unfold dx at hh
 rw[if_neg (by omega),if_neg (by omega)]at hh
 unfold bH at hh
 simp only[Bool.and_eq_true]at hh
 have:=hh.2
 simp[gS,hk]at this
 simp[bw,lf,this]
def aW (s s':SG Cl) (φ:Atom→Prop):Prop:=∀r row,s.row r=some row→¬φ (putAt r)→∃row',s'.row r=some row'∧row'.length=row.length
theorem aW.refl (s φ):aW s s φ:=fun r row h _=>⟨row,h,rfl⟩
theorem aW.trans {s s' s'' φ} (h:aW s s' φ) (k:aW s' s'' φ):aW s s'' φ:=fun r row hr hn=>by
 obtain⟨row',h1,h2⟩:=h r row hr hn
 obtain⟨row'',h3,h4⟩:=k r row' h1 hn
 exact⟨row'',h3,h4.trans h2⟩
theorem aW.mono {s s' φ ψ} (h:aW s s' φ) (hi:∀x,φ x→ψ x):aW s s' ψ:=fun r row hr hn=>h r row hr fun hp=>hn (hi _ hp)
def gH (s:Sa) (φ:Atom→Prop):Prop:=∀x,φ x→x.kind≠3→de s.store x.rho=true
theorem gH.sub {s:Sa} {φ ψ:Atom→Prop} (h:gH s ψ) (hi:∀x,φ x→ψ x):gH s φ:=fun x hx h3=>h x (hi x hx) h3
theorem gH.same {s s':Sa} {φ:Atom→Prop} (h:gH s φ) (hs:s'.store.live=s.store.live):gH s' φ:=fun x hx h3=>by rw[qJ hs];exact h x hx h3
theorem oe {g:Int→Int} {e:List Atom} {r:Int} (h:Has e (dz r)):bG g e (dz (g r)):=⟨_,h,rfl⟩
theorem eE {g:Int→Int} {e:List Atom} {r:Int} (h:Has e (putAt r)):bG g e (putAt (g r)):=⟨_,h,rfl⟩
structure Made (S:Sg) (s:SG Cl) (steps:Nat) (aC:List Co) (r:Int) (ct:CT) (v:V) (st:SG Cl):Prop where
 kind:v.kind=2
 n:v.n=0
 rg:v.r=r
 le:S.le (S.upd r v.a ct)
 ok:SOK (S.upd r v.a ct) ⟨st,steps,aC⟩
 live:st.live=s.live
 other:∀r',r'≠r→st.row r'=s.row r'
theorem Made.at_ {S s steps aC r ct v st} (h:Made S s steps aC r ct v st):(S.upd r v.a ct) v.r v.a=some ct:=by
 unfold Sg.upd;rw[if_pos ⟨h.rg,rfl⟩]
theorem Made.keep {S s steps aC r ct v st} (h:Made S s steps aC r ct v st) {φ:Atom→Prop} (hp:φ (putAt r)):aW s st φ:=fun r' row hr hn=>by
 by_cases e:r'=r
 ·rw[e]at hn;exact absurd hp hn
 ·exact⟨row,by rw[h.other _ e];exact hr,rfl⟩
theorem mb {S:Sg} {s:Sa} {codes0:List Co} (h:SOK S ⟨s.store,s.steps,codes0⟩) {e:En} {rho:Int} (hr:(e.region rho).2=true) (hl:de s.store (gOf e rho)=true) {c:Cl} (codes':V→List Co) (hc:∀v,nT codes0 (codes' v)) (ct:CT)
 (hcell:∀v:V,v.kind=2→v.n=0→v.r=gOf e rho→S.le (S.upd (gOf e rho) v.a ct)→iZ (S.upd (gOf e rho) v.a ct) (codes' v) ct c):
 make s e rho c= .over s 4∨∃v st,make s e rho c= .ok v {s with store:=st}∧Made S s.store s.steps (codes' v) (gOf e rho) ct v st:=by
 unfold Mac.make
 rw[if_pos ⟨hr,hl⟩]
 cases hp:gX s.store (e.region rho).1 c with
 | none=>exact .inl rfl
 | some p=>
  obtain⟨v,st⟩:=p
  refine .inr ⟨v,st,rfl,?_⟩
  have hv:v.kind=2∧v.n=0∧v.r=gOf e rho:=by
   obtain⟨i,row,hi,hrow,_,rfl,rfl⟩:=dW hp
   exact⟨rfl,rfl,rfl⟩
  obtain⟨h1,h2,h3,h4,h5,h6⟩:=h.put hp (codes' v) (hc v) ct (fun hle=>hcell v hv.1 hv.2.1 hv.2.2 hle)
  obtain⟨i,row,hi,hrow,_,_,rfl⟩:=dW hp
  exact⟨h1,h2,h3,h4,h5,SG.kF hrow _,h6⟩
inductive oz (t:AT):List RT→RT→List Atom→Prop
 | pair {a b} (hk:t.h.kind=3):oz t [a,b] (.mk 2 t.rho [] [a,b]) [putAt t.rho]
 | proj {a} (hk:t.h.kind=4∨t.h.kind=5) (ha:a.kind=2):oz t [a] (Chk.aO a (t.h.kind - 4).toNat) [dz a.rho]
 | ref {a} (hk:t.h.kind=6):oz t [a] (.mk 3 t.rho [] [a]) [putAt t.rho]
 | get {a} (hk:t.h.kind=7) (ha:a.kind=3):oz t [a] (Chk.aO a 0) [dz a.rho]
 | set {a b} (hk:t.h.kind=8) (ha:a.kind=3) (hs:RT.same (Chk.aO a 0) b=true):oz t [a,b] one [putAt a.rho]
 | op {a b} (hk:t.h.kind=9) (ha:a.kind=1) (hb:b.kind=1):oz t [a,b] one []
 | app {a b} (hk:t.h.kind=10) (ha:a.kind=4) (hs:RT.same (Chk.aO a 0) b=true):oz t [a,b] (Chk.aO a 1) ([dz a.rho]++a.eff)
 | raise {a} (hk:t.h.kind=15) (ha:a.kind=1):oz t [a] t.type [lf t.h.exn]
theorem Ty.kg {Γ rs t T E} (h:Ty Γ rs t T E) (hk:3≤t.h.kind∧t.h.kind≤10∨t.h.kind=15):
 bo t rs=true∧((∃a e0 R,nk t.h.kind=1∧Ty Γ rs (aA t 0) a e0∧oz t [a] T R∧E=ofA (e0++R))∨
 (∃a e0 b e1 R,nk t.h.kind=2∧Ty Γ rs (aA t 0) a e0∧Ty Γ rs (aA t 1) b e1∧oz t [a,b] T R∧E=ofA (e0++e1++R))):=by
 cases h with
 | num hr hk'=>omega
 | var hr hk'=>omega
 | inst hr hk'=>omega
 | fn hr hk'=>omega
 | let_ hr hk'=>omega
 | letrec hr hk'=>omega
 | if_ hr hk'=>omega
 | try_ hr hk'=>omega
 | region hr hk'=>omega
 | pair hr hk' h0 h1=>exact⟨hr,.inr ⟨_,_,_,_,_,by rw[hk'];rfl,h0,h1,.pair hk',rfl⟩⟩
 | proj hr hk' h0 ha=>exact⟨hr,.inl ⟨_,_,_,by rcases hk' with h | h<;>rw[h]<;>rfl,h0,.proj hk' ha,rfl⟩⟩
 | ref hr hk' h0=>exact⟨hr,.inl ⟨_,_,_,by rw[hk'];rfl,h0,.ref hk',rfl⟩⟩
 | get hr hk' h0 ha=>exact⟨hr,.inl ⟨_,_,_,by rw[hk'];rfl,h0,.get hk' ha,rfl⟩⟩
 | set hr hk' h0 h1 ha hs=>exact⟨hr,.inr ⟨_,_,_,_,_,by rw[hk'];rfl,h0,h1,.set hk' ha hs,rfl⟩⟩
 | op hr hk' h0 h1 ha hb=>exact⟨hr,.inr ⟨_,_,_,_,_,by rw[hk'];rfl,h0,h1,.op hk' ha hb,by simp⟩⟩
 | app hr hk' h0 h1 ha hs=>exact⟨hr,.inr ⟨_,_,_,_,_,by rw[hk'];rfl,h0,h1,.app hk' ha hs,by simp⟩⟩
 | raise hr hk' h0 ha=>exact⟨hr,.inl ⟨_,_,_,by rw[hk'];rfl,h0,.raise hk' ha,rfl⟩⟩
theorem DC {S:Sg} {v:V} {g:Int→Int} {a:RT} (h:VT S v (cb g a)) (hk:a.kind=2):∃x y,a.kids= [x,y]∧v.kind=2∧v.n=0∧v.r=g a.rho∧S v.r v.a=some (.pair (cb g x) (cb g y)):=by
 obtain⟨k,r,e,ks⟩:=a
 simp only[RT.kind]at hk
 subst hk
 simp only[cb,uZ]at h
 rw[if_neg (by omega)]at h
 match ks,h with
 | [],h=>exact h.elim
 | [x],h=>simp[eN]at h;exact h.elim
 | [x,y],h=>
  simp[eN]at h
  obtain⟨h1,h2,h3,h4⟩:=h
  exact⟨x,y,rfl,h1,h2,h3,by rw[h3];exact h4⟩
 | _::_::_::_,h=>simp[eN]at h;exact h.elim
theorem Aq {S:Sg} {v:V} {g:Int→Int} {a:RT} (h:VT S v (cb g a)) (hk:a.kind=3):∃x,a.kids= [x]∧v.kind=2∧v.n=0∧v.r=g a.rho∧S v.r v.a=some (.ref (cb g x)):=by
 obtain⟨k,r,e,ks⟩:=a
 simp only[RT.kind]at hk
 subst hk
 simp only[cb,uZ]at h
 rw[if_neg (by omega)]at h
 match ks,h with
 | [],h=>exact h.elim
 | [x],h=>
  simp[eN]at h
  obtain⟨h1,h2,h3,h4⟩:=h
  exact⟨x,rfl,h1,h2,h3,by rw[h3];exact h4⟩
 | [x,y],h=>simp[eN]at h;exact h.elim
 | _::_::_::_,h=>simp[eN]at h;exact h.elim
theorem vt_fn {S:Sg} {v:V} {g:Int→Int} {a:RT} (h:VT S v (cb g a)) (hk:a.kind=4):∃x y,a.kids= [x,y]∧v.kind=2∧v.n=0∧v.r=g a.rho∧S v.r v.a=some (.fn (bG g a.eff) (cb g x) (cb g y)):=by
 obtain⟨k,r,e,ks⟩:=a
 simp only[RT.kind]at hk
 subst hk
 simp only[cb,uZ]at h
 rw[if_neg (by omega)]at h
 match ks,h with
 | [],h=>exact h.elim
 | [x],h=>simp[eN]at h;exact h.elim
 | [x,y],h=>
  simp[eN]at h
  obtain⟨h1,h2,h3,h4⟩:=h
  exact⟨x,y,rfl,h1,h2,h3,by rw[h3];exact h4⟩
 | _::_::_::_,h=>simp[eN]at h;exact h.elim
theorem sr {S:Sg} {v:V} {g:Int→Int} {a:RT} (hk:a.kind=1):VT S v (cb g a)↔v.kind=1:=by
 obtain⟨k,r,e,ks⟩:=a
 simp only[RT.kind]at hk
 subst hk
 simp[cb,uZ,VT]
inductive lB (S:Sg) (s:Sa) (e:En) (T:RT) (R:List Atom):Re Nx→Prop
 | full {s':Sa}:lB S s e T R (.over s' 4)
 | val {v s' S'} (h1:S.le S') (h2:SOK S' s') (h3:VT S' v (cb (gOf e) T)) (h4:s'.store.live=s.store.live) (h5:aW s.store s'.store (bG (gOf e) R)):lB S s e T R (.ok (.val v) s')
 | exn {n x} (h:bG (gOf e) R (lf x)):lB S s e T R (.ok (.exn n x) s)
 | node {b e' Γ rs T' E'} (h1:cj S e' Γ rs) (h2:Bnd rs b) (h3:Ty Γ rs b T' E') (h4:cb (gOf e') T'=cb (gOf e) T) (h5:∀x,bG (gOf e') E' x→bG (gOf e) R x):lB S s e T R (.ok (.node b e') s)
theorem zJ {g:Int→Int} {r:Int} (h:0≤r) {m:List Atom}:bG g ([dz r]++m) (dz (g r)):=oe (bz.2 (.inl (fP.2 ⟨rfl,lU h⟩)))
theorem sf {S:Sg} {s:Sa} {e:En} {Γ:List Bd} {rs:List Int} {t:AT} {As:List RT} {T:RT} {R:List Atom} (hT:oz t As T R) (hreg:bo t rs=true) (hB:bE t=true) (hRs:FQ rs) (hin:∀a∈As,InT (· ∈rs) a)
 (hs:SOK S s) (he:cj S e Γ rs) (hlive:gH s (bG (gOf e) R)) {vs:List V} (hv:∀(i:Nat) a,As[i]?=some a→VT S (at0 vs i) (cb (gOf e) a)):lB S s e T R (dC s t e vs):=by
 have hrho:=cB hreg
 cases hT with
 | @pair a b hk=>
  have hr:=hrho.1 (by omega)
  have hput:Has [putAt t.rho] (putAt t.rho):=fP.2 ⟨rfl,fI (kG hB)⟩
  have hm:=mb (c:=⟨1,at0 vs 0,at0 vs 1,0⟩) (show SOK S ⟨s.store,s.steps,s.aC⟩ from hs) (he.regs _ hr) (hlive _ (eE hput) (by simp[putAt])) (fun _=>s.aC) (fun _ _ _ h=>h) (.pair (cb (gOf e) a) (cb (gOf e) b))
   (fun q _ _ _ hle=>⟨rfl,(hv 0 a rfl).mono hle,(hv 1 b rfl).mono hle⟩)
  unfold dC
  rw[if_pos hk]
  rcases hm with hm | ⟨v,st,hm,M⟩
  ·rw[hm];exact .full
  ·rw[hm]
   exact .val M.le M.ok ⟨M.kind,M.n,M.rg,by have:=M.at_;rw[M.rg]at this;exact this⟩ M.live (M.keep (eE hput))
 | @proj a hk ha=>
  have v0:=hv 0 a rfl
  obtain⟨x,y,hkids,h1,h2,h3,h4⟩:=DC v0 ha
  have hr0:0≤a.rho:=hRs.pos _ ((hin a (by simp)).rho (by omega))
  have hl:=hlive _ (oe (fP.2 ⟨rfl,lU hr0⟩)) (by simp[dz])
  obtain⟨c,hc,hok⟩:=hs.take h4 h1 h2 (by rw[h3];exact hl) (k:=1) (fun x hx=>hx.1)
  unfold dC
  rcases hk with hk | hk
  ·rw[if_neg (by omega),if_pos hk,hc]
   refine .val (Sg.le.refl _) hs ?_ rfl (aW.refl _ _)
   have e0:Chk.aO a (t.h.kind - 4).toNat=x:=by rw[hk];simp[Chk.aO,hkids]
   rw[e0];exact hok.2.1
  ·rw[if_neg (by omega),if_neg (by omega),if_pos hk,hc]
   refine .val (Sg.le.refl _) hs ?_ rfl (aW.refl _ _)
   have e0:Chk.aO a (t.h.kind - 4).toNat=y:=by rw[hk];simp[Chk.aO,hkids]
   rw[e0];exact hok.2.2
 | @ref a hk=>
  have hr:=hrho.1 (by omega)
  have hput:Has [putAt t.rho] (putAt t.rho):=fP.2 ⟨rfl,fI (kG hB)⟩
  have hm:=mb (c:=⟨2,at0 vs 0,V.zero,0⟩) (show SOK S ⟨s.store,s.steps,s.aC⟩ from hs) (he.regs _ hr) (hlive _ (eE hput) (by simp[putAt])) (fun _=>s.aC) (fun _ _ _ h=>h) (.ref (cb (gOf e) a))
   (fun q _ _ _ hle=>⟨rfl,(hv 0 a rfl).mono hle⟩)
  unfold dC
  rw[if_neg (by omega),if_neg (by omega),if_neg (by omega),if_pos hk]
  rcases hm with hm | ⟨v,st,hm,M⟩
  ·rw[hm];exact .full
  ·rw[hm]
   exact .val M.le M.ok ⟨M.kind,M.n,M.rg,by have:=M.at_;rw[M.rg]at this;exact this⟩ M.live (M.keep (eE hput))
 | @get a hk ha=>
  have v0:=hv 0 a rfl
  obtain⟨x,hkids,h1,h2,h3,h4⟩:=Aq v0 ha
  have hr0:0≤a.rho:=hRs.pos _ ((hin a (by simp)).rho (by omega))
  have hl:=hlive _ (oe (fP.2 ⟨rfl,lU hr0⟩)) (by simp[dz])
  obtain⟨c,hc,hok⟩:=hs.take h4 h1 h2 (by rw[h3];exact hl) (k:=2) (fun x hx=>hx.1)
  unfold dC
  rw[if_neg (by omega),if_neg (by omega),if_neg (by omega),if_neg (by omega),if_pos hk,hc]
  refine .val (Sg.le.refl _) hs ?_ rfl (aW.refl _ _)
  have e0:Chk.aO a 0=x:=by simp[Chk.aO,hkids]
  rw[e0];exact hok.2
 | @set a b hk ha hsm=>
  have v0:=hv 0 a rfl
  have v1:=hv 1 b rfl
  obtain⟨x,hkids,h1,h2,h3,h4⟩:=Aq v0 ha
  have hr0:0≤a.rho:=hRs.pos _ ((hin a (by simp)).rho (by omega))
  have hl:=hlive _ (eE (fP.2 ⟨rfl,fI hr0⟩)) (by simp[putAt])
  obtain⟨c,hc,hok⟩:=hs.take h4 h1 h2 (by rw[h3];exact hl) (k:=2) (fun x hx=>hx.1)
  have e0:Chk.aO a 0=x:=by simp[Chk.aO,hkids]
  rw[e0]at hsm
  rw[←gG hsm]at v1
  obtain⟨hset,hlen⟩:=hs.set h4 (c:=⟨2,at0 vs 1,V.zero,0⟩) ⟨rfl,v1⟩
  unfold dC
  rw[if_neg (by omega),if_neg (by omega),if_neg (by omega),if_neg (by omega),if_neg (by omega),if_pos hk,hc]
  exact .val (Sg.le.refl _) hset rfl (iU _ _ _).1 (fun r row hr _=>hlen r row hr)
 | @op a b hk ha hb=>
  have v0:=(sr ha).1 (hv 0 a rfl)
  have v1:=(sr hb).1 (hv 1 b rfl)
  unfold dC
  rw[if_neg (by omega),if_neg (by omega),if_neg (by omega),if_neg (by omega),if_neg (by omega),if_neg (by omega),if_pos hk]
  simp only[number,v0,v1,if_true,Re.bind]
  exact .val (Sg.le.refl _) hs rfl rfl (aW.refl _ _)
 | @app a b hk ha hsm=>
  have v0:=hv 0 a rfl
  have v1:=hv 1 b rfl
  obtain⟨x,y,hkids,h1,h2,h3,h4⟩:=vt_fn v0 ha
  have hr0:0≤a.rho:=hRs.pos _ ((hin a (by simp)).rho (by omega))
  have hl:=hlive _ (zJ hr0) (by simp[dz])
  obtain⟨c,hc,hok⟩:=hs.take h4 h1 h2 (by rw[h3];exact hl) (k:=3) (fun x hx=>hx.1)
  obtain⟨_,co,hco,Γ',rs',A,T',E',f1,f2,f3,f4,f5,f6,f7⟩:=hok
  have e0:Chk.aO a 0=x:=by simp[Chk.aO,hkids]
  have e1:Chk.aO a 1=y:=by simp[Chk.aO,hkids]
  rw[e0]at hsm
  rw[←gG hsm,←f5]at v1
  unfold dC
  rw[if_neg (by omega),if_neg (by omega),if_neg (by omega),if_neg (by omega),if_neg (by omega),if_neg (by omega),if_neg (by omega),if_neg (by omega),hc]
  simp only[Re.bind,hco]
  rw[e1]
  exact .node (f1.Au f3 v1) f2 f4 f6 (fun x hx=>dL (fun b hb=>bz.2 (.inr hb)) (f7 x hx))
 | @raise a hk ha=>
  have v0:=(sr ha).1 (hv 0 a rfl)
  unfold dC
  rw[if_neg (by omega),if_neg (by omega),if_neg (by omega),if_neg (by omega),if_neg (by omega),if_neg (by omega),if_neg (by omega),if_pos hk]
  simp only[number,v0,if_true,Re.bind]
  exact .exn ⟨lf t.h.exn,fP.2 ⟨rfl,CG hB hk⟩,rfl⟩
end Go.Abs.Safe
