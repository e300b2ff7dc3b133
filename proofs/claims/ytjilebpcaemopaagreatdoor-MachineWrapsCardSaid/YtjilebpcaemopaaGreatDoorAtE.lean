import Derived.Test.YtjilebpcaemopaaGreatDoorAtermDecA
import Derived.Test.YtjilebpcaemopaaGreatDoorAtM
set_option linter.unusedVariables false
set_option linter.unusedSimpArgs false
namespace Go.Abs.At
open Go Go.Abs Go.Proofs.AtD
noncomputable abbrev PR:=Go.Proofs.Tryz.prog
attribute [local simp] Nat.add_assoc
@[simp] theorem AT.av_18 (t:AT):t.av[18]?=some (AT.vs t.kids):=by
 obtain⟨h,r,rs,e,ty,re,ks⟩:=t
 obtain⟨k1,r1,e1,ks1⟩:=ty
 obtain⟨k2,r2,e2,ks2⟩:=re
 rfl
@[simp] theorem AT.FQ (t:AT) (h:18<t.av.length):t.av[18]'h=AT.vs t.kids:=by
 have:=AT.av_18 t
 rw[List.getElem?_eq_getElem h]at this
 exact Option.some.inj this
@[simp] theorem AT.av_0 (t:AT):t.av[0]?=some (u8 t.h.kind):=by
 obtain⟨h,r,rs,e,ty,re,ks⟩:=t
 rfl
@[simp] theorem AT.ym (t:AT) (h:0<t.av.length):t.av[0]'h=u8 t.h.kind:=by
 have:=AT.av_0 t
 rw[List.getElem?_eq_getElem h]at this
 exact Option.some.inj this
@[simp] theorem AT.qR (t:AT):t.av.head?=some (u8 t.h.kind):=by
 obtain⟨h,r,rs,e,ty,re,ks⟩:=t
 rfl
@[simp] theorem AT.av_take7 (t:AT):t.av.take 7=t.h.av:=by
 obtain⟨h,r,rs,e,ty,re,ks⟩:=t
 rfl
@[simp] theorem AT.av_take19 (t:AT):t.av.take 19=t.av:=List.take_of_length_le (by simp)
@[simp] theorem AT.vz (l:List AT):(AT.avs l).length=l.length:=by simp[AT.cu]
@[simp] theorem T.vz (l:List T):(T.avs l).length=l.length:=by simp[T.cu]
@[simp] theorem T.av_take8 (t:T):t.av.take 8=t.av:=List.take_of_length_le (by simp)
def Kid (n m sz:Nat) (υ:ah) (x:AV) (rows:List (List AV)):Prop:=
 (x= .val (.slice none 0 0)∧rows= [])∨∃q rest,x= .own q rows.length∧υ.get q=some (.cells sz (rows++rest))∧n+m≤q∧q<υ.next
theorem Kid.rows {n m sz υ x rows} (h:Kid n m sz υ x rows):Rows υ sz x rows:=by
 rcases h with h | ⟨q,rest,h1,h2,_⟩
 ·exact .inl h
 ·exact .inr (.inr ⟨q,rest,h1,h2⟩)
theorem Kid.ns {n m sz υ x rows} (h:Kid n m sz υ x rows):∀c,x≠ .sl c sz rows:=by
 intro c e
 rcases h with ⟨h,_⟩ | ⟨q,rest,h1,h2,_⟩<;>rw[e]at * <;>first | cases h | cases h1
theorem Kid.aP {n m sz υ ω x rows} (h:Kid n m sz υ x rows) (g:aq υ ω):Kid n m sz ω x rows:=by
 rcases h with h | ⟨q,rest,h1,h2,h3,h4⟩
 ·exact .inl h
 ·exact .inr ⟨q,rest,h1,by rw[g.get _ h4];exact h2,h3,Nat.lt_of_lt_of_le h4 g.next⟩
theorem Kid.set {n m sz υ x rows} (h:Kid n m sz υ x rows) {j:Nat} (hj:j<n+m) (o:dm):Kid n m sz (υ.set j o) x rows:=by
 rcases h with h | ⟨q,rest,h1,h2,h3,h4⟩
 ·exact .inl h
 ·exact .inr ⟨q,rest,h1,by rw[au,if_neg (by omega)];exact h2,h3,h4⟩
theorem Kid.push {n m sz υ x rows} (h:Kid n m sz υ x rows) (hn:n+m≤υ.next) (el:List AV):
 let ω:=(gone x υ).new (.cells sz (rows++ [el]))
 Kid n m sz ω (.own υ.next (rows.length+1)) (rows++ [el])∧(∀j,j<n+m→ω.get j=υ.get j)∧ω.next=υ.next+1:=by
 refine⟨.inr ⟨υ.next,[],by simp,by rw[an,bM,if_pos rfl];simp,hn,by simp⟩,fun j hj=> ?_,by simp⟩
 rw[an,bM,if_neg (by omega)]
 unfold gone
 split
 ·rename_i q len
  rcases h with ⟨h,_⟩ | ⟨q',rest,h1,_,h3,_⟩
  ·cases h
  ·cases h1
   rw[bD,if_neg (by omega)]
 ·rfl
theorem Kid.app {n m sz υ x rows} (h:Kid n m sz υ x rows) (hn:n+m≤υ.next) (els:List (List AV)):
 let ω:=(gone x υ).new (.cells sz (rows++els))
 Kid n m sz ω (.own υ.next (rows.length+els.length)) (rows++els)∧(∀j,j<n+m→ω.get j=υ.get j)∧ω.next=υ.next+1:=by
 refine⟨.inr ⟨υ.next,[],by simp,by rw[an,bM,if_pos rfl];simp,hn,by simp⟩,fun j hj=> ?_,by simp⟩
 rw[an,bM,if_neg (by omega)]
 unfold gone
 split
 ·rename_i q len
  rcases h with ⟨h,_⟩ | ⟨q',rest,h1,_,h3,_⟩
  ·cases h
  ·cases h1
   rw[bD,if_neg (by omega)]
 ·rfl
theorem Kid.frz {n m sz υ x rows} (h:Kid n m sz υ x rows) (hd:∀el∈rows,∀y∈el,Dat y):Frz υ n x (.sl false sz rows):=by
 rcases h with ⟨rfl,rfl⟩ | ⟨q,rest,rfl,h2,h3,_⟩
 ·exact .nil
 ·exact dp.own (dp.refl fun el hel y hy=>(hd el hel y hy).low _) (by omega) rfl h2
abbrev bU:List AV:=[u8 0,u8 0,int 0,int 0,str ByteArray.empty,str ByteArray.empty,str ByteArray.empty,.val (.slice none 0 0)]
theorem AT.dk {t k:AT} (h:k∈t.kids):k.size<t.size:=by
 obtain⟨hd,r,rs,e,ty,re,ks⟩:=t
 have:=AT.dW (show k∈ks from h)
 simp[AT.size];omega
theorem AT.ck (t:AT):t.kids.length<t.size:=by
 obtain⟨hd,r,rs,e,ty,re,ks⟩:=t
 have:∀l:List AT,l.length≤AT.aI l:=by
  intro l
  induction l with
  | nil=>simp
  | cons a l ih=>have:=a.size_pos;simp[AT.aI];omega
 have:=this ks
 simp[AT.size,AT.kids];omega
theorem AT.cq {l:List AT} {i:Nat} {k:AT} (h:l[i]?=some k):(AT.avs l)[i]?=some k.av:=by rw[AT.cu];simp[h]
theorem frzT {τ:ah} {n:Nat} {h:Head} {x:AV} {l:List T} (hx:Frz τ n x (.sl false 8 (T.avs l))):Frz τ n (.agg (h.av++ [x])) (T.v (.mk h l)):=by
 have:T.av (.mk h l)=h.av++ [.sl false 8 (T.avs l)]:=rfl
 show Frz τ n _ (.agg (T.av (.mk h l)))
 rw[this]
 exact(dY.cons (.low (.val _)) (.cons (.low (.val _)) (.cons (.low (.val _)) (.cons (.low (.val _)) (.cons (.low (.val _)) (.cons (.low (.val _)) (.cons (.low (.val _)) (.cons hx .nil)))))))).agg
end Go.Abs.At
set_option linter.unusedVariables false
set_option linter.unusedSimpArgs false
namespace Go.Abs.At
open Go Go.Abs Go.Proofs.AtD
attribute [local simp] Nat.add_assoc
def iY (e:List Atom):Prop:=e.length≤100∧∀a∈e,a.exn.size≤100
theorem mK {e:List Atom} {σ:ah} {k kp:AV→ah→Prop} (hk:∀b:Bool,(b=false→iY e)→k (.val (.bool b)) σ):Ev PR 69 [aT e] σ k kp:=by
 apply EX;unfold F69
 have hlen:∀ω,aE .slice (aT e) ω=some (int e.length):=fun ω=>by simp[aT]
 simp[hlen]
 by_cases h:(100:Int)<e.length
 ·simp[h]
  exact hk true (by simp)
 ·simp[h]
  refine aM ?_
  refine aX (fun i:Nat=>[(0,aT e),(8,int e.length),(9,int i)]) (fun i τ=>τ=σ∧i≤e.length∧∀a∈e.take i,a.exn.size≤100) (fun fr _=>e.length - (intOf (aa fr 9)).toNat) 0 (by simp) ⟨rfl,by simp,by simp⟩ ?_
  rintro i τ ⟨rfl,hi,hall⟩
  simp
  by_cases hil:i<e.length
  ·obtain⟨a,ha⟩:=get_some hil
   have hix:∀ω,ak 3 (aT e) (int i) ω=some (.ref a.av):=fun ω=>by unfold aT;rw[aD];simp[ha]
   have htk:e.take (i+1)=e.take i++ [a]:=by rw[List.take_add_one,ha];rfl
   simp[hil,hix,Atom.av]
   by_cases h2:(100:Int)<a.exn.size
   ·simp[h2]
    exact hk true (by simp)
   ·simp[h2]
    rw[wrap64 (by omega)]
    refine⟨⟨i+1,by simp,by omega,?_⟩,by omega⟩
    rw[htk]
    intro x hx
    rcases List.mem_append.1 hx with h | h
    ·exact hall x h
    ·simp at h;subst h;omega
  ·simp[hil]
   refine hk false fun _=>⟨by omega,fun a ha=>hall a ?_⟩
   rw[List.take_of_length_le (by omega)];exact ha
mutual
def RT.small:RT→Prop
 | .mk k r e ks=>iY e∧RT.cn ks
def RT.cn:List RT→Prop
 | []=>True
 | t::ts=>RT.small t∧RT.cn ts
end
theorem RT.mD {l:List RT} (h:∀t∈l,t.small):RT.cn l:=by
 induction l with
 | nil=>trivial
 | cons a l ih=>exact⟨h a (by simp),ih fun t ht=>h t (by simp[ht])⟩
theorem RT.fh {l:List RT} {i:Nat} {c:RT} (h:l[i]?=some c):RT.aI (l.take (i+1))=RT.aI (l.take i)+c.size:=by
 have:∀(l m:List RT),RT.aI (l++m)=RT.aI l+RT.aI m:=by
  intro l m
  induction l with
  | nil=>simp[RT.aI]
  | cons a l ih=>simp[RT.aI,ih]
 rw[List.take_add_one,h,this]
 simp[RT.aI]
theorem zD:∀(N:Nat) (t:RT),t.size≤N→t.fit→∀(n:Int),0≤n∧n≤400→∀(σ:ah) (k kp:AV→ah→Prop),(∀m:Int,-1≤m∧m≤n - 1→(0≤m→(t.size:Int)≤n - m∧t.small)→k (int m) σ)→Ev PR 112 [t.v,int n] σ k kp:=by
 intro N
 induction N with
 | zero=>intro t h;have:=t.size_pos;omega
 | succ N ih=>
  intro t hN hfit n hn σ k kp hk
  refine Ev.jc ?_
  apply Ax;unfold F112
  simp
  rw[wrap64 (by omega)]
  refine mK fun b hb=> ?_
  cases b with
  | true=>
   simp
   exact⟨aq.new _ _,.val _,hk (-1) (by omega) (by omega)⟩
  | false=>
   have he:=hb rfl
   simp
   refine aM ?_
   have hlen:∀ω,aE .slice (RT.vs t.kids) ω=some (int t.kids.length):=fun ω=>by simp
   have hkl:t.kids.length≤maxLen:=by obtain⟨a,b,c,d⟩:=t;exact hfit.2.2.1
   have hks:RT.fits t.kids:=by obtain⟨a,b,c,d⟩:=t;exact hfit.2.2.2
   have hmax:maxLen=9223372036854775807:=rfl
   have hsz:t.size=1+RT.aI t.kids:=by obtain⟨a,b,c,d⟩:=t;rfl
   refine aX (fun p:Nat×Int=>[(1,int p.2),(2,.ptr σ.next 0 0),(5,int p.1)])
    (fun p τ=>τ=σ.new (.cells 4 [t.av])∧p.1≤t.kids.length∧ -1≤p.2∧p.2≤n - 1∧(0≤p.2→(1+RT.aI (t.kids.take p.1):Int)≤n - p.2∧∀c∈t.kids.take p.1,c.small))
    (fun fr _=>t.kids.length - (intOf (aa fr 5)).toNat) (0,n - 1) (by simp) ⟨rfl,by simp,by omega,by omega,fun _=>⟨by simp[RT.aI];omega,by simp⟩⟩ ?_
   rintro⟨i,m⟩ τ ⟨rfl,hi,h1,h2,h3⟩
   simp only at hi h1 h2 h3
   simp[hlen]
   by_cases hil:i<t.kids.length
   ·obtain⟨c,hc⟩:=get_some hil
    have hcm:=List.mem_of_getElem? hc
    have hcl:=RT.dk hcm
    have hix:∀ω,ak 4 (RT.vs t.kids) (int i) ω=some (.ref c.av):=fun ω=>by rw[aD];simp[RT.cq hc]
    simp[hil]
    by_cases h0:0≤m
    ·simp[h0,hix]
     obtain⟨h4,h5⟩:=h3 h0
     refine ih c (by omega) (RT.ov hks c hcm) m (by omega) _ _ _ fun m' hm1 hm2=> ?_
     simp
     rw[wrap64 (by omega)]
     refine⟨⟨i+1,m',⟨rfl,by omega⟩,by omega,by omega,by omega,fun hm0=> ?_⟩,by omega⟩
     obtain⟨h6,h7⟩:=hm2 hm0
     refine⟨by rw[RT.fh hc];omega,?_⟩
     rw[List.take_add_one,hc]
     intro x hx
     rcases List.mem_append.1 hx with h | h
     ·exact h5 x h
     ·simp at h;subst h;exact h7
    ·simp[h0]
     exact⟨aq.new _ _,.val _,hk m (by omega) (by omega)⟩
   ·have hall:t.kids.take i=t.kids:=List.take_of_length_le (by omega)
    rw[hall]at h3
    simp[hil]
    refine⟨aq.new _ _,.val _,hk m (by omega) fun h0=> ?_⟩
    obtain⟨h4,h5⟩:=h3 h0
    refine⟨by omega,?_⟩
    obtain⟨a,b,c,d⟩:=t
    exact⟨he,RT.mD h5⟩
theorem qo {t:RT} (hfit:t.fit) {σ:ah} {k kp:AV→ah→Prop} (hk:∀b:Bool,(b=false→t.size≤100∧t.small)→k (.val (.bool b)) σ):Ev PR 70 [t.v] σ k kp:=by
 refine Ev.jc ?_
 apply EY;unfold F70
 simp
 refine zD _ t (Nat.le_refl _) hfit 100 (by omega) _ _ _ fun m h1 h2=> ?_
 simp
 refine⟨aq.new _ _,.val _,hk _ fun h=> ?_⟩
 simp at h
 obtain⟨h3,h4⟩:=h2 h
 exact⟨by omega,h4⟩
def Head.small (h:Head):Prop:=h.name.size≤100∧h.arg.size≤100∧h.exn.size≤100
mutual
def AT.small:AT→Prop
 | .mk h r rs e t s ks=>h.small∧rs.length≤50∧iY e∧(t.size≤100∧t.small)∧(s.size≤100∧s.small)∧AT.cn ks
def AT.cn:List AT→Prop
 | []=>True
 | t::ts=>AT.small t∧AT.cn ts
end
theorem AT.mD {l:List AT} (h:∀t∈l,t.small):AT.cn l:=by
 induction l with
 | nil=>trivial
 | cons a l ih=>exact⟨h a (by simp),ih fun t ht=>h t (by simp[ht])⟩
theorem AT.iR {l:List AT} (h:AT.cn l):∀t∈l,t.small:=by
 induction l with
 | nil=>simp
 | cons a l ih=>
  intro t ht
  simp only[AT.cn]at h
  rcases List.mem_cons.1 ht with rfl | ht
  ·exact h.1
  ·exact ih h.2 t ht
theorem AT.fh {l:List AT} {i:Nat} {c:AT} (h:l[i]?=some c):AT.aI (l.take (i+1))=AT.aI (l.take i)+c.size:=by
 have:∀(l m:List AT),AT.aI (l++m)=AT.aI l+AT.aI m:=by
  intro l m
  induction l with
  | nil=>simp[AT.aI]
  | cons a l ih=>simp[AT.aI,ih]
 rw[List.take_add_one,h,this]
 simp[AT.aI]
theorem CK:∀(N:Nat) (t:AT),t.size≤N→t.fit→∀(n:Int),0≤n∧n≤400→∀(σ:ah) (k kp:AV→ah→Prop),(∀m:Int,-1≤m∧m≤n - 1→(0≤m→(t.size:Int)≤n - m∧t.small)→k (int m) σ)→Ev PR 38 [t.v,int n] σ k kp:=by
 intro N
 induction N with
 | zero=>intro t h;have:=t.size_pos;omega
 | succ N ih=>
  intro t hN hfit n hn σ k kp hk
  have hbad:k (int (-1)) σ:=hk (-1) (by omega) (by omega)
  have hf:t.type.fit∧t.res.fit∧t.kids.length≤maxLen∧AT.fits t.kids:=by obtain⟨a,b,c,d,e,f,g⟩:=t;exact hfit.2.2.2
  refine Ev.jc ?_
  apply EE;unfold F38
  have hG:aq σ (σ.new (.cells 19 [t.av])):=aq.new _ _
  have hr:∀ω,aE .slice (aO t.aH) ω=some (int t.aH.length):=fun ω=>by simp[aO]
  simp
  rw[wrap64 (by omega)]
  by_cases a1:(100:Int)<t.h.name.size
  ·simp[a1];exact⟨hG,.val _,hbad⟩
  by_cases a2:(100:Int)<t.h.arg.size
  ·simp[a1,a2];exact⟨hG,.val _,hbad⟩
  by_cases a3:(100:Int)<t.h.exn.size
  ·simp[a1,a2,a3];exact⟨hG,.val _,hbad⟩
  by_cases a4:(50:Int)<t.aH.length
  ·simp[a1,a2,a3,hr,a4];exact⟨hG,.val _,hbad⟩
  simp[a1,a2,a3,hr,a4]
  refine mK fun b hb=> ?_
  cases b with
  | true=>simp;exact⟨hG,.val _,hbad⟩
  | false=>
   have he:=hb rfl
   simp
   refine qo hf.1 fun b hb=> ?_
   cases b with
   | true=>simp;exact⟨hG,.val _,hbad⟩
   | false=>
    have ht:=hb rfl
    simp
    refine qo hf.2.1 fun b hb=> ?_
    cases b with
    | true=>simp;exact⟨hG,.val _,hbad⟩
    | false=>
     have hre:=hb rfl
     simp
     refine aM ?_
     have hlen:∀ω,aE .slice (AT.vs t.kids) ω=some (int t.kids.length):=fun ω=>by simp
     have hkl:t.kids.length≤maxLen:=hf.2.2.1
     have hks:AT.fits t.kids:=hf.2.2.2
     have hmax:maxLen=9223372036854775807:=rfl
     have hsz:t.size=1+AT.aI t.kids:=by obtain⟨a,b,c,d,e,f,g⟩:=t;rfl
     refine aX (fun p:Nat×Int=>[(1,int p.2),(2,.ptr σ.next 0 0),(5,int p.1)])
      (fun p τ=>τ=σ.new (.cells 19 [t.av])∧p.1≤t.kids.length∧ -1≤p.2∧p.2≤n - 1∧(0≤p.2→(1+AT.aI (t.kids.take p.1):Int)≤n - p.2∧∀c∈t.kids.take p.1,c.small))
      (fun fr _=>t.kids.length - (intOf (aa fr 5)).toNat) (0,n - 1) (by simp) ⟨rfl,by simp,by omega,by omega,fun _=>⟨by simp[AT.aI];omega,by simp⟩⟩ ?_
     rintro⟨i,m⟩ τ ⟨rfl,hi,h1,h2,h3⟩
     simp only at hi h1 h2 h3
     simp[hlen]
     by_cases hil:i<t.kids.length
     ·obtain⟨c,hc⟩:=get_some hil
      have hcm:=List.mem_of_getElem? hc
      have hcl:=AT.dk hcm
      have hix:∀ω,ak 19 (AT.vs t.kids) (int i) ω=some (.ref c.av):=fun ω=>by rw[aD];simp[AT.cq hc]
      simp[hil]
      by_cases h0:0≤m
      ·simp[h0,hix]
       obtain⟨h4,h5⟩:=h3 h0
       refine ih c (by omega) (AT.ov hks c hcm) m (by omega) _ _ _ fun m' hm1 hm2=> ?_
       simp
       rw[wrap64 (by omega)]
       refine⟨⟨i+1,m',⟨rfl,by omega⟩,by omega,by omega,by omega,fun hm0=> ?_⟩,by omega⟩
       obtain⟨h6,h7⟩:=hm2 hm0
       refine⟨by rw[AT.fh hc];omega,?_⟩
       rw[List.take_add_one,hc]
       intro x hx
       rcases List.mem_append.1 hx with h | h
       ·exact h5 x h
       ·simp at h;subst h;exact h7
      ·simp[h0]
       exact⟨hG,.val _,hk m (by omega) (by omega)⟩
     ·have hall:t.kids.take i=t.kids:=List.take_of_length_le (by omega)
      rw[hall]at h3
      simp[hil]
      refine⟨hG,.val _,hk m (by omega) fun h0=> ?_⟩
      obtain⟨h4,h5⟩:=h3 h0
      refine⟨by omega,?_⟩
      obtain⟨a,b,c,d,e,f,g⟩:=t
      simp only[AT.h,AT.aH,AT.eff,AT.type,AT.res,AT.kids]at *
      exact⟨⟨by omega,by omega,by omega⟩,by omega,he,ht,hre,AT.mD h5⟩
theorem yM {t:AT} (hfit:t.fit) {σ:ah} {k kp:AV→ah→Prop} (hk:∀b:Bool,(b=false→t.size≤400∧t.small)→k (.val (.bool b)) σ):Ev PR 22 [t.v] σ k kp:=by
 refine Ev.jc ?_
 apply Eo;unfold F22
 simp
 refine CK _ t (Nat.le_refl _) hfit 400 (by omega) _ _ _ fun m h1 h2=> ?_
 simp
 refine⟨aq.new _ _,.val _,hk _ fun h=> ?_⟩
 simp at h
 obtain⟨h3,h4⟩:=h2 h
 exact⟨by omega,h4⟩
end Go.Abs.At
set_option linter.unusedVariables false
set_option linter.unusedSimpArgs false
namespace Go.Abs.At
open Go Go.Abs Go.Proofs.AtD
attribute [local simp] Nat.add_assoc
end Go.Abs.At
