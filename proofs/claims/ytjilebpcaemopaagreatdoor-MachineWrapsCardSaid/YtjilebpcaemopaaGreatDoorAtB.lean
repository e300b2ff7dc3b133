import Derived.Test.YtjilebpcaemopaaGreatDoorMacDecS
import Derived.Test.YtjilebpcaemopaaGreatDoorAtH
set_option linter.unusedVariables false
set_option linter.unusedSimpArgs false
namespace Go.Abs.At
open Go Go.Abs Go.Proofs.AtD
attribute [local simp] Nat.add_assoc
def own (t:AT):List Int:=if t.h.kind=17 then [t.rho] else if t.h.kind=13 then t.aH else []
theorem qq {τ:ah} {n q:Nat} {l:List Int} {rest:List (List AV)} (hn:n≤q) (hg:τ.get q=some (.cells 1 ((l.map fun r=>[int r])++rest))):Frz τ n (.own q l.length) (aO l):=by
 refine dp.own (dp.refl fun el hel x hx=> ?_) hn (by simp) hg
 obtain⟨r,_,rfl⟩:=List.mem_map.1 hel
 simp at hx;subst hx;exact(Dat.val _).low _
theorem Kid.aH {n m υ x} {l:List Int} (h:Kid n m 1 υ x (l.map fun r=>[int r])):Frz υ n x (aO l):=by
 refine Kid.frz h fun el hel y hy=> ?_
 obtain⟨r,_,rfl⟩:=List.mem_map.1 hel
 simp at hy;subst hy;exact Dat.val _
theorem Kid.other {n m sz sz' υ x rows} (h:Kid n m sz υ x rows) (hne:sz≠sz') {j:Nat} {els:List (List AV)} (hj:υ.get j=some (.cells sz' els)):(gone x υ).get j=υ.get j:=by
 rcases h with ⟨rfl,_⟩ | ⟨q,rest,rfl,h1,_⟩
 ·rfl
 ·show(υ.del q).get j=_
  rw[bD,if_neg]
  rintro rfl
  rw[h1]at hj
  cases hj
  exact hne rfl
theorem vY {t:AT} {σ:ah} {k kp:AV→ah→Prop} (hk:k (aO (own t)) σ):Ev PR 37 [t.v] σ k kp:=by
 refine Ev.pure ?_
 apply ED;unfold F37
 by_cases h17:t.h.kind=17
 ·have e:own t= [t.rho]:=by simp[own,h17]
  rw[e]at hk
  simp[h17,an]
  exact⟨(aq.new _ _).trans (aq.new _ _),_,qq (l:=[t.rho]) (rest:=[]) (by omega) (by simp[an]),hk⟩
 ·by_cases h13:t.h.kind=13
  ·have e:own t=t.aH:=by simp[own,h13]
   rw[e]at hk
   simp[h13]
   exact⟨aq.new _ _,_,.low ((fc _).low _),hk⟩
  ·have e:own t= []:=by simp[own,h13,h17]
   rw[e]at hk
   simp[h13,h17]
   exact⟨(aq.new _ _).trans (aq.new _ _),_,qq (l:=[]) (rest:=[]) (by omega) (by simp[an]),hk⟩
theorem nq:∀(N:Nat) (t:AT),t.size≤N→t.size<100000000000→∀(σ:ah) (k kp:AV→ah→Prop),k (AT.vs t.all) σ→Ev PR 14 [t.v] σ k kp:=by
 intro N
 induction N with
 | zero=>intro t h;have:=t.size_pos;omega
 | succ N ih=>
  intro t hN hb σ k kp hk
  refine Ev.pure ?_
  apply D9;unfold F14
  simp
  refine aM ?_
  have hlen:∀ω,aE .slice (AT.vs t.kids) ω=some (int t.kids.length):=fun ω=>by simp
  have hkl:=t.ck
  have hse:=t.size_eq
  simp[an,hlen]
  refine aX (fun p:Nat×AV=>[(1,.ptr σ.next 0 0),(3,p.2),(9,int t.kids.length),(10,int p.1)])
   (fun p φ=>p.1≤t.kids.length∧aq σ φ∧σ.next+1≤φ.next∧φ.get σ.next=some (.cells 19 [t.av])∧Kid σ.next 1 19 φ p.2 (AT.avs (t::AT.bE (t.kids.take p.1))))
   (fun fr _=>t.kids.length - (intOf (aa fr 10)).toNat) (0,.own (σ.next+1) 1) (by simp)
   ⟨by simp,(aq.new _ _).trans (aq.new _ _),by simp,by simp[an],.inr ⟨σ.next+1,[],by simp[AT.bE],by simp[an,AT.avs,AT.bE],by omega,by simp⟩⟩ ?_
  rintro⟨i,x⟩ φ ⟨hi,f1,f2,f3,f4⟩
  simp only at hi f4
  simp
  by_cases hil:i<t.kids.length
  ·obtain⟨c,hc⟩:=get_some hil
   have hcm:=List.mem_of_getElem? hc
   have hcl:=AT.dk hcm
   have hix:∀ω,ak 19 (AT.vs t.kids) (int i) ω=some (.ref c.av):=fun ω=>by rw[aD];simp[AT.cq hc]
   have htk:t.kids.take (i+1)=t.kids.take i++ [c]:=by rw[List.take_add_one,hc];rfl
   have hsum:AT.aI (t.kids.take (i+1))=AT.aI (t.kids.take i)+c.size:=by rw[htk,AT.eL];simp[AT.aI]
   have hle:=AT.kg t.kids (i+1)
   have hal:=AT.cj (t.kids.take i)
   have hcall:=AT.eh c
   simp[hil,f3,hix]
   refine ih c (by omega) (by omega) _ _ _ ?_
   refine bF (bP (by':=280) f4.rows f4.ns (.inr (.inl ⟨false,rfl⟩)) (by simp[hal,hcall];omega)) ?_
   obtain⟨p1,p2,p3⟩:=f4.app (by omega) (AT.avs c.all)
   generalize (gone x φ).new (.cells 19 (AT.avs (t::AT.bE (t.kids.take i))++AT.avs c.all))=φ2 at p1 p2 p3
   simp
   rw[wrap64 (by omega)]
   refine⟨⟨i+1,_,⟨rfl,by simp⟩,by omega,⟨by have:=f1.next;omega,fun j hj=>by rw[p2 j (by omega)];exact f1.get j hj⟩,by omega,by rw[p2 _ (by omega)];exact f3,?_⟩,by omega⟩
   have e:AT.avs (t::AT.bE (t.kids.take (i+1)))=AT.avs (t::AT.bE (t.kids.take i))++AT.avs c.all:=by
    rw[htk,AT.gF]
    simp[AT.cu,AT.bE]
   rw[e]
   simpa using p1
  ·have hall:t.kids.take i=t.kids:=List.take_of_length_le (by omega)
   rw[hall]at f4
   simp[hil]
   exact⟨f1,_,f4.frz (AT.nb _),by rw[←AT.all_eq];exact hk⟩
theorem gL {l:List Int} {n:Int} (hb:l.length<1000000000000) {x:AV} {σ:ah} (hx:Rows σ 1 x (l.map fun r=>[int r])) {k kp:AV→ah→Prop} (hk:k (bool (decide (n∈l))) σ):Ev PR 19 [x,int n] σ k kp:=by
 apply Ej;unfold F19
 have hlen:=hx.len
 simp only[List.length_map]at hlen
 simp[hlen]
 refine aM ?_
 refine aX (fun j:Nat=>[(0,x),(1,int n),(7,int l.length),(8,int j)]) (fun j φ=>φ=σ∧j≤l.length∧n∉l.take j) (fun fr _=>l.length - (intOf (aa fr 8)).toNat) 0 (by simp) ⟨rfl,by simp,by simp⟩ ?_
 rintro j φ ⟨rfl,hj,hne⟩
 simp
 by_cases hjl:j<l.length
 ·obtain⟨t,ht⟩:=get_some hjl
  obtain⟨p,hp,hat⟩:=hx.at (i:=j) (el:=[int t]) (by simp[ht]) rfl .i64
  simp[hjl,hp]
  refine fJ (x:=int t) ?_ ?_
  ·rw[hat.load];rfl
  by_cases hc:t=n
  ·subst hc
   simp
   have e:decide (t∈l)=true:=decide_eq_true (List.mem_of_getElem? ht)
   rw[e]at hk
   exact hk
  ·simp[hc]
   rw[wrap64 (by omega)]
   refine⟨⟨j+1,by simp,by omega,fun h=> ?_⟩,by omega⟩
   rw[List.take_add_one,ht]at h
   rcases List.mem_append.1 h with h | h
   ·exact hne h
   ·simp at h;exact hc h.symm
 ·have hall:l.take j=l:=List.take_of_length_le (by omega)
  rw[hall]at hne
  simp[hjl]
  have e:decide (n∈l)=false:=decide_eq_false hne
  rw[e]at hk
  exact hk
def bg (l:List AT):List Int:=l.flatMap own
theorem mR {l:List AT} {i:Nat} {t:AT} (h:l[i]?=some t):bg (l.take (i+1))=bg (l.take i)++own t:=by
 rw[List.take_add_one,h];simp[bg]
theorem gS (l m:List AT):bg (l++m)=bg l++bg m:=by simp[bg]
theorem jH (l:List AT) (i:Nat):(bg (l.take i)).length≤(bg l).length:=by
 conv=>rhs;rw[←List.take_append_drop i l,gS,List.length_append]
 omega
theorem wH {t:AT} (hb:t.size<100000000000) (hb2:(bg t.all).length<1000000000000) {σ:ah} {k kp:AV→ah→Prop} (hk:k (aO (bg t.all)) σ):Ev PR 20 [t.v] σ k kp:=by
 refine Ev.pure ?_
 apply El;unfold F20
 simp[an]
 refine nq _ t (Nat.le_refl _) hb _ _ _ ?_
 refine aM ?_
 have hlen:∀ω,aE .slice (AT.vs t.all) ω=some (int t.all.length):=fun ω=>by simp
 have hal:=t.eh
 simp[hlen]
 refine aX (fun p:Nat×AV=>[(3,p.2),(4,AT.vs t.all),(10,int t.all.length),(11,int p.1)])
  (fun p φ=>p.1≤t.all.length∧aq σ φ∧σ.next+1≤φ.next∧Kid σ.next 1 1 φ p.2 ((bg (t.all.take p.1)).map fun r=>[int r]))
  (fun fr _=>t.all.length - (intOf (aa fr 11)).toNat) (0,.own (σ.next+1) 0) (by simp)
  ⟨by simp,(aq.new _ _).trans (aq.new _ _),by simp,.inr ⟨σ.next+1,[],by simp[bg],by simp[an,bg],by omega,by simp⟩⟩ ?_
 rintro⟨i,x⟩ φ ⟨hi,f1,f2,f4⟩
 simp only at hi f4
 simp
 by_cases hil:i<t.all.length
 ·obtain⟨c,hc⟩:=get_some hil
  have hix:∀ω,ak 19 (AT.vs t.all) (int i) ω=some (.ref c.av):=fun ω=>by rw[aD];simp[AT.cq hc]
  have htk:=mR hc
  have hle:=jH t.all (i+1)
  rw[htk]at hle
  simp only[List.length_append]at hle
  simp[hil,hix]
  refine vY ?_
  refine bF (bP (by':=8) f4.rows f4.ns (.inr (.inl ⟨false,rfl⟩)) (by simp;omega)) ?_
  obtain⟨p1,p2,p3⟩:=f4.app (by omega) ((own c).map fun r=>[int r])
  generalize (gone x φ).new (.cells 1 (((bg (t.all.take i)).map fun r=>[int r])++(own c).map fun r=>[int r]))=φ2 at p1 p2 p3
  simp
  rw[wrap64 (by omega)]
  refine⟨⟨i+1,_,⟨rfl,by simp⟩,by omega,⟨by have:=f1.next;omega,fun j hj=>by rw[p2 j (by omega)];exact f1.get j hj⟩,by omega,?_⟩,by omega⟩
  rw[htk,List.map_append]
  simpa using p1
 ·have hall:t.all.take i=t.all:=List.take_of_length_le (by omega)
  rw[hall]at f4
  simp[hil]
  exact⟨f1,_,f4.aH,hk⟩
end Go.Abs.At
set_option linter.unusedVariables false
set_option linter.unusedSimpArgs false
namespace Go.Abs.At
open Go Go.Abs Go.Proofs.AtD
attribute [local simp] Nat.add_assoc
def lF (met:List Int):List Int→Option (List Int)
 | []=>some met
 | r::rs=>if r∈met then none else lF (met++ [r]) rs
def cN (met:List Int):List AT→Int×Bool
 | []=>(0,true)
 | t::ts=>match lF met (own t) with
  | none=>(t.h.pos,false)
  | some m=>cN m ts
def gH (met rs:List Int) (pos:Int) (ts:List AT):Int×Bool:=match lF met rs with
 | none=>(pos,false)
 | some m=>cN m ts
theorem qN (met:List Int) (t:AT) (ts:List AT):cN met (t::ts)=gH met (own t) t.h.pos ts:=rfl
theorem rV (met:List Int) (pos:Int) (ts:List AT):gH met [] pos ts=cN met ts:=rfl
theorem rT {met rs:List Int} {r pos:Int} {ts:List AT} (h:r∈met):gH met (r::rs) pos ts=(pos,false):=by simp[gH,lF,h]
theorem rU {met rs:List Int} {r pos:Int} {ts:List AT} (h:r∉met):gH met (r::rs) pos ts=gH (met++ [r]) rs pos ts:=by simp[gH,lF,h]
theorem cx {α:Type} {l:List α} {i:Nat} {x:α} (h:l[i]?=some x):l.drop i=x::l.drop (i+1):=by
 have hi:=(List.getElem?_eq_some_iff.1 h).1
 rw[List.drop_eq_getElem_cons hi]
 rw[List.getElem?_eq_getElem hi]at h
 rw[Option.some.inj h]
abbrev zn (p:Int×Bool):AV:=.tup [int p.1,bool p.2]
theorem wE {t:AT} (hb:t.size<100000000000) (hb2:(bg t.all).length<1000000000000) {σ:ah} {k kp:AV→ah→Prop} (hk:k (zn (cN [] t.all)) σ):Ev PR 34 [t.v] σ k kp:=by
 refine Ev.bB hk ((Dat.tup fun x hx=>by simp at hx;rcases hx with rfl | rfl<;>exact Dat.val _).low _) fun k' hk'=> ?_
 apply EA;unfold F34
 simp[an]
 refine nq _ t (Nat.le_refl _) hb _ _ _ ?_
 refine aM ?_
 have hlen:∀ω,aE .slice (AT.vs t.all) ω=some (int t.all.length):=fun ω=>by simp
 have hal:=t.eh
 simp[hlen]
 refine aX (fun p:Nat×AV=>[(4,p.2),(5,AT.vs t.all),(13,int t.all.length),(14,int p.1)])
  (fun p φ=>p.1≤t.all.length∧aq σ φ∧σ.next+1≤φ.next∧∃met:List Int,Kid σ.next 1 1 φ p.2 (met.map fun r=>[int r])∧cN met (t.all.drop p.1)=cN [] t.all∧met.length≤(bg (t.all.take p.1)).length)
  (fun fr _=>t.all.length - (intOf (aa fr 14)).toNat) (0,.own (σ.next+1) 0) (by simp)
  ⟨by simp,(aq.new _ _).trans (aq.new _ _),by simp,[],.inr ⟨σ.next+1,[],by simp,by simp[an],by omega,by simp⟩,by simp,by simp⟩ ?_
 rintro⟨i,x⟩ φ ⟨hi,f1,f2,met,f3,f4,f5⟩
 simp only at hi f3 f4 f5
 simp
 by_cases hil:i<t.all.length
 ·obtain⟨c,hc⟩:=get_some hil
  have hix:∀ω,ak 19 (AT.vs t.all) (int i) ω=some (.ref c.av):=fun ω=>by rw[aD];simp[AT.cq hc]
  have htk:=mR hc
  have hle:=jH t.all (i+1)
  rw[htk]at hle
  simp only[List.length_append]at hle
  rw[cx hc,qN]at f4
  simp[hil,hix]
  refine aM ?_
  refine vY ?_
  have hol:∀ω,aE .slice (aO (own c)) ω=some (int (own c).length):=fun ω=>by simp[aO]
  simp[hol]
  refine aX (fun p:Nat×AV=>[(4,p.2),(5,AT.vs t.all),(6,int i),(7,aO (own c)),(13,int t.all.length),(14,int i),(23,int (own c).length),(24,int p.1)])
   (fun p φ=>p.1≤(own c).length∧aq σ φ∧σ.next+1≤φ.next∧∃met:List Int,Kid σ.next 1 1 φ p.2 (met.map fun r=>[int r])∧gH met ((own c).drop p.1) c.h.pos (t.all.drop (i+1))=cN [] t.all∧met.length≤(bg (t.all.take i)).length+p.1)
   (fun fr _=>(own c).length - (intOf (aa fr 24)).toNat) (0,x) (by simp) ⟨by simp,f1,f2,met,f3,by simpa using f4,by simpa using f5⟩ ?_
  clear f1 f2 f3 f4 f5
  rintro⟨j,x⟩ φ ⟨hj,f1,f2,met,f3,f4,f5⟩
  simp only at hj f3 f4 f5
  simp
  by_cases hjl:j<(own c).length
  ·obtain⟨r,hr⟩:=get_some hjl
   have hjx:∀ω,ak 1 (aO (own c)) (int j) ω=some (.ref [int r]):=fun ω=>by rw[aO,aD];simp[hr]
   rw[cx hr]at f4
   simp[hjl,hjx]
   refine gL (by omega) f3.rows ?_
   by_cases hm:r∈met
   ·simp[hm,hix]
    rw[rT hm]at f4
    have:=hk' _ f1
    rw[←f4]at this
    simpa using this
   ·rw[rU hm]at f4
    simp[hm,hjx]
    have f3':=f3.aP (aq.new φ (.cells 1 [[int r]]))
    have hy:Rows (φ.new (.cells 1 [[int r]])) 1 (.own φ.next 1) [[int r]]:=.inr (.inr ⟨φ.next,[],rfl,by simp[an]⟩)
    have g2:aq σ (φ.new (.cells 1 [[int r]])):=f1.trans (aq.new _ _)
    have hn2:(φ.new (.cells 1 [[int r]])).next=φ.next+1:=by simp
    generalize φ.new (.cells 1 [[int r]])=φ1 at f3' hy g2 hn2
    refine bF (bP (by':=8) f3'.rows f3'.ns hy (by simp;omega)) ?_
    obtain⟨p1,p2,p3⟩:=f3'.app (by omega) [[int r]]
    generalize (gone x φ1).new (.cells 1 ((met.map fun r=>[int r])++ [[int r]]))=φ2 at p1 p2 p3
    simp
    rw[wrap64 (by omega)]
    refine⟨⟨j+1,_,⟨rfl,by simp⟩,by omega,⟨by have:=f1.next;omega,fun q hq=>by rw[p2 q (by omega)];exact g2.get q hq⟩,by omega,met++ [r],by simpa using p1,f4,by simp;omega⟩,by omega⟩
  ·have hall:(own c).drop j= []:=List.drop_of_length_le (by omega)
   rw[hall,rV]at f4
   simp[hjl]
   rw[wrap64 (by omega)]
   refine⟨⟨i+1,x,⟨rfl,by simp⟩,by omega,f1,f2,met,f3,f4,?_⟩,by omega⟩
   rw[htk];simp;omega
 ·have hall:t.all.drop i= []:=List.drop_of_length_le (by omega)
  rw[hall]at f4
  simp[hil]
  have:=hk' _ f1
  rw[←f4]at this
  simpa [cN] using this
structure tQ (es:List (MK×AV)) (met:List Int):Prop where
 fit:b9 (.int .i64) es=true
 has:∀r:Int,(cZ es (.i .i64 r)).isSome=decide (r∈met)
 val:∀q y,cZ es q=some y→y= .agg []
theorem tQ.put {es:List (MK×AV)} {met:List Int} (h:tQ es met) (r:Int):tQ (du es (.i .i64 r) (.agg [])) (met++ [r]):=by
 refine⟨iJ h.fit (q:=.i .i64 r) rfl _,fun q=> ?_,fun q y hq=> ?_⟩
 ·rw[cc]
  by_cases hq:q=r
  ·subst hq;simp
  ·have:¬(MK.i .i64 q=MK.i .i64 r):=fun e=>hq (by cases e;rfl)
   simp[this,hq,h.has q]
 ·rw[cc]at hq
  split at hq
  ·cases hq;rfl
  ·exact h.val q y hq
end Go.Abs.At
set_option linter.unusedVariables false
set_option linter.unusedSimpArgs false
namespace Go.Abs.At
open Go Go.Abs Go.Proofs.AtD
attribute [local simp] Nat.add_assoc
mutual
theorem AT.mC:∀t:AT,t.small→∀x∈t.all,x.aH.length≤50
 | .mk h r rs e ty s ks,hs,x,hx=>by
  simp only[AT.small]at hs
  simp only[AT.all,List.mem_cons]at hx
  rcases hx with rfl | hx
  ·exact hs.2.1
  ·exact AT.dR ks hs.2.2.2.2.2 x hx
theorem AT.dR:∀l:List AT,AT.cn l→∀x∈AT.bE l,x.aH.length≤50
 | [],_,x,hx=>by simp[AT.bE]at hx
 | t::ts,hs,x,hx=>by
  simp only[AT.cn]at hs
  simp only[AT.bE,List.mem_append]at hx
  rcases hx with hx | hx
  ·exact AT.mC t hs.1 x hx
  ·exact AT.dR ts hs.2 x hx
end
theorem vW {t:AT} (h:t.aH.length≤50):(own t).length≤50:=by
 unfold own
 split
 ·simp
 ·split
  ·exact h
  ·simp
theorem oR {l:List AT} (h:∀x∈l,(own x).length≤50):(bg l).length≤50 * l.length:=by
 induction l with
 | nil=>simp[bg]
 | cons t l ih=>
  have:=ih fun x hx=>h x (by simp[hx])
  have:=h t (by simp)
  simp[bg]at *
  omega
end Go.Abs.At
