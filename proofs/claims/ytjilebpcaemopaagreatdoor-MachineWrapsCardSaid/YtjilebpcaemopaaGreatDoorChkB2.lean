import Derived.Test.YtjilebpcaemopaaGreatDoorChkA
set_option linter.unusedVariables false
set_option linter.unusedSimpArgs false
set_option linter.deprecated false
namespace Go.Abs.Chk
open Go Go.Abs Go.Abs.At Go.Proofs.ChkD
attribute [local simp] Nat.add_assoc
variable {σ:ah} {k kp:AV→ah→Prop}
abbrev bf:AV:=.val (.slice none 0 0)
theorem uH {a:RT} (ha:Ok5 a) (hk:k (aO (eI [] a)) σ):Ev PR 154 [a.v] σ k kp:=by
 refine Ev.bB hk ((fc _).low _) fun k' hk'=> ?_
 apply Bb;unfold F154
 simp[an]
 have hK:fA σ.next 1 1 ((σ.new (.cells 4 [a.av])).new (.cells 1 [])) (.own (σ.next+1) 0) []:=.inr (by have:=fm (n:=σ.next) (m:=1) (sz:=1) (φ:=σ.new (.cells 4 [a.av])) (by simp);simpa using this)
 refine hK.call fun φ' h1 h2=> ?_
 refine pd _ a [] (Nat.le_refl _) ha (by have:=ha.size;simp;omega) _ _ _ ?_
 exact hk' _ (bW (φ:=(σ.new (.cells 4 [a.av])).new (.cells 1 [])) ((aq.new _ _).trans (aq.new _ _)) (fun j hj=>h1 j (by omega)) (by omega))
theorem yf {l:List RT} (hl:l.length≤10) (ha:∀t∈l,Ok5 t) (hk:k (aO (cE [] l)) σ):Ev PR 142 [RT.vs l] σ k kp:=by
 refine Ev.pure ?_
 apply AW;unfold F142
 simp
 refine aM ?_
 have hlen:∀ω,aE .slice (RT.vs l) ω=some (int l.length):=fun ω=>by simp
 simp[hlen]
 have hsm:∀i,RT.aI (l.drop i)≤2000 * (l.length - i):=by
  have:∀l:List RT,(∀t∈l,Ok5 t)→RT.aI l≤2000 * l.length:=by
   intro l
   induction l with
   | nil=>intro _;simp[RT.aI]
   | cons t l ih=>
    intro h
    have h1:=ih fun t ht=>h t (by simp[ht])
    have h2:=(h t (by simp)).size
    simp only[RT.aI,List.length_cons];omega
  intro i
  have:=this (l.drop i) fun t ht=>ha t (List.mem_of_mem_drop ht)
  simpa using this
 obtain⟨I,hI⟩:∃I:aA→ah→Prop,∀f φ,I f φ↔∃(i:Nat) (y:AV) (acc:List Int),f= [(0,RT.vs l),(3,y),(7,int l.length),(8,int i)]∧i≤l.length∧fA σ.next 0 1 φ y (acc.map fun r=>[int r])∧aq σ φ∧cE [] l=cE acc (l.drop i)∧acc.length≤202000 * i:=⟨_,fun _ _=>Iff.rfl⟩
 refine bI I (fun f _=>l.length - (intOf (aa f 8)).toNat) ((hI _ _).2 ⟨0,.own σ.next 0,[],rfl,Nat.zero_le _,.inr (fm (by omega)),aq.new _ _,rfl,by simp⟩) ?_
 intro f φ hi
 obtain⟨i,y,acc,rfl,hi,hK,hg,he,hal⟩:=(hI _ _).1 hi
 by_cases hil:i<l.length
 ·obtain⟨x,hx⟩:=get_some hil
  have hxm:=List.mem_of_getElem? hx
  have hix:∀ω,ak 4 (RT.vs l) (int i) ω=some (.ref x.av):=fun ω=>by rw[aD];simp[RT.cq hx]
  have hwi:IntKind.i64.wrap ((i:Int)+1)=((i+1:Nat):Int):=by rw[wrap64 (by omega)];omega
  rw[mU _ hx]at he
  have hxs:=(ha x hxm).size
  have hxl:=jW x acc (ha x hxm).small
  simp[hil,hix]
  refine hK.call fun φ' h1 h2=> ?_
  refine pd _ x acc (Nat.le_refl _) (ha x hxm) (by omega) _ _ _ ?_
  simp[hwi]
  exact⟨(hI _ _).2 ⟨i+1,_,eI acc x,by simp[aO],hil,.inl rfl,bW hg (fun j hj=>h1 j (by omega)) (by omega),he,by omega⟩,by omega⟩
 ·have hin:i=l.length:=by omega
  subst hin
  simp[cE]at he
  rw[he]at hk
  simp
  exact⟨hg,_,hK.frz (pe _),hk⟩
theorem iS (fr to:List Int) (l:List RT):cU fr to l=l.map (swapT fr to):=by
 induction l with
 | nil=>rfl
 | cons t l ih=>simp[cU,ih]
theorem Ac (fr to:List Int) (t:RT):swapT fr to t= .mk t.kind (if t.kind=1 then t.rho else lQ t.rho fr to) (if t.kind=1 then t.eff else gA fr to t.eff) (cU fr to t.kids):=by
 obtain⟨k,r,e,ks⟩:=t
 by_cases h:k=1
 ·simp[swapT,RT.kind,RT.rho,RT.eff,RT.kids,h]
 ·simp[swapT,RT.kind,RT.rho,RT.eff,RT.kids,h]
theorem RT.Cg (l:List RT):∀el∈l.map RT.av,∀x∈el,Dat x:=by
 intro el hel
 obtain⟨t,_,rfl⟩:=List.mem_map.1 hel
 exact t.dat
@[simp] theorem rt_len (t:RT):t.av.length=4:=nr (by obtain⟨k,r,e,ks⟩:=t;rfl)
@[simp] theorem rt_t4 (t:RT):List.take 4 t.av=t.av:=nr (by obtain⟨k,r,e,ks⟩:=t;rfl)
theorem iq (t:RT):t.av= [u8 t.kind,int t.rho,aT t.eff,RT.vs t.kids]:=by obtain⟨k,r,e,ks⟩:=t;rfl
theorem po {fr to:List Int} (hf:fr.length<1000000000000) (ht:to.length<1000000000000):∀(N:Nat) (a:RT),a.size≤N→Ok5 a→∀(σ:ah) (k kp:AV→ah→Prop),k (swapT fr to a).v σ→Ev PR 146 [a.v,aO fr,aO to] σ k kp:=by
 intro N
 induction N with
 | zero=>intro a h;have:=a.size_pos;omega
 | succ N ih=>
  intro a hN ha σ k kp hk
  refine Ev.pure ?_
  apply A3;unfold F146
  simp[an,au]
  generalize hτ:ah.set _ _ _=τ
  have hn:τ.next=σ.next+3:=by rw[←hτ];rfl
  have hg:aq σ τ:=by rw[←hτ];exact(((aq.new _ _).trans (aq.new _ _)).trans (aq.new _ _)).set (by omega) _
  have g0:τ.get σ.next=some (.cells 4 [a.av]):=by rw[←hτ];simp[an,au]
  have g1:τ.get (σ.next+1)=some (.cells 4 [[u8 0,int 0,bf,bf]]):=by rw[←hτ];simp[an,au]
  have g2:τ.get (σ.next+2)=some (.cells 4 [[u8 a.kind,int a.rho,aT a.eff,RT.vs a.kids]]):=by rw[←hτ];simp[an,au,iq]
  clear hτ
  have hsz:=ha.size
  have heff:a.eff.length≤100:=by obtain⟨k,r,e,ks⟩:=a;exact ha.small.1.1
  have hka:=a.ck
  have heq:=Ac fr to a
  generalize hr':(if a.kind=1 then a.rho else lQ a.rho fr to)=r' at heq
  generalize he':(if a.kind=1 then a.eff else gA fr to a.eff)=e' at heq
  obtain⟨J,hJ⟩:∃J:aA→ah→Prop,∀f φ,J f φ↔f= [(1,aO fr),(2,aO to),(3,.ptr σ.next 0 0),(6,.ptr (σ.next+1) 0 0),(7,.ptr (σ.next+2) 0 0)]∧aq σ φ∧φ.next=σ.next+3∧φ.get σ.next=some (.cells 4 [a.av])∧φ.get (σ.next+1)=some (.cells 4 [[u8 0,int 0,bf,bf]])∧φ.get (σ.next+2)=some (.cells 4 [[u8 a.kind,int r',aT e',RT.vs a.kids]]):=⟨_,fun _ _=>Iff.rfl⟩
  refine bw J ?_ ?_
  ·by_cases hk1:a.kind=1
   ·rw[if_pos hk1]at hr' he'
    subst hr' he'
    simp[hk1]
    exact(hJ _ _).2 ⟨rfl,hg,hn,g0,g1,g2⟩
   ·rw[if_neg hk1]at hr' he'
    simp[hk1]
    refine tB hf ht ?_
    simp[g0,g2,au]
    refine mN (by omega) hf ht ?_
    rw[hr',he']
    simp[au]
    exact(hJ _ _).2 ⟨rfl,(hg.set (by omega) _).set (by omega) _,by simp[hn],by simp[au,g0],by simp[au,g1],by simp[au]⟩
  ·intro f φ hj
   obtain⟨rfl,hg,hn,g0,g1,g2⟩:=(hJ _ _).1 hj
   simp[an,au,g2,hn]
   have hla:∀ω,aE .slice (RT.vs a.kids) ω=some (int a.kids.length):=fun ω=>by simp
   obtain⟨J2,hJ2⟩:∃J:aA→ah→Prop,∀f ω,J f ω↔∃q,f= [(6,.ptr (σ.next+1) 0 0),(7,.ptr (σ.next+2) 0 0)]∧aq σ ω∧σ.next+3≤q∧ω.get (σ.next+1)=some (.cells 4 [[u8 0,int 0,bf,bf]])∧ω.get (σ.next+2)=some (.cells 4 [[u8 a.kind,int r',aT e',.own q a.kids.length]])∧ω.get q=some (.cells 4 ((cU fr to a.kids).map RT.av)):=⟨_,fun _ _=>Iff.rfl⟩
   refine bw J2 ?_ ?_
   ·simp[an,au,g0,hn,hla]
    obtain⟨I,hI⟩:∃I:aA→ah→Prop,∀f ω,I f ω↔∃(i q:Nat),f= [(1,aO fr),(2,aO to),(3,.ptr σ.next 0 0),(6,.ptr (σ.next+1) 0 0),(7,.ptr (σ.next+2) 0 0),(29,int a.kids.length),(30,int i)]∧i≤a.kids.length∧aq σ ω∧σ.next+3≤q∧q<ω.next∧ω.get σ.next=some (.cells 4 [a.av])∧ω.get (σ.next+1)=some (.cells 4 [[u8 0,int 0,bf,bf]])∧ω.get (σ.next+2)=some (.cells 4 [[u8 a.kind,int r',aT e',.own q i]])∧ω.get q=some (.cells 4 ((cU fr to (a.kids.take i)).map RT.av)):=⟨_,fun _ _=>Iff.rfl⟩
    refine bI I (fun f _=>a.kids.length - (intOf (aa f 30)).toNat) ((hI _ _).2 ⟨0,σ.next+3,rfl,Nat.zero_le _,(hg.trans (aq.new _ _)).set (by omega) _,Nat.le_refl _,by simp[hn],by simp[au,an,hn,g0],by simp[au,an,hn,g1],by simp[au],by simp[au,an,hn,cU]⟩) ?_
    intro f ω hi
    obtain⟨i,q,rfl,hi,og,q1,q2,o0,o1,o2,oq⟩:=(hI _ _).1 hi
    have on:=og.next
    by_cases hil:i<a.kids.length
    ·obtain⟨x,hx⟩:=get_some hil
     have hxm:=List.mem_of_getElem? hx
     have hxk:=RT.dk hxm
     have hix:∀ω,ak 4 (RT.vs a.kids) (int i) ω=some (.ref x.av):=fun ω=>by rw[aD];simp[RT.cq hx]
     have hwi:IntKind.i64.wrap ((i:Int)+1)=((i+1:Nat):Int):=by rw[wrap64 (by omega)];omega
     simp[hil,o0,o2,hix]
     refine ih x (by omega) (ha.kid hxm) _ _ _ ?_
     have htl:((cU fr to (a.kids.take i)).map RT.av).length=i:=by rw[iS];simp;omega
     have hap:=nt (σ:=ω) (sz:=4) (bytes:=64) (id:=q) (c:=true) (xs:=(cU fr to (a.kids.take i)).map RT.av) (ys:=[(swapT fr to x).av]) oq (by rw[htl];simp;omega)
     rw[htl]at hap
     simp[o2]
     refine bF hap ?_
     have w2:σ.next+2≠q:=by omega
     have w2':σ.next+2≠ω.next:=by omega
     simp[an,bD,o2,w2,w2',hwi]
     refine⟨(hI _ _).2 ⟨i+1,ω.next,by simp,hil,⟨by simp;omega,fun j hj=> ?_⟩,by omega,by simp,?_,?_,by simp[au],?_⟩,by omega⟩
     ·simp only[au,an,bD,ah.fZ]
      repeat' rw[if_neg (by omega)]
      exact og.get j hj
     ·simp only[au,an,bD,ah.fZ]
      repeat' rw[if_neg (by omega)]
      exact o0
     ·simp only[au,an,bD,ah.fZ]
      repeat' rw[if_neg (by omega)]
      exact o1
     ·simp only[au,an,bD,ah.fZ]
      rw[if_neg (by omega),if_pos trivial,iS,iS,List.take_succ,hx]
      simp
    ·have hin:i=a.kids.length:=by omega
     subst hin
     simp
     exact(hJ2 _ _).2 ⟨q,rfl,og,q1,o1,o2,by simpa using oq⟩
   ·intro f ω hj2
    obtain⟨q,rfl,og,q1,o1,o2,oq⟩:=(hJ2 _ _).1 hj2
    simp[o1,o2,au]
    refine⟨og.set (by omega) _,(swapT fr to a).v,?_,hk⟩
    have ev:(swapT fr to a).v= .agg [u8 a.kind,int r',aT e',.sl false 4 ((cU fr to a.kids).map RT.av)]:=by
     show AV.agg (swapT fr to a).av=_
     rw[heq,iq]
     show AV.agg [_,_,_,RT.vs (cU fr to a.kids)]=_
     unfold RT.vs;rw[RT.cu];rfl
    rw[ev]
    refine dY.agg (.cons (.low ((Dat.val _).low _)) (.cons (.low ((Dat.val _).low _)) (.cons (.low ((gf _).low _)) (.cons ?_ .nil))))
    refine(dp.refl fun el hel x hx=>(RT.Cg _ el hel x hx).low _).own (by omega) (by rw[iS];simp) (rest:=[]) ?_
    rw[au,if_neg (by omega)]
    simpa using oq
end Go.Abs.Chk
set_option linter.unusedVariables false
set_option linter.unusedSimpArgs false
set_option linter.deprecated false
namespace Go.Abs.Chk
open Go Go.Abs Go.Abs.At Go.Proofs.ChkD
attribute [local simp] Nat.add_assoc
variable {σ:ah} {k kp:AV→ah→Prop}
def Rr.av (r:Rr):List AV:=r.t.av++ [aT r.e,int r.pos,int r.no]
abbrev Rr.v (r:Rr):AV:=.agg r.av
def Bd.av (b:Bd):List AV:=str b.name::(b.t.av++bool b.fn::b.f.av)
abbrev dt (env:List Bd):AV:=.sl false 25 (env.map Bd.av)
theorem Rr.dat (r:Rr):∀x∈r.av,Dat x:=by
 intro x hx
 rcases List.mem_append.1 hx with h | h
 ·exact r.t.dat x h
 ·simp at h
  rcases h with rfl | rfl | rfl
  ·exact gf _
  ·exact .val _
  ·exact .val _
theorem Rr.tD (r:Rr):Dat r.v:=.agg r.dat
theorem Bd.dat (b:Bd):∀x∈b.av,Dat x:=by
 intro x hx
 simp only[Bd.av,List.mem_cons,List.mem_append]at hx
 rcases hx with rfl | h | rfl | h
 ·exact .val _
 ·exact b.t.dat x h
 ·exact .val _
 ·exact b.f.dat x h
theorem vC (env:List Bd):∀el∈env.map Bd.av,∀x∈el,Dat x:=by
 intro el hel
 obtain⟨t,_,rfl⟩:=List.mem_map.1 hel
 exact t.dat
theorem yz (env:List Bd):Dat (dt env):=.sl (vC env)
@[simp] theorem rr_len (r:Rr):r.av.length=7:=nr (by simp[Rr.av])
@[simp] theorem rr_t7 (r:Rr):List.take 7 r.av=r.av:=nr (List.take_of_length_le (by simp))
@[simp] theorem rr_d7 (r:Rr):List.drop 7 r.av= []:=nr (List.drop_of_length_le (by simp))
theorem th (r:Rr):r.av= [u8 r.t.kind,int r.t.rho,aT r.t.eff,RT.vs r.t.kids,aT r.e,int r.pos,int r.no]:=by unfold Rr.av;rw[iq];rfl
@[simp] theorem bd_len (b:Bd):b.av.length=25:=nr (by simp[Bd.av])
@[simp] theorem bd_t25 (b:Bd):List.take 25 b.av=b.av:=nr (List.take_of_length_le (by simp))
@[simp] theorem ac_eff (e:List Atom):br (aT e)=some [aT e]:=nr rfl
@[simp] theorem ac_rhos (e:List Int):br (aO e)=some [aO e]:=nr rfl
theorem fK {t:AT} {n:Int} (hk:k (bad t n).v σ):Ev PR 67 [t.v,int n] σ k kp:=by
 refine Ev.pure ?_
 apply EW;unfold F67
 simp[an,au]
 refine⟨((aq.new _ _).trans (aq.new _ _)).set (show σ.next≤σ.next+1 by omega) _,(bad t n).v,?_,hk⟩
 show Frz _ _ _ (AV.agg [u8 0,int 0,aT [],RT.vs [],aT [],int t.h.pos,int n])
 exact dY.agg (.cons (.low ((Dat.val _).low _)) (.cons (.low ((Dat.val _).low _)) (.cons .nil (.cons .nil (.cons .nil (.cons (.low ((Dat.val _).low _)) (.cons (.low ((Dat.val _).low _)) .nil)))))))
theorem nE {kd r:Int} {e:List Atom} {ks:List RT} (hk:k (RT.mk kd r e ks).v σ):Ev PR 147 [u8 kd,int r,aT e,RT.vs ks] σ k kp:=by
 refine Ev.bB hk (((RT.mk kd r e ks).tD).low _) fun k' hk'=> ?_
 apply A4;unfold F147
 simp[an,au]
 exact hk' _ ((aq.new _ _).set (Nat.le_refl _) _)
theorem jz {r:Int} (hk:k (fL r).v σ):Ev PR 148 [int r] σ k kp:=by
 refine Ev.bB hk ((Dat.agg (by simp[Atom.av,fL,Dat.val])).low _) fun k' hk'=> ?_
 apply A5;unfold F148
 simp[an,au]
 exact hk' _ ((aq.new _ _).set (Nat.le_refl _) _)
theorem eZ {r:Int} (hk:k (putAt r).v σ):Ev PR 149 [int r] σ k kp:=by
 refine Ev.bB hk ((Dat.agg (by simp[Atom.av,putAt,Dat.val])).low _) fun k' hk'=> ?_
 apply A6;unfold F149
 simp[an,au]
 exact hk' _ ((aq.new _ _).set (Nat.le_refl _) _)
theorem vS (hk:k one.v σ):Ev PR 151 [] σ k kp:=by
 refine Ev.pure ?_
 apply A8;unfold F151
 simp[an,au]
 refine⟨(aq.new _ _).set (Nat.le_refl _) _,one.v,?_,hk⟩
 show Frz _ _ _ (AV.agg [u8 1,int 0,aT [],RT.vs []])
 exact dY.agg (.cons (.low ((Dat.val _).low _)) (.cons (.low ((Dat.val _).low _)) (.cons .nil (.cons .nil .nil))))
theorem Cc {sz bytes:Nat} {c:Bool} {ys:List (List AV)} (hb:ys.length * bytes≤140737488355328∧ys.length≤140737488355328):aY sz bytes (.sl true sz []) (.sl c sz ys) σ=some (.own σ.next ys.length,σ.new (.cells sz ys)):=by
 simp[aY,eA,hb]
theorem sQ {env:List Bd} {b:Bd} (hl:env.length<1000000000) (hk:k (dt (env++ [b])) σ):Ev PR 150 [dt env,.agg b.av] σ k kp:=by
 refine Ev.pure ?_
 apply A7;unfold F150
 simp[an]
 refine bF (Cc (by simp;omega)) ?_
 simp[an]
 have ha:=nt (σ:=(σ.new (.cells 25 [b.av])).new (.cells 25 (env.map Bd.av))) (sz:=25) (bytes:=368) (id:=σ.next+1) (c:=true) (xs:=env.map Bd.av) (ys:=[b.av]) (by simp[an]) (by simp;omega)
 simp at ha
 refine bF ha ?_
 refine⟨⟨by simp,fun i hi=> ?_⟩,dt (env++ [b]),?_,hk⟩
 ·simp only[an,bD,ah.sU,ah.fZ]
  repeat' rw[if_neg (by omega)]
 ·exact(dp.refl fun el hel x hx=>(vC (env++ [b]) el hel x hx).low _).own (by omega) (by simp) (rest:=[]) (by simp[an])
theorem yH {env:List Bd} {nm:ByteArray} (hl:env.length<1000000000000) (hk:match fH env nm with | none=>k (int (-1)) σ | some b=>∀i:Nat,env[i]?=some b→k (int i) σ):Ev PR 143 [dt env,str nm] σ k kp:=by
 apply AX;unfold F143
 refine aM ?_
 have hlen:∀ω,aE .slice (dt env) ω=some (int env.length):=fun ω=>by simp
 simp[hlen]
 rw[wrap64 (by omega)]
 obtain⟨I,hI⟩:∃I:aA→ah→Prop,∀f φ,I f φ↔∃(n:Nat),f= [(0,dt env),(1,str nm),(5,int ((n:Int) - 1))]∧n≤env.length∧φ=σ∧fH env nm=fH (env.take n) nm:=⟨_,fun _ _=>Iff.rfl⟩
 refine bI I (fun f _=>(intOf (aa f 5)+1).toNat) ((hI _ _).2 ⟨env.length,rfl,Nat.le_refl _,rfl,by rw[List.take_length]⟩) ?_
 intro f φ hi
 obtain⟨n,rfl,hn,rfl,he⟩:=(hI _ _).1 hi
 cases n with
 | zero=>
  simp
  have:fH env nm=none:=by rw[he];rfl
  rw[this]at hk
  exact hk
 | succ n=>
  obtain⟨b,hb⟩:=get_some (l:=env) (i:=n) (by omega)
  have hia:∀ω,ak 25 (dt env) (int n) ω=some (.ref b.av):=fun ω=>by rw[aD];simp[hb]
  have h0:b.av.head?=some (str b.name):=rfl
  have ht:env.take (n+1)=env.take n++ [b]:=by rw[List.take_succ,hb];rfl
  have hf:fH (env.take (n+1)) nm=if b.name=nm then some b else fH (env.take n) nm:=by
   rw[ht];unfold fH
   by_cases h:b.name=nm<;>simp[h]
  rw[hf]at he
  simp[hia,h0]
  by_cases h:b.name=nm
  ·rw[if_pos h]at he
   rw[he]at hk
   simp[h]
   exact hk n hb
  ·rw[if_neg h]at he
   simp[h]
   rw[wrap64 (by omega)]
   exact⟨(hI _ _).2 ⟨n,rfl,by omega,rfl,he⟩,by omega⟩
end Go.Abs.Chk
set_option linter.unusedVariables false
set_option linter.unusedSimpArgs false
set_option linter.deprecated false
namespace Go.Abs.Chk
open Go Go.Abs Go.Abs.At Go.Proofs.ChkD
attribute [local simp] Nat.add_assoc
variable {σ:ah} {k kp:AV→ah→Prop}
theorem Ok5.of {t:RT} (h:t.Ok):Ok5 t:=⟨h.small,by have:=h.size;omega⟩
theorem kQ {t:AT} (h:t.Ok):t.aH.length≤50:=by obtain⟨a,b,c,d,e,f,g⟩:=t;exact h.1.2.1
theorem nU {t:AT} (h:t.Ok):t.eff.length≤100:=by obtain⟨a,b,c,d,e,f,g⟩:=t;exact h.1.2.2.1.1
theorem fA.arg {n m sz:Nat} {φ:ah} {x:AV} {rows:List (List AV)} (h:fA n m sz φ x rows) {P:Program} {f:FuncId} {y:AV} {K kp:AV→ah→Prop}
 (H:∀φ',(∀j,j<n+m→φ'.get j=φ.get j)→φ'.next=φ.next→Ev P f [y,.sl false sz rows] φ' K kp):Ev P f [y,x] φ K kp:=by
 rcases h with rfl | ⟨rfl,rfl⟩ | ⟨q,rest,rfl,h2,h3,h4⟩
 ·exact H φ (fun _ _=>rfl) rfl
 ·exact Ev.iw (.cons (.refl _) (.cons .nil .nil)) (H φ (fun _ _=>rfl) rfl)
 ·refine Ev.freeze (FzS.del φ q) (.cons (.refl _) (.cons ((FzR.refl _).own rfl rfl h2) .nil)) (H _ (fun j hj=> ?_) rfl)
  rw[bD,if_neg (by omega)]
theorem nD {n m sz:Nat} {φ:ah} (els:List (List AV)) (hm:n+m≤φ.next):fA n m sz (φ.new (.cells sz els)) (.own φ.next els.length) els:=.inr (.inr ⟨φ.next,[],rfl,by simp[an],hm,by simp⟩)
theorem s7 {t:AT} {rs:List Int} (ht:t.Ok) (hr:rs.length≤1000000) (hk:k (bool (bt t rs)) σ):Ev PR 107 [t.v,aO rs] σ k kp:=by
 refine Ev.bB hk ((Dat.val _).low _) fun k' hk'=> ?_
 apply As;unfold F107
 simp[an]
 generalize hτ:σ.new (.cells 19 [t.av])=τ
 have hg:aq σ τ:=by rw[←hτ];exact aq.new _ _
 have hn:τ.next=σ.next+1:=by rw[←hτ];rfl
 have g0:τ.get σ.next=some (.cells 19 [t.av]):=by rw[←hτ];simp[an]
 clear hτ
 have hrl:=kQ ht
 have hel:=nU ht
 have hno:(t.h.kind≠17∧t.rho∉rs∨t.h.kind=18∧eD t.aH rs=false)→k' (bool false) τ:=fun h=>by
  have:bt t rs=false:=by unfold bt;rw[if_pos h]
  rw[←this];exact hk' _ hg
 have main:¬(t.h.kind≠17∧t.rho∉rs∨t.h.kind=18∧eD t.aH rs=false)→Fy (aO rs) (.ptr σ.next 0 0) τ k' (fun _ _=>False):=fun hc=>by
  unfold Fy
  have hM:bt t rs=(eD (cL t.eff) (if t.h.kind=13 then rs++t.aH else rs)&&eD (cE [] [t.type,t.res]) (if t.h.kind=13 then rs++t.aH else rs)):=by unfold bt;rw[if_neg hc]
  generalize hrs:(if t.h.kind=13 then rs++t.aH else rs)=rs' at hM
  have hrl':rs'.length≤1000050:=by
   rw[←hrs]
   split
   ·rw[List.length_append];omega
   ·omega
  rw[hM]at hk'
  obtain⟨J,hJ⟩:∃J:aA→ah→Prop,∀fr φ,J fr φ↔fr= [(1,aO rs'),(2,.ptr σ.next 0 0)]∧φ=τ:=⟨_,fun _ _=>Iff.rfl⟩
  refine bw J ?_ ?_
  ·by_cases c13:t.h.kind=13
   ·rw[if_pos c13]at hrs
    simp[g0,c13]
    refine nY (by omega) ?_
    rw[hrs]
    exact(hJ _ _).2 ⟨rfl,rfl⟩
   ·rw[if_neg c13]at hrs
    simp[g0,c13]
    rw[hrs]
    exact(hJ _ _).2 ⟨rfl,rfl⟩
  ·intro fr φ hj
   obtain⟨rfl,rfl⟩:=(hJ _ _).1 hj
   have hral:=mB t.eff
   simp[g0]
   refine mM (by omega) ?_
   refine ma (by omega) (by omega) ?_
   cases hin:eD (cL t.eff) rs' with
   | false=>
    rw[hin]at hk'
    simp
    exact hk' _ hg
   | true=>
    rw[hin]at hk'
    simp[g0]
    have hK:fA σ.next 1 4 (φ.new (.cells 4 [t.type.av,t.res.av])) (.own φ.next 2) [t.type.av,t.res.av]:=nD _ (by omega)
    refine hK.call (ys:=[]) fun φ' h1 h2=> ?_
    have hty:=Ok5.of ht.type
    have hre:=Ok5.of ht.res
    refine yf (l:=[t.type,t.res]) (by simp) (by simp;exact⟨hty,hre⟩) ?_
    have hl1:=kF [t.type,t.res] [] ⟨hty.small,hre.small,trivial⟩
    have:=hty.size
    have:=hre.size
    simp only[RT.aI,List.length_nil]at hl1
    refine ma (by omega) (by omega) ?_
    have:=hk' φ' (bW (hg.trans (aq.new _ _)) (fun j hj=>h1 j (by omega)) (by omega))
    simpa using this
 by_cases c17:t.h.kind=17
 ·simp[c17,g0]
  exact main (by simp[c17])
 simp[c17,g0]
 refine gL (by omega) (.inr (.inl ⟨_,rfl⟩)) ?_
 by_cases hm:t.rho∈rs
 ·by_cases c18:t.h.kind=18
  ·simp[hm,c18,g0]
   refine ma (by omega) (by omega) ?_
   cases hin:eD t.aH rs with
   | false=>
    simp
    exact hno (.inr ⟨c18,hin⟩)
   | true=>
    simp
    exact main (by simp[hm,hin])
  ·simp[hm,c18,g0]
   exact main (by simp[hm,c18])
 ·simp[hm]
  exact hno (.inl ⟨c17,hm⟩)
end Go.Abs.Chk
set_option linter.unusedVariables false
set_option linter.unusedSimpArgs false
set_option linter.deprecated false
namespace Go.Abs.Chk
open Go Go.Abs Go.Abs.At Go.Proofs.ChkD
attribute [local simp] Nat.add_assoc
variable {σ:ah} {k kp:AV→ah→Prop}
abbrev bdV (nm:ByteArray) (t:RT):AV:=.agg (Bd.av ⟨nm,t,false,fE⟩)
def bdN (nm:ByteArray) (t:RT):List AV:=str nm::(t.av++ [bool false,u8 0,u8 0,int 0,int 0,str ByteArray.empty,str ByteArray.empty,str ByteArray.empty,int 0,bf,bf,u8 0,int 0,bf,bf,u8 0,int 0,bf,bf,bf])
theorem bd_fz {τ:ah} {D:Nat→Prop} (nm:ByteArray) (t:RT):FzL τ D (bdN nm t) (Bd.av ⟨nm,t,false,fE⟩):=by
 refine .cons (.refl _) ((FzL.refl _).append ?_)
 show FzL τ D _ [bool false,u8 0,u8 0,int 0,int 0,str ByteArray.empty,str ByteArray.empty,str ByteArray.empty,int 0,aO [],aT [],u8 0,int 0,aT [],RT.vs [],u8 0,int 0,aT [],RT.vs [],AT.vs []]
 exact .cons (.refl _) (.cons (.refl _) (.cons (.refl _) (.cons (.refl _) (.cons (.refl _) (.cons (.refl _) (.cons (.refl _) (.cons (.refl _) (.cons (.refl _) (.cons .nil (.cons .nil (.cons (.refl _) (.cons (.refl _) (.cons .nil (.cons .nil (.cons (.refl _) (.cons (.refl _) (.cons .nil (.cons .nil (.cons .nil .nil)))))))))))))))))))
theorem FV {τ:ah} {D:Nat→Prop} (nm:ByteArray) (t:AT):FzL τ D (str nm::u8 0::int 0::bf::bf::bool true::t.av) (Bd.av ⟨nm,bU,true,t⟩):=by
 refine .cons (.refl _) ?_
 show FzL τ D _ ([u8 0,int 0,aT [],RT.vs []]++bool true::t.av)
 exact .cons (.refl _) (.cons (.refl _) (.cons .nil (.cons .nil (.cons (.refl _) (FzL.refl _)))))
theorem jT {env:List Bd} {nm:ByteArray} {t:RT} (hl:env.length<1000000000) (hk:k (dt (env++ [⟨nm,t,false,fE⟩])) σ):Ev PR 150 [dt env,.agg (bdN nm t)] σ k kp:=
 Ev.iw (args':=[dt env,bdV nm t]) (.cons (.refl _) (.cons (bd_fz _ _).agg .nil)) (sQ hl hk)
theorem xk {env:List Bd} {nm:ByteArray} {t:AT} (hl:env.length<1000000000) (hk:k (dt (env++ [⟨nm,bU,true,t⟩])) σ):Ev PR 150 [dt env,.agg (str nm::u8 0::int 0::bf::bf::bool true::t.av)] σ k kp:=
 Ev.iw (args':=[dt env,.agg (Bd.av ⟨nm,bU,true,t⟩)]) (.cons (.refl _) (.cons (FV _ _).agg .nil)) (sQ hl hk)
theorem zo (env:List Bd) (rs:List Int):Dat (.tup [dt env,aO rs]):=Dat.tup fun x hx=>by
 simp only[List.mem_cons,List.mem_nil_iff,or_false]at hx
 rcases hx with rfl | rfl
 ·exact yz _
 ·exact fc _
theorem rows0 {x:AV} {ks:List Rr} (hx:Rows σ 7 x (ks.map Rr.av)) (h:0<ks.length):∃p,ak 7 x (int 0) σ=some p∧kK σ p (r0 ks 0).av:=
 hx.at (i:=0) (el:=(r0 ks 0).av) (by unfold r0;simp[List.getElem?_eq_getElem h,h]) (by simp) .i64
theorem Rows.aP {σ τ:ah} {sz:Nat} {x:AV} {els:List (List AV)} (h:Rows σ sz x els) (hn:∀q n,x= .own q n→q<σ.next) (hg:aq σ τ):Rows τ sz x els:=by
 rcases h with h | h | ⟨q,rest,h1,h2⟩
 ·exact .inl h
 ·exact .inr (.inl h)
 ·exact .inr (.inr ⟨q,rest,h1,(hg.get q (hn q _ h1)).trans h2⟩)
theorem w6 {env:List Bd} {rs:List Int} {t:AT} {i:Nat} {ks:List Rr} {x:AV} (ht:t.Ok) (hl:env.length<1000000) (hr:rs.length≤1000000) (hx:Rows σ 7 x (ks.map Rr.av)) (hxn:∀q n,x= .own q n→q<σ.next) (h0:i=1→0<ks.length)
 (hk:k (.tup [dt (aU env rs t i ks).1,aO (aU env rs t i ks).2]) σ):Ev PR 109 [dt env,aO rs,t.v,int i,x] σ k kp:=by
 refine Ev.bB hk ((zo _ _).low _) fun k' hk'=> ?_
 apply Av;unfold F109
 simp[an]
 have hxτ:Rows (σ.new (.cells 19 [t.av])) 7 x (ks.map Rr.av):=Rows.aP hx hxn (aq.new _ _)
 generalize hτ:σ.new (.cells 19 [t.av])=τ at hxτ
 have hg:aq σ τ:=by rw[←hτ];exact aq.new _ _
 have hn:τ.next=σ.next+1:=by rw[←hτ];rfl
 have g0:τ.get σ.next=some (.cells 19 [t.av]):=by rw[←hτ];simp[an]
 clear hτ
 have hrl:=kQ ht
 refine aM ?_
 by_cases c11:t.h.kind=11
 ·have e:aU env rs t i ks=(env++ [⟨t.h.arg,t.type,false,fE⟩],rs):=by unfold aU;rw[if_pos c11]
  rw[e]at hk'
  simp[c11,g0]
  refine jT (by omega) ?_
  exact hk' _ hg
 by_cases c12:t.h.kind=12
 ·by_cases i1:i=1
  ·have e:aU env rs t i ks=(env++ [⟨t.h.name,(r0 ks 0).t,false,fE⟩],rs):=by unfold aU;rw[if_neg c11,if_pos c12,if_pos i1]
   rw[e]at hk'
   obtain⟨p,hp,hat⟩:=rows0 hxτ (h0 i1)
   subst i1
   obtain⟨p',hp',hat'⟩:=hat.field 0
   simp[c12,g0,hp,hp']
   refine fJ (x:=(r0 ks 0).t.v) ?_ ?_
   ·rw[hat'.load];simp[b8,Rr.av]
   simp
   refine jT (by omega) ?_
   exact hk' _ hg
  ·have e:aU env rs t i ks=(env,rs):=by unfold aU;rw[if_neg c11,if_pos c12,if_neg i1]
   rw[e]at hk'
   have i1':¬((i:Int)=1):=by omega
   simp[c12,g0,i1']
   exact hk' _ hg
 by_cases c13:t.h.kind=13
 ·simp[c13,g0]
  refine xk (by omega) ?_
  by_cases i0:i=0
  ·have e:aU env rs t i ks=((env++ [⟨t.h.name,bU,true,t⟩])++ [⟨t.h.arg,t.type,false,fE⟩],rs++t.aH):=by unfold aU;rw[if_neg c11,if_neg c12,if_pos c13,if_pos i0]
   rw[e]at hk'
   simp[i0,g0]
   refine jT (by simp;omega) ?_
   simp[g0]
   refine nY (by omega) ?_
   have:=hk' _ hg
   simpa using this
  ·have e:aU env rs t i ks=(env++ [⟨t.h.name,bU,true,t⟩],rs):=by unfold aU;rw[if_neg c11,if_neg c12,if_pos c13,if_neg i0]
   rw[e]at hk'
   simp[i0]
   exact hk' _ hg
 by_cases c16:t.h.kind=16
 ·by_cases i1:i=1
  ·have e:aU env rs t i ks=(env++ [⟨t.h.arg,one,false,fE⟩],rs):=by unfold aU;rw[if_neg c11,if_neg c12,if_neg c13,if_pos c16,if_pos i1]
   rw[e]at hk'
   subst i1
   simp[c16,g0]
   refine vS ?_
   simp[g0]
   refine jT (by omega) ?_
   exact hk' _ hg
  ·have e:aU env rs t i ks=(env,rs):=by unfold aU;rw[if_neg c11,if_neg c12,if_neg c13,if_pos c16,if_neg i1]
   rw[e]at hk'
   have i1':¬((i:Int)=1):=by omega
   simp[c16,g0,i1']
   exact hk' _ hg
 by_cases c17:t.h.kind=17
 ·have e:aU env rs t i ks=(env,rs++ [t.rho]):=by unfold aU;rw[if_neg c11,if_neg c12,if_neg c13,if_neg c16,if_pos c17]
  rw[e]at hk'
  simp[c17,g0]
  have hK:fA σ.next 1 1 (τ.new (.cells 1 [[int t.rho]])) (.own τ.next 1) [[int t.rho]]:=nD _ (by omega)
  rw[hn]at hK
  refine fA.arg hK fun φ' h1 h2=> ?_
  refine nY (b:=[t.rho]) (by simp;omega) ?_
  exact hk' φ' (bW (hg.trans (aq.new _ _)) (fun j hj=>h1 j (by omega)) (by omega))
 ·have e:aU env rs t i ks=(env,rs):=by unfold aU;rw[if_neg c11,if_neg c12,if_neg c13,if_neg c16,if_neg c17]
  rw[e]at hk'
  simp[c11,c12,c13,c16,c17,g0]
  exact hk' _ hg
end Go.Abs.Chk
set_option linter.unusedVariables false
set_option linter.unusedSimpArgs false
set_option linter.deprecated false
namespace Go.Abs.Chk
open Go Go.Abs Go.Abs.At Go.Proofs.ChkD
attribute [local simp] Nat.add_assoc
variable {σ:ah} {k kp:AV→ah→Prop}
section
variable (b:Bd)
theorem bd_5:b.av[5]?=some (bool b.fn):=by obtain⟨nm,⟨_,_,_,_⟩,fn,f⟩:=b;rfl
theorem bd_t:List.take 4 (List.drop 1 b.av)=b.t.av:=by obtain⟨nm,⟨_,_,_,_⟩,fn,f⟩:=b;rfl
theorem bd_tt:List.take 4 b.av.tail=b.t.av:=by obtain⟨nm,⟨_,_,_,_⟩,fn,f⟩:=b;rfl
theorem DE:b.av[13]?=some (int b.f.rho):=by obtain⟨nm,⟨_,_,_,_⟩,fn,⟨_,_,_,_,⟨_,_,_,_⟩,⟨_,_,_,_⟩,_⟩⟩:=b;rfl
theorem DF:b.av[14]?=some (aO b.f.aH):=by obtain⟨nm,⟨_,_,_,_⟩,fn,⟨_,_,_,_,⟨_,_,_,_⟩,⟨_,_,_,_⟩,_⟩⟩:=b;rfl
theorem DG:b.av[15]?=some (aT b.f.eff):=by obtain⟨nm,⟨_,_,_,_⟩,fn,⟨_,_,_,_,⟨_,_,_,_⟩,⟨_,_,_,_⟩,_⟩⟩:=b;rfl
theorem bd_16:List.take 4 (List.drop 16 b.av)=b.f.type.av:=by obtain⟨nm,⟨_,_,_,_⟩,fn,⟨_,_,_,_,⟨_,_,_,_⟩,⟨_,_,_,_⟩,_⟩⟩:=b;rfl
theorem bd_20:List.take 4 (List.drop 20 b.av)=b.f.res.av:=by obtain⟨nm,⟨_,_,_,_⟩,fn,⟨_,_,_,_,⟨_,_,_,_⟩,⟨_,_,_,_⟩,_⟩⟩:=b;rfl
@[simp] theorem bd_5' (h:5<b.av.length):b.av[5]'h=bool b.fn:=nr (Option.some.inj ((List.getElem?_eq_getElem h).symm.trans (bd_5 b)))
@[simp] theorem bd_13' (h:13<b.av.length):b.av[13]'h=int b.f.rho:=nr (Option.some.inj ((List.getElem?_eq_getElem h).symm.trans (DE b)))
@[simp] theorem bd_14' (h:14<b.av.length):b.av[14]'h=aO b.f.aH:=nr (Option.some.inj ((List.getElem?_eq_getElem h).symm.trans (DF b)))
@[simp] theorem bd_15' (h:15<b.av.length):b.av[15]'h=aT b.f.eff:=nr (Option.some.inj ((List.getElem?_eq_getElem h).symm.trans (DG b)))
end
attribute [local simp] bd_5 bd_t bd_tt DE DF DG bd_16 bd_20
theorem ki {τ:ah} {D:Nat→Prop} {c:Bool} {sz:Nat} {xs:List (List AV)}:Fz τ D (.sl c sz xs) (.sl false sz xs):=
 .sl rfl (fun i el fl h1 h2=>by rw[h1]at h2;cases h2;rfl) (fun i el fl j x y h1 h2 h3 h4=>by rw[h1]at h2;cases h2;rw[h3]at h4;cases h4;exact .refl _)
def Dr (env:List Bd):Prop:=∀b∈env,Ok5 b.t∧(b.fn=true→b.f.Ok)
theorem wU {env:List Bd} {nm:ByteArray} {b:Bd} (h:fH env nm=some b):b∈env:=List.mem_reverse.1 (List.mem_of_find?_eq_some h)
theorem qA (fr to:List Int) (e:List Atom):(gA fr to e).length≤e.length:=by
 have:∀(e acc:List Atom),(e.foldl (fun o a=>if bL a=true then dc o (gO fr to a) else o) acc).length≤acc.length+e.length:=by
  intro e
  induction e with
  | nil=>intro acc;simp
  | cons a e ih=>
   intro acc
   simp only[List.foldl_cons,List.length_cons]
   refine Nat.le_trans (ih _) ?_
   split
   ·have:=@eG (gO fr to a) acc;omega
   ·omega
 simpa [gA] using this e []
theorem wv {env:List Bd} {t:AT} (ht:t.Ok) (hl:env.length<1000000) (he:Dr env) (hk:k (nj env t).v σ):Ev PR 108 [dt env,t.v] σ k kp:=by
 refine Ev.pure ?_
 apply Au;unfold F108
 simp[an]
 generalize hτ:ah.new _ (.cells 7 _)=τ
 have hg:aq σ τ:=by rw[←hτ];exact(aq.new _ _).trans (aq.new _ _)
 have hn:τ.next=σ.next+2:=by rw[←hτ];rfl
 have g0:τ.get σ.next=some (.cells 19 [t.av]):=by rw[←hτ];simp[an]
 have g1:τ.get (σ.next+1)=some (.cells 7 [[u8 0,int 0,bf,bf,bf,int 0,int 0]]):=by rw[←hτ];simp[an]
 clear hτ
 have hrl:=kQ ht
 have hel:=nU ht
 have fin:∀(r:Rr) (φ:ah),nj env t=r→aq σ φ→aq σ (φ.set (σ.next+1) (.cells 7 [r.av]))∧∃y,Frz (φ.set (σ.next+1) (.cells 7 [r.av])) σ.next (.agg r.av) y∧k y σ:=fun r φ e h=>⟨h.set (by omega) _,_,.low ((Dat.agg r.dat).low _),by rw[←e];exact hk⟩
 refine yH (by omega) ?_
 cases hf:fH env t.h.name with
 | none=>
  have e:nj env t=bad t 4:=by unfold nj;rw[hf]
  simp[g0]
  refine fK ?_
  simp[g1,au]
  exact fin _ _ e hg
 | some b=>
  intro i hi
  have hbm:=wU hf
  obtain⟨hbt,hbf⟩:=he b hbm
  have hia:∀ω,ak 25 (dt env) (int i) ω=some (.ref b.av):=fun ω=>by rw[aD];simp[hi]
  have hi0:¬((i:Int)<0):=by omega
  have z0:σ.next≠τ.next:=by omega
  have z1:σ.next+1≠τ.next:=by omega
  simp[hi0,hia,g0,an,au,z0]
  generalize hω:ah.set _ _ _=ω
  have og:aq τ ω:=by rw[←hω];exact(aq.new _ _).set (by omega) _
  have on:ω.next=τ.next+1:=by rw[←hω];simp
  have o0:ω.get σ.next=some (.cells 19 [t.av]):=(og.get _ (by omega)).trans g0
  have o1:ω.get (σ.next+1)=some (.cells 7 [[u8 0,int 0,bf,bf,bf,int 0,int 0]]):=(og.get _ (by omega)).trans g1
  have o2:ω.get τ.next=some (.cells 25 [b.av]):=by rw[←hω];simp[au]
  clear hω
  have hgo:=hg.trans og
  have hst:∀(n:Int),Ev PR 67 [t.v,int n] ω (fun t17 σ_1=>ab (aG (az 7 (.ptr (σ.next+1) 0 0) t17 σ_1)) fun _ σ_2=>aW (aj true 7 (.ptr (σ.next+1) 0 0) σ_2) fun r0=>(aq σ σ_2∧∃y,Frz σ_2 σ.next r0 y∧k y σ)) (fun _ _=>False)∨True:=fun _=>.inr trivial
  have hU:nj env t=(if t.h.kind=2 then if b.fn=true then bad t 5 else ⟨b.t,[],0,0⟩
   else if b.fn=false∨b.f.aH.length≠t.aH.length then bad t 5
   else if bx (gA b.f.aH t.aH b.f.eff) t.eff=false then bad t 6
   else ⟨.mk 4 t.rho t.eff [swapT b.f.aH t.aH b.f.type,swapT b.f.aH t.aH b.f.res],ofA [fL b.f.rho,putAt t.rho],0,0⟩):=by unfold nj;rw[hf]
  by_cases c2:t.h.kind=2
  ·rw[if_pos c2]at hU
   cases hfn:b.fn with
   | true=>
    rw[hfn,if_pos rfl]at hU
    simp[c2,o2,o0,hfn]
    refine fK ?_
    simp[o1,au]
    exact fin _ _ hU hgo
   | false=>
    rw[hfn,if_neg (by simp)]at hU
    simp[c2,o2,o0,hfn,o1,g1,an,au,on,z1]
    refine⟨(hgo.trans (aq.new _ _)).set (by omega) _,(⟨b.t,[],0,0⟩:Rr).v,?_,by rw[←hU];exact hk⟩
    show Frz _ _ _ (AV.agg (b.t.av++ [aT [],int 0,int 0]))
    have hrow:Frz _ σ.next (.own (τ.next+1) 0) (aT []):=Kid.eff (l:=[]) (m:=0) (υ:=(ω.new (.cells 3 [])).set (σ.next+1) (.cells 7 [b.t.av++ [.own (τ.next+1) 0,int 0,int 0]])) (.inr ⟨τ.next+1,[],rfl,by simp[au,an,on];omega,by omega,by simp[on]⟩)
    rw[iq]at hrow⊢
    exact dY.agg (.cons (.low ((Dat.val _).low _)) (.cons (.low ((Dat.val _).low _)) (.cons (.low ((gf _).low _)) (.cons (.low ((RT.uZ _).low _)) (.cons hrow (.cons (.low ((Dat.val _).low _)) (.cons (.low ((Dat.val _).low _)) .nil)))))))
  rw[if_neg c2]at hU
  cases hfn:b.fn with
  | false=>
   rw[hfn,if_pos (.inl rfl)]at hU
   simp[c2,o2,o0,hfn]
   refine fK ?_
   simp[o1,au]
   exact fin _ _ hU hgo
  | true=>
   have hF:=hbf hfn
   have hfr:=kQ hF
   have hfe:=nU hF
   have hlen:∀(l:List Int) ω,aE .slice (aO l) ω=some (int l.length):=fun l ω=>by simp[aO]
   by_cases c3:b.f.aH.length=t.aH.length
   ·rw[if_neg (by simp[hfn,c3])]at hU
    have hsl:=qA b.f.aH t.aH b.f.eff
    simp[c2,o2,o0,hfn,hlen,c3]
    refine mN (by omega) (by omega) (by omega) ?_
    simp[o0]
    refine gC (by omega) (by omega) ?_
    cases hw:bx (gA b.f.aH t.aH b.f.eff) t.eff with
    | false=>
     rw[hw,if_pos rfl]at hU
     simp[o0]
     refine fK ?_
     simp[o1,au]
     exact fin _ _ hU hgo
    | true=>
     rw[hw,if_neg (by simp)]at hU
     simp[o2,o0]
     refine po (by omega) (by omega) _ _ (Nat.le_refl _) (Ok5.of hF.type) _ _ _ ?_
     have ac4:∀x:RT,br x.v=some x.av:=fun _=>rfl
     have d4:∀x:RT,List.drop 4 x.av= []:=fun x=>List.drop_of_length_le (by simp)
     generalize ht1:swapT b.f.aH t.aH b.f.type=T1 at hU
     generalize ht2:swapT b.f.aH t.aH b.f.res=T2 at hU
     have z2:τ.next≠ω.next:=by omega
     have z3:σ.next≠ω.next:=by omega
     simp[ac4,d4,an,au,z2,z3,o2,o0]
     generalize hψ:ah.set _ ω.next _=ψ
     have pg:aq ω ψ:=by rw[←hψ];exact(aq.new _ _).set (Nat.le_refl _) _
     have pn:ψ.next=ω.next+1:=by rw[←hψ];simp
     have p0:=(pg.get _ (show σ.next<ω.next by omega)).trans o0
     have p1:=(pg.get _ (show σ.next+1<ω.next by omega)).trans o1
     have p2:=(pg.get _ (show τ.next<ω.next by omega)).trans o2
     have p3:ψ.get ω.next=some (.cells 4 [T1.av]):=by rw[←hψ];simp[au]
     clear hψ
     refine po (by omega) (by omega) _ _ (Nat.le_refl _) (Ok5.of hF.res) _ _ _ ?_
     rw[ht2]
     have z4:τ.next≠ψ.next:=by omega
     have z5:σ.next≠ψ.next:=by omega
     have z6:ω.next≠ψ.next:=by omega
     simp[ac4,d4,an,au,z4,z5,z6,p0,p2,p3]
     generalize hχ:ah.set _ ψ.next _=χ
     have xg:aq ψ χ:=by rw[←hχ];exact(aq.new _ _).set (Nat.le_refl _) _
     have xn:χ.next=ψ.next+1:=by rw[←hχ];simp
     have x0:=(xg.get _ (show σ.next<ψ.next by omega)).trans p0
     have x1:=(xg.get _ (show σ.next+1<ψ.next by omega)).trans p1
     have x2:=(xg.get _ (show τ.next<ψ.next by omega)).trans p2
     have x3:=(xg.get _ (show ω.next<ψ.next by omega)).trans p3
     have x4:χ.get ψ.next=some (.cells 4 [T2.av]):=by rw[←hχ];simp[au]
     clear hχ
     have hgx:=(hgo.trans pg).trans xg
     have l4:∀x:RT,x.v= .agg x.av:=fun _=>rfl
     refine Ev.iw (args':=[u8 4,int t.rho,aT t.eff,RT.vs [T1,T2]]) (.cons (.refl _) (.cons (.refl _) (.cons (.refl _) (.cons ki .nil)))) ?_
     refine nE ?_
     simp[x0,x2]
     refine jz ?_
     simp[x0]
     refine eZ ?_
     simp
     refine Ev.iw (args':=[aT [fL b.f.rho,putAt t.rho]]) (.cons ki .nil) ?_
     refine oQ (by simp) ?_
     generalize hT:RT.mk 4 t.rho t.eff [T1,T2]=T at hU
     generalize hE:ofA [fL b.f.rho,putAt t.rho]=E at hU
     have ea:T.av++ [aT E,int 0,int 0]=(⟨T,E,0,0⟩:Rr).av:=rfl
     have:=fin ⟨T,E,0,0⟩ χ hU hgx
     rw[th]at this
     simp only[iq]at this⊢
     simp[x1,au,hT,hE]
     exact this
   ·rw[if_pos (.inr c3)]at hU
    have c3':¬((b.f.aH.length:Int)=t.aH.length):=by omega
    simp[c2,o2,o0,hfn,hlen,c3,c3']
    refine fK ?_
    simp[o1,au]
    exact fin _ _ hU hgo
end Go.Abs.Chk
