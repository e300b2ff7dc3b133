import Derived.Test.YtjilebpcaemopaaGreatDoorAtermDecA
import Derived.Test.YtjilebpcaemopaaGreatDoorAtN
set_option linter.unusedVariables false
set_option linter.unusedSimpArgs false
namespace Go.Abs.At
open Go Go.Abs Go.Proofs.AtD
attribute [local simp] Nat.add_assoc
def kx (a b:Int):Int:=if a<b then -1 else if b<a then 1 else 0
theorem Cn {a b:Int} {σ:ah} {k kp:AV→ah→Prop} (hk:k (int (kx a b)) σ):Ev PR 165 [u8 a,u8 b] σ k kp:=by
 apply Bj;unfold F165
 apply vg;unfold Ef
 simp
 apply vg;unfold Ef
 simp
 have fin:∀v,kx a b=v→k (int v) σ:=fun v h=>by rw[←h];exact hk
 by_cases h1:a<b
 ·simp[h1];exact fin _ (by simp[kx,h1])
 ·by_cases h2:b<a
  ·simp[h1,h2];exact fin _ (by simp[kx,h1,h2])
  ·simp[h1,h2];exact fin _ (by simp[kx,h1,h2])
theorem Ck {a b:Int} {σ:ah} {k kp:AV→ah→Prop} (hk:k (int (kx a b)) σ):Ev PR 166 [int a,int b] σ k kp:=by
 apply Bk;unfold F166
 apply vj;unfold Eg
 simp
 apply vj;unfold Eg
 simp
 have fin:∀v,kx a b=v→k (int v) σ:=fun v h=>by rw[←h];exact hk
 by_cases h1:a<b
 ·simp[h1];exact fin _ (by simp[kx,h1])
 ·by_cases h2:b<a
  ·simp[h1,h2];exact fin _ (by simp[kx,h1,h2])
  ·simp[h1,h2];exact fin _ (by simp[kx,h1,h2])
def wo (a b:ByteArray):Bool:=match jM .gtr a b with | some (.bool t)=>t | _=>false
theorem x5 (a b:ByteArray):ar .gtr .prim (str a) (str b)=some (bool (wo a b)):=by
 rw[rN];simp[jM,wo]
def uc (a b:ByteArray):Int:=if strLt a b=true then -1 else if wo a b=true then 1 else 0
theorem Cm {a b:ByteArray} {σ:ah} {k kp:AV→ah→Prop} (hk:k (int (uc a b)) σ):Ev PR 167 [str a,str b] σ k kp:=by
 apply Bl;unfold F167
 apply vk;unfold Eh
 simp
 apply vk;unfold Eh
 simp[rM,x5]
 have fin:∀v,uc a b=v→k (int v) σ:=fun v h=>by rw[←h];exact hk
 cases h1:strLt a b
 ·cases h2:wo a b
  ·simp;exact fin _ (by simp[uc,h1,h2])
  ·simp;exact fin _ (by simp[uc,h1,h2])
 ·simp;exact fin _ (by simp[uc,h1])
def orM:List Int→Int
 | []=>0
 | a::l=>if a=0 then orM l else a
theorem Gi {l:List Int} {j:Nat} {x:Int} (h:l[j]?=some x) (hz:∀y∈l.take j,y=0) (hx:x≠0):orM l=x:=by
 induction l generalizing j with
 | nil=>simp at h
 | cons a l ih=>
  cases j with
  | zero=>simp at h;subst h;simp[orM,hx]
  | succ j=>
   have ha:a=0:=hz a (by simp)
   simp only[orM,ha,if_true]
   exact ih (by simpa using h) fun y hy=>hz y (by simp[hy])
theorem zk {l:List Int} (hz:∀y∈l,y=0):orM l=0:=by
 induction l with
 | nil=>rfl
 | cons a l ih=>
  simp only[orM,hz a (by simp),if_true]
  exact ih fun y hy=>hz y (by simp[hy])
theorem or_ev {l:List Int} {c:Bool} (hb:l.length<1000000000) {σ:ah} {k kp:AV→ah→Prop} (hk:k (int (orM l)) σ):Ev PR 164 [.sl c 1 (l.map fun r=>[int r])] σ k kp:=by
 apply Bi;unfold F164
 simp
 refine aM ?_
 refine aX (fun j:Nat=>[(3,int 0),(6,.sl c 1 (l.map fun r=>[int r])),(7,int l.length),(8,int j)]) (fun j φ=>φ=σ∧j≤l.length∧∀y∈l.take j,y=0) (fun fr _=>l.length - (intOf (aa fr 8)).toNat) 0 (by simp) ⟨rfl,by simp,by simp⟩ ?_
 rintro j φ ⟨rfl,hj,hz⟩
 simp
 by_cases hjl:j<l.length
 ·obtain⟨x,hx⟩:=get_some hjl
  have hix:∀ω,ak 1 (.sl c 1 (l.map fun r=>[int r])) (int j) ω=some (.ref [int x]):=fun ω=>by rw[aD];simp[hx]
  by_cases h0:x=0
  ·simp[hjl,hix,h0]
   rw[wrap64 (by omega)]
   refine⟨⟨j+1,by simp,by omega,fun y hy=> ?_⟩,by omega⟩
   rw[List.take_add_one,hx]at hy
   rcases List.mem_append.1 hy with h | h
   ·exact hz y h
   ·simp at h;subst h;exact h0
  ·simp[hjl,hix,h0]
   rw[Gi hx hz h0]at hk
   exact hk
 ·have hall:l.take j=l:=List.take_of_length_le (by omega)
  rw[hall]at hz
  simp[hjl]
  rw[zk hz]at hk
  exact hk
theorem Gh {a b c:Int} {σ:ah} {k kp:AV→ah→Prop} (hk:k (int (if a=0 then if b=0 then c else b else a)) σ):Ev PR 164 [.sl true 1 [[int a],[int b],[int c]]] σ k kp:=by
 refine or_ev (l:=[a,b,c]) (by simp) ?_
 have:orM [a,b,c]=if a=0 then if b=0 then c else b else a:=by
  simp only[orM]
  by_cases hc:c=0<;>simp[hc]
 rw[this];exact hk
def yv (a b:Atom):Int:=if kx a.kind b.kind=0 then if kx a.rho b.rho=0 then uc a.exn b.exn else kx a.rho b.rho else kx a.kind b.kind
theorem ue {a b:Atom} {σ:ah} {k kp:AV→ah→Prop} (hk:k (int (yv a b)) σ):Ev PR 121 [a.v,b.v] σ k kp:=by
 refine Ev.bB hk ((Dat.val _).low _) fun k' hk'=> ?_
 apply AE;unfold F121
 obtain⟨kd,rho,exn⟩:=a
 obtain⟨kd2,rho2,exn2⟩:=b
 simp[Atom.av]
 generalize hτ:ah.new _ _=τ
 have g0:τ.get σ.next=some (.cells 3 [[u8 kd,int rho,str exn]]):=by rw[←hτ];simp[an]
 have g1:τ.get (σ.next+1)=some (.cells 3 [[u8 kd2,int rho2,str exn2]]):=by rw[←hτ];simp[an]
 have hG:aq σ τ:=by rw[←hτ];exact(aq.new _ _).trans (aq.new _ _)
 clear hτ
 simp[g0,g1]
 refine Cn ?_
 simp[g0,g1]
 refine Ck ?_
 simp[g0,g1]
 refine Cm ?_
 simp
 refine Gh ?_
 exact hk' _ hG
theorem wP (a b:Atom):(0≤yv a b)↔ig a b=false:=by
 unfold yv ig kx uc
 by_cases h1:a.kind=b.kind
 ·rw[h1]
  simp only[Int.lt_irrefl,if_false,if_true]
  by_cases h2:a.rho=b.rho
  ·rw[h2]
   simp only[Int.lt_irrefl,if_false,if_true]
   cases h3:strLt a.exn b.exn
   ·simp only[Bool.false_eq_true,if_false,iff_true]
    split<;>omega
   ·simp
  ·simp only[h2,if_false]
   by_cases h4:a.rho<b.rho
   ·simp[h4]
   ·have:b.rho<a.rho:=by omega
    simp[h4,this]
 ·simp only[h1,if_false]
  by_cases h4:a.kind<b.kind
  ·simp[h4]
  ·have:b.kind<a.kind:=by omega
   simp[h4,this]
theorem p6 {e:List Atom} (hb:e.length<1000000000000) {σ:ah} {k kp:AV→ah→Prop} (hk:k (bool (bQ e)) σ):Ev PR 76 [aT e] σ k kp:=by
 refine Ev.bB hk ((Dat.val _).low _) fun k' hk'=> ?_
 apply E4;unfold F76
 have hlen:∀ω,aE .slice (aT e) ω=some (int e.length):=fun ω=>by simp[aT]
 simp[hlen]
 refine aM ?_
 have fin:∀v,bQ e=v→∀τ,aq σ τ→k' (bool v) τ:=fun v h τ hg=>by rw[←h];exact hk' _ hg
 refine aX (fun j:Nat=>[(0,aT e),(5,aT e),(6,int e.length),(7,int j)]) (fun j φ=>aq σ φ∧j≤e.length∧∀i,i<j→hZ e i=true) (fun fr _=>e.length - (intOf (aa fr 7)).toNat) 0 (by simp) ⟨aq.refl _,by simp,by simp⟩ ?_
 rintro j φ ⟨hG,hj,hall⟩
 simp
 by_cases hjl:j<e.length
 ·obtain⟨a,ha⟩:=get_some hjl
  simp[hjl,jx ha,Atom.mZ,an]
  generalize hτ:ah.set _ _ _=τ
  have g0:τ.get φ.next=some (.cells 3 [a.av]):=by rw[←hτ];simp[au]
  have hG2:aq σ τ:=by rw[←hτ];exact(hG.trans (aq.new _ _)).set hG.next _
  clear hτ
  refine Cd ?_
  cases h1:bL a
  ·simp
   exact fin _ (iF hjl (by simp[hZ,ha,h1])) _ hG2
  ·simp
   cases j with
   | zero=>
    simp
    refine⟨⟨1,by simp,hG2,by omega,fun i hi=> ?_⟩,by omega⟩
    obtain rfl:i=0:=by omega
    simp[hZ,ha,h1]
   | succ j=>
    obtain⟨b,hb2⟩:=get_some (l:=e) (i:=j) (by omega)
    have e1:((j:Int)+1 - 1)=j:=by omega
    have h0:(0:Int)<(j:Int)+1:=by omega
    simp[h0,e1,wrap64 (show -9223372036854775808≤(j:Int)∧(j:Int)≤9223372036854775807 by omega),jx hb2,g0,Atom.mZ]
    refine ue ?_
    have hcl:=wP b a
    cases h2:ig b a
    ·have:0≤yv b a:=hcl.2 h2
     simp[this]
     exact fin _ (iF hjl (by simp[hZ,ha,h1,hb2,h2])) _ hG2
    ·have:¬0≤yv b a:=fun h=>by rw[hcl.1 h]at h2;cases h2
     simp[this]
     rw[wrap64 (by omega)]
     refine⟨⟨j+1+1,by simp;omega,hG2,by omega,fun i hi=> ?_⟩,by omega⟩
     by_cases hi2:i<j+1
     ·exact hall i hi2
     ·obtain rfl:i=j+1:=by omega
      simp[hZ,ha,h1,hb2,h2]
 ·simp[hjl]
  exact fin _ (mL fun i hi=>hall i (by omega)) _ hG
theorem zF {t:RT} (hok:t.Ok) {σ:ah} {k kp:AV→ah→Prop} (hk:k (bool (cT t)) σ):Ev PR 170 [t.v] σ k kp:=by
 refine Ev.bB hk ((Dat.val _).low _) fun k' hk'=> ?_
 apply Bn;unfold F170
 have heff:=hok.eff
 have hlen:∀ω,aE .slice (RT.vs t.kids) ω=some (int t.kids.length):=fun ω=>by simp
 have hel:∀ω,aE .slice (aT t.eff) ω=some (int t.eff.length):=fun ω=>by simp[aT]
 simp
 generalize hτ:σ.new _=τ
 have g0:τ.get σ.next=some (.cells 4 [t.av]):=by rw[←hτ];simp[an]
 have hG:aq σ τ:=by rw[←hτ];exact aq.new _ _
 clear hτ
 have fin:∀v,cT t=v→k' (bool v) τ:=fun v h=>by rw[←h];exact hk' _ hG
 have e0:((t.eff.length:Int)=0)=(t.eff.length=0):=by simp
 have f0:((t.kids.length:Int)=0)=(t.kids.length=0):=by simp
 have f1:((t.kids.length:Int)=1)=(t.kids.length=1):=by simp;omega
 have f2:((t.kids.length:Int)=2)=(t.kids.length=2):=by simp;omega
 have em:t.eff.length=0→bQ t.eff=true:=fun h=>by simp[bQ,h]
 by_cases h1:t.kind=1
 ·by_cases h4:t.eff.length=0<;>by_cases h5:t.kids.length=0<;>by_cases h6:t.rho=0
  all_goals
   simp[g0,h1,h4,h5,h6,hlen,hel,e0,f0]
   refine fin _ ?_
  all_goals first
   | (have em':=em h4
      simp[cT,h1,h4,h5,h6,eO,em']
      done)
   | (simp[cT,h1,h4,h5,h6,eO]
      done)
   | (simp[cT,h1,h4,h5,h6,eO]
      omega)
 by_cases h2:t.kind=2
 ·by_cases h4:t.eff.length=0<;>by_cases h5:t.kids.length=2<;>by_cases h6:0≤t.rho
  all_goals
   simp[g0,h1,h2,h4,h5,h6,hlen,hel,e0,f2]
   refine fin _ ?_
  all_goals first
   | (have em':=em h4
      simp[cT,h2,h4,h5,h6,eO,em']
      done)
   | (simp[cT,h2,h4,h5,h6,eO]
      done)
   | (simp[cT,h2,h4,h5,h6,eO]
      omega)
 by_cases h3:t.kind=3
 ·by_cases h4:t.eff.length=0<;>by_cases h5:t.kids.length=1<;>by_cases h6:0≤t.rho
  all_goals
   simp[g0,h1,h2,h3,h4,h5,h6,hlen,hel,e0,f1]
   refine fin _ ?_
  all_goals first
   | (have em':=em h4
      simp[cT,h3,h4,h5,h6,eO,em']
      done)
   | (simp[cT,h3,h4,h5,h6,eO]
      done)
   | (simp[cT,h3,h4,h5,h6,eO]
      omega)
 by_cases h7:t.kind=4
 ·by_cases h6:0≤t.rho
  ·simp[g0,h1,h2,h3,h7,h6]
   refine p6 heff ?_
   cases h8:bQ t.eff<;>by_cases h5:t.kids.length=2
   all_goals
    simp[g0,h5,hlen,f2]
    exact fin _ (by simp[cT,h7,h5,h6,h8,eO])
  ·simp[g0,h1,h2,h3,h7,h6]
   exact fin _ (by simp[cT,h7,h6])
 ·simp[g0,h1,h2,h3,h7]
  exact fin _ (by
   have:¬(1≤t.kind∧t.kind≤4):=by omega
   by_cases a:1≤t.kind
   ·have b:¬t.kind≤4:=fun h=>this ⟨a,h⟩
    simp[cT,b]
   ·simp[cT,a])
theorem RT.size_eq (t:RT):t.size=1+RT.aI t.kids:=by cases t;rfl
theorem RT.ie (l:List RT):l.length≤RT.aI l:=by
 induction l with
 | nil=>simp
 | cons a l ih=>have:=a.size_pos;simp[RT.aI];omega
theorem zE:∀(N:Nat) (l:List RT),RT.aI l≤N→RT.aI l≤1000→(∀x∈l,x.Ok)→∀(σ:ah) (k kp:AV→ah→Prop),k (bool (RT.mh l)) σ→Ev PR 122 [RT.vs l] σ k kp:=by
 intro N
 induction N with
 | zero=>
  intro l hN _ hok σ k kp hk
  have:l= []:=by
   cases l with
   | nil=>rfl
   | cons a l=>have:=a.size_pos;simp[RT.aI]at hN;omega
  subst this
  refine Ev.bB hk ((Dat.val _).low _) fun k' hk'=> ?_
  apply vb;unfold D7
  apply vd;unfold Ec
  apply vn;unfold Ei
  simp
  refine aM ?_
  refine aX (fun _:Unit=>[(0,RT.vs []),(1,.fn (.func 169) []),(7,int 0),(8,int 0)]) (fun _ φ=>φ=σ) (fun _ _=>0) () (by simp[RT.avs]) rfl ?_
  rintro⟨⟩ φ rfl
  simp[RT.avs]
  exact hk' _ (aq.refl _)
 | succ N ih=>
  intro l hN hb hok σ k kp hk
  refine Ev.bB hk ((Dat.val _).low _) fun k' hk'=> ?_
  apply vb;unfold D7
  apply vd;unfold Ec
  apply vn;unfold Ei
  have hlen:∀ω,aE .slice (RT.vs l) ω=some (int l.length):=fun ω=>by simp
  have hll:=RT.ie l
  simp[hlen]
  refine aM ?_
  refine aX (fun j:Nat=>[(0,RT.vs l),(1,.fn (.func 169) []),(7,int l.length),(8,int j)]) (fun j ψ=>aq σ ψ∧j≤l.length∧∀(i:Nat) x,i<j→l[i]?=some x→x.may=true) (fun fr _=>l.length - (intOf (aa fr 8)).toNat) 0 (by simp) ⟨aq.refl _,by simp,by simp⟩ ?_
  rintro j ψ ⟨q1,hj,hall⟩
  simp
  by_cases hjl:j<l.length
  ·obtain⟨c,hc⟩:=get_some hjl
   have hcm:=List.mem_of_getElem? hc
   have hcl:=RT.dW hcm
   have hce:=c.size_eq
   have hix:∀ω,ak 4 (RT.vs l) (int j) ω=some (.ref c.av):=fun ω=>by rw[aD];simp[RT.cq hc]
   simp[hjl,hix]
   show Ev PR 169 _ _ _ _
   apply Bm;unfold F169
   simp[an]
   generalize hω:ψ.new _=ω
   have w0:ω.get ψ.next=some (.cells 4 [c.av]):=by rw[←hω];simp[an]
   have w1:aq σ ω:=by rw[←hω];exact q1.trans (aq.new _ _)
   clear hω
   refine zF (hok c hcm) ?_
   cases hcn:cT c
   ·simp
    have:=hk' _ w1
    rw[RT.rq hc (by rw[RT.mg,hcn];rfl)]at this
    exact this
   ·simp[w0]
    refine ih c.kids (by omega) (by omega) (fun x hx=>(hok c hcm).kid hx) _ _ _ ?_
    cases hck:RT.mh c.kids
    ·simp
     have:=hk' _ w1
     rw[RT.rq hc (by rw[RT.mg,hck,Bool.and_false])]at this
     exact this
    ·simp
     rw[wrap64 (by omega)]
     refine⟨⟨j+1,by simp,w1,by omega,fun i x hi hx=> ?_⟩,by omega⟩
     by_cases hi2:i<j
     ·exact hall i x hi2 hx
     ·obtain rfl:i=j:=by omega
      rw[hc]at hx;cases hx
      rw[RT.mg,hcn,hck];rfl
  ·simp[hjl]
   have:=hk' _ q1
   rw[RT.sN (fun i x hx=>hall i x (by have:=(List.getElem?_eq_some_iff.1 hx).1;omega) hx)]at this
   exact this
theorem RT.oa {τ:ah} {D:Nat→Prop} (t:RT):Fz τ D (.sl true 4 [t.av]) (RT.vs [t]):=by
 have e:RT.vs [t]= .sl false 4 [t.av]:=by simp[RT.avs]
 rw[e];exact Fz.clip
theorem sx {b:Bool} {t:RT} (hok:t.Ok) {σ:ah} {k kp:AV→ah→Prop} (hk:k (bool (if b=true then t.may else cR t)) σ):Ev PR 77 [bool b,t.v] σ k kp:=by
 refine Ev.bB hk ((Dat.val _).low _) fun k' hk'=> ?_
 apply E5;unfold F77
 have hlen:∀ω,aE .slice (RT.vs t.kids) ω=some (int t.kids.length):=fun ω=>by simp
 have hel:∀ω,aE .slice (aT t.eff) ω=some (int t.eff.length):=fun ω=>by simp[aT]
 have heff:=hok.eff
 have hkl:=t.ck
 have hsz:=hok.size
 simp
 generalize hτ:σ.new _=τ
 have g0:τ.get σ.next=some (.cells 4 [t.av]):=by rw[←hτ];simp[an]
 have hG:aq σ τ:=by rw[←hτ];exact aq.new _ _
 clear hτ
 cases b with
 | true=>
  simp[g0]
  refine Ev.iw (.cons (RT.oa t) .nil) ?_
  refine zE _ [t] (Nat.le_refl _) (by simp[RT.aI];omega) (fun x hx=>by simp at hx;subst hx;exact hok) _ _ _ ?_
  have e:RT.mh [t]=t.may:=by simp[RT.mh]
  rw[e]
  simpa using hk' _ hG
 | false=>
  have fin:∀v,cR t=v→k' (bool v) τ:=fun v h=>by rw[←h];simpa using hk' _ hG
  by_cases h1:t.kind=0<;>by_cases h2:t.rho=0
  ·have w:IntKind.i64.wrap ((t.eff.length:Int)+t.kids.length)=(t.eff.length:Int)+t.kids.length:=wrap64 (by omega)
   have e:decide ((t.eff.length:Int)+t.kids.length=0)=(decide (t.eff.length=0)&&decide (t.kids.length=0)):=by
    by_cases a:t.eff.length=0<;>by_cases b:t.kids.length=0<;>simp[a,b]<;>omega
   simp[g0,h1,h2,hlen,hel,w,e]
   exact fin _ (by simp[cR,h1,h2])
  ·simp[g0,h1,h2]
   exact fin _ (by simp[cR,h1,h2])
  ·simp[g0,h1,h2]
   exact fin _ (by simp[cR,h1,h2])
  ·simp[g0,h1,h2]
   exact fin _ (by simp[cR,h1,h2])
end Go.Abs.At
