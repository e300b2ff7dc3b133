import Derived.Test.YtjilebpcaemopaaGreatDoorAtermDecA
import Derived.Test.YtjilebpcaemopaaGreatDoorAtS
set_option linter.unusedVariables false
set_option linter.unusedSimpArgs false
namespace Go.Abs.At
open Go Go.Abs Go.Proofs.AtD
attribute [local simp] Nat.add_assoc
def bo (k:Int):Int:=
 if k=1∨k=2 then 0
 else if k=4∨k=5∨k=6∨k=7∨k=11∨k=15 then 1
 else if k=3∨k=8∨k=9∨k=10∨k=12∨k=13∨k=16 then 2
 else if k=14 then 3 else -1
theorem sH {n:Int} {σ:ah} {k kp:AV→ah→Prop} (hk:k (int (bo n)) σ):Ev PR 136 [u8 n] σ k kp:=by
 apply AO;unfold F136
 have fin:∀v,bo n=v→k (int v) σ:=fun v h=>by rw[←h];exact hk
 refine bw (fun fr υ=>fr= [(3,u8 n),(4,bool (decide (n=1∨n=2)))]∧υ=σ) ?_ ?_
 ·by_cases h1:n=1
  ·subst h1;simp
  ·by_cases h2:n=2
   ·subst h2;simp
   ·simp[h1,h2]
 ·rintro fr υ ⟨rfl,rfl⟩
  by_cases h1:n=1∨n=2
  ·simp[h1]
   exact fin _ (by simp[bo,h1])
  simp[h1]
  refine bw (fun fr φ=>fr= [(3,u8 n),(7,bool (decide (n=4∨n=5∨n=6∨n=7∨n=11∨n=15)))]∧φ=υ) ?_ ?_
  ·by_cases a:n=4<;>by_cases b:n=5<;>by_cases c:n=6<;>by_cases d:n=7<;>by_cases e:n=11<;>by_cases f:n=15<;>first | (exfalso;omega) | simp[a,b,c,d,e,f]
  ·rintro fr φ ⟨rfl,rfl⟩
   by_cases h2:n=4∨n=5∨n=6∨n=7∨n=11∨n=15
   ·simp[h2]
    exact fin _ (by unfold bo;rw[if_neg h1,if_pos h2])
   simp[h2]
   refine bw (fun fr ψ=>fr= [(3,u8 n),(14,bool (decide (n=3∨n=8∨n=9∨n=10∨n=12∨n=13∨n=16)))]∧ψ=φ) ?_ ?_
   ·by_cases a:n=3
    ·subst a;simp
    by_cases b:n=8
    ·subst b;simp
    by_cases c:n=9
    ·subst c;simp
    by_cases d:n=10
    ·subst d;simp
    by_cases e:n=12
    ·subst e;simp
    by_cases f:n=13
    ·subst f;simp
    simp[a,b,c,d,e,f]
   ·rintro fr ψ ⟨rfl,rfl⟩
    by_cases h3:n=3∨n=8∨n=9∨n=10∨n=12∨n=13∨n=16
    ·simp[h3]
     exact fin _ (by unfold bo;rw[if_neg h1,if_neg h2,if_pos h3])
    simp[h3]
    by_cases h4:n=14
    ·simp[h4]
     exact fin _ (by unfold bo;rw[if_neg h1,if_neg h2,if_neg h3,if_pos h4])
    ·simp[h4]
     exact fin _ (by unfold bo;rw[if_neg h1,if_neg h2,if_neg h3,if_neg h4])
def gE (there:Bool) (s:ByteArray) (ok:Bool):Bool:=if there=true then ok else decide (s=ByteArray.empty)
theorem ow {b ok:Bool} {s:ByteArray} {σ:ah} {k kp:AV→ah→Prop} (hk:k (bool (gE b s ok)) σ):Ev PR 137 [bool b,str s,bool ok] σ k kp:=by
 apply AP;unfold F137
 cases b<;>cases ok<;>by_cases h:s=ByteArray.empty<;>simp[h,empty_eq]<;>simpa [gE,h] using hk
def dT:List ByteArray:=[⟨#[108,101,116]⟩,⟨#[108,101,116,114,101,99]⟩,⟨#[105,110]⟩,⟨#[102,110]⟩,⟨#[105,102]⟩,⟨#[116,104,101,110]⟩,⟨#[101,108,115,101]⟩,⟨#[114,97,105,115,101]⟩,⟨#[116,114,121]⟩,⟨#[119,105,116,104]⟩,⟨#[114,101,102]⟩,⟨#[102,115,116]⟩,⟨#[115,110,100]⟩,⟨#[101,120,110]⟩]
def cJ (s:ByteArray):Bool:=bX s 3&& !dT.any fun b=>decide (b=s)
theorem jB (s:ByteArray):(dT.any fun b=>decide (b=s))=true↔s∈dT:=by simp
theorem sF {s:ByteArray} {σ:ah} {k kp:AV→ah→Prop} (hk:∀n:Int,(n=0↔s∉dT)→k (int n) σ):Ev PR 135 [str s] σ k kp:=by
 refine Ev.jc ?_
 apply AN;unfold F135
 apply Br;unfold F174
 refine fJ (x:=.sl true 1 (dT.map fun b=>[str b])) rfl ?_
 refine aM ?_
 have hlen:dT.length=14:=rfl
 simp[hlen]
 refine aX (fun j:Nat=>[(0,str s),(3,.sl true 1 (dT.map fun b=>[str b])),(7,int 14),(8,int j)]) (fun j φ=>φ=σ∧j≤14∧s∉dT.take j) (fun fr _=>14 - (intOf (aa fr 8)).toNat) 0 (by simp) ⟨rfl,by simp,by simp⟩ ?_
 rintro j φ ⟨rfl,hj,hne⟩
 simp
 by_cases hjl:j<14
 ·obtain⟨t,ht⟩:=get_some (l:=dT) (i:=j) (by omega)
  have hix:∀ω,ak 1 (.sl true 1 (dT.map fun b=>[str b])) (int j) ω=some (.ref [str t]):=fun ω=>by rw[aD];simp[ht]
  have hjl':(j:Int)<14:=by omega
  simp[hjl',hix]
  by_cases hc:t=s
  ·subst hc
   simp
   rw[wrap64 (by omega)]
   exact⟨aq.refl _,.val _,hk _ ⟨fun h=>by omega,fun h=>absurd (List.mem_of_getElem? ht) h⟩⟩
  ·simp[hc]
   rw[wrap64 (by omega)]
   refine⟨⟨j+1,by simp,by omega,fun h=> ?_⟩,by omega⟩
   rw[List.take_add_one,ht]at h
   rcases List.mem_append.1 h with h | h
   ·exact hne h
   ·simp at h;exact hc h.symm
 ·have hall:dT.take j=dT:=List.take_of_length_le (by omega)
  rw[hall]at hne
  have hjl':¬(j:Int)<14:=by omega
  simp[hjl']
  exact⟨aq.refl _,.val _,hk 0 ⟨fun _=>hne,fun _=>rfl⟩⟩
theorem oM {s:ByteArray} {σ:ah} {k kp:AV→ah→Prop} (hk:k (bool (cJ s)) σ):Ev PR 103 [str s] σ k kp:=by
 apply Ao;unfold F103
 have fin:∀v,cJ s=v→k (bool v) σ:=fun v h=>by rw[←h];exact hk
 refine qv ?_
 cases h:bX s 3
 ·simp
  exact fin _ (by simp[cJ,h])
 ·simp
  refine sF fun n hn=> ?_
  by_cases h0:n=0
  ·simp[h0]
   exact fin _ (by
    have:(dT.any fun b=>decide (b=s))=false:=Bool.eq_false_iff.2 fun hh=>hn.1 h0 ((jB s).1 hh)
    simp only[cJ,h,this];rfl)
  ·have:s∈dT:=Classical.byContradiction fun hh=>h0 (hn.2 hh)
   simp[h0]
   exact fin _ (by simp only[cJ,h,(jB s).2 this];rfl)
def strLt (a b:ByteArray):Bool:=match jM .lss a b with | some (.bool t)=>t | _=>false
theorem rM (a b:ByteArray):ar .lss .prim (str a) (str b)=some (bool (strLt a b)):=by
 rw[rN];simp[jM,strLt]
def ig (a b:Atom):Bool:=if a.kind=b.kind then if a.rho=b.rho then strLt a.exn b.exn else decide (a.rho<b.rho) else decide (a.kind<b.kind)
theorem oH {a b:Atom} {σ:ah} {k kp:AV→ah→Prop} (hk:k (bool (ig a b)) σ):Ev PR 106 [a.v,b.v] σ k kp:=by
 refine Ev.bB hk ((Dat.val _).low _) fun k' hk'=> ?_
 apply Ar;unfold F106
 obtain⟨kd,rho,exn⟩:=a
 obtain⟨kd2,rho2,exn2⟩:=b
 simp[Atom.av]
 generalize hτ:ah.new _ _=τ
 have g0:τ.get σ.next=some (.cells 3 [[u8 kd,int rho,str exn]]):=by rw[←hτ];simp[an]
 have g1:τ.get (σ.next+1)=some (.cells 3 [[u8 kd2,int rho2,str exn2]]):=by rw[←hτ];simp[an]
 have hG:aq σ τ:=by rw[←hτ];exact(aq.new _ _).trans (aq.new _ _)
 clear hτ
 have fin:∀v,ig ⟨kd,rho,exn⟩ ⟨kd2,rho2,exn2⟩=v→k' (bool v) τ:=fun v h=>by rw[←h];exact hk' _ hG
 by_cases h1:kd=kd2
 ·by_cases h2:rho=rho2
  ·simp[g0,g1,h1,h2,rM]
   exact fin _ (by simp[ig,h1,h2])
  ·simp[g0,g1,h1,h2]
   exact fin _ (by simp[ig,h1,h2])
 ·simp[g0,g1,h1]
  exact fin _ (by simp[ig,h1])
def hZ (e:List Atom) (i:Nat):Bool:=match e[i]? with
 | none=>true
 | some a=>bL a&&match i with
  | 0=>true
  | i+1=>match e[i]? with
   | none=>true
   | some b=>ig b a
def bQ (e:List Atom):Bool:=(List.range e.length).all (hZ e)
theorem mL {e:List Atom} (h:∀i,i<e.length→hZ e i=true):bQ e=true:=List.all_eq_true.2 fun i hi=>h i (List.mem_range.1 hi)
theorem iF {e:List Atom} {i:Nat} (hi:i<e.length) (h:hZ e i=false):bQ e=false:=by
 cases hh:bQ e
 ·rfl
 ·have:=List.all_eq_true.1 hh i (List.mem_range.2 hi)
  rw[h]at this;cases this
theorem oe {e:List Atom} (hb:e.length<1000000000000) {σ:ah} {k kp:AV→ah→Prop} (hk:k (bool (bQ e)) σ):Ev PR 62 [aT e] σ k kp:=by
 apply ER;unfold F62
 have fin:∀v,bQ e=v→k (bool v) σ:=fun v h=>by rw[←h];exact hk
 have hlen:∀ω,aE .slice (aT e) ω=some (int e.length):=fun ω=>by simp[aT]
 simp[hlen]
 refine aM ?_
 refine aX (fun j:Nat=>[(0,aT e),(5,int e.length),(6,int j)]) (fun j φ=>φ=σ∧j≤e.length∧∀i,i<j→hZ e i=true) (fun fr _=>e.length - (intOf (aa fr 6)).toNat) 0 (by simp) ⟨rfl,by simp,by simp⟩ ?_
 rintro j φ ⟨rfl,hj,hall⟩
 simp
 by_cases hjl:j<e.length
 ·obtain⟨a,ha⟩:=get_some hjl
  simp[hjl,jx ha,Atom.mZ]
  refine fW ?_
  cases h1:bL a
  ·simp
   exact fin _ (iF hjl (by simp[hZ,ha,h1]))
  ·simp
   cases j with
   | zero=>
    simp
    refine⟨⟨1,by simp,by omega,fun i hi=> ?_⟩,by omega⟩
    obtain rfl:i=0:=by omega
    simp[hZ,ha,h1]
   | succ j=>
    obtain⟨b,hb2⟩:=get_some (l:=e) (i:=j) (by omega)
    have ha':=jx ha φ
    have e1:((j:Int)+1 - 1)=j:=by omega
    have h0:(0:Int)<(j:Int)+1:=by omega
    simp only[Int.natCast_add,Int.cast_ofNat_Int]at ha'
    simp[h0,e1,wrap64 (show -9223372036854775808≤(j:Int)∧(j:Int)≤9223372036854775807 by omega),jx hb2,ha',Atom.mZ]
    refine oH ?_
    cases h2:ig b a
    ·simp
     exact fin _ (iF hjl (by simp[hZ,ha,h1,hb2,h2]))
    ·simp
     rw[wrap64 (by omega)]
     refine⟨⟨j+1+1,by simp;omega,by omega,fun i hi=> ?_⟩,by omega⟩
     by_cases hi2:i<j+1
     ·exact hall i hi2
     ·obtain rfl:i=j+1:=by omega
      simp[hZ,ha,h1,hb2,h2]
 ·simp[hjl]
  exact fin _ (mL fun i hi=>hall i (by omega))
def eO (k:Int):Nat:=if k=2∨k=4 then 2 else if k=3 then 1 else 0
def cT (t:RT):Bool:=decide (1≤t.kind)&&decide (t.kind≤4)&&decide (t.kids.length=eO t.kind)&&decide (0≤t.rho)&& !(decide (t.kind=1)&&decide (0<t.rho))&& !(!decide (t.kind=4)&&decide (0<t.eff.length))&&bQ t.eff
mutual
def RT.may:RT→Bool
 | .mk k r e ks=>cT (.mk k r e ks)&&RT.mh ks
def RT.mh:List RT→Bool
 | []=>true
 | t::ts=>RT.may t&&RT.mh ts
end
theorem RT.mg (t:RT):t.may=(cT t&&RT.mh t.kids):=by cases t;simp[RT.may,RT.kids]
theorem RT.sL (l:List RT):RT.mh l=l.all RT.may:=by
 induction l with
 | nil=>rfl
 | cons t l ih=>simp[RT.mh,ih]
theorem RT.rq {l:List RT} {i:Nat} {t:RT} (hi:l[i]?=some t) (h:t.may=false):RT.mh l=false:=by
 rw[RT.sL]
 cases hh:l.all RT.may
 ·rfl
 ·have:=List.all_eq_true.1 hh t (List.mem_of_getElem? hi)
  rw[h]at this;cases this
theorem RT.sN {l:List RT} (h:∀(i:Nat) t,l[i]?=some t→t.may=true):RT.mh l=true:=by
 rw[RT.sL]
 refine List.all_eq_true.2 fun t ht=> ?_
 obtain⟨i,hi⟩:=List.getElem?_of_mem ht
 exact h i t hi
theorem td:∀(N:Nat) (t:RT),t.size≤N→t.Ok→∀(σ:ah) (k kp:AV→ah→Prop),k (bool t.may) σ→Ev PR 63 [t.v] σ k kp:=by
 intro N
 induction N with
 | zero=>intro t h;have:=t.size_pos;omega
 | succ N ih=>
  intro t hN hok σ k kp hk
  refine Ev.bB hk ((Dat.val _).low _) fun k' hk'=> ?_
  apply ES;unfold F63
  have heff:=hok.eff
  have hkl:=t.ck
  have hsz:=hok.size
  have hlen:∀ω,aE .slice (RT.vs t.kids) ω=some (int t.kids.length):=fun ω=>by simp
  have hel:∀ω,aE .slice (aT t.eff) ω=some (int t.eff.length):=fun ω=>by simp[aT]
  simp
  generalize hτ:σ.new _=τ
  have g0:τ.get σ.next=some (.cells 4 [t.av]):=by rw[←hτ];simp[an]
  have hG:aq σ τ:=by rw[←hτ];exact aq.new _ _
  clear hτ
  have fin:∀v,t.may=v→k' (bool v) τ:=fun v h=>by rw[←h];exact hk' _ hG
  have no:cT t=false→k' (bool false) τ:=fun h=>fin _ (by rw[RT.mg,h];rfl)
  refine bw (fun fr υ=>fr= [(1,.ptr σ.next 0 0),(3,int (if t.kind=2∨t.kind=4 then 2 else 0))]∧υ=τ) ?_ ?_
  ·by_cases h1:t.kind=2<;>by_cases h2:t.kind=4<;>simp[g0,h1,h2]
  ·rintro fr υ ⟨rfl,rfl⟩
   simp[g0]
   refine bw (fun fr φ=>fr= [(1,.ptr σ.next 0 0),(3,int (eO t.kind))]∧φ=υ) ?_ ?_
   ·by_cases h1:t.kind=3
    ·simp[h1,eO]
    ·simp[h1,eO]
     split<;>rfl
   ·rintro fr φ ⟨rfl,rfl⟩
    simp[g0]
    by_cases h1:t.kind<1
    ·simp[h1]
     exact no (by simp[cT];omega)
    by_cases h2:4<t.kind
    ·simp[h1,h2,g0]
     exact no (by simp[cT];omega)
    by_cases h3:t.kids.length=eO t.kind
    case neg=>
     have h3':¬((t.kids.length:Int)=eO t.kind):=by omega
     simp[h1,h2,g0,hlen,h3']
     exact no (by simp[cT,h3])
    by_cases h4:t.rho<0
    ·simp[h1,h2,g0,hlen,h3,h4]
     exact no (by simp[cT];omega)
    by_cases h5:t.kind=1<;>by_cases h6:0<t.rho<;>by_cases h7:t.kind=4<;>by_cases h8:0<t.eff.length
    all_goals first
     | (exfalso;omega)
     | (simp[h1,h2,g0,hlen,hel,h3,h4,h5,h6,h7,h8];exact no (by simp[cT,h5,h6,h7,h8];done))
     | skip
    all_goals
     have hp:cT t=bQ t.eff:=by
      have a1:1≤t.kind:=by omega
      have a2:t.kind≤4:=by omega
      have a3:0≤t.rho:=by omega
      simp only[cT,a1,a2,h3,a3,h5,h6,h7,h8];simp
     simp[h1,h2,g0,hlen,hel,h3,h4,h5,h6,h7,h8]
     refine oe heff ?_
     cases he:bQ t.eff
     ·simp
      exact no (by rw[hp,he])
     ·simp[g0,hlen]
      refine aM ?_
      refine aX (fun j:Nat=>[(1,.ptr σ.next 0 0),(65,int t.kids.length),(66,int j)]) (fun j ψ=>aq σ ψ∧ψ.get σ.next=some (.cells 4 [t.av])∧j≤t.kids.length∧∀(i:Nat) x,i<j→t.kids[i]?=some x→x.may=true) (fun fr _=>t.kids.length - (intOf (aa fr 66)).toNat) 0 (by simp[h3]) ⟨hG,g0,by simp,by simp⟩ ?_
      rintro j ψ ⟨q1,q2,hj,hall⟩
      simp
      by_cases hjl:j<t.kids.length
      ·obtain⟨c,hc⟩:=get_some hjl
       have hcm:=List.mem_of_getElem? hc
       have hcl:=RT.dk hcm
       have hix:∀ω,ak 4 (RT.vs t.kids) (int j) ω=some (.ref c.av):=fun ω=>by rw[aD];simp[RT.cq hc]
       simp[hjl,q2,hix]
       refine ih c (by omega) (hok.kid hcm) _ _ _ ?_
       cases hcv:c.may
       ·simp
        have:=hk' _ q1
        rw[RT.mg,RT.rq hc hcv,Bool.and_false]at this
        exact this
       ·simp
        rw[wrap64 (by omega)]
        refine⟨⟨j+1,by simp,q1,q2,by omega,fun i x hi hx=> ?_⟩,by omega⟩
        by_cases hi2:i<j
        ·exact hall i x hi2 hx
        ·obtain rfl:i=j:=by omega
         rw[hc]at hx;cases hx;exact hcv
      ·simp[hjl]
       have:=hk' _ q1
       rw[RT.mg,hp,he,RT.sN (fun i x hx=>hall i x (by have:=(List.getElem?_eq_some_iff.1 hx).1;omega) hx)]at this
       exact this
theorem jD {k:Int} (h:0≤bo k):k=1∨k=2∨k=3∨k=4∨k=5∨k=6∨k=7∨k=8∨k=9∨k=10∨k=11∨k=12∨k=13∨k=14∨k=15∨k=16:=by
 unfold bo at h
 split at h
 ·omega
 ·split at h
  ·omega
  ·split at h
   ·omega
   ·split at h<;>omega
def bJ (h:Head) (n:Nat):Bool:=
 decide (0≤bo h.kind)&&decide ((n:Int)=bo h.kind)&&decide (0≤h.pos)
 &&(if h.kind=9 then decide (1≤h.op)&&decide (h.op≤5) else decide (h.op=0))
 &&(decide (0≤h.n)&&decide (h.n≤2147483647)&&(decide (h.kind=1)||decide (h.n=0)))
 &&gE (decide (h.kind=2∨h.kind=12∨h.kind=13)) h.name (cJ h.name)
 &&gE (decide (h.kind=11∨h.kind=13∨h.kind=16)) h.arg (cJ h.arg)
 &&gE (decide (h.kind=15∨h.kind=16)) h.exn (bX h.exn 4)
theorem xJ {t:T} (hb:t.size<1000000000000) {σ:ah} {k kp:AV→ah→Prop} (hk:k (bool (bJ t.h t.kids.length)) σ):Ev PR 104 [t.v] σ k kp:=by
 refine Ev.bB hk ((Dat.val _).low _) fun k' hk'=> ?_
 apply Ap;unfold F104
 have hkl:=t.ck
 have hlen:∀ω,aE .slice (T.vs t.kids) ω=some (int t.kids.length):=fun ω=>by simp
 simp
 generalize hτ:σ.new _=τ
 have g0:τ.get σ.next=some (.cells 8 [t.av]):=by rw[←hτ];simp[an]
 have hG:aq σ τ:=by rw[←hτ];exact aq.new _ _
 clear hτ
 have fin:∀v,bJ t.h t.kids.length=v→k' (bool v) τ:=fun v h=>by rw[←h];exact hk' _ hG
 refine sH ?_
 by_cases h1:bo t.h.kind<0
 ·simp[h1]
  exact fin _ (by have:¬0≤bo t.h.kind:=by omega
                  simp[bJ,this])
 have h1':0≤bo t.h.kind:=by omega
 simp[h1,g0,hlen]
 refine sH ?_
 simp
 by_cases h2:(t.kids.length:Int)=bo t.h.kind
 case neg=>
  simp[h2,g0,hlen]
  exact fin false (by simp[bJ,h2])
 by_cases h3:t.h.pos<0
 ·simp[h2,h3,g0]
  exact fin _ (by have:¬0≤t.h.pos:=by omega
                  simp[bJ,this])
 have h3':0≤t.h.pos:=by omega
 by_cases h4:(if t.h.kind=9 then decide (1≤t.h.op)&&decide (t.h.op≤5) else decide (t.h.op=0))=true
 case neg=>
  have no:k' (bool false) τ:=fin _ (by simp only[bJ];rw[Bool.eq_false_iff.2 h4];simp)
  by_cases h9:t.h.kind=9
  ·rw[if_pos h9]at h4
   by_cases h5:t.h.op<1
   ·simp[h2,h3,g0,h9,h5];exact no
   ·have h6:5<t.h.op:=by
     refine Classical.byContradiction fun h=>h4 ?_
     have a1:1≤t.h.op:=by omega
     have a2:t.h.op≤5:=by omega
     simp[a1,a2]
    simp[h2,h3,g0,h9,h5,h6];exact no
  ·rw[if_neg h9]at h4
   have h5:¬t.h.op=0:=by simpa using h4
   simp[h2,h3,g0,h9,h5];exact no
 by_cases h7:(decide (0≤t.h.n)&&decide (t.h.n≤2147483647)&&(decide (t.h.kind=1)||decide (t.h.n=0)))=true
 case neg=>
  have no:k' (bool false) τ:=fin _ (by simp only[bJ];rw[Bool.eq_false_iff.2 h7];simp)
  by_cases h9:t.h.kind=9
  ·rw[if_pos h9]at h4
   simp only[Bool.and_eq_true,decide_eq_true_eq]at h4
   have h5:¬t.h.op<1:=by omega
   have h6:¬5<t.h.op:=by omega
   by_cases h10:t.h.n<0
   ·simp[h2,h3,g0,h9,h5,h6,h10];exact no
   by_cases h11:2147483647<t.h.n
   ·simp[h2,h3,g0,h9,h5,h6,h10,h11];exact no
   have h12:¬t.h.n=0:=fun h=>h7 (by simp[h])
   simp[h2,h3,g0,h9,h5,h6,h10,h11,h12];exact no
  ·rw[if_neg h9]at h4
   have h5:t.h.op=0:=by simpa using h4
   by_cases h10:t.h.n<0
   ·simp[h2,h3,g0,h9,h5,h10];exact no
   by_cases h11:2147483647<t.h.n
   ·simp[h2,h3,g0,h9,h5,h10,h11];exact no
   have a1:0≤t.h.n:=by omega
   have a2:t.h.n≤2147483647:=by omega
   have h12:¬t.h.n=0:=fun h=>h7 (by simp[h])
   have h13:¬t.h.kind=1:=fun h=>h7 (by simp[h,a1,a2])
   simp[h2,h3,g0,h9,h5,h10,h11,h12,h13];exact no
 have hM:bJ t.h t.kids.length=(gE (decide (t.h.kind=2∨t.h.kind=12∨t.h.kind=13)) t.h.name (cJ t.h.name)
  &&gE (decide (t.h.kind=11∨t.h.kind=13∨t.h.kind=16)) t.h.arg (cJ t.h.arg)
  &&gE (decide (t.h.kind=15∨t.h.kind=16)) t.h.exn (bX t.h.exn 4)):=by
  simp only[bJ,h1',h2,h3',h4,h7];simp
 rw[hM]at fin
 clear hM
 simp only[Bool.and_eq_true,Bool.or_eq_true,decide_eq_true_eq]at h7
 obtain⟨⟨h10,h11⟩,h12⟩:=h7
 have h10':¬t.h.n<0:=by omega
 have h11':¬2147483647<t.h.n:=by omega
 rcases jD h1' with h | h | h | h | h | h | h | h | h | h | h | h | h | h | h | h
 all_goals
  simp[h]at h4 h12 fin
  first
   | (have n1:¬t.h.op<1:=by omega
      have n2:¬5<t.h.op:=by omega
      simp[h2,h3,g0,h,n1,n2,h10',h11',h12])
   | simp[h2,h3,g0,h,h4,h10',h11',h12]
  refine oM ?_
  simp[g0]
  refine ow ?_
  cases e1:gE _ t.h.name (cJ t.h.name)
  ·rw[e1]at fin
   simp
   simpa using fin
  rw[e1]at fin
  simp[g0]
  refine oM ?_
  simp[g0]
  refine ow ?_
  cases e2:gE _ t.h.arg (cJ t.h.arg)
  ·rw[e2]at fin
   simp
   simpa using fin
  rw[e2]at fin
  simp[g0]
  refine vD ?_
  simp[g0]
  refine ow ?_
  simpa using fin
end Go.Abs.At
set_option linter.unusedVariables false
set_option linter.unusedSimpArgs false
namespace Go.Abs.At
open Go Go.Abs Go.Proofs.AtD
attribute [local simp] Nat.add_assoc
theorem in_u8 {l:List Int} {n:Int} {c:Bool} (hb:l.length<1000000000000) {σ:ah} {k kp:AV→ah→Prop} (hk:k (bool (decide (n∈l))) σ):Ev PR 61 [.sl c 1 (l.map fun b=>[u8 b]),u8 n] σ k kp:=by
 apply EP;unfold F61
 simp
 refine aM ?_
 refine aX (fun j:Nat=>[(0,.sl c 1 (l.map fun b=>[u8 b])),(1,u8 n),(7,int l.length),(8,int j)]) (fun j φ=>φ=σ∧j≤l.length∧n∉l.take j) (fun fr _=>l.length - (intOf (aa fr 8)).toNat) 0 (by simp) ⟨rfl,by simp,by simp⟩ ?_
 rintro j φ ⟨rfl,hj,hne⟩
 simp
 by_cases hjl:j<l.length
 ·obtain⟨t,ht⟩:=get_some hjl
  have hix:∀ω,ak 1 (.sl c 1 (l.map fun b=>[u8 b])) (int j) ω=some (.ref [u8 t]):=fun ω=>by rw[aD];simp[ht]
  simp[hjl,hix]
  by_cases hc:t=n
  ·subst hc
   simp
   have e:decide (t∈l)=true:=decide_eq_true (List.mem_of_getElem? ht)
   rw[e]at hk
   exact hk
  ·simp[hc]
   rw[wrap64 (by omega)]
   refine⟨⟨j+1,by simp,by omega,fun h=> ?_⟩,by omega⟩
   rw[List.take_add_one,ht]at h
   rcases List.mem_append.1 h with h | h
   ·exact hne h
   ·simp at h;exact hc h.symm
 ·have hall:l.take j=l:=List.take_of_length_le (by omega)
  rw[hall]at hne
  simp[hjl]
  have e:decide (n∈l)=false:=decide_eq_false hne
  rw[e]at hk
  exact hk
def cR (t:RT):Bool:=decide (t.kind=0)&&decide (t.rho=0)&&decide (t.eff.length=0)&&decide (t.kids.length=0)
theorem qg {t:RT} {σ:ah} {k kp:AV→ah→Prop} (hk:k (bool (cR t)) σ):Ev PR 64 [t.v] σ k kp:=by
 refine Ev.bB hk ((Dat.val _).low _) fun k' hk'=> ?_
 apply ET;unfold F64
 have hlen:∀ω,aE .slice (RT.vs t.kids) ω=some (int t.kids.length):=fun ω=>by simp
 have hel:∀ω,aE .slice (aT t.eff) ω=some (int t.eff.length):=fun ω=>by simp[aT]
 simp
 generalize hτ:σ.new _=τ
 have g0:τ.get σ.next=some (.cells 4 [t.av]):=by rw[←hτ];simp[an]
 have hG:aq σ τ:=by rw[←hτ];exact aq.new _ _
 clear hτ
 have fin:∀v,cR t=v→k' (bool v) τ:=fun v h=>by rw[←h];exact hk' _ hG
 by_cases h1:t.kind=0<;>by_cases h2:t.rho=0<;>by_cases h3:t.eff.length=0<;>by_cases h4:t.kids.length=0
 all_goals
  have e3:((t.eff.length:Int)=0)=(t.eff.length=0):=by simp
  have e4:((t.kids.length:Int)=0)=(t.kids.length=0):=by simp
  simp only[g0,h1,h2,h3,h4,hlen,hel,e3,e4,AT.av_0,vB,pT]
  simp[g0,h1,h2,h3,h4,hlen,hel,e3,e4]
  exact fin _ (by simp[cR,h1,h2,h3,h4])
def fG (h:Head):Bool:=decide (h.op=0)&&decide (h.n=0)&&decide (h.arg=ByteArray.empty)&&decide (h.exn=ByteArray.empty)
def cW (t:AT):Bool:=
 if t.h.kind=17 then fG t.h&&decide (t.h.name=ByteArray.empty)&&decide (0≤t.h.pos)&&decide (t.kids.length=1)
 else if t.h.kind=18 then fG t.h&&cJ t.h.name&&decide (0≤t.h.pos)&&decide (t.kids.length=0)
 else bJ t.h (min t.kids.length 4)
@[simp] theorem Head.av_1 (h:Head):h.av[1]?=some (u8 h.op):=rfl
@[simp] theorem Head.av_2 (h:Head):h.av[2]?=some (int h.pos):=rfl
@[simp] theorem Head.av_3 (h:Head):h.av[3]?=some (int h.n):=rfl
@[simp] theorem Head.av_4 (h:Head):h.av[4]?=some (str h.name):=rfl
@[simp] theorem Head.av_5 (h:Head):h.av[5]?=some (str h.arg):=rfl
@[simp] theorem Head.av_6 (h:Head):h.av[6]?=some (str h.exn):=rfl
@[simp] theorem Head.yn (h:Head) (hh:1<h.av.length):h.av[1]'hh=u8 h.op:=rfl
@[simp] theorem Head.yo (h:Head) (hh:2<h.av.length):h.av[2]'hh=int h.pos:=rfl
@[simp] theorem Head.yp (h:Head) (hh:3<h.av.length):h.av[3]'hh=int h.n:=rfl
@[simp] theorem Head.DB (h:Head) (hh:4<h.av.length):h.av[4]'hh=str h.name:=rfl
@[simp] theorem Head.DC (h:Head) (hh:5<h.av.length):h.av[5]'hh=str h.arg:=rfl
@[simp] theorem Head.DD (h:Head) (hh:6<h.av.length):h.av[6]'hh=str h.exn:=rfl
@[simp] theorem Head.av_take (h:Head):h.av.take 7=h.av:=rfl
abbrev blank:T:=.mk (hd 0) []
abbrev nX:List AV:=[u8 0,u8 0,int 0,int 0,str ByteArray.empty,str ByteArray.empty,str ByteArray.empty,.val (.slice none 0 0)]
theorem pW {τ:ah} {D:Nat→Prop}:∀m:Nat,FzR τ D (List.replicate m nX) (T.avs (List.replicate m blank))
 | 0=>.nil
 | m+1=>by
  simp only[List.replicate_succ,T.avs]
  exact .cons (.cons (.refl _) (.cons (.refl _) (.cons (.refl _) (.cons (.refl _) (.cons (.refl _) (.cons (.refl _) (.cons (.refl _) (.cons .nil .nil)))))))) (pW m)
theorem yP {t:AT} (hb:t.size<1000000000000) {σ:ah} {k kp:AV→ah→Prop} (hk:k (bool (cW t)) σ):Ev PR 60 [t.v] σ k kp:=by
 refine Ev.bB hk ((Dat.val _).low _) fun k' hk'=> ?_
 apply EO;unfold F60
 have hlen:∀ω,aE .slice (AT.vs t.kids) ω=some (int t.kids.length):=fun ω=>by simp
 have hkl:=t.ck
 have hheadlen:t.h.av.length=7:=rfl
 simp[empty_eq,an]
 generalize hτ:ah.set _ _ _=τ
 have g0:τ.get σ.next=some (.cells 19 [t.av]):=by rw[←hτ];simp[au,an]
 have g1:τ.get (σ.next+1)=some (.cells 7 [t.h.av]):=by rw[←hτ];simp[au,an]
 have hn:τ.next=σ.next+2:=by rw[←hτ];simp
 have hG:aq σ τ:=by rw[←hτ];exact((aq.new _ _).trans (aq.new _ _)).set (by simp) _
 clear hτ
 have fin:∀v,cW t=v→k' (bool v) τ:=fun v h=>by rw[←h];exact hk' _ hG
 have e4:((t.kids.length:Int)=0)=(t.kids.length=0):=by simp
 have e5:((t.kids.length:Int)=1)=(t.kids.length=1):=by simp;omega
 by_cases a1:t.h.op=0<;>by_cases a2:t.h.n=0<;>by_cases a3:t.h.arg=ByteArray.empty<;>by_cases a4:t.h.exn=ByteArray.empty<;>by_cases a5:t.h.kind=17<;>by_cases a6:t.h.kind=18
 all_goals first
  | (exfalso;omega)
  | (have hbm:fG t.h=false:=by simp[fG,a1,a2,a3,a4]
     simp[g0,g1,a1,a2,a3,a4,a5,a6]
     exact fin _ (by simp[cW,a5,a6,hbm]))
  | (have hbm:fG t.h=true:=by simp[fG,a1,a2,a3,a4]
     by_cases b1:t.h.name=ByteArray.empty<;>by_cases b2:0≤t.h.pos<;>by_cases b3:t.kids.length=1
     all_goals
      simp[g0,g1,a1,a2,a3,a4,a5,a6,b1,b2,b3,hlen,e5]
      exact fin _ (by simp[cW,a5,a6,hbm,b1,b2,b3]))
  | (have hbm:fG t.h=true:=by simp[fG,a1,a2,a3,a4]
     simp[g0,g1,a1,a2,a3,a4,a5,a6]
     refine oM ?_
     cases b1:cJ t.h.name<;>by_cases b2:0≤t.h.pos<;>by_cases b3:t.kids.length=0
     all_goals
      simp[g0,g1,b1,b2,b3,hlen,e4]
      exact fin _ (by simp[cW,a5,a6,hbm,b1,b2,b3]))
  | skip
 all_goals
  simp[g0,g1,a1,a2,a3,a4,a5,a6,hheadlen]
  clear a1 a2 a3 a4
  generalize hω:ah.set _ _ _=ω
  have w0:ω.get σ.next=some (.cells 19 [t.av]):=by rw[←hω];simp[au,an,hn,g0]
  have w1:ω.get (σ.next+2)=some (.cells 8 [t.h.av++ [.val (.slice none 0 0)]]):=by rw[←hω];simp[au,an,hn]
  have wG:aq σ ω:=by rw[←hω];exact(hG.trans (aq.new _ _)).set (by omega) _
  have wn:ω.next=σ.next+3:=by rw[←hω];simp[hn]
  clear hω
  refine aM ?_
  refine aX (fun i:Nat=>[(1,.ptr σ.next 0 0),(5,.ptr (σ.next+2) 0 0),(6,int i)])
   (fun i φ=>i≤min t.kids.length 4∧aq σ φ∧φ.get σ.next=some (.cells 19 [t.av])∧σ.next+3≤φ.next∧∃x,φ.get (σ.next+2)=some (.cells 8 [t.h.av++ [x]])∧br x=some [x]∧Kid σ.next 3 8 φ x (List.replicate i nX))
   (fun fr _=>4 - (intOf (aa fr 6)).toNat) 0 (by simp[hn]) ⟨by simp,wG,w0,by omega,_,w1,rfl,.inl ⟨rfl,rfl⟩⟩ ?_
  rintro i φ ⟨hi,f1,f2,f3,x,f4,f5,f6⟩
  simp[f2,hlen]
  by_cases hil:i<t.kids.length∧i<4
  ·obtain⟨h1,h2⟩:=hil
   have h2':(i:Int)<4:=by omega
   simp[h1,h2',f4,hheadlen]
   refine bF (bP (by':=96) f6.rows f6.ns (.inr (.inl ⟨true,rfl⟩)) (by simp;omega)) ?_
   obtain⟨p1,p2,p3⟩:=f6.push (by omega) nX
   generalize (gone x φ).new (.cells 8 (List.replicate i nX++ [nX]))=φ2 at p1 p2 p3
   have q2:φ2.get (σ.next+2)=some (.cells 8 [t.h.av++ [x]]):=by rw[p2 _ (by omega)];exact f4
   simp[q2,hheadlen]
   have hdrop:List.drop 8 (t.h.av++ [x])= []:=List.drop_of_length_le (by simp[hheadlen])
   rw[hdrop,wrap64 (by omega)]
   have hG2:aq σ φ2:=⟨by omega,fun j hj=>by rw[p2 j (by omega)];exact f1.get j hj⟩
   refine⟨⟨i+1,by simp,by omega,hG2.set (by omega) _,by simp[au,p2 σ.next (by omega),f2],by omega,?_⟩,by omega⟩
   have:=p1.set (j:=σ.next+2) (by omega) (.cells 8 [t.h.av++ [.own φ.next (i+1)]])
   rw[List.replicate_succ']
   simpa using this
  ·have him:i=min t.kids.length 4:=by omega
   have fl:∀(ks:AV) (σ':ah),aq σ σ'→(∃D,FzS φ D σ'∧Fz φ D x (T.vs (List.replicate i blank)))→Ev PR 104 [.agg (t.h.av++ [x])] φ (fun t47 σ=>k' t47 σ) (fun _ _=>False):=by
    rintro _ σ' hg ⟨D,d1,d2⟩
    refine Ev.freeze (args':=[T.v (.mk t.h (List.replicate i blank))]) d1 (.cons ?_ .nil) ?_
    ·exact((FzL.refl t.h.av).append (.cons d2 .nil)).agg
    ·refine xJ ?_ ?_
     ·have:∀n,T.aI (List.replicate n blank)=n:=by
       intro n
       induction n with
       | zero=>rfl
       | succ n ih=>simp only[List.replicate_succ,T.aI,ih];simp[blank,T.size,T.aI];omega
      simp[T.size,this];omega
     ·have:=hk' _ hg
      simp only[cW,a5,a6,if_false]at this
      simpa [T.h,T.kids,him] using this
   have htk:List.take 8 (t.h.av++ [x])=t.h.av++ [x]:=List.take_of_length_le (by simp[hheadlen])
   have fin2:Ev PR 104 [.agg (t.h.av++ [x])] φ (fun t47 σ=>k' t47 σ) (fun _ _=>False):=by
    rcases f6 with ⟨rfl,hr⟩ | ⟨q,rest,rfl,h2,h3,h4⟩
    ·have h0:i=0:=by simpa using congrArg List.length hr
     refine fl (.any) φ f1 ⟨fun _=>False,⟨rfl,fun _ h=>h.elim,fun id _=> ?_⟩,by rw[h0];exact .nil⟩
     cases hg:φ.get id with
     | none=>exact .inl ⟨rfl,rfl⟩
     | some o=>exact .inr ⟨o,o,rfl,rfl,.refl o⟩
    ·refine fl (.any) (φ.del q) ⟨f1.next,fun j hj=>by rw[bD,if_neg (by omega)];exact f1.get j hj⟩ ⟨fun id=>id=q,⟨rfl,fun id h=>by rw[h];simp,fun id h=> ?_⟩,?_⟩
     ·cases hg:φ.get id with
      | none=>exact .inl ⟨rfl,by rw[bD];split<;>first | rfl | exact hg⟩
      | some o=>exact .inr ⟨o,o,rfl,by rw[bD,if_neg h];exact hg,.refl o⟩
     ·exact FzR.own (pW i) rfl (by simp) h2
   by_cases h1:i<t.kids.length
   ·have h2':¬(i:Int)<4:=by omega
    simp[h1,h2',f4,hheadlen,htk]
    exact fin2
   ·simp[h1,f4,hheadlen,htk]
    exact fin2
def eP (t:AT) (i:Nat):Bool:=match t.aH[i]? with
 | none=>true
 | some r=>decide (0≤r)&&(!decide (t.h.kind=13)||(!decide (r=0)&& !decide (r∈t.aH.take i)))
def dN (t:AT):Bool:=(List.range t.aH.length).all (eP t)
def bN (t:AT):Bool:=
 cW t&&decide (0≤t.rho)&& !(decide (t.h.kind=17)&&decide (t.rho=0))&&(decide (t.h.kind∈[(3:Int),6,11,13,17,18])||decide (t.rho=0))
 &&(decide (t.h.kind=13)||decide (t.h.kind=18)||decide (t.aH.length=0))
 &&dN t
 &&((decide (t.h.kind∈[(11:Int),13,18])||decide (t.eff.length=0))&&bQ t.eff)
 &&(if t.h.kind∈[(11:Int),13,15] then t.type.may else cR t.type)
 &&(if t.h.kind=13 then t.res.may else cR t.res)
theorem lI {t:AT} (h:∀i,i<t.aH.length→eP t i=true):dN t=true:=List.all_eq_true.2 fun i hi=>h i (List.mem_range.1 hi)
theorem tc {t:AT} {i:Nat} (hi:i<t.aH.length) (h:eP t i=false):dN t=false:=by
 cases hh:dN t
 ·rfl
 ·have:=List.all_eq_true.1 hh i (List.mem_range.2 hi)
  rw[h]at this;cases this
set_option maxHeartbeats 4000000 in
theorem lD {t:AT} (hok:t.Ok) {σ:ah} {k kp:AV→ah→Prop} (hk:k (bool (bN t)) σ):Ev PR 33 [t.v] σ k kp:=by
 refine Ev.bB hk ((Dat.val _).low _) fun k' hk'=> ?_
 apply Ez;unfold F33
 have hsz:=hok.size
 have hrh:=hok.aH
 have heff:=hok.eff
 have hrl:∀ω,aE .slice (aO t.aH) ω=some (int t.aH.length):=fun ω=>by simp[aO]
 have hel:∀ω,aE .slice (aT t.eff) ω=some (int t.eff.length):=fun ω=>by simp[aT]
 simp
 generalize hτ:σ.new _=τ
 have g0:τ.get σ.next=some (.cells 19 [t.av]):=by rw[←hτ];simp[an]
 have hG:aq σ τ:=by rw[←hτ];exact aq.new _ _
 clear hτ
 have fin:∀v,bN t=v→k' (bool v) τ:=fun v h=>by rw[←h];exact hk' _ hG
 refine yP (by omega) ?_
 cases hh:cW t
 ·simp
  exact fin _ (by simp[bN,hh])
 by_cases h1:t.rho<0
 ·simp[g0,h1]
  exact fin _ (by have:¬0≤t.rho:=by omega
                  simp[bN,this])
 have h1':0≤t.rho:=by omega
 have lst:∀(l:List Int) (n:Int) (c:Bool) (φ:ah) (q qp:AV→ah→Prop),l.length<1000000000000→q (bool (decide (n∈l))) φ→Ev PR 61 [.sl c 1 (l.map fun b=>[u8 b]),u8 n] φ q qp:=fun l n c φ q qp hl hq=>in_u8 hl hq
 by_cases d3:t.h.kind=3<;>by_cases d6:t.h.kind=6<;>by_cases d11:t.h.kind=11<;>by_cases d13:t.h.kind=13<;>by_cases d15:t.h.kind=15<;>by_cases d17:t.h.kind=17<;>by_cases d18:t.h.kind=18
 all_goals first | (exfalso;omega) | skip
 all_goals
  first | have e3:(t.h.kind=3)=True:=eq_true d3 | have e3:(t.h.kind=3)=False:=eq_false d3
  first | have e6:(t.h.kind=6)=True:=eq_true d6 | have e6:(t.h.kind=6)=False:=eq_false d6
  first | have e11:(t.h.kind=11)=True:=eq_true d11 | have e11:(t.h.kind=11)=False:=eq_false d11
  first | have e13:(t.h.kind=13)=True:=eq_true d13 | have e13:(t.h.kind=13)=False:=eq_false d13
  first | have e15:(t.h.kind=15)=True:=eq_true d15 | have e15:(t.h.kind=15)=False:=eq_false d15
  first | have e17:(t.h.kind=17)=True:=eq_true d17 | have e17:(t.h.kind=17)=False:=eq_false d17
  first | have e18:(t.h.kind=18)=True:=eq_true d18 | have e18:(t.h.kind=18)=False:=eq_false d18
  clear d3 d6 d11 d13 d15 d17 d18
  by_cases r0:t.rho=0
  all_goals first
   | (have nm:bN t=false:=by simp[bN,e3,e6,e11,e13,e15,e17,e18,r0];done
      simp[g0,h1,r0,e17]
      first
       | exact fin _ nm
       | (refine lst [3,6,11,13,17,18] t.h.kind true τ _ _ (by simp) ?_
          simp[g0,r0,e3,e6,e11,e13,e17,e18]
          exact fin _ nm))
   | skip
  all_goals
   simp[g0,h1,r0,e17]
   refine lst [3,6,11,13,17,18] t.h.kind true τ _ _ (by simp) ?_
   simp[g0,r0,e3,e6,e11,e13,e17,e18]
 all_goals
  have ez:((t.aH.length:Int)>0)=(0<t.aH.length):=by simp
  by_cases rl:0<t.aH.length
  all_goals first
   | (have nm:bN t=false:=by
       have:¬t.aH.length=0:=by omega
       simp only[bN,e13,e18,this];simp
      simp[hrl,rl]
      exact fin _ nm)
   | skip
  all_goals try simp[hrl,rl]
  all_goals
   have nm:dN t=false→bN t=false:=fun h=>by simp[bN,h]
   refine bw (fun fr υ=>fr= [(1,.ptr σ.next 0 0),(3,u8 t.h.kind)]∧υ=τ∧dN t=true) ?_ ?_
   ·simp[g0,hrl]
    refine aX (fun j:Nat=>[(1,.ptr σ.next 0 0),(3,u8 t.h.kind),(50,int t.aH.length),(51,int j)]) (fun j φ=>φ=τ∧j≤t.aH.length∧∀i,i<j→eP t i=true) (fun fr _=>t.aH.length - (intOf (aa fr 51)).toNat) 0 (by simp) ⟨rfl,by simp,by simp⟩ ?_
    rintro j φ ⟨rfl,hj,hall⟩
    simp[g0]
    by_cases hjl:j<t.aH.length
    ·obtain⟨r,hr⟩:=get_some hjl
     have hix:∀ω,ak 1 (aO t.aH) (int j) ω=some (.ref [int r]):=fun ω=>by rw[aO,aD];simp[hr]
     have bad:eP t j=false→k' (bool false) φ:=fun h=>fin _ (nm (tc hjl h))
     have eM:eP t j=true→((∃j':Nat,IntKind.i64.wrap ((j:Int)+1)=j'∧j'≤t.aH.length∧∀i,i<j'→eP t i=true)∧t.aH.length - (IntKind.i64.wrap ((j:Int)+1)).toNat<t.aH.length - j):=fun h=>by
      rw[wrap64 (by omega)]
      refine⟨⟨j+1,by simp,by omega,fun i hi=> ?_⟩,by omega⟩
      by_cases hi2:i<j
      ·exact hall i hi2
      ·obtain rfl:i=j:=by omega
       exact h
     by_cases q1:r<0
     ·simp[hjl,hix,q1]
      exact bad (by have:¬0≤r:=by omega
                    simp[eP,hr,this])
     have q1':0≤r:=by omega
     first
      | (have ra:eP t j=true:=by simp[eP,hr,q1',e13];done
         simp[hjl,hix,q1,e13,g0]
         exact eM ra)
      | (by_cases q2:r=0
         ·simp[hjl,hix,q1,q2,e13,g0]
          exact bad (by simp[eP,hr,q2,e13])
         ·simp[hjl,hix,q1,q2,e13,g0]
          refine fJ (x:=aO (t.aH.take j)) (by simp only[aO];rw[qL];simp;omega) ?_
          simp[g0,hix]
          refine gL (l:=t.aH.take j) (by simp;omega) (.inr (.inl ⟨false,rfl⟩)) ?_
          by_cases q3:r∈t.aH.take j
          ·simp[q3]
           exact bad (by simp[eP,hr,q1',q2,q3,e13])
          ·simp[q3]
           exact eM (by simp[eP,hr,q1',q2,q3,e13]))
    ·simp[hjl]
     exact lI fun i hi=>hall i (by omega)
   ·rintro fr υ ⟨rfl,rfl,hrm⟩
    simp
    refine lst [11,13,18] t.h.kind true _ _ _ (by simp) ?_
    simp[g0,e11,e13,e18]
    have hty:=hok.type
    have hre:=hok.res
    have fl:∀b,b=bN t→k' (bool b) υ:=fun b h=>fin b h.symm
    by_cases el:0<t.eff.length
    all_goals
     have ee:(t.eff.length=0)= ¬(0<t.eff.length):=by simp
     try simp[g0,hel,el]
    all_goals try first
     | (exact fl false (by simp only[bN,e11,e13,e18,ee,el];simp[e11,e13,e18,ee,el]))
    all_goals
     refine oe heff ?_
     cases hem:bQ t.eff
    all_goals simp
    all_goals first
     | (exact fl false (by simp[bN,hem]))
     | skip
    all_goals
     refine lst [11,13,15] t.h.kind true _ _ _ (by simp) ?_
     simp[g0,e11,e13,e15]
     first
      | (have it:(t.h.kind∈[(11:Int),13,15])=True:=by simp[e11,e13,e15];done
         refine td _ t.type (Nat.le_refl _) hty _ _ _ ?_
         cases hx:t.type.may
         ·simp[g0,e13]
          exact fl false (by simp[bN,hx,e11,e13,e15])
         simp[g0]
         refine lst [11,13,15] t.h.kind true _ _ _ (by simp) ?_
         simp[g0,e11,e13,e15])
      | (have it:(t.h.kind∈[(11:Int),13,15])=False:=by simp[e11,e13,e15];done
         refine lst [11,13,15] t.h.kind true _ _ _ (by simp) ?_
         simp[g0,e11,e13,e15]
         refine qg ?_
         cases hx:cR t.type
         ·simp[g0,e13]
          exact fl false (by simp[bN,hx,e11,e13,e15])
         simp[g0,e13])
    all_goals
     have hM:bN t=if t.h.kind=13 then t.res.may else cR t.res:=by
      have ep:((0:Int)≤t.rho)=True:=eq_true h1'
      have er:(t.aH.length=0)= ¬(0<t.aH.length):=by simp
      simp only[bN,hh,ep,r0,rl,el,ee,er,hrm,hem,hx,e3,e6,e11,e13,e15,e17,e18,List.mem_cons,List.not_mem_nil]
      simp
     first
      | (have e13':t.h.kind=13:=by rw[e13];trivial
         refine td _ t.res (Nat.le_refl _) hre _ _ _ ?_
         cases hy:t.res.may
         all_goals
          simp[e13]
          exact fl _ (by rw[hM,if_pos e13',hy]))
      | (refine qg ?_
         exact fl _ (by rw[hM,if_neg (by rw[e13];exact fun h=>h)]))
end Go.Abs.At
