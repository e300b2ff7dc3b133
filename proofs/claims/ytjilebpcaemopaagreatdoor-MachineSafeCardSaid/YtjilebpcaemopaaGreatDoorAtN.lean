import Derived.Test.YtjilebpcaemopaaGreatDoorAtermDecA
import Derived.Test.YtjilebpcaemopaaGreatDoorAtS
set_option linter.unusedVariables false
set_option linter.unusedSimpArgs false
namespace Go.Abs.At
open Go Go.Abs Go.Proofs.AtD
attribute [local simp] Nat.add_assoc
def bp (k:Int):Int:=
 if k=1∨k=2 then 0
 else if k=4∨k=5∨k=6∨k=7∨k=11∨k=15 then 1
 else if k=3∨k=8∨k=9∨k=10∨k=12∨k=13∨k=16 then 2
 else if k=14 then 3 else -1
theorem tc {n:Int} {σ:ah} {k kp:AV→ah→Prop} (hk:k (int (bp n)) σ):Ev PR 136 [u8 n] σ k kp:=by
 apply A6;unfold F136
 have fin:∀v,bp n=v→k (int v) σ:=fun v h=>by rw[←h];exact hk
 refine bx (fun fr υ=>fr= [(3,u8 n),(4,bool (decide (n=1∨n=2)))]∧υ=σ) ?_ ?_
 ·by_cases h1:n=1
  ·subst h1;simp
  ·by_cases h2:n=2
   ·subst h2;simp
   ·simp[h1,h2]
 ·rintro fr υ ⟨rfl,rfl⟩
  by_cases h1:n=1∨n=2
  ·simp[h1]
   exact fin _ (by simp[bp,h1])
  simp[h1]
  refine bx (fun fr φ=>fr= [(3,u8 n),(7,bool (decide (n=4∨n=5∨n=6∨n=7∨n=11∨n=15)))]∧φ=υ) ?_ ?_
  ·by_cases a:n=4<;>by_cases b:n=5<;>by_cases c:n=6<;>by_cases d:n=7<;>by_cases e:n=11<;>by_cases f:n=15<;>first | (exfalso;omega) | simp[a,b,c,d,e,f]
  ·rintro fr φ ⟨rfl,rfl⟩
   by_cases h2:n=4∨n=5∨n=6∨n=7∨n=11∨n=15
   ·simp[h2]
    exact fin _ (by unfold bp;rw[if_neg h1,if_pos h2])
   simp[h2]
   refine bx (fun fr ψ=>fr= [(3,u8 n),(14,bool (decide (n=3∨n=8∨n=9∨n=10∨n=12∨n=13∨n=16)))]∧ψ=φ) ?_ ?_
   ·by_cases a:n=3
    ·subst a;simp
    by_cases b:n=8
    ·subst b;simp
    by_cases c:n=9
    ·subst c;simp
    by_cases d:n=10
    ·subst d;simp
    by_cases e:n=12
    ·subst e;simp
    by_cases f:n=13
    ·subst f;simp
    simp[a,b,c,d,e,f]
   ·rintro fr ψ ⟨rfl,rfl⟩
    by_cases h3:n=3∨n=8∨n=9∨n=10∨n=12∨n=13∨n=16
    ·simp[h3]
     exact fin _ (by unfold bp;rw[if_neg h1,if_neg h2,if_pos h3])
    simp[h3]
    by_cases h4:n=14
    ·simp[h4]
     exact fin _ (by unfold bp;rw[if_neg h1,if_neg h2,if_neg h3,if_pos h4])
    ·simp[h4]
     exact fin _ (by unfold bp;rw[if_neg h1,if_neg h2,if_neg h3,if_neg h4])
def gS (there:Bool) (s:ByteArray) (ok:Bool):Bool:=if there=true then ok else decide (s=ByteArray.empty)
theorem oV {b ok:Bool} {s:ByteArray} {σ:ah} {k kp:AV→ah→Prop} (hk:k (bool (gS b s ok)) σ):Ev PR 137 [bool b,str s,bool ok] σ k kp:=by
 apply A7;unfold F137
 cases b<;>cases ok<;>by_cases h:s=ByteArray.empty<;>simp[h,empty_eq]<;>simpa [gS,h] using hk
def eK:List ByteArray:=[⟨#[108,101,116]⟩,⟨#[108,101,116,114,101,99]⟩,⟨#[105,110]⟩,⟨#[102,110]⟩,⟨#[105,102]⟩,⟨#[116,104,101,110]⟩,⟨#[101,108,115,101]⟩,⟨#[114,97,105,115,101]⟩,⟨#[116,114,121]⟩,⟨#[119,105,116,104]⟩,⟨#[114,101,102]⟩,⟨#[102,115,116]⟩,⟨#[115,110,100]⟩,⟨#[101,120,110]⟩]
def cQ (s:ByteArray):Bool:=bZ s 3&& !eK.any fun b=>decide (b=s)
theorem j0 (s:ByteArray):(eK.any fun b=>decide (b=s))=true↔s∈eK:=by simp
theorem s9 {s:ByteArray} {σ:ah} {k kp:AV→ah→Prop} (hk:∀n:Int,(n=0↔s∉eK)→k (int n) σ):Ev PR 135 [str s] σ k kp:=by
 refine Ev.jE ?_
 apply A5;unfold F135
 apply BG;unfold F174
 refine gp (x:=.sl true 1 (eK.map fun b=>[str b])) rfl ?_
 refine aL ?_
 have hlen:eK.length=14:=rfl
 simp[hlen]
 refine ba (fun j:Nat=>[(0,str s),(3,.sl true 1 (eK.map fun b=>[str b])),(7,int 14),(8,int j)]) (fun j φ=>φ=σ∧j≤14∧s∉eK.take j) (fun fr _=>14 - (intOf (aa fr 8)).toNat) 0 (by simp) ⟨rfl,by simp,by simp⟩ ?_
 rintro j φ ⟨rfl,hj,hne⟩
 simp
 by_cases hjl:j<14
 ·obtain⟨t,ht⟩:=get_some (l:=eK) (i:=j) (by omega)
  have hix:∀ω,ak 1 (.sl true 1 (eK.map fun b=>[str b])) (int j) ω=some (.ref [str t]):=fun ω=>by rw[aE];simp[ht]
  have hjl':(j:Int)<14:=by omega
  simp[hjl',hix]
  by_cases hc:t=s
  ·subst hc
   simp
   rw[wrap64 (by omega)]
   exact⟨aq.refl _,.val _,hk _ ⟨fun h=>by omega,fun h=>absurd (List.mem_of_getElem? ht) h⟩⟩
  ·simp[hc]
   rw[wrap64 (by omega)]
   refine⟨⟨j+1,by simp,by omega,fun h=> ?_⟩,by omega⟩
   rw[List.take_add_one,ht]at h
   rcases List.mem_append.1 h with h | h
   ·exact hne h
   ·simp at h;exact hc h.symm
 ·have hall:eK.take j=eK:=List.take_of_length_le (by omega)
  rw[hall]at hne
  have hjl':¬(j:Int)<14:=by omega
  simp[hjl']
  exact⟨aq.refl _,.val _,hk 0 ⟨fun _=>hne,fun _=>rfl⟩⟩
theorem pk {s:ByteArray} {σ:ah} {k kp:AV→ah→Prop} (hk:k (bool (cQ s)) σ):Ev PR 103 [str s] σ k kp:=by
 apply AD;unfold F103
 have fin:∀v,cQ s=v→k (bool v) σ:=fun v h=>by rw[←h];exact hk
 refine qZ ?_
 cases h:bZ s 3
 ·simp
  exact fin _ (by simp[cQ,h])
 ·simp
  refine s9 fun n hn=> ?_
  by_cases h0:n=0
  ·simp[h0]
   exact fin _ (by
    have:(eK.any fun b=>decide (b=s))=false:=Bool.eq_false_iff.2 fun hh=>hn.1 h0 ((j0 s).1 hh)
    simp only[cQ,h,this];rfl)
  ·have:s∈eK:=Classical.byContradiction fun hh=>h0 (hn.2 hh)
   simp[h0]
   exact fin _ (by simp only[cQ,h,(j0 s).2 this];rfl)
def strLt (a b:ByteArray):Bool:=match kl .lss a b with | some (.bool t)=>t | _=>false
theorem sx (a b:ByteArray):ar .lss .prim (str a) (str b)=some (bool (strLt a b)):=by
 rw[sy];simp[kl,strLt]
def iM (a b:Atom):Bool:=if a.kind=b.kind then if a.rho=b.rho then strLt a.exn b.exn else decide (a.rho<b.rho) else decide (a.kind<b.kind)
theorem pd {a b:Atom} {σ:ah} {k kp:AV→ah→Prop} (hk:k (bool (iM a b)) σ):Ev PR 106 [a.v,b.v] σ k kp:=by
 refine Ev.bC hk ((Dat.val _).low _) fun k' hk'=> ?_
 apply AG;unfold F106
 obtain⟨kd,rho,exn⟩:=a
 obtain⟨kd2,rho2,exn2⟩:=b
 simp[Atom.av]
 generalize hτ:ah.new _ _=τ
 have g0:τ.get σ.next=some (.cells 3 [[u8 kd,int rho,str exn]]):=by rw[←hτ];simp[an]
 have g1:τ.get (σ.next+1)=some (.cells 3 [[u8 kd2,int rho2,str exn2]]):=by rw[←hτ];simp[an]
 have hG:aq σ τ:=by rw[←hτ];exact(aq.new _ _).trans (aq.new _ _)
 clear hτ
 have fin:∀v,iM ⟨kd,rho,exn⟩ ⟨kd2,rho2,exn2⟩=v→k' (bool v) τ:=fun v h=>by rw[←h];exact hk' _ hG
 by_cases h1:kd=kd2
 ·by_cases h2:rho=rho2
  ·simp[g0,g1,h1,h2,sx]
   exact fin _ (by simp[iM,h1,h2])
  ·simp[g0,g1,h1,h2]
   exact fin _ (by simp[iM,h1,h2])
 ·simp[g0,g1,h1]
  exact fin _ (by simp[iM,h1])
def iI (e:List Atom) (i:Nat):Bool:=match e[i]? with
 | none=>true
 | some a=>bw a&&match i with
  | 0=>true
  | i+1=>match e[i]? with
   | none=>true
   | some b=>iM b a
def bU (e:List Atom):Bool:=(List.range e.length).all (iI e)
theorem nq {e:List Atom} (h:∀i,i<e.length→iI e i=true):bU e=true:=List.all_eq_true.2 fun i hi=>h i (List.mem_range.1 hi)
theorem jg {e:List Atom} {i:Nat} (hi:i<e.length) (h:iI e i=false):bU e=false:=by
 cases hh:bU e
 ·rfl
 ·have:=List.all_eq_true.1 hh i (List.mem_range.2 hi)
  rw[h]at this;cases this
theorem oQ {e:List Atom} (hb:e.length<1000000000000) {σ:ah} {k kp:AV→ah→Prop} (hk:k (bool (bU e)) σ):Ev PR 62 [aT e] σ k kp:=by
 apply E7;unfold F62
 have fin:∀v,bU e=v→k (bool v) σ:=fun v h=>by rw[←h];exact hk
 have hlen:∀ω,aD .slice (aT e) ω=some (int e.length):=fun ω=>by simp[aT]
 simp[hlen]
 refine aL ?_
 refine ba (fun j:Nat=>[(0,aT e),(5,int e.length),(6,int j)]) (fun j φ=>φ=σ∧j≤e.length∧∀i,i<j→iI e i=true) (fun fr _=>e.length - (intOf (aa fr 6)).toNat) 0 (by simp) ⟨rfl,by simp,by simp⟩ ?_
 rintro j φ ⟨rfl,hj,hall⟩
 simp
 by_cases hjl:j<e.length
 ·obtain⟨a,ha⟩:=get_some hjl
  simp[hjl,jV ha,Atom.nH]
  refine gL ?_
  cases h1:bw a
  ·simp
   exact fin _ (jg hjl (by simp[iI,ha,h1]))
  ·simp
   cases j with
   | zero=>
    simp
    refine⟨⟨1,by simp,by omega,fun i hi=> ?_⟩,by omega⟩
    obtain rfl:i=0:=by omega
    simp[iI,ha,h1]
   | succ j=>
    obtain⟨b,hb2⟩:=get_some (l:=e) (i:=j) (by omega)
    have ha':=jV ha φ
    have e1:((j:Int)+1 - 1)=j:=by omega
    have h0:(0:Int)<(j:Int)+1:=by omega
    simp only[Int.natCast_add,Int.cast_ofNat_Int]at ha'
    simp[h0,e1,wrap64 (show -9223372036854775808≤(j:Int)∧(j:Int)≤9223372036854775807 by omega),jV hb2,ha',Atom.nH]
    refine pd ?_
    cases h2:iM b a
    ·simp
     exact fin _ (jg hjl (by simp[iI,ha,h1,hb2,h2]))
    ·simp
     rw[wrap64 (by omega)]
     refine⟨⟨j+1+1,by simp;omega,by omega,fun i hi=> ?_⟩,by omega⟩
     by_cases hi2:i<j+1
     ·exact hall i hi2
     ·obtain rfl:i=j+1:=by omega
      simp[iI,ha,h1,hb2,h2]
 ·simp[hjl]
  exact fin _ (nq fun i hi=>hall i (by omega))
def fw (k:Int):Nat:=if k=2∨k=4 then 2 else if k=3 then 1 else 0
def dc (t:RT):Bool:=decide (1≤t.kind)&&decide (t.kind≤4)&&decide (t.kids.length=fw t.kind)&&decide (0≤t.rho)&& !(decide (t.kind=1)&&decide (0<t.rho))&& !(!decide (t.kind=4)&&decide (0<t.eff.length))&&bU t.eff
mutual
def RT.may:RT→Bool
 | .mk k r e ks=>dc (.mk k r e ks)&&RT.mS ks
def RT.mS:List RT→Bool
 | []=>true
 | t::ts=>RT.may t&&RT.mS ts
end
theorem RT.mR (t:RT):t.may=(dc t&&RT.mS t.kids):=by cases t;simp[RT.may,RT.kids]
theorem RT.th (l:List RT):RT.mS l=l.all RT.may:=by
 induction l with
 | nil=>rfl
 | cons t l ih=>simp[RT.mS,ih]
theorem RT.rY {l:List RT} {i:Nat} {t:RT} (hi:l[i]?=some t) (h:t.may=false):RT.mS l=false:=by
 rw[RT.th]
 cases hh:l.all RT.may
 ·rfl
 ·have:=List.all_eq_true.1 hh t (List.mem_of_getElem? hi)
  rw[h]at this;cases this
theorem RT.tj {l:List RT} (h:∀(i:Nat) t,l[i]?=some t→t.may=true):RT.mS l=true:=by
 rw[RT.th]
 refine List.all_eq_true.2 fun t ht=> ?_
 obtain⟨i,hi⟩:=List.getElem?_of_mem ht
 exact h i t hi
theorem tK:∀(N:Nat) (t:RT),t.size≤N→t.Ok→∀(σ:ah) (k kp:AV→ah→Prop),k (bool t.may) σ→Ev PR 63 [t.v] σ k kp:=by
 intro N
 induction N with
 | zero=>intro t h;have:=t.size_pos;omega
 | succ N ih=>
  intro t hN hok σ k kp hk
  refine Ev.bC hk ((Dat.val _).low _) fun k' hk'=> ?_
  apply E8;unfold F63
  have heff:=hok.eff
  have hkl:=t.cA
  have hsz:=hok.size
  have hlen:∀ω,aD .slice (RT.vs t.kids) ω=some (int t.kids.length):=fun ω=>by simp
  have hel:∀ω,aD .slice (aT t.eff) ω=some (int t.eff.length):=fun ω=>by simp[aT]
  simp
  generalize hτ:σ.new _=τ
  have g0:τ.get σ.next=some (.cells 4 [t.av]):=by rw[←hτ];simp[an]
  have hG:aq σ τ:=by rw[←hτ];exact aq.new _ _
  clear hτ
  have fin:∀v,t.may=v→k' (bool v) τ:=fun v h=>by rw[←h];exact hk' _ hG
  have no:dc t=false→k' (bool false) τ:=fun h=>fin _ (by rw[RT.mR,h];rfl)
  refine bx (fun fr υ=>fr= [(1,.ptr σ.next 0 0),(3,int (if t.kind=2∨t.kind=4 then 2 else 0))]∧υ=τ) ?_ ?_
  ·by_cases h1:t.kind=2<;>by_cases h2:t.kind=4<;>simp[g0,h1,h2]
  ·rintro fr υ ⟨rfl,rfl⟩
   simp[g0]
   refine bx (fun fr φ=>fr= [(1,.ptr σ.next 0 0),(3,int (fw t.kind))]∧φ=υ) ?_ ?_
   ·by_cases h1:t.kind=3
    ·simp[h1,fw]
    ·simp[h1,fw]
     split<;>rfl
   ·rintro fr φ ⟨rfl,rfl⟩
    simp[g0]
    by_cases h1:t.kind<1
    ·simp[h1]
     exact no (by simp[dc];omega)
    by_cases h2:4<t.kind
    ·simp[h1,h2,g0]
     exact no (by simp[dc];omega)
    by_cases h3:t.kids.length=fw t.kind
    case neg=>
     have h3':¬((t.kids.length:Int)=fw t.kind):=by omega
     simp[h1,h2,g0,hlen,h3']
     exact no (by simp[dc,h3])
    by_cases h4:t.rho<0
    ·simp[h1,h2,g0,hlen,h3,h4]
     exact no (by simp[dc];omega)
    by_cases h5:t.kind=1<;>by_cases h6:0<t.rho<;>by_cases h7:t.kind=4<;>by_cases h8:0<t.eff.length
    all_goals first
     | (exfalso;omega)
     | (simp[h1,h2,g0,hlen,hel,h3,h4,h5,h6,h7,h8];exact no (by simp[dc,h5,h6,h7,h8];done))
     | skip
    all_goals
     have hp:dc t=bU t.eff:=by
      have a1:1≤t.kind:=by omega
      have a2:t.kind≤4:=by omega
      have a3:0≤t.rho:=by omega
      simp only[dc,a1,a2,h3,a3,h5,h6,h7,h8];simp
     simp[h1,h2,g0,hlen,hel,h3,h4,h5,h6,h7,h8]
     refine oQ heff ?_
     cases he:bU t.eff
     ·simp
      exact no (by rw[hp,he])
     ·simp[g0,hlen]
      refine aL ?_
      refine ba (fun j:Nat=>[(1,.ptr σ.next 0 0),(65,int t.kids.length),(66,int j)]) (fun j ψ=>aq σ ψ∧ψ.get σ.next=some (.cells 4 [t.av])∧j≤t.kids.length∧∀(i:Nat) x,i<j→t.kids[i]?=some x→x.may=true) (fun fr _=>t.kids.length - (intOf (aa fr 66)).toNat) 0 (by simp[h3]) ⟨hG,g0,by simp,by simp⟩ ?_
      rintro j ψ ⟨q1,q2,hj,hall⟩
      simp
      by_cases hjl:j<t.kids.length
      ·obtain⟨c,hc⟩:=get_some hjl
       have hcm:=List.mem_of_getElem? hc
       have hcl:=RT.dE hcm
       have hix:∀ω,ak 4 (RT.vs t.kids) (int j) ω=some (.ref c.av):=fun ω=>by rw[aE];simp[RT.cO hc]
       simp[hjl,q2,hix]
       refine ih c (by omega) (hok.kid hcm) _ _ _ ?_
       cases hcv:c.may
       ·simp
        have:=hk' _ q1
        rw[RT.mR,RT.rY hc hcv,Bool.and_false]at this
        exact this
       ·simp
        rw[wrap64 (by omega)]
        refine⟨⟨j+1,by simp,q1,q2,by omega,fun i x hi hx=> ?_⟩,by omega⟩
        by_cases hi2:i<j
        ·exact hall i x hi2 hx
        ·obtain rfl:i=j:=by omega
         rw[hc]at hx;cases hx;exact hcv
      ·simp[hjl]
       have:=hk' _ q1
       rw[RT.mR,hp,he,RT.tj (fun i x hx=>hall i x (by have:=(List.getElem?_eq_some_iff.1 hx).1;omega) hx)]at this
       exact this
theorem j5 {k:Int} (h:0≤bp k):k=1∨k=2∨k=3∨k=4∨k=5∨k=6∨k=7∨k=8∨k=9∨k=10∨k=11∨k=12∨k=13∨k=14∨k=15∨k=16:=by
 unfold bp at h
 split at h
 ·omega
 ·split at h
  ·omega
  ·split at h
   ·omega
   ·split at h<;>omega
def bH (h:Head) (n:Nat):Bool:=
 decide (0≤bp h.kind)&&decide ((n:Int)=bp h.kind)&&decide (0≤h.pos)
 &&(if h.kind=9 then decide (1≤h.op)&&decide (h.op≤5) else decide (h.op=0))
 &&(decide (0≤h.n)&&decide (h.n≤2147483647)&&(decide (h.kind=1)||decide (h.n=0)))
 &&gS (decide (h.kind=2∨h.kind=12∨h.kind=13)) h.name (cQ h.name)
 &&gS (decide (h.kind=11∨h.kind=13∨h.kind=16)) h.arg (cQ h.arg)
 &&gS (decide (h.kind=15∨h.kind=16)) h.exn (bZ h.exn 4)
theorem xU {t:T} (hb:t.size<1000000000000) {σ:ah} {k kp:AV→ah→Prop} (hk:k (bool (bH t.h t.kids.length)) σ):Ev PR 104 [t.v] σ k kp:=by
 refine Ev.bC hk ((Dat.val _).low _) fun k' hk'=> ?_
 apply AE;unfold F104
 have hkl:=t.cA
 have hlen:∀ω,aD .slice (T.vs t.kids) ω=some (int t.kids.length):=fun ω=>by simp
 simp
 generalize hτ:σ.new _=τ
 have g0:τ.get σ.next=some (.cells 8 [t.av]):=by rw[←hτ];simp[an]
 have hG:aq σ τ:=by rw[←hτ];exact aq.new _ _
 clear hτ
 have fin:∀v,bH t.h t.kids.length=v→k' (bool v) τ:=fun v h=>by rw[←h];exact hk' _ hG
 refine tc ?_
 by_cases h1:bp t.h.kind<0
 ·simp[h1]
  exact fin _ (by have:¬0≤bp t.h.kind:=by omega
                  simp[bH,this])
 have h1':0≤bp t.h.kind:=by omega
 simp[h1,g0,hlen]
 refine tc ?_
 simp
 by_cases h2:(t.kids.length:Int)=bp t.h.kind
 case neg=>
  simp[h2,g0,hlen]
  exact fin false (by simp[bH,h2])
 by_cases h3:t.h.pos<0
 ·simp[h2,h3,g0]
  exact fin _ (by have:¬0≤t.h.pos:=by omega
                  simp[bH,this])
 have h3':0≤t.h.pos:=by omega
 by_cases h4:(if t.h.kind=9 then decide (1≤t.h.op)&&decide (t.h.op≤5) else decide (t.h.op=0))=true
 case neg=>
  have no:k' (bool false) τ:=fin _ (by simp only[bH];rw[Bool.eq_false_iff.2 h4];simp)
  by_cases h9:t.h.kind=9
  ·rw[if_pos h9]at h4
   by_cases h5:t.h.op<1
   ·simp[h2,h3,g0,h9,h5];exact no
   ·have h6:5<t.h.op:=by
     refine Classical.byContradiction fun h=>h4 ?_
     have a1:1≤t.h.op:=by omega
     have a2:t.h.op≤5:=by omega
     simp[a1,a2]
    simp[h2,h3,g0,h9,h5,h6];exact no
  ·rw[if_neg h9]at h4
   have h5:¬t.h.op=0:=by simpa using h4
   simp[h2,h3,g0,h9,h5];exact no
 by_cases h7:(decide (0≤t.h.n)&&decide (t.h.n≤2147483647)&&(decide (t.h.kind=1)||decide (t.h.n=0)))=true
 case neg=>
  have no:k' (bool false) τ:=fin _ (by simp only[bH];rw[Bool.eq_false_iff.2 h7];simp)
  by_cases h9:t.h.kind=9
  ·rw[if_pos h9]at h4
   simp only[Bool.and_eq_true,decide_eq_true_eq]at h4
   have h5:¬t.h.op<1:=by omega
   have h6:¬5<t.h.op:=by omega
   by_cases h10:t.h.n<0
   ·simp[h2,h3,g0,h9,h5,h6,h10];exact no
   by_cases h11:2147483647<t.h.n
   ·simp[h2,h3,g0,h9,h5,h6,h10,h11];exact no
   have h12:¬t.h.n=0:=fun h=>h7 (by simp[h])
   simp[h2,h3,g0,h9,h5,h6,h10,h11,h12];exact no
  ·rw[if_neg h9]at h4
   have h5:t.h.op=0:=by simpa using h4
   by_cases h10:t.h.n<0
   ·simp[h2,h3,g0,h9,h5,h10];exact no
   by_cases h11:2147483647<t.h.n
   ·simp[h2,h3,g0,h9,h5,h10,h11];exact no
   have a1:0≤t.h.n:=by omega
   have a2:t.h.n≤2147483647:=by omega
   have h12:¬t.h.n=0:=fun h=>h7 (by simp[h])
   have h13:¬t.h.kind=1:=fun h=>h7 (by simp[h,a1,a2])
   simp[h2,h3,g0,h9,h5,h10,h11,h12,h13];exact no
 have hM:bH t.h t.kids.length=(gS (decide (t.h.kind=2∨t.h.kind=12∨t.h.kind=13)) t.h.name (cQ t.h.name)
  &&gS (decide (t.h.kind=11∨t.h.kind=13∨t.h.kind=16)) t.h.arg (cQ t.h.arg)
  &&gS (decide (t.h.kind=15∨t.h.kind=16)) t.h.exn (bZ t.h.exn 4)):=by
  simp only[bH,h1',h2,h3',h4,h7];simp
 rw[hM]at fin
 clear hM
 simp only[Bool.and_eq_true,Bool.or_eq_true,decide_eq_true_eq]at h7
 obtain⟨⟨h10,h11⟩,h12⟩:=h7
 have h10':¬t.h.n<0:=by omega
 have h11':¬2147483647<t.h.n:=by omega
 rcases j5 h1' with h | h | h | h | h | h | h | h | h | h | h | h | h | h | h | h
 all_goals
  simp[h]at h4 h12 fin
  first
   | (have n1:¬t.h.op<1:=by omega
      have n2:¬5<t.h.op:=by omega
      simp[h2,h3,g0,h,n1,n2,h10',h11',h12])
   | simp[h2,h3,g0,h,h4,h10',h11',h12]
  refine pk ?_
  simp[g0]
  refine oV ?_
  cases e1:gS _ t.h.name (cQ t.h.name)
  ·rw[e1]at fin
   simp
   simpa using fin
  rw[e1]at fin
  simp[g0]
  refine pk ?_
  simp[g0]
  refine oV ?_
  cases e2:gS _ t.h.arg (cQ t.h.arg)
  ·rw[e2]at fin
   simp
   simpa using fin
  rw[e2]at fin
  simp[g0]
  refine vX ?_
  simp[g0]
  refine oV ?_
  simpa using fin
end Go.Abs.At
set_option linter.unusedVariables false
set_option linter.unusedSimpArgs false
namespace Go.Abs.At
open Go Go.Abs Go.Proofs.AtD
attribute [local simp] Nat.add_assoc
theorem in_u8 {l:List Int} {n:Int} {c:Bool} (hb:l.length<1000000000000) {σ:ah} {k kp:AV→ah→Prop} (hk:k (bool (decide (n∈l))) σ):Ev PR 61 [.sl c 1 (l.map fun b=>[u8 b]),u8 n] σ k kp:=by
 apply E6;unfold F61
 simp
 refine aL ?_
 refine ba (fun j:Nat=>[(0,.sl c 1 (l.map fun b=>[u8 b])),(1,u8 n),(7,int l.length),(8,int j)]) (fun j φ=>φ=σ∧j≤l.length∧n∉l.take j) (fun fr _=>l.length - (intOf (aa fr 8)).toNat) 0 (by simp) ⟨rfl,by simp,by simp⟩ ?_
 rintro j φ ⟨rfl,hj,hne⟩
 simp
 by_cases hjl:j<l.length
 ·obtain⟨t,ht⟩:=get_some hjl
  have hix:∀ω,ak 1 (.sl c 1 (l.map fun b=>[u8 b])) (int j) ω=some (.ref [u8 t]):=fun ω=>by rw[aE];simp[ht]
  simp[hjl,hix]
  by_cases hc:t=n
  ·subst hc
   simp
   have e:decide (t∈l)=true:=decide_eq_true (List.mem_of_getElem? ht)
   rw[e]at hk
   exact hk
  ·simp[hc]
   rw[wrap64 (by omega)]
   refine⟨⟨j+1,by simp,by omega,fun h=> ?_⟩,by omega⟩
   rw[List.take_add_one,ht]at h
   rcases List.mem_append.1 h with h | h
   ·exact hne h
   ·simp at h;exact hc h.symm
 ·have hall:l.take j=l:=List.take_of_length_le (by omega)
  rw[hall]at hne
  simp[hjl]
  have e:decide (n∈l)=false:=decide_eq_false hne
  rw[e]at hk
  exact hk
def dt (t:RT):Bool:=decide (t.kind=0)&&decide (t.rho=0)&&decide (t.eff.length=0)&&decide (t.kids.length=0)
theorem qP {t:RT} {σ:ah} {k kp:AV→ah→Prop} (hk:k (bool (dt t)) σ):Ev PR 64 [t.v] σ k kp:=by
 refine Ev.bC hk ((Dat.val _).low _) fun k' hk'=> ?_
 apply E9;unfold F64
 have hlen:∀ω,aD .slice (RT.vs t.kids) ω=some (int t.kids.length):=fun ω=>by simp
 have hel:∀ω,aD .slice (aT t.eff) ω=some (int t.eff.length):=fun ω=>by simp[aT]
 simp
 generalize hτ:σ.new _=τ
 have g0:τ.get σ.next=some (.cells 4 [t.av]):=by rw[←hτ];simp[an]
 have hG:aq σ τ:=by rw[←hτ];exact aq.new _ _
 clear hτ
 have fin:∀v,dt t=v→k' (bool v) τ:=fun v h=>by rw[←h];exact hk' _ hG
 by_cases h1:t.kind=0<;>by_cases h2:t.rho=0<;>by_cases h3:t.eff.length=0<;>by_cases h4:t.kids.length=0
 all_goals
  have e3:((t.eff.length:Int)=0)=(t.eff.length=0):=by simp
  have e4:((t.kids.length:Int)=0)=(t.kids.length=0):=by simp
  simp only[g0,h1,h2,h3,h4,hlen,hel,e3,e4,AT.av_0,vU,qt]
  simp[g0,h1,h2,h3,h4,hlen,hel,e3,e4]
  exact fin _ (by simp[dt,h1,h2,h3,h4])
def gf (h:Head):Bool:=decide (h.op=0)&&decide (h.n=0)&&decide (h.arg=ByteArray.empty)&&decide (h.exn=ByteArray.empty)
def dx (t:AT):Bool:=
 if t.h.kind=17 then gf t.h&&decide (t.h.name=ByteArray.empty)&&decide (0≤t.h.pos)&&decide (t.kids.length=1)
 else if t.h.kind=18 then gf t.h&&cQ t.h.name&&decide (0≤t.h.pos)&&decide (t.kids.length=0)
 else bH t.h (min t.kids.length 4)
@[simp] theorem Head.av_1 (h:Head):h.av[1]?=some (u8 h.op):=rfl
@[simp] theorem Head.av_2 (h:Head):h.av[2]?=some (int h.pos):=rfl
@[simp] theorem Head.av_3 (h:Head):h.av[3]?=some (int h.n):=rfl
@[simp] theorem Head.av_4 (h:Head):h.av[4]?=some (str h.name):=rfl
@[simp] theorem Head.av_5 (h:Head):h.av[5]?=some (str h.arg):=rfl
@[simp] theorem Head.av_6 (h:Head):h.av[6]?=some (str h.exn):=rfl
@[simp] theorem Head.yB (h:Head) (hh:1<h.av.length):h.av[1]'hh=u8 h.op:=rfl
@[simp] theorem Head.yC (h:Head) (hh:2<h.av.length):h.av[2]'hh=int h.pos:=rfl
@[simp] theorem Head.yD (h:Head) (hh:3<h.av.length):h.av[3]'hh=int h.n:=rfl
@[simp] theorem Head.DP (h:Head) (hh:4<h.av.length):h.av[4]'hh=str h.name:=rfl
@[simp] theorem Head.DQ (h:Head) (hh:5<h.av.length):h.av[5]'hh=str h.arg:=rfl
@[simp] theorem Head.DR (h:Head) (hh:6<h.av.length):h.av[6]'hh=str h.exn:=rfl
@[simp] theorem Head.av_take (h:Head):h.av.take 7=h.av:=rfl
abbrev blank:T:=.mk (hd 0) []
abbrev oJ:List AV:=[u8 0,u8 0,int 0,int 0,str ByteArray.empty,str ByteArray.empty,str ByteArray.empty,.val (.slice none 0 0)]
theorem qx {τ:ah} {D:Nat→Prop}:∀m:Nat,FzR τ D (List.replicate m oJ) (T.avs (List.replicate m blank))
 | 0=>.nil
 | m+1=>by
  simp only[List.replicate_succ,T.avs]
  exact .cons (.cons (.refl _) (.cons (.refl _) (.cons (.refl _) (.cons (.refl _) (.cons (.refl _) (.cons (.refl _) (.cons (.refl _) (.cons .nil .nil)))))))) (qx m)
theorem y5 {t:AT} (hb:t.size<1000000000000) {σ:ah} {k kp:AV→ah→Prop} (hk:k (bool (dx t)) σ):Ev PR 60 [t.v] σ k kp:=by
 refine Ev.bC hk ((Dat.val _).low _) fun k' hk'=> ?_
 apply E5;unfold F60
 have hlen:∀ω,aD .slice (AT.vs t.kids) ω=some (int t.kids.length):=fun ω=>by simp
 have hkl:=t.cA
 have hheadlen:t.h.av.length=7:=rfl
 simp[empty_eq,an]
 generalize hτ:ah.set _ _ _=τ
 have g0:τ.get σ.next=some (.cells 19 [t.av]):=by rw[←hτ];simp[au,an]
 have g1:τ.get (σ.next+1)=some (.cells 7 [t.h.av]):=by rw[←hτ];simp[au,an]
 have hn:τ.next=σ.next+2:=by rw[←hτ];simp
 have hG:aq σ τ:=by rw[←hτ];exact((aq.new _ _).trans (aq.new _ _)).set (by simp) _
 clear hτ
 have fin:∀v,dx t=v→k' (bool v) τ:=fun v h=>by rw[←h];exact hk' _ hG
 have e4:((t.kids.length:Int)=0)=(t.kids.length=0):=by simp
 have e5:((t.kids.length:Int)=1)=(t.kids.length=1):=by simp;omega
 by_cases a1:t.h.op=0<;>by_cases a2:t.h.n=0<;>by_cases a3:t.h.arg=ByteArray.empty<;>by_cases a4:t.h.exn=ByteArray.empty<;>by_cases a5:t.h.kind=17<;>by_cases a6:t.h.kind=18
 all_goals first
  | (exfalso;omega)
  | (have hbm:gf t.h=false:=by simp[gf,a1,a2,a3,a4]
     simp[g0,g1,a1,a2,a3,a4,a5,a6]
     exact fin _ (by simp[dx,a5,a6,hbm]))
  | (have hbm:gf t.h=true:=by simp[gf,a1,a2,a3,a4]
     by_cases b1:t.h.name=ByteArray.empty<;>by_cases b2:0≤t.h.pos<;>by_cases b3:t.kids.length=1
     all_goals
      simp[g0,g1,a1,a2,a3,a4,a5,a6,b1,b2,b3,hlen,e5]
      exact fin _ (by simp[dx,a5,a6,hbm,b1,b2,b3]))
  | (have hbm:gf t.h=true:=by simp[gf,a1,a2,a3,a4]
     simp[g0,g1,a1,a2,a3,a4,a5,a6]
     refine pk ?_
     cases b1:cQ t.h.name<;>by_cases b2:0≤t.h.pos<;>by_cases b3:t.kids.length=0
     all_goals
      simp[g0,g1,b1,b2,b3,hlen,e4]
      exact fin _ (by simp[dx,a5,a6,hbm,b1,b2,b3]))
  | skip
 all_goals
  simp[g0,g1,a1,a2,a3,a4,a5,a6,hheadlen]
  clear a1 a2 a3 a4
  generalize hω:ah.set _ _ _=ω
  have w0:ω.get σ.next=some (.cells 19 [t.av]):=by rw[←hω];simp[au,an,hn,g0]
  have w1:ω.get (σ.next+2)=some (.cells 8 [t.h.av++ [.val (.slice none 0 0)]]):=by rw[←hω];simp[au,an,hn]
  have wG:aq σ ω:=by rw[←hω];exact(hG.trans (aq.new _ _)).set (by omega) _
  have wn:ω.next=σ.next+3:=by rw[←hω];simp[hn]
  clear hω
  refine aL ?_
  refine ba (fun i:Nat=>[(1,.ptr σ.next 0 0),(5,.ptr (σ.next+2) 0 0),(6,int i)])
   (fun i φ=>i≤min t.kids.length 4∧aq σ φ∧φ.get σ.next=some (.cells 19 [t.av])∧σ.next+3≤φ.next∧∃x,φ.get (σ.next+2)=some (.cells 8 [t.h.av++ [x]])∧bq x=some [x]∧Kid σ.next 3 8 φ x (List.replicate i oJ))
   (fun fr _=>4 - (intOf (aa fr 6)).toNat) 0 (by simp[hn]) ⟨by simp,wG,w0,by omega,_,w1,rfl,.inl ⟨rfl,rfl⟩⟩ ?_
  rintro i φ ⟨hi,f1,f2,f3,x,f4,f5,f6⟩
  simp[f2,hlen]
  by_cases hil:i<t.kids.length∧i<4
  ·obtain⟨h1,h2⟩:=hil
   have h2':(i:Int)<4:=by omega
   simp[h1,h2',f4,hheadlen]
   refine bL (bX (by':=96) f6.rows f6.ns (.inr (.inl ⟨true,rfl⟩)) (by simp;omega)) ?_
   obtain⟨p1,p2,p3⟩:=f6.push (by omega) oJ
   generalize (gone x φ).new (.cells 8 (List.replicate i oJ++ [oJ]))=φ2 at p1 p2 p3
   have q2:φ2.get (σ.next+2)=some (.cells 8 [t.h.av++ [x]]):=by rw[p2 _ (by omega)];exact f4
   simp[q2,hheadlen]
   have hdrop:List.drop 8 (t.h.av++ [x])= []:=List.drop_of_length_le (by simp[hheadlen])
   rw[hdrop,wrap64 (by omega)]
   have hG2:aq σ φ2:=⟨by omega,fun j hj=>by rw[p2 j (by omega)];exact f1.get j hj⟩
   refine⟨⟨i+1,by simp,by omega,hG2.set (by omega) _,by simp[au,p2 σ.next (by omega),f2],by omega,?_⟩,by omega⟩
   have:=p1.set (j:=σ.next+2) (by omega) (.cells 8 [t.h.av++ [.own φ.next (i+1)]])
   rw[List.replicate_succ']
   simpa using this
  ·have him:i=min t.kids.length 4:=by omega
   have fl:∀(ks:AV) (σ':ah),aq σ σ'→(∃D,FzS φ D σ'∧Fz φ D x (T.vs (List.replicate i blank)))→Ev PR 104 [.agg (t.h.av++ [x])] φ (fun t47 σ=>k' t47 σ) (fun _ _=>False):=by
    rintro _ σ' hg ⟨D,d1,d2⟩
    refine Ev.freeze (args':=[T.v (.mk t.h (List.replicate i blank))]) d1 (.cons ?_ .nil) ?_
    ·exact((FzL.refl t.h.av).append (.cons d2 .nil)).agg
    ·refine xU ?_ ?_
     ·have:∀n,T.aJ (List.replicate n blank)=n:=by
       intro n
       induction n with
       | zero=>rfl
       | succ n ih=>simp only[List.replicate_succ,T.aJ,ih];simp[blank,T.size,T.aJ];omega
      simp[T.size,this];omega
     ·have:=hk' _ hg
      simp only[dx,a5,a6,if_false]at this
      simpa [T.h,T.kids,him] using this
   have htk:List.take 8 (t.h.av++ [x])=t.h.av++ [x]:=List.take_of_length_le (by simp[hheadlen])
   have fin2:Ev PR 104 [.agg (t.h.av++ [x])] φ (fun t47 σ=>k' t47 σ) (fun _ _=>False):=by
    rcases f6 with ⟨rfl,hr⟩ | ⟨q,rest,rfl,h2,h3,h4⟩
    ·have h0:i=0:=by simpa using congrArg List.length hr
     refine fl (.any) φ f1 ⟨fun _=>False,⟨rfl,fun _ h=>h.elim,fun id _=> ?_⟩,by rw[h0];exact .nil⟩
     cases hg:φ.get id with
     | none=>exact .inl ⟨rfl,rfl⟩
     | some o=>exact .inr ⟨o,o,rfl,rfl,.refl o⟩
    ·refine fl (.any) (φ.del q) ⟨f1.next,fun j hj=>by rw[bM,if_neg (by omega)];exact f1.get j hj⟩ ⟨fun id=>id=q,⟨rfl,fun id h=>by rw[h];simp,fun id h=> ?_⟩,?_⟩
     ·cases hg:φ.get id with
      | none=>exact .inl ⟨rfl,by rw[bM];split<;>first | rfl | exact hg⟩
      | some o=>exact .inr ⟨o,o,rfl,by rw[bM,if_neg h];exact hg,.refl o⟩
     ·exact FzR.own (qx i) rfl (by simp) h2
   by_cases h1:i<t.kids.length
   ·have h2':¬(i:Int)<4:=by omega
    simp[h1,h2',f4,hheadlen,htk]
    exact fin2
   ·simp[h1,f4,hheadlen,htk]
    exact fin2
def fk (t:AT) (i:Nat):Bool:=match t.aG[i]? with
 | none=>true
 | some r=>decide (0≤r)&&(!decide (t.h.kind=13)||(!decide (r=0)&& !decide (r∈t.aG.take i)))
def eC (t:AT):Bool:=(List.range t.aG.length).all (fk t)
def bE (t:AT):Bool:=
 dx t&&decide (0≤t.rho)&& !(decide (t.h.kind=17)&&decide (t.rho=0))&&(decide (t.h.kind∈[(3:Int),6,11,13,17,18])||decide (t.rho=0))
 &&(decide (t.h.kind=13)||decide (t.h.kind=18)||decide (t.aG.length=0))
 &&eC t
 &&((decide (t.h.kind∈[(11:Int),13,18])||decide (t.eff.length=0))&&bU t.eff)
 &&(if t.h.kind∈[(11:Int),13,15] then t.type.may else dt t.type)
 &&(if t.h.kind=13 then t.res.may else dt t.res)
theorem mu {t:AT} (h:∀i,i<t.aG.length→fk t i=true):eC t=true:=List.all_eq_true.2 fun i hi=>h i (List.mem_range.1 hi)
theorem tJ {t:AT} {i:Nat} (hi:i<t.aG.length) (h:fk t i=false):eC t=false:=by
 cases hh:eC t
 ·rfl
 ·have:=List.all_eq_true.1 hh i (List.mem_range.2 hi)
  rw[h]at this;cases this
set_option maxHeartbeats 4000000 in
theorem mj {t:AT} (hok:t.Ok) {σ:ah} {k kp:AV→ah→Prop} (hk:k (bool (bE t)) σ):Ev PR 33 [t.v] σ k kp:=by
 refine Ev.bC hk ((Dat.val _).low _) fun k' hk'=> ?_
 apply EO;unfold F33
 have hsz:=hok.size
 have hrh:=hok.aG
 have heff:=hok.eff
 have hrl:∀ω,aD .slice (aP t.aG) ω=some (int t.aG.length):=fun ω=>by simp[aP]
 have hel:∀ω,aD .slice (aT t.eff) ω=some (int t.eff.length):=fun ω=>by simp[aT]
 simp
 generalize hτ:σ.new _=τ
 have g0:τ.get σ.next=some (.cells 19 [t.av]):=by rw[←hτ];simp[an]
 have hG:aq σ τ:=by rw[←hτ];exact aq.new _ _
 clear hτ
 have fin:∀v,bE t=v→k' (bool v) τ:=fun v h=>by rw[←h];exact hk' _ hG
 refine y5 (by omega) ?_
 cases hh:dx t
 ·simp
  exact fin _ (by simp[bE,hh])
 by_cases h1:t.rho<0
 ·simp[g0,h1]
  exact fin _ (by have:¬0≤t.rho:=by omega
                  simp[bE,this])
 have h1':0≤t.rho:=by omega
 have lst:∀(l:List Int) (n:Int) (c:Bool) (φ:ah) (q qp:AV→ah→Prop),l.length<1000000000000→q (bool (decide (n∈l))) φ→Ev PR 61 [.sl c 1 (l.map fun b=>[u8 b]),u8 n] φ q qp:=fun l n c φ q qp hl hq=>in_u8 hl hq
 by_cases d3:t.h.kind=3<;>by_cases d6:t.h.kind=6<;>by_cases d11:t.h.kind=11<;>by_cases d13:t.h.kind=13<;>by_cases d15:t.h.kind=15<;>by_cases d17:t.h.kind=17<;>by_cases d18:t.h.kind=18
 all_goals first | (exfalso;omega) | skip
 all_goals
  first | have e3:(t.h.kind=3)=True:=eq_true d3 | have e3:(t.h.kind=3)=False:=eq_false d3
  first | have e6:(t.h.kind=6)=True:=eq_true d6 | have e6:(t.h.kind=6)=False:=eq_false d6
  first | have e11:(t.h.kind=11)=True:=eq_true d11 | have e11:(t.h.kind=11)=False:=eq_false d11
  first | have e13:(t.h.kind=13)=True:=eq_true d13 | have e13:(t.h.kind=13)=False:=eq_false d13
  first | have e15:(t.h.kind=15)=True:=eq_true d15 | have e15:(t.h.kind=15)=False:=eq_false d15
  first | have e17:(t.h.kind=17)=True:=eq_true d17 | have e17:(t.h.kind=17)=False:=eq_false d17
  first | have e18:(t.h.kind=18)=True:=eq_true d18 | have e18:(t.h.kind=18)=False:=eq_false d18
  clear d3 d6 d11 d13 d15 d17 d18
  by_cases r0:t.rho=0
  all_goals first
   | (have nm:bE t=false:=by simp[bE,e3,e6,e11,e13,e15,e17,e18,r0];done
      simp[g0,h1,r0,e17]
      first
       | exact fin _ nm
       | (refine lst [3,6,11,13,17,18] t.h.kind true τ _ _ (by simp) ?_
          simp[g0,r0,e3,e6,e11,e13,e17,e18]
          exact fin _ nm))
   | skip
  all_goals
   simp[g0,h1,r0,e17]
   refine lst [3,6,11,13,17,18] t.h.kind true τ _ _ (by simp) ?_
   simp[g0,r0,e3,e6,e11,e13,e17,e18]
 all_goals
  have ez:((t.aG.length:Int)>0)=(0<t.aG.length):=by simp
  by_cases rl:0<t.aG.length
  all_goals first
   | (have nm:bE t=false:=by
       have:¬t.aG.length=0:=by omega
       simp only[bE,e13,e18,this];simp
      simp[hrl,rl]
      exact fin _ nm)
   | skip
  all_goals try simp[hrl,rl]
  all_goals
   have nm:eC t=false→bE t=false:=fun h=>by simp[bE,h]
   refine bx (fun fr υ=>fr= [(1,.ptr σ.next 0 0),(3,u8 t.h.kind)]∧υ=τ∧eC t=true) ?_ ?_
   ·simp[g0,hrl]
    refine ba (fun j:Nat=>[(1,.ptr σ.next 0 0),(3,u8 t.h.kind),(50,int t.aG.length),(51,int j)]) (fun j φ=>φ=τ∧j≤t.aG.length∧∀i,i<j→fk t i=true) (fun fr _=>t.aG.length - (intOf (aa fr 51)).toNat) 0 (by simp) ⟨rfl,by simp,by simp⟩ ?_
    rintro j φ ⟨rfl,hj,hall⟩
    simp[g0]
    by_cases hjl:j<t.aG.length
    ·obtain⟨r,hr⟩:=get_some hjl
     have hix:∀ω,ak 1 (aP t.aG) (int j) ω=some (.ref [int r]):=fun ω=>by rw[aP,aE];simp[hr]
     have bad:fk t j=false→k' (bool false) φ:=fun h=>fin _ (nm (tJ hjl h))
     have fu:fk t j=true→((∃j':Nat,IntKind.i64.wrap ((j:Int)+1)=j'∧j'≤t.aG.length∧∀i,i<j'→fk t i=true)∧t.aG.length - (IntKind.i64.wrap ((j:Int)+1)).toNat<t.aG.length - j):=fun h=>by
      rw[wrap64 (by omega)]
      refine⟨⟨j+1,by simp,by omega,fun i hi=> ?_⟩,by omega⟩
      by_cases hi2:i<j
      ·exact hall i hi2
      ·obtain rfl:i=j:=by omega
       exact h
     by_cases q1:r<0
     ·simp[hjl,hix,q1]
      exact bad (by have:¬0≤r:=by omega
                    simp[fk,hr,this])
     have q1':0≤r:=by omega
     first
      | (have ra:fk t j=true:=by simp[fk,hr,q1',e13];done
         simp[hjl,hix,q1,e13,g0]
         exact fu ra)
      | (by_cases q2:r=0
         ·simp[hjl,hix,q1,q2,e13,g0]
          exact bad (by simp[fk,hr,q2,e13])
         ·simp[hjl,hix,q1,q2,e13,g0]
          refine gp (x:=aP (t.aG.take j)) (by simp only[aP];rw[rB];simp;omega) ?_
          simp[g0,hix]
          refine jl (l:=t.aG.take j) (by simp;omega) (.inr (.inl ⟨false,rfl⟩)) ?_
          by_cases q3:r∈t.aG.take j
          ·simp[q3]
           exact bad (by simp[fk,hr,q1',q2,q3,e13])
          ·simp[q3]
           exact fu (by simp[fk,hr,q1',q2,q3,e13]))
    ·simp[hjl]
     exact mu fun i hi=>hall i (by omega)
   ·rintro fr υ ⟨rfl,rfl,hrm⟩
    simp
    refine lst [11,13,18] t.h.kind true _ _ _ (by simp) ?_
    simp[g0,e11,e13,e18]
    have hty:=hok.type
    have hre:=hok.res
    have fl:∀b,b=bE t→k' (bool b) υ:=fun b h=>fin b h.symm
    by_cases el:0<t.eff.length
    all_goals
     have ee:(t.eff.length=0)= ¬(0<t.eff.length):=by simp
     try simp[g0,hel,el]
    all_goals try first
     | (exact fl false (by simp only[bE,e11,e13,e18,ee,el];simp[e11,e13,e18,ee,el]))
    all_goals
     refine oQ heff ?_
     cases hem:bU t.eff
    all_goals simp
    all_goals first
     | (exact fl false (by simp[bE,hem]))
     | skip
    all_goals
     refine lst [11,13,15] t.h.kind true _ _ _ (by simp) ?_
     simp[g0,e11,e13,e15]
     first
      | (have it:(t.h.kind∈[(11:Int),13,15])=True:=by simp[e11,e13,e15];done
         refine tK _ t.type (Nat.le_refl _) hty _ _ _ ?_
         cases hx:t.type.may
         ·simp[g0,e13]
          exact fl false (by simp[bE,hx,e11,e13,e15])
         simp[g0]
         refine lst [11,13,15] t.h.kind true _ _ _ (by simp) ?_
         simp[g0,e11,e13,e15])
      | (have it:(t.h.kind∈[(11:Int),13,15])=False:=by simp[e11,e13,e15];done
         refine lst [11,13,15] t.h.kind true _ _ _ (by simp) ?_
         simp[g0,e11,e13,e15]
         refine qP ?_
         cases hx:dt t.type
         ·simp[g0,e13]
          exact fl false (by simp[bE,hx,e11,e13,e15])
         simp[g0,e13])
    all_goals
     have hM:bE t=if t.h.kind=13 then t.res.may else dt t.res:=by
      have ep:((0:Int)≤t.rho)=True:=eq_true h1'
      have er:(t.aG.length=0)= ¬(0<t.aG.length):=by simp
      simp only[bE,hh,ep,r0,rl,el,ee,er,hrm,hem,hx,e3,e6,e11,e13,e15,e17,e18,List.mem_cons,List.not_mem_nil]
      simp
     first
      | (have e13':t.h.kind=13:=by rw[e13];trivial
         refine tK _ t.res (Nat.le_refl _) hre _ _ _ ?_
         cases hy:t.res.may
         all_goals
          simp[e13]
          exact fl _ (by rw[hM,if_pos e13',hy]))
      | (refine qP ?_
         exact fl _ (by rw[hM,if_neg (by rw[e13];exact fun h=>h)]))
end Go.Abs.At
