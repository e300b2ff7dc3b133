import Derived.Test.YtjilebpcaemopaaGreatDoorAtW
import Derived.Test.YtjilebpcaemopaaGreatDoorAtU
import Derived.Test.YtjilebpcaemopaaGreatDoorAtNodesP
set_option linter.unusedVariables false
set_option linter.unusedSimpArgs false
namespace Go.Abs.At
open Go Go.Abs Go.Proofs.AtD
attribute [local simp] Nat.add_assoc
def lP (x:T):Bool:=bJ x.h x.kids.length
theorem Ad {l:List T} (hb:T.aI l<1000000000000) (hk:∀x∈T.bE l,jg x.h.kind∧x.size<1000000000000) {σ:ah} {k kp:AV→ah→Prop} (hq:k (bool ((T.bE l).all lP)) σ):Ev PR 157 [.fn (.func 158) [],T.vs l] σ k kp:=by
 refine Ev.bB hq ((Dat.val _).low _) fun k' hk'=> ?_
 refine T.kZ 158 [] 0 (fun τ=>aq σ τ∧(T.bE l).all lP=false) _ l (Nat.le_refl _) hb (fun i φ=>aq σ φ∧∀x∈(T.bE l).take i,lP x=true) ?_ ?_ σ _ _ (Nat.zero_le _) ⟨aq.refl _,by simp⟩ ?_ ?_
 ·rintro i φ ψ ⟨h1,h2⟩ h3
  exact⟨h1.trans h3,h2⟩
 ·rintro i x hi φ q qp _ ⟨h1,h2⟩ hT hF
  have hx:=List.mem_of_getElem? hi
  obtain⟨hb1,hb2⟩:=hk x hx
  refine xI hb1 hb2 ?_
  cases hc:bJ x.h x.kids.length
  ·refine hF φ (Up.refl _ _ _) ⟨h1,?_⟩
   cases hh:(T.bE l).all lP
   ·rfl
   ·have:=List.all_eq_true.1 hh x hx
    simp only[lP,hc]at this;cases this
  ·refine hT φ (Up.refl _ _ _) ⟨h1,fun y hy=> ?_⟩
   rw[List.take_add_one,hi]at hy
   rcases List.mem_append.1 hy with h | h
   ·exact h2 y h
   ·simp at h;subst h;exact hc
 ·rintro τ hu ⟨h1,h2⟩
  rw[←T.cj,List.take_length]at h2
  have:=hk' _ h1
  rw[List.all_eq_true.2 h2]at this
  exact this
 ·rintro τ hu ⟨h1,h2⟩
  have:=hk' _ h1
  rw[h2]at this
  exact this
theorem Af {t:T} (hb:t.size≤4000) (hk:∀x∈t.all,jg x.h.kind) {σ:ah} {k kp:AV→ah→Prop} (hq:k (bool (wq t)) σ):Ev PR 113 [t.v] σ k kp:=by
 refine Ev.bB hq ((Dat.val _).low _) fun k' hk'=> ?_
 apply Ay;unfold F113
 simp[an]
 have e1:T.aI [t]=t.size:=by simp[T.aI]
 have e3:T.bE [t]=t.all:=by simp[T.bE]
 refine Ev.iw (.cons (T.oa t) .nil) ?_
 refine T.pz (by omega) ?_
 have h1:(T.aI [t]:Int)≤4000:=by omega
 simp[h1,an]
 refine Ev.iw (.cons (.refl _) (.cons (T.oa t) .nil)) ?_
 refine Ad (by omega) (fun x hx=> ?_) ?_
 ·rw[e3]at hx
  exact⟨hk x hx,by have:=T.vu t x hx;omega⟩
 ·rw[e3]
  have:=hk' _ (aq.new σ (.cells 8 [t.av]))
  simp only[wq,hb,decide_true,Bool.true_and]at this
  exact this
theorem xG {t:AT} (h3:t.kids.length≤3):wq (stub t)=bJ t.h t.kids.length:=by
 have hl:bJ leaf.h leaf.kids.length=true:=by decide
 have hs:(stub t).size≤4000:=by rw[qz];omega
 have hks:(stub t).kids.length=t.kids.length:=by simp[stub,T.kids]
 simp only[wq,hs,decide_true,Bool.true_and]
 cases hc:bJ t.h t.kids.length
 ·cases hh:(stub t).all.all fun x=>bJ x.h x.kids.length
  ·rfl
  ·have:=List.all_eq_true.1 hh (stub t) (by rw[T.all_eq];simp)
   rw[hks]at this
   have e:(stub t).h=t.h:=rfl
   rw[e,hc]at this;cases this
 ·refine List.all_eq_true.2 fun x hx=> ?_
  rcases T.rQ hx with rfl | rfl
  ·rw[hks];exact hc
  ·exact hl
theorem uV {t:AT} (h:jg t.h.kind):∀x∈(stub t).all,jg x.h.kind:=fun x hx=>by
 rcases T.rQ hx with rfl | rfl
 ·exact h
 ·exact⟨by decide,by decide⟩
theorem Ag (h:Head) {n:Nat} (hn:4≤n):bJ h n=false:=by
 have:=yW h.kind
 have:¬((n:Int)=bo h.kind):=by omega
 simp[bJ,this]
theorem FU {h:Head} (hk:h.kind=17):decide (h=⟨17,0,h.pos,0,ByteArray.empty,ByteArray.empty,ByteArray.empty⟩)=(fG h&&decide (h.name=ByteArray.empty)):=by
 obtain⟨a1,a2,a3,a4,a5,a6,a7⟩:=h
 simp only at hk
 subst hk
 by_cases b2:a2=0<;>by_cases b4:a4=0<;>by_cases b5:a5=ByteArray.empty<;>by_cases b6:a6=ByteArray.empty<;>by_cases b7:a7=ByteArray.empty<;>simp[fG,b2,b4,b5,b6,b7]
theorem F7 {t:AT} (h18:t.h.kind=18):cW t=(decide (t.kids.length≤3)&&bJ {t.h with kind:=2} t.kids.length):=by
 have e0:bo 2=0:=rfl
 have en:((t.kids.length:Int)=0)=(t.kids.length=0):=by simp
 have hh:cW t=(fG t.h&&cJ t.h.name&&decide (0≤t.h.pos)&&decide (t.kids.length=0)):=by
  unfold cW;rw[if_neg (by omega),if_pos h18]
 rw[hh]
 simp only[bJ,e0,en]
 have k9:¬((2:Int)=9):=by decide
 have k1:decide ((2:Int)=1)=false:=by decide
 have k2:decide (True∨(2:Int)=12∨(2:Int)=13)=true:=by simp
 have k3:decide ((2:Int)=11∨(2:Int)=13∨(2:Int)=16)=false:=by decide
 have k4:decide ((2:Int)=15∨(2:Int)=16)=false:=by decide
 have k0:decide ((0:Int)≤0)=true:=by decide
 rw[if_neg k9,k1,k2,k3,k4,k0]
 simp only[gE,fG,if_true,Bool.false_eq_true,if_false,Bool.true_and,Bool.false_or]
 by_cases b3:t.kids.length=0
 ·have h3:t.kids.length≤3:=by omega
  simp only[b3,h3,decide_true,Bool.true_and,Bool.and_true]
  by_cases c1:t.h.op=0<;>by_cases c2:t.h.n=0<;>by_cases c3:t.h.arg=ByteArray.empty<;>by_cases c4:t.h.exn=ByteArray.empty<;>by_cases c5:0≤t.h.pos<;>cases c6:cJ t.h.name<;>simp[c1,c2,c3,c4,c5,c6]
 ·simp only[b3,decide_false,Bool.false_and,Bool.and_false]
theorem wZ {t:AT} (hkd:jg t.h.kind) (hb:t.size<1000000000000) {σ:ah} {k kp:AV→ah→Prop} (hk:k (bool (cW t)) σ):Ev PR 73 [t.v] σ k kp:=by
 refine Ev.bB hk ((Dat.val _).low _) fun k' hk'=> ?_
 apply E2;unfold F73
 have hlen:∀ω,aE .slice (AT.vs t.kids) ω=some (int t.kids.length):=fun ω=>by simp
 have hkl:=t.ck
 have e5:((t.kids.length:Int)=1)=(t.kids.length=1):=by simp;omega
 simp[an]
 generalize hτ:σ.new _=τ
 have g0:τ.get σ.next=some (.cells 19 [t.av]):=by rw[←hτ];simp[an]
 have hG:aq σ τ:=by rw[←hτ];exact aq.new _ _
 clear hτ
 refine bw (fun fr υ=>fr= [(1,.ptr σ.next 0 0)]∧aq σ υ∧∃t':AT,υ.get σ.next=some (.cells 19 [t'.av])∧jg t'.h.kind∧t'.size=t.size∧t'.kids=t.kids∧cW t=(decide (t'.kids.length≤3)&&bJ t'.h t'.kids.length)) ?_ ?_
 ·simp[g0]
  by_cases h17:t.h.kind=17
  ·have hq:ar .eql (.agg [.i,.i,.i,.i,.s,.s,.s]) (.agg t.h.av) (.agg [u8 17,u8 0,int t.h.pos,int 0,str ByteArray.empty,str ByteArray.empty,str ByteArray.empty])=some (bool (fG t.h&&decide (t.h.name=ByteArray.empty))):=by
    have:=FY t.h ⟨17,0,t.h.pos,0,ByteArray.empty,ByteArray.empty,ByteArray.empty⟩
    have e:(Head.av ⟨17,0,t.h.pos,0,ByteArray.empty,ByteArray.empty,ByteArray.empty⟩)= [u8 17,u8 0,int t.h.pos,int 0,str ByteArray.empty,str ByteArray.empty,str ByteArray.empty]:=rfl
    rw[e]at this
    rw[xZ,this]
    have:decide (t.h=⟨17,0,t.h.pos,0,ByteArray.empty,ByteArray.empty,ByteArray.empty⟩)=(fG t.h&&decide (t.h.name=ByteArray.empty)):=FU h17
    rw[this];rfl
   have fin:∀v,cW t=v→k' (bool v) τ:=fun v h=>by rw[←h];exact hk' _ hG
   simp[h17,g0]
   refine fJ (x:=bool (fG t.h&&decide (t.h.name=ByteArray.empty))) hq ?_
   cases hb1:(fG t.h&&decide (t.h.name=ByteArray.empty))<;>by_cases b2:0≤t.h.pos<;>by_cases b3:t.kids.length=1
   all_goals
    simp[g0,b2,b3,hlen,e5]
    exact fin _ (by simp[cW,h17,hb1,b2,b3])
  ·by_cases h18:t.h.kind=18
   ·simp[h17,h18,g0]
    refine⟨hG.set (Nat.le_refl _) _,.mk {t.h with kind:=2} t.rho t.aH t.eff t.type t.res t.kids,?_,?_,?_,rfl,?_⟩
    ·obtain⟨h,r,rs,e,ty,re,ks⟩:=t;rfl
    ·exact⟨(by decide:(0:Int)≤2),(by decide:(2:Int)≤255)⟩
    ·obtain⟨h,r,rs,e,ty,re,ks⟩:=t;rfl
    ·exact F7 h18
   ·simp[h17,h18]
    refine⟨hG,t,rfl,hkd,rfl,rfl,?_⟩
    simp only[cW,h17,h18,if_false]
    by_cases h3:t.kids.length≤3
    ·have:min t.kids.length 4=t.kids.length:=by omega
     rw[this];simp[h3]
    ·have:min t.kids.length 4=4:=by omega
     rw[this,Ag t.h (Nat.le_refl 4)];simp[h3]
 ·rintro fr υ ⟨rfl,u1,t',u2,u3,u4,u5,u6⟩
  have hlen':∀ω,aE .slice (AT.vs t'.kids) ω=some (int t'.kids.length):=fun ω=>by simp
  have hkl':=t'.ck
  have fin:=hk' _ u1
  rw[u6]at fin
  by_cases h3:t'.kids.length≤3
  ·have h3':(t'.kids.length:Int)≤3:=by omega
   simp[u2,hlen',h3']
   refine Dj (by omega) ?_
   refine Af (by rw[qz];omega) (uV u3) ?_
   rw[xG h3]
   simpa [h3] using fin
  ·have h3':¬(t'.kids.length:Int)≤3:=by omega
   simp[u2,hlen',h3']
   simpa [h3] using fin
theorem sV {l:List Int}:l.Nodup↔∀(i:Nat) (r:Int),l[i]?=some r→r∉l.take i:=by
 induction l with
 | nil=>simp
 | cons a l ih=>
  rw[List.nodup_cons,ih]
  constructor
  ·rintro⟨h1,h2⟩ i r hi hm
   cases i with
   | zero=>simp at hm
   | succ i=>
    simp only[List.getElem?_cons_succ]at hi
    simp only[List.take_succ_cons,List.mem_cons]at hm
    rcases hm with rfl | hm
    ·exact h1 (List.mem_of_getElem? hi)
    ·exact h2 i r hi hm
  ·intro h
   refine⟨fun hm=> ?_,fun i r hi hm=> ?_⟩
   ·obtain⟨j,hj⟩:=List.getElem?_of_mem hm
    exact h (j+1) a (by simpa using hj) (by simp)
   ·exact h (i+1) r (by simpa using hi) (by simp[hm])
theorem ta (t:AT):dN t=(!decide (∃r∈t.aH,r<if t.h.kind=13 then 1 else 0)&&(!decide (t.h.kind=13)||decide t.aH.Nodup)):=by
 cases hh:dN t
 ·symm
  obtain⟨i,hi,hf⟩:∃i,i<t.aH.length∧eP t i=false:=by
   have:¬∀i,i<t.aH.length→eP t i=true:=fun h=>by rw[lI h]at hh;cases hh
   simp only[Classical.not_forall]at this
   obtain⟨i,h1,h2⟩:=this
   exact⟨i,h1,by simpa using h2⟩
  obtain⟨r,hr⟩:=get_some hi
  have hrm:=List.mem_of_getElem? hr
  simp only[eP,hr,Bool.and_eq_false_imp,decide_eq_true_eq]at hf
  by_cases h13:t.h.kind=13
  ·simp only[h13,if_true,decide_true,Bool.not_true,Bool.false_or]
   by_cases h1:r<1
   ·have:decide (∃r∈t.aH,r<1)=true:=decide_eq_true ⟨r,hrm,h1⟩
    simp[this]
   ·have hnd:¬t.aH.Nodup:=fun hnd=>by
     have h2:=sV.1 hnd i r hr
     have h3:=hf (by omega)
     have h0:¬r=0:=by omega
     simp[h13,h0,h2]at h3
    simp[hnd]
  ·simp only[h13,if_false]
   have:r<0:=by
    refine Classical.byContradiction fun h=> ?_
    have:=hf (by omega)
    simp[h13]at this
   have:decide (∃r∈t.aH,r<0)=true:=decide_eq_true ⟨r,hrm,this⟩
   simp[this]
 ·symm
  have hall:∀(i:Nat) r,t.aH[i]?=some r→0≤r∧(t.h.kind=13→r≠0∧r∉t.aH.take i):=fun i r hr=>by
   have hi:=(List.getElem?_eq_some_iff.1 hr).1
   have:=List.all_eq_true.1 hh i (List.mem_range.2 hi)
   simp only[eP,hr,Bool.and_eq_true,decide_eq_true_eq,Bool.or_eq_true,Bool.not_eq_true',decide_eq_false_iff_not]at this
   refine⟨this.1,fun h13=> ?_⟩
   rcases this.2 with h | h
   ·exact absurd h13 h
   ·exact h
  have h1:¬∃r∈t.aH,r<if t.h.kind=13 then 1 else 0:=by
   rintro⟨r,hr,hlt⟩
   obtain⟨i,hi⟩:=List.getElem?_of_mem hr
   obtain⟨a,b⟩:=hall i r hi
   split at hlt
   ·rename_i h;have:=(b h).1;omega
   ·omega
  have h2:t.h.kind=13→t.aH.Nodup:=fun h=>sV.2 fun i r hr=>((hall i r hr).2 h).2
  by_cases h13:t.h.kind=13
  ·simp[h13,h2 h13]at h1⊢
   exact h1
  ·simp[h13]at h1⊢
   exact h1
def su (k:Int):Bool:=decide (k=3∨k=6∨k=17∨k=11∨k=13∨k=18)
def mO (k:Int):Bool:=decide (k=13∨k=18)
def sr (k:Int):Bool:=decide (k=11∨k=13∨k=18)
def fT (k:Int):Bool:=decide (k=11∨k=13∨k=15)
def wT (k:Int):Bool:=decide (k=13)
theorem xo (k:Int):oP k= [su k,mO k,sr k,fT k,wT k]:=by
 unfold oP su mO sr fT wT
 by_cases h3:k=3
 ·subst h3;decide
 by_cases h6:k=6
 ·subst h6;decide
 by_cases h17:k=17
 ·subst h17;decide
 by_cases h11:k=11
 ·subst h11;decide
 by_cases h13:k=13
 ·subst h13;decide
 by_cases h15:k=15
 ·subst h15;decide
 by_cases h18:k=18
 ·subst h18;decide
 simp[h3,h6,h17,h11,h13,h15,h18]
def oN (t:AT):Bool:=
 (cW t&&dM t (su t.h.kind) (mO t.h.kind)&&(!decide (t.h.kind=13)||decide t.aH.Nodup))&&(if sr t.h.kind=true then bQ t.eff else decide (t.eff.length=0))
 &&((if fT t.h.kind=true then t.type.may else cR t.type)&&(if wT t.h.kind=true then t.res.may else cR t.res))
set_option maxHeartbeats 4000000 in
theorem zf (t:AT):oN t=bN t:=by
 have er:(0<t.aH.length)= ¬(t.aH.length=0):=by simp[Nat.pos_iff_ne_zero]
 have em:t.eff.length=0→bQ t.eff=true:=fun h=>by simp[bQ,h]
 unfold oN bN dM
 rw[ta]
 generalize decide (∃r∈t.aH,r<if t.h.kind=13 then 1 else 0)=X
 generalize cW t=H
 generalize t.type.may=A
 generalize cR t.type=B
 generalize t.res.may=C
 generalize cR t.res=D
 generalize decide t.aH.Nodup=N
 generalize bQ t.eff=E at em
 generalize t.eff.length=m at em
 generalize t.aH.length=n
 generalize t.rho=r
 generalize t.h.kind=k
 clear er
 unfold su mO sr fT wT
 by_cases d3:k=3
 ·subst d3;skip
  rcases Decidable.em (m=0) with m0 | m0
  all_goals rcases Decidable.em (n=0) with n0 | n0
  all_goals rcases Int.lt_trichotomy r 0 with r0 | r0 | r0
  all_goals
   have em':=em
   first
    | (have r1:¬r<0:=by omega
       have r2:0≤r:=by omega
       have r3:r=0:=r0
       subst r3
       cases H<;>cases X<;>cases N<;>cases E<;>simp[m0,n0]at em'⊢)
    | (have r1:¬r<0:=by omega
       have r2:0≤r:=by omega
       have r3:¬r=0:=by omega
       have r4:¬r<1:=by omega
       cases H<;>cases X<;>cases N<;>cases E<;>simp[m0,n0,r1,r2,r3,r4]at em'⊢)
    | (have r2:¬0≤r:=by omega
       have r3:¬r=0:=by omega
       have r4:r<1:=by omega
       cases H<;>cases X<;>cases N<;>cases E<;>simp[m0,n0,r0,r2,r3,r4]at em'⊢)
 by_cases d6:k=6
 ·subst d6;skip
  rcases Decidable.em (m=0) with m0 | m0
  all_goals rcases Decidable.em (n=0) with n0 | n0
  all_goals rcases Int.lt_trichotomy r 0 with r0 | r0 | r0
  all_goals
   have em':=em
   first
    | (have r1:¬r<0:=by omega
       have r2:0≤r:=by omega
       have r3:r=0:=r0
       subst r3
       cases H<;>cases X<;>cases N<;>cases E<;>simp[m0,n0]at em'⊢)
    | (have r1:¬r<0:=by omega
       have r2:0≤r:=by omega
       have r3:¬r=0:=by omega
       have r4:¬r<1:=by omega
       cases H<;>cases X<;>cases N<;>cases E<;>simp[m0,n0,r1,r2,r3,r4]at em'⊢)
    | (have r2:¬0≤r:=by omega
       have r3:¬r=0:=by omega
       have r4:r<1:=by omega
       cases H<;>cases X<;>cases N<;>cases E<;>simp[m0,n0,r0,r2,r3,r4]at em'⊢)
 by_cases d11:k=11
 ·subst d11;skip
  rcases Decidable.em (m=0) with m0 | m0
  all_goals rcases Decidable.em (n=0) with n0 | n0
  all_goals rcases Int.lt_trichotomy r 0 with r0 | r0 | r0
  all_goals
   have em':=em
   first
    | (have r1:¬r<0:=by omega
       have r2:0≤r:=by omega
       have r3:r=0:=r0
       subst r3
       cases H<;>cases X<;>cases N<;>cases E<;>simp[m0,n0]at em'⊢)
    | (have r1:¬r<0:=by omega
       have r2:0≤r:=by omega
       have r3:¬r=0:=by omega
       have r4:¬r<1:=by omega
       cases H<;>cases X<;>cases N<;>cases E<;>simp[m0,n0,r1,r2,r3,r4]at em'⊢)
    | (have r2:¬0≤r:=by omega
       have r3:¬r=0:=by omega
       have r4:r<1:=by omega
       cases H<;>cases X<;>cases N<;>cases E<;>simp[m0,n0,r0,r2,r3,r4]at em'⊢)
 by_cases d13:k=13
 ·subst d13;skip
  rcases Decidable.em (m=0) with m0 | m0
  all_goals rcases Decidable.em (n=0) with n0 | n0
  all_goals rcases Int.lt_trichotomy r 0 with r0 | r0 | r0
  all_goals
   have em':=em
   first
    | (have r1:¬r<0:=by omega
       have r2:0≤r:=by omega
       have r3:r=0:=r0
       subst r3
       cases H<;>cases X<;>cases N<;>cases E<;>simp[m0,n0]at em'⊢)
    | (have r1:¬r<0:=by omega
       have r2:0≤r:=by omega
       have r3:¬r=0:=by omega
       have r4:¬r<1:=by omega
       cases H<;>cases X<;>cases N<;>cases E<;>simp[m0,n0,r1,r2,r3,r4]at em'⊢)
    | (have r2:¬0≤r:=by omega
       have r3:¬r=0:=by omega
       have r4:r<1:=by omega
       cases H<;>cases X<;>cases N<;>cases E<;>simp[m0,n0,r0,r2,r3,r4]at em'⊢)
 by_cases d15:k=15
 ·subst d15;skip
  rcases Decidable.em (m=0) with m0 | m0
  all_goals rcases Decidable.em (n=0) with n0 | n0
  all_goals rcases Int.lt_trichotomy r 0 with r0 | r0 | r0
  all_goals
   have em':=em
   first
    | (have r1:¬r<0:=by omega
       have r2:0≤r:=by omega
       have r3:r=0:=r0
       subst r3
       cases H<;>cases X<;>cases N<;>cases E<;>simp[m0,n0]at em'⊢)
    | (have r1:¬r<0:=by omega
       have r2:0≤r:=by omega
       have r3:¬r=0:=by omega
       have r4:¬r<1:=by omega
       cases H<;>cases X<;>cases N<;>cases E<;>simp[m0,n0,r1,r2,r3,r4]at em'⊢)
    | (have r2:¬0≤r:=by omega
       have r3:¬r=0:=by omega
       have r4:r<1:=by omega
       cases H<;>cases X<;>cases N<;>cases E<;>simp[m0,n0,r0,r2,r3,r4]at em'⊢)
 by_cases d17:k=17
 ·subst d17;skip
  rcases Decidable.em (m=0) with m0 | m0
  all_goals rcases Decidable.em (n=0) with n0 | n0
  all_goals rcases Int.lt_trichotomy r 0 with r0 | r0 | r0
  all_goals
   have em':=em
   first
    | (have r1:¬r<0:=by omega
       have r2:0≤r:=by omega
       have r3:r=0:=r0
       subst r3
       cases H<;>cases X<;>cases N<;>cases E<;>simp[m0,n0]at em'⊢)
    | (have r1:¬r<0:=by omega
       have r2:0≤r:=by omega
       have r3:¬r=0:=by omega
       have r4:¬r<1:=by omega
       cases H<;>cases X<;>cases N<;>cases E<;>simp[m0,n0,r1,r2,r3,r4]at em'⊢)
    | (have r2:¬0≤r:=by omega
       have r3:¬r=0:=by omega
       have r4:r<1:=by omega
       cases H<;>cases X<;>cases N<;>cases E<;>simp[m0,n0,r0,r2,r3,r4]at em'⊢)
 by_cases d18:k=18
 ·subst d18;skip
  rcases Decidable.em (m=0) with m0 | m0
  all_goals rcases Decidable.em (n=0) with n0 | n0
  all_goals rcases Int.lt_trichotomy r 0 with r0 | r0 | r0
  all_goals
   have em':=em
   first
    | (have r1:¬r<0:=by omega
       have r2:0≤r:=by omega
       have r3:r=0:=r0
       subst r3
       cases H<;>cases X<;>cases N<;>cases E<;>simp[m0,n0]at em'⊢)
    | (have r1:¬r<0:=by omega
       have r2:0≤r:=by omega
       have r3:¬r=0:=by omega
       have r4:¬r<1:=by omega
       cases H<;>cases X<;>cases N<;>cases E<;>simp[m0,n0,r1,r2,r3,r4]at em'⊢)
    | (have r2:¬0≤r:=by omega
       have r3:¬r=0:=by omega
       have r4:r<1:=by omega
       cases H<;>cases X<;>cases N<;>cases E<;>simp[m0,n0,r0,r2,r3,r4]at em'⊢)
 ·skip
  rcases Decidable.em (m=0) with m0 | m0
  all_goals rcases Decidable.em (n=0) with n0 | n0
  all_goals rcases Int.lt_trichotomy r 0 with r0 | r0 | r0
  all_goals
   have em':=em
   first
    | (have r1:¬r<0:=by omega
       have r2:0≤r:=by omega
       have r3:r=0:=r0
       subst r3
       cases H<;>cases X<;>cases N<;>cases E<;>simp[d3,d6,d11,d13,d15,d17,d18,m0,n0]at em'⊢)
    | (have r1:¬r<0:=by omega
       have r2:0≤r:=by omega
       have r3:¬r=0:=by omega
       have r4:¬r<1:=by omega
       cases H<;>cases X<;>cases N<;>cases E<;>simp[d3,d6,d11,d13,d15,d17,d18,m0,n0,r1,r2,r3,r4]at em'⊢)
    | (have r2:¬0≤r:=by omega
       have r3:¬r=0:=by omega
       have r4:r<1:=by omega
       cases H<;>cases X<;>cases N<;>cases E<;>simp[d3,d6,d11,d13,d15,d17,d18,m0,n0,r0,r2,r3,r4]at em'⊢)
end Go.Abs.At
namespace Go.Abs.At
open Go Go.Abs Go.Proofs.AtD
attribute [local simp] Nat.add_assoc
def nL:Prop:=∀ {l:List Int},l.length≤50→∀ {σ:ah} {k kp:AV→ah→Prop},k (bool (decide l.Nodup)) σ→Ev PR 75 [aO l] σ k kp
theorem AT.Ok.zz {t:AT} (h:t.Ok):t.aH.length≤50:=by
 obtain⟨a,b,c,d,e,f,g⟩:=t
 have:=h.1
 simp only[AT.small]at this
 exact this.2.1
theorem zg (once:nL) {t:AT} (hok:t.Ok) (hkd:jg t.h.kind) {σ:ah} {k kp:AV→ah→Prop} (hk:k (bool (bN t)) σ):Ev PR 41 [t.v] σ k kp:=by
 refine Ev.bB hk ((Dat.val _).low _) fun k' hk'=> ?_
 apply EG;unfold F41
 simp[an]
 refine of_ev ?_
 rw[xo]
 simp
 generalize hτ:ah.set _ _ _=τ
 have g0:τ.get σ.next=some (.cells 19 [t.av]):=by rw[←hτ];simp[au,an]
 have g1:τ.get (σ.next+1)=some (.cells 5 [[bool (su t.h.kind),bool (mO t.h.kind),bool (sr t.h.kind),bool (fT t.h.kind),bool (wT t.h.kind)]]):=by rw[←hτ];simp[au,an]
 have hG:aq σ τ:=by rw[←hτ];exact((aq.new _ _).trans (aq.new _ _)).set (by simp) _
 clear hτ
 have fin:∀v,oN t=v→k' (bool v) τ:=fun v h=>by rw[←h,zf];exact hk' _ hG
 refine bw (fun fr υ=>υ=τ∧fr= [(1,.ptr σ.next 0 0),(3,.ptr (σ.next+1) 0 0),(8,bool (!(cW t&&dM t (su t.h.kind) (mO t.h.kind)&&(!decide (t.h.kind=13)||decide t.aH.Nodup))))]) ?_ ?_
 ·simp[g0,g1]
  refine wZ hkd (by have:=hok.size;omega) ?_
  cases hH:cW t
  ·simp
  simp[g0,g1]
  refine kE hok.aH ?_
  cases hR:dM t (su t.h.kind) (mO t.h.kind)
  ·simp
  simp[g0,g1]
  by_cases h13:t.h.kind=13
  ·simp[h13,g0,g1]
   refine once hok.zz ?_
   simp
  ·simp[h13]
 ·rintro fr υ ⟨rfl,rfl⟩
  cases hX:(cW t&&dM t (su t.h.kind) (mO t.h.kind)&&(!decide (t.h.kind=13)||decide t.aH.Nodup))
  ·simp
   exact fin _ (by simp[oN,hX])
  simp[g0,g1]
  refine bw (fun fr ω=>ω=υ∧fr= [(1,.ptr σ.next 0 0),(3,.ptr (σ.next+1) 0 0),(26,bool (!(if sr t.h.kind=true then bQ t.eff else decide (t.eff.length=0))))]) ?_ ?_
  ·have hlen:∀ω,aE .slice (aT t.eff) ω=some (int t.eff.length):=fun ω=>by simp[aT]
   cases hE:sr t.h.kind
   ·simp[g0,g1,hE,hlen]
    cases t.eff<;>simp
   ·simp[g0,g1,hE]
    refine p6 hok.eff ?_
    cases hm:bQ t.eff<;>simp[g0,g1,hE,hm]
  ·rintro fr ω ⟨rfl,rfl⟩
   cases hY:(if sr t.h.kind=true then bQ t.eff else decide (t.eff.length=0))
   ·simp
    exact fin _ (by simp only[oN,hX,hY];rfl)
   simp[g0,g1]
   refine sx hok.type ?_
   cases hT:(if fT t.h.kind=true then t.type.may else cR t.type)
   ·simp
    exact fin _ (by simp only[oN,hX,hY,hT];rfl)
   simp[g0,g1]
   refine sx hok.res ?_
   cases hS:(if wT t.h.kind=true then t.res.may else cR t.res)
   all_goals
    first | simp | skip
    exact fin _ (by simp only[oN,hX,hY,hT,hS];rfl)
end Go.Abs.At
