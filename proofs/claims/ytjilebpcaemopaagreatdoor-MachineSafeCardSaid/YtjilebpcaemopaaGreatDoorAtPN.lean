import Derived.Test.YtjilebpcaemopaaGreatDoorAtW
import Derived.Test.YtjilebpcaemopaaGreatDoorAtU
import Derived.Test.YtjilebpcaemopaaGreatDoorAtNodesP
set_option linter.unusedVariables false
set_option linter.unusedSimpArgs false
namespace Go.Abs.At
open Go Go.Abs Go.Proofs.AtD
attribute [local simp] Nat.add_assoc
def mC (x:T):Bool:=bH x.h x.kids.length
theorem Al {l:List T} (hb:T.aJ l<1000000000000) (hk:∀x∈T.bI l,kM x.h.kind∧x.size<1000000000000) {σ:ah} {k kp:AV→ah→Prop} (hq:k (bool ((T.bI l).all mC)) σ):Ev PR 157 [.fn (.func 158) [],T.vs l] σ k kp:=by
 refine Ev.bC hq ((Dat.val _).low _) fun k' hk'=> ?_
 refine T.lQ 158 [] 0 (fun τ=>aq σ τ∧(T.bI l).all mC=false) _ l (Nat.le_refl _) hb (fun i φ=>aq σ φ∧∀x∈(T.bI l).take i,mC x=true) ?_ ?_ σ _ _ (Nat.zero_le _) ⟨aq.refl _,by simp⟩ ?_ ?_
 ·rintro i φ ψ ⟨h1,h2⟩ h3
  exact⟨h1.trans h3,h2⟩
 ·rintro i x hi φ q qp _ ⟨h1,h2⟩ hT hF
  have hx:=List.mem_of_getElem? hi
  obtain⟨hb1,hb2⟩:=hk x hx
  refine xT hb1 hb2 ?_
  cases hc:bH x.h x.kids.length
  ·refine hF φ (Up.refl _ _ _) ⟨h1,?_⟩
   cases hh:(T.bI l).all mC
   ·rfl
   ·have:=List.all_eq_true.1 hh x hx
    simp only[mC,hc]at this;cases this
  ·refine hT φ (Up.refl _ _ _) ⟨h1,fun y hy=> ?_⟩
   rw[List.take_add_one,hi]at hy
   rcases List.mem_append.1 hy with h | h
   ·exact h2 y h
   ·simp at h;subst h;exact hc
 ·rintro τ hu ⟨h1,h2⟩
  rw[←T.cx,List.take_length]at h2
  have:=hk' _ h1
  rw[List.all_eq_true.2 h2]at this
  exact this
 ·rintro τ hu ⟨h1,h2⟩
  have:=hk' _ h1
  rw[h2]at this
  exact this
theorem An {t:T} (hb:t.size≤4000) (hk:∀x∈t.all,kM x.h.kind) {σ:ah} {k kp:AV→ah→Prop} (hq:k (bool (wJ t)) σ):Ev PR 113 [t.v] σ k kp:=by
 refine Ev.bC hq ((Dat.val _).low _) fun k' hk'=> ?_
 apply AN;unfold F113
 simp[an]
 have e1:T.aJ [t]=t.size:=by simp[T.aJ]
 have e3:T.bI [t]=t.all:=by simp[T.bI]
 refine Ev.iX (.cons (T.oM t) .nil) ?_
 refine T.pW (by omega) ?_
 have h1:(T.aJ [t]:Int)≤4000:=by omega
 simp[h1,an]
 refine Ev.iX (.cons (.refl _) (.cons (T.oM t) .nil)) ?_
 refine Al (by omega) (fun x hx=> ?_) ?_
 ·rw[e3]at hx
  exact⟨hk x hx,by have:=T.vQ t x hx;omega⟩
 ·rw[e3]
  have:=hk' _ (aq.new σ (.cells 8 [t.av]))
  simp only[wJ,hb,decide_true,Bool.true_and]at this
  exact this
theorem xR {t:AT} (h3:t.kids.length≤3):wJ (stub t)=bH t.h t.kids.length:=by
 have hl:bH leaf.h leaf.kids.length=true:=by decide
 have hs:(stub t).size≤4000:=by rw[rk];omega
 have hks:(stub t).kids.length=t.kids.length:=by simp[stub,T.kids]
 simp only[wJ,hs,decide_true,Bool.true_and]
 cases hc:bH t.h t.kids.length
 ·cases hh:(stub t).all.all fun x=>bH x.h x.kids.length
  ·rfl
  ·have:=List.all_eq_true.1 hh (stub t) (by rw[T.all_eq];simp)
   rw[hks]at this
   have e:(stub t).h=t.h:=rfl
   rw[e,hc]at this;cases this
 ·refine List.all_eq_true.2 fun x hx=> ?_
  rcases T.sC hx with rfl | rfl
  ·rw[hks];exact hc
  ·exact hl
theorem vu {t:AT} (h:kM t.h.kind):∀x∈(stub t).all,kM x.h.kind:=fun x hx=>by
 rcases T.sC hx with rfl | rfl
 ·exact h
 ·exact⟨by decide,by decide⟩
theorem Ao (h:Head) {n:Nat} (hn:4≤n):bH h n=false:=by
 have:=zd h.kind
 have:¬((n:Int)=bp h.kind):=by omega
 simp[bH,this]
theorem Ga {h:Head} (hk:h.kind=17):decide (h=⟨17,0,h.pos,0,ByteArray.empty,ByteArray.empty,ByteArray.empty⟩)=(gf h&&decide (h.name=ByteArray.empty)):=by
 obtain⟨a1,a2,a3,a4,a5,a6,a7⟩:=h
 simp only at hk
 subst hk
 by_cases b2:a2=0<;>by_cases b4:a4=0<;>by_cases b5:a5=ByteArray.empty<;>by_cases b6:a6=ByteArray.empty<;>by_cases b7:a7=ByteArray.empty<;>simp[gf,b2,b4,b5,b6,b7]
theorem Gp {t:AT} (h18:t.h.kind=18):dx t=(decide (t.kids.length≤3)&&bH {t.h with kind:=2} t.kids.length):=by
 have e0:bp 2=0:=rfl
 have en:((t.kids.length:Int)=0)=(t.kids.length=0):=by simp
 have hh:dx t=(gf t.h&&cQ t.h.name&&decide (0≤t.h.pos)&&decide (t.kids.length=0)):=by
  unfold dx;rw[if_neg (by omega),if_pos h18]
 rw[hh]
 simp only[bH,e0,en]
 have k9:¬((2:Int)=9):=by decide
 have k1:decide ((2:Int)=1)=false:=by decide
 have k2:decide (True∨(2:Int)=12∨(2:Int)=13)=true:=by simp
 have k3:decide ((2:Int)=11∨(2:Int)=13∨(2:Int)=16)=false:=by decide
 have k4:decide ((2:Int)=15∨(2:Int)=16)=false:=by decide
 have k0:decide ((0:Int)≤0)=true:=by decide
 rw[if_neg k9,k1,k2,k3,k4,k0]
 simp only[gS,gf,if_true,Bool.false_eq_true,if_false,Bool.true_and,Bool.false_or]
 by_cases b3:t.kids.length=0
 ·have h3:t.kids.length≤3:=by omega
  simp only[b3,h3,decide_true,Bool.true_and,Bool.and_true]
  by_cases c1:t.h.op=0<;>by_cases c2:t.h.n=0<;>by_cases c3:t.h.arg=ByteArray.empty<;>by_cases c4:t.h.exn=ByteArray.empty<;>by_cases c5:0≤t.h.pos<;>cases c6:cQ t.h.name<;>simp[c1,c2,c3,c4,c5,c6]
 ·simp only[b3,decide_false,Bool.false_and,Bool.and_false]
theorem xm {t:AT} (hkd:kM t.h.kind) (hb:t.size<1000000000000) {σ:ah} {k kp:AV→ah→Prop} (hk:k (bool (dx t)) σ):Ev PR 73 [t.v] σ k kp:=by
 refine Ev.bC hk ((Dat.val _).low _) fun k' hk'=> ?_
 apply Fi;unfold F73
 have hlen:∀ω,aD .slice (AT.vs t.kids) ω=some (int t.kids.length):=fun ω=>by simp
 have hkl:=t.cA
 have e5:((t.kids.length:Int)=1)=(t.kids.length=1):=by simp;omega
 simp[an]
 generalize hτ:σ.new _=τ
 have g0:τ.get σ.next=some (.cells 19 [t.av]):=by rw[←hτ];simp[an]
 have hG:aq σ τ:=by rw[←hτ];exact aq.new _ _
 clear hτ
 refine bx (fun fr υ=>fr= [(1,.ptr σ.next 0 0)]∧aq σ υ∧∃t':AT,υ.get σ.next=some (.cells 19 [t'.av])∧kM t'.h.kind∧t'.size=t.size∧t'.kids=t.kids∧dx t=(decide (t'.kids.length≤3)&&bH t'.h t'.kids.length)) ?_ ?_
 ·simp[g0]
  by_cases h17:t.h.kind=17
  ·have hq:ar .eql (.agg [.i,.i,.i,.i,.s,.s,.s]) (.agg t.h.av) (.agg [u8 17,u8 0,int t.h.pos,int 0,str ByteArray.empty,str ByteArray.empty,str ByteArray.empty])=some (bool (gf t.h&&decide (t.h.name=ByteArray.empty))):=by
    have:=Gg t.h ⟨17,0,t.h.pos,0,ByteArray.empty,ByteArray.empty,ByteArray.empty⟩
    have e:(Head.av ⟨17,0,t.h.pos,0,ByteArray.empty,ByteArray.empty,ByteArray.empty⟩)= [u8 17,u8 0,int t.h.pos,int 0,str ByteArray.empty,str ByteArray.empty,str ByteArray.empty]:=rfl
    rw[e]at this
    rw[yh,this]
    have:decide (t.h=⟨17,0,t.h.pos,0,ByteArray.empty,ByteArray.empty,ByteArray.empty⟩)=(gf t.h&&decide (t.h.name=ByteArray.empty)):=Ga h17
    rw[this];rfl
   have fin:∀v,dx t=v→k' (bool v) τ:=fun v h=>by rw[←h];exact hk' _ hG
   simp[h17,g0]
   refine gp (x:=bool (gf t.h&&decide (t.h.name=ByteArray.empty))) hq ?_
   cases hb1:(gf t.h&&decide (t.h.name=ByteArray.empty))<;>by_cases b2:0≤t.h.pos<;>by_cases b3:t.kids.length=1
   all_goals
    simp[g0,b2,b3,hlen,e5]
    exact fin _ (by simp[dx,h17,hb1,b2,b3])
  ·by_cases h18:t.h.kind=18
   ·simp[h17,h18,g0]
    refine⟨hG.set (Nat.le_refl _) _,.mk {t.h with kind:=2} t.rho t.aG t.eff t.type t.res t.kids,?_,?_,?_,rfl,?_⟩
    ·obtain⟨h,r,rs,e,ty,re,ks⟩:=t;rfl
    ·exact⟨(by decide:(0:Int)≤2),(by decide:(2:Int)≤255)⟩
    ·obtain⟨h,r,rs,e,ty,re,ks⟩:=t;rfl
    ·exact Gp h18
   ·simp[h17,h18]
    refine⟨hG,t,rfl,hkd,rfl,rfl,?_⟩
    simp only[dx,h17,h18,if_false]
    by_cases h3:t.kids.length≤3
    ·have:min t.kids.length 4=t.kids.length:=by omega
     rw[this];simp[h3]
    ·have:min t.kids.length 4=4:=by omega
     rw[this,Ao t.h (Nat.le_refl 4)];simp[h3]
 ·rintro fr υ ⟨rfl,u1,t',u2,u3,u4,u5,u6⟩
  have hlen':∀ω,aD .slice (AT.vs t'.kids) ω=some (int t'.kids.length):=fun ω=>by simp
  have hkl':=t'.cA
  have fin:=hk' _ u1
  rw[u6]at fin
  by_cases h3:t'.kids.length≤3
  ·have h3':(t'.kids.length:Int)≤3:=by omega
   simp[u2,hlen',h3']
   refine Dx (by omega) ?_
   refine An (by rw[rk];omega) (vu u3) ?_
   rw[xR h3]
   simpa [h3] using fin
  ·have h3':¬(t'.kids.length:Int)≤3:=by omega
   simp[u2,hlen',h3']
   simpa [h3] using fin
theorem tw {l:List Int}:l.Nodup↔∀(i:Nat) (r:Int),l[i]?=some r→r∉l.take i:=by
 induction l with
 | nil=>simp
 | cons a l ih=>
  rw[List.nodup_cons,ih]
  constructor
  ·rintro⟨h1,h2⟩ i r hi hm
   cases i with
   | zero=>simp at hm
   | succ i=>
    simp only[List.getElem?_cons_succ]at hi
    simp only[List.take_succ_cons,List.mem_cons]at hm
    rcases hm with rfl | hm
    ·exact h1 (List.mem_of_getElem? hi)
    ·exact h2 i r hi hm
  ·intro h
   refine⟨fun hm=> ?_,fun i r hi hm=> ?_⟩
   ·obtain⟨j,hj⟩:=List.getElem?_of_mem hm
    exact h (j+1) a (by simpa using hj) (by simp)
   ·exact h (i+1) r (by simpa using hi) (by simp[hm])
theorem tF (t:AT):eC t=(!decide (∃r∈t.aG,r<if t.h.kind=13 then 1 else 0)&&(!decide (t.h.kind=13)||decide t.aG.Nodup)):=by
 cases hh:eC t
 ·symm
  obtain⟨i,hi,hf⟩:∃i,i<t.aG.length∧fk t i=false:=by
   have:¬∀i,i<t.aG.length→fk t i=true:=fun h=>by rw[mu h]at hh;cases hh
   simp only[Classical.not_forall]at this
   obtain⟨i,h1,h2⟩:=this
   exact⟨i,h1,by simpa using h2⟩
  obtain⟨r,hr⟩:=get_some hi
  have hrm:=List.mem_of_getElem? hr
  simp only[fk,hr,Bool.and_eq_false_imp,decide_eq_true_eq]at hf
  by_cases h13:t.h.kind=13
  ·simp only[h13,if_true,decide_true,Bool.not_true,Bool.false_or]
   by_cases h1:r<1
   ·have:decide (∃r∈t.aG,r<1)=true:=decide_eq_true ⟨r,hrm,h1⟩
    simp[this]
   ·have hnd:¬t.aG.Nodup:=fun hnd=>by
     have h2:=tw.1 hnd i r hr
     have h3:=hf (by omega)
     have h0:¬r=0:=by omega
     simp[h13,h0,h2]at h3
    simp[hnd]
  ·simp only[h13,if_false]
   have:r<0:=by
    refine Classical.byContradiction fun h=> ?_
    have:=hf (by omega)
    simp[h13]at this
   have:decide (∃r∈t.aG,r<0)=true:=decide_eq_true ⟨r,hrm,this⟩
   simp[this]
 ·symm
  have hall:∀(i:Nat) r,t.aG[i]?=some r→0≤r∧(t.h.kind=13→r≠0∧r∉t.aG.take i):=fun i r hr=>by
   have hi:=(List.getElem?_eq_some_iff.1 hr).1
   have:=List.all_eq_true.1 hh i (List.mem_range.2 hi)
   simp only[fk,hr,Bool.and_eq_true,decide_eq_true_eq,Bool.or_eq_true,Bool.not_eq_true',decide_eq_false_iff_not]at this
   refine⟨this.1,fun h13=> ?_⟩
   rcases this.2 with h | h
   ·exact absurd h13 h
   ·exact h
  have h1:¬∃r∈t.aG,r<if t.h.kind=13 then 1 else 0:=by
   rintro⟨r,hr,hlt⟩
   obtain⟨i,hi⟩:=List.getElem?_of_mem hr
   obtain⟨a,b⟩:=hall i r hi
   split at hlt
   ·rename_i h;have:=(b h).1;omega
   ·omega
  have h2:t.h.kind=13→t.aG.Nodup:=fun h=>tw.2 fun i r hr=>((hall i r hr).2 h).2
  by_cases h13:t.h.kind=13
  ·simp[h13,h2 h13]at h1⊢
   exact h1
  ·simp[h13]at h1⊢
   exact h1
def sU (k:Int):Bool:=decide (k=3∨k=6∨k=17∨k=11∨k=13∨k=18)
def nw (k:Int):Bool:=decide (k=13∨k=18)
def sT (k:Int):Bool:=decide (k=11∨k=13∨k=18)
def fT (k:Int):Bool:=decide (k=11∨k=13∨k=15)
def xe (k:Int):Bool:=decide (k=13)
theorem xC (k:Int):pv k= [sU k,nw k,sT k,fT k,xe k]:=by
 unfold pv sU nw sT fT xe
 by_cases h3:k=3
 ·subst h3;decide
 by_cases h6:k=6
 ·subst h6;decide
 by_cases h17:k=17
 ·subst h17;decide
 by_cases h11:k=11
 ·subst h11;decide
 by_cases h13:k=13
 ·subst h13;decide
 by_cases h15:k=15
 ·subst h15;decide
 by_cases h18:k=18
 ·subst h18;decide
 simp[h3,h6,h17,h11,h13,h15,h18]
def pr (t:AT):Bool:=
 (dx t&&eA t (sU t.h.kind) (nw t.h.kind)&&(!decide (t.h.kind=13)||decide t.aG.Nodup))&&(if sT t.h.kind=true then bU t.eff else decide (t.eff.length=0))
 &&((if fT t.h.kind=true then t.type.may else dt t.type)&&(if xe t.h.kind=true then t.res.may else dt t.res))
set_option maxHeartbeats 4000000 in
theorem zq (t:AT):pr t=bE t:=by
 have er:(0<t.aG.length)= ¬(t.aG.length=0):=by simp[Nat.pos_iff_ne_zero]
 have em:t.eff.length=0→bU t.eff=true:=fun h=>by simp[bU,h]
 unfold pr bE eA
 rw[tF]
 generalize decide (∃r∈t.aG,r<if t.h.kind=13 then 1 else 0)=X
 generalize dx t=H
 generalize t.type.may=A
 generalize dt t.type=B
 generalize t.res.may=C
 generalize dt t.res=D
 generalize decide t.aG.Nodup=N
 generalize bU t.eff=E at em
 generalize t.eff.length=m at em
 generalize t.aG.length=n
 generalize t.rho=r
 generalize t.h.kind=k
 clear er
 unfold sU nw sT fT xe
 by_cases d3:k=3
 ·subst d3;skip
  rcases Decidable.em (m=0) with m0 | m0
  all_goals rcases Decidable.em (n=0) with n0 | n0
  all_goals rcases Int.lt_trichotomy r 0 with r0 | r0 | r0
  all_goals
   have em':=em
   first
    | (have r1:¬r<0:=by omega
       have r2:0≤r:=by omega
       have r3:r=0:=r0
       subst r3
       cases H<;>cases X<;>cases N<;>cases E<;>simp[m0,n0]at em'⊢)
    | (have r1:¬r<0:=by omega
       have r2:0≤r:=by omega
       have r3:¬r=0:=by omega
       have r4:¬r<1:=by omega
       cases H<;>cases X<;>cases N<;>cases E<;>simp[m0,n0,r1,r2,r3,r4]at em'⊢)
    | (have r2:¬0≤r:=by omega
       have r3:¬r=0:=by omega
       have r4:r<1:=by omega
       cases H<;>cases X<;>cases N<;>cases E<;>simp[m0,n0,r0,r2,r3,r4]at em'⊢)
 by_cases d6:k=6
 ·subst d6;skip
  rcases Decidable.em (m=0) with m0 | m0
  all_goals rcases Decidable.em (n=0) with n0 | n0
  all_goals rcases Int.lt_trichotomy r 0 with r0 | r0 | r0
  all_goals
   have em':=em
   first
    | (have r1:¬r<0:=by omega
       have r2:0≤r:=by omega
       have r3:r=0:=r0
       subst r3
       cases H<;>cases X<;>cases N<;>cases E<;>simp[m0,n0]at em'⊢)
    | (have r1:¬r<0:=by omega
       have r2:0≤r:=by omega
       have r3:¬r=0:=by omega
       have r4:¬r<1:=by omega
       cases H<;>cases X<;>cases N<;>cases E<;>simp[m0,n0,r1,r2,r3,r4]at em'⊢)
    | (have r2:¬0≤r:=by omega
       have r3:¬r=0:=by omega
       have r4:r<1:=by omega
       cases H<;>cases X<;>cases N<;>cases E<;>simp[m0,n0,r0,r2,r3,r4]at em'⊢)
 by_cases d11:k=11
 ·subst d11;skip
  rcases Decidable.em (m=0) with m0 | m0
  all_goals rcases Decidable.em (n=0) with n0 | n0
  all_goals rcases Int.lt_trichotomy r 0 with r0 | r0 | r0
  all_goals
   have em':=em
   first
    | (have r1:¬r<0:=by omega
       have r2:0≤r:=by omega
       have r3:r=0:=r0
       subst r3
       cases H<;>cases X<;>cases N<;>cases E<;>simp[m0,n0]at em'⊢)
    | (have r1:¬r<0:=by omega
       have r2:0≤r:=by omega
       have r3:¬r=0:=by omega
       have r4:¬r<1:=by omega
       cases H<;>cases X<;>cases N<;>cases E<;>simp[m0,n0,r1,r2,r3,r4]at em'⊢)
    | (have r2:¬0≤r:=by omega
       have r3:¬r=0:=by omega
       have r4:r<1:=by omega
       cases H<;>cases X<;>cases N<;>cases E<;>simp[m0,n0,r0,r2,r3,r4]at em'⊢)
 by_cases d13:k=13
 ·subst d13;skip
  rcases Decidable.em (m=0) with m0 | m0
  all_goals rcases Decidable.em (n=0) with n0 | n0
  all_goals rcases Int.lt_trichotomy r 0 with r0 | r0 | r0
  all_goals
   have em':=em
   first
    | (have r1:¬r<0:=by omega
       have r2:0≤r:=by omega
       have r3:r=0:=r0
       subst r3
       cases H<;>cases X<;>cases N<;>cases E<;>simp[m0,n0]at em'⊢)
    | (have r1:¬r<0:=by omega
       have r2:0≤r:=by omega
       have r3:¬r=0:=by omega
       have r4:¬r<1:=by omega
       cases H<;>cases X<;>cases N<;>cases E<;>simp[m0,n0,r1,r2,r3,r4]at em'⊢)
    | (have r2:¬0≤r:=by omega
       have r3:¬r=0:=by omega
       have r4:r<1:=by omega
       cases H<;>cases X<;>cases N<;>cases E<;>simp[m0,n0,r0,r2,r3,r4]at em'⊢)
 by_cases d15:k=15
 ·subst d15;skip
  rcases Decidable.em (m=0) with m0 | m0
  all_goals rcases Decidable.em (n=0) with n0 | n0
  all_goals rcases Int.lt_trichotomy r 0 with r0 | r0 | r0
  all_goals
   have em':=em
   first
    | (have r1:¬r<0:=by omega
       have r2:0≤r:=by omega
       have r3:r=0:=r0
       subst r3
       cases H<;>cases X<;>cases N<;>cases E<;>simp[m0,n0]at em'⊢)
    | (have r1:¬r<0:=by omega
       have r2:0≤r:=by omega
       have r3:¬r=0:=by omega
       have r4:¬r<1:=by omega
       cases H<;>cases X<;>cases N<;>cases E<;>simp[m0,n0,r1,r2,r3,r4]at em'⊢)
    | (have r2:¬0≤r:=by omega
       have r3:¬r=0:=by omega
       have r4:r<1:=by omega
       cases H<;>cases X<;>cases N<;>cases E<;>simp[m0,n0,r0,r2,r3,r4]at em'⊢)
 by_cases d17:k=17
 ·subst d17;skip
  rcases Decidable.em (m=0) with m0 | m0
  all_goals rcases Decidable.em (n=0) with n0 | n0
  all_goals rcases Int.lt_trichotomy r 0 with r0 | r0 | r0
  all_goals
   have em':=em
   first
    | (have r1:¬r<0:=by omega
       have r2:0≤r:=by omega
       have r3:r=0:=r0
       subst r3
       cases H<;>cases X<;>cases N<;>cases E<;>simp[m0,n0]at em'⊢)
    | (have r1:¬r<0:=by omega
       have r2:0≤r:=by omega
       have r3:¬r=0:=by omega
       have r4:¬r<1:=by omega
       cases H<;>cases X<;>cases N<;>cases E<;>simp[m0,n0,r1,r2,r3,r4]at em'⊢)
    | (have r2:¬0≤r:=by omega
       have r3:¬r=0:=by omega
       have r4:r<1:=by omega
       cases H<;>cases X<;>cases N<;>cases E<;>simp[m0,n0,r0,r2,r3,r4]at em'⊢)
 by_cases d18:k=18
 ·subst d18;skip
  rcases Decidable.em (m=0) with m0 | m0
  all_goals rcases Decidable.em (n=0) with n0 | n0
  all_goals rcases Int.lt_trichotomy r 0 with r0 | r0 | r0
  all_goals
   have em':=em
   first
    | (have r1:¬r<0:=by omega
       have r2:0≤r:=by omega
       have r3:r=0:=r0
       subst r3
       cases H<;>cases X<;>cases N<;>cases E<;>simp[m0,n0]at em'⊢)
    | (have r1:¬r<0:=by omega
       have r2:0≤r:=by omega
       have r3:¬r=0:=by omega
       have r4:¬r<1:=by omega
       cases H<;>cases X<;>cases N<;>cases E<;>simp[m0,n0,r1,r2,r3,r4]at em'⊢)
    | (have r2:¬0≤r:=by omega
       have r3:¬r=0:=by omega
       have r4:r<1:=by omega
       cases H<;>cases X<;>cases N<;>cases E<;>simp[m0,n0,r0,r2,r3,r4]at em'⊢)
 ·skip
  rcases Decidable.em (m=0) with m0 | m0
  all_goals rcases Decidable.em (n=0) with n0 | n0
  all_goals rcases Int.lt_trichotomy r 0 with r0 | r0 | r0
  all_goals
   have em':=em
   first
    | (have r1:¬r<0:=by omega
       have r2:0≤r:=by omega
       have r3:r=0:=r0
       subst r3
       cases H<;>cases X<;>cases N<;>cases E<;>simp[d3,d6,d11,d13,d15,d17,d18,m0,n0]at em'⊢)
    | (have r1:¬r<0:=by omega
       have r2:0≤r:=by omega
       have r3:¬r=0:=by omega
       have r4:¬r<1:=by omega
       cases H<;>cases X<;>cases N<;>cases E<;>simp[d3,d6,d11,d13,d15,d17,d18,m0,n0,r1,r2,r3,r4]at em'⊢)
    | (have r2:¬0≤r:=by omega
       have r3:¬r=0:=by omega
       have r4:r<1:=by omega
       cases H<;>cases X<;>cases N<;>cases E<;>simp[d3,d6,d11,d13,d15,d17,d18,m0,n0,r0,r2,r3,r4]at em'⊢)
end Go.Abs.At
namespace Go.Abs.At
open Go Go.Abs Go.Proofs.AtD
attribute [local simp] Nat.add_assoc
def ou:Prop:=∀ {l:List Int},l.length≤50→∀ {σ:ah} {k kp:AV→ah→Prop},k (bool (decide l.Nodup)) σ→Ev PR 75 [aP l] σ k kp
theorem AT.Ok.zL {t:AT} (h:t.Ok):t.aG.length≤50:=by
 obtain⟨a,b,c,d,e,f,g⟩:=t
 have:=h.1
 simp only[AT.small]at this
 exact this.2.1
theorem zr (once:ou) {t:AT} (hok:t.Ok) (hkd:kM t.h.kind) {σ:ah} {k kp:AV→ah→Prop} (hk:k (bool (bE t)) σ):Ev PR 41 [t.v] σ k kp:=by
 refine Ev.bC hk ((Dat.val _).low _) fun k' hk'=> ?_
 apply EW;unfold F41
 simp[an]
 refine of_ev ?_
 rw[xC]
 simp
 generalize hτ:ah.set _ _ _=τ
 have g0:τ.get σ.next=some (.cells 19 [t.av]):=by rw[←hτ];simp[au,an]
 have g1:τ.get (σ.next+1)=some (.cells 5 [[bool (sU t.h.kind),bool (nw t.h.kind),bool (sT t.h.kind),bool (fT t.h.kind),bool (xe t.h.kind)]]):=by rw[←hτ];simp[au,an]
 have hG:aq σ τ:=by rw[←hτ];exact((aq.new _ _).trans (aq.new _ _)).set (by simp) _
 clear hτ
 have fin:∀v,pr t=v→k' (bool v) τ:=fun v h=>by rw[←h,zq];exact hk' _ hG
 refine bx (fun fr υ=>υ=τ∧fr= [(1,.ptr σ.next 0 0),(3,.ptr (σ.next+1) 0 0),(8,bool (!(dx t&&eA t (sU t.h.kind) (nw t.h.kind)&&(!decide (t.h.kind=13)||decide t.aG.Nodup))))]) ?_ ?_
 ·simp[g0,g1]
  refine xm hkd (by have:=hok.size;omega) ?_
  cases hH:dx t
  ·simp
  simp[g0,g1]
  refine lp hok.aG ?_
  cases hR:eA t (sU t.h.kind) (nw t.h.kind)
  ·simp
  simp[g0,g1]
  by_cases h13:t.h.kind=13
  ·simp[h13,g0,g1]
   refine once hok.zL ?_
   simp
  ·simp[h13]
 ·rintro fr υ ⟨rfl,rfl⟩
  cases hX:(dx t&&eA t (sU t.h.kind) (nw t.h.kind)&&(!decide (t.h.kind=13)||decide t.aG.Nodup))
  ·simp
   exact fin _ (by simp[pr,hX])
  simp[g0,g1]
  refine bx (fun fr ω=>ω=υ∧fr= [(1,.ptr σ.next 0 0),(3,.ptr (σ.next+1) 0 0),(26,bool (!(if sT t.h.kind=true then bU t.eff else decide (t.eff.length=0))))]) ?_ ?_
  ·have hlen:∀ω,aD .slice (aT t.eff) ω=some (int t.eff.length):=fun ω=>by simp[aT]
   cases hE:sT t.h.kind
   ·simp[g0,g1,hE,hlen]
    cases t.eff<;>simp
   ·simp[g0,g1,hE]
    refine qC hok.eff ?_
    cases hm:bU t.eff<;>simp[g0,g1,hE,hm]
  ·rintro fr ω ⟨rfl,rfl⟩
   cases hY:(if sT t.h.kind=true then bU t.eff else decide (t.eff.length=0))
   ·simp
    exact fin _ (by simp only[pr,hX,hY];rfl)
   simp[g0,g1]
   refine sW hok.type ?_
   cases hT:(if fT t.h.kind=true then t.type.may else dt t.type)
   ·simp
    exact fin _ (by simp only[pr,hX,hY,hT];rfl)
   simp[g0,g1]
   refine sW hok.res ?_
   cases hS:(if xe t.h.kind=true then t.res.may else dt t.res)
   all_goals
    first | simp | skip
    exact fin _ (by simp only[pr,hX,hY,hT,hS];rfl)
end Go.Abs.At
