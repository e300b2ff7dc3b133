import Derived.Test.YtjilebpcaemopaaGreatDoorMacDecS
import Derived.Test.YtjilebpcaemopaaGreatDoorChkM
import Derived.Test.YtjilebpcaemopaaGreatDoorAbsO
set_option linter.unusedVariables false
set_option linter.unusedSimpArgs false
set_option linter.deprecated false
namespace Go.Abs.Chk
open Go Go.Abs Go.Abs.At Go.Proofs.ChkD
attribute [local simp] Nat.add_assoc
variable {σ:ah} {k kp:AV→ah→Prop}
theorem e8 {n m sz by':Nat} {φ:ah} {x:AV} {rows:List (List AV)} {el:List AV} {k:AV→ah→Prop} (hK:Kid n m sz φ x rows) (hm:n+m≤φ.next) (hb:(rows.length+1) * by'≤140737488355328∧rows.length+1≤140737488355328)
 (hk:∀y ω,Kid n m sz ω y (rows++ [el])→(∀j,j<n+m→ω.get j=φ.get j)→ω.next=φ.next+2→k y ω):ab (aY sz by' x (.own φ.next 1) (φ.new (.cells sz [el]))) k:=by
 have f3:=hK.aQ (aq.new φ (.cells sz [el]))
 have hy:Rows (φ.new (.cells sz [el])) sz (.own φ.next 1) [el]:=.inr (.inr ⟨φ.next,[],rfl,by simp[an]⟩)
 refine bL (bX (by':=by') f3.rows f3.ns hy (by simpa using hb)) ?_
 obtain⟨p1,p2,p3⟩:=f3.app (by simp;omega) [el]
 exact hk _ _ p1 (fun j hj=>by rw[p2 j hj,an,if_neg (by omega)]) (by rw[p3];simp)
theorem fc {n m sz:Nat} {φ:ah} (hm:n+m≤φ.next):Kid n m sz (φ.new (.cells sz [])) (.own φ.next 0) []:=.inr ⟨φ.next,[],rfl,by simp[an],hm,by simp⟩
theorem bV {σ φ ω:ah} (h:aq σ φ) (hg:∀j,j<σ.next→ω.get j=φ.get j) (hn:φ.next≤ω.next):aq σ ω:=⟨Nat.le_trans h.next hn,fun i hi=>(hg i hi).trans (h.get i hi)⟩
def fX (n m sz:Nat) (φ:ah) (x:AV) (rows:List (List AV)):Prop:=x= .sl false sz rows∨Kid n m sz φ x rows
theorem fX.rows {n m sz φ x rows} (h:fX n m sz φ x rows):Rows φ sz x rows:=by
 rcases h with rfl | h
 ·exact .inr (.inl ⟨_,rfl⟩)
 ·exact h.rows
theorem fX.frz {n m sz υ x rows} (h:fX n m sz υ x rows) (hd:∀el∈rows,∀y∈el,Dat y):Frz υ n x (.sl false sz rows):=by
 rcases h with rfl | h
 ·exact .low ((Dat.sl hd).low _)
 ·exact h.frz hd
theorem fX.call {n m sz:Nat} {φ:ah} {x:AV} {rows:List (List AV)} (h:fX n m sz φ x rows) {P:Program} {f:FuncId} {ys:List AV} {K kp:AV→ah→Prop}
 (H:∀φ',(∀j,j<n+m→φ'.get j=φ.get j)→φ'.next=φ.next→Ev P f (.sl false sz rows::ys) φ' K kp):Ev P f (x::ys) φ K kp:=by
 rcases h with rfl | ⟨rfl,rfl⟩ | ⟨q,rest,rfl,h2,h3,h4⟩
 ·exact H φ (fun _ _=>rfl) rfl
 ·exact Ev.iX (.cons .nil (FzL.refl _)) (H φ (fun _ _=>rfl) rfl)
 ·refine Ev.freeze (FzS.del φ q) (.cons ((FzR.refl _).own rfl rfl h2) (FzL.refl _)) (H _ (fun j hj=> ?_) rfl)
  rw[bM,if_neg (by omega)]
theorem pN (l:List Int):∀el∈l.map (fun r=>[int r]),∀y∈el,Dat y:=by
 intro el hel y hy
 obtain⟨r,_,rfl⟩:=List.mem_map.1 hel
 simp at hy;subst hy;exact Dat.val _
theorem lT (l:List Atom):∀el∈l.map Atom.av,∀y∈el,Dat y:=by
 intro el hel y hy
 obtain⟨r,_,rfl⟩:=List.mem_map.1 hel
 simp[Atom.av]at hy
 rcases hy with rfl | rfl | rfl<;>exact Dat.val _
theorem fL (l:List Int):Dat (aP l):=.sl (pN l)
theorem gQ (l:List Atom):Dat (aT l):=.sl (lT l)
theorem gD (σ:ah):aq σ σ:=⟨Nat.le_refl _,fun _ _=>rfl⟩
theorem s6 {n:Int} {l:List Int}:(jI n l).length=l.length+1:=by
 induction l with
 | nil=>rfl
 | cons y l ih=>
  unfold jI
  split
  ·simp
  ·simp[ih]
theorem gW {n:Int} {l:List Int}:(dV l n).length≤l.length+1:=by
 unfold dV
 split
 ·omega
 ·rw[s6];omega
def lV (n:Int) (done:Bool) (l:List Int):List Int:=if done then l else jI n l
theorem bF {body:aB→ah→(aB→ah→Prop)→Prop} (I:aB→ah→Prop) (μ:aB→ah→Nat) {fr:aB} {σ:ah} (h0:I fr σ) (hb:∀fr σ,I fr σ→body fr σ fun fr' σ'=>I fr' σ'∧μ fr' σ'<μ fr σ):bn body fr σ:=⟨I,μ,h0,hb⟩
theorem ln {l:List Int} {n:Int} (hb:l.length<1000000000000) (hk:k (aP (dV l n)) σ):Ev PR 175 [aP l,int n] σ k kp:=by
 refine Ev.pure ?_
 apply BH;unfold F175
 refine jl hb (.inr (.inl ⟨_,rfl⟩)) ?_
 unfold dV at hk
 by_cases hn:n∈l
 ·rw[if_pos hn]at hk
  simp[hn]
  exact⟨gD _,_,.low ((fL l).low _),hk⟩
 rw[if_neg hn]at hk
 simp[hn]
 have hfin:∀(y:AV) (φ:ah),Kid σ.next 0 1 φ y ((jI n l).map fun r=>[int r])→aq σ φ→aq σ φ∧∃z,Frz φ σ.next y z∧k z σ:=fun y φ hK hg=>⟨hg,_,hK.aG,hk⟩
 have hal:∀ {d:Bool} {acc r:List Int},acc++lV n d r=jI n l→acc.length≤l.length+1:=fun h=>by
  have:=congrArg List.length h
  rw[s6,List.length_append]at this
  omega
 obtain⟨J,hJ⟩:∃J:aB→ah→Prop,∀fr φ,J fr φ↔∃(d:Bool) (y:AV) (acc:List Int),fr= [(1,int n),(5,y),(6,bool d)]∧Kid σ.next 0 1 φ y (acc.map fun r=>[int r])∧aq σ φ∧acc++lV n d []=jI n l:=⟨_,fun _ _=>Iff.rfl⟩
 refine bx J ?_ ?_
 ·have hlen:∀ω,aD .slice (aP l) ω=some (int l.length):=fun ω=>by simp[aP]
  simp[hlen]
  obtain⟨I,hI⟩:∃I:aB→ah→Prop,∀fr φ,I fr φ↔∃(i:Nat) (d:Bool) (y:AV) (acc:List Int),fr= [(0,aP l),(1,int n),(5,y),(6,bool d),(14,int l.length),(15,int i)]∧i≤l.length∧Kid σ.next 0 1 φ y (acc.map fun r=>[int r])∧aq σ φ∧acc++lV n d (l.drop i)=jI n l:=⟨_,fun _ _=>Iff.rfl⟩
  refine bF I (fun fr _=>l.length - (intOf (aa fr 15)).toNat) ((hI _ _).2 ⟨0,false,.own σ.next 0,[],rfl,Nat.zero_le _,fc (by omega),aq.new _ _,rfl⟩) ?_
  intro fr φ hi
  obtain⟨i,d,y,acc,rfl,hi,hK,hg,he⟩:=(hI _ _).1 hi
  have hn0:=hg.next
  by_cases hil:i<l.length
  ·obtain⟨z,hz⟩:=get_some hil
   have hd:=cG hz
   have hia:∀ω,ak 1 (aP l) (int i) ω=some (.ref [int z]):=fun ω=>by rw[aP,aE];simp[hz]
   have hwi:IntKind.i64.wrap ((i:Int)+1)=((i+1:Nat):Int):=by rw[wrap64 (by omega)];omega
   obtain⟨J3,hJ3⟩:∃J:aB→ah→Prop,∀fr φ,J fr φ↔∃(d:Bool) (y:AV) (acc:List Int),fr= [(0,aP l),(1,int n),(5,y),(6,bool d),(7,int i),(14,int l.length),(15,int i)]∧Kid σ.next 0 1 φ y (acc.map fun r=>[int r])∧aq σ φ∧(acc++ [z])++lV n d (l.drop (i+1))=jI n l:=⟨_,fun _ _=>Iff.rfl⟩
   simp[hil]
   refine bx J3 ?_ ?_
   ·cases d with
    | true=>
     simp
     exact(hJ3 _ _).2 ⟨true,y,acc,rfl,hK,hg,by rw[←he,hd];simp[lV]⟩
    | false=>
     simp[hia]
     by_cases hlt:n<z
     ·simp[hlt]
      refine e8 hK (by omega) (by have:=hal he;simp;omega) fun y' ω h1 h2 h3=> ?_
      refine(hJ3 _ _).2 ⟨true,y',acc++ [n],rfl,by simpa using h1,bV hg (fun j hj=>h2 j (by omega)) (by omega),?_⟩
      rw[←he,hd];simp[lV,jI,hlt]
     ·simp[hlt]
      exact(hJ3 _ _).2 ⟨false,y,acc,rfl,hK,hg,by rw[←he,hd];simp[lV,jI,hlt]⟩
   ·intro fr ω hj
    obtain⟨d,y,acc,rfl,hK,hg,he⟩:=(hJ3 _ _).1 hj
    have hn1:=hg.next
    have:=hal he
    simp[hia]
    refine e8 hK (by omega) (by simp at this⊢;omega) fun y' ω' h1 h2 h3=> ?_
    simp[hwi]
    exact⟨(hI _ _).2 ⟨i+1,d,y',acc++ [z],by simp,hil,by simpa using h1,bV hg (fun j hj=>h2 j (by omega)) (by omega),he⟩,by omega⟩
  ·have hin:i=l.length:=by omega
   subst hin
   simp
   exact(hJ _ _).2 ⟨d,y,acc,rfl,hK,hg,by simpa using he⟩
 ·intro fr φ hj
  obtain⟨d,y,acc,rfl,hK,hg,he⟩:=(hJ _ _).1 hj
  have hn0:=hg.next
  have ha:=hal he
  refine aL ?_
  cases d with
  | true=>
   simp
   have e:acc=jI n l:=by simpa [lV] using he
   subst e
   exact hfin _ _ hK hg
  | false=>
   simp
   refine e8 hK (by omega) (by simp;omega) fun y' ω h1 h2 h3=> ?_
   have e:acc++ [n]=jI n l:=by simpa [lV,jI] using he
   refine hfin _ _ ?_ (bV hg (fun j hj=>h2 j (by omega)) (by omega))
   rw[←e]
   simpa using h1
end Go.Abs.Chk
set_option linter.unusedVariables false
set_option linter.unusedSimpArgs false
set_option linter.deprecated false
namespace Go.Abs.Chk
open Go Go.Abs Go.Abs.At Go.Proofs.ChkD
attribute [local simp] Nat.add_assoc
variable {σ:ah} {k kp:AV→ah→Prop}
theorem o6 {a:Atom} {l:List Atom}:(eZ a l).length=l.length+1:=by
 induction l with
 | nil=>rfl
 | cons y l ih=>
  unfold eZ
  split
  ·simp
  ·simp[ih]
theorem fh {a:Atom} {l:List Atom}:(du l a).length≤l.length+1:=by
 unfold du
 split
 ·rw[o6];omega
 ·omega
def dA (a:Atom) (done:Bool) (l:List Atom):List Atom:=if done then l else eZ a l
theorem Kid.eff {n m υ x} {l:List Atom} (h:Kid n m 3 υ x (l.map Atom.av)):Frz υ n x (aT l):=Kid.frz h (lT l)
@[simp] theorem atom_len (a:Atom):a.av.length=3:=rfl
@[simp] theorem atom_t3 (a:Atom):List.take 3 a.av=a.av:=rfl
theorem od {l:List Atom} {a:Atom} (hb:l.length<1000000000000) (hk:k (aT (du l a)) σ):Ev PR 68 [aT l,a.v] σ k kp:=by
 refine Ev.pure ?_
 apply yc;unfold F68
 simp[an]
 have hg0:aq σ (σ.new (.cells 3 [a.av])):=aq.new _ _
 have g0:(σ.new (.cells 3 [a.av])).get σ.next=some (.cells 3 [a.av]):=by simp[an]
 have hn0:(σ.new (.cells 3 [a.av])).next=σ.next+1:=rfl
 generalize σ.new (.cells 3 [a.av])=τ at hg0 g0 hn0
 refine gL ?_
 unfold du at hk
 have hsame:du l a=l→aq σ τ∧∃z,Frz τ σ.next (aT l) z∧k z σ:=fun e=>⟨hg0,_,.low ((gQ l).low _),by unfold du at e;rw[e]at hk;exact hk⟩
 by_cases hat:bw a=false
 ·simp[hat]
  exact hsame (by unfold du;rw[if_neg];simp[hat])
 have hat:bw a=true:=by simpa using hat
 simp[hat,g0]
 refine rO hb ?_
 by_cases hin:a∈l
 ·simp[hin]
  exact hsame (by unfold du;rw[if_neg];simp[hin])
 rw[if_pos ⟨hat,hin⟩]at hk
 simp[hin]
 have hfin:∀(y:AV) (φ:ah),Kid σ.next 1 3 φ y ((eZ a l).map Atom.av)→aq σ φ→aq σ φ∧∃z,Frz φ σ.next y z∧k z σ:=fun y φ hK hg=>⟨hg,_,Kid.eff hK,hk⟩
 have hal:∀ {d:Bool} {acc r:List Atom},acc++dA a d r=eZ a l→acc.length≤l.length+1:=fun h=>by
  have:=congrArg List.length h
  rw[o6,List.length_append]at this
  omega
 obtain⟨J,hJ⟩:∃J:aB→ah→Prop,∀fr φ,J fr φ↔∃(d:Bool) (y:AV) (acc:List Atom),fr= [(3,.ptr σ.next 0 0),(5,y),(6,bool d)]∧Kid σ.next 1 3 φ y (acc.map Atom.av)∧aq τ φ∧acc++dA a d []=eZ a l:=⟨_,fun _ _=>Iff.rfl⟩
 have up:∀ {φ ω:ah},aq τ φ→(∀j,j<σ.next+1→ω.get j=φ.get j)→φ.next≤ω.next→aq τ ω:=fun h1 h2 h3=>bV h1 (fun j hj=>h2 j (by omega)) h3
 refine bx J ?_ ?_
 ·have hlen:∀ω,aD .slice (aT l) ω=some (int l.length):=fun ω=>by simp[aT]
  simp[hlen]
  obtain⟨I,hI⟩:∃I:aB→ah→Prop,∀fr φ,I fr φ↔∃(i:Nat) (d:Bool) (y:AV) (acc:List Atom),fr= [(0,aT l),(3,.ptr σ.next 0 0),(5,y),(6,bool d),(19,int l.length),(20,int i)]∧i≤l.length∧Kid σ.next 1 3 φ y (acc.map Atom.av)∧aq τ φ∧acc++dA a d (l.drop i)=eZ a l:=⟨_,fun _ _=>Iff.rfl⟩
  refine bF I (fun fr _=>l.length - (intOf (aa fr 20)).toNat) ((hI _ _).2 ⟨0,false,.own τ.next 0,[],by simp,Nat.zero_le _,fc (by omega),aq.new _ _,rfl⟩) ?_
  intro fr φ hi
  obtain⟨i,d,y,acc,rfl,hi,hK,hg,he⟩:=(hI _ _).1 hi
  have hn1:=hg.next
  have f0:φ.get σ.next=some (.cells 3 [a.av]):=(hg.get _ (by omega)).trans g0
  by_cases hil:i<l.length
  ·obtain⟨z,hz⟩:=get_some hil
   have hd:=cG hz
   have hia:∀ω,ak 3 (aT l) (int i) ω=some (.ref z.av):=fun ω=>by rw[aT,aE];simp[hz]
   have hwi:IntKind.i64.wrap ((i:Int)+1)=((i+1:Nat):Int):=by rw[wrap64 (by omega)];omega
   obtain⟨J3,hJ3⟩:∃J:aB→ah→Prop,∀fr φ,J fr φ↔∃(d:Bool) (y:AV) (acc:List Atom),fr= [(0,aT l),(3,.ptr σ.next 0 0),(5,y),(6,bool d),(7,int i),(19,int l.length),(20,int i)]∧Kid σ.next 1 3 φ y (acc.map Atom.av)∧aq τ φ∧(acc++ [z])++dA a d (l.drop (i+1))=eZ a l:=⟨_,fun _ _=>Iff.rfl⟩
   simp[hil]
   refine bx J3 ?_ ?_
   ·cases d with
    | true=>
     simp
     exact(hJ3 _ _).2 ⟨true,y,acc,rfl,hK,hg,by rw[←he,hd];simp[dA]⟩
    | false=>
     simp[hia,f0]
     refine pd ?_
     by_cases hlt:iM a z=true
     ·simp[hlt,f0]
      refine e8 hK (by omega) (by have:=hal he;simp;omega) fun y' ω h1 h2 h3=> ?_
      refine(hJ3 _ _).2 ⟨true,y',acc++ [a],rfl,by simpa using h1,up hg h2 (by omega),?_⟩
      rw[←he,hd];simp[dA,eZ,hlt]
     ·simp[hlt]
      exact(hJ3 _ _).2 ⟨false,y,acc,rfl,hK,hg,by rw[←he,hd];simp[dA,eZ,hlt]⟩
   ·intro fr ω hj
    obtain⟨d,y,acc,rfl,hK,hg,he⟩:=(hJ3 _ _).1 hj
    have hn1:=hg.next
    have:=hal he
    simp[hia]
    refine e8 hK (by omega) (by simp at this⊢;omega) fun y' ω' h1 h2 h3=> ?_
    simp[hwi]
    exact⟨(hI _ _).2 ⟨i+1,d,y',acc++ [z],by simp,hil,by simpa using h1,up hg h2 (by omega),he⟩,by omega⟩
  ·have hin:i=l.length:=by omega
   subst hin
   simp
   exact(hJ _ _).2 ⟨d,y,acc,rfl,hK,hg,by simpa using he⟩
 ·intro fr φ hj
  obtain⟨d,y,acc,rfl,hK,hg,he⟩:=(hJ _ _).1 hj
  have hn1:=hg.next
  have f0:φ.get σ.next=some (.cells 3 [a.av]):=(hg.get _ (by omega)).trans g0
  have ha:=hal he
  refine aL ?_
  cases d with
  | true=>
   simp
   have e:acc=eZ a l:=by simpa [dA] using he
   subst e
   exact hfin _ _ hK (hg0.trans hg)
  | false=>
   simp[f0]
   refine e8 hK (by omega) (by simp;omega) fun y' ω h1 h2 h3=> ?_
   have e:acc++ [a]=eZ a l:=by simpa [dA,eZ] using he
   refine hfin _ _ ?_ (hg0.trans (up hg h2 (by omega)))
   rw[←e]
   simpa using h1
end Go.Abs.Chk
set_option linter.unusedVariables false
set_option linter.unusedSimpArgs false
set_option linter.deprecated false
namespace Go.Abs.Chk
open Go Go.Abs Go.Abs.At Go.Proofs.ChkD
attribute [local simp] Nat.add_assoc
variable {σ:ah} {k kp:AV→ah→Prop}
theorem fX.of {n m sz φ rows}:fX n m sz φ (.sl false sz rows) rows:=.inl rfl
theorem F4 {l rs:List Int} {i:Nat} {r:Int} (hr:l[i]?=some r):eX (l.drop i) rs=(decide (r∈rs)&&eX (l.drop (i+1)) rs):=by rw[cG hr];rfl
theorem mM {l rs:List Int} (hb:l.length<1000000000000) (hb2:rs.length<1000000000000) (hk:k (bool (eX l rs)) σ):Ev PR 139 [aP l,aP rs] σ k kp:=by
 refine Ev.bC hk ((Dat.val _).low _) fun k' hk'=> ?_
 apply A9;unfold F139
 refine aL ?_
 have hlen:∀ω,aD .slice (aP l) ω=some (int l.length):=fun ω=>by simp[aP]
 simp[hlen]
 obtain⟨I,hI⟩:∃I:aB→ah→Prop,∀fr φ,I fr φ↔∃(i:Nat),fr= [(0,aP l),(1,aP rs),(7,int l.length),(8,int i)]∧i≤l.length∧φ=σ∧eX l rs=eX (l.drop i) rs:=⟨_,fun _ _=>Iff.rfl⟩
 refine bF I (fun fr _=>l.length - (intOf (aa fr 8)).toNat) ((hI _ _).2 ⟨0,rfl,Nat.zero_le _,rfl,rfl⟩) ?_
 intro fr φ hi
 obtain⟨i,rfl,hi,rfl,he⟩:=(hI _ _).1 hi
 by_cases hil:i<l.length
 ·obtain⟨z,hz⟩:=get_some hil
  have hia:∀ω,ak 1 (aP l) (int i) ω=some (.ref [int z]):=fun ω=>by rw[aP,aE];simp[hz]
  have hwi:IntKind.i64.wrap ((i:Int)+1)=((i+1:Nat):Int):=by rw[wrap64 (by omega)];omega
  rw[F4 hz]at he
  simp[hil,hia]
  refine jl hb2 (.inr (.inl ⟨_,rfl⟩)) ?_
  by_cases hm:z∈rs
  ·simp[hm]at he
   simp[hm,hwi]
   exact⟨(hI _ _).2 ⟨i+1,by simp,hil,rfl,he⟩,by omega⟩
  ·simp[hm]at he
   rw[he]at hk'
   simp[hm]
   exact hk' _ (gD _)
 ·have hin:i=l.length:=by omega
  subst hin
  have:eX l rs=true:=by rw[he];simp[eX]
  rw[this]at hk'
  simp
  exact hk' _ (gD _)
theorem nU {sz bytes id:Nat} {c:Bool} {xs ys:List (List AV)} (hg:σ.get id=some (.cells sz xs)) (hb:(xs.length+ys.length) * bytes≤140737488355328∧xs.length+ys.length≤140737488355328):aY sz bytes (.own id xs.length) (.sl c sz ys) σ=some (.own σ.next (xs.length+ys.length),(σ.del id).new (.cells sz (xs++ys))):=by
 simp[aY,eV,hb,hg]
theorem oK {a b:List Int} (hb:a.length+b.length<100000000000) (hk:k (aP (a++b)) σ):Ev PR 140 [aP a,aP b] σ k kp:=by
 refine Ev.pure ?_
 apply Ba;unfold F140
 simp
 have ha:=nU (σ:=σ.new (.cells 1 [])) (sz:=1) (bytes:=8) (id:=σ.next) (c:=false) (xs:=[]) (ys:=a.map fun r=>[int r]) (by simp[an]) (by simp;omega)
 simp at ha
 refine bL ha ?_
 have hc:=nU (σ:=((σ.new (.cells 1 [])).del σ.next).new (.cells 1 (a.map fun r=>[int r]))) (sz:=1) (bytes:=8) (id:=σ.next+1) (c:=false) (xs:=a.map fun r=>[int r]) (ys:=b.map fun r=>[int r]) (by simp[an]) (by simp;omega)
 simp at hc
 refine bL hc ?_
 refine⟨⟨by simp,fun i hi=> ?_⟩,_,Kid.aG (m:=0) (l:=a++b) (.inr ⟨σ.next+2,[],by simp,by simp[an],by omega,by simp⟩),hk⟩
 simp only[an,bM,ah.tv,ah.gO]
 repeat' rw[if_neg (by omega)]
theorem xW {n:Int}:∀ {fr to:List Int} {i:Nat} {f:Int},fr[i]?=some f→dY n (fr.drop i) (to.drop i)=match to[i]? with | none=>n | some t=>if f=n then t else dY n (fr.drop (i+1)) (to.drop (i+1)):=by
 intro fr to i f h
 rw[cG h]
 cases ht:to[i]? with
 | none=>
  have:to.length≤i:=by simpa using ht
  rw[List.drop_of_length_le this];rfl
 | some t=>rw[cG ht];rfl
theorem xX {n:Int} {l:List Int}:dY n l []=n:=by cases l<;>rfl
theorem ub {n:Int} {fr to:List Int} (hb:fr.length<1000000000000) (hb2:to.length<1000000000000) (hk:k (int (dY n fr to)) σ):Ev PR 177 [int n,aP fr,aP to] σ k kp:=by
 refine Ev.bC hk ((Dat.val _).low _) fun k' hk'=> ?_
 apply BJ;unfold F177
 refine aL ?_
 have hlen:∀(l:List Int) ω,aD .slice (aP l) ω=some (int l.length):=fun l ω=>by simp[aP]
 simp[hlen]
 obtain⟨I,hI⟩:∃I:aB→ah→Prop,∀fr' φ,I fr' φ↔∃(i:Nat),fr'= [(0,int n),(1,aP fr),(2,aP to),(9,int fr.length),(10,int i)]∧i≤fr.length∧φ=σ∧dY n fr to=dY n (fr.drop i) (to.drop i):=⟨_,fun _ _=>Iff.rfl⟩
 refine bF I (fun f _=>fr.length - (intOf (aa f 10)).toNat) ((hI _ _).2 ⟨0,rfl,Nat.zero_le _,rfl,rfl⟩) ?_
 intro f' φ hi
 obtain⟨i,rfl,hi,rfl,he⟩:=(hI _ _).1 hi
 by_cases hil:i<fr.length
 ·obtain⟨z,hz⟩:=get_some hil
  have hia:∀ω,ak 1 (aP fr) (int i) ω=some (.ref [int z]):=fun ω=>by rw[aP,aE];simp[hz]
  have hwi:IntKind.i64.wrap ((i:Int)+1)=((i+1:Nat):Int):=by rw[wrap64 (by omega)];omega
  rw[xW hz]at he
  simp[hil,hia]
  by_cases hzn:z=n
  ·simp[hzn,hlen]
   by_cases hit:i<to.length
   ·obtain⟨t,ht⟩:=get_some hit
    have hib:∀ω,ak 1 (aP to) (int i) ω=some (.ref [int t]):=fun ω=>by rw[aP,aE];simp[ht]
    rw[ht]at he
    simp[hzn]at he
    rw[he]at hk'
    simp[hit,hib]
    exact hk' _ (gD _)
   ·have:to[i]?=none:=by simp;omega
    rw[this]at he
    rw[he]at hk'
    simp[hit]
    exact hk' _ (gD _)
  ·simp[hzn,hwi]
   refine⟨(hI _ _).2 ⟨i+1,by simp,hil,rfl,?_⟩,by omega⟩
   rw[he]
   cases ht:to[i]? with
   | none=>
    have:to.length≤i:=by simpa using ht
    simp only
    rw[List.drop_of_length_le (show to.length≤i+1 by omega),xX]
   | some t=>simp[hzn]
 ·have hin:i=fr.length:=by omega
  subst hin
  have:dY n fr to=n:=by rw[he];simp[dY]
  rw[this]at hk'
  simp
  exact hk' _ (gD _)
theorem mY {l:List Atom} (hb:l.length<1000000000000) (hk:k (aT (ofA l)) σ):Ev PR 36 [aT l] σ k kp:=by
 refine Ev.pure ?_
 apply ES;unfold F36
 simp
 refine aL ?_
 have hlen:∀ω,aD .slice (aT l) ω=some (int l.length):=fun ω=>by simp[aT]
 simp[hlen]
 obtain⟨I,hI⟩:∃I:aB→ah→Prop,∀fr φ,I fr φ↔∃(i:Nat) (y:AV) (acc:List Atom),fr= [(0,aT l),(3,y),(7,int l.length),(8,int i)]∧i≤l.length∧fX σ.next 0 3 φ y (acc.map Atom.av)∧aq σ φ∧ofA l=(l.drop i).foldl du acc∧acc.length≤i:=⟨_,fun _ _=>Iff.rfl⟩
 refine bF I (fun fr _=>l.length - (intOf (aa fr 8)).toNat) ((hI _ _).2 ⟨0,.own σ.next 0,[],rfl,Nat.zero_le _,.inr (fc (by omega)),aq.new _ _,rfl,Nat.le_refl _⟩) ?_
 intro fr φ hi
 obtain⟨i,y,acc,rfl,hi,hK,hg,he,ha⟩:=(hI _ _).1 hi
 by_cases hil:i<l.length
 ·obtain⟨z,hz⟩:=get_some hil
  have hia:∀ω,ak 3 (aT l) (int i) ω=some (.ref z.av):=fun ω=>by rw[aT,aE];simp[hz]
  have hwi:IntKind.i64.wrap ((i:Int)+1)=((i+1:Nat):Int):=by rw[wrap64 (by omega)];omega
  rw[cG hz]at he
  simp[hil,hia]
  refine hK.call fun φ' h1 h2=> ?_
  refine od (by omega) ?_
  simp[hwi]
  exact⟨(hI _ _).2 ⟨i+1,_,du acc z,by simp[aT],hil,.inl rfl,bV hg (fun j hj=>h1 j (by omega)) (by omega),he,by have:=@fh z acc;omega⟩,by omega⟩
 ·have hin:i=l.length:=by omega
  subst hin
  simp at he
  subst he
  simp
  exact⟨hg,_,hK.frz (lT _),hk⟩
theorem nt {l:List Atom} (hb:l.length<1000000000000) (hk:k (aP (cT l)) σ):Ev PR 141 [aT l] σ k kp:=by
 refine Ev.pure ?_
 apply Bb;unfold F141
 simp
 refine aL ?_
 have hlen:∀ω,aD .slice (aT l) ω=some (int l.length):=fun ω=>by simp[aT]
 simp[hlen]
 obtain⟨st,hst⟩:∃st:List Int→Atom→List Int,st=fun o a=>if bw a=true∧a.kind≠3 then dV o a.rho else o:=⟨_,rfl⟩
 have hdef:cT l=l.foldl st []:=by rw[hst];rfl
 obtain⟨I,hI⟩:∃I:aB→ah→Prop,∀fr φ,I fr φ↔∃(i:Nat) (y:AV) (acc:List Int),fr= [(0,aT l),(3,y),(7,int l.length),(8,int i)]∧i≤l.length∧fX σ.next 0 1 φ y (acc.map fun r=>[int r])∧aq σ φ∧cT l=(l.drop i).foldl st acc∧acc.length≤i:=⟨_,fun _ _=>Iff.rfl⟩
 refine bF I (fun fr _=>l.length - (intOf (aa fr 8)).toNat) ((hI _ _).2 ⟨0,.own σ.next 0,[],rfl,Nat.zero_le _,.inr (fc (by omega)),aq.new _ _,hdef,Nat.le_refl _⟩) ?_
 intro fr φ hi
 obtain⟨i,y,acc,rfl,hi,hK,hg,he,ha⟩:=(hI _ _).1 hi
 by_cases hil:i<l.length
 ·obtain⟨z,hz⟩:=get_some hil
  have hia:∀ω,ak 3 (aT l) (int i) ω=some (.ref z.av):=fun ω=>by rw[aT,aE];simp[hz]
  have hwi:IntKind.i64.wrap ((i:Int)+1)=((i+1:Nat):Int):=by rw[wrap64 (by omega)];omega
  have z0:z.av.head?=some (u8 z.kind):=rfl
  have z1:z.av[1]?=some (int z.rho):=rfl
  rw[cG hz]at he
  simp[hil]
  refine aL ?_
  simp[hia]
  refine gL ?_
  by_cases hat:bw z=true
  ·by_cases h3:z.kind=3
   ·have e:st acc z=acc:=by rw[hst];simp[h3]
    simp only[List.foldl_cons,e]at he
    simp[hat,hia,z0,h3,hwi]
    exact⟨(hI _ _).2 ⟨i+1,y,acc,by simp,hil,hK,hg,he,by omega⟩,by omega⟩
   ·have e:st acc z=dV acc z.rho:=by rw[hst];simp[h3,hat]
    simp only[List.foldl_cons,e]at he
    simp[hat,hia,z0,z1,h3]
    refine hK.call fun φ' h1 h2=> ?_
    refine ln (by omega) ?_
    simp[hwi]
    exact⟨(hI _ _).2 ⟨i+1,_,dV acc z.rho,by simp[aP],hil,.inl rfl,bV hg (fun j hj=>h1 j (by omega)) (by omega),he,by have:=@gW z.rho acc;omega⟩,by omega⟩
  ·have e:st acc z=acc:=by rw[hst];simp[hat]
   simp only[List.foldl_cons,e]at he
   have hat:bw z=false:=by simpa using hat
   simp[hat,hwi]
   exact⟨(hI _ _).2 ⟨i+1,y,acc,by simp,hil,hK,hg,he,by omega⟩,by omega⟩
 ·have hin:i=l.length:=by omega
  subst hin
  simp at he
  simp
  rw[he]at hk
  exact⟨hg,_,hK.frz (pN _),hk⟩
end Go.Abs.Chk
set_option linter.unusedVariables false
set_option linter.unusedSimpArgs false
set_option linter.deprecated false
namespace Go.Abs.Chk
open Go Go.Abs Go.Abs.At Go.Proofs.ChkD
attribute [local simp] Nat.add_assoc
variable {σ:ah} {k kp:AV→ah→Prop}
theorem lS {l:List Atom} {i:Nat} {z:Atom} (hz:l[i]?=some z) (ω:ah):ak 3 (aT l) (int i) ω=some (.ref z.av):=by rw[aT,aE];simp[hz]
theorem nu {l:List Atom} {fr to:List Int} (hb:l.length<1000000000000) (hf:fr.length<1000000000000) (ht:to.length<1000000000000) (hk:k (aT (ft fr to l)) σ):Ev PR 145 [aT l,aP fr,aP to] σ k kp:=by
 refine Ev.pure ?_
 apply Bg;unfold F145
 simp
 refine aL ?_
 have hlen:∀ω,aD .slice (aT l) ω=some (int l.length):=fun ω=>by simp[aT]
 simp[hlen]
 obtain⟨st,hst⟩:∃st:List Atom→Atom→List Atom,st=fun o a=>if bw a=true then du o (dh fr to a) else o:=⟨_,rfl⟩
 have hdef:ft fr to l=l.foldl st []:=by rw[hst];rfl
 obtain⟨I,hI⟩:∃I:aB→ah→Prop,∀f φ,I f φ↔∃(i:Nat) (y:AV) (acc:List Atom),f= [(0,aT l),(1,aP fr),(2,aP to),(7,y),(12,int l.length),(13,int i)]∧i≤l.length∧fX σ.next 0 3 φ y (acc.map Atom.av)∧aq σ φ∧ft fr to l=(l.drop i).foldl st acc∧acc.length≤i:=⟨_,fun _ _=>Iff.rfl⟩
 refine bF I (fun f _=>l.length - (intOf (aa f 13)).toNat) ((hI _ _).2 ⟨0,.own σ.next 0,[],rfl,Nat.zero_le _,.inr (fc (by omega)),aq.new _ _,hdef,Nat.le_refl _⟩) ?_
 intro f φ hi
 obtain⟨i,y,acc,rfl,hi,hK,hg,he,ha⟩:=(hI _ _).1 hi
 have hn1:=hg.next
 by_cases hil:i<l.length
 ·obtain⟨z,hz⟩:=get_some hil
  have hia:=lS hz
  have hwi:IntKind.i64.wrap ((i:Int)+1)=((i+1:Nat):Int):=by rw[wrap64 (by omega)];omega
  have z0:z.av.head?=some (u8 z.kind):=rfl
  have z1:z.av[1]?=some (int z.rho):=rfl
  rw[cG hz]at he
  simp only[List.foldl_cons]at he
  simp[hil]
  refine aL ?_
  simp[hia]
  have hK1:∀o,fX σ.next 0 3 ((φ.new (.cells 3 [[u8 0,int 0,str ByteArray.empty]])).set φ.next o) y (acc.map Atom.av):=fun o=>by
   rcases hK with rfl | hK
   ·exact .inl rfl
   ·refine .inr ?_
    have h1:=hK.aQ (aq.new φ (.cells 3 [[u8 0,int 0,str ByteArray.empty]]))
    rcases h1 with h | ⟨q,rest,e1,e2,e3,e4⟩
    ·exact .inl h
    ·rcases hK with h | ⟨q',rest',e1',e2',e3',e4'⟩
     ·obtain⟨rfl,_⟩:=h;cases e1
     ·rw[e1]at e1';cases e1'
      exact .inr ⟨q,rest,e1,by rw[au,if_neg (by omega)];exact e2,e3,e4⟩
  have hg1:∀o,aq σ ((φ.new (.cells 3 [[u8 0,int 0,str ByteArray.empty]])).set φ.next o):=fun o=>hg.trans ((aq.new _ _).set (Nat.le_refl _) _)
  obtain⟨J3,hJ3⟩:∃J:aB→ah→Prop,∀f ω,J f ω↔f= [(0,aT l),(1,aP fr),(2,aP to),(7,y),(8,int i),(9,.ptr φ.next 0 0),(12,int l.length),(13,int i)]∧fX σ.next 0 3 ω y (acc.map Atom.av)∧aq σ ω∧φ.next<ω.next∧(bw z=true→ω.get φ.next=some (.cells 3 [(dh fr to z).av])):=⟨_,fun _ _=>Iff.rfl⟩
  refine bx J3 ?_ ?_
  ·refine gL ?_
   by_cases hat:bw z=true
   ·by_cases h3:z.kind=3
    ·simp[hat,h3,z0,au]
     exact(hJ3 _ _).2 ⟨rfl,hK1 _,hg1 _,by simp,fun _=>by rw[au,if_pos rfl];unfold dh;rw[if_pos h3]⟩
    ·simp[hat,h3,z0,z1,au]
     refine ub hf ht ?_
     simp[au]
     have e:List.take 1 z.av++int (dY z.rho fr to)::List.drop 2 z.av=(dh fr to z).av:=by unfold dh;rw[if_neg h3];rfl
     refine(hJ3 _ _).2 ⟨rfl,?_,(hg1 _).set (by omega) _,by simp,fun _=>by rw[au,if_pos rfl,←e]⟩
     rcases hK1 (.cells 3 [z.av]) with h | h | ⟨q,rest,e1,e2,e3,e4⟩
     ·exact .inl h
     ·exact .inr (.inl h)
     ·refine .inr (.inr ⟨q,rest,e1,?_,e3,by simpa using e4⟩)
      have hq:q≠φ.next:=by
       rintro rfl
       rw[au,if_pos rfl]at e2
       rcases hK with h | h | ⟨q',rest',e1',e2',e3',e4'⟩
       ·rw[h]at e1;cases e1
       ·rw[h.1]at e1;cases e1
       ·rw[e1]at e1';cases e1';omega
      rw[au,if_neg hq];exact e2
   ·have hat:bw z=false:=by simpa using hat
    simp[hat]
    exact(hJ3 _ _).2 ⟨rfl,hK1 _,hg1 _,by simp,fun h=>by rw[hat]at h;cases h⟩
  ·intro f ω hj
   obtain⟨rfl,hK,hg,hlt,hat'⟩:=(hJ3 _ _).1 hj
   simp[hia]
   refine gL ?_
   by_cases hat:bw z=true
   ·have e:st acc z=du acc (dh fr to z):=by rw[hst];simp[hat]
    rw[e]at he
    simp[hat,hat' hat]
    refine hK.call fun φ' h1 h2=> ?_
    refine od (by omega) ?_
    simp[hwi]
    exact⟨(hI _ _).2 ⟨i+1,_,du acc (dh fr to z),by simp[aT],hil,.inl rfl,bV hg (fun j hj=>h1 j (by omega)) (by omega),he,by have:=@fh (dh fr to z) acc;omega⟩,by omega⟩
   ·have e:st acc z=acc:=by rw[hst];simp[hat]
    rw[e]at he
    have hat:bw z=false:=by simpa using hat
    simp[hat,hwi]
    exact⟨(hI _ _).2 ⟨i+1,y,acc,by simp,hil,hK,hg,he,by omega⟩,by omega⟩
 ·have hin:i=l.length:=by omega
  subst hin
  simp at he
  simp
  rw[he]at hk
  exact⟨hg,_,hK.frz (lT _),hk⟩
theorem uh {l:List Atom} {rs:List Int} (hb:l.length<1000000000000) (hr:rs.length<1000000000000) (hk:k (aT (cU l rs)) σ):Ev PR 155 [aT l,aP rs] σ k kp:=by
 refine Ev.pure ?_
 apply Bq;unfold F155
 simp
 refine aL ?_
 have hlen:∀ω,aD .slice (aT l) ω=some (int l.length):=fun ω=>by simp[aT]
 simp[hlen]
 obtain⟨st,hst⟩:∃st:List Atom→Atom→List Atom,st=fun o a=>if a.kind=3∨a.rho∉rs then du o a else o:=⟨_,rfl⟩
 have hdef:cU l rs=l.foldl st []:=by rw[hst];rfl
 obtain⟨I,hI⟩:∃I:aB→ah→Prop,∀f φ,I f φ↔∃(i:Nat) (y:AV) (acc:List Atom),f= [(0,aT l),(1,aP rs),(5,y),(9,int l.length),(10,int i)]∧i≤l.length∧fX σ.next 0 3 φ y (acc.map Atom.av)∧aq σ φ∧cU l rs=(l.drop i).foldl st acc∧acc.length≤i:=⟨_,fun _ _=>Iff.rfl⟩
 refine bF I (fun f _=>l.length - (intOf (aa f 10)).toNat) ((hI _ _).2 ⟨0,.own σ.next 0,[],rfl,Nat.zero_le _,.inr (fc (by omega)),aq.new _ _,hdef,Nat.le_refl _⟩) ?_
 intro f φ hi
 obtain⟨i,y,acc,rfl,hi,hK,hg,he,ha⟩:=(hI _ _).1 hi
 by_cases hil:i<l.length
 ·obtain⟨z,hz⟩:=get_some hil
  have hia:=lS hz
  have hwi:IntKind.i64.wrap ((i:Int)+1)=((i+1:Nat):Int):=by rw[wrap64 (by omega)];omega
  have z0:z.av.head?=some (u8 z.kind):=rfl
  have z1:z.av[1]?=some (int z.rho):=rfl
  rw[cG hz]at he
  simp only[List.foldl_cons]at he
  simp[hil]
  refine aL ?_
  simp[hia,z0]
  by_cases h3:z.kind=3
  ·have e:st acc z=du acc z:=by rw[hst];simp[h3]
   rw[e]at he
   simp[h3,hia]
   refine hK.call fun φ' h1 h2=> ?_
   refine od (by omega) ?_
   simp[hwi]
   exact⟨(hI _ _).2 ⟨i+1,_,du acc z,by simp[aT],hil,.inl rfl,bV hg (fun j hj=>h1 j (by omega)) (by omega),he,by have:=@fh z acc;omega⟩,by omega⟩
  ·simp[h3,hia,z1]
   refine jl hr (.inr (.inl ⟨_,rfl⟩)) ?_
   by_cases hm:z.rho∈rs
   ·have e:st acc z=acc:=by rw[hst];simp[h3,hm]
    rw[e]at he
    simp[hm,hwi]
    exact⟨(hI _ _).2 ⟨i+1,y,acc,by simp,hil,hK,hg,he,by omega⟩,by omega⟩
   ·have e:st acc z=du acc z:=by rw[hst];simp[h3,hm]
    rw[e]at he
    simp[hm,hia]
    refine hK.call fun φ' h1 h2=> ?_
    refine od (by omega) ?_
    simp[hwi]
    exact⟨(hI _ _).2 ⟨i+1,_,du acc z,by simp[aT],hil,.inl rfl,bV hg (fun j hj=>h1 j (by omega)) (by omega),he,by have:=@fh z acc;omega⟩,by omega⟩
 ·have hin:i=l.length:=by omega
  subst hin
  simp at he
  simp
  rw[he]at hk
  exact⟨hg,_,hK.frz (lT _),hk⟩
def fV (l:List ByteArray):AV:=.sl false 1 (l.map fun x=>[str x])
def jB (a:Atom) (xs:List ByteArray):Bool:=decide (a.kind=3)&&xs.any fun x=>decide (x=a.exn)
end Go.Abs.Chk
set_option linter.unusedVariables false
set_option linter.unusedSimpArgs false
set_option linter.deprecated false
namespace Go.Abs.Chk
open Go Go.Abs Go.Abs.At Go.Proofs.ChkD
attribute [local simp] Nat.add_assoc
structure Ok5 (t:RT):Prop where
 small:t.small
 size:t.size≤2000
theorem Ok5.eff {t:RT} (h:Ok5 t):t.eff.length<1000000000000:=by
 obtain⟨k,r,e,ks⟩:=t
 have:=h.1
 simp only[RT.small,kQ]at this
 simp only[RT.eff]
 omega
theorem Ok5.kid {t k:RT} (h:Ok5 t) (hk:k∈t.kids):Ok5 k:=by
 have:=RT.dE hk
 obtain⟨k1,r,e,ks⟩:=t
 exact⟨RT.ju h.1.2 k hk,by have:=h.2;omega⟩
section
open Go.Proofs.AtD
theorem iT:∀(N:Nat) (a b:RT),a.size≤N→Ok5 a→Ok5 b→∀(σ:ah) (k kp:AV→ah→Prop),k (bool (RT.same a b)) σ→Ev PR 152 [a.v,b.v] σ k kp:=by
 intro N
 induction N with
 | zero=>intro a b h;have:=a.size_pos;omega
 | succ N ih=>
  intro a b hN ha hb σ k kp hk
  refine Ev.bC hk ((Dat.val _).low _) fun k' hk'=> ?_
  apply Bn;unfold F152
  simp
  generalize hτ:(σ.new (.cells 4 [a.av])).new (.cells 4 [b.av])=τ
  have hg:aq σ τ:=by rw[←hτ];exact(aq.new _ _).trans (aq.new _ _)
  have g0:τ.get σ.next=some (.cells 4 [a.av]):=by rw[←hτ];simp[an]
  have g1:τ.get (σ.next+1)=some (.cells 4 [b.av]):=by rw[←hτ];simp[an]
  clear hτ
  have fin:∀v,RT.same a b=v→k' (bool v) τ:=fun v h=>by rw[←h];exact hk' _ hg
  have hla:∀ω,aD .slice (RT.vs a.kids) ω=some (int a.kids.length):=fun ω=>by simp
  have hlb:∀ω,aD .slice (RT.vs b.kids) ω=some (int b.kids.length):=fun ω=>by simp
  have hka:=a.cA
  have hsa:=ha.size
  have heq:=RT.wF a b
  simp[g0,g1]
  by_cases c1:a.kind=b.kind
  ·by_cases c2:a.rho=b.rho
   ·simp[c1,c2,g0,g1,hla,hlb]
    by_cases c3:a.kids.length=b.kids.length
    ·simp[c3,g0,g1]
     refine ic ha.eff hb.eff ?_
     cases w1:bk a.eff b.eff with
     | false=>
      simp
      exact fin false (by rw[heq,w1];simp)
     | true=>
      simp[g0,g1]
      refine ic hb.eff ha.eff ?_
      cases w2:bk b.eff a.eff with
      | false=>
       simp
       exact fin false (by rw[heq,w2];simp)
      | true=>
       simp
       refine aL ?_
       simp[g0,hla]
       refine ba (fun j:Nat=>[(2,.ptr σ.next 0 0),(3,.ptr (σ.next+1) 0 0),(45,int a.kids.length),(46,int j)]) (fun j φ=>φ=τ∧j≤a.kids.length∧∀(i:Nat) x y,i<j→a.kids[i]?=some x→b.kids[i]?=some y→RT.same x y=true) (fun fr _=>a.kids.length - (intOf (aa fr 46)).toNat) 0 (by simp) ⟨rfl,by simp,by simp⟩ ?_
       rintro j φ ⟨rfl,hj,hall⟩
       simp
       by_cases hjl:j<a.kids.length
       ·obtain⟨x,hx⟩:=get_some hjl
        obtain⟨y,hy⟩:=get_some (l:=b.kids) (i:=j) (by omega)
        have hxk:=RT.dE (List.mem_of_getElem? hx)
        have hix:∀ω,ak 4 (RT.vs a.kids) (int j) ω=some (.ref x.av):=fun ω=>by rw[aE];simp[RT.cO hx]
        have hiy:∀ω,ak 4 (RT.vs b.kids) (int j) ω=some (.ref y.av):=fun ω=>by rw[aE];simp[RT.cO hy]
        simp[hjl,g0,g1,hix,hiy]
        refine ih x y (by omega) (ha.kid (List.mem_of_getElem? hx)) (hb.kid (List.mem_of_getElem? hy)) _ _ _ ?_
        cases hs:RT.same x y with
        | false=>
         simp
         exact fin false (by rw[heq,RT.mz hx hy hs];simp)
        | true=>
         simp
         rw[wrap64 (by omega)]
         refine⟨⟨j+1,by simp,by omega,fun i u v hi hu hv=> ?_⟩,by omega⟩
         by_cases hij:i=j
         ·subst hij
          rw[hx]at hu;rw[hy]at hv
          cases hu;cases hv;exact hs
         ·exact hall i u v (by omega) hu hv
       ·simp[hjl]
        refine fin true ?_
        have:RT.dg a.kids b.kids=true:=RT.kJ c3 fun i u v hu hv=>hall i u v (by have:=(List.getElem?_eq_some_iff.1 hu).1;omega) hu hv
        rw[heq,w1,w2,this];simp[c1,c2]
    ·have:¬(a.kids.length:Int)=b.kids.length:=by omega
     simp[this]
     exact fin false (by rw[heq,RT.kI c3];simp)
   ·simp[c1,c2,g0,g1]
    exact fin false (by rw[heq];simp[c2])
  ·simp[c1]
   exact fin false (by rw[heq];simp[c1])
end
variable {σ:ah} {k kp:AV→ah→Prop}
theorem pV {l:List RT} {i:Nat} {x:RT} (h:l[i]?=some x):RT.aJ (l.drop i)=x.size+RT.aJ (l.drop (i+1)):=by rw[cG h];rfl
theorem xI:∀(N:Nat) (a:RT),a.size≤N→a.size≤100000→∀(σ:ah) (k kp:AV→ah→Prop),k (int a.size) σ→Ev PR 66 [a.v] σ k kp:=by
 intro N
 induction N with
 | zero=>intro a h;have:=a.size_pos;omega
 | succ N ih=>
  intro a hN ha σ k kp hk
  refine Ev.bC hk ((Dat.val _).low _) fun k' hk'=> ?_
  apply Fb;unfold F66
  simp
  generalize hτ:σ.new (.cells 4 [a.av])=τ
  have hg:aq σ τ:=by rw[←hτ];exact aq.new _ _
  have g0:τ.get σ.next=some (.cells 4 [a.av]):=by rw[←hτ];simp[an]
  clear hτ
  refine aL ?_
  have hla:∀ω,aD .slice (RT.vs a.kids) ω=some (int a.kids.length):=fun ω=>by simp
  have hka:=a.cA
  have hsz:a.size=1+RT.aJ a.kids:=by obtain⟨k,r,e,ks⟩:=a;rfl
  simp[g0,hla]
  obtain⟨I,hI⟩:∃I:aB→ah→Prop,∀f φ,I f φ↔∃(i n:Nat),f= [(1,.ptr σ.next 0 0),(3,int n),(7,int a.kids.length),(8,int i)]∧i≤a.kids.length∧φ=τ∧n+RT.aJ (a.kids.drop i)=a.size:=⟨_,fun _ _=>Iff.rfl⟩
  refine bF I (fun f _=>a.kids.length - (intOf (aa f 8)).toNat) ((hI _ _).2 ⟨0,1,rfl,Nat.zero_le _,rfl,by rw[hsz];rfl⟩) ?_
  intro f φ hi
  obtain⟨i,n,rfl,hi,rfl,he⟩:=(hI _ _).1 hi
  by_cases hil:i<a.kids.length
  ·obtain⟨x,hx⟩:=get_some hil
   have hxk:=RT.dE (List.mem_of_getElem? hx)
   have hix:∀ω,ak 4 (RT.vs a.kids) (int i) ω=some (.ref x.av):=fun ω=>by rw[aE];simp[RT.cO hx]
   have hwi:IntKind.i64.wrap ((i:Int)+1)=((i+1:Nat):Int):=by rw[wrap64 (by omega)];omega
   rw[pV hx]at he
   have hwn:IntKind.i64.wrap ((n:Int)+x.size)=((n+x.size:Nat):Int):=by rw[wrap64 (by omega)];omega
   simp[hil,g0,hix]
   refine ih x (by omega) (by omega) _ _ _ ?_
   simp[hwi,hwn]
   exact⟨(hI _ _).2 ⟨i+1,n+x.size,by simp,hil,rfl,by omega⟩,by omega⟩
  ·have hin:i=a.kids.length:=by omega
   subst hin
   simp[RT.aJ]at he
   simp[he]
   exact hk' _ hg
theorem na (e:List Atom):(cT e).length≤e.length:=by
 have:∀(e:List Atom) (acc:List Int),(e.foldl (fun o a=>if bw a=true∧a.kind≠3 then dV o a.rho else o) acc).length≤acc.length+e.length:=by
  intro e
  induction e with
  | nil=>intro acc;simp
  | cons a e ih=>
   intro acc
   simp only[List.foldl_cons,List.length_cons]
   refine Nat.le_trans (ih _) ?_
   split
   ·have:=@gW a.rho acc;omega
   ·omega
 simpa [cT] using this e []
theorem qE (l:List Int):∀acc:List Int,(l.foldl dV acc).length≤acc.length+l.length:=by
 induction l with
 | nil=>intro acc;simp
 | cons a l ih=>
  intro acc
  simp only[List.foldl_cons,List.length_cons]
  have:=ih (dV acc a)
  have:=@gW a acc
  omega
mutual
theorem kH:∀(t:RT) (o:List Int),t.small→(fm o t).length≤o.length+101 * t.size
 | .mk k r e ks,o,h=>by
  have h2:=lq ks (if k=1 then o else (cT e).foldl dV (dV o r)) h.2
  have h3:=qE (cT e) (dV o r)
  have h4:=na e
  have h5:=@gW r o
  have h6:=h.1.1
  have h7:(if k=1 then o else (cT e).foldl dV (dV o r)).length≤o.length+101:=by split<;>omega
  simp only[fm,RT.size]
  omega
theorem lq:∀(l:List RT) (o:List Int),RT.cW l→(cL o l).length≤o.length+101 * RT.aJ l
 | [],o,_=>by simp[cL,RT.aJ]
 | t::ts,o,h=>by
  have h1:=kH t o h.1
  have h2:=lq ts (fm o t) h.2
  simp only[cL,RT.aJ]
  omega
end
theorem nC {l:List RT} {i:Nat} {x:RT} (o:List Int) (h:l[i]?=some x):cL o (l.drop i)=cL (fm o x) (l.drop (i+1)):=by rw[cG h];rfl
theorem zN (o:List Int) (t:RT):fm o t=cL (if t.kind=1 then o else (cT t.eff).foldl dV (dV o t.rho)) t.kids:=by obtain⟨k,r,e,ks⟩:=t;rfl
theorem pM:∀(N:Nat) (a:RT) (o:List Int),a.size≤N→Ok5 a→o.length+101 * a.size<100000000000→∀(σ:ah) (k kp:AV→ah→Prop),k (aP (fm o a)) σ→Ev PR 176 [aP o,a.v] σ k kp:=by
 intro N
 induction N with
 | zero=>intro a o h;have:=a.size_pos;omega
 | succ N ih=>
  intro a o hN ha ho σ k kp hk
  refine Ev.bC hk ((fL _).low _) fun k' hk'=> ?_
  apply BI;unfold F176
  simp
  generalize hτ:σ.new (.cells 4 [a.av])=τ
  have hg:aq σ τ:=by rw[←hτ];exact aq.new _ _
  have g0:τ.get σ.next=some (.cells 4 [a.av]):=by rw[←hτ];simp[an]
  clear hτ
  have hsz:=ha.size
  have heff:a.eff.length≤100:=by obtain⟨k,r,e,ks⟩:=a;exact ha.small.1.1
  have hrl:=na a.eff
  obtain⟨J,hJ⟩:∃J:aB→ah→Prop,∀fr φ,J fr φ↔fr= [(0,aP (if a.kind=1 then o else (cT a.eff).foldl dV (dV o a.rho))),(3,.ptr σ.next 0 0)]∧φ=τ:=⟨_,fun _ _=>Iff.rfl⟩
  refine bx J ?_ ?_
  ·by_cases hk1:a.kind=1
   ·simp[hk1]
    exact(hJ _ _).2 ⟨by rw[if_pos hk1],rfl⟩
   ·simp[hk1,g0]
    refine ln (by omega) ?_
    have hpl:=@gW a.rho o
    simp[g0]
    refine nt (by omega) ?_
    have hlen:∀ω,aD .slice (aP (cT a.eff)) ω=some (int (cT a.eff).length):=fun ω=>by simp[aP]
    simp[hlen]
    obtain⟨I,hI⟩:∃I:aB→ah→Prop,∀f φ,I f φ↔∃(i:Nat) (acc:List Int),f= [(0,aP acc),(3,.ptr σ.next 0 0),(5,aP (cT a.eff)),(19,int (cT a.eff).length),(20,int i)]∧i≤(cT a.eff).length∧φ=τ∧(cT a.eff).foldl dV (dV o a.rho)=((cT a.eff).drop i).foldl dV acc∧acc.length≤o.length+1+i:=⟨_,fun _ _=>Iff.rfl⟩
    refine bF I (fun f _=>(cT a.eff).length - (intOf (aa f 20)).toNat) ((hI _ _).2 ⟨0,dV o a.rho,rfl,Nat.zero_le _,rfl,rfl,hpl⟩) ?_
    intro f φ hi
    obtain⟨i,acc,rfl,hi,rfl,he,hal⟩:=(hI _ _).1 hi
    by_cases hil:i<(cT a.eff).length
    ·obtain⟨z,hz⟩:=get_some hil
     have hia:∀ω,ak 1 (aP (cT a.eff)) (int i) ω=some (.ref [int z]):=fun ω=>by rw[aP,aE];simp[hz]
     have hwi:IntKind.i64.wrap ((i:Int)+1)=((i+1:Nat):Int):=by rw[wrap64 (by omega)];omega
     rw[cG hz]at he
     simp[hil,hia]
     refine ln (by omega) ?_
     simp[hwi]
     exact⟨(hI _ _).2 ⟨i+1,dV acc z,by simp,hil,rfl,he,by have:=@gW z acc;omega⟩,by omega⟩
    ·have hin:i=(cT a.eff).length:=by omega
     subst hin
     simp at he
     simp
     exact(hJ _ _).2 ⟨by rw[if_neg hk1,he],rfl⟩
  ·intro fr φ hj
   obtain⟨rfl,rfl⟩:=(hJ _ _).1 hj
   refine aL ?_
   have hla:∀ω,aD .slice (RT.vs a.kids) ω=some (int a.kids.length):=fun ω=>by simp
   have hka:=a.cA
   have hsz2:a.size=1+RT.aJ a.kids:=by obtain⟨k,r,e,ks⟩:=a;rfl
   simp[g0,hla]
   obtain⟨o1,ho1⟩:∃o1,o1=(if a.kind=1 then o else (cT a.eff).foldl dV (dV o a.rho)):=⟨_,rfl⟩
   have hol:o1.length≤o.length+101:=by
    rw[ho1]
    split
    ·omega
    ·have h3:=qE (cT a.eff) (dV o a.rho)
     have h5:=@gW a.rho o
     omega
   rw[zN,←ho1]at hk'
   rw[←ho1]
   obtain⟨I,hI⟩:∃I:aB→ah→Prop,∀f ω,I f ω↔∃(i:Nat) (acc:List Int),f= [(0,aP acc),(3,.ptr σ.next 0 0),(32,int a.kids.length),(33,int i)]∧i≤a.kids.length∧ω=φ∧cL o1 a.kids=cL acc (a.kids.drop i)∧acc.length+101 * RT.aJ (a.kids.drop i)≤o.length+101 * a.size:=⟨_,fun _ _=>Iff.rfl⟩
   refine bF I (fun f _=>a.kids.length - (intOf (aa f 33)).toNat) ((hI _ _).2 ⟨0,o1,rfl,Nat.zero_le _,rfl,rfl,by simp;omega⟩) ?_
   intro f ω hi
   obtain⟨i,acc,rfl,hi,rfl,he,hal⟩:=(hI _ _).1 hi
   by_cases hil:i<a.kids.length
   ·obtain⟨x,hx⟩:=get_some hil
    have hxm:=List.mem_of_getElem? hx
    have hxk:=RT.dE hxm
    have hix:∀ω,ak 4 (RT.vs a.kids) (int i) ω=some (.ref x.av):=fun ω=>by rw[aE];simp[RT.cO hx]
    have hwi:IntKind.i64.wrap ((i:Int)+1)=((i+1:Nat):Int):=by rw[wrap64 (by omega)];omega
    rw[nC _ hx]at he
    rw[pV hx]at hal
    simp[hil,g0,hix]
    refine ih x acc (by omega) (ha.kid hxm) (by omega) _ _ _ ?_
    simp[hwi]
    refine⟨(hI _ _).2 ⟨i+1,fm acc x,by simp,hil,rfl,he,?_⟩,by omega⟩
    have:=kH x acc (ha.kid hxm).small
    omega
   ·have hin:i=a.kids.length:=by omega
    subst hin
    simp[cL]at he
    rw[he]at hk'
    simp
    exact hk' _ hg
end Go.Abs.Chk
