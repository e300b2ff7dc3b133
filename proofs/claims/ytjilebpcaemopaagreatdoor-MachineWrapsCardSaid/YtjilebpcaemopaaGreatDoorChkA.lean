import Derived.Test.YtjilebpcaemopaaGreatDoorMacDecS
import Derived.Test.YtjilebpcaemopaaGreatDoorChkM
import Derived.Test.YtjilebpcaemopaaGreatDoorAbsO
set_option linter.unusedVariables false
set_option linter.unusedSimpArgs false
set_option linter.deprecated false
namespace Go.Abs.Chk
open Go Go.Abs Go.Abs.At Go.Proofs.ChkD
attribute [local simp] Nat.add_assoc
variable {σ:ah} {k kp:AV→ah→Prop}
theorem fk {n m sz by':Nat} {φ:ah} {x:AV} {rows:List (List AV)} {el:List AV} {k:AV→ah→Prop} (hK:Kid n m sz φ x rows) (hm:n+m≤φ.next) (hb:(rows.length+1) * by'≤140737488355328∧rows.length+1≤140737488355328)
 (hk:∀y ω,Kid n m sz ω y (rows++ [el])→(∀j,j<n+m→ω.get j=φ.get j)→ω.next=φ.next+2→k y ω):ab (aY sz by' x (.own φ.next 1) (φ.new (.cells sz [el]))) k:=by
 have f3:=hK.aP (aq.new φ (.cells sz [el]))
 have hy:Rows (φ.new (.cells sz [el])) sz (.own φ.next 1) [el]:=.inr (.inr ⟨φ.next,[],rfl,by simp[an]⟩)
 refine bF (bP (by':=by') f3.rows f3.ns hy (by simpa using hb)) ?_
 obtain⟨p1,p2,p3⟩:=f3.app (by simp;omega) [el]
 exact hk _ _ p1 (fun j hj=>by rw[p2 j hj,an,if_neg (by omega)]) (by rw[p3];simp)
theorem fm {n m sz:Nat} {φ:ah} (hm:n+m≤φ.next):Kid n m sz (φ.new (.cells sz [])) (.own φ.next 0) []:=.inr ⟨φ.next,[],rfl,by simp[an],hm,by simp⟩
theorem bW {σ φ ω:ah} (h:aq σ φ) (hg:∀j,j<σ.next→ω.get j=φ.get j) (hn:φ.next≤ω.next):aq σ ω:=⟨Nat.le_trans h.next hn,fun i hi=>(hg i hi).trans (h.get i hi)⟩
def fA (n m sz:Nat) (φ:ah) (x:AV) (rows:List (List AV)):Prop:=x= .sl false sz rows∨Kid n m sz φ x rows
theorem fA.rows {n m sz φ x rows} (h:fA n m sz φ x rows):Rows φ sz x rows:=by
 rcases h with rfl | h
 ·exact .inr (.inl ⟨_,rfl⟩)
 ·exact h.rows
theorem fA.frz {n m sz υ x rows} (h:fA n m sz υ x rows) (hd:∀el∈rows,∀y∈el,Dat y):Frz υ n x (.sl false sz rows):=by
 rcases h with rfl | h
 ·exact .low ((Dat.sl hd).low _)
 ·exact h.frz hd
theorem fA.call {n m sz:Nat} {φ:ah} {x:AV} {rows:List (List AV)} (h:fA n m sz φ x rows) {P:Program} {f:FuncId} {ys:List AV} {K kp:AV→ah→Prop}
 (H:∀φ',(∀j,j<n+m→φ'.get j=φ.get j)→φ'.next=φ.next→Ev P f (.sl false sz rows::ys) φ' K kp):Ev P f (x::ys) φ K kp:=by
 rcases h with rfl | ⟨rfl,rfl⟩ | ⟨q,rest,rfl,h2,h3,h4⟩
 ·exact H φ (fun _ _=>rfl) rfl
 ·exact Ev.iw (.cons .nil (FzL.refl _)) (H φ (fun _ _=>rfl) rfl)
 ·refine Ev.freeze (FzS.del φ q) (.cons ((FzR.refl _).own rfl rfl h2) (FzL.refl _)) (H _ (fun j hj=> ?_) rfl)
  rw[bD,if_neg (by omega)]
theorem pe (l:List Int):∀el∈l.map (fun r=>[int r]),∀y∈el,Dat y:=by
 intro el hel y hy
 obtain⟨r,_,rfl⟩:=List.mem_map.1 hel
 simp at hy;subst hy;exact Dat.val _
theorem ld (l:List Atom):∀el∈l.map Atom.av,∀y∈el,Dat y:=by
 intro el hel y hy
 obtain⟨r,_,rfl⟩:=List.mem_map.1 hel
 simp[Atom.av]at hy
 rcases hy with rfl | rfl | rfl<;>exact Dat.val _
theorem fc (l:List Int):Dat (aO l):=.sl (pe l)
theorem gf (l:List Atom):Dat (aT l):=.sl (ld l)
theorem fR (σ:ah):aq σ σ:=⟨Nat.le_refl _,fun _ _=>rfl⟩
theorem sD {n:Int} {l:List Int}:(jf n l).length=l.length+1:=by
 induction l with
 | nil=>rfl
 | cons y l ih=>
  unfold jf
  split
  ·simp
  ·simp[ih]
theorem gv {n:Int} {l:List Int}:(dF l n).length≤l.length+1:=by
 unfold dF
 split
 ·omega
 ·rw[sD];omega
def lg (n:Int) (done:Bool) (l:List Int):List Int:=if done then l else jf n l
theorem bI {body:aA→ah→(aA→ah→Prop)→Prop} (I:aA→ah→Prop) (μ:aA→ah→Nat) {fr:aA} {σ:ah} (h0:I fr σ) (hb:∀fr σ,I fr σ→body fr σ fun fr' σ'=>I fr' σ'∧μ fr' σ'<μ fr σ):bj body fr σ:=⟨I,μ,h0,hb⟩
theorem kD {l:List Int} {n:Int} (hb:l.length<1000000000000) (hk:k (aO (dF l n)) σ):Ev PR 175 [aO l,int n] σ k kp:=by
 refine Ev.pure ?_
 apply Bt;unfold F175
 refine gL hb (.inr (.inl ⟨_,rfl⟩)) ?_
 unfold dF at hk
 by_cases hn:n∈l
 ·rw[if_pos hn]at hk
  simp[hn]
  exact⟨fR _,_,.low ((fc l).low _),hk⟩
 rw[if_neg hn]at hk
 simp[hn]
 have hfin:∀(y:AV) (φ:ah),Kid σ.next 0 1 φ y ((jf n l).map fun r=>[int r])→aq σ φ→aq σ φ∧∃z,Frz φ σ.next y z∧k z σ:=fun y φ hK hg=>⟨hg,_,hK.aH,hk⟩
 have hal:∀ {d:Bool} {acc r:List Int},acc++lg n d r=jf n l→acc.length≤l.length+1:=fun h=>by
  have:=congrArg List.length h
  rw[sD,List.length_append]at this
  omega
 obtain⟨J,hJ⟩:∃J:aA→ah→Prop,∀fr φ,J fr φ↔∃(d:Bool) (y:AV) (acc:List Int),fr= [(1,int n),(5,y),(6,bool d)]∧Kid σ.next 0 1 φ y (acc.map fun r=>[int r])∧aq σ φ∧acc++lg n d []=jf n l:=⟨_,fun _ _=>Iff.rfl⟩
 refine bw J ?_ ?_
 ·have hlen:∀ω,aE .slice (aO l) ω=some (int l.length):=fun ω=>by simp[aO]
  simp[hlen]
  obtain⟨I,hI⟩:∃I:aA→ah→Prop,∀fr φ,I fr φ↔∃(i:Nat) (d:Bool) (y:AV) (acc:List Int),fr= [(0,aO l),(1,int n),(5,y),(6,bool d),(14,int l.length),(15,int i)]∧i≤l.length∧Kid σ.next 0 1 φ y (acc.map fun r=>[int r])∧aq σ φ∧acc++lg n d (l.drop i)=jf n l:=⟨_,fun _ _=>Iff.rfl⟩
  refine bI I (fun fr _=>l.length - (intOf (aa fr 15)).toNat) ((hI _ _).2 ⟨0,false,.own σ.next 0,[],rfl,Nat.zero_le _,fm (by omega),aq.new _ _,rfl⟩) ?_
  intro fr φ hi
  obtain⟨i,d,y,acc,rfl,hi,hK,hg,he⟩:=(hI _ _).1 hi
  have hn0:=hg.next
  by_cases hil:i<l.length
  ·obtain⟨z,hz⟩:=get_some hil
   have hd:=cx hz
   have hia:∀ω,ak 1 (aO l) (int i) ω=some (.ref [int z]):=fun ω=>by rw[aO,aD];simp[hz]
   have hwi:IntKind.i64.wrap ((i:Int)+1)=((i+1:Nat):Int):=by rw[wrap64 (by omega)];omega
   obtain⟨J3,hJ3⟩:∃J:aA→ah→Prop,∀fr φ,J fr φ↔∃(d:Bool) (y:AV) (acc:List Int),fr= [(0,aO l),(1,int n),(5,y),(6,bool d),(7,int i),(14,int l.length),(15,int i)]∧Kid σ.next 0 1 φ y (acc.map fun r=>[int r])∧aq σ φ∧(acc++ [z])++lg n d (l.drop (i+1))=jf n l:=⟨_,fun _ _=>Iff.rfl⟩
   simp[hil]
   refine bw J3 ?_ ?_
   ·cases d with
    | true=>
     simp
     exact(hJ3 _ _).2 ⟨true,y,acc,rfl,hK,hg,by rw[←he,hd];simp[lg]⟩
    | false=>
     simp[hia]
     by_cases hlt:n<z
     ·simp[hlt]
      refine fk hK (by omega) (by have:=hal he;simp;omega) fun y' ω h1 h2 h3=> ?_
      refine(hJ3 _ _).2 ⟨true,y',acc++ [n],rfl,by simpa using h1,bW hg (fun j hj=>h2 j (by omega)) (by omega),?_⟩
      rw[←he,hd];simp[lg,jf,hlt]
     ·simp[hlt]
      exact(hJ3 _ _).2 ⟨false,y,acc,rfl,hK,hg,by rw[←he,hd];simp[lg,jf,hlt]⟩
   ·intro fr ω hj
    obtain⟨d,y,acc,rfl,hK,hg,he⟩:=(hJ3 _ _).1 hj
    have hn1:=hg.next
    have:=hal he
    simp[hia]
    refine fk hK (by omega) (by simp at this⊢;omega) fun y' ω' h1 h2 h3=> ?_
    simp[hwi]
    exact⟨(hI _ _).2 ⟨i+1,d,y',acc++ [z],by simp,hil,by simpa using h1,bW hg (fun j hj=>h2 j (by omega)) (by omega),he⟩,by omega⟩
  ·have hin:i=l.length:=by omega
   subst hin
   simp
   exact(hJ _ _).2 ⟨d,y,acc,rfl,hK,hg,by simpa using he⟩
 ·intro fr φ hj
  obtain⟨d,y,acc,rfl,hK,hg,he⟩:=(hJ _ _).1 hj
  have hn0:=hg.next
  have ha:=hal he
  refine aM ?_
  cases d with
  | true=>
   simp
   have e:acc=jf n l:=by simpa [lg] using he
   subst e
   exact hfin _ _ hK hg
  | false=>
   simp
   refine fk hK (by omega) (by simp;omega) fun y' ω h1 h2 h3=> ?_
   have e:acc++ [n]=jf n l:=by simpa [lg,jf] using he
   refine hfin _ _ ?_ (bW hg (fun j hj=>h2 j (by omega)) (by omega))
   rw[←e]
   simpa using h1
end Go.Abs.Chk
set_option linter.unusedVariables false
set_option linter.unusedSimpArgs false
set_option linter.deprecated false
namespace Go.Abs.Chk
open Go Go.Abs Go.Abs.At Go.Proofs.ChkD
attribute [local simp] Nat.add_assoc
variable {σ:ah} {k kp:AV→ah→Prop}
theorem oC {a:Atom} {l:List Atom}:(eE a l).length=l.length+1:=by
 induction l with
 | nil=>rfl
 | cons y l ih=>
  unfold eE
  split
  ·simp
  ·simp[ih]
theorem eG {a:Atom} {l:List Atom}:(dc l a).length≤l.length+1:=by
 unfold dc
 split
 ·rw[oC];omega
 ·omega
def dh (a:Atom) (done:Bool) (l:List Atom):List Atom:=if done then l else eE a l
theorem Kid.eff {n m υ x} {l:List Atom} (h:Kid n m 3 υ x (l.map Atom.av)):Frz υ n x (aT l):=Kid.frz h (ld l)
@[simp] theorem atom_len (a:Atom):a.av.length=3:=rfl
@[simp] theorem atom_t3 (a:Atom):List.take 3 a.av=a.av:=rfl
theorem nF {l:List Atom} {a:Atom} (hb:l.length<1000000000000) (hk:k (aT (dc l a)) σ):Ev PR 68 [aT l,a.v] σ k kp:=by
 refine Ev.pure ?_
 apply xU;unfold F68
 simp[an]
 have hg0:aq σ (σ.new (.cells 3 [a.av])):=aq.new _ _
 have g0:(σ.new (.cells 3 [a.av])).get σ.next=some (.cells 3 [a.av]):=by simp[an]
 have hn0:(σ.new (.cells 3 [a.av])).next=σ.next+1:=rfl
 generalize σ.new (.cells 3 [a.av])=τ at hg0 g0 hn0
 refine fW ?_
 unfold dc at hk
 have hsame:dc l a=l→aq σ τ∧∃z,Frz τ σ.next (aT l) z∧k z σ:=fun e=>⟨hg0,_,.low ((gf l).low _),by unfold dc at e;rw[e]at hk;exact hk⟩
 by_cases hat:bL a=false
 ·simp[hat]
  exact hsame (by unfold dc;rw[if_neg];simp[hat])
 have hat:bL a=true:=by simpa using hat
 simp[hat,g0]
 refine uv hb ?_
 by_cases hin:a∈l
 ·simp[hin]
  exact hsame (by unfold dc;rw[if_neg];simp[hin])
 rw[if_pos ⟨hat,hin⟩]at hk
 simp[hin]
 have hfin:∀(y:AV) (φ:ah),Kid σ.next 1 3 φ y ((eE a l).map Atom.av)→aq σ φ→aq σ φ∧∃z,Frz φ σ.next y z∧k z σ:=fun y φ hK hg=>⟨hg,_,Kid.eff hK,hk⟩
 have hal:∀ {d:Bool} {acc r:List Atom},acc++dh a d r=eE a l→acc.length≤l.length+1:=fun h=>by
  have:=congrArg List.length h
  rw[oC,List.length_append]at this
  omega
 obtain⟨J,hJ⟩:∃J:aA→ah→Prop,∀fr φ,J fr φ↔∃(d:Bool) (y:AV) (acc:List Atom),fr= [(3,.ptr σ.next 0 0),(5,y),(6,bool d)]∧Kid σ.next 1 3 φ y (acc.map Atom.av)∧aq τ φ∧acc++dh a d []=eE a l:=⟨_,fun _ _=>Iff.rfl⟩
 have up:∀ {φ ω:ah},aq τ φ→(∀j,j<σ.next+1→ω.get j=φ.get j)→φ.next≤ω.next→aq τ ω:=fun h1 h2 h3=>bW h1 (fun j hj=>h2 j (by omega)) h3
 refine bw J ?_ ?_
 ·have hlen:∀ω,aE .slice (aT l) ω=some (int l.length):=fun ω=>by simp[aT]
  simp[hlen]
  obtain⟨I,hI⟩:∃I:aA→ah→Prop,∀fr φ,I fr φ↔∃(i:Nat) (d:Bool) (y:AV) (acc:List Atom),fr= [(0,aT l),(3,.ptr σ.next 0 0),(5,y),(6,bool d),(19,int l.length),(20,int i)]∧i≤l.length∧Kid σ.next 1 3 φ y (acc.map Atom.av)∧aq τ φ∧acc++dh a d (l.drop i)=eE a l:=⟨_,fun _ _=>Iff.rfl⟩
  refine bI I (fun fr _=>l.length - (intOf (aa fr 20)).toNat) ((hI _ _).2 ⟨0,false,.own τ.next 0,[],by simp,Nat.zero_le _,fm (by omega),aq.new _ _,rfl⟩) ?_
  intro fr φ hi
  obtain⟨i,d,y,acc,rfl,hi,hK,hg,he⟩:=(hI _ _).1 hi
  have hn1:=hg.next
  have f0:φ.get σ.next=some (.cells 3 [a.av]):=(hg.get _ (by omega)).trans g0
  by_cases hil:i<l.length
  ·obtain⟨z,hz⟩:=get_some hil
   have hd:=cx hz
   have hia:∀ω,ak 3 (aT l) (int i) ω=some (.ref z.av):=fun ω=>by rw[aT,aD];simp[hz]
   have hwi:IntKind.i64.wrap ((i:Int)+1)=((i+1:Nat):Int):=by rw[wrap64 (by omega)];omega
   obtain⟨J3,hJ3⟩:∃J:aA→ah→Prop,∀fr φ,J fr φ↔∃(d:Bool) (y:AV) (acc:List Atom),fr= [(0,aT l),(3,.ptr σ.next 0 0),(5,y),(6,bool d),(7,int i),(19,int l.length),(20,int i)]∧Kid σ.next 1 3 φ y (acc.map Atom.av)∧aq τ φ∧(acc++ [z])++dh a d (l.drop (i+1))=eE a l:=⟨_,fun _ _=>Iff.rfl⟩
   simp[hil]
   refine bw J3 ?_ ?_
   ·cases d with
    | true=>
     simp
     exact(hJ3 _ _).2 ⟨true,y,acc,rfl,hK,hg,by rw[←he,hd];simp[dh]⟩
    | false=>
     simp[hia,f0]
     refine oH ?_
     by_cases hlt:ig a z=true
     ·simp[hlt,f0]
      refine fk hK (by omega) (by have:=hal he;simp;omega) fun y' ω h1 h2 h3=> ?_
      refine(hJ3 _ _).2 ⟨true,y',acc++ [a],rfl,by simpa using h1,up hg h2 (by omega),?_⟩
      rw[←he,hd];simp[dh,eE,hlt]
     ·simp[hlt]
      exact(hJ3 _ _).2 ⟨false,y,acc,rfl,hK,hg,by rw[←he,hd];simp[dh,eE,hlt]⟩
   ·intro fr ω hj
    obtain⟨d,y,acc,rfl,hK,hg,he⟩:=(hJ3 _ _).1 hj
    have hn1:=hg.next
    have:=hal he
    simp[hia]
    refine fk hK (by omega) (by simp at this⊢;omega) fun y' ω' h1 h2 h3=> ?_
    simp[hwi]
    exact⟨(hI _ _).2 ⟨i+1,d,y',acc++ [z],by simp,hil,by simpa using h1,up hg h2 (by omega),he⟩,by omega⟩
  ·have hin:i=l.length:=by omega
   subst hin
   simp
   exact(hJ _ _).2 ⟨d,y,acc,rfl,hK,hg,by simpa using he⟩
 ·intro fr φ hj
  obtain⟨d,y,acc,rfl,hK,hg,he⟩:=(hJ _ _).1 hj
  have hn1:=hg.next
  have f0:φ.get σ.next=some (.cells 3 [a.av]):=(hg.get _ (by omega)).trans g0
  have ha:=hal he
  refine aM ?_
  cases d with
  | true=>
   simp
   have e:acc=eE a l:=by simpa [dh] using he
   subst e
   exact hfin _ _ hK (hg0.trans hg)
  | false=>
   simp[f0]
   refine fk hK (by omega) (by simp;omega) fun y' ω h1 h2 h3=> ?_
   have e:acc++ [a]=eE a l:=by simpa [dh,eE] using he
   refine hfin _ _ ?_ (hg0.trans (up hg h2 (by omega)))
   rw[←e]
   simpa using h1
end Go.Abs.Chk
set_option linter.unusedVariables false
set_option linter.unusedSimpArgs false
set_option linter.deprecated false
namespace Go.Abs.Chk
open Go Go.Abs Go.Abs.At Go.Proofs.ChkD
attribute [local simp] Nat.add_assoc
variable {σ:ah} {k kp:AV→ah→Prop}
theorem fA.of {n m sz φ rows}:fA n m sz φ (.sl false sz rows) rows:=.inl rfl
theorem FM {l rs:List Int} {i:Nat} {r:Int} (hr:l[i]?=some r):eD (l.drop i) rs=(decide (r∈rs)&&eD (l.drop (i+1)) rs):=by rw[cx hr];rfl
theorem ma {l rs:List Int} (hb:l.length<1000000000000) (hb2:rs.length<1000000000000) (hk:k (bool (eD l rs)) σ):Ev PR 139 [aO l,aO rs] σ k kp:=by
 refine Ev.bB hk ((Dat.val _).low _) fun k' hk'=> ?_
 apply AR;unfold F139
 refine aM ?_
 have hlen:∀ω,aE .slice (aO l) ω=some (int l.length):=fun ω=>by simp[aO]
 simp[hlen]
 obtain⟨I,hI⟩:∃I:aA→ah→Prop,∀fr φ,I fr φ↔∃(i:Nat),fr= [(0,aO l),(1,aO rs),(7,int l.length),(8,int i)]∧i≤l.length∧φ=σ∧eD l rs=eD (l.drop i) rs:=⟨_,fun _ _=>Iff.rfl⟩
 refine bI I (fun fr _=>l.length - (intOf (aa fr 8)).toNat) ((hI _ _).2 ⟨0,rfl,Nat.zero_le _,rfl,rfl⟩) ?_
 intro fr φ hi
 obtain⟨i,rfl,hi,rfl,he⟩:=(hI _ _).1 hi
 by_cases hil:i<l.length
 ·obtain⟨z,hz⟩:=get_some hil
  have hia:∀ω,ak 1 (aO l) (int i) ω=some (.ref [int z]):=fun ω=>by rw[aO,aD];simp[hz]
  have hwi:IntKind.i64.wrap ((i:Int)+1)=((i+1:Nat):Int):=by rw[wrap64 (by omega)];omega
  rw[FM hz]at he
  simp[hil,hia]
  refine gL hb2 (.inr (.inl ⟨_,rfl⟩)) ?_
  by_cases hm:z∈rs
  ·simp[hm]at he
   simp[hm,hwi]
   exact⟨(hI _ _).2 ⟨i+1,by simp,hil,rfl,he⟩,by omega⟩
  ·simp[hm]at he
   rw[he]at hk'
   simp[hm]
   exact hk' _ (fR _)
 ·have hin:i=l.length:=by omega
  subst hin
  have:eD l rs=true:=by rw[he];simp[eD]
  rw[this]at hk'
  simp
  exact hk' _ (fR _)
theorem nt {sz bytes id:Nat} {c:Bool} {xs ys:List (List AV)} (hg:σ.get id=some (.cells sz xs)) (hb:(xs.length+ys.length) * bytes≤140737488355328∧xs.length+ys.length≤140737488355328):aY sz bytes (.own id xs.length) (.sl c sz ys) σ=some (.own σ.next (xs.length+ys.length),(σ.del id).new (.cells sz (xs++ys))):=by
 simp[aY,eA,hb,hg]
theorem nY {a b:List Int} (hb:a.length+b.length<100000000000) (hk:k (aO (a++b)) σ):Ev PR 140 [aO a,aO b] σ k kp:=by
 refine Ev.pure ?_
 apply AS;unfold F140
 simp
 have ha:=nt (σ:=σ.new (.cells 1 [])) (sz:=1) (bytes:=8) (id:=σ.next) (c:=false) (xs:=[]) (ys:=a.map fun r=>[int r]) (by simp[an]) (by simp;omega)
 simp at ha
 refine bF ha ?_
 have hc:=nt (σ:=((σ.new (.cells 1 [])).del σ.next).new (.cells 1 (a.map fun r=>[int r]))) (sz:=1) (bytes:=8) (id:=σ.next+1) (c:=false) (xs:=a.map fun r=>[int r]) (ys:=b.map fun r=>[int r]) (by simp[an]) (by simp;omega)
 simp at hc
 refine bF hc ?_
 refine⟨⟨by simp,fun i hi=> ?_⟩,_,Kid.aH (m:=0) (l:=a++b) (.inr ⟨σ.next+2,[],by simp,by simp[an],by omega,by simp⟩),hk⟩
 simp only[an,bD,ah.sU,ah.fZ]
 repeat' rw[if_neg (by omega)]
theorem xK {n:Int}:∀ {fr to:List Int} {i:Nat} {f:Int},fr[i]?=some f→lQ n (fr.drop i) (to.drop i)=match to[i]? with | none=>n | some t=>if f=n then t else lQ n (fr.drop (i+1)) (to.drop (i+1)):=by
 intro fr to i f h
 rw[cx h]
 cases ht:to[i]? with
 | none=>
  have:to.length≤i:=by simpa using ht
  rw[List.drop_of_length_le this];rfl
 | some t=>rw[cx ht];rfl
theorem xL {n:Int} {l:List Int}:lQ n l []=n:=by cases l<;>rfl
theorem tB {n:Int} {fr to:List Int} (hb:fr.length<1000000000000) (hb2:to.length<1000000000000) (hk:k (int (lQ n fr to)) σ):Ev PR 177 [int n,aO fr,aO to] σ k kp:=by
 refine Ev.bB hk ((Dat.val _).low _) fun k' hk'=> ?_
 apply Bv;unfold F177
 refine aM ?_
 have hlen:∀(l:List Int) ω,aE .slice (aO l) ω=some (int l.length):=fun l ω=>by simp[aO]
 simp[hlen]
 obtain⟨I,hI⟩:∃I:aA→ah→Prop,∀fr' φ,I fr' φ↔∃(i:Nat),fr'= [(0,int n),(1,aO fr),(2,aO to),(9,int fr.length),(10,int i)]∧i≤fr.length∧φ=σ∧lQ n fr to=lQ n (fr.drop i) (to.drop i):=⟨_,fun _ _=>Iff.rfl⟩
 refine bI I (fun f _=>fr.length - (intOf (aa f 10)).toNat) ((hI _ _).2 ⟨0,rfl,Nat.zero_le _,rfl,rfl⟩) ?_
 intro f' φ hi
 obtain⟨i,rfl,hi,rfl,he⟩:=(hI _ _).1 hi
 by_cases hil:i<fr.length
 ·obtain⟨z,hz⟩:=get_some hil
  have hia:∀ω,ak 1 (aO fr) (int i) ω=some (.ref [int z]):=fun ω=>by rw[aO,aD];simp[hz]
  have hwi:IntKind.i64.wrap ((i:Int)+1)=((i+1:Nat):Int):=by rw[wrap64 (by omega)];omega
  rw[xK hz]at he
  simp[hil,hia]
  by_cases hzn:z=n
  ·simp[hzn,hlen]
   by_cases hit:i<to.length
   ·obtain⟨t,ht⟩:=get_some hit
    have hib:∀ω,ak 1 (aO to) (int i) ω=some (.ref [int t]):=fun ω=>by rw[aO,aD];simp[ht]
    rw[ht]at he
    simp[hzn]at he
    rw[he]at hk'
    simp[hit,hib]
    exact hk' _ (fR _)
   ·have:to[i]?=none:=by simp;omega
    rw[this]at he
    rw[he]at hk'
    simp[hit]
    exact hk' _ (fR _)
  ·simp[hzn,hwi]
   refine⟨(hI _ _).2 ⟨i+1,by simp,hil,rfl,?_⟩,by omega⟩
   rw[he]
   cases ht:to[i]? with
   | none=>
    have:to.length≤i:=by simpa using ht
    simp only
    rw[List.drop_of_length_le (show to.length≤i+1 by omega),xL]
   | some t=>simp[hzn]
 ·have hin:i=fr.length:=by omega
  subst hin
  have:lQ n fr to=n:=by rw[he];simp[lQ]
  rw[this]at hk'
  simp
  exact hk' _ (fR _)
theorem oQ {l:List Atom} (hb:l.length<1000000000000) (hk:k (aT (ofA l)) σ):Ev PR 36 [aT l] σ k kp:=by
 refine Ev.pure ?_
 apply EC;unfold F36
 simp
 refine aM ?_
 have hlen:∀ω,aE .slice (aT l) ω=some (int l.length):=fun ω=>by simp[aT]
 simp[hlen]
 obtain⟨I,hI⟩:∃I:aA→ah→Prop,∀fr φ,I fr φ↔∃(i:Nat) (y:AV) (acc:List Atom),fr= [(0,aT l),(3,y),(7,int l.length),(8,int i)]∧i≤l.length∧fA σ.next 0 3 φ y (acc.map Atom.av)∧aq σ φ∧ofA l=(l.drop i).foldl dc acc∧acc.length≤i:=⟨_,fun _ _=>Iff.rfl⟩
 refine bI I (fun fr _=>l.length - (intOf (aa fr 8)).toNat) ((hI _ _).2 ⟨0,.own σ.next 0,[],rfl,Nat.zero_le _,.inr (fm (by omega)),aq.new _ _,rfl,Nat.le_refl _⟩) ?_
 intro fr φ hi
 obtain⟨i,y,acc,rfl,hi,hK,hg,he,ha⟩:=(hI _ _).1 hi
 by_cases hil:i<l.length
 ·obtain⟨z,hz⟩:=get_some hil
  have hia:∀ω,ak 3 (aT l) (int i) ω=some (.ref z.av):=fun ω=>by rw[aT,aD];simp[hz]
  have hwi:IntKind.i64.wrap ((i:Int)+1)=((i+1:Nat):Int):=by rw[wrap64 (by omega)];omega
  rw[cx hz]at he
  simp[hil,hia]
  refine hK.call fun φ' h1 h2=> ?_
  refine nF (by omega) ?_
  simp[hwi]
  exact⟨(hI _ _).2 ⟨i+1,_,dc acc z,by simp[aT],hil,.inl rfl,bW hg (fun j hj=>h1 j (by omega)) (by omega),he,by have:=@eG z acc;omega⟩,by omega⟩
 ·have hin:i=l.length:=by omega
  subst hin
  simp at he
  subst he
  simp
  exact⟨hg,_,hK.frz (ld _),hk⟩
theorem mM {l:List Atom} (hb:l.length<1000000000000) (hk:k (aO (cL l)) σ):Ev PR 141 [aT l] σ k kp:=by
 refine Ev.pure ?_
 apply AU;unfold F141
 simp
 refine aM ?_
 have hlen:∀ω,aE .slice (aT l) ω=some (int l.length):=fun ω=>by simp[aT]
 simp[hlen]
 obtain⟨st,hst⟩:∃st:List Int→Atom→List Int,st=fun o a=>if bL a=true∧a.kind≠3 then dF o a.rho else o:=⟨_,rfl⟩
 have hdef:cL l=l.foldl st []:=by rw[hst];rfl
 obtain⟨I,hI⟩:∃I:aA→ah→Prop,∀fr φ,I fr φ↔∃(i:Nat) (y:AV) (acc:List Int),fr= [(0,aT l),(3,y),(7,int l.length),(8,int i)]∧i≤l.length∧fA σ.next 0 1 φ y (acc.map fun r=>[int r])∧aq σ φ∧cL l=(l.drop i).foldl st acc∧acc.length≤i:=⟨_,fun _ _=>Iff.rfl⟩
 refine bI I (fun fr _=>l.length - (intOf (aa fr 8)).toNat) ((hI _ _).2 ⟨0,.own σ.next 0,[],rfl,Nat.zero_le _,.inr (fm (by omega)),aq.new _ _,hdef,Nat.le_refl _⟩) ?_
 intro fr φ hi
 obtain⟨i,y,acc,rfl,hi,hK,hg,he,ha⟩:=(hI _ _).1 hi
 by_cases hil:i<l.length
 ·obtain⟨z,hz⟩:=get_some hil
  have hia:∀ω,ak 3 (aT l) (int i) ω=some (.ref z.av):=fun ω=>by rw[aT,aD];simp[hz]
  have hwi:IntKind.i64.wrap ((i:Int)+1)=((i+1:Nat):Int):=by rw[wrap64 (by omega)];omega
  have z0:z.av.head?=some (u8 z.kind):=rfl
  have z1:z.av[1]?=some (int z.rho):=rfl
  rw[cx hz]at he
  simp[hil]
  refine aM ?_
  simp[hia]
  refine fW ?_
  by_cases hat:bL z=true
  ·by_cases h3:z.kind=3
   ·have e:st acc z=acc:=by rw[hst];simp[h3]
    simp only[List.foldl_cons,e]at he
    simp[hat,hia,z0,h3,hwi]
    exact⟨(hI _ _).2 ⟨i+1,y,acc,by simp,hil,hK,hg,he,by omega⟩,by omega⟩
   ·have e:st acc z=dF acc z.rho:=by rw[hst];simp[h3,hat]
    simp only[List.foldl_cons,e]at he
    simp[hat,hia,z0,z1,h3]
    refine hK.call fun φ' h1 h2=> ?_
    refine kD (by omega) ?_
    simp[hwi]
    exact⟨(hI _ _).2 ⟨i+1,_,dF acc z.rho,by simp[aO],hil,.inl rfl,bW hg (fun j hj=>h1 j (by omega)) (by omega),he,by have:=@gv z.rho acc;omega⟩,by omega⟩
  ·have e:st acc z=acc:=by rw[hst];simp[hat]
   simp only[List.foldl_cons,e]at he
   have hat:bL z=false:=by simpa using hat
   simp[hat,hwi]
   exact⟨(hI _ _).2 ⟨i+1,y,acc,by simp,hil,hK,hg,he,by omega⟩,by omega⟩
 ·have hin:i=l.length:=by omega
  subst hin
  simp at he
  simp
  rw[he]at hk
  exact⟨hg,_,hK.frz (pe _),hk⟩
end Go.Abs.Chk
set_option linter.unusedVariables false
set_option linter.unusedSimpArgs false
set_option linter.deprecated false
namespace Go.Abs.Chk
open Go Go.Abs Go.Abs.At Go.Proofs.ChkD
attribute [local simp] Nat.add_assoc
variable {σ:ah} {k kp:AV→ah→Prop}
theorem oh {l:List Atom} {i:Nat} {z:Atom} (hz:l[i]?=some z) (ω:ah):ak 3 (aT l) (int i) ω=some (.ref z.av):=by rw[aT,aD];simp[hz]
theorem mN {l:List Atom} {fr to:List Int} (hb:l.length<1000000000000) (hf:fr.length<1000000000000) (ht:to.length<1000000000000) (hk:k (aT (gA fr to l)) σ):Ev PR 145 [aT l,aO fr,aO to] σ k kp:=by
 refine Ev.pure ?_
 apply AZ;unfold F145
 simp
 refine aM ?_
 have hlen:∀ω,aE .slice (aT l) ω=some (int l.length):=fun ω=>by simp[aT]
 simp[hlen]
 obtain⟨st,hst⟩:∃st:List Atom→Atom→List Atom,st=fun o a=>if bL a=true then dc o (gO fr to a) else o:=⟨_,rfl⟩
 have hdef:gA fr to l=l.foldl st []:=by rw[hst];rfl
 obtain⟨I,hI⟩:∃I:aA→ah→Prop,∀f φ,I f φ↔∃(i:Nat) (y:AV) (acc:List Atom),f= [(0,aT l),(1,aO fr),(2,aO to),(7,y),(12,int l.length),(13,int i)]∧i≤l.length∧fA σ.next 0 3 φ y (acc.map Atom.av)∧aq σ φ∧gA fr to l=(l.drop i).foldl st acc∧acc.length≤i:=⟨_,fun _ _=>Iff.rfl⟩
 refine bI I (fun f _=>l.length - (intOf (aa f 13)).toNat) ((hI _ _).2 ⟨0,.own σ.next 0,[],rfl,Nat.zero_le _,.inr (fm (by omega)),aq.new _ _,hdef,Nat.le_refl _⟩) ?_
 intro f φ hi
 obtain⟨i,y,acc,rfl,hi,hK,hg,he,ha⟩:=(hI _ _).1 hi
 have hn1:=hg.next
 by_cases hil:i<l.length
 ·obtain⟨z,hz⟩:=get_some hil
  have hia:=oh hz
  have hwi:IntKind.i64.wrap ((i:Int)+1)=((i+1:Nat):Int):=by rw[wrap64 (by omega)];omega
  have z0:z.av.head?=some (u8 z.kind):=rfl
  have z1:z.av[1]?=some (int z.rho):=rfl
  rw[cx hz]at he
  simp only[List.foldl_cons]at he
  simp[hil]
  refine aM ?_
  simp[hia]
  have hK1:∀o,fA σ.next 0 3 ((φ.new (.cells 3 [[u8 0,int 0,str ByteArray.empty]])).set φ.next o) y (acc.map Atom.av):=fun o=>by
   rcases hK with rfl | hK
   ·exact .inl rfl
   ·refine .inr ?_
    have h1:=hK.aP (aq.new φ (.cells 3 [[u8 0,int 0,str ByteArray.empty]]))
    rcases h1 with h | ⟨q,rest,e1,e2,e3,e4⟩
    ·exact .inl h
    ·rcases hK with h | ⟨q',rest',e1',e2',e3',e4'⟩
     ·obtain⟨rfl,_⟩:=h;cases e1
     ·rw[e1]at e1';cases e1'
      exact .inr ⟨q,rest,e1,by rw[au,if_neg (by omega)];exact e2,e3,e4⟩
  have hg1:∀o,aq σ ((φ.new (.cells 3 [[u8 0,int 0,str ByteArray.empty]])).set φ.next o):=fun o=>hg.trans ((aq.new _ _).set (Nat.le_refl _) _)
  obtain⟨J3,hJ3⟩:∃J:aA→ah→Prop,∀f ω,J f ω↔f= [(0,aT l),(1,aO fr),(2,aO to),(7,y),(8,int i),(9,.ptr φ.next 0 0),(12,int l.length),(13,int i)]∧fA σ.next 0 3 ω y (acc.map Atom.av)∧aq σ ω∧φ.next<ω.next∧(bL z=true→ω.get φ.next=some (.cells 3 [(gO fr to z).av])):=⟨_,fun _ _=>Iff.rfl⟩
  refine bw J3 ?_ ?_
  ·refine fW ?_
   by_cases hat:bL z=true
   ·by_cases h3:z.kind=3
    ·simp[hat,h3,z0,au]
     exact(hJ3 _ _).2 ⟨rfl,hK1 _,hg1 _,by simp,fun _=>by rw[au,if_pos rfl];unfold gO;rw[if_pos h3]⟩
    ·simp[hat,h3,z0,z1,au]
     refine tB hf ht ?_
     simp[au]
     have e:List.take 1 z.av++int (lQ z.rho fr to)::List.drop 2 z.av=(gO fr to z).av:=by unfold gO;rw[if_neg h3];rfl
     refine(hJ3 _ _).2 ⟨rfl,?_,(hg1 _).set (by omega) _,by simp,fun _=>by rw[au,if_pos rfl,←e]⟩
     rcases hK1 (.cells 3 [z.av]) with h | h | ⟨q,rest,e1,e2,e3,e4⟩
     ·exact .inl h
     ·exact .inr (.inl h)
     ·refine .inr (.inr ⟨q,rest,e1,?_,e3,by simpa using e4⟩)
      have hq:q≠φ.next:=by
       rintro rfl
       rw[au,if_pos rfl]at e2
       rcases hK with h | h | ⟨q',rest',e1',e2',e3',e4'⟩
       ·rw[h]at e1;cases e1
       ·rw[h.1]at e1;cases e1
       ·rw[e1]at e1';cases e1';omega
      rw[au,if_neg hq];exact e2
   ·have hat:bL z=false:=by simpa using hat
    simp[hat]
    exact(hJ3 _ _).2 ⟨rfl,hK1 _,hg1 _,by simp,fun h=>by rw[hat]at h;cases h⟩
  ·intro f ω hj
   obtain⟨rfl,hK,hg,hlt,hat'⟩:=(hJ3 _ _).1 hj
   simp[hia]
   refine fW ?_
   by_cases hat:bL z=true
   ·have e:st acc z=dc acc (gO fr to z):=by rw[hst];simp[hat]
    rw[e]at he
    simp[hat,hat' hat]
    refine hK.call fun φ' h1 h2=> ?_
    refine nF (by omega) ?_
    simp[hwi]
    exact⟨(hI _ _).2 ⟨i+1,_,dc acc (gO fr to z),by simp[aT],hil,.inl rfl,bW hg (fun j hj=>h1 j (by omega)) (by omega),he,by have:=@eG (gO fr to z) acc;omega⟩,by omega⟩
   ·have e:st acc z=acc:=by rw[hst];simp[hat]
    rw[e]at he
    have hat:bL z=false:=by simpa using hat
    simp[hat,hwi]
    exact⟨(hI _ _).2 ⟨i+1,y,acc,by simp,hil,hK,hg,he,by omega⟩,by omega⟩
 ·have hin:i=l.length:=by omega
  subst hin
  simp at he
  simp
  rw[he]at hk
  exact⟨hg,_,hK.frz (ld _),hk⟩
theorem tK {l:List Atom} {rs:List Int} (hb:l.length<1000000000000) (hr:rs.length<1000000000000) (hk:k (aT (fo l rs)) σ):Ev PR 155 [aT l,aO rs] σ k kp:=by
 refine Ev.pure ?_
 apply Bc;unfold F155
 simp
 refine aM ?_
 have hlen:∀ω,aE .slice (aT l) ω=some (int l.length):=fun ω=>by simp[aT]
 simp[hlen]
 obtain⟨st,hst⟩:∃st:List Atom→Atom→List Atom,st=fun o a=>if a.kind=3∨a.rho∉rs then dc o a else o:=⟨_,rfl⟩
 have hdef:fo l rs=l.foldl st []:=by rw[hst];rfl
 obtain⟨I,hI⟩:∃I:aA→ah→Prop,∀f φ,I f φ↔∃(i:Nat) (y:AV) (acc:List Atom),f= [(0,aT l),(1,aO rs),(5,y),(9,int l.length),(10,int i)]∧i≤l.length∧fA σ.next 0 3 φ y (acc.map Atom.av)∧aq σ φ∧fo l rs=(l.drop i).foldl st acc∧acc.length≤i:=⟨_,fun _ _=>Iff.rfl⟩
 refine bI I (fun f _=>l.length - (intOf (aa f 10)).toNat) ((hI _ _).2 ⟨0,.own σ.next 0,[],rfl,Nat.zero_le _,.inr (fm (by omega)),aq.new _ _,hdef,Nat.le_refl _⟩) ?_
 intro f φ hi
 obtain⟨i,y,acc,rfl,hi,hK,hg,he,ha⟩:=(hI _ _).1 hi
 by_cases hil:i<l.length
 ·obtain⟨z,hz⟩:=get_some hil
  have hia:=oh hz
  have hwi:IntKind.i64.wrap ((i:Int)+1)=((i+1:Nat):Int):=by rw[wrap64 (by omega)];omega
  have z0:z.av.head?=some (u8 z.kind):=rfl
  have z1:z.av[1]?=some (int z.rho):=rfl
  rw[cx hz]at he
  simp only[List.foldl_cons]at he
  simp[hil]
  refine aM ?_
  simp[hia,z0]
  by_cases h3:z.kind=3
  ·have e:st acc z=dc acc z:=by rw[hst];simp[h3]
   rw[e]at he
   simp[h3,hia]
   refine hK.call fun φ' h1 h2=> ?_
   refine nF (by omega) ?_
   simp[hwi]
   exact⟨(hI _ _).2 ⟨i+1,_,dc acc z,by simp[aT],hil,.inl rfl,bW hg (fun j hj=>h1 j (by omega)) (by omega),he,by have:=@eG z acc;omega⟩,by omega⟩
  ·simp[h3,hia,z1]
   refine gL hr (.inr (.inl ⟨_,rfl⟩)) ?_
   by_cases hm:z.rho∈rs
   ·have e:st acc z=acc:=by rw[hst];simp[h3,hm]
    rw[e]at he
    simp[hm,hwi]
    exact⟨(hI _ _).2 ⟨i+1,y,acc,by simp,hil,hK,hg,he,by omega⟩,by omega⟩
   ·have e:st acc z=dc acc z:=by rw[hst];simp[h3,hm]
    rw[e]at he
    simp[hm,hia]
    refine hK.call fun φ' h1 h2=> ?_
    refine nF (by omega) ?_
    simp[hwi]
    exact⟨(hI _ _).2 ⟨i+1,_,dc acc z,by simp[aT],hil,.inl rfl,bW hg (fun j hj=>h1 j (by omega)) (by omega),he,by have:=@eG z acc;omega⟩,by omega⟩
 ·have hin:i=l.length:=by omega
  subst hin
  simp at he
  simp
  rw[he]at hk
  exact⟨hg,_,hK.frz (ld _),hk⟩
def gy (l:List ByteArray):AV:=.sl false 1 (l.map fun x=>[str x])
def ja (a:Atom) (xs:List ByteArray):Bool:=decide (a.kind=3)&&xs.any fun x=>decide (x=a.exn)
end Go.Abs.Chk
set_option linter.unusedVariables false
set_option linter.unusedSimpArgs false
set_option linter.deprecated false
namespace Go.Abs.Chk
open Go Go.Abs Go.Abs.At Go.Proofs.ChkD
attribute [local simp] Nat.add_assoc
structure Ok5 (t:RT):Prop where
 small:t.small
 size:t.size≤2000
theorem Ok5.eff {t:RT} (h:Ok5 t):t.eff.length<1000000000000:=by
 obtain⟨k,r,e,ks⟩:=t
 have:=h.1
 simp only[RT.small,iY]at this
 simp only[RT.eff]
 omega
theorem Ok5.kid {t k:RT} (h:Ok5 t) (hk:k∈t.kids):Ok5 k:=by
 have:=RT.dk hk
 obtain⟨k1,r,e,ks⟩:=t
 exact⟨RT.iR h.1.2 k hk,by have:=h.2;omega⟩
section
open Go.Proofs.AtD
theorem ir:∀(N:Nat) (a b:RT),a.size≤N→Ok5 a→Ok5 b→∀(σ:ah) (k kp:AV→ah→Prop),k (bool (RT.same a b)) σ→Ev PR 152 [a.v,b.v] σ k kp:=by
 intro N
 induction N with
 | zero=>intro a b h;have:=a.size_pos;omega
 | succ N ih=>
  intro a b hN ha hb σ k kp hk
  refine Ev.bB hk ((Dat.val _).low _) fun k' hk'=> ?_
  apply A9;unfold F152
  simp
  generalize hτ:(σ.new (.cells 4 [a.av])).new (.cells 4 [b.av])=τ
  have hg:aq σ τ:=by rw[←hτ];exact(aq.new _ _).trans (aq.new _ _)
  have g0:τ.get σ.next=some (.cells 4 [a.av]):=by rw[←hτ];simp[an]
  have g1:τ.get (σ.next+1)=some (.cells 4 [b.av]):=by rw[←hτ];simp[an]
  clear hτ
  have fin:∀v,RT.same a b=v→k' (bool v) τ:=fun v h=>by rw[←h];exact hk' _ hg
  have hla:∀ω,aE .slice (RT.vs a.kids) ω=some (int a.kids.length):=fun ω=>by simp
  have hlb:∀ω,aE .slice (RT.vs b.kids) ω=some (int b.kids.length):=fun ω=>by simp
  have hka:=a.ck
  have hsa:=ha.size
  have heq:=RT.wk a b
  simp[g0,g1]
  by_cases c1:a.kind=b.kind
  ·by_cases c2:a.rho=b.rho
   ·simp[c1,c2,g0,g1,hla,hlb]
    by_cases c3:a.kids.length=b.kids.length
    ·simp[c3,g0,g1]
     refine gC ha.eff hb.eff ?_
     cases w1:bx a.eff b.eff with
     | false=>
      simp
      exact fin false (by rw[heq,w1];simp)
     | true=>
      simp[g0,g1]
      refine gC hb.eff ha.eff ?_
      cases w2:bx b.eff a.eff with
      | false=>
       simp
       exact fin false (by rw[heq,w2];simp)
      | true=>
       simp
       refine aM ?_
       simp[g0,hla]
       refine aX (fun j:Nat=>[(2,.ptr σ.next 0 0),(3,.ptr (σ.next+1) 0 0),(45,int a.kids.length),(46,int j)]) (fun j φ=>φ=τ∧j≤a.kids.length∧∀(i:Nat) x y,i<j→a.kids[i]?=some x→b.kids[i]?=some y→RT.same x y=true) (fun fr _=>a.kids.length - (intOf (aa fr 46)).toNat) 0 (by simp) ⟨rfl,by simp,by simp⟩ ?_
       rintro j φ ⟨rfl,hj,hall⟩
       simp
       by_cases hjl:j<a.kids.length
       ·obtain⟨x,hx⟩:=get_some hjl
        obtain⟨y,hy⟩:=get_some (l:=b.kids) (i:=j) (by omega)
        have hxk:=RT.dk (List.mem_of_getElem? hx)
        have hix:∀ω,ak 4 (RT.vs a.kids) (int j) ω=some (.ref x.av):=fun ω=>by rw[aD];simp[RT.cq hx]
        have hiy:∀ω,ak 4 (RT.vs b.kids) (int j) ω=some (.ref y.av):=fun ω=>by rw[aD];simp[RT.cq hy]
        simp[hjl,g0,g1,hix,hiy]
        refine ih x y (by omega) (ha.kid (List.mem_of_getElem? hx)) (hb.kid (List.mem_of_getElem? hy)) _ _ _ ?_
        cases hs:RT.same x y with
        | false=>
         simp
         exact fin false (by rw[heq,RT.lL hx hy hs];simp)
        | true=>
         simp
         rw[wrap64 (by omega)]
         refine⟨⟨j+1,by simp,by omega,fun i u v hi hu hv=> ?_⟩,by omega⟩
         by_cases hij:i=j
         ·subst hij
          rw[hx]at hu;rw[hy]at hv
          cases hu;cases hv;exact hs
         ·exact hall i u v (by omega) hu hv
       ·simp[hjl]
        refine fin true ?_
        have:RT.dI a.kids b.kids=true:=RT.jY c3 fun i u v hu hv=>hall i u v (by have:=(List.getElem?_eq_some_iff.1 hu).1;omega) hu hv
        rw[heq,w1,w2,this];simp[c1,c2]
    ·have:¬(a.kids.length:Int)=b.kids.length:=by omega
     simp[this]
     exact fin false (by rw[heq,RT.jX c3];simp)
   ·simp[c1,c2,g0,g1]
    exact fin false (by rw[heq];simp[c2])
  ·simp[c1]
   exact fin false (by rw[heq];simp[c1])
end
variable {σ:ah} {k kp:AV→ah→Prop}
theorem py {l:List RT} {i:Nat} {x:RT} (h:l[i]?=some x):RT.aI (l.drop i)=x.size+RT.aI (l.drop (i+1)):=by rw[cx h];rfl
theorem xw:∀(N:Nat) (a:RT),a.size≤N→a.size≤100000→∀(σ:ah) (k kp:AV→ah→Prop),k (int a.size) σ→Ev PR 66 [a.v] σ k kp:=by
 intro N
 induction N with
 | zero=>intro a h;have:=a.size_pos;omega
 | succ N ih=>
  intro a hN ha σ k kp hk
  refine Ev.bB hk ((Dat.val _).low _) fun k' hk'=> ?_
  apply EV;unfold F66
  simp
  generalize hτ:σ.new (.cells 4 [a.av])=τ
  have hg:aq σ τ:=by rw[←hτ];exact aq.new _ _
  have g0:τ.get σ.next=some (.cells 4 [a.av]):=by rw[←hτ];simp[an]
  clear hτ
  refine aM ?_
  have hla:∀ω,aE .slice (RT.vs a.kids) ω=some (int a.kids.length):=fun ω=>by simp
  have hka:=a.ck
  have hsz:a.size=1+RT.aI a.kids:=by obtain⟨k,r,e,ks⟩:=a;rfl
  simp[g0,hla]
  obtain⟨I,hI⟩:∃I:aA→ah→Prop,∀f φ,I f φ↔∃(i n:Nat),f= [(1,.ptr σ.next 0 0),(3,int n),(7,int a.kids.length),(8,int i)]∧i≤a.kids.length∧φ=τ∧n+RT.aI (a.kids.drop i)=a.size:=⟨_,fun _ _=>Iff.rfl⟩
  refine bI I (fun f _=>a.kids.length - (intOf (aa f 8)).toNat) ((hI _ _).2 ⟨0,1,rfl,Nat.zero_le _,rfl,by rw[hsz];rfl⟩) ?_
  intro f φ hi
  obtain⟨i,n,rfl,hi,rfl,he⟩:=(hI _ _).1 hi
  by_cases hil:i<a.kids.length
  ·obtain⟨x,hx⟩:=get_some hil
   have hxk:=RT.dk (List.mem_of_getElem? hx)
   have hix:∀ω,ak 4 (RT.vs a.kids) (int i) ω=some (.ref x.av):=fun ω=>by rw[aD];simp[RT.cq hx]
   have hwi:IntKind.i64.wrap ((i:Int)+1)=((i+1:Nat):Int):=by rw[wrap64 (by omega)];omega
   rw[py hx]at he
   have hwn:IntKind.i64.wrap ((n:Int)+x.size)=((n+x.size:Nat):Int):=by rw[wrap64 (by omega)];omega
   simp[hil,g0,hix]
   refine ih x (by omega) (by omega) _ _ _ ?_
   simp[hwi,hwn]
   exact⟨(hI _ _).2 ⟨i+1,n+x.size,by simp,hil,rfl,by omega⟩,by omega⟩
  ·have hin:i=a.kids.length:=by omega
   subst hin
   simp[RT.aI]at he
   simp[he]
   exact hk' _ hg
theorem mB (e:List Atom):(cL e).length≤e.length:=by
 have:∀(e:List Atom) (acc:List Int),(e.foldl (fun o a=>if bL a=true∧a.kind≠3 then dF o a.rho else o) acc).length≤acc.length+e.length:=by
  intro e
  induction e with
  | nil=>intro acc;simp
  | cons a e ih=>
   intro acc
   simp only[List.foldl_cons,List.length_cons]
   refine Nat.le_trans (ih _) ?_
   split
   ·have:=@gv a.rho acc;omega
   ·omega
 simpa [cL] using this e []
theorem p7 (l:List Int):∀acc:List Int,(l.foldl dF acc).length≤acc.length+l.length:=by
 induction l with
 | nil=>intro acc;simp
 | cons a l ih=>
  intro acc
  simp only[List.foldl_cons,List.length_cons]
  have:=ih (dF acc a)
  have:=@gv a acc
  omega
mutual
theorem jW:∀(t:RT) (o:List Int),t.small→(eI o t).length≤o.length+101 * t.size
 | .mk k r e ks,o,h=>by
  have h2:=kF ks (if k=1 then o else (cL e).foldl dF (dF o r)) h.2
  have h3:=p7 (cL e) (dF o r)
  have h4:=mB e
  have h5:=@gv r o
  have h6:=h.1.1
  have h7:(if k=1 then o else (cL e).foldl dF (dF o r)).length≤o.length+101:=by split<;>omega
  simp only[eI,RT.size]
  omega
theorem kF:∀(l:List RT) (o:List Int),RT.cn l→(cE o l).length≤o.length+101 * RT.aI l
 | [],o,_=>by simp[cE,RT.aI]
 | t::ts,o,h=>by
  have h1:=jW t o h.1
  have h2:=kF ts (eI o t) h.2
  simp only[cE,RT.aI]
  omega
end
theorem mU {l:List RT} {i:Nat} {x:RT} (o:List Int) (h:l[i]?=some x):cE o (l.drop i)=cE (eI o x) (l.drop (i+1)):=by rw[cx h];rfl
theorem zB (o:List Int) (t:RT):eI o t=cE (if t.kind=1 then o else (cL t.eff).foldl dF (dF o t.rho)) t.kids:=by obtain⟨k,r,e,ks⟩:=t;rfl
theorem pd:∀(N:Nat) (a:RT) (o:List Int),a.size≤N→Ok5 a→o.length+101 * a.size<100000000000→∀(σ:ah) (k kp:AV→ah→Prop),k (aO (eI o a)) σ→Ev PR 176 [aO o,a.v] σ k kp:=by
 intro N
 induction N with
 | zero=>intro a o h;have:=a.size_pos;omega
 | succ N ih=>
  intro a o hN ha ho σ k kp hk
  refine Ev.bB hk ((fc _).low _) fun k' hk'=> ?_
  apply Bu;unfold F176
  simp
  generalize hτ:σ.new (.cells 4 [a.av])=τ
  have hg:aq σ τ:=by rw[←hτ];exact aq.new _ _
  have g0:τ.get σ.next=some (.cells 4 [a.av]):=by rw[←hτ];simp[an]
  clear hτ
  have hsz:=ha.size
  have heff:a.eff.length≤100:=by obtain⟨k,r,e,ks⟩:=a;exact ha.small.1.1
  have hrl:=mB a.eff
  obtain⟨J,hJ⟩:∃J:aA→ah→Prop,∀fr φ,J fr φ↔fr= [(0,aO (if a.kind=1 then o else (cL a.eff).foldl dF (dF o a.rho))),(3,.ptr σ.next 0 0)]∧φ=τ:=⟨_,fun _ _=>Iff.rfl⟩
  refine bw J ?_ ?_
  ·by_cases hk1:a.kind=1
   ·simp[hk1]
    exact(hJ _ _).2 ⟨by rw[if_pos hk1],rfl⟩
   ·simp[hk1,g0]
    refine kD (by omega) ?_
    have hpl:=@gv a.rho o
    simp[g0]
    refine mM (by omega) ?_
    have hlen:∀ω,aE .slice (aO (cL a.eff)) ω=some (int (cL a.eff).length):=fun ω=>by simp[aO]
    simp[hlen]
    obtain⟨I,hI⟩:∃I:aA→ah→Prop,∀f φ,I f φ↔∃(i:Nat) (acc:List Int),f= [(0,aO acc),(3,.ptr σ.next 0 0),(5,aO (cL a.eff)),(19,int (cL a.eff).length),(20,int i)]∧i≤(cL a.eff).length∧φ=τ∧(cL a.eff).foldl dF (dF o a.rho)=((cL a.eff).drop i).foldl dF acc∧acc.length≤o.length+1+i:=⟨_,fun _ _=>Iff.rfl⟩
    refine bI I (fun f _=>(cL a.eff).length - (intOf (aa f 20)).toNat) ((hI _ _).2 ⟨0,dF o a.rho,rfl,Nat.zero_le _,rfl,rfl,hpl⟩) ?_
    intro f φ hi
    obtain⟨i,acc,rfl,hi,rfl,he,hal⟩:=(hI _ _).1 hi
    by_cases hil:i<(cL a.eff).length
    ·obtain⟨z,hz⟩:=get_some hil
     have hia:∀ω,ak 1 (aO (cL a.eff)) (int i) ω=some (.ref [int z]):=fun ω=>by rw[aO,aD];simp[hz]
     have hwi:IntKind.i64.wrap ((i:Int)+1)=((i+1:Nat):Int):=by rw[wrap64 (by omega)];omega
     rw[cx hz]at he
     simp[hil,hia]
     refine kD (by omega) ?_
     simp[hwi]
     exact⟨(hI _ _).2 ⟨i+1,dF acc z,by simp,hil,rfl,he,by have:=@gv z acc;omega⟩,by omega⟩
    ·have hin:i=(cL a.eff).length:=by omega
     subst hin
     simp at he
     simp
     exact(hJ _ _).2 ⟨by rw[if_neg hk1,he],rfl⟩
  ·intro fr φ hj
   obtain⟨rfl,rfl⟩:=(hJ _ _).1 hj
   refine aM ?_
   have hla:∀ω,aE .slice (RT.vs a.kids) ω=some (int a.kids.length):=fun ω=>by simp
   have hka:=a.ck
   have hsz2:a.size=1+RT.aI a.kids:=by obtain⟨k,r,e,ks⟩:=a;rfl
   simp[g0,hla]
   obtain⟨o1,ho1⟩:∃o1,o1=(if a.kind=1 then o else (cL a.eff).foldl dF (dF o a.rho)):=⟨_,rfl⟩
   have hol:o1.length≤o.length+101:=by
    rw[ho1]
    split
    ·omega
    ·have h3:=p7 (cL a.eff) (dF o a.rho)
     have h5:=@gv a.rho o
     omega
   rw[zB,←ho1]at hk'
   rw[←ho1]
   obtain⟨I,hI⟩:∃I:aA→ah→Prop,∀f ω,I f ω↔∃(i:Nat) (acc:List Int),f= [(0,aO acc),(3,.ptr σ.next 0 0),(32,int a.kids.length),(33,int i)]∧i≤a.kids.length∧ω=φ∧cE o1 a.kids=cE acc (a.kids.drop i)∧acc.length+101 * RT.aI (a.kids.drop i)≤o.length+101 * a.size:=⟨_,fun _ _=>Iff.rfl⟩
   refine bI I (fun f _=>a.kids.length - (intOf (aa f 33)).toNat) ((hI _ _).2 ⟨0,o1,rfl,Nat.zero_le _,rfl,rfl,by simp;omega⟩) ?_
   intro f ω hi
   obtain⟨i,acc,rfl,hi,rfl,he,hal⟩:=(hI _ _).1 hi
   by_cases hil:i<a.kids.length
   ·obtain⟨x,hx⟩:=get_some hil
    have hxm:=List.mem_of_getElem? hx
    have hxk:=RT.dk hxm
    have hix:∀ω,ak 4 (RT.vs a.kids) (int i) ω=some (.ref x.av):=fun ω=>by rw[aD];simp[RT.cq hx]
    have hwi:IntKind.i64.wrap ((i:Int)+1)=((i+1:Nat):Int):=by rw[wrap64 (by omega)];omega
    rw[mU _ hx]at he
    rw[py hx]at hal
    simp[hil,g0,hix]
    refine ih x acc (by omega) (ha.kid hxm) (by omega) _ _ _ ?_
    simp[hwi]
    refine⟨(hI _ _).2 ⟨i+1,eI acc x,by simp,hil,rfl,he,?_⟩,by omega⟩
    have:=jW x acc (ha.kid hxm).small
    omega
   ·have hin:i=a.kids.length:=by omega
    subst hin
    simp[cE]at he
    rw[he]at hk'
    simp
    exact hk' _ hg
end Go.Abs.Chk
