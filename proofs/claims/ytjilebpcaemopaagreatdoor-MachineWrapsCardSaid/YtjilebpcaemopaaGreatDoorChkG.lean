import Derived.Test.YtjilebpcaemopaaGreatDoorChkB2
set_option linter.unusedVariables false
set_option linter.unusedSimpArgs false
set_option linter.deprecated false
namespace Go.Abs.Chk
open Go Go.Abs Go.Abs.At Go.Proofs.ChkD
attribute [local simp] Nat.add_assoc
variable {σ:ah} {k kp:AV→ah→Prop}
theorem Kid.up {n m n' m' sz υ x rows} (h:Kid n m sz υ x rows) (hn:n'+m'≤n+m):Kid n' m' sz υ x rows:=by
 rcases h with h | ⟨q,rest,e1,e2,e3,e4⟩
 ·exact .inl h
 ·exact .inr ⟨q,rest,e1,e2,by omega,e4⟩
theorem Kid.same {n m sz υ ω x rows} (h:Kid n m sz υ x rows) (hg:∀j,j<υ.next→ω.get j=υ.get j) (hn:υ.next≤ω.next):Kid n m sz ω x rows:=by
 rcases h with h | ⟨q,rest,e1,e2,e3,e4⟩
 ·exact .inl h
 ·exact .inr ⟨q,rest,e1,by rw[hg _ e4];exact e2,e3,by omega⟩
section
open Go.Proofs.AtD
theorem CA {l:List Atom} {a:Atom} {x:AV} {n m:Nat} (hx:Kid n m 3 σ x (l.map Atom.av)) (hb:l.length<1000000000000)
 (hk:∀ω,aq σ ω→k (bool (decide (a∈l))) ω):Ev PR 111 [x,a.v] σ k kp:=by
 apply va;unfold D5
 have hlen:=hx.rows.len
 simp only[List.length_map]at hlen
 simp
 have hx':=hx.aP (aq.new σ (.cells 3 [a.av]))
 have hlen':=hx'.rows.len
 simp only[List.length_map]at hlen'
 generalize hτ:σ.new _=τ at hx' hlen'
 have g0:τ.get σ.next=some (.cells 3 [a.av]):=by rw[←hτ];simp[an]
 have hG:aq σ τ:=by rw[←hτ];exact aq.new _ _
 clear hτ
 refine aM ?_
 simp[hlen']
 obtain⟨I,hI⟩:∃I:aA→ah→Prop,∀f φ,I f φ↔∃(i:Nat),f= [(0,x),(3,.ptr σ.next 0 0),(7,int l.length),(8,int i)]∧i≤l.length∧φ=τ∧a∉l.take i:=⟨_,fun _ _=>Iff.rfl⟩
 refine bI I (fun f _=>l.length - (intOf (aa f 8)).toNat) ((hI _ _).2 ⟨0,rfl,Nat.zero_le _,rfl,by simp⟩) ?_
 intro f φ hi
 obtain⟨i,rfl,hi,rfl,hne⟩:=(hI _ _).1 hi
 by_cases hil:i<l.length
 ·obtain⟨t,ht⟩:=get_some hil
  obtain⟨p,hp,hat⟩:=hx'.rows.at (i:=i) (el:=t.av) (by simp[ht]) rfl .i64
  have hwi:IntKind.i64.wrap ((i:Int)+1)=((i+1:Nat):Int):=by rw[wrap64 (by omega)];omega
  simp[hil,hp]
  refine fJ (x:=t.v) (by rw[hat.load];rfl) ?_
  simp[g0,Atom.mZ,yA]
  by_cases hc:t=a
  ·subst hc
   simp
   have:=hk _ hG
   rwa [decide_eq_true (List.mem_of_getElem? ht)]at this
  ·simp[hc,hwi]
   refine⟨(hI _ _).2 ⟨i+1,by simp,hil,rfl,fun h=> ?_⟩,by omega⟩
   rw[List.take_add_one,ht]at h
   rcases List.mem_append.1 h with h | h
   ·exact hne h
   ·simp at h;exact hc h.symm
 ·rw[List.take_of_length_le (by omega)]at hne
  simp[hil]
  have:=hk _ hG
  rwa [decide_eq_false hne]at this
end
theorem C0 {n m:Nat} {y:AV} {l:List Atom} {a:Atom} (hy:Kid n m 3 σ y (l.map Atom.av)) (hm:n+m≤σ.next) (hb:l.length<1000000000000)
 (hk:∀z ω,Kid n m 3 ω z ((dc l a).map Atom.av)→(∀j,j<n+m→ω.get j=σ.get j)→σ.next≤ω.next→k z ω):Ev PR 68 [y,a.v] σ k kp:=by
 apply xU;unfold F68
 simp[an]
 have hg0:aq σ (σ.new (.cells 3 [a.av])):=aq.new _ _
 have g0:(σ.new (.cells 3 [a.av])).get σ.next=some (.cells 3 [a.av]):=by simp[an]
 have hn0:(σ.new (.cells 3 [a.av])).next=σ.next+1:=rfl
 have hyτ:=hy.aP hg0
 generalize σ.new (.cells 3 [a.av])=τ at hg0 g0 hn0 hyτ
 refine fW ?_
 have hsame:dc l a=l→k y τ:=fun e=>hk y τ (by rw[e];exact hyτ) (fun j hj=>hg0.get j (by omega)) (by omega)
 by_cases hat:bL a=false
 ·simp[hat]
  exact hsame (by unfold dc;rw[if_neg];simp[hat])
 have hat:bL a=true:=by simpa using hat
 simp[hat,g0]
 refine CA hyτ hb fun τ' hgτ'=> ?_
 have hyτ':=hyτ.aP hgτ'
 have hg0':=hg0.trans hgτ'
 have g0':=(hgτ'.get σ.next (by omega)).trans g0
 have hn0':=hgτ'.next
 have hsame':dc l a=l→k y τ':=fun e=>hk y τ' (by rw[e];exact hyτ') (fun j hj=>hg0'.get j (by omega)) (by omega)
 by_cases hin:a∈l
 ·simp[hin]
  exact hsame' (by unfold dc;rw[if_neg];simp[hin])
 have hP:dc l a=eE a l:=by unfold dc;rw[if_pos ⟨hat,hin⟩]
 rw[hP]at hk
 simp[hin]
 have N1:σ.next+1≤τ'.next:=by omega
 have hfin:∀(z:AV) (φ:ah),Kid σ.next 1 3 φ z ((eE a l).map Atom.av)→(∀j,j<σ.next+1→φ.get j=τ'.get j)→τ'.next≤φ.next→k z φ:=fun z φ hK hg hn=>hk z φ (Kid.up hK (by omega)) (fun j hj=>by rw[hg j (by omega)];exact hg0'.get j (by omega)) (by omega)
 have hal:∀ {d:Bool} {acc r:List Atom},acc++dh a d r=eE a l→acc.length≤l.length+1:=fun h=>by
  have:=congrArg List.length h
  rw[oC,List.length_append]at this
  omega
 have hyk:∀ {φ:ah},(∀j,j<σ.next+1→φ.get j=τ'.get j)→τ'.next≤φ.next→Rows φ 3 y (l.map Atom.av):=fun h1 h2=>by
  have:Kid n m 3 τ' y (l.map Atom.av):=hyτ'
  rcases hy with ⟨rfl,he⟩ | ⟨q,rest,e1,e2,e3,e4⟩
  ·exact .inl ⟨rfl,he⟩
  ·exact .inr (.inr ⟨q,rest,e1,by rw[h1 q (by omega),hg0'.get q e4];exact e2⟩)
 obtain⟨J,hJ⟩:∃J:aA→ah→Prop,∀fr φ,J fr φ↔∃(d:Bool) (z:AV) (acc:List Atom),fr= [(3,.ptr σ.next 0 0),(5,z),(6,bool d)]∧Kid σ.next 1 3 φ z (acc.map Atom.av)∧(∀j,j<σ.next+1→φ.get j=τ'.get j)∧τ'.next≤φ.next∧acc++dh a d []=eE a l:=⟨_,fun _ _=>Iff.rfl⟩
 refine bw J ?_ ?_
 ·have hlen:aE .slice y (τ'.new (.cells 3 []))=some (int l.length):=by
   have:=(hyk (φ:=τ'.new (.cells 3 [])) (fun j hj=>by rw[an,if_neg (by omega)]) (by simp)).len
   simpa using this
  simp[hlen]
  obtain⟨I,hI⟩:∃I:aA→ah→Prop,∀fr φ,I fr φ↔∃(i:Nat) (d:Bool) (z:AV) (acc:List Atom),fr= [(0,y),(3,.ptr σ.next 0 0),(5,z),(6,bool d),(19,int l.length),(20,int i)]∧i≤l.length∧Kid σ.next 1 3 φ z (acc.map Atom.av)∧(∀j,j<σ.next+1→φ.get j=τ'.get j)∧τ'.next≤φ.next∧acc++dh a d (l.drop i)=eE a l:=⟨_,fun _ _=>Iff.rfl⟩
  refine bI I (fun fr _=>l.length - (intOf (aa fr 20)).toNat) ((hI _ _).2 ⟨0,false,.own τ'.next 0,[],by simp,Nat.zero_le _,fm (by omega),fun j hj=>by rw[an,if_neg (by omega)],by simp,rfl⟩) ?_
  intro fr φ hi
  obtain⟨i,d,z,acc,rfl,hi,hK,hg,hn,he⟩:=(hI _ _).1 hi
  have f0:φ.get σ.next=some (.cells 3 [a.av]):=(hg _ (by omega)).trans g0'
  by_cases hil:i<l.length
  ·obtain⟨t,ht⟩:=get_some hil
   have hd:=cx ht
   have hia:∀ {ω:ah},(∀j,j<σ.next+1→ω.get j=τ'.get j)→τ'.next≤ω.next→∃p,ak 3 y (int i) ω=some p∧aj true 3 p ω=some t.v:=fun h1 h2=>by
    obtain⟨p,hp,hat⟩:=(hyk h1 h2).at (i:=i) (el:=t.av) (by simp[ht]) rfl .i64
    exact⟨p,hp,by rw[hat.load];rfl⟩
   have hwi:IntKind.i64.wrap ((i:Int)+1)=((i+1:Nat):Int):=by rw[wrap64 (by omega)];omega
   obtain⟨J3,hJ3⟩:∃J:aA→ah→Prop,∀fr φ,J fr φ↔∃(d:Bool) (z:AV) (acc:List Atom),fr= [(0,y),(3,.ptr σ.next 0 0),(5,z),(6,bool d),(7,int i),(19,int l.length),(20,int i)]∧Kid σ.next 1 3 φ z (acc.map Atom.av)∧(∀j,j<σ.next+1→φ.get j=τ'.get j)∧τ'.next≤φ.next∧(acc++ [t])++dh a d (l.drop (i+1))=eE a l:=⟨_,fun _ _=>Iff.rfl⟩
   simp[hil]
   refine bw J3 ?_ ?_
   ·cases d with
    | true=>
     simp
     exact(hJ3 _ _).2 ⟨true,z,acc,rfl,hK,hg,hn,by rw[←he,hd];simp[dh]⟩
    | false=>
     obtain⟨p,hp,hld⟩:=hia hg hn
     simp[f0,hp]
     refine fJ (x:=t.v) hld ?_
     refine oH ?_
     by_cases hlt:ig a t=true
     ·simp[hlt,f0]
      refine fk hK (by omega) (by have:=hal he;simp;omega) fun y' ω h1 h2 h3=> ?_
      refine(hJ3 _ _).2 ⟨true,y',acc++ [a],rfl,by simpa using h1,fun j hj=>(h2 j hj).trans (hg j hj),by omega,?_⟩
      rw[←he,hd];simp[dh,eE,hlt]
     ·simp[hlt]
      exact(hJ3 _ _).2 ⟨false,z,acc,rfl,hK,hg,hn,by rw[←he,hd];simp[dh,eE,hlt]⟩
   ·intro fr ω hj
    obtain⟨d,z,acc,rfl,hK,hg,hn,he⟩:=(hJ3 _ _).1 hj
    have:=hal he
    obtain⟨p,hp,hld⟩:=hia hg hn
    simp[hp]
    refine fJ (x:=t.v) hld ?_
    simp
    refine fk hK (by omega) (by simp at this⊢;omega) fun y' ω' h1 h2 h3=> ?_
    simp[hwi]
    exact⟨(hI _ _).2 ⟨i+1,d,y',acc++ [t],by simp,hil,by simpa using h1,fun j hj=>(h2 j hj).trans (hg j hj),by omega,he⟩,by omega⟩
  ·have hin:i=l.length:=by omega
   subst hin
   simp
   exact(hJ _ _).2 ⟨d,z,acc,rfl,hK,hg,hn,by simpa using he⟩
 ·intro fr φ hj
  obtain⟨d,z,acc,rfl,hK,hg,hn,he⟩:=(hJ _ _).1 hj
  have f0:φ.get σ.next=some (.cells 3 [a.av]):=(hg _ (by omega)).trans g0'
  have ha:=hal he
  refine aM ?_
  cases d with
  | true=>
   simp
   have e:acc=eE a l:=by simpa [dh] using he
   subst e
   exact hfin _ _ hK hg hn
  | false=>
   simp[f0]
   refine fk hK (by omega) (by simp;omega) fun y' ω h1 h2 h3=> ?_
   have e:acc++ [a]=eE a l:=by simpa [dh,eE] using he
   refine hfin _ _ ?_ (fun j hj=>(h2 j hj).trans (hg j hj)) (by omega)
   rw[←e]
   simpa using h1
theorem sB {l:List Atom} {xs:List ByteArray} (hb:l.length<1000000000000) (hr:xs.length<1000000000000) (hk:∀z ω,Kid σ.next 0 3 ω z ((eC l xs).map Atom.av)→aq σ ω→k z ω):Ev PR 153 [aT l,gy xs] σ k kp:=by
 apply Ba;unfold F153
 simp
 refine aM ?_
 have hlen:∀ω,aE .slice (aT l) ω=some (int l.length):=fun ω=>by simp[aT]
 have hlen2:∀ω,aE .slice (gy xs) ω=some (int xs.length):=fun ω=>by simp[gy]
 simp[hlen]
 obtain⟨st,hst⟩:∃st:List Atom→Atom→List Atom,st=fun o a=>if a.kind=3∧(xs.any fun x=>decide (x=a.exn))=true then o else dc o a:=⟨_,rfl⟩
 have hdef:eC l xs=l.foldl st []:=by rw[hst];rfl
 obtain⟨I,hI⟩:∃I:aA→ah→Prop,∀f φ,I f φ↔∃(i:Nat) (y:AV) (acc:List Atom),f= [(0,aT l),(1,gy xs),(5,y),(11,int l.length),(12,int i)]∧i≤l.length∧Kid σ.next 0 3 φ y (acc.map Atom.av)∧aq σ φ∧eC l xs=(l.drop i).foldl st acc∧acc.length≤i:=⟨_,fun _ _=>Iff.rfl⟩
 refine bI I (fun f _=>l.length - (intOf (aa f 12)).toNat) ((hI _ _).2 ⟨0,.own σ.next 0,[],rfl,Nat.zero_le _,fm (by omega),aq.new _ _,hdef,Nat.le_refl _⟩) ?_
 intro f φ hi
 obtain⟨i,y,acc,rfl,hi,hK,hg,he,ha⟩:=(hI _ _).1 hi
 by_cases hil:i<l.length
 ·obtain⟨z,hz⟩:=get_some hil
  have hia:=oh hz
  have hwi:IntKind.i64.wrap ((i:Int)+1)=((i+1:Nat):Int):=by rw[wrap64 (by omega)];omega
  have z0:z.av.head?=some (u8 z.kind):=rfl
  have z2:z.av[2]?=some (str z.exn):=rfl
  rw[cx hz]at he
  simp only[List.foldl_cons]at he
  simp[hil]
  refine aM ?_
  obtain⟨J3,hJ3⟩:∃J:aA→ah→Prop,∀f ω,J f ω↔f= [(0,aT l),(1,gy xs),(5,y),(6,int i),(7,bool (ja z xs)),(11,int l.length),(12,int i)]∧ω=φ:=⟨_,fun _ _=>Iff.rfl⟩
  refine bw J3 ?_ ?_
  ·simp[hlen2]
   obtain⟨I2,hI2⟩:∃I:aA→ah→Prop,∀f ω,I f ω↔∃(j:Nat) (g:Bool),f= [(0,aT l),(1,gy xs),(5,y),(6,int i),(7,bool g),(11,int l.length),(12,int i),(16,int xs.length),(17,int j)]∧j≤xs.length∧ω=φ∧ja z xs=(g||ja z (xs.drop j)):=⟨_,fun _ _=>Iff.rfl⟩
   refine bI I2 (fun f _=>xs.length - (intOf (aa f 17)).toNat) ((hI2 _ _).2 ⟨0,false,rfl,Nat.zero_le _,rfl,by simp⟩) ?_
   intro f ω hi2
   obtain⟨j,g,rfl,hj,rfl,hgo⟩:=(hI2 _ _).1 hi2
   by_cases hjl:j<xs.length
   ·obtain⟨x,hx⟩:=get_some hjl
    have hxa:∀ω,ak 1 (gy xs) (int j) ω=some (.ref [str x]):=fun ω=>by rw[gy,aD];simp[hx]
    have hwj:IntKind.i64.wrap ((j:Int)+1)=((j+1:Nat):Int):=by rw[wrap64 (by omega)];omega
    rw[cx hx]at hgo
    have e:ja z (x::xs.drop (j+1))=(decide (z.kind=3∧x=z.exn)||ja z (xs.drop (j+1))):=by
     unfold ja
     by_cases h3:z.kind=3<;>simp[h3]
    rw[e,←Bool.or_assoc]at hgo
    cases g with
    | true=>
     simp[hjl,hwj]
     exact⟨(hI2 _ _).2 ⟨j+1,true,by simp,hjl,rfl,by simpa using hgo⟩,by omega⟩
    | false=>
     by_cases h3:z.kind=3
     ·simp[hjl,hwj,hia,z0,z2,hxa,h3]
      exact⟨(hI2 _ _).2 ⟨j+1,decide (x=z.exn),by simp,hjl,rfl,by simpa [h3] using hgo⟩,by omega⟩
     ·simp[hjl,hwj,hia,z0,z2,hxa,h3]
      exact⟨(hI2 _ _).2 ⟨j+1,false,by simp,hjl,rfl,by simpa [h3] using hgo⟩,by omega⟩
   ·have hin:j=xs.length:=by omega
    subst hin
    simp
    refine(hJ3 _ _).2 ⟨?_,rfl⟩
    rw[hgo]
    have:ja z (xs.drop xs.length)=false:=by simp[ja]
    rw[this];simp
  ·intro f ω hj
   obtain⟨rfl,rfl⟩:=(hJ3 _ _).1 hj
   by_cases hgo:ja z xs=true
   ·have h2:z.kind=3∧(xs.any fun x=>decide (x=z.exn))=true:=by simpa [ja] using hgo
    have e:st acc z=acc:=by rw[hst];exact if_pos h2
    rw[e]at he
    simp[hgo,hwi]
    exact⟨(hI _ _).2 ⟨i+1,y,acc,by simp,hil,hK,hg,he,by omega⟩,by omega⟩
   ·have h2:¬(z.kind=3∧(xs.any fun x=>decide (x=z.exn))=true):=by simpa [ja] using hgo
    have e:st acc z=dc acc z:=by rw[hst];exact if_neg h2
    rw[e]at he
    have hgo:ja z xs=false:=by simpa using hgo
    simp[hgo,hia]
    have:=hg.next
    refine C0 hK (by omega) (by omega) fun y' ω h1 h2 h3=> ?_
    simp[hwi]
    exact⟨(hI _ _).2 ⟨i+1,y',dc acc z,by simp,hil,h1,bW hg (fun j hj=>h2 j (by omega)) h3,he,by have:=@eG z acc;omega⟩,by omega⟩
 ·have hin:i=l.length:=by omega
  subst hin
  simp at he
  simp
  rw[he]at hk
  exact hk _ _ hK hg
end Go.Abs.Chk
set_option linter.unusedVariables false
set_option linter.unusedSimpArgs false
set_option linter.deprecated false
namespace Go.Abs.Chk
open Go Go.Abs Go.Abs.At Go.Proofs.ChkD
attribute [local simp] Nat.add_assoc
variable {σ φ:ah} {k kp:AV→ah→Prop}
structure RS (σ φ:ah) (t:AT) (p:Nat) (out:RT):Prop where
 g:aq σ φ
 n:σ.next+2≤φ.next
 t0:φ.get σ.next=some (.cells 19 [t.av])
 r:φ.get (σ.next+1)=some (.cells 7 [[u8 0,int 0,bf,bf,bf,int 0,int 0]])
 p0:σ.next+2≤p
 p1:p<φ.next
 o:φ.get p=some (.cells 4 [out.av])
abbrev Ek (σ φ:ah) (y:AV) (e:List Atom):Prop:=Kid σ.next 2 3 φ y (e.map Atom.av)
theorem RS.store {t p out} (h:RS σ φ t p out) (out':RT):RS σ (φ.set p (.cells 4 [out'.av])) t p out':=by
 have h0:=h.p0
 refine⟨h.g.set (by omega) _,h.n,?_,?_,h.p0,h.p1,by simp[au]⟩
 ·rw[au,if_neg (by omega)];exact h.t0
 ·rw[au,if_neg (by omega)];exact h.r
theorem RS.gV {t p out} (h:RS σ φ t p out) {y:AV} {e:List Atom} (hy:Ek σ φ y e) (out':RT):Ek σ (φ.set p (.cells 4 [out'.av])) y e:=by
 rcases hy with ⟨h1,h2⟩ | ⟨q,rest,h1,h2,h3,h4⟩
 ·exact .inl ⟨h1,h2⟩
 ·refine .inr ⟨q,rest,h1,?_,h3,h4⟩
  rw[au,if_neg]
  ·exact h2
  ·rintro rfl;rw[h.o]at h2;cases h2
theorem RS.aP {t p out ω} (h:RS σ φ t p out) (g:aq φ ω):RS σ ω t p out:=by
 have h0:=h.p0
 have hn:=h.n
 have h1:=h.p1
 exact⟨h.g.trans g,by have:=g.next;omega,by rw[g.get _ (by omega)];exact h.t0,by rw[g.get _ (by omega)];exact h.r,h0,by have:=g.next;omega,by rw[g.get _ h1];exact h.o⟩
theorem RS.app {t p out} (h:RS σ φ t p out) {y:AV} {e:List Atom} (hy:Ek σ φ y e) {z:AV} {l:List Atom} (hz:Rows φ 3 z (l.map Atom.av)) (hl:e.length+l.length≤1000000) {K:AV→ah→Prop}
 (hK:∀y' ω,RS σ ω t p out→Ek σ ω y' (e++l)→ω.next=φ.next+1→K y' ω):ab (aY 3 32 y z φ) K:=by
 have h0:=h.p0
 have hn:=h.n
 refine bF (bP (by':=32) hy.rows hy.ns hz (by simp only[List.length_map];omega)) ?_
 obtain⟨p1,p2,p3⟩:=hy.app (by omega) (l.map Atom.av)
 have e0:∀j,j<φ.next→((gone y φ).new (.cells 3 (e.map Atom.av++l.map Atom.av))).get j=(gone y φ).get j:=fun j hj=>by rw[an,bM,if_neg (by omega)]
 refine hK _ _ ?_ (by unfold Ek;rw[List.map_append];exact p1) p3
 refine⟨⟨by rw[p3];have:=h.g.next;omega,fun j hj=>by rw[p2 j (by omega)];exact h.g.get j hj⟩,by rw[p3];omega,by rw[p2 _ (by omega)];exact h.t0,by rw[p2 _ (by omega)];exact h.r,h.p0,by rw[p3];have:=h.p1;omega,?_⟩
 rw[e0 _ h.p1,hy.other (by omega) h.o];exact h.o
theorem RS.one {t p out} (h:RS σ φ t p out) {y:AV} {e:List Atom} (hy:Ek σ φ y e) {a:Atom} (hl:e.length+1≤1000000) {K:AV→ah→Prop}
 (hK:∀y' ω,RS σ ω t p out→Ek σ ω y' (e++ [a])→K y' ω):ab (aY 3 32 y (.own φ.next 1) (φ.new (.cells 3 [a.av]))) K:=by
 have hg:aq φ (φ.new (.cells 3 [a.av])):=aq.new _ _
 exact(h.aP hg).app (hy.aP hg) (l:=[a]) (.inr (.inr ⟨φ.next,[],rfl,by simp[an]⟩)) (by simpa using hl) (fun y' ω h1 h2 _=>hK y' ω h1 h2)
def frJ (σ:ah) (p:Nat) (ty fi:Bool) (y:AV):aA:=[(2,.ptr σ.next 0 0),(4,.ptr (σ.next+1) 0 0),(5,y),(7,bool ty),(8,bool fi),(9,.ptr p 0 0)]
def Jn (σ:ah) (t:AT) (p:Nat) (R:Bool×Bool×RT×List Atom) (fr:aA) (φ:ah):Prop:=
 ∃ty fi out e y,fr=frJ σ p ty fi y∧RS σ φ t p out∧(fA σ.next 2 3 φ y (e.map Atom.av)∨y= .sl true 3 (e.map Atom.av))∧R=(ty,fi,out,e)
theorem Jn.of {t p out} (h:RS σ φ t p out) {y:AV} {e:List Atom} (hy:Ek σ φ y e) (ty fi:Bool):Jn σ t p (ty,fi,out,e) (frJ σ p ty fi y) φ:=⟨ty,fi,out,e,y,rfl,h,.inl (.inr hy),rfl⟩
def frK (σ:ah) (x:AV) (p:Nat) (kd:Int) (b:Bool) (y:AV):aA:=[(1,x),(2,.ptr σ.next 0 0),(4,.ptr (σ.next+1) 0 0),(5,y),(7,bool true),(8,bool true),(9,.ptr p 0 0),(27,u8 kd),(49,bool b)]
section
variable {t:AT} {p:Nat} {out:RT} {y:AV} {e:List Atom} {a b c:Rr} {j2:aA→ah→Prop} {kd:Int} {bb:Bool}
theorem Dy (x:RT):br x.v=some x.av:=nr rfl
theorem yc (x:RT):br (.agg x.av)=some x.av:=nr rfl
theorem DI (x:RT):List.drop 4 x.av= []:=List.drop_of_length_le (by simp)
theorem ix0 (sz:Nat) (d:Bool) (r:List AV) (rs:List (List AV)) (ω:ah):ak sz (.sl d sz (r::rs)) (.val (.int .i64 0)) ω=some (.ref r):=nr (by rw[aD];simp)
theorem ix1 (sz:Nat) (d:Bool) (r r':List AV) (rs:List (List AV)) (ω:ah):ak sz (.sl d sz (r::r'::rs)) (.val (.int .i64 1)) ω=some (.ref r'):=nr (by rw[aD];simp)
theorem ix2 (sz:Nat) (d:Bool) (r r' r'':List AV) (rs:List (List AV)) (ω:ah):ak sz (.sl d sz (r::r'::r''::rs)) (.val (.int .i64 2)) ω=some (.ref r''):=nr (by rw[aD];simp)
theorem DU (r:Rr):List.take 4 r.av=r.t.av:=by obtain⟨⟨_,_,_,_⟩,e,p,n⟩:=r;rfl
theorem C5 (r:Rr):r.av[4]?=some (aT r.e):=by obtain⟨⟨_,_,_,_⟩,e,p,n⟩:=r;rfl
theorem rr_h (r:Rr):r.av.head?=some (u8 r.t.kind):=by obtain⟨⟨_,_,_,_⟩,e,p,n⟩:=r;rfl
theorem Gu (r:Rr):r.av[1]?=some (int r.t.rho):=by obtain⟨⟨_,_,_,_⟩,e,p,n⟩:=r;rfl
theorem Gv (r:Rr):r.av[2]?=some (aT r.t.eff):=by obtain⟨⟨_,_,_,_⟩,e,p,n⟩:=r;rfl
theorem Gw (r:Rr):r.av[3]?=some (RT.vs r.t.kids):=by obtain⟨⟨_,_,_,_⟩,e,p,n⟩:=r;rfl
theorem vs_ix {ks:List RT} {i:Nat} {x:RT} (h:ks[i]?=some x) (kk:IntKind) (ω:ah):ak 4 (RT.vs ks) (.val (.int kk (i:Int))) ω=some (.ref x.av):=by
 rw[aD,RT.cu];simp[h]
theorem mf {T:RT} {i:Nat} (h:i<T.kids.length) (kk:IntKind) (ω:ah):ak 4 (RT.vs T.kids) (.val (.int kk (i:Int))) ω=some (.ref (aS T i).av):=vs_ix (by unfold aS;rw[List.getElem?_eq_getElem h];rfl) kk ω
theorem DT (r:Rr) (h:r.av≠[]):r.av.head h=u8 r.t.kind:=by obtain⟨⟨_,_,_,_⟩,e,p,n⟩:=r;rfl
theorem DP (r:Rr) (h:1<r.av.length):r.av[1]'h=int r.t.rho:=nr (Option.some.inj ((List.getElem?_eq_getElem h).symm.trans (Gu r)))
theorem DQ (r:Rr) (h:2<r.av.length):r.av[2]'h=aT r.t.eff:=nr (Option.some.inj ((List.getElem?_eq_getElem h).symm.trans (Gv r)))
theorem DR (r:Rr) (h:3<r.av.length):r.av[3]'h=RT.vs r.t.kids:=nr (Option.some.inj ((List.getElem?_eq_getElem h).symm.trans (Gw r)))
theorem zI (r:Rr) (h:4<r.av.length):r.av[4]'h=aT r.e:=nr (Option.some.inj ((List.getElem?_eq_getElem h).symm.trans (C5 r)))
theorem w80:IntKind.u8.wrap 0=0:=by decide
theorem w81:IntKind.u8.wrap 1=1:=by decide
attribute [local simp] DT DP DQ DR zI w80 w81 ix0 ix1 ix2 DU C5 rr_h Gu Gv Gw Dy yc DI
theorem G3_ok (h:RS σ φ t p out) (hy:Ek σ φ y e) (he:e.length≤100000) (hj:∀fr ω,Jn σ t p (true,true,.mk 2 t.rho [] [a.t,b.t],e++ [putAt t.rho]) fr ω→j2 fr ω):
 G3 [(1,.sl false 7 [a.av,b.av]),(2,.ptr σ.next 0 0),(4,.ptr (σ.next+1) 0 0),(5,y)] (.ptr p 0 0) j2 φ kp:=by
 unfold G3
 simp[h.t0]
 refine Ev.iw (args':=[u8 2,int t.rho,aT [],RT.vs [a.t,b.t]]) (.cons (.refl _) (.cons (.refl _) (.cons ki (.cons ki .nil)))) ?_
 refine nE ?_
 have h':=h.store (.mk 2 t.rho [] [a.t,b.t])
 have hy':=h.gV hy (.mk 2 t.rho [] [a.t,b.t])
 simp[h.o]
 generalize φ.set p _=ψ at h' hy'
 simp[h'.t0]
 refine eZ ?_
 simp
 exact h'.one hy' (by omega) fun y' ω h1 h2=>hj _ _ (Jn.of h1 h2 true true)
theorem G6_ok (h:RS σ φ t p out) (hy:Ek σ φ y e) (he:e.length≤100000) (hj:∀fr ω,Jn σ t p (true,true,.mk 3 t.rho [] [a.t],e++ [putAt t.rho]) fr ω→j2 fr ω):
 G6 (frK σ (.sl false 7 [a.av]) p kd bb y) j2 φ kp:=by
 unfold G6 frK
 simp[h.t0]
 refine Ev.iw (args':=[u8 3,int t.rho,aT [],RT.vs [a.t]]) (.cons (.refl _) (.cons (.refl _) (.cons ki (.cons ki .nil)))) ?_
 refine nE ?_
 have h':=h.store (.mk 3 t.rho [] [a.t])
 have hy':=h.gV hy (.mk 3 t.rho [] [a.t])
 simp[h.o]
 generalize φ.set p _=ψ at h' hy'
 simp[h'.t0]
 refine eZ ?_
 simp
 exact h'.one hy' (by omega) fun y' ω h1 h2=>hj _ _ (Jn.of h1 h2 true true)
theorem G7_ok (h:RS σ φ t p one) (hy:Ek σ φ y e) (he:e.length≤100000) (hs:a.t.kind=3→0<a.t.kids.length)
 (hj:∀fr ω,Jn σ t p (if a.t.kind=3 then (true,true,aS a.t 0,e++ [fL a.t.rho]) else (false,true,one,e)) fr ω→j2 fr ω):
 G7 (frK σ (.sl false 7 [a.av]) p kd bb y) j2 φ kp:=by
 unfold G7 frK
 by_cases c:a.t.kind=3
 ·rw[if_pos c]at hj
  have hk0:=fun kk ω=>mf (hs c) kk ω
  simp at hk0
  have h':=h.store (aS a.t 0)
  have hy':=h.gV hy (aS a.t 0)
  simp[c,hk0,h.o]
  generalize φ.set p _=ψ at h' hy'
  refine jz ?_
  simp
  exact h'.one hy' (by omega) fun y' ω h1 h2=>hj _ _ (Jn.of h1 h2 true true)
 ·rw[if_neg c]at hj
  simp[c]
  exact hj _ _ (Jn.of h hy false true)
theorem xW (h:RS σ φ t p one) (hy:Ek σ φ y e) (hk:t.h.kind=4∨t.h.kind=5) (he:e.length≤100000) (hs:a.t.kind=2→1<a.t.kids.length)
 (hj:∀fr ω,Jn σ t p (if a.t.kind=2 then (true,true,aS a.t (t.h.kind - 4).toNat,e++ [fL a.t.rho]) else (false,true,one,e)) fr ω→j2 fr ω):
 G45 (frK σ (.sl false 7 [a.av]) p kd bb y) j2 φ kp:=by
 unfold G45 frK
 by_cases c:a.t.kind=2
 ·rw[if_pos c]at hj
  rcases hk with hk | hk
  ·have hs':=hs c
   have hk0:=fun kk ω=>mf (T:=a.t) (i:=0) (by omega) kk ω
   simp at hk0
   rw[hk]at hj
   have h':=h.store (aS a.t 0)
   have hy':=h.gV hy (aS a.t 0)
   simp[c,hk0,h.o,h.t0,hk]
   generalize φ.set p _=ψ at h' hy'
   refine jz ?_
   simp
   exact h'.one hy' (by omega) fun y' ω h1 h2=>hj _ _ (Jn.of h1 h2 true true)
  ·have hk0:=fun kk ω=>mf (T:=a.t) (i:=1) (hs c) kk ω
   simp at hk0
   rw[hk]at hj
   have h':=h.store (aS a.t 1)
   have hy':=h.gV hy (aS a.t 1)
   simp[c,hk0,h.o,h.t0,hk]
   generalize φ.set p _=ψ at h' hy'
   refine jz ?_
   simp
   exact h'.one hy' (by omega) fun y' ω h1 h2=>hj _ _ (Jn.of h1 h2 true true)
 ·rw[if_neg c]at hj
  simp[c]
  exact hj _ _ (Jn.of h hy false true)
theorem G8_ok (h:RS σ φ t p one) (hy:Ek σ φ y e) (he:e.length≤100000) (hs:a.t.kind=3→0<a.t.kids.length) (ha:Ok5 a.t) (hb:Ok5 b.t)
 (hj:∀fr ω,Jn σ t p (decide (a.t.kind=3)&&RT.same (aS a.t 0) b.t,true,one,e++ [putAt a.t.rho]) fr ω→j2 fr ω):
 G8 (frK σ (.sl false 7 [a.av,b.av]) p kd bb y) j2 φ kp:=by
 unfold G8 frK
 by_cases c:a.t.kind=3
 ·have hk0:=fun kk ω=>mf (hs c) kk ω
  simp at hk0
  have hm:aS a.t 0∈a.t.kids:=by unfold aS;rw[List.getElem?_eq_getElem (hs c)];exact List.getElem_mem _
  simp[c,hk0]
  refine ir _ _ _ (Nat.le_refl _) (ha.kid hm) hb _ _ _ ?_
  refine eZ ?_
  simp
  have e0:(decide (a.t.kind=3)&&RT.same (aS a.t 0) b.t)=RT.same (aS a.t 0) b.t:=by simp[c]
  rw[e0]at hj
  exact h.one hy (by omega) fun y' ω h1 h2=>hj _ _ (Jn.of h1 h2 (RT.same (aS a.t 0) b.t) true)
 ·simp[c]
  refine eZ ?_
  simp
  have e0:(decide (a.t.kind=3)&&RT.same (aS a.t 0) b.t)=false:=by simp[c]
  rw[e0]at hj
  exact h.one hy (by omega) fun y' ω h1 h2=>hj _ _ (Jn.of h1 h2 false true)
theorem G9_ok (h:RS σ φ t p one) (hy:Ek σ φ y e) (hj:∀fr ω,Jn σ t p (decide (a.t.kind=1)&&decide (b.t.kind=1),true,one,e) fr ω→j2 fr ω):
 G9 (frK σ (.sl false 7 [a.av,b.av]) p kd bb y) j2 φ kp:=by
 unfold G9 frK
 by_cases c:a.t.kind=1
 ·by_cases c2:b.t.kind=1
  ·simp[c,c2]
   have e0:(decide (a.t.kind=1)&&decide (b.t.kind=1))=true:=by simp[c,c2]
   rw[e0]at hj
   exact hj _ _ (Jn.of h hy true true)
  ·simp[c,c2]
   have e0:(decide (a.t.kind=1)&&decide (b.t.kind=1))=false:=by simp[c,c2]
   rw[e0]at hj
   exact hj _ _ (Jn.of h hy false true)
 ·simp[c]
  have e0:(decide (a.t.kind=1)&&decide (b.t.kind=1))=false:=by simp[c]
  rw[e0]at hj
  exact hj _ _ (Jn.of h hy false true)
theorem Fs (h:RS σ φ t p out) (hy:Ek σ φ y e) (hj:∀fr ω,Jn σ t p (true,true,b.t,e) fr ω→j2 fr ω):
 G12 (frK σ (.sl false 7 [a.av,b.av]) p kd bb y) j2 φ kp:=by
 unfold G12 frK
 simp[h.o]
 exact hj _ _ (Jn.of (h.store b.t) (h.gV hy b.t) true true)
theorem Fu (h:RS σ φ t p out) (hy:Ek σ φ y e) (hb:Ok5 b.t) (hc:Ok5 c.t) (hj:∀fr ω,Jn σ t p (decide (a.t.kind=1)&&RT.same b.t c.t,true,b.t,e) fr ω→j2 fr ω):
 G14 (frK σ (.sl false 7 [a.av,b.av,c.av]) p kd bb y) j2 φ kp:=by
 unfold G14 frK
 by_cases c1:a.t.kind=1
 ·simp[c1]
  refine ir _ _ _ (Nat.le_refl _) hb hc _ _ _ ?_
  simp[h.o]
  have e0:(decide (a.t.kind=1)&&RT.same b.t c.t)=RT.same b.t c.t:=by simp[c1]
  rw[e0]at hj
  exact hj _ _ (Jn.of (h.store b.t) (h.gV hy b.t) (RT.same b.t c.t) true)
 ·simp[c1,h.o]
  have e0:(decide (a.t.kind=1)&&RT.same b.t c.t)=false:=by simp[c1]
  rw[e0]at hj
  exact hj _ _ (Jn.of (h.store b.t) (h.gV hy b.t) false true)
theorem Fv (h:RS σ φ t p out) (hy:Ek σ φ y e) (he:e.length≤100000) (hj:∀fr ω,Jn σ t p (decide (a.t.kind=1),true,t.type,e++ [sq t.h.exn]) fr ω→j2 fr ω):
 G15 (frK σ (.sl false 7 [a.av]) p kd bb y) j2 φ kp:=by
 unfold G15 frK
 have h':=h.store t.type
 have hy':=h.gV hy t.type
 have z0:p≠σ.next:=by have:=h.p0;omega
 simp[h.o,h.t0]
 generalize φ.set p _=ψ at h' hy'
 simp[h'.t0]
 exact h'.one hy' (a:=sq t.h.exn) (by omega) fun y' ω h1 h2=>hj _ _ (Jn.of h1 h2 (decide (a.t.kind=1)) true)
theorem Fp (h:RS σ φ t p one) (hy:Ek σ φ y e) (he:e.length≤100000) (he2:a.t.eff.length≤100000) (hs:a.t.kind=4→1<a.t.kids.length) (ha:Ok5 a.t) (hb:Ok5 b.t)
 (hj:∀fr ω,Jn σ t p (if a.t.kind=4∧RT.same (aS a.t 0) b.t=true then (true,true,aS a.t 1,e++ [fL a.t.rho]++a.t.eff) else (false,true,one,e)) fr ω→j2 fr ω):
 G10 (frK σ (.sl false 7 [a.av,b.av]) p kd bb y) j2 φ kp:=by
 unfold G10 frK
 by_cases c:a.t.kind=4
 ·have hs':=hs c
  have hk0:=fun kk ω=>mf (T:=a.t) (i:=0) (by omega) kk ω
  have hk1:=fun kk ω=>mf (i:=1) (hs c) kk ω
  simp at hk0 hk1
  have hm:aS a.t 0∈a.t.kids:=by unfold aS;rw[List.getElem?_eq_getElem (by have:=hs c;omega)];exact List.getElem_mem _
  simp[c,hk0]
  refine ir _ _ _ (Nat.le_refl _) (ha.kid hm) hb _ _ _ ?_
  by_cases c2:RT.same (aS a.t 0) b.t=true
  ·rw[if_pos ⟨c,c2⟩]at hj
   have h':=h.store (aS a.t 1)
   have hy':=h.gV hy (aS a.t 1)
   simp[c2,hk1,h.o]
   generalize φ.set p _=ψ at h' hy'
   refine jz ?_
   simp
   refine h'.app hy' (l:=[fL a.t.rho]) (.inr (.inl ⟨_,rfl⟩)) (by simp;omega) fun y1 ω h1 h2 _=> ?_
   refine h1.app h2 (l:=a.t.eff) (.inr (.inl ⟨_,rfl⟩)) (by simp;omega) fun y2 ω2 h3 h4 _=> ?_
   exact hj _ _ (Jn.of h3 h4 true true)
  ·rw[if_neg (fun h=>c2 h.2)]at hj
   simp[c2]
   exact hj _ _ (Jn.of h hy false true)
 ·rw[if_neg (fun h=>c h.1)]at hj
  simp[c]
  exact hj _ _ (Jn.of h hy false true)
theorem jA (l:List Atom) (xs:List ByteArray):(eC l xs).length≤l.length:=by
 have:∀(l acc:List Atom),(l.foldl (fun o a=>if a.kind=3∧(xs.any fun x=>decide (x=a.exn))=true then o else dc o a) acc).length≤acc.length+l.length:=by
  intro l
  induction l with
  | nil=>intro acc;simp
  | cons a l ih=>
   intro acc
   simp only[List.foldl_cons,List.length_cons]
   refine Nat.le_trans (ih _) ?_
   split
   ·omega
   ·have:=@eG a acc;omega
 simpa [eC] using this l []
theorem Fq (h:RS σ φ t p out) (hy:Ek σ φ y e) (ht:t.Ok) (hae:a.e.length≤100000) (hj:∀fr ω,Jn σ t p (true,bx a.e t.eff,.mk 4 t.rho t.eff [t.type,a.t],[putAt t.rho]) fr ω→j2 fr ω):
 G11 (frK σ (.sl false 7 [a.av]) p kd bb y) j2 φ kp:=by
 unfold G11 frK
 have hel:=nU ht
 simp[h.t0]
 refine Ev.iw (args':=[u8 4,int t.rho,aT t.eff,RT.vs [t.type,a.t]]) (.cons (.refl _) (.cons (.refl _) (.cons (.refl _) (.cons ki .nil)))) ?_
 refine nE ?_
 have h':=h.store (.mk 4 t.rho t.eff [t.type,a.t])
 simp[h.o]
 generalize φ.set p _=ψ at h'
 simp[h'.t0]
 refine gC (by omega) (by omega) ?_
 simp[h'.t0]
 refine eZ ?_
 simp
 refine hj _ _ ⟨true,bx a.e t.eff,_,[putAt t.rho],.own ψ.next 1,rfl,h'.aP (aq.new _ _),?_,rfl⟩
 exact .inl (nD _ h'.n)
theorem Ft (h:RS σ φ t p out) (hy:Ek σ φ y e) (ht:t.Ok) (ha:Ok5 a.t) (hae:a.e.length≤100000) (hbe:b.e.length≤100000)
 (hj:∀fr ω,Jn σ t p (RT.same a.t t.res,bx a.e t.eff,b.t,putAt t.rho::b.e) fr ω→j2 fr ω):
 G13 (frK σ (.sl false 7 [a.av,b.av]) p kd bb y) j2 φ kp:=by
 unfold G13 frK
 have hel:=nU ht
 simp[h.t0]
 refine ir _ _ _ (Nat.le_refl _) ha (Ok5.of ht.res) _ _ _ ?_
 simp[h.t0]
 refine gC (by omega) (by omega) ?_
 have h':=h.store b.t
 simp[h.o]
 generalize φ.set p _=ψ at h'
 simp[h'.t0]
 refine eZ ?_
 simp
 unfold aY
 have e1:eA 3 (aT b.e) ψ=some (b.e.map Atom.av):=by simp[eA,aT]
 have e2:eA 3 (AV.sl true 3 [(putAt t.rho).av]) ψ=some [(putAt t.rho).av]:=by simp[eA]
 rw[e1,e2]
 have hb2:([(putAt t.rho).av].length+(b.e.map Atom.av).length) * 32≤140737488355328∧[(putAt t.rho).av].length+(b.e.map Atom.av).length≤140737488355328:=by simp;omega
 simp only[hb2,and_self,if_true]
 by_cases h0:0<b.e.length
 ·rw[if_pos (.inr (by simpa using h0))]
  refine hj _ _ ⟨RT.same a.t t.res,bx a.e t.eff,_,putAt t.rho::b.e,_,rfl,h'.aP (aq.new _ _),.inl ?_,rfl⟩
  have:=nD (n:=σ.next) (m:=2) (sz:=3) (φ:=ψ) ((putAt t.rho::b.e).map Atom.av) h'.n
  simpa [Nat.add_comm] using this
 ·have hbe0:b.e= []:=List.length_eq_zero_iff.1 (by omega)
  rw[if_neg (by simp[hbe0])]
  exact hj _ _ ⟨RT.same a.t t.res,bx a.e t.eff,_,putAt t.rho::b.e,_,rfl,h',.inr (by simp[hbe0]),rfl⟩
theorem Fw (h:RS σ φ t p out) (hy:Ek σ φ y e) (ha:Ok5 a.t) (hb:Ok5 b.t) (hae:a.e.length≤100000) (hbe:b.e.length≤100000)
 (hj:∀fr ω,Jn σ t p (RT.same a.t b.t,true,a.t,eC a.e [t.h.exn]++b.e) fr ω→j2 fr ω):
 G16 (frK σ (.sl false 7 [a.av,b.av]) p kd bb y) j2 φ kp:=by
 unfold G16 frK
 simp
 refine ir _ _ _ (Nat.le_refl _) ha hb _ _ _ ?_
 have h':=h.store a.t
 simp[h.o]
 generalize φ.set p _=ψ at h'
 simp[h'.t0]
 refine Ev.iw (args':=[aT a.e,gy [t.h.exn]]) (.cons (.refl _) (.cons ki .nil)) ?_
 refine sB (by omega) (by simp) fun z ω hz hg=> ?_
 have h2:=h'.aP hg
 have hn:=h'.n
 have hz':Ek σ ω z (eC a.e [t.h.exn]):=Kid.up (n':=σ.next) (m':=2) hz (by omega)
 have hl:(eC a.e [t.h.exn]).length≤a.e.length:=jA _ _
 refine h2.app hz' (l:=b.e) (.inr (.inl ⟨_,rfl⟩)) (by omega) fun y1 ω1 h3 h4 _=> ?_
 exact hj _ _ (Jn.of h3 h4 (RT.same a.t b.t) true)
theorem Fx (h:RS σ φ t p out) (hy:Ek σ φ y e) (ha:Ok5 a.t) (hae:a.e.length≤100000)
 (hj:∀fr ω,Jn σ t p (true,!decide (t.rho∈eI [] a.t),a.t,fo a.e [t.rho]) fr ω→j2 fr ω):
 G17 (frK σ (.sl false 7 [a.av]) p kd bb y) j2 φ kp:=by
 unfold G17 frK
 have h':=h.store a.t
 simp[h.o]
 generalize φ.set p _=ψ at h'
 simp[h'.t0,h'.o]
 refine uH ha ?_
 simp[h'.t0]
 have hrl:=jW a.t [] ha.small
 have hrs:=ha.size
 simp at hrl
 refine gL (l:=eI [] a.t) (by omega) (.inr (.inl ⟨false,rfl⟩)) ?_
 simp[h'.t0]
 refine Ev.iw (args':=[aT a.e,aO [t.rho]]) (.cons (.refl _) (.cons ki .nil)) ?_
 refine tK (by omega) (by simp) ?_
 exact hj _ _ ⟨true,!decide (t.rho∈eI [] a.t),_,fo a.e [t.rho],_,rfl,h',.inl (.inl rfl),rfl⟩
end
end Go.Abs.Chk
