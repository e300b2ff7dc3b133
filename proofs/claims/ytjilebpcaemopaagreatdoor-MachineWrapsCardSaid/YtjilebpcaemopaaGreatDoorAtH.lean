import Derived.Test.YtjilebpcaemopaaGreatDoorAtE
import Derived.Test.YtjilebpcaemopaaGreatDoorAbsO
set_option linter.unusedVariables false
set_option linter.unusedSimpArgs false
namespace Go.Abs.At
open Go Go.Abs Go.Proofs.AtD
attribute [local simp] Nat.add_assoc
mutual
def AT.all:AT→List AT
 | .mk h r rs e t s ks=>.mk h r rs e t s ks::AT.bE ks
def AT.bE:List AT→List AT
 | []=>[]
 | t::ts=>AT.all t++AT.bE ts
end
mutual
theorem AT.eh:∀t:AT,t.all.length=t.size
 | .mk h r rs e t s ks=>by simp[AT.all,AT.size,AT.cj ks,Nat.add_comm 1]
theorem AT.cj:∀l:List AT,(AT.bE l).length=AT.aI l
 | []=>rfl
 | t::ts=>by simp[AT.bE,AT.aI,AT.eh t,AT.cj ts]
end
theorem AT.gF (l m:List AT):AT.bE (l++m)=AT.bE l++AT.bE m:=by
 induction l with
 | nil=>rfl
 | cons t l ih=>simp[AT.bE,ih]
theorem AT.eL (l m:List AT):AT.aI (l++m)=AT.aI l+AT.aI m:=by
 induction l with
 | nil=>simp[AT.aI]
 | cons t l ih=>simp[AT.aI,ih]
theorem AT.all_eq (t:AT):t.all=t::AT.bE t.kids:=by cases t;rfl
theorem AT.size_eq (t:AT):t.size=1+AT.aI t.kids:=by cases t;rfl
theorem AT.ie (l:List AT):l.length≤AT.aI l:=by
 induction l with
 | nil=>simp
 | cons a l ih=>have:=a.size_pos;simp[AT.aI];omega
theorem AT.kg (l:List AT) (i:Nat):AT.aI (l.take i)≤AT.aI l:=by
 conv=>rhs;rw[←List.take_append_drop i l,AT.eL]
 omega
theorem AT.kP {l:List AT} {j m:Nat} {t x:AT} (h:l[j]?=some t) (hm:t.all[m]?=some x):(AT.bE l)[AT.aI (l.take j)+m]?=some x:=by
 have hj:j<l.length:=(List.getElem?_eq_some_iff.1 h).1
 have e:l=l.take j++t::l.drop (j+1):=by
  have h2:l[j]=t:=by rw[List.getElem?_eq_getElem hj]at h;exact Option.some.inj h
  rw[←h2,←List.drop_eq_getElem_cons hj,List.take_append_drop]
 have hm':m<t.all.length:=(List.getElem?_eq_some_iff.1 hm).1
 conv=>lhs;rw[e,AT.gF]
 rw[List.getElem?_append_right (by rw[AT.cj,←e];omega)]
 simp only[AT.bE]
 rw[List.getElem?_append_left (by rw[AT.cj,←e];omega),AT.cj,←e,Nat.add_sub_cancel_left]
 exact hm
structure Up (sz b:Nat) (σ τ:ah):Prop where
 next:σ.next≤τ.next
 get:∀i els,b≤i→i<σ.next→σ.get i=some (.cells sz els)→τ.get i=σ.get i
theorem Up.refl (sz b σ):Up sz b σ σ:=⟨Nat.le_refl _,fun _ _ _ _ _=>rfl⟩
theorem Up.trans {sz b σ τ υ} (h:Up sz b σ τ) (k:Up sz b τ υ):Up sz b σ υ:=⟨Nat.le_trans h.next k.next,fun i els h1 h2 h3=>(k.get i els h1 (Nat.lt_of_lt_of_le h2 h.next) (by rw[h.get i els h1 h2 h3];exact h3)).trans (h.get i els h1 h2 h3)⟩
theorem Up.of {sz b σ τ} (h:aq σ τ):Up sz b σ τ:=⟨h.next,fun i _ _ hi _=>h.get i hi⟩
theorem kZ (g:FuncId) (cap:List AV) (b:Nat) (S:ah→Prop):∀(N:Nat) (l:List AT),AT.aI l≤N→AT.aI l<1000000000000→∀(I:Nat→ah→Prop),(∀i σ τ,I i σ→aq σ τ→I i τ)→
 (∀(i:Nat) t,(AT.bE l)[i]?=some t→∀(σ:ah) (k kp:AV→ah→Prop),b≤σ.next→I i σ→(∀τ,Up 19 b σ τ→I (i+1) τ→k (.val (.bool true)) τ)→(∀τ,Up 19 b σ τ→S τ→k (.val (.bool false)) τ)→Ev PR g (t.v::cap) σ k kp)→
 ∀(σ:ah) (k kp:AV→ah→Prop),b≤σ.next→I 0 σ→(∀τ,Up 19 b σ τ→I (AT.aI l) τ→k (.val (.bool true)) τ)→(∀τ,Up 19 b σ τ→S τ→k (.val (.bool false)) τ)→Ev PR 40 [.fn (.func g) cap,AT.vs l] σ k kp:=by
 intro N
 induction N with
 | zero=>
  intro l hl hb I hI hc σ k kp hbs h0 hT hF
  cases l with
  | nil=>
   apply xT;unfold F40
   simp[AT.avs]
   refine aM ?_
   refine aX (fun _:Unit=>[(0,.fn (.func g) cap),(7,AT.vs []),(8,int 0),(9,int 0)]) (fun _ φ=>φ=σ) (fun _ _=>0) () (by simp[AT.avs]) rfl ?_
   rintro⟨⟩ φ rfl
   simp
   exact hT _ (Up.refl _ _ _) h0
  | cons t l=>have:=t.size_pos;simp[AT.aI]at hl;omega
 | succ N ih=>
  intro l hl hb I hI hc σ k kp hbs h0 hT hF
  apply xT;unfold F40
  simp
  refine aM ?_
  have hll:=AT.ie l
  refine aX (fun j:Nat=>[(0,.fn (.func g) cap),(7,AT.vs l),(8,int l.length),(9,int j)]) (fun j φ=>j≤l.length∧Up 19 b σ φ∧b≤φ.next∧I (AT.aI (l.take j)) φ) (fun fr _=>l.length - (intOf (aa fr 9)).toNat) 0 (by simp) ⟨by simp,Up.refl _ _ _,hbs,by simpa [AT.aI] using h0⟩ ?_
  rintro j φ ⟨hj,hu,hbf,hIj⟩
  simp
  by_cases hjl:j<l.length
  ·obtain⟨t,ht⟩:=get_some hjl
   have htm:=List.mem_of_getElem? ht
   have hix:∀ω,ak 19 (AT.vs l) (int j) ω=some (.ref t.av):=fun ω=>by rw[aD];simp[AT.cq ht]
   have hst:=AT.fh ht
   have hle:=AT.kg l (j+1)
   have hse:=t.size_eq
   simp[hjl,hix]
   generalize hφ1:ah.set (φ.new _) _ _=φ1
   have hgr:aq φ φ1:=by rw[←hφ1];exact(aq.new _ _).set (Nat.le_refl _) _
   have hn1:φ1.next=φ.next+1:=by rw[←hφ1];simp
   have hg1:φ1.get φ.next=some (.cells 19 [t.av]):=by rw[←hφ1];simp[au]
   have hin:∀(m:Nat) x,t.all[m]?=some x→(AT.bE l)[AT.aI (l.take j)+m]?=some x:=fun m x hm=>AT.kP ht hm
   have h00:(AT.bE l)[AT.aI (l.take j)]?=some t:=by have:=hin 0 t (by rw[AT.all_eq];rfl);simpa using this
   refine hc _ t h00 φ1 _ _ (by omega) (hI _ _ _ hIj hgr) (fun τ hu2 hI2=> ?_) (fun τ hu2 hS=> ?_)
   ·have hg2:τ.get φ.next=some (.cells 19 [t.av]):=by rw[hu2.get _ _ hbf (by omega) hg1];exact hg1
    have hn2:=hu2.next
    simp[hg2]
    refine ih t.kids (by omega) (by omega) (fun i=>I (AT.aI (l.take j)+1+i)) (fun i=>hI _) (fun i x hx=> ?_) τ _ _ (by omega) (by simpa using hI2) (fun υ hu3 hI3=> ?_) (fun υ hu3 hS=> ?_)
    ·have:=hin (i+1) x (by rw[AT.all_eq];simpa using hx)
     intro σ' k' kp' q1 q2 q3 q4
     exact hc _ x this σ' k' kp' q1 (by simpa [Nat.add_comm,Nat.add_left_comm] using q2) (fun τ' w1 w2=>q3 τ' w1 (by simpa [Nat.add_comm,Nat.add_left_comm] using w2)) q4
    ·simp
     rw[wrap64 (by omega)]
     have huu:=((hu.trans (Up.of hgr)).trans hu2).trans hu3
     exact⟨⟨j+1,by simp,by omega,huu,by have:=hu3.next;omega,by rw[hst,hse];simpa [Nat.add_assoc] using hI3⟩,by omega⟩
    ·simp
     exact hF _ (((hu.trans (Up.of hgr)).trans hu2).trans hu3) hS
   ·simp
    exact hF _ ((hu.trans (Up.of hgr)).trans hu2) hS
  ·have hall:l.take j=l:=List.take_of_length_le (by omega)
   rw[hall]at hIj
   simp[hjl]
   exact hT _ hu hIj
theorem pz {l:List AT} (hb:AT.aI l<1000000000000) {σ:ah} {k kp:AV→ah→Prop} (hk:k (int (AT.aI l)) σ):Ev PR 39 [AT.vs l] σ k kp:=by
 refine Ev.bB hk ((Dat.val _).low _) fun k' hk'=> ?_
 apply EF;unfold F39
 simp
 generalize hσ1:ah.set (σ.new _) _ _=σ1
 have hg:aq σ σ1:=by rw[←hσ1];exact(aq.new _ _).set (Nat.le_refl _) _
 have hn1:σ1.next=σ.next+1:=by rw[←hσ1];simp
 have hg1:σ1.get σ.next=some (.cells 1 [[int 0]]):=by rw[←hσ1];simp[au]
 refine kZ 71 [.ptr σ.next 0 0] (σ.next+1) (fun _=>False) _ l (Nat.le_refl _) hb (fun i φ=>aq σ φ∧σ.next<φ.next∧φ.get σ.next=some (.cells 1 [[int i]])) ?_ ?_ σ1 _ _ (by omega) ⟨hg,by omega,hg1⟩ ?_ ?_
 ·rintro i φ ψ ⟨h1,h2,h3⟩ h4
  exact⟨h1.trans h4,Nat.lt_of_lt_of_le h2 h4.next,by rw[h4.get _ h2];exact h3⟩
 ·rintro i t hi φ q qp hbφ ⟨h1,h2,h3⟩ hT hF
  have hil:i<AT.aI l:=by rw[←AT.cj];exact(List.getElem?_eq_some_iff.1 hi).1
  apply EZ;unfold F71
  simp[h3,an,show σ.next≠φ.next by omega]
  rw[wrap64 (by omega)]
  refine hT _ ⟨by simp,fun j _ h5 h6 _=>by rw[au,if_neg (by omega),an,if_neg (by omega)]⟩ ⟨⟨by simp;omega,fun j hj=>by rw[au,if_neg (by omega),an,if_neg (by omega)];exact h1.get j hj⟩,by simp;omega,by simp[au]⟩
 ·rintro τ hu ⟨h1,h2,h3⟩
  simp[h3]
  exact hk' _ h1
 ·intro τ _ h;exact h.elim
end Go.Abs.At
set_option linter.unusedVariables false
set_option linter.unusedSimpArgs false
namespace Go.Abs.At
open Go Go.Abs Go.Proofs.AtD
attribute [local simp] Nat.add_assoc
def bytesOf (s:ByteArray):List Int:=s.data.toList.map fun b=>(b.toNat:Int)
theorem pX (s:ByteArray):jo s=(bytesOf s).map fun b=>[u8 b]:=by simp[jo,bytesOf]
abbrev u8V (l:List Int):AV:=.sl false 1 (l.map fun b=>[u8 b])
theorem yS {l:List Int} {c:Int} (hb:l.length<1000000000000) {σ:ah} {k kp:AV→ah→Prop} (hk:∀r:Int,(0≤r↔c∈l)→k (int r) σ):Ev PR 211 [u8V l,u8 c] σ k kp:=by
 apply BM;unfold F211
 simp
 refine aM ?_
 refine aX (fun j:Nat=>[(0,u8V l),(1,u8 c),(7,int l.length),(8,int j)]) (fun j φ=>φ=σ∧j≤l.length∧∀x∈l.take j,c≠x) (fun fr _=>l.length - (intOf (aa fr 8)).toNat) 0 (by simp) ⟨rfl,by simp,by simp⟩ ?_
 rintro j φ ⟨rfl,hj,hne⟩
 simp
 by_cases hjl:j<l.length
 ·obtain⟨t,ht⟩:=get_some hjl
  have hix:∀ω,ak 1 (u8V l) (int j) ω=some (.ref [u8 t]):=fun ω=>by rw[aD];simp[ht]
  simp[hjl,hix]
  by_cases hc:c=t
  ·subst hc
   simp
   exact hk _ ⟨fun _=>List.mem_of_getElem? ht,fun _=>by omega⟩
  ·simp[hc]
   rw[wrap64 (by omega)]
   refine⟨⟨j+1,by simp,by omega,fun x hx=> ?_⟩,by omega⟩
   rw[List.take_add_one,ht]at hx
   rcases List.mem_append.1 hx with h | h
   ·exact hne x h
   ·simp at h;subst h;exact hc
 ·have hall:l.take j=l:=List.take_of_length_le (by omega)
  rw[hall]at hne
  simp[hjl]
  exact hk _ ⟨fun h=>by omega,fun h=>absurd rfl (hne c h)⟩
theorem mJ {l:List Int} {c:Int} (hb:l.length<1000000000000) {σ:ah} {k kp:AV→ah→Prop} (hk:k (.val (.bool (decide (c∈l)))) σ):Ev PR 193 [u8V l,u8 c] σ k kp:=by
 apply BF;unfold F193
 refine yS hb fun r hr=> ?_
 simp
 have:decide (0≤r)=decide (c∈l):=by simp[hr]
 rw[this];exact hk
theorem yN {n:Int} {s:ByteArray} {c:Int} (hb:(bytesOf s).length<1000000000000) {σ:ah} {k kp:AV→ah→Prop} (hk:k (.val (.bool (decide (c∈bytesOf s)))) σ):Ev PR 180 [.agg [int n,str s],u8 c] σ k kp:=by
 refine Ev.bB hk ((Dat.val _).low _) fun k' hk'=> ?_
 apply By;unfold F180
 simp[pX]
 exact mJ hb (hk' _ (aq.new _ _))
theorem Ev.iw {P:Program} {f:FuncId} {args args':List AV} {σ:ah} {k kp:AV→ah→Prop} (ha:FzL σ (fun _=>False) args args') (h:Ev P f args' σ k kp):Ev P f args σ k kp:=by
 refine Ev.freeze (D:=fun _=>False) ⟨rfl,fun _ h=>h.elim,fun id _=> ?_⟩ ha h
 cases hg:σ.get id with
 | none=>exact .inl ⟨rfl,rfl⟩
 | some o=>exact .inr ⟨o,o,rfl,rfl,.refl o⟩
theorem Fz.clip {τ:ah} {D:Nat→Prop} {c:Bool} {sz:Nat} {xs:List (List AV)}:Fz τ D (.sl c sz xs) (.sl false sz xs):=by
 refine .sl rfl (fun i el fl h1 h2=> ?_) (fun i el fl j x y h1 h2 h3 h4=> ?_)
 ·rw[h1]at h2;cases h2;rfl
 ·rw[h1]at h2;cases h2;rw[h3]at h4;cases h4;exact .refl _
theorem T.ie (l:List T):l.length≤T.aI l:=by
 induction l with
 | nil=>simp
 | cons a l ih=>have:=a.size_pos;simp[T.aI];omega
theorem T.pO {l:List T} {i:Nat} {c:T} (h:l[i]?=some c):T.aI (l.take (i+1))=T.aI (l.take i)+c.size:=by
 rw[List.take_add_one,h,T.eL]
 simp[T.aI]
theorem T.all_eq (t:T):t.all=t::T.bE t.kids:=by cases t;rfl
theorem T.kP {l:List T} {j m:Nat} {t x:T} (h:l[j]?=some t) (hm:t.all[m]?=some x):(T.bE l)[T.aI (l.take j)+m]?=some x:=by
 have hj:j<l.length:=(List.getElem?_eq_some_iff.1 h).1
 have e:l=l.take j++t::l.drop (j+1):=by
  have h2:l[j]=t:=by rw[List.getElem?_eq_getElem hj]at h;exact Option.some.inj h
  rw[←h2,←List.drop_eq_getElem_cons hj,List.take_append_drop]
 have hm':m<t.all.length:=(List.getElem?_eq_some_iff.1 hm).1
 conv=>lhs;rw[e,T.gF]
 rw[List.getElem?_append_right (by rw[T.cj,←e];omega)]
 simp only[T.bE]
 rw[List.getElem?_append_left (by rw[T.cj,←e];omega),T.cj,←e,Nat.add_sub_cancel_left]
 exact hm
theorem T.kZ (g:FuncId) (cap:List AV) (b:Nat) (S:ah→Prop):∀(N:Nat) (l:List T),T.aI l≤N→T.aI l<1000000000000→∀(I:Nat→ah→Prop),(∀i σ τ,I i σ→aq σ τ→I i τ)→
 (∀(i:Nat) t,(T.bE l)[i]?=some t→∀(σ:ah) (k kp:AV→ah→Prop),b≤σ.next→I i σ→(∀τ,Up 8 b σ τ→I (i+1) τ→k (.val (.bool true)) τ)→(∀τ,Up 8 b σ τ→S τ→k (.val (.bool false)) τ)→Ev PR g (t.v::cap) σ k kp)→
 ∀(σ:ah) (k kp:AV→ah→Prop),b≤σ.next→I 0 σ→(∀τ,Up 8 b σ τ→I (T.aI l) τ→k (.val (.bool true)) τ)→(∀τ,Up 8 b σ τ→S τ→k (.val (.bool false)) τ)→Ev PR 157 [.fn (.func g) cap,T.vs l] σ k kp:=by
 intro N
 induction N with
 | zero=>
  intro l hl hb I hI hc σ k kp hbs h0 hT hF
  cases l with
  | nil=>
   apply vc;unfold Ea
   simp[T.avs]
   refine aM ?_
   refine aX (fun _:Unit=>[(0,.fn (.func g) cap),(7,T.vs []),(8,int 0),(9,int 0)]) (fun _ φ=>φ=σ) (fun _ _=>0) () (by simp[T.avs]) rfl ?_
   rintro⟨⟩ φ rfl
   simp
   exact hT _ (Up.refl _ _ _) h0
  | cons t l=>have:=t.size_pos;simp[T.aI]at hl;omega
 | succ N ih=>
  intro l hl hb I hI hc σ k kp hbs h0 hT hF
  apply vc;unfold Ea
  simp
  refine aM ?_
  have hll:=T.ie l
  refine aX (fun j:Nat=>[(0,.fn (.func g) cap),(7,T.vs l),(8,int l.length),(9,int j)]) (fun j φ=>j≤l.length∧Up 8 b σ φ∧b≤φ.next∧I (T.aI (l.take j)) φ) (fun fr _=>l.length - (intOf (aa fr 9)).toNat) 0 (by simp) ⟨by simp,Up.refl _ _ _,hbs,by simpa [T.aI] using h0⟩ ?_
  rintro j φ ⟨hj,hu,hbf,hIj⟩
  simp
  by_cases hjl:j<l.length
  ·obtain⟨t,ht⟩:=get_some hjl
   have htm:=List.mem_of_getElem? ht
   have hix:∀ω,ak 8 (T.vs l) (int j) ω=some (.ref t.av):=fun ω=>by rw[aD];simp[T.cq ht]
   have hst:=T.pO ht
   have hle:=T.fh l (j+1)
   have hse:=t.size_eq
   simp[hjl,hix]
   generalize hφ1:ah.set (φ.new _) _ _=φ1
   have hgr:aq φ φ1:=by rw[←hφ1];exact(aq.new _ _).set (Nat.le_refl _) _
   have hn1:φ1.next=φ.next+1:=by rw[←hφ1];simp
   have hg1:φ1.get φ.next=some (.cells 8 [t.av]):=by rw[←hφ1];simp[au]
   have hin:∀(m:Nat) x,t.all[m]?=some x→(T.bE l)[T.aI (l.take j)+m]?=some x:=fun m x hm=>T.kP ht hm
   have h00:(T.bE l)[T.aI (l.take j)]?=some t:=by have:=hin 0 t (by rw[T.all_eq];rfl);simpa using this
   refine hc _ t h00 φ1 _ _ (by omega) (hI _ _ _ hIj hgr) (fun τ hu2 hI2=> ?_) (fun τ hu2 hS=> ?_)
   ·have hg2:τ.get φ.next=some (.cells 8 [t.av]):=by rw[hu2.get _ _ hbf (by omega) hg1];exact hg1
    have hn2:=hu2.next
    simp[hg2]
    refine ih t.kids (by omega) (by omega) (fun i=>I (T.aI (l.take j)+1+i)) (fun i=>hI _) (fun i x hx=> ?_) τ _ _ (by omega) (by simpa using hI2) (fun υ hu3 hI3=> ?_) (fun υ hu3 hS=> ?_)
    ·have:=hin (i+1) x (by rw[T.all_eq];simpa using hx)
     intro σ' k' kp' q1 q2 q3 q4
     exact hc _ x this σ' k' kp' q1 (by simpa [Nat.add_comm,Nat.add_left_comm] using q2) (fun τ' w1 w2=>q3 τ' w1 (by simpa [Nat.add_comm,Nat.add_left_comm] using w2)) q4
    ·simp
     rw[wrap64 (by omega)]
     have huu:=((hu.trans (Up.of hgr)).trans hu2).trans hu3
     exact⟨⟨j+1,by simp,by omega,huu,by have:=hu3.next;omega,by rw[hst,hse];simpa [Nat.add_assoc] using hI3⟩,by omega⟩
    ·simp
     exact hF _ (((hu.trans (Up.of hgr)).trans hu2).trans hu3) hS
   ·simp
    exact hF _ ((hu.trans (Up.of hgr)).trans hu2) hS
  ·have hall:l.take j=l:=List.take_of_length_le (by omega)
   rw[hall]at hIj
   simp[hjl]
   exact hT _ hu hIj
theorem T.pz {l:List T} (hb:T.aI l<1000000000000) {σ:ah} {k kp:AV→ah→Prop} (hk:k (int (T.aI l)) σ):Ev PR 156 [T.vs l] σ k kp:=by
 refine Ev.bB hk ((Dat.val _).low _) fun k' hk'=> ?_
 apply Be;unfold F156
 simp
 generalize hσ1:ah.set (σ.new _) _ _=σ1
 have hg:aq σ σ1:=by rw[←hσ1];exact(aq.new _ _).set (Nat.le_refl _) _
 have hn1:σ1.next=σ.next+1:=by rw[←hσ1];simp
 have hg1:σ1.get σ.next=some (.cells 1 [[int 0]]):=by rw[←hσ1];simp[au]
 refine T.kZ 178 [.ptr σ.next 0 0] (σ.next+1) (fun _=>False) _ l (Nat.le_refl _) hb (fun i φ=>aq σ φ∧σ.next<φ.next∧φ.get σ.next=some (.cells 1 [[int i]])) ?_ ?_ σ1 _ _ (by omega) ⟨hg,by omega,hg1⟩ ?_ ?_
 ·rintro i φ ψ ⟨h1,h2,h3⟩ h4
  exact⟨h1.trans h4,Nat.lt_of_lt_of_le h2 h4.next,by rw[h4.get _ h2];exact h3⟩
 ·rintro i t hi φ q qp hbφ ⟨h1,h2,h3⟩ hT hF
  have hil:i<T.aI l:=by rw[←T.cj];exact(List.getElem?_eq_some_iff.1 hi).1
  apply Bw;unfold F178
  simp[h3,an,show σ.next≠φ.next by omega]
  rw[wrap64 (by omega)]
  refine hT _ ⟨by simp,fun j _ h5 h6 _=>by rw[au,if_neg (by omega),an,if_neg (by omega)]⟩ ⟨⟨by simp;omega,fun j hj=>by rw[au,if_neg (by omega),an,if_neg (by omega)];exact h1.get j hj⟩,by simp;omega,by simp[au]⟩
 ·rintro τ hu ⟨h1,h2,h3⟩
  simp[h3]
  exact hk' _ h1
 ·intro τ _ h;exact h.elim
end Go.Abs.At
set_option linter.unusedVariables false
set_option linter.unusedSimpArgs false
namespace Go.Abs.At
open Go Go.Abs Go.Proofs.AtD
attribute [local simp] Nat.add_assoc
def lN:List (Int×ByteArray):=[(0,⟨#[110]⟩),(0,⟨#[109]⟩),(2,⟨#[]⟩),(1,⟨#[]⟩),(1,⟨#[]⟩),(1,⟨#[]⟩),(1,⟨#[]⟩),(2,⟨#[]⟩),(2,⟨#[111]⟩),(2,⟨#[]⟩),(1,⟨#[97]⟩),(2,⟨#[109]⟩),(2,⟨#[109,97]⟩),(3,⟨#[]⟩),(1,⟨#[101]⟩),(2,⟨#[101,97]⟩)]
def lO:AV:=.sl true 2 (lN.map fun p=>[int p.1,str p.2])
theorem xB {σ:ah} {k kp:AV→ah→Prop} (hk:k lO σ):Ev PR 179 [] σ k kp:=by
 apply Bx;unfold F179
 simp
 exact hk
abbrev hd (k:Int):Head:=⟨k,0,0,0,ByteArray.empty,ByteArray.empty,ByteArray.empty⟩
theorem empty_eq:(⟨#[]⟩:ByteArray)=ByteArray.empty:=rfl
theorem wrap8 {n:Int} (h:0≤n∧n≤255):IntKind.u8.wrap n=n:=by
 exact Go.IntWalk.u8_in n h
theorem T.oa {τ:ah} {D:Nat→Prop} (t:T):Fz τ D (.sl true 8 [t.av]) (T.vs [t]):=by
 have e2:[t.av]=T.avs [t]:=by simp[T.avs]
 rw[e2];exact Fz.clip
theorem AT.oa {τ:ah} {D:Nat→Prop} (t:AT):Fz τ D (.sl true 19 [t.av]) (AT.vs [t]):=by
 have e2:[t.av]=AT.avs [t]:=by simp[AT.avs]
 rw[e2];exact Fz.clip
end Go.Abs.At
set_option linter.unusedVariables false
set_option linter.unusedSimpArgs false
namespace Go.Abs.At
open Go Go.Abs Go.Proofs.AtD
attribute [local simp] Nat.add_assoc
abbrev p9:List AV:=[u8 1,u8 0,int 0,int 0,str ByteArray.empty,str ByteArray.empty,str ByteArray.empty,.val (.slice none 0 0)]
def leaf:T:=.mk (hd 1) []
def stub (t:AT):T:=.mk t.h (List.replicate t.kids.length leaf)
theorem y4 {τ:ah} {n:Nat}:dY τ n p9 leaf.av:=
 dY.cons (.low (.val _)) (.cons (.low (.val _)) (.cons (.low (.val _)) (.cons (.low (.val _)) (.cons (.low (.val _)) (.cons (.low (.val _)) (.cons (.low (.val _)) (.cons .nil .nil)))))))
theorem oG {τ:ah} {n:Nat}:∀m:Nat,dp τ n (List.replicate m p9) (T.avs (List.replicate m leaf))
 | 0=>.nil
 | m+1=>by simp only[List.replicate_succ,T.avs];exact .cons y4 (oG m)
theorem Dj {t:AT} (hb:t.size<1000000000000) {σ:ah} {k kp:AV→ah→Prop} (hk:k (stub t).v σ):Ev PR 114 [t.v] σ k kp:=by
 refine Ev.pure ?_
 apply Az;unfold F114
 have hlen:∀ω,aE .slice (AT.vs t.kids) ω=some (int t.kids.length):=fun ω=>by simp
 have hkl:=t.ck
 have hheadlen:t.h.av.length=7:=rfl
 simp
 generalize hτ:(σ.new (.cells 19 [t.av])).new (.cells 8 [bU])=τ
 have hg:aq σ τ:=by rw[←hτ];exact(aq.new _ _).trans (aq.new _ _)
 have hτn:τ.next=σ.next+2:=by rw[←hτ];rfl
 have g0:τ.get σ.next=some (.cells 19 [t.av]):=by rw[←hτ];simp[an]
 have g1:τ.get (σ.next+1)=some (.cells 8 [bU]):=by rw[←hτ];simp[an]
 simp[g0,hτn]
 generalize hω:ah.set _ _ _=ω
 have hG:aq σ ω:=by rw[←hω];exact(hg.trans (aq.new _ _)).set (by omega) _
 have hn:ω.next=σ.next+3:=by rw[←hω];simp[hτn]
 have z0:ω.get σ.next=some (.cells 19 [t.av]):=by rw[←hω];simp[an,au,hτn,g0]
 have z1:ω.get (σ.next+1)=some (.cells 8 [bU]):=by rw[←hω];simp[an,au,hτn,g1]
 have z2:ω.get (σ.next+2)=some (.cells 8 [t.h.av++ [.val (.slice none 0 0)]]):=by rw[←hω];simp[an,au,hτn]
 refine aM ?_
 simp[z0]
 refine aX (fun i:Nat=>[(2,.ptr (σ.next+1) 0 0),(3,.ptr (σ.next+2) 0 0),(9,int t.kids.length),(10,int i)])
  (fun i φ=>i≤t.kids.length∧aq σ φ∧σ.next+3≤φ.next∧φ.get (σ.next+1)=some (.cells 8 [bU])∧∃x,φ.get (σ.next+2)=some (.cells 8 [t.h.av++ [x]])∧br x=some [x]∧Kid σ.next 3 8 φ x (List.replicate i p9))
  (fun fr _=>t.kids.length - (intOf (aa fr 10)).toNat) 0 (by simp) ⟨by simp,hG,by omega,z1,_,z2,rfl,.inl ⟨rfl,rfl⟩⟩ ?_
 rintro i φ ⟨hi,f1,f2,f3,x,f4,f5,f6⟩
 simp
 by_cases hil:i<t.kids.length
 ·simp[hil,f4,List.getElem?_append_right,hheadlen]
  refine bF (bP (by':=96) f6.rows f6.ns (.inr (.inl ⟨true,rfl⟩)) (by simp;omega)) ?_
  obtain⟨p1,p2,p3⟩:=f6.push (by omega) p9
  generalize (gone x φ).new (.cells 8 (List.replicate i p9++ [p9]))=φ2 at p1 p2 p3
  have q2:φ2.get (σ.next+2)=some (.cells 8 [t.h.av++ [x]]):=by rw[p2 _ (by omega)];exact f4
  simp[q2,hheadlen]
  have hdrop:List.drop 8 (t.h.av++ [x])= []:=List.drop_of_length_le (by simp[hheadlen])
  rw[hdrop,wrap64 (by omega)]
  have hG2:aq σ φ2:=⟨by omega,fun j hj=>by rw[p2 j (by omega)];exact f1.get j hj⟩
  refine⟨⟨i+1,by simp,by omega,hG2.set (by omega) _,by omega,by simp[au,p2 (σ.next+1) (by omega),f3],?_⟩,by omega⟩
  have:=p1.set (j:=σ.next+2) (by omega) (.cells 8 [t.h.av++ [.own φ.next (i+1)]])
  rw[List.replicate_succ']
  simpa using this
 ·obtain rfl:i=t.kids.length:=by omega
  simp[f4,hheadlen,f3,au]
  have htk:List.take 8 (t.h.av++ [x])=t.h.av++ [x]:=List.take_of_length_le (by simp[hheadlen])
  rw[htk,htk]
  refine⟨f1.set (by omega) _,_,frzT (l:=List.replicate t.kids.length leaf) ?_,hk⟩
  rcases f6.set (j:=σ.next+1) (by omega) (.cells 8 [t.h.av++ [x]]) with ⟨h1,h2⟩ | ⟨q,rest,h1,h2,h3,_⟩
  ·rw[h1]
   have h0:t.kids.length=0:=by
    have:=congrArg List.length h2
    simpa using this
   rw[h0]
   exact .nil
  ·subst h1
   exact dp.own (oG _) (by omega) (by simp) h2
abbrev bool (b:Bool):AV:=.val (.bool b)
def oP (k:Int):List Bool:=
 if k=3∨k=6∨k=17 then [true,false,false,false,false]
 else if k=11 then [true,false,true,true,false]
 else if k=13 then [true,true,true,true,true]
 else if k=15 then [false,false,false,true,false]
 else if k=18 then [true,true,true,false,false]
 else [false,false,false,false,false]
theorem of_ev {n:Int} {σ:ah} {k kp:AV→ah→Prop} (hk:k (.agg ((oP n).map bool)) σ):Ev PR 72 [u8 n] σ k kp:=by
 refine Ev.bB hk ((Dat.agg fun x hx=>by obtain⟨b,_,rfl⟩:=List.mem_map.1 hx;exact .val _).low _) fun k' hk'=> ?_
 apply E1;unfold F72
 simp
 have fin:∀o,aq σ ((σ.new (.cells 5 [[bool false,bool false,bool false,bool false,bool false]])).set σ.next o):=fun o=>(aq.new _ _).set (Nat.le_refl _) _
 obtain⟨b,hb⟩:∃b,b=decide (n=3∨n=6∨n=17):=⟨_,rfl⟩
 refine bw (fun fr υ=>fr= [(2,.ptr σ.next 0 0),(3,u8 n),(4,bool b)]∧υ=σ.new (.cells 5 [[bool false,bool false,bool false,bool false,bool false]])) ?_ ?_
 ·by_cases h3:n=3
  ·subst h3;simp[hb]
  ·by_cases h6:n=6
   ·subst h6;simp[hb]
   ·simp[h3,h6,hb]
 ·rintro fr υ ⟨rfl,rfl⟩
  simp
  cases b with
  | true=>
   have h0:n=3∨n=6∨n=17:=by simpa using hb
   simp[an,au]
   have:=hk' _ (fin (.cells 5 [[bool true,bool false,bool false,bool false,bool false]]))
   simpa [oP,h0] using this
  | false=>
   have h0:¬(n=3∨n=6∨n=17):=fun h=>by simp[h]at hb
   by_cases h1:n=11
   ·subst h1
    simp[an,au]
    exact hk' _ (fin _)
   by_cases h2:n=13
   ·subst h2
    simp[an,au]
    exact hk' _ (fin _)
   by_cases h4:n=15
   ·subst h4
    simp[an,au]
    exact hk' _ (fin _)
   by_cases h5:n=18
   ·subst h5
    simp[an,au]
    exact hk' _ (fin _)
   simp[h1,h2,h4,h5,an,au]
   have:=hk' _ (fin (.cells 5 [[bool false,bool false,bool false,bool false,bool false]]))
   simpa [oP,h0,h1,h2,h4,h5] using this
end Go.Abs.At
set_option linter.unusedVariables false
set_option linter.unusedSimpArgs false
namespace Go.Abs.At
open Go Go.Abs Go.Proofs.AtD
attribute [local simp] Nat.add_assoc
theorem T.rQ {t:AT} {x:T} (h:x∈(stub t).all):x=stub t∨x=leaf:=by
 rw[T.all_eq]at h
 rcases List.mem_cons.1 h with h | h
 ·exact .inl h
 ·refine .inr ?_
  have:∀n,x∈T.bE (List.replicate n leaf)→x=leaf:=by
   intro n
   induction n with
   | zero=>simp[T.bE]
   | succ n ih=>
    intro hx
    simp only[List.replicate_succ,T.bE,List.mem_append]at hx
    rcases hx with hx | hx
    ·simpa [leaf,T.all,T.bE] using hx
    ·exact ih hx
  exact this _ h
theorem qz (t:AT):(stub t).size=1+t.kids.length:=by
 have:∀n,T.aI (List.replicate n leaf)=n:=by
  intro n
  induction n with
  | zero=>rfl
  | succ n ih=>simp only[List.replicate_succ,T.aI,ih];simp[leaf,T.size,T.aI];omega
 rw[T.size_eq]
 simp[stub,T.kids,this]
def Easy (kd:Nat) (n:Nat):Prop:=(kd=1∧n=0)∨(kd=3∧n=2)∨(kd=4∧n=1)
theorem yq {l:List Int} {least:Int} {c:Nat} (hb:l.length<1000000000000) {σ:ah} (hg:σ.get c=some (.cells 1 [[int least]])) {k kp:AV→ah→Prop} (hk:k (bool (decide (∃r∈l,r<least))) σ):Ev PR 115 [aO l,.fn (.func 116) [.ptr c 0 0]] σ k kp:=by
 apply AA;unfold F115
 apply Bg;unfold F159
 simp[aO]
 refine aM ?_
 refine aX (fun j:Nat=>[(0,aO l),(1,.fn (.func 116) [.ptr c 0 0]),(7,int l.length),(8,int j)]) (fun j φ=>φ=σ∧j≤l.length∧∀x∈l.take j,¬x<least) (fun fr _=>l.length - (intOf (aa fr 8)).toNat) 0 (by simp[aO]) ⟨rfl,by simp,by simp⟩ ?_
 rintro j φ ⟨rfl,hj,hne⟩
 simp
 by_cases hjl:j<l.length
 ·obtain⟨t,ht⟩:=get_some hjl
  have hix:∀ω,ak 1 (aO l) (int j) ω=some (.ref [int t]):=fun ω=>by rw[aO,aD];simp[ht]
  simp[hjl,hix]
  show Ev PR 116 _ _ _ _
  apply AB;unfold F116
  simp[hg]
  by_cases hc:t<least
  ·simp[hc]
   have e:decide (∃r∈l,r<least)=true:=decide_eq_true ⟨t,List.mem_of_getElem? ht,hc⟩
   rw[e]at hk
   exact hk
  ·simp[hc]
   rw[wrap64 (by omega)]
   refine⟨⟨j+1,by simp,by omega,fun x hx=> ?_⟩,by omega⟩
   rw[List.take_add_one,ht]at hx
   rcases List.mem_append.1 hx with h | h
   ·exact Int.not_lt.1 (hne x h)
   ·simp at h;subst h;exact Int.not_lt.1 hc
 ·have hall:l.take j=l:=List.take_of_length_le (by omega)
  rw[hall]at hne
  simp[hjl]
  have e:decide (∃r∈l,r<least)=false:=decide_eq_false fun⟨r,h1,h2⟩=>hne r h1 h2
  rw[e]at hk
  exact hk
def dM (t:AT) (rho aH:Bool):Bool:=
 !(!rho&& !decide (t.rho=0)||(decide (t.rho<0)||decide (t.h.kind=17)&&decide (t.rho<1))|| !aH&&decide (0<t.aH.length))&& !decide (∃r∈t.aH,r<if t.h.kind=13 then 1 else 0)
theorem kE {t:AT} {rho aH e ty re:Bool} (hb:t.aH.length<1000000000000) {σ:ah} {k kp:AV→ah→Prop} (hk:k (bool (dM t rho aH)) σ):Ev PR 74 [t.v,.agg [bool rho,bool aH,bool e,bool ty,bool re]] σ k kp:=by
 refine Ev.bB hk ((Dat.val _).low _) fun k' hk'=> ?_
 apply E3;unfold F74
 simp
 generalize hτ:ah.new _ _=τ
 have hg:aq σ τ:=by rw[←hτ];exact((aq.new _ _).trans (aq.new _ _)).trans (aq.new _ _)
 have g0:τ.get σ.next=some (.cells 19 [t.av]):=by rw[←hτ];simp[an]
 have g1:τ.get (σ.next+1)=some (.cells 5 [[bool rho,bool aH,bool e,bool ty,bool re]]):=by rw[←hτ];simp[an]
 have g2:τ.get (σ.next+2)=some (.cells 1 [[int 0]]):=by rw[←hτ];simp[an]
 simp[g2]
 have hlen:∀ω,aE .slice (aO t.aH) ω=some (int t.aH.length):=fun ω=>by simp[aO]
 refine bw (fun fr υ=>fr= [(2,.ptr σ.next 0 0),(3,.ptr (σ.next+1) 0 0),(5,.ptr (σ.next+2) 0 0)]∧aq σ υ∧υ.get σ.next=some (.cells 19 [t.av])∧υ.get (σ.next+1)=some (.cells 5 [[bool rho,bool aH,bool e,bool ty,bool re]])∧υ.get (σ.next+2)=some (.cells 1 [[int (if t.h.kind=13 then 1 else 0)]])) ?_ ?_
 ·have gs:aq σ (τ.set (σ.next+2) (.cells 1 [[int 0]])):=hg.set (by omega) _
  have gs1:aq σ (τ.set (σ.next+2) (.cells 1 [[int 1]])):=hg.set (by omega) _
  by_cases h:t.h.kind=13
  ·simp[g0,g1,g2,h,au]
   exact gs.set (by omega) _
  ·simp[g0,g1,g2,h,au]
   exact gs
 ·rintro fr υ ⟨rfl,u0,u1,u2,u3⟩
  simp[u1,u2]
  have fin:∀b,dM t rho aH=b→k' (bool b) υ:=fun b h=>by rw[←h];exact hk' _ u0
  have go:dM t rho aH= !decide (∃r∈t.aH,r<if t.h.kind=13 then 1 else 0)→Ev PR 115 [aO t.aH,.fn (.func 116) [.ptr (σ.next+2) 0 0]] υ (fun t50 σ_1=>ab (ae σ_1 (bC t50)) fun t51 σ_2=>k' t51 σ_2) (fun _ _=>False):=fun h=>by
   refine yq hb u3 ?_
   simp only[lW]
   exact fin _ h
  by_cases h1:t.rho<0<;>by_cases h2:t.h.kind=17<;>by_cases h3:t.rho<1<;>cases rho<;>by_cases h5:t.rho=0<;>cases aH<;>by_cases h6:0<t.aH.length<;>simp[u1,u2,hlen,h1,h2,h3,h5,h6]
  all_goals first
   | (exfalso;omega)
   | exact fin _ (by simp only[dM,h1,h2,h3,h5,h6];simp)
   | exact go (by simp only[dM,h1,h2,h3,h5,h6];simp)
structure Simple (t:AT) (kd:Nat):Prop where
 h:t.h=hd kd
 kids:Easy kd t.kids.length∨(kd=17∧t.kids.length=1)
 rho:t.rho=if kd=3∨kd=17 then 1 else 0
 aH:t.aH= []
 eff:t.eff= []
 type:t.type= .mk 0 0 [] []
 res:t.res= .mk 0 0 [] []
abbrev rt0:RT:=.mk 0 0 [] []
abbrev n1:AT:=.mk (hd 1) 0 [] [] rt0 rt0 []
abbrev n3:AT:=.mk (hd 3) 1 [] [] rt0 rt0 [n1,n1]
abbrev n4:AT:=.mk (hd 4) 0 [] [] rt0 rt0 [n3]
abbrev zA (kd rho:Int) (ks:AV):List AV:=[u8 kd,u8 0,int 0,int 0,str ByteArray.empty,str ByteArray.empty,str ByteArray.empty,int rho,.val (.slice none 0 0),.val (.slice none 0 0),u8 0,int 0,.val (.slice none 0 0),.val (.slice none 0 0),u8 0,int 0,.val (.slice none 0 0),.val (.slice none 0 0),ks]
theorem FzR.sl {τ:ah} {D:Nat→Prop} {c:Bool} {sz:Nat} {xs ys:List (List AV)} (h:FzR τ D xs ys):Fz τ D (.sl c sz xs) (.sl false sz ys):=
 .sl h.len (fun i el fl h1 h2=>(h.at i el fl h1 h2).len) (fun i el fl j x y h1 h2 h3 h4=>(h.at i el fl h1 h2).at j x y h3 h4)
abbrev z1:=zA 1 0 (.val (.slice none 0 0))
abbrev z3:=zA 3 1 (.sl true 19 [z1,z1])
abbrev z4:=zA 4 0 (.sl true 19 [z3])
end Go.Abs.At
set_option linter.unusedVariables false
set_option linter.unusedSimpArgs false
namespace Go.Abs.At
open Go Go.Abs Go.Proofs.AtD
attribute [local simp] Nat.add_assoc
end Go.Abs.At
