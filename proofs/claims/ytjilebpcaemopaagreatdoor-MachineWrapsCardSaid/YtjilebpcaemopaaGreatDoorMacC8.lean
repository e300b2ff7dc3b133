import Derived.Test.YtjilebpcaemopaaGreatDoorMacC5
set_option linter.unusedVariables false
set_option linter.unusedSimpArgs false
set_option linter.deprecated false
namespace Go.Abs.Mac
open Go Go.Abs Go.Abs.Stk Go.Abs.At Go.Proofs.MacD
variable {σ τ:ah} {mid sid fuel:Nat} {cv fv:AV} {vv:List AV} {T:Nat→Nat} {s:Sa} {k:List Fr} {K kp:AV→ah→Prop}
def nf (mid:Nat) (σ:ah):Nat:=
 match σ.get mid with
 | some (.cells _ [[_,_,_,_,.own _ n]])=>n
 | _=>0
theorem MX.nf (h:MX σ mid sid cv fv vv T fuel s k):nf mid σ=k.length:=by
 unfold Mac.nf
 rw[h.obj]
 have hl:=fj h.vals
 rcases h.frames with ⟨rfl,h2⟩ | ⟨q,rest,rfl,_⟩
 ·rw[h2]at hl;simpa using hl
 ·simpa using hl
theorem MA.nf (h:MA σ mid T fuel s k):Mac.nf mid σ=k.length:=let ⟨_,_,_,_,h⟩:=h;h.nf
def qD (mid fuel:Nat) (T:Nat→Nat) (σ:ah) (K kp:AV→ah→Prop):Go→Prop
 | .on m=>∀τ T',MA τ mid T' fuel m.s m.k→ba T σ T' τ→K m.x.av τ
 | .end_ s kd _ _ _=>∀τ T' k',MA τ mid T' fuel s k'→ba T σ T' τ→kp (.iface 102 (.agg [u8 kd])) τ
def D3 (mid fuel:Nat) (T:Nat→Nat) (σ:ah) (n:Int) (x:ByteArray) (K:AV→ah→Prop):Go→Prop
 | .on m=>∀τ T',MA τ mid T' fuel m.s m.k→ba T σ T' τ→K (.tup [m.x.av,bool true]) τ
 | .end_ s _ _ _ _=>∀τ T' k',MA τ mid T' fuel s k'→ba T σ T' τ→K (.tup [Nx.av (.exn n x),bool false]) τ
theorem Bnd.pop {fuel s f k} (b:Bnd fuel s (f::k)):Bnd fuel s k:=⟨b.ok,b.len,b.aC,by have:=b.k;simp at this;omega,b.fuel⟩
theorem Bnd.cz {fuel s k} (b:Bnd fuel s k):Bnd fuel {s with store:=cz s.store} k:=⟨b.ok.pop,by rw[oV];exact b.len,b.aC,b.k,b.fuel⟩
theorem zu {n:Int} {x:ByteArray} (h:MA σ mid T fuel s k) (b:Bnd fuel s k) (hfr:∀f∈k,wz f) (hr:D3 mid fuel T σ n x K (raise s n x k)):Ev PR 44 [.ptr mid 0 0,Nx.av (.exn n x)] σ K kp:=by
 apply EJ;unfold F44
 simp[Nat.add_assoc]
 generalize hxc:[fq,fq,fq,u8 1,int n,int 0,int 0,bool true,str x]=xc
 generalize hτ:(σ.new (.cells 9 [xc])).new (.cells 9 [zNx])=τ
 have hg:aq σ τ:=by rw[←hτ];exact(aq.new _ _).trans (aq.new _ _)
 have hn:τ.next=σ.next+2:=by rw[←hτ];rfl
 have g0:τ.get σ.next=some (.cells 9 [xc]):=by rw[←hτ];simp[an]
 have g1:τ.get (σ.next+1)=some (.cells 9 [zNx]):=by rw[←hτ];simp[an]
 have h1:=h.aP hg
 have ko:ba T σ T τ:=ba.aP hg
 have z:∀i,σ.next≤i→T i=0:=fun i hi=>h.zero hi
 have kr:∀T3 τ3,ba T τ T3 τ3→T3 σ.next=0∧τ3.get σ.next=some (.cells 9 [xc])∧T3 (σ.next+1)=0∧τ3.get (σ.next+1)=some (.cells 9 [zNx]):=fun T3 τ3 kk=>by
  have a:=kk.get σ.next (by omega) (z _ (by omega));rw[g0]at a
  have b:=kk.get (σ.next+1) (by omega) (z _ (by omega));rw[g1]at b
  exact⟨a.1,a.2,b.1,b.2⟩
 have xl:xc.length=9:=by rw[←hxc];rfl
 obtain⟨J,hJ⟩:∃J:aA→ah→Prop,∀fr υ,J fr υ↔∃T3 s3,fr= [(3,.ptr σ.next 0 0),(4,.ptr (σ.next+1) 0 0)]∧MA υ mid T3 fuel s3 []∧ba T τ T3 υ∧raise s n x k= .end_ s3 2 false n x:=⟨_,fun _ _=>Iff.rfl⟩
 refine bw J ?_ ?_
 ·refine aX (fun _:List Fr×Sa×(Nat→Nat)=>[(0,.ptr mid 0 0),(3,.ptr σ.next 0 0),(4,.ptr (σ.next+1) 0 0)]) (fun p υ=>MA υ mid p.2.2 fuel p.2.1 p.1∧ba T τ p.2.2 υ∧Bnd fuel p.2.1 p.1∧(∀f∈p.1,wz f)∧raise p.2.1 n x p.1=raise s n x k)
   (fun _ υ=>nf mid υ) (k,s,T) rfl ⟨h1,ba.refl _ _,b,hfr,rfl⟩ ?_
  rintro⟨k',s',T'⟩ υ ⟨hm,kk,b',hfr',hrr⟩
  simp only at hm kk b' hfr' hrr
  have hfl:=hm.nf
  obtain⟨sid,cv,fv,vv,hx⟩:=id hm
  simp[hx.obj]
  cases k' with
  | nil=>
   have hfv:aE .slice fv υ=some (int 0):=by
    have hl:=fj hx.vals
    rcases hx.frames with ⟨rfl,_⟩ | ⟨q,rest,rfl,_⟩
    ·rfl
    ·rw[hl];rfl
   simp[hfv]
   exact(hJ _ _).2 ⟨T',s',rfl,hm,kk,by rw[←hrr];rfl⟩
  | cons f k'=>
   obtain⟨fid,rest,v,vv',rfl,hfv,hfg,hft,hl⟩:=hx.top
   have hlen:aE .slice fv υ=some (int ((k'.length+1:Nat):Int)):=by rw[hfv];rfl
   have hpos:(0:Int)<(k'.length:Int)+1:=by omega
   simp[hlen,hpos]
   refine dE hm b' fun τ1 T1 v1 hm1 hk1 hv1 hvq1=> ?_
   have hfl1:=hm1.nf
   have kk1:=kk.trans hk1
   have fcl:(frC f v1).length=4:=rfl
   have fc0:(frC f v1)[0]?=some (.ref f.t.av):=rfl
   have fch:(frC f v1).head?=some (.ref f.t.av):=rfl
   have fc1:((frC f v1).drop 1).take 2=bH f.e:=rfl
   have fok:=hfr' f (by simp)
   have z1:=hm1.zero (Nat.le_refl _)
   simp[List.take_of_length_le (Nat.le_of_eq fcl),fcl,List.drop_of_length_le (Nat.le_of_eq (show([AV.val (Value.pointer none),AV.val (Value.pointer none),AV.val (Value.pointer none),AV.val (Value.slice none 0 0)]:List AV).length=4 from rfl))]
   generalize hτ2:(τ1.new (.cells 4 [[.val (.pointer none),.val (.pointer none),.val (.pointer none),.val (.slice none 0 0)]])).set τ1.next (.cells 4 [frC f v1])=τ2
   have hn1:τ.next≤τ1.next:=kk1.next
   have l2:Loc τ.next T1 τ1 τ2:=by rw[←hτ2];exact(Loc.new (.refl _ _ _) _).set (.inl (Nat.le_refl _))
   have n2:τ2.next=τ1.next+1:=by rw[←hτ2];rfl
   have g2:τ2.get τ1.next=some (.cells 4 [frC f v1]):=by rw[←hτ2];simp
   have hm2:=hm1.loc l2
   have kk2:=kk1.loc l2
   have z2:T1 τ1.next=0:=z1
   obtain⟨J2,hJ2⟩:∃J2:aA→ah→Prop,∀fr υ,J2 fr υ↔∃T3,fr= [(0,.ptr mid 0 0),(3,.ptr σ.next 0 0),(4,.ptr (σ.next+1) 0 0),(6,.ptr τ1.next 0 0)]∧MA υ mid T3 fuel (if f.t.h.kind=17 then {s' with store:=Mac.cz s'.store} else s') k'∧ba T τ T3 υ∧υ.get τ1.next=some (.cells 4 [frC f v1]):=⟨_,fun _ _=>Iff.rfl⟩
   refine bw J2 ?_ ?_
   ·simp[g2,fch]
    by_cases h17:f.t.h.kind=17
    ·obtain⟨sid,cv,fv,vv,hx2⟩:=hm2
     simp[h17,hx2.obj]
     refine DM hx2 b'.pop.Ok fun y τ3 T3 hx3 hk3=> ?_
     refine(hJ2 _ _).2 ⟨T3,rfl,?_,kk2.trans hk3,?_⟩
     ·rw[if_pos h17];exact⟨_,_,_,_,hx3⟩
     ·rw[(hk3.get τ1.next (by omega) z2).2];exact g2
    ·simp[h17]
     refine(hJ2 _ _).2 ⟨T1,rfl,?_,kk2,g2⟩
     rw[if_neg h17];exact hm2
   ·intro fr υ2 hj2
    obtain⟨T3,rfl,hm3,kk3,g3⟩:=(hJ2 fr υ2).1 hj2
    obtain⟨c1,c2,c3,c4⟩:=kr _ _ kk3
    have hrr2:raise s n x k=if f.t.h.kind=16∧f.t.h.exn=x then Go.on ⟨.node (aB f.t 1) (f.e.with f.t.h.arg (num n) false),if f.t.h.kind=17 then {s' with store:=Mac.cz s'.store} else s',k'⟩ else raise (if f.t.h.kind=17 then {s' with store:=Mac.cz s'.store} else s') n x k':=by rw[←hrr];rfl
    have hb3:Bnd fuel (if f.t.h.kind=17 then {s' with store:=Mac.cz s'.store} else s') k':=by split;exact b'.pop.cz;exact b'.pop
    have hfl3:=hm3.nf
    have fin:¬(f.t.h.kind=16∧f.t.h.exn=x)→(∃p:List Fr×Sa×(Nat→Nat),[(0,AV.ptr mid 0 0),(3,AV.ptr σ.next 0 0),(4,AV.ptr (σ.next+1) 0 0)]= [(0,AV.ptr mid 0 0),(3,AV.ptr σ.next 0 0),(4,AV.ptr (σ.next+1) 0 0)]∧MA υ2 mid p.2.2 fuel p.2.1 p.1∧ba T τ p.2.2 υ2∧Bnd fuel p.2.1 p.1∧(∀f∈p.1,wz f)∧raise p.2.1 n x p.1=raise s n x k)∧Mac.nf mid υ2<Mac.nf mid υ:=by
     intro hne
     rw[if_neg hne]at hrr2
     refine⟨⟨(k',_,T3),rfl,hm3,kk3,hb3,fun f hf=>hfr' f (by simp[hf]),hrr2.symm⟩,?_⟩
     rw[hfl3,hfl];simp
    have x8:xc[8]?=some (str x):=by rw[←hxc];rfl
    have x3:(xc.drop 3).take 4=(num n).av:=by rw[←hxc];rfl
    have xl7:4≤xc.length - 3:=by omega
    simp[g3,fch]
    by_cases h16:f.t.h.kind=16
    ·simp[h16,g3,fch,c2,x8]
     by_cases hex:f.t.h.exn=x
     ·rw[if_pos ⟨h16,hex⟩]at hrr2
      have hk2:1<f.t.kids.length:=by rw[fok.wf.len,h16];simp[nk]
      rw[hrr2]at hr
      have fct:(frC f v1).tail.take 2=bH f.e:=rfl
      simp[hex,g3,fch,fct,fcl,c2,x3,xl,fS hk2]
      refine nJ ?_
      simp[g3,fch,fS hk2,c4,bH]
      have l:Loc σ.next T3 υ2 (υ2.set (σ.next+1) (.cells 9 [[.ref (aB f.t 1).av,bO (f.e.with f.t.h.arg (num n) false).names,fD (f.e.with f.t.h.arg (num n) false).aH,.val (.int .u8 0),.val (.int .i64 0),.val (.int .i64 0),.val (.int .i64 0),.val (.bool false),.val (.string ByteArray.empty)]])):=Loc.set (.refl _ _ _) (.inr ⟨by omega,c3⟩)
      have:=hr _ T3 (hm3.loc l) ((ko.trans kk3).loc l)
      simpa [Nx.Cf] using this
     ·simp[hex]
      obtain⟨⟨p,_,hp⟩,hlt⟩:=fin (fun h=>hex h.2)
      exact⟨⟨p.1,p.2.1,p.2.2,hp⟩,hlt⟩
    ·simp[h16]
     obtain⟨⟨p,_,hp⟩,hlt⟩:=fin (fun h=>h16 h.1)
     exact⟨⟨p.1,p.2.1,p.2.2,hp⟩,hlt⟩
 ·intro fr υ hj
  obtain⟨T3,s3,rfl,hm,kk,he⟩:=(hJ fr υ).1 hj
  rw[he]at hr
  obtain⟨c1,c2,c3,c4⟩:=kr _ _ kk
  simp[c2,c4,xl,List.take_of_length_le (Nat.le_of_eq xl),List.drop_of_length_le (Nat.le_of_eq xl)]
  have l:Loc σ.next T3 υ (υ.set (σ.next+1) (.cells 9 [xc])):=Loc.set (.refl _ _ _) (.inr ⟨by omega,c3⟩)
  have:=hr _ T3 [] (hm.loc l) ((ko.trans kk).loc l)
  rw[Nx.FR,hxc]at this
  exact this
end Go.Abs.Mac
set_option linter.unusedVariables false
set_option linter.unusedSimpArgs false
set_option linter.deprecated false
namespace Go.Abs.Mac
open Go Go.Abs Go.Abs.Stk Go.Abs.At Go.Proofs.MacD
variable {σ τ:ah} {mid sid fuel:Nat} {cv fv:AV} {vv:List AV} {T:Nat→Nat} {s:Sa} {k:List Fr} {K kp:AV→ah→Prop}
theorem wm {α:Type} (A B:List α) (x y:α) {n:Nat} (hn:A.length=n):(A++x::B).set n y=A++y::B:=by
 subst hn
 rw[List.set_append_right _ _ (Nat.le_refl _)];simp
theorem qW {α:Type} (A B:List α) (x:α) {n:Nat} (hn:A.length=n):(A++x::B)[n]?=some x:=by
 subst hn
 rw[List.getElem?_append_right (Nat.le_refl _)];simp
theorem Cy {f:Fr} {v:V} (h:MA σ mid T fuel s (f::k)) (b:Bnd fuel s (f::k)) (hi:jk s) (fok:wz f) (hwk:¬bu f.t.h.kind∧f.t.h.kind≠13) (hr:qD mid fuel T σ K kp (je s k f v)):Ev PR 48 [.ptr mid 0 0,vV v] σ K kp:=by
 apply EN;unfold F48
 simp[Nat.add_assoc]
 generalize hτ:(σ.new (.cells 4 [v.av])).new (.cells 9 [zNx])=τ
 have hg:aq σ τ:=by rw[←hτ];exact(aq.new _ _).trans (aq.new _ _)
 have hn:τ.next=σ.next+2:=by rw[←hτ];rfl
 have g0:τ.get σ.next=some (.cells 4 [v.av]):=by rw[←hτ];simp[an]
 have g1:τ.get (σ.next+1)=some (.cells 9 [zNx]):=by rw[←hτ];simp[an]
 have h1:=h.aP hg
 have ko:ba T σ T τ:=ba.aP hg
 have z:∀i,σ.next≤i→T i=0:=fun i hi=>h.zero hi
 have hk4:∀v:V,List.take 4 v.av=v.av:=fun v=>List.take_of_length_le (Nat.le_of_eq v.bT)
 obtain⟨sid,cv,fv,vv,hx⟩:=id h1
 obtain⟨fid,rest,v1,vv',rfl,hfv,hfg,hft,hl⟩:=hx.top
 refine Ah hx b rfl hfv hfg ?_
 have hbv:=fok.vals
 have hkl:f.t.kids.length≤3:=by rw[fok.wf.len];unfold nk;split;omega;split;omega;split<;>omega
 have gm:(frs k vv'++frC f v1::rest)[k.length]?=some (frC f v1):=qW _ _ _ hl
 have fc3:(frC f v1)[3]?=some v1:=rfl
 simp[hfg,gm,fc3,g0,hk4]
 refine bF (hx.vals.1.append (by':=32) v.av (by simp;omega)) ?_
 have gg:∀i,T i≠5+k.length→(gone v1 τ).get i=τ.get i:=fun i hi=>hx.vals.1.dK hi
 have hfl:fid<τ.next:=hx.lt fid (by omega)
 obtain⟨p1,p2⟩:=hx.pushV v hfv hfg hft (υ:=((gone v1 τ).new (.cells 4 (f.vals.map V.av++ [v.av]))).set fid (.cells 4 (frs k vv'++frC f (.own τ.next (f.vals.length+1))::rest))) rfl
 have st:((frC f v1).set 3 (.own τ.next (f.vals.length+1)))=frC f (.own τ.next (f.vals.length+1)):=rfl
 have st2:(frC f v1).take 3++ [.own τ.next (f.vals.length+1)]=frC f (.own τ.next (f.vals.length+1)):=rfl
 have fcl:(frC f v1).length=4:=rfl
 simp[an,bM,gg fid (by omega),hfg,gm,Nat.ne_of_lt hfl,fcl,List.drop_of_length_le (Nat.le_of_eq fcl),st2,wm _ _ _ _ hl]
 generalize hυ:((gone v1 τ).new (.cells 4 (f.vals.map V.av++ [v.av]))).set fid (.cells 4 (frs k vv'++frC f (.own τ.next (f.vals.length+1))::rest))=υ at *
 have gm2:(frs k vv'++frC f (.own τ.next (f.vals.length+1))::rest)[k.length]?=some (frC f (.own τ.next (f.vals.length+1))):=qW _ _ _ hl
 have uf:υ.get fid=some (.cells 4 (frs k vv'++frC f (.own τ.next (f.vals.length+1))::rest)):=by rw[←hυ];simp
 have fch:(frC f (.own τ.next (f.vals.length+1))).head?=some (.ref f.t.av):=rfl
 have fc3':(frC f (.own τ.next (f.vals.length+1)))[3]?=some (.own τ.next (f.vals.length+1)):=rfl
 have fct:(frC f (.own τ.next (f.vals.length+1))).tail.take 2=bH f.e:=rfl
 have fcl2:(frC f (.own τ.next (f.vals.length+1))).length=4:=rfl
 have hm:MA υ mid (tg T τ.next (5+k.length)) fuel s (⟨f.t,f.e,f.vals++ [v]⟩::k):=⟨_,_,_,_,p1⟩
 generalize tg T τ.next (5+k.length)=T1 at p1 p2 hm
 have b1:Bnd fuel s (⟨f.t,f.e,f.vals++ [v]⟩::k):=⟨b.ok,b.len,b.aC,b.k,b.fuel⟩
 have kr:∀T3 τ3,ba T τ T3 τ3→T3 σ.next=0∧τ3.get σ.next=some (.cells 4 [v.av])∧T3 (σ.next+1)=0∧τ3.get (σ.next+1)=some (.cells 9 [zNx]):=fun T3 τ3 kk=>by
  have a:=kk.get σ.next (by omega) (z _ (by omega));rw[g0]at a
  have b:=kk.get (σ.next+1) (by omega) (z _ (by omega));rw[g1]at b
  exact⟨a.1,a.2,b.1,b.2⟩
 have fin:∀(m:M) (υ3:ah) (T3:Nat→Nat) (cs:List AV),qD mid fuel T σ K kp (.on m)→MA υ3 mid T3 fuel m.s m.k→ba T τ T3 υ3→K m.x.av (υ3.set (σ.next+1) (.cells 9 [cs])):=by
  intro m τ3 T3 cs hr hm kk
  have l:Loc σ.next T3 τ3 (τ3.set (σ.next+1) (.cells 9 [cs])):=Loc.set (.refl _ _ _) (.inr ⟨by omega,(kr T3 τ3 kk).2.2.1⟩)
  exact hr _ T3 (hm.loc l) ((ko.trans kk).loc l)
 have efl:∀e:En,List.take 2 (bH e)=bH e:=fun e=>rfl
 have fc1:∀v,((frC ⟨f.t,f.e,f.vals++ [v]⟩ v1).drop 1).take 2=bH f.e:=fun _=>rfl
 simp[gm2,fch,uf,fc3']
 unfold je at hr
 by_cases k17:f.t.h.kind=17
 ·rw[if_pos k17]at hr
  simp[k17]
  refine dE hm b1 fun τ2 T2 w hm2 hk2 hw hwq=> ?_
  obtain⟨sid,cv,fv,vv,hx2⟩:=hm2
  simp[hx2.obj]
  refine DM hx2 b1.pop.Ok fun y τ3 T3 hx3 hk3=> ?_
  have kk:=(p2.trans hk2).trans hk3
  obtain⟨c1,c2,c3,c4⟩:=kr _ _ kk
  simp[c2,hk4]
  refine dB ?_
  simp[c4]
  exact fin ⟨.val v,_,k⟩ τ3 T3 _ hr ⟨_,_,_,_,hx3⟩ kk
 rw[if_neg k17]at hr
 by_cases k16:f.t.h.kind=16
 ·rw[if_pos k16]at hr
  simp[k16]
  refine dE hm b1 fun τ2 T2 w hm2 hk2 hw hwq=> ?_
  have kk:=p2.trans hk2
  obtain⟨c1,c2,c3,c4⟩:=kr _ _ kk
  simp[c2,hk4]
  refine dB ?_
  simp[c4]
  exact fin ⟨.val v,s,k⟩ τ2 T2 _ hr hm2 kk
 rw[if_neg k16]at hr
 by_cases k12:f.t.h.kind=12
 ·have h2:1<f.t.kids.length:=by rw[fok.wf.len,k12];simp[nk]
  rw[if_pos k12]at hr
  simp[k12]
  refine dE hm b1 fun τ2 T2 w hm2 hk2 hw hwq=> ?_
  have kk:=p2.trans hk2
  obtain⟨c1,c2,c3,c4⟩:=kr _ _ kk
  have hn2:=kk.next
  have wl:(frC ⟨f.t,f.e,f.vals++ [v]⟩ w).length=4:=rfl
  have wt:(frC ⟨f.t,f.e,f.vals++ [v]⟩ w).tail.take 2=bH f.e:=rfl
  simp[wl,wt,fS h2]
  simp[au,an,show σ.next≠τ2.next by omega,c2,hk4,efl]
  refine nJ ?_
  simp[fS h2,au,an,show σ.next+1≠τ2.next by omega,c4,bH]
  have l:Loc τ.next T2 τ2 ((τ2.new (.cells 2 [[.val (.pointer none),.val (.pointer none)]])).set τ2.next (.cells 2 [bH f.e])):=(Loc.new (.refl _ _ _) _).set (.inl (Nat.le_refl _))
  exact fin ⟨.node (aB f.t 1) (f.e.with f.t.h.name v false),s,k⟩ _ T2 _ hr (hm2.loc l) (kk.loc l)
 rw[if_neg k12]at hr
 by_cases k14:f.t.h.kind=14
 ·have h2:1<f.t.kids.length:=by rw[fok.wf.len,k14];simp[nk]
  have h3:2<f.t.kids.length:=by rw[fok.wf.len,k14];simp[nk]
  rw[if_pos k14]at hr
  simp[k14]
  refine dE hm b1 fun τ2 T2 w hm2 hk2 hw hwq=> ?_
  have kk:=p2.trans hk2
  obtain⟨c1,c2,c3,c4⟩:=kr _ _ kk
  have hn2:=kk.next
  have wl:(frC ⟨f.t,f.e,f.vals++ [v]⟩ w).length=4:=rfl
  have wt:(frC ⟨f.t,f.e,f.vals++ [v]⟩ w).tail.take 2=bH f.e:=rfl
  simp[wl,wt,au,an,show σ.next≠τ2.next by omega,c2,hk4]
  have l:Loc τ.next T2 τ2 ((τ2.new (.cells 2 [[.val (.pointer none),.val (.pointer none)]])).set τ2.next (.cells 2 [bH f.e])):=(Loc.new (.refl _ _ _) _).set (.inl (Nat.le_refl _))
  have gz:((τ2.new (.cells 2 [[.val (.pointer none),.val (.pointer none)]])).set τ2.next (.cells 2 [bH f.e])).get τ2.next=some (.cells 2 [bH f.e]):=by simp
  have gr:((τ2.new (.cells 2 [[.val (.pointer none),.val (.pointer none)]])).set τ2.next (.cells 2 [bH f.e])).get (σ.next+1)=some (.cells 9 [zNx]):=by rw[au,if_neg (by omega),an,if_neg (by omega)];exact c4
  have hm3:=hm2.loc l
  have kk3:=kk.loc l
  have hn3:((τ2.new (.cells 2 [[.val (.pointer none),.val (.pointer none)]])).set τ2.next (.cells 2 [bH f.e])).next=τ2.next+1:=rfl
  generalize ((τ2.new (.cells 2 [[.val (.pointer none),.val (.pointer none)]])).set τ2.next (.cells 2 [bH f.e]))=τ3 at *
  refine jU (fun h5 τ4 h6=> ?_) (fun h5 τ4 h6=> ?_)
  rotate_left
  ·have:number s v= .over s 6:=by simp[number,h5]
   rw[this]at hr
   exact hr τ4 T2 k (hm3.aP h6) ((ko.trans kk3).trans (ba.aP h6))
  have e4:number s v= .ok v.n s:=by simp[number,h5]
  rw[e4]at hr
  simp only[Re.bind,Re.go]at hr
  have gz4:τ4.get τ2.next=some (.cells 2 [bH f.e]):=by rw[h6.get _ (by omega)];exact gz
  have kk4:=kk3.trans (ba.aP (T:=T2) h6)
  have gr4:=(kr _ _ kk4).2.2.2
  by_cases hv0:v.n=0
  ·rw[if_neg (by simp[hv0])]at hr
   simp[hv0,w8 h3,gz4,efl,gr4]
   simp[bH]
   exact fin ⟨.node (aB f.t 2) f.e,s,k⟩ τ4 T2 _ hr (hm3.aP h6) kk4
  ·rw[if_pos hv0]at hr
   simp[hv0,fS h2,gz4,efl,gr4]
   simp[bH]
   exact fin ⟨.node (aB f.t 1) f.e,s,k⟩ τ4 T2 _ hr (hm3.aP h6) kk4
 rw[if_neg k14]at hr
 simp[k17,k16,k12,k14]
 by_cases hlt:f.vals.length+1<f.t.kids.length
 ·rw[if_pos hlt]at hr
  have hlt':(f.vals.length:Int)+1<(f.t.kids.length:Int):=by omega
  have hka:=ln hlt υ
  rw[show((f.vals.length+1:Nat):Int)=(f.vals.length:Int)+1 from by omega]at hka
  obtain⟨c1,c2,c3,c4⟩:=kr _ _ p2
  simp[AT.cu,hlt',hka,uf,gm2,fct,fcl2,c4]
  exact fin ⟨.node (aB f.t (f.vals.length+1)) f.e,s,⟨f.t,f.e,f.vals++ [v]⟩::k⟩ υ _ _ hr hm p2
 ·rw[if_neg hlt]at hr
  have hlt':¬((f.vals.length:Int)+1<(f.t.kids.length:Int)):=by omega
  simp[AT.cu,hlt']
  refine dE hm b1 fun τ2 T2 w hm2 hk2 hw hwq=> ?_
  have kk:=p2.trans hk2
  have hkd:=kinds fok.wf.kind k17
  have hnl:(f.vals++ [v]).length=nk f.t.h.kind:=by rw[←fok.wf.len];simp;omega
  refine C6 (f:=⟨f.t,f.e,f.vals++ [v]⟩) hm2 b1.pop hi (by obtain⟨h1,h2⟩:=hwk;simp only;rcases hkd with h | h | h | h | h | h<;>first | omega | exact absurd h h1) hnl hw hwq ?_
  cases hrl:eJ s f.t f.e (f.vals++ [v]) with
  | over s' o=>
   rw[hrl]at hr
   intro τ3 T3 k' hm3 hk3
   exact hr τ3 T3 k' hm3 ((ko.trans kk).trans hk3)
  | ok x s'=>
   rw[hrl]at hr
   intro τ3 T3 hm3 hk3
   have kk3:=kk.trans hk3
   obtain⟨c1,c2,c3,c4⟩:=kr _ _ kk3
   have:∃cs,x.av= .agg cs∧cs.length=9:=by cases x<;>exact⟨_,rfl,rfl⟩
   obtain⟨cs,e1,e2⟩:=this
   have:=fin ⟨x,s',k⟩ τ3 T3 cs hr hm3 kk3
   rw[e1]at this⊢
   simp[c4,e2,List.take_of_length_le (Nat.le_of_eq e2),List.drop_of_length_le (Nat.le_of_eq (show zNx.length=9 from rfl))]
   exact this
end Go.Abs.Mac
set_option linter.unusedVariables false
set_option linter.unusedSimpArgs false
set_option linter.deprecated false
namespace Go.Abs.Mac
open Go Go.Abs Go.Abs.Stk Go.Abs.At Go.Proofs.MacD
variable {σ τ:ah} {mid sid fuel:Nat} {cv fv:AV} {vv:List AV} {T:Nat→Nat} {s:Sa} {k:List Fr} {K kp:AV→ah→Prop}
theorem uB {s s':Sa} {e:En} {rho:Int} {c:Cl} {v:V} (h:make s e rho c= .ok v s'):s'.aC=s.aC:=by
 unfold make at h
 split at h
 ·split at h
  ·cases h;rfl
  ·cases h
 ·cases h
theorem ud {s s':Sa} {e:En} {rho:Int} {c:Co} {v:V} (h:code s e rho c= .ok v s'):s'.aC=s.aC++ [c]:=uB h
theorem zp {s:Sa} {cs:List Co} {c:Co} (h:s.aC=cs++ [c]) (e:En):patch s e= {s with aC:=cs++ [{c with env:=e}]}:=by
 unfold patch;rw[h];simp
theorem MX.Gk (h:MX σ mid sid cv fv vv T fuel s k) {cs:List Co} {c:Co} (hc:s.aC=cs++ [c]) (e:En):
 ∃q rest,cv= .own q (cs.length+1)∧σ.get q=some (.cells 5 (cs.map Co.av++c.av::rest))∧MX (σ.set q (.cells 5 (cs.map Co.av++Co.av {c with env:=e}::rest))) mid sid cv fv vv T fuel (patch s e) k∧ba T σ T (σ.set q (.cells 5 (cs.map Co.av++Co.av {c with env:=e}::rest))):=by
 obtain⟨q,rest,h1,h2,h3⟩:=h.sj (by rw[hc];simp)
 rw[hc]at h1 h2
 have hget:∀o i,T i≠3→(σ.set q o).get i=σ.get i:=fun o i hi=>by rw[au,if_neg (by rintro rfl;exact hi h3)]
 refine⟨q,rest,by rw[h1];simp,by rw[h2];simp,?_,⟨Nat.le_refl _,fun i hi h0=>⟨h0,hget _ i (by omega)⟩⟩⟩
 rw[zp hc]
 exact {obj:=by rw[hget _ mid (by rw[h.tm];omega)];exact h.obj,tm:=h.tm,store:=In.congr h.store (Nat.le_refl _) fun i h1 _=>hget _ i (by omega),aC:=.inr ⟨q,rest,by rw[h1];simp,by simp,h3⟩,frames:=h.frames.mono fun q hq=>⟨hq,hget _ q (by omega)⟩,vals:=h.vals.mono fun q h1 _=>⟨rfl,hget _ q (by omega)⟩,lt:=h.lt}
theorem Bnd.tick {fuel s k} (b:Bnd fuel s k):Bnd fuel (tick s) k:=⟨b.ok,b.len,b.aC,b.k,b.fuel⟩
theorem yy {t:AT} {e:En} (h:MA σ mid T fuel s k) (b:Bnd fuel s k) (hi:jk s) (hw:Wf t) (hr:qD mid fuel T σ K kp (enter fuel s k t e)):Ev PR 43 [.ptr mid 0 0,.ref t.av,dt e] σ K kp:=by
 apply EI;unfold F43
 simp[Nat.add_assoc]
 generalize hτ:(σ.new (.cells 2 [bH e])).new (.cells 9 [zNx])=τ
 have hg:aq σ τ:=by rw[←hτ];exact(aq.new _ _).trans (aq.new _ _)
 have hn:τ.next=σ.next+2:=by rw[←hτ];rfl
 have g0:τ.get σ.next=some (.cells 2 [bH e]):=by rw[←hτ];simp[an]
 have g1:τ.get (σ.next+1)=some (.cells 9 [zNx]):=by rw[←hτ];simp[an]
 have h1:=h.aP hg
 have ko:ba T σ T τ:=ba.aP hg
 have z:∀i,σ.next≤i→T i=0:=fun i hi=>h.zero hi
 have efl:∀e:En,List.take 2 (bH e)=bH e:=fun e=>rfl
 have hk4:∀v:V,List.take 4 v.av=v.av:=fun v=>List.take_of_length_le (Nat.le_of_eq v.bT)
 have kr:∀T3 τ3,ba T τ T3 τ3→T3 σ.next=0∧τ3.get σ.next=some (.cells 2 [bH e])∧T3 (σ.next+1)=0∧τ3.get (σ.next+1)=some (.cells 9 [zNx]):=fun T3 τ3 kk=>by
  have a:=kk.get σ.next (by omega) (z _ (by omega));rw[g0]at a
  have b:=kk.get (σ.next+1) (by omega) (z _ (by omega));rw[g1]at b
  exact⟨a.1,a.2,b.1,b.2⟩
 have fin:∀(m:M) (υ3:ah) (T3:Nat→Nat) (cs:List AV),qD mid fuel T σ K kp (.on m)→MA υ3 mid T3 fuel m.s m.k→ba T τ T3 υ3→K m.x.av (υ3.set (σ.next+1) (.cells 9 [cs])):=by
  intro m τ3 T3 cs hr hm kk
  have l:Loc σ.next T3 τ3 (τ3.set (σ.next+1) (.cells 9 [cs])):=Loc.set (.refl _ _ _) (.inr ⟨by omega,(kr T3 τ3 kk).2.2.1⟩)
  exact hr _ T3 (hm.loc l) ((ko.trans kk).loc l)
 unfold enter at hr
 by_cases k17:t.h.kind=17
 ·have h0:0<t.kids.length:=by rw[hw.len,k17];simp[nk]
  rw[if_pos k17]at hr
  obtain⟨sid,cv,fv,vv,hx⟩:=id h1
  simp[k17,hx.obj]
  refine Gn hx b.Ok ?_
  cases hp:dw s.store with
  | none=>
   rw[hp]at hr
   simp
   exact cy (fun h=>by simp at h) (fun _=>hr _ T k h1 ko)
  | some p=>
   obtain⟨r,st⟩:=p
   rw[hp]at hr
   intro τ1 T1 hx1 hk1
   simp
   refine cy (fun _=> ?_) (fun h=>by simp at h)
   obtain⟨c1,c2,c3,c4⟩:=kr _ _ hk1
   have hbk:=b.k
   have hl:=fj hx1.vals
   have hm:mid<τ1.next:=hx1.lt mid (by rw[hx1.tm];omega)
   simp[hx1.obj,c2,bH]
   have hn1:=hk1.next
   refine bF (hx1.frames.append (by':=48) (frC ⟨t,e,[]⟩ bf) (by rw[hl];omega)) ?_
   have gg:∀i,T1 i≠4→(gone fv τ1).get i=τ1.get i:=fun i hi=>hx1.frames.dK hi
   have hm1:mid≠σ.next+1:=by rintro e;rw[e]at hx1;have:=hx1.tm;omega
   have hm0:mid≠σ.next:=by rintro e;rw[e]at hx1;have:=hx1.tm;omega
   simp[bM,an,au,Nat.ne_of_lt hm,gg mid (by rw[hx1.tm];omega),hx1.obj,hl,eX h0,Ne.symm hm0,Ne.symm hm1,show σ.next≠τ1.next by omega,show σ.next+1≠τ1.next by omega,gg σ.next (by omega),gg (σ.next+1) (by omega),c2,c4]
   refine vT ?_
   obtain⟨p1,p2⟩:=hx1.DN ⟨t,e,[]⟩ rfl (υ:=((gone fv τ1).new (.cells 4 (frs k vv++ [frC ⟨t,e,[]⟩ bf]))).set mid (lB sid fuel s.steps cv (.own τ1.next (k.length+1)))) rfl
   simp[eX h0,bM,an,au,Ne.symm hm1,show σ.next+1≠τ1.next by omega,gg (σ.next+1) (by omega),c4]
   simp[bH]
   exact fin ⟨.node (aB t 0) (e.opn t.rho r),{s with store:=st},⟨t,e,[]⟩::k⟩ _ _ _ hr ⟨_,_,_,_,p1⟩ (hk1.trans p2)
 rw[if_neg k17]at hr
 simp[k17]
 refine Dh h1 b (fun hf τ1 hm1 hk1=> ?_) (fun hf=> ?_)
 rotate_left
 ·rw[if_pos hf]at hr
  exact hr _ T k h1 ko
 rw[if_neg (by omega)]at hr
 have b1:Bnd fuel (tick s) k:=b.tick
 have hi1:jk (tick s):=hi
 have hn1:=hk1.next
 obtain⟨c1,c2,c3,c4⟩:=kr _ _ hk1
 by_cases k1:t.h.kind=1
 ·rw[if_pos (by unfold bu;omega)]at hr
  have:leaf (tick s) t e= .ok (num t.h.n) (tick s):=by unfold leaf;rw[if_pos k1]
  rw[this]at hr
  simp[k1]
  refine rr (dB ?_)
  simp[c4]
  exact fin ⟨.val (num t.h.n),tick s,k⟩ τ1 T _ hr hm1 hk1
 by_cases k2:t.h.kind=2
 ·rw[if_pos (by unfold bu;omega)]at hr
  simp[k2,c2,efl]
  have hlf:leaf (tick s) t e=match e.find t.h.name with | some n=>if n.fn=true then .over (tick s) 6 else .ok n.v (tick s) | none=>.over (tick s) 6:=by unfold leaf;rw[if_neg k1,if_pos k2];cases e.find t.h.name<;>rfl
  refine vG (fun hf=> ?_) (fun n l hf=> ?_)
  ·rw[hlf,hf]at hr
   simp
   exact cy (fun h=>by simp at h) (fun _=>hr _ T k hm1 (ko.trans hk1))
  ·rw[hlf,hf]at hr
   simp[bO]
   by_cases hfn:n.fn=true
   ·simp only[hfn,if_true]at hr
    refine cy (fun h=>by simp[hfn]at h) (fun _=>hr _ T k hm1 (ko.trans hk1))
   ·simp only[hfn,if_false]at hr
    refine cy (fun _=> ?_) (fun h=>by simp at h;exact absurd h hfn)
    refine dB (v:=n.v) ?_
    simp[c4]
    exact fin ⟨.val n.v,tick s,k⟩ τ1 T _ hr hm1 hk1
 by_cases k18:t.h.kind=18
 ·rw[if_pos (by unfold bu;omega)]at hr
  have hlf:leaf (tick s) t e=inst (tick s) t e:=by unfold leaf;rw[if_neg k1,if_neg k2,if_pos k18]
  rw[hlf]at hr
  simp[k18,c2,efl]
  refine CC hm1 b1 hi1 hw.aH ?_
  cases hin:inst (tick s) t e with
  | over s' o=>
   rw[hin]at hr
   intro τ3 T3 k' hm3 hk3
   exact hr τ3 T3 k' hm3 ((ko.trans hk1).trans hk3)
  | ok v s'=>
   rw[hin]at hr
   intro τ3 T3 hm3 hk3
   refine dB ?_
   have kk:=hk1.trans hk3
   simp[(kr _ _ kk).2.2.2]
   exact fin ⟨.val v,s',k⟩ τ3 T3 _ hr hm3 kk
 by_cases k11:t.h.kind=11
 ·have h0:0<t.kids.length:=by rw[hw.len,k11];simp[nk]
  rw[if_pos (by unfold bu;omega)]at hr
  have hlf:leaf (tick s) t e=make (cM (tick s) ⟨aB t 0,t.h.arg,e,none⟩).2 e t.rho (cM (tick s) ⟨aB t 0,t.h.arg,e,none⟩).1:=by unfold leaf;rw[if_neg k1,if_neg k2,if_neg k18];rfl
  rw[hlf]at hr
  simp[k11,c2,efl,eX h0]
  refine jv hm1 b1 (c:=⟨aB t 0,t.h.arg,e,none⟩) fun τ2 T2 hm2 hk2=> ?_
  have kk2:=hk1.trans hk2
  obtain⟨d1,d2,d3,d4⟩:=kr _ _ kk2
  simp[d2,efl]
  refine iL hm2 b1.Ok ?_
  cases hmk:make (cM (tick s) ⟨aB t 0,t.h.arg,e,none⟩).2 e t.rho (cM (tick s) ⟨aB t 0,t.h.arg,e,none⟩).1 with
  | over s' o=>
   rw[hmk]at hr
   intro τ3 T3 k' hm3 hk3
   exact hr τ3 T3 k' hm3 ((ko.trans kk2).trans hk3)
  | ok v s'=>
   rw[hmk]at hr
   intro τ3 T3 hm3 hk3
   refine dB ?_
   have kk:=kk2.trans hk3
   simp[(kr _ _ kk).2.2.2]
   exact fin ⟨.val v,s',k⟩ τ3 T3 _ hr hm3 kk
 rw[if_neg (by unfold bu;omega)]at hr
 simp[k1,k2,k18,k11]
 by_cases k13:t.h.kind=13
 ·have h0:0<t.kids.length:=by rw[hw.len,k13];simp[nk]
  have h2:1<t.kids.length:=by rw[hw.len,k13];simp[nk]
  rw[if_pos k13]at hr
  simp[k13]
  generalize hco:(⟨aB t 0,t.h.arg,e,some t.aH⟩:Co)=co at hr
  have hcav:co.av= [.ref (aB t 0).av,str t.h.arg,bO e.names,fD e.aH,aO t.aH]:=by rw[←hco];rfl
  obtain⟨J,hJ⟩:∃J:aA→ah→Prop,∀fr υ,J fr υ↔∃(id:Nat) (v:V) (s':Sa) (T3:Nat→Nat),fr= [(0,.ptr mid 0 0),(1,.ref t.av),(5,.ptr σ.next 0 0),(6,.ptr (σ.next+1) 0 0),(10,.ptr id 0 0)]∧code (tick s) e t.rho co= .ok v s'∧MA υ mid T3 fuel s' k∧ba T τ T3 υ∧τ.next≤id∧id<υ.next∧T3 id=0∧υ.get id=some (.cells 4 [v.av]):=⟨_,fun _ _=>Iff.rfl⟩
  refine bw J ?_ ?_
  ·have rcl:br (aO t.aH)=some [aO t.aH]:=rfl
   simp[c2,efl,eX h0]
   simp[bH,rcl]
   rw[←hcav]
   refine⟨?_,?_,?_⟩
   ·refine jv hm1 b1 fun τ2 T2 hm2 hk2=> ?_
    have kk2:=hk1.trans hk2
    obtain⟨d1,d2,d3,d4⟩:=kr _ _ kk2
    simp[d2]
    simp[bH]
    refine iL hm2 b1.Ok (e:=e) ?_
    cases hmk:make (cM (tick s) co).2 e t.rho (cM (tick s) co).1 with
    | over s' o=>
     rw[show code (tick s) e t.rho co=_ from hmk]at hr
     intro τ3 T3 k' hm3 hk3
     exact hr τ3 T3 k' hm3 ((ko.trans kk2).trans hk3)
    | ok v s'=>
     intro τ3 T3 hm3 hk3
     have kk:=kk2.trans hk3
     obtain⟨x1,x2,x3,x4⟩:=kr _ _ kk
     have hn3:=kk.next
     simp[an,show σ.next≠τ3.next by omega,x2,eX h0,hk4]
     simp[bH]
     have l:Loc τ.next T3 τ3 ((τ3.new (.cells 4 [zV4])).set τ3.next (.cells 4 [v.av])):=(Loc.new (.refl _ _ _) _).set (.inl (Nat.le_refl _))
     exact(hJ _ _).2 ⟨τ3.next,v,s',T3,rfl,hmk,hm3.loc l,kk.loc l,hn3,by simp,hm3.zero (Nat.le_refl _),by simp⟩
   ·refine jv hm1 b1 fun τ2 T2 hm2 hk2=> ?_
    have kk2:=hk1.trans hk2
    obtain⟨d1,d2,d3,d4⟩:=kr _ _ kk2
    have hn2:=kk2.next
    simp[d2,an,show σ.next≠τ2.next by omega,eX h0]
    simp[bH]
    have hgn:=aq.new τ2 (.cells 4 [zV4])
    refine iL (hm2.aP hgn) b1.Ok (e:=e) ?_
    cases hmk:make (cM (tick s) co).2 e t.rho (cM (tick s) co).1 with
    | over s' o=>
     rw[show code (tick s) e t.rho co=_ from hmk]at hr
     intro τ3 T3 k' hm3 hk3
     exact hr τ3 T3 k' hm3 (((ko.trans kk2).trans (ba.aP hgn)).trans hk3)
    | ok v s'=>
     intro τ3 T3 hm3 hk3
     have kk:=(kk2.trans (ba.aP hgn)).trans hk3
     have hn3:τ2.next+1≤τ3.next:=hk3.next
     have w:=hk3.get τ2.next (Nat.lt_succ_self _) (hm2.zero (Nat.le_refl _))
     rw[an,if_pos rfl]at w
     simp[w.2,hk4]
     have l:Loc τ.next T3 τ3 (τ3.set τ2.next (.cells 4 [v.av])):=Loc.set (.refl _ _ _) (.inr ⟨hn2,w.1⟩)
     exact(hJ _ _).2 ⟨τ2.next,v,s',T3,rfl,hmk,hm3.loc l,kk.loc l,hn2,by simp;omega,w.1,by simp⟩
   ·have hgn:=aq.new τ1 (.cells 4 [zV4])
    refine⟨by simp[an,show σ.next≠τ1.next by omega,c2,bH],?_⟩
    refine jv (hm1.aP hgn) b1 fun τ2 T2 hm2 hk2=> ?_
    have kk2:=(hk1.trans (ba.aP hgn)).trans hk2
    obtain⟨d1,d2,d3,d4⟩:=kr _ _ kk2
    have hn2:τ1.next+1≤τ2.next:=hk2.next
    have w2:=hk2.get τ1.next (Nat.lt_succ_self _) (hm1.zero (Nat.le_refl _))
    rw[an,if_pos rfl]at w2
    simp[d2]
    simp[bH]
    refine iL hm2 b1.Ok (e:=e) ?_
    cases hmk:make (cM (tick s) co).2 e t.rho (cM (tick s) co).1 with
    | over s' o=>
     rw[show code (tick s) e t.rho co=_ from hmk]at hr
     intro τ3 T3 k' hm3 hk3
     exact hr τ3 T3 k' hm3 ((ko.trans kk2).trans hk3)
    | ok v s'=>
     intro τ3 T3 hm3 hk3
     have kk:=kk2.trans hk3
     have hn3:=hk3.next
     have w:=hk3.get τ1.next (by omega) w2.1
     rw[w2.2]at w
     simp[w.2,hk4]
     have l:Loc τ.next T3 τ3 (τ3.set τ1.next (.cells 4 [v.av])):=Loc.set (.refl _ _ _) (.inr ⟨hn1,w.1⟩)
     exact(hJ _ _).2 ⟨τ1.next,v,s',T3,rfl,hmk,hm3.loc l,kk.loc l,hn1,by simp;omega,w.1,by simp⟩
  ·intro fr υ hj
   obtain⟨id,v,s',T3,rfl,hcd,hm3,kk,i1,i2,i3,i4⟩:=(hJ fr υ).1 hj
   obtain⟨x1,x2,x3,x4⟩:=kr _ _ kk
   rw[hcd]at hr
   simp only[Re.bind,Re.go]at hr
   simp[x2,efl,i4,hk4]
   refine nJ ?_
   obtain⟨sid,cv,fv,vv,hx⟩:=hm3
   have hcc:=ud hcd
   have hm0:mid≠σ.next:=by rintro e;rw[e]at hx;have:=hx.tm;omega
   have hm1':mid≠σ.next+1:=by rintro e;rw[e]at hx;have:=hx.tm;omega
   have l:Loc σ.next T3 υ (υ.set σ.next (.cells 2 [bH (e.with t.h.name v true)])):=Loc.set (.refl _ _ _) (.inr ⟨Nat.le_refl _,x1⟩)
   have hx2:=hx.loc l
   have kk2:=(ko.trans kk).loc l
   obtain⟨q,rest,e1,e2,p1,p2⟩:=hx2.Gk (cs:=(tick s).aC) (c:=co) hcc (e.with t.h.name v true)
   have q0:q≠σ.next:=by rintro rfl;rw[au,if_pos rfl]at e2;simp at e2
   have q1:υ.get q=some (.cells 5 ((tick s).aC.map Co.av++co.av::rest)):=by rw[←e2,au,if_neg q0]
   have hcl:(tick s).aC.length≤1000000000000:=b1.aC
   have hel:((tick s).aC.map Co.av++co.av::rest)[(tick s).aC.length]?=some co.av:=qW _ _ _ (by simp)
   have hset:∀y,((tick s).aC.map Co.av++co.av::rest).set (tick s).aC.length y=(tick s).aC.map Co.av++y::rest:=fun y=>wm _ _ _ _ (by simp)
   have dr:∀e:En,List.drop 2 (bH e)= []:=fun _=>rfl
   have ia:∀υ':ah,υ'.get q=some (.cells 5 ((tick s).aC.map Co.av++co.av::rest))→ak 5 cv (int ((tick s).aC.length:Nat)) υ'=some (.ptr q (tick s).aC.length 0):=fun υ' hq=>by
    rw[e1,cg,if_pos (by omega),Int.toNat_natCast,dP hq,hel];simp
   have hlen:∀υ',aE .slice cv υ'=some (int (((tick s).aC.length+1:Nat):Int)):=fun υ'=>by rw[e1];rfl
   simp[x2,dr,au,hm0,hx.obj,hlen]
   rw[wrap64 (by omega)]
   refine fJ (ia (υ.set σ.next (.cells 2 [bH (e.with t.h.name v true)])) e2) ?_
   have pat:co.av.take 2++bH (e.with t.h.name v true)++co.av.drop 4=Co.av {co with env:=e.with t.h.name v true}:=rfl
   have el2:(bH (e.with t.h.name v true)).length=2:=rfl
   have pat2:co.av.take 2++(bH (e.with t.h.name v true)++co.av.drop 4)=Co.av {co with env:=e.with t.h.name v true}:=rfl
   have q2:σ.next≠q:=Ne.symm q0
   have q3:σ.next+1≠q:=by rintro rfl;rw[x4]at q1;simp at q1
   have n0:σ.next+1≠σ.next:=by omega
   simp[q1,q0,q2,q3,hel,hset,pat2,au,efl,x4,fS h2]
   simp[bH]
   have l3:Loc σ.next T3 ((υ.set σ.next (.cells 2 [bH (e.with t.h.name v true)])).set q (.cells 5 ((tick s).aC.map Co.av++Co.av {co with env:=e.with t.h.name v true}::rest))) (((υ.set σ.next (.cells 2 [bH (e.with t.h.name v true)])).set q (.cells 5 ((tick s).aC.map Co.av++Co.av {co with env:=e.with t.h.name v true}::rest))).set (σ.next+1) (.cells 9 [[.ref (aB t 1).av,bO (e.with t.h.name v true).names,fD (e.with t.h.name v true).aH,.val (.int .u8 0),.val (.int .i64 0),.val (.int .i64 0),.val (.int .i64 0),.val (.bool false),.val (.string ByteArray.empty)]])):=Loc.set (.refl _ _ _) (.inr ⟨by omega,x3⟩)
   exact hr _ T3 (MA.loc ⟨_,_,_,_,p1⟩ l3) ((kk2.trans p2).loc l3)
 ·rw[if_neg k13]at hr
  have h0:0<t.kids.length:=by rw[hw.len];exact aJ (by have:=hw.kind;omega)
  simp[k13,c2,efl]
  refine Dn hm1 b1 h0 fun τ2 T2 hm2 hk2=> ?_
  have kk2:=hk1.trans hk2
  simp[(kr _ _ kk2).2.2.2]
  exact fin ⟨.node (aB t 0) e,tick s,⟨t,e,[]⟩::k⟩ τ2 T2 _ hr hm2 kk2
end Go.Abs.Mac
