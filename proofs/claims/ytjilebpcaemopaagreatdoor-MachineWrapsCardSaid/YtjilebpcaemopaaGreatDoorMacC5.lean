import Derived.Test.YtjilebpcaemopaaGreatDoorMacA
set_option linter.unusedVariables false
set_option linter.unusedSimpArgs false
set_option linter.deprecated false
namespace Go.Abs.Mac
open Go Go.Abs Go.Abs.Stk Go.Abs.At Go.Proofs.MacD
variable {σ τ:ah} {mid sid fuel:Nat} {cv fv:AV} {vv:List AV} {T:Nat→Nat} {s:Sa} {k:List Fr} {K kp:AV→ah→Prop}
@[simp] theorem Co.bT (c:Co):c.av.length=5:=rfl
theorem jv (h:MA σ mid T fuel s k) (b:Bnd fuel s k) {c:Co} (hk:∀τ T',MA τ mid T' fuel (cM s c).2 k→ba T σ T' τ→K (.agg (cM s c).1.av) τ):Ev PR 87 [.ptr mid 0 0,.agg c.av] σ K kp:=by
 apply Fg;unfold F87
 simp[Nat.add_assoc]
 generalize hτ:(σ.new (.cells 5 [c.av])).new (.cells 10 [zC])=τ
 have hg:aq σ τ:=by rw[←hτ];exact(aq.new _ _).trans (aq.new _ _)
 have hn:τ.next=σ.next+2:=by rw[←hτ];rfl
 have g0:τ.get σ.next=some (.cells 5 [c.av]):=by rw[←hτ];simp[an]
 have g1:τ.get (σ.next+1)=some (.cells 10 [zC]):=by rw[←hτ];simp[an]
 obtain⟨sid,cv,fv,vv,hx⟩:=h.aP hg
 have hm:mid<τ.next:=hx.lt mid (by rw[hx.tm];omega)
 have hbc:=b.aC
 have hm2:mid≠σ.next+1:=by rintro e;have:=h.zero (i:=mid) (by omega);rw[hx.tm]at this;omega
 simp[hx.obj,g0,List.take_of_length_le (Nat.le_of_eq c.bT)]
 refine bF (hx.aC.append (by':=64) c.av (by simp;omega)) ?_
 have z1:T (σ.next+1)=0:=h.zero (by omega)
 have gg:(gone cv τ).get mid=τ.get mid:=hx.aC.dK (by rw[hx.tm];omega)
 have gl:(gone cv τ).get (σ.next+1)=τ.get (σ.next+1):=hx.aC.dK (by omega)
 simp[bM,an,au,Nat.ne_of_lt hm,gg,hx.obj]
 obtain⟨p1,p2⟩:=hx.pushC c (υ:=((gone cv τ).new (.cells 5 (s.aC.map Co.av++ [c.av]))).set mid (lB sid fuel s.steps (.own τ.next (s.aC.length+1)) fv)) rfl
 rw[wrap64 (by omega)]
 simp[au,an,Ne.symm hm2,show σ.next+1≠τ.next by omega,gl,g1]
 have l:Loc σ.next (tg T τ.next 3) _ ((((gone cv τ).new (.cells 5 (s.aC.map Co.av++ [c.av]))).set mid (lB sid fuel s.steps (.own τ.next (s.aC.length+1)) fv)).set (σ.next+1) (.cells 10 [(cM s c).1.av])):=Loc.set (.refl _ _ _) (.inr ⟨by omega,by rw[eQ (by omega)];exact z1⟩)
 have:=hk _ _ ⟨_,_,_,_,p1.loc l⟩ ((ba.of hg p2).loc l)
 simpa [cM,Cl.av,V.av,V.zero] using this
theorem Dh (h:MA σ mid T fuel s k) (b:Bnd fuel s k)
 (hk:s.steps<fuel→∀τ,MA τ mid T fuel (tick s) k→ba T σ T τ→K (.tup []) τ) (hp:fuel≤s.steps→kp (.iface 102 (.agg [u8 3])) σ):Ev PR 81 [.ptr mid 0 0] σ K kp:=by
 apply E9;unfold F81
 obtain⟨sid,cv,fv,vv,hx⟩:=h
 have hm:mid<σ.next:=hx.lt mid (by rw[hx.tm];omega)
 have hbf:=b.fuel
 simp[hx.obj]
 refine cy (fun h1=> ?_) (fun h1=>hp (by simpa using h1))
 have h1:s.steps<fuel:=by simpa using h1
 simp[hx.obj]
 rw[wrap64 (by omega)]
 refine hk h1 _ ⟨sid,cv,fv,vv,?_⟩ ?_
 ·have hget:∀i,T i≠2→(σ.set mid (lB sid fuel (s.steps+1) cv fv)).get i=σ.get i:=fun i h2=>by
   rw[au,if_neg (by rintro rfl;exact h2 hx.tm)]
  exact {obj:=by simp[tick],tm:=hx.tm,store:=In.congr hx.store (Nat.le_refl _) fun i h1 _=>hget i (by omega),aC:=hx.aC.mono fun q hq=>⟨hq,hget q (by omega)⟩,frames:=hx.frames.mono fun q hq=>⟨hq,hget q (by omega)⟩,vals:=hx.vals.mono fun q h1 _=>⟨rfl,hget q (by omega)⟩,lt:=hx.lt}
 ·exact⟨Nat.le_refl _,fun i hi h0=>⟨h0,by rw[au,if_neg (by rintro rfl;rw[hx.tm]at h0;omega)]⟩⟩
theorem Ah {f:Fr} (h:MX σ mid sid cv fv vv T fuel s (f::k)) (b:Bnd fuel s (f::k)) {fid:Nat} {rest:List (List AV)} {v:AV} {vv':List AV} (hvv:vv=v::vv') (hfv:fv= .own fid (k.length+1)) (hfg:σ.get fid=some (.cells 4 (frs k vv'++frC f v::rest)))
 (hk:K (.ptr fid k.length 0) σ):Ev PR 92 [.ptr mid 0 0] σ K kp:=by
 subst hvv
 apply Fl;unfold F92
 have hl:=fj h.vals.2
 have hbk:=b.k
 simp at hbk
 simp[h.obj,hfv]
 rw[wrap64 (by omega)]
 refine fJ (x:=.ptr fid k.length 0) ?_ hk
 rw[cg,if_pos (by omega)]
 rw[Int.toNat_natCast,dP hfg,←hl,List.getElem?_append_right (Nat.le_refl _)]
 simp[frC]
theorem dE {f:Fr} (h:MA σ mid T fuel s (f::k)) (b:Bnd fuel s (f::k))
 (hk:∀τ T' v,MA τ mid T' fuel s k→ba T σ T' τ→jd τ T' 0 4 v (f.vals.map V.av)→(∀q n,v= .own q n→q<τ.next)→K (.agg (frC f v)) τ):Ev PR 90 [.ptr mid 0 0] σ K kp:=by
 apply Fj;unfold F90
 simp
 have hg1:=aq.new σ (.cells 4 [[.val (.pointer none),.val (.pointer none),.val (.pointer none),.val (.slice none 0 0)]])
 obtain⟨sid,cv,fv,vv,hx⟩:=h.aP hg1
 obtain⟨fid,rest,v,vv',rfl,hfv,hfg,hft,hl⟩:=hx.top
 refine Ah hx b rfl hfv hfg ?_
 generalize hτ:σ.new (.cells 4 [[.val (.pointer none),.val (.pointer none),.val (.pointer none),.val (.slice none 0 0)]])=τ at *
 have hn:τ.next=σ.next+1:=by rw[←hτ];rfl
 have g0:τ.get σ.next=some (.cells 4 [[.val (.pointer none),.val (.pointer none),.val (.pointer none),.val (.slice none 0 0)]]):=by rw[←hτ];simp
 have hm:mid<τ.next:=hx.lt mid (by rw[hx.tm];omega)
 have hm2:mid≠σ.next:=by rintro e;have:=h.zero (i:=mid) (by omega);rw[hx.tm]at this;omega
 have hel:(frs k vv'++frC f v::rest)[k.length]?=some (frC f v):=by
  rw[←hl,List.getElem?_append_right (Nat.le_refl _)];simp
 have hfl:(frC f v).length=4:=rfl
 simp[hfg,hel,hfl,List.take_of_length_le (Nat.le_of_eq hfl),an,Nat.ne_of_lt hm,hx.obj,au]
 have hbk:=b.k
 simp at hbk
 simp[hfv]
 rw[wrap64 (by omega)]
 rw[if_pos (by omega),Int.toNat_natCast]
 simp[an,au,Nat.ne_of_lt hm,hx.obj,hm2,Ne.symm hm2,show τ.next≠mid by omega,show σ.next≠τ.next by omega,g0,hfl,List.take_of_length_le (Nat.le_of_eq hfl)]
 obtain⟨p1,p2,p3,p4⟩:=hx.popF hfv hfg hft (υ:=τ.set mid (lB sid fuel s.steps cv (.own fid k.length))) rfl
 generalize hT:(fun i=>if T i=5+k.length then 0 else T i)=T' at p1 p2 p3
 have zs:T' σ.next=0:=by rw[←hT];show(if T σ.next=5+k.length then 0 else T σ.next)=0;rw[if_neg (by rw[h.zero (Nat.le_refl _)];omega)];exact h.zero (Nat.le_refl _)
 have hq:∀i,i<τ.next→i≠σ.next→((((τ.new (.cells 4 [[.val (.pointer none),.val (.pointer none),.val (.pointer none),.val (.slice none 0 0)]])).set τ.next (.cells 4 [frC f v])).set mid (lB sid fuel s.steps cv (.own fid k.length))).set σ.next (.cells 4 [frC f v])).get i=(τ.set mid (lB sid fuel s.steps cv (.own fid k.length))).get i:=by
  intro i h1 h2
  rw[au,if_neg h2]
  simp only[au,an]
  by_cases e:i=mid
  ·rw[if_pos e,if_pos e]
  ·rw[if_neg e,if_neg e,if_neg (by omega),if_neg (by omega)]
 have l:Loc σ.next T' (τ.set mid (lB sid fuel s.steps cv (.own fid k.length))) ((((τ.new (.cells 4 [[.val (.pointer none),.val (.pointer none),.val (.pointer none),.val (.slice none 0 0)]])).set τ.next (.cells 4 [frC f v])).set mid (lB sid fuel s.steps cv (.own fid k.length))).set σ.next (.cells 4 [frC f v])):=
  ⟨Nat.le_succ _,fun i h1 h2=>hq i h1 (by rintro rfl;omega)⟩
 refine hk _ T' v ⟨_,_,_,_,p1.loc l⟩ ((ba.of hg1 p2).loc l) ?_ (fun q n e=>Nat.lt_of_lt_of_le (p4 q n e) (Nat.le_succ _))
 rcases p3 with p3 | ⟨q,r,q1,q2,q3⟩
 ·exact .inl p3
 ·refine .inr ⟨q,r,q1,?_,q3⟩
  rcases hx.vals.1 with ⟨rfl,_⟩ | ⟨q',r',e1,e2,e3⟩
  ·cases q1
  ·rw[q1]at e1;cases e1
   rw[hq q (hx.lt q (by omega)) (by rintro rfl;rw[h.zero (Nat.le_refl _)]at e3;omega)]
   exact q2
theorem CG {t:AT} {i:Nat} (h:i<t.kids.length):t.kids[i]?=some (aB t i):=by
 unfold aB;rw[List.getElem?_eq_getElem h];rfl
theorem ln {t:AT} {i:Nat} (h:i<t.kids.length) (σ:ah):ak 19 (AT.vs t.kids) (.val (.int .i64 i)) σ=some (.ref (aB t i).av):=by
 rw[AT.vs,aD,if_pos (by omega),Int.toNat_natCast,AT.cu,List.getElem?_map,CG h];rfl
theorem AT.fields (t:AT):t.av[0]?=some (u8 t.h.kind)∧t.av[1]?=some (u8 t.h.op)∧t.av[3]?=some (int t.h.n)∧t.av[4]?=some (str t.h.name)∧t.av[5]?=some (str t.h.arg)∧t.av[6]?=some (str t.h.exn)∧t.av[7]?=some (int t.rho)∧t.av[8]?=some (aO t.aH)∧t.av[18]?=some (AT.vs t.kids):=by
 obtain⟨_,_,_,_,_,_,_,_,_,_,e⟩:=t.df
 rw[e]
 exact⟨rfl,rfl,rfl,rfl,rfl,rfl,rfl,rfl,rfl⟩
theorem MX.sj (h:MX σ mid sid cv fv vv T fuel s k) (hl:0<s.aC.length):∃q rest,cv= .own q s.aC.length∧σ.get q=some (.cells 5 (s.aC.map Co.av++rest))∧T q=3:=by
 rcases h.aC with ⟨_,h2⟩ | ⟨q,rest,h1,h2,h3⟩
 ·have:=congrArg List.length h2;simp at this;rw[this]at hl;simp at hl
 ·exact⟨q,rest,by rw[h1];simp,h2,h3⟩
theorem wJ {s:SG Cl} {v:V} {c:Cl} (h:cellAt s v=some c):∃(i:Nat) (row:List Cl),s.L[i]?=some (true,row)∧c∈row:=by
 unfold cellAt at h
 cases hr:s.row v.r with
 | none=>rw[hr]at h;cases h
 | some row=>
  rw[hr]at h
  obtain⟨i,_,h1,_⟩:=SG.iO hr
  exact⟨i,row,h1,List.mem_of_getElem? h⟩
theorem jk.code {s s':Sa} {v:V} {c:Cl} (h:jk s) (ht:take s v 3= .ok c s'):∃f,s.aC[c.code.toNat]?=some f∧c.code=(c.code.toNat:Int):=by
 obtain⟨rfl,hk,hc,_⟩:=fQ ht
 obtain⟨i,row,h1,h2⟩:=wJ hc
 have:=h i row c h1 h2 hk
 exact⟨_,List.getElem?_eq_getElem (by omega),by omega⟩
@[simp] theorem AT.ym (t:AT) (h:0<t.av.length):t.av[0]'h=u8 t.h.kind:=by have:=(AT.fields t).1;rw[List.getElem?_eq_getElem h]at this;exact Option.some.inj this
@[simp] theorem AT.yn (t:AT) (h:1<t.av.length):t.av[1]'h=u8 t.h.op:=by have:=(AT.fields t).2.1;rw[List.getElem?_eq_getElem h]at this;exact Option.some.inj this
@[simp] theorem AT.yp (t:AT) (h:3<t.av.length):t.av[3]'h=int t.h.n:=by have:=(AT.fields t).2.2.1;rw[List.getElem?_eq_getElem h]at this;exact Option.some.inj this
@[simp] theorem AT.FQ (t:AT) (h:18<t.av.length):t.av[18]'h=AT.vs t.kids:=by have:=(AT.fields t).2.2.2.2.2.2.2.2;rw[List.getElem?_eq_getElem h]at this;exact Option.some.inj this
@[simp] theorem AT.qR (t:AT):t.av.head?=some (u8 t.h.kind):=by have:=(AT.fields t).1;rw[List.head?_eq_getElem?];exact this
theorem eX {t:AT} (h:0<t.kids.length) (σ:ah):ak 19 (AT.vs t.kids) (.val (.int .i64 0)) σ=some (.ref (aB t 0).av):=ln (i:=0) h σ
theorem fS {t:AT} (h:1<t.kids.length) (σ:ah):ak 19 (AT.vs t.kids) (.val (.int .i64 1)) σ=some (.ref (aB t 1).av):=ln (i:=1) h σ
theorem w8 {t:AT} (h:2<t.kids.length) (σ:ah):ak 19 (AT.vs t.kids) (.val (.int .i64 2)) σ=some (.ref (aB t 2).av):=ln (i:=2) h σ
theorem Dn (h:MA σ mid T fuel s k) (b:Bnd fuel s k) {t:AT} {e:En} (h0:0<t.kids.length)
 (hk:∀τ T',MA τ mid T' fuel s (⟨t,e,[]⟩::k)→ba T σ T' τ→K (Nx.av (.node (aB t 0) e)) τ):Ev PR 89 [.ptr mid 0 0,.ref t.av,dt e] σ K kp:=by
 apply Fi;unfold F89
 obtain⟨f0,f1,f3,f4,f5,f6,f7,f8,f18⟩:=AT.fields t
 simp[Nat.add_assoc]
 generalize hτ:(σ.new (.cells 2 [bH e])).new (.cells 9 [[.val (.pointer none),.val (.pointer none),.val (.pointer none),.val (.int .u8 0),.val (.int .i64 0),.val (.int .i64 0),.val (.int .i64 0),.val (.bool false),.val (.string ByteArray.empty)]])=τ
 have hg:aq σ τ:=by rw[←hτ];exact(aq.new _ _).trans (aq.new _ _)
 have hn:τ.next=σ.next+2:=by rw[←hτ];rfl
 have g0:τ.get σ.next=some (.cells 2 [bH e]):=by rw[←hτ];simp[an]
 have g1:τ.get (σ.next+1)=some (.cells 9 [[.val (.pointer none),.val (.pointer none),.val (.pointer none),.val (.int .u8 0),.val (.int .i64 0),.val (.int .i64 0),.val (.int .i64 0),.val (.bool false),.val (.string ByteArray.empty)]]):=by rw[←hτ];simp[an]
 obtain⟨sid,cv,fv,vv,hx⟩:=h.aP hg
 have hm:mid<τ.next:=hx.lt mid (by rw[hx.tm];omega)
 have hbk:=b.k
 have z0:T σ.next=0:=h.zero (by omega)
 have z1:T (σ.next+1)=0:=h.zero (by omega)
 have hl:=fj hx.vals
 have hm1:mid≠σ.next+1:=by rintro e;rw[e]at hx;have:=hx.tm;omega
 have hm0:mid≠σ.next:=by rintro e;rw[e]at hx;have:=hx.tm;omega
 simp[hx.obj,g0,bH]
 refine bF (hx.frames.append (by':=48) (frC ⟨t,e,[]⟩ bf) (by rw[hl];omega)) ?_
 have gg:∀i,T i≠4→(gone fv τ).get i=τ.get i:=fun i hi=>hx.frames.dK hi
 simp[bM,an,au,Nat.ne_of_lt hm,gg mid (by rw[hx.tm];omega),hx.obj,hl,eX h0,Ne.symm hm0,Ne.symm hm1,show σ.next≠τ.next by omega,show σ.next+1≠τ.next by omega,gg σ.next (by omega),gg (σ.next+1) (by omega),g0,g1]
 simp[bH]
 obtain⟨p1,p2⟩:=hx.DN ⟨t,e,[]⟩ rfl (υ:=((gone fv τ).new (.cells 4 (frs k vv++ [frC ⟨t,e,[]⟩ bf]))).set mid (lB sid fuel s.steps cv (.own τ.next (k.length+1)))) rfl
 have l:Loc σ.next (tg T τ.next 4) _ ((((gone fv τ).new (.cells 4 (frs k vv++ [frC ⟨t,e,[]⟩ bf]))).set mid (lB sid fuel s.steps cv (.own τ.next (k.length+1)))).set (σ.next+1) (.cells 9 [[.ref (aB t 0).av,bO e.names,fD e.aH,.val (.int .u8 0),.val (.int .i64 0),.val (.int .i64 0),.val (.int .i64 0),.val (.bool false),.val (.string ByteArray.empty)]])):=Loc.set (.refl _ _ _) (.inr ⟨by omega,by rw[eQ (by omega)];exact z1⟩)
 exact hk _ _ ⟨_,_,_,_,p1.loc l⟩ ((ba.of hg p2).loc l)
end Go.Abs.Mac
set_option linter.unusedVariables false
set_option linter.unusedSimpArgs false
set_option linter.deprecated false
namespace Go.Abs.Mac
open Go Go.Abs Go.Abs.Stk Go.Abs.At Go.Proofs.MacD
variable {σ τ:ah} {mid sid fuel:Nat} {cv fv:AV} {vv:List AV} {T:Nat→Nat} {s:Sa} {k:List Fr} {K kp:AV→ah→Prop}
abbrev zV4:List AV:=[.val (.int .u8 0),.val (.int .i64 0),.val (.int .i64 0),.val (.int .i64 0)]
abbrev zCo:List AV:=[.val (.pointer none),.val (.string ByteArray.empty),.val (.pointer none),.val (.pointer none),.val (.slice none 0 0)]
theorem Gy (rs:Option (List Int)) (σ:ah):aE .slice (rsV rs) σ=some (int ((rs.getD []).length:Nat)):=by
 cases rs with
 | none=>rfl
 | some l=>simp[rsV,aO]
theorem rs_at {rs:Option (List Int)} {i:Nat} {r:Int} (h:(rs.getD [])[i]?=some r) (σ:ah):ak 1 (rsV rs) (int i) σ=some (.ref [int r]):=by
 cases rs with
 | none=>simp at h
 | some l=>
  show ak 1 (.sl false 1 (l.map fun r=>[At.int r])) (.val (.int .i64 i)) σ=_
  rw[aD,if_pos (by omega),Int.toNat_natCast,List.getElem?_map,show l[i]?=some r from h];rfl
@[simp] theorem rsV_cells (rs:Option (List Int)):br (rsV rs)=some [rsV rs]:=by cases rs<;>rfl
theorem MX.nw (h:MX σ mid sid cv fv vv T fuel s k) {i:Nat} {f:Co} (hf:s.aC[i]?=some f):
 ∃q els,T q=3∧σ.get q=some (.cells 5 els)∧els[i]?=some f.av∧∀υ:ah,υ.get q=σ.get q→ak 5 cv (int i) υ=some (.ptr q i 0):=by
 have hi:=(List.getElem?_eq_some_iff.1 hf).1
 obtain⟨q,rest,h1,h2,h3⟩:=h.sj (by omega)
 have he:(s.aC.map Co.av++rest)[i]?=some f.av:=by rw[List.getElem?_append_left (by simpa using hi)];simp[hf]
 refine⟨q,_,h3,h2,he,fun υ hυ=> ?_⟩
 rw[h1,cg,if_pos (by omega),Int.toNat_natCast,dP (hυ.trans h2),he];simp
theorem CC (h:MA σ mid T fuel s k) (b:Bnd fuel s k) (hi:jk s) {t:AT} (htl:t.aH.length≤1000000) {e:En} (hr:pR mid fuel T σ k vV K kp (inst s t e)):Ev PR 85 [.ptr mid 0 0,.ref t.av,dt e] σ K kp:=by
 apply Fe;unfold F85
 simp[Nat.add_assoc]
 generalize hτ:(σ.new (.cells 2 [bH e])).new (.cells 4 [zV4])=τ
 have hg:aq σ τ:=by rw[←hτ];exact(aq.new _ _).trans (aq.new _ _)
 have hn:τ.next=σ.next+2:=by rw[←hτ];rfl
 have g0:τ.get σ.next=some (.cells 2 [bH e]):=by rw[←hτ];simp[an]
 have g1:τ.get (σ.next+1)=some (.cells 4 [zV4]):=by rw[←hτ];simp[an]
 have h1:=h.aP hg
 have ko:ba T σ T τ:=ba.aP hg
 have z:∀i,σ.next≤i→T i=0:=fun i hi=>h.zero hi
 simp[g0,List.take_of_length_le (Nat.le_of_eq (jy e))]
 unfold inst at hr
 refine vG (fun hf=> ?_) (fun n l hf=> ?_)
 ·rw[hf]at hr
  simp only at hr
  simp
  exact cy (fun h=>by simp at h) (fun _=>hr _ T k h1 ko)
 ·rw[hf]at hr
  simp only at hr
  simp[bO]
  refine cy (fun h2=> ?_) (fun h2=> ?_)
  rotate_left
  ·rw[if_neg (by simp[h2])]at hr
   exact hr _ T k h1 ko
  rw[if_pos h2]at hr
  obtain⟨sid,cv,fv,vv,hx⟩:=id h1
  have hm:mid<τ.next:=hx.lt mid (by rw[hx.tm];omega)
  obtain⟨J,hJ⟩:∃J:aA→ah→Prop,∀fr υ,J fr υ↔∃(id:Nat) (f:Co) (c:Cl),fr= [(0,.ptr mid 0 0),(1,.ref t.av),(5,.ptr σ.next 0 0),(6,.ptr (σ.next+1) 0 0),(8,.ptr id 0 0)]∧aq τ υ∧τ.next≤id∧id<υ.next∧υ.get id=some (.cells 5 [f.av])∧take s n.v 3= .ok c s∧s.aC[c.code.toNat]?=some f:=⟨_,fun _ _=>Iff.rfl⟩
  refine bw J ?_ ?_
  ·simp[hx.obj]
   refine⟨?_,?_⟩
   ·refine nH h1 (v:=n.v) ?_
    cases ht:take s n.v 3 with
    | over s' o=>
     rw[ht]at hr
     intro τ1 h4
     have hs':s'=s:=by have:=bR (s:=s) (v:=n.v) (k:=3) (p:=fun x=>x=s) rfl;rw[ht]at this;exact this
     subst hs'
     exact hr τ1 T k (h1.aP h4) (ko.trans (ba.aP h4))
    | ok c s'=>
     obtain⟨rfl,_⟩:=fQ ht
     intro τ1 h4
     have hx1:=hx.aP h4
     have hm1:=h4.next
     obtain⟨f,hf',hcd⟩:=hi.code ht
     obtain⟨q,els,a3,a2,a4,A⟩:=hx1.nw hf'
     rw[←hcd]at A
     have hch:c.av[9]?=some (int c.code):=rfl
     have ql:=hx1.lt q (by omega)
     have A1:=A τ1 rfl
     have A2:=A (τ1.new (.cells 5 [zCo])) (by rw[an,if_neg (by omega)])
     simp[hx1.obj,hch,A1,A2,a2,a4,an,show mid≠τ1.next by omega,show q≠τ1.next by omega,List.take_of_length_le (Nat.le_of_eq f.bT)]
     exact(hJ _ _).2 ⟨τ1.next,f,c,rfl,(h4.trans (aq.new _ _)).set (by omega) _,by omega,by simp,by simp,ht,hf'⟩
   ·have hgn:=aq.new τ (.cells 5 [zCo])
    simp[an,show mid≠τ.next by omega,hx.obj]
    refine nH (h1.aP hgn) (v:=n.v) ?_
    cases ht:take s n.v 3 with
    | over s' o=>
     rw[ht]at hr
     intro τ1 h4
     have hs':s'=s:=by have:=bR (s:=s) (v:=n.v) (k:=3) (p:=fun x=>x=s) rfl;rw[ht]at this;exact this
     subst hs'
     exact hr τ1 T k (h1.aP (hgn.trans h4)) (ko.trans (ba.aP (hgn.trans h4)))
    | ok c s'=>
     obtain⟨rfl,_⟩:=fQ ht
     intro τ1 h4
     have hx1:=hx.aP (hgn.trans h4)
     have hm1:τ.next+1≤τ1.next:=h4.next
     obtain⟨f,hf',hcd⟩:=hi.code ht
     obtain⟨q,els,a3,a2,a4,A⟩:=hx1.nw hf'
     rw[←hcd]at A
     have hch:c.av[9]?=some (int c.code):=rfl
     have A1:=A τ1 rfl
     have gz:τ1.get τ.next=some (.cells 5 [zCo]):=by rw[h4.get τ.next (Nat.lt_succ_self _)];simp
     simp[hx1.obj,hch,A1,a2,a4,gz,List.take_of_length_le (Nat.le_of_eq f.bT)]
     exact(hJ _ _).2 ⟨τ.next,f,c,rfl,(hgn.trans h4).set (Nat.le_refl _) _,Nat.le_refl _,by simp;omega,by simp,ht,hf'⟩
  ·intro fr υ hj
   obtain⟨id,f,c,rfl,q1,q2,q3,q4,q5,q6⟩:=(hJ fr υ).1 hj
   have hx1:=hx.aP q1
   rw[q5]at hr
   simp only[Re.bind,q6]at hr
   have w0:υ.get σ.next=some (.cells 2 [bH e]):=by rw[q1.get σ.next (by omega)];exact g0
   have w1:υ.get (σ.next+1)=some (.cells 4 [zV4]):=by rw[q1.get _ (by omega)];exact g1
   have fa4:f.av[4]?=some (rsV f.rs):=rfl
   simp[q4,fa4,Gy,aO]
   refine cy (fun h3=> ?_) (fun h3=> ?_)
   rotate_left
   ·rw[if_neg (by simp at h3;unfold Co.rsl;omega)]at hr
    exact hr _ T k ⟨_,_,_,_,hx1⟩ (ko.trans (ba.aP q1))
   have h3:f.rsl.length=t.aH.length:=by simp at h3;unfold Co.rsl;omega
   rw[if_pos h3]at hr
   have fa2:(f.av.drop 2).take 2=bH f.env:=rfl
   simp[q4,fa2]
   have hgo:∀υ',aq υ υ'→MA υ' mid T fuel s k∧ba T σ T υ':=fun υ' hu=>⟨⟨_,_,_,_,hx1.aP hu⟩,(ko.trans (ba.aP q1)).trans (ba.aP hu)⟩
   have hun:=q1.next
   obtain⟨J2,hJ2⟩:∃J2:aA→ah→Prop,∀fr υ',J2 fr υ'↔∃own,fr= [(0,.ptr mid 0 0),(1,.ref t.av),(5,.ptr σ.next 0 0),(6,.ptr (σ.next+1) 0 0),(8,.ptr id 0 0),(9,.ptr υ.next 0 0)]∧aq υ υ'∧υ'.get υ.next=some (.cells 2 [bH own])∧υ.next<υ'.next∧opens e f.env t.aH f.rsl=some own:=⟨_,fun _ _=>Iff.rfl⟩
   refine bw J2 ?_ ?_
   ·refine aX (fun p:Nat×En=>[(0,.ptr mid 0 0),(1,.ref t.av),(5,.ptr σ.next 0 0),(6,.ptr (σ.next+1) 0 0),(8,.ptr id 0 0),(9,.ptr υ.next 0 0),(58,.sl false 1 (t.aH.map fun r=>[At.int r])),(59,int t.aH.length),(60,int p.1)])
     (fun p υ'=>aq υ υ'∧υ'.get υ.next=some (.cells 2 [bH p.2])∧υ.next<υ'.next∧p.1≤t.aH.length∧opens e p.2 (t.aH.drop p.1) (f.rsl.drop p.1)=opens e f.env t.aH f.rsl)
     (fun fr _=>t.aH.length - (intOf (aa fr 60)).toNat) (0,f.env) (by simp) ⟨(aq.new _ _).set (Nat.le_refl _) _,by simp,by simp,by simp,rfl⟩ ?_
    rintro⟨i,own⟩ υ' ⟨hu,hu1,hu2,hil,ho⟩
    simp only at hu1 hil ho
    by_cases hlt:i<t.aH.length
    ·obtain⟨r,hr'⟩:∃r,t.aH[i]?=some r:=⟨_,List.getElem?_eq_getElem hlt⟩
     obtain⟨q,hq'⟩:∃q,f.rsl[i]?=some q:=⟨_,List.getElem?_eq_getElem (by omega)⟩
     have hd1:t.aH.drop i=r::t.aH.drop (i+1):=by rw[List.drop_eq_getElem_cons hlt];congr 1;exact Option.some.inj ((List.getElem?_eq_getElem hlt).symm.trans hr')
     have hd2:f.rsl.drop i=q::f.rsl.drop (i+1):=by
      have hl2:i<f.rsl.length:=by omega
      rw[List.drop_eq_getElem_cons hl2];congr 1;exact Option.some.inj ((List.getElem?_eq_getElem hl2).symm.trans hq')
     rw[hd1,hd2]at ho
     simp only[opens]at ho
     have u0:υ'.get σ.next=some (.cells 2 [bH e]):=by rw[hu.get _ (by omega)];exact w0
     have u8':υ'.get id=some (.cells 5 [f.av]):=by rw[hu.get _ (by omega)];exact q4
     have hre:t.aH[i]'hlt=r:=Option.some.inj ((List.getElem?_eq_getElem hlt).symm.trans hr')
     simp[hlt,aD,hre,u0,List.take_of_length_le (Nat.le_of_eq (jy e))]
     refine qk ?_
     simp
     refine cy (fun h4=> ?_) (fun h4=> ?_)
     rotate_left
     ·rw[if_neg (by simp[h4])]at ho
      rw[←ho]at hr
      exact hr _ T k (hgo _ hu).1 (hgo _ hu).2
     rw[if_pos h4]at ho
     simp[hu1,u8',fa4,rs_at (rs:=f.rs) (i:=i) hq',List.take_of_length_le (Nat.le_of_eq (jy own))]
     refine vT ?_
     simp[hu1,List.drop_of_length_le (Nat.le_of_eq (jy own))]
     rw[wrap64 (by omega)]
     exact⟨⟨i+1,by simp,hu.set (Nat.le_refl _) _,own.opn q (e.region r).1,rfl,hu2,by omega,ho⟩,by omega⟩
    ·have:i=t.aH.length:=by omega
     subst this
     simp at ho
     simp
     exact(hJ2 _ _).2 ⟨own,rfl,hu,hu1,hu2,by rw[←ho];rfl⟩
   ·intro fr υ' hj2
    obtain⟨own,rfl,p1,p2,p3,p4⟩:=(hJ2 fr υ').1 hj2
    rw[p4]at hr
    simp only[code]at hr
    have u0:υ'.get σ.next=some (.cells 2 [bH e]):=by rw[p1.get _ (by omega)];exact w0
    have u1:υ'.get (σ.next+1)=some (.cells 4 [zV4]):=by rw[p1.get _ (by omega)];exact w1
    have u8':υ'.get id=some (.cells 5 [f.av]):=by rw[p1.get _ (by omega)];exact q4
    have fa0:f.av.head?=some (.ref f.body.av):=rfl
    have fa1:f.av[1]?=some (str f.arg):=rfl
    simp[u0,u8',fa0,fa1,p2]
    refine jv (hgo _ p1).1 b (c:=⟨f.body,f.arg,own,none⟩) fun τ2 T2 hm2 hk2=> ?_
    have y0:=hk2.get σ.next (by have:=p1.next;omega) (z _ (by omega))
    have y1:=hk2.get (σ.next+1) (by have:=p1.next;omega) (z _ (by omega))
    simp[y0.2,y1.2,u0,u1,List.take_of_length_le (Nat.le_of_eq (jy e))]
    refine iL hm2 b.Ok ?_
    have kk:=(hgo _ p1).2.trans hk2
    cases hmk:make (cM s ⟨f.body,f.arg,own,none⟩).2 e t.rho (cM s ⟨f.body,f.arg,own,none⟩).1 with
    | over s' o=>
     rw[hmk]at hr
     intro τ3 T3 k' hm3 hk3
     exact hr τ3 T3 k' hm3 (kk.trans hk3)
    | ok v s'=>
     rw[hmk]at hr
     intro τ3 T3 hm3 hk3
     have x1:=hk3.get (σ.next+1) (by have:=p1.next;have:=hk2.next;omega) y1.1
     simp[x1.2,y1.2,u1,List.take_of_length_le (Nat.le_of_eq v.bT)]
     have l:Loc σ.next T3 τ3 (τ3.set (σ.next+1) (.cells 4 [v.av])):=Loc.set (.refl _ _ _) (.inr ⟨by omega,x1.1⟩)
     exact hr _ T3 (hm3.loc l) ((kk.trans hk3).loc l)
end Go.Abs.Mac
set_option linter.unusedVariables false
set_option linter.unusedSimpArgs false
set_option linter.deprecated false
namespace Go.Abs.Mac
open Go Go.Abs Go.Abs.Stk Go.Abs.At Go.Proofs.MacD
variable {σ τ:ah} {mid sid fuel:Nat} {cv fv:AV} {vv:List AV} {T:Nat→Nat} {s:Sa} {k:List Fr} {K kp:AV→ah→Prop}
abbrev zNx:List AV:=[.val (.pointer none),.val (.pointer none),.val (.pointer none),.val (.int .u8 0),.val (.int .i64 0),.val (.int .i64 0),.val (.int .i64 0),.val (.bool false),.val (.string ByteArray.empty)]
theorem lR {q n:Nat} {els:List (List AV)} {υ:ah} (h:υ.get q=some (.cells 4 els)) {i:Nat} {v:V} (he:els[i]?=some v.av) (hn:i<n):ak 4 (.own q n) (.val (.int .i64 i)) υ=some (.ptr q i 0):=by
 rw[cg,if_pos (by omega),Int.toNat_natCast,dP h,he];simp
@[simp] theorem Nx.Cf (t:AT) (e:En):Nx.av (.node t e)= .agg [.ref t.av,bO e.names,fD e.aH,u8 0,int 0,int 0,int 0,bool false,str ByteArray.empty]:=rfl
@[simp] theorem Nx.av_val (v:V):Nx.av (.val v)= .agg [fq,fq,fq,u8 v.kind,int v.n,int v.r,int v.a,bool false,str ByteArray.empty]:=rfl
@[simp] theorem Nx.FR (n:Int) (x:ByteArray):Nx.av (.exn n x)= .agg [fq,fq,fq,u8 1,int n,int 0,int 0,bool true,str x]:=rfl
theorem C6 {f:Fr} {v:AV} (h:MA σ mid T fuel s k) (b:Bnd fuel s k) (hi:jk s) (hkd:3≤f.t.h.kind∧f.t.h.kind≤10∨f.t.h.kind=15) (hl:f.vals.length=nk f.t.h.kind) (hv:jd σ T 0 4 v (f.vals.map V.av)) (hvq:∀q n,v= .own q n→q<σ.next)
 (hr:pR mid fuel T σ k Nx.av K kp (eJ s f.t f.e f.vals)):Ev PR 94 [.ptr mid 0 0,.agg (frC f v)] σ K kp:=by
 obtain⟨t,e,vals⟩:=f
 simp only at hkd hl hv hr
 have h0:0<vals.length:=by rw[hl];exact aJ (by omega)
 obtain⟨q,rest,hvo,hq0,hq1⟩:∃q rest,v= .own q vals.length∧σ.get q=some (.cells 4 (vals.map V.av++rest))∧T q=0:=by
  rcases hv with ⟨_,h2⟩ | ⟨q,rest,h1,h2,h3⟩
  ·have:=congrArg List.length h2;simp at this;rw[this]at h0;simp at h0
  ·exact⟨q,rest,by rw[h1];simp,h2,h3⟩
 have hql:=hvq q _ hvo
 subst hvo
 obtain⟨a,ha⟩:∃a,vals[0]?=some a:=⟨_,List.getElem?_eq_getElem h0⟩
 have a0:at0 vals 0=a:=by unfold at0;rw[ha];rfl
 apply Fo;unfold F94
 simp[Nat.add_assoc,frC]
 generalize hτ:(σ.new (.cells 4 [[.ref t.av,bO e.names,fD e.aH,.own q vals.length]])).new (.cells 9 [zNx])=τ
 have hg:aq σ τ:=by rw[←hτ];exact(aq.new _ _).trans (aq.new _ _)
 have hn:τ.next=σ.next+2:=by rw[←hτ];rfl
 have g0:τ.get σ.next=some (.cells 4 [[.ref t.av,bO e.names,fD e.aH,.own q vals.length]]):=by rw[←hτ];simp[an]
 have g1:τ.get (σ.next+1)=some (.cells 9 [zNx]):=by rw[←hτ];simp[an]
 have h1:=h.aP hg
 have ko:ba T σ T τ:=ba.aP hg
 have z:∀i,σ.next≤i→T i=0:=fun i hi=>h.zero hi
 simp[g0]
 unfold eJ at hr
 rw[a0]at hr
 have hqt:τ.get q=some (.cells 4 (vals.map V.av++rest)):=by rw[hg.get q hql];exact hq0
 have e0:(vals.map V.av++rest)[0]?=some a.av:=by rw[List.getElem?_append_left (by simpa using h0)];simp[ha]
 have A0:∀υ:ah,υ.get q=τ.get q→ak 4 (.own q vals.length) (.val (.int .i64 0)) υ=some (.ptr q 0 0):=fun υ hυ=>lR (i:=0) (hυ.trans hqt) e0 h0
 have A0t:=A0 τ rfl
 have hk4:∀v:V,List.take 4 v.av=v.av:=fun v=>List.take_of_length_le (Nat.le_of_eq v.bT)
 have kq:∀T3 τ3,ba T τ T3 τ3→T3 q=0∧τ3.get q=τ.get q:=fun T3 τ3 kk=>kk.get q (by omega) hq1
 have kr:∀T3 τ3,ba T τ T3 τ3→T3 (σ.next+1)=0∧τ3.get (σ.next+1)=some (.cells 9 [zNx]):=fun T3 τ3 kk=>by
  have:=kk.get (σ.next+1) (by omega) (z _ (by omega));rw[g1]at this;exact this
 have fin:∀(x:Nx) (s':Sa) (τ3:ah) (T3:Nat→Nat) (cs:List AV),pR mid fuel T σ k Nx.av K kp (.ok x s')→MA τ3 mid T3 fuel s' k→ba T τ T3 τ3→K x.av (τ3.set (σ.next+1) (.cells 9 [cs])):=by
  intro x s' τ3 T3 cs hr hm kk
  have l:Loc σ.next T3 τ3 (τ3.set (σ.next+1) (.cells 9 [cs])):=Loc.set (.refl _ _ _) (.inr ⟨by omega,(kr T3 τ3 kk).1⟩)
  exact hr _ T3 (hm.loc l) ((ko.trans kk).loc l)
 have tk:∀ {kd:Int} {Q:AV→ah→Prop} {τ2:ah} {g:Cl→Sa→Re Nx},pR mid fuel T σ k Nx.av K kp ((take s a kd).bind g)→(∀c,take s a kd= .ok c s→pR mid fuel T σ k Nx.av K kp (g c s)→∀τ1,aq τ τ1→Q (.agg c.av) τ1)→Ev PR 123 [.ptr mid 0 0,.agg a.av,u8 kd] τ Q kp:=by
  intro kd Q τ2 g hr2 hq
  refine nH h1 (v:=a) ?_
  cases ht:take s a kd with
  | over s' o=>
   rw[ht]at hr2
   have hs':s'=s:=by have:=bR (s:=s) (v:=a) (k:=kd) (p:=fun x=>x=s) rfl;rw[ht]at this;exact this
   rw[hs']at hr2
   intro τ1 h4
   exact hr2 τ1 T k (h1.aP h4) (ko.trans (ba.aP h4))
  | ok c s'=>
   have hs':=(fQ ht).1
   rw[ht]at hr2
   rw[hs']at hr2 ht
   exact fun τ1 h4=>hq c ht hr2 τ1 h4
 by_cases k3:t.h.kind=3
 ·obtain⟨b',hb'⟩:∃b,vals[1]?=some b:=⟨_,List.getElem?_eq_getElem (by rw[hl,k3];simp[nk])⟩
  have b0:at0 vals 1=b':=by unfold at0;rw[hb'];rfl
  have h2:=(List.getElem?_eq_some_iff.1 hb').1
  have e1:(vals.map V.av++rest)[1]?=some b'.av:=by rw[List.getElem?_append_left (by simpa using h2)];simp[hb']
  have A1t:ak 4 (.own q vals.length) (.val (.int .i64 1)) τ=some (.ptr q 1 0):=lR (i:=1) hqt e1 h2
  rw[if_pos k3,b0]at hr
  simp[k3,A0t,A1t,hqt,e0,e1,hk4]
  refine iL h1 b.Ok (c:=⟨1,a,b',0⟩) ?_
  cases hm:make s e t.rho ⟨1,a,b',0⟩ with
  | over s' o=>
   rw[hm]at hr
   intro τ3 T3 k' hm3 hk3
   exact hr τ3 T3 k' hm3 (ko.trans hk3)
  | ok w s'=>
   rw[hm]at hr
   intro τ3 T3 hm3 hk3
   refine dB ?_
   simp[(kr _ _ hk3).2]
   exact fin (.val w) s' τ3 T3 _ hr hm3 hk3
 rw[if_neg k3]at hr
 have vf:∀w:V,AV.agg [u8 w.kind,int w.n,int w.r,int w.a]=vV w:=fun _=>rfl
 by_cases k4:t.h.kind=4
 ·rw[if_pos k4]at hr
  simp[k4,A0t,hqt,e0,hk4]
  refine tk (τ2:=τ) hr fun c ht hr2 τ1 h4=> ?_
  have:(c.av.drop 1).take 4=c.a.av:=rfl
  simp[this]
  refine dB ?_
  have kk:=ba.aP (T:=T) h4
  simp[(kr _ _ kk).2]
  exact fin (.val c.a) s τ1 T _ hr2 (h1.aP h4) kk
 rw[if_neg k4]at hr
 by_cases k5:t.h.kind=5
 ·rw[if_pos k5]at hr
  simp[k5,A0t,hqt,e0,hk4]
  refine tk (τ2:=τ) hr fun c ht hr2 τ1 h4=> ?_
  have:(c.av.drop 5).take 4=c.b.av:=rfl
  simp[this]
  refine dB ?_
  have kk:=ba.aP (T:=T) h4
  simp[(kr _ _ kk).2]
  exact fin (.val c.b) s τ1 T _ hr2 (h1.aP h4) kk
 rw[if_neg k5]at hr
 by_cases k6:t.h.kind=6
 ·rw[if_pos k6]at hr
  simp[k6,A0t,hqt,e0,hk4]
  refine iL h1 b.Ok (c:=⟨2,a,V.zero,0⟩) ?_
  cases hm:make s e t.rho ⟨2,a,V.zero,0⟩ with
  | over s' o=>
   rw[hm]at hr
   intro τ3 T3 k' hm3 hk3
   exact hr τ3 T3 k' hm3 (ko.trans hk3)
  | ok w s'=>
   rw[hm]at hr
   intro τ3 T3 hm3 hk3
   refine dB ?_
   simp[(kr _ _ hk3).2]
   exact fin (.val w) s' τ3 T3 _ hr hm3 hk3
 rw[if_neg k6]at hr
 by_cases k7:t.h.kind=7
 ·rw[if_pos k7]at hr
  simp[k7,A0t,hqt,e0,hk4]
  refine tk (τ2:=τ) hr fun c ht hr2 τ1 h4=> ?_
  have:(c.av.drop 1).take 4=c.a.av:=rfl
  simp[this]
  refine dB ?_
  have kk:=ba.aP (T:=T) h4
  simp[(kr _ _ kk).2]
  exact fin (.val c.a) s τ1 T _ hr2 (h1.aP h4) kk
 rw[if_neg k7]at hr
 by_cases k8:t.h.kind=8
 ·obtain⟨b',hb'⟩:∃b,vals[1]?=some b:=⟨_,List.getElem?_eq_getElem (by rw[hl,k8];simp[nk])⟩
  have b0:at0 vals 1=b':=by unfold at0;rw[hb'];rfl
  have h2:=(List.getElem?_eq_some_iff.1 hb').1
  have e1:(vals.map V.av++rest)[1]?=some b'.av:=by rw[List.getElem?_append_left (by simpa using h2)];simp[hb']
  rw[if_pos k8,b0]at hr
  simp[k8,A0t,hqt,e0,hk4]
  refine tk (τ2:=τ) hr fun c ht hr2 τ1 h4=> ?_
  obtain⟨sid,cv,fv,vv,hx⟩:=h1.aP h4
  have hqu:τ1.get q=some (.cells 4 (vals.map V.av++rest)):=by rw[h4.get q (by omega)];exact hqt
  have A1u:ak 4 (.own q vals.length) (.val (.int .i64 1)) τ1=some (.ptr q 1 0):=lR (i:=1) hqu e1 h2
  simp[hx.obj,A0 τ1 (h4.get q (by omega)),A1u,hqu,e0,e1,hk4]
  refine set_m hx (v:=a) (c:=⟨2,b',V.zero,0⟩) (fQ ht).2.2.2 fun x τ3 T3 hx3 hk3=> ?_
  refine rr (dB ?_)
  have kk:=(ba.aP (T:=T) h4).trans hk3
  simp[(kr _ _ kk).2]
  exact fin (.val (num 0)) _ τ3 T3 _ hr2 ⟨_,_,_,_,hx3⟩ kk
 rw[if_neg k8]at hr
 by_cases k9:t.h.kind=9
 ·obtain⟨b',hb'⟩:∃b,vals[1]?=some b:=⟨_,List.getElem?_eq_getElem (by rw[hl,k9];simp[nk])⟩
  have b0:at0 vals 1=b':=by unfold at0;rw[hb'];rfl
  have h2:=(List.getElem?_eq_some_iff.1 hb').1
  have e1:(vals.map V.av++rest)[1]?=some b'.av:=by rw[List.getElem?_append_left (by simpa using h2)];simp[hb']
  rw[if_pos k9,b0]at hr
  have A1:∀υ:ah,υ.get q=τ.get q→ak 4 (.own q vals.length) (.val (.int .i64 1)) υ=some (.ptr q 1 0):=fun υ hυ=>lR (i:=1) (hυ.trans hqt) e1 h2
  simp[k9,A0t,A1 τ rfl,hqt,e0,e1,hk4]
  refine jU (fun h3 τ1 h4=> ?_) (fun h3 τ1 h4=> ?_)
  rotate_left
  ·have:number s a= .over s 6:=by simp[number,h3]
   rw[this]at hr
   exact hr τ1 T k (h1.aP h4) (ko.trans (ba.aP h4))
  have e3:number s a= .ok a.n s:=by simp[number,h3]
  rw[e3]at hr
  simp only[Re.bind]at hr
  simp[A1 τ1 (h4.get q (by omega)),h4.get q (by omega),hqt,e1,hk4]
  refine jU (fun h5 τ2 h6=> ?_) (fun h5 τ2 h6=> ?_)
  rotate_left
  ·have:number s b'= .over s 6:=by simp[number,h5]
   rw[this]at hr
   exact hr τ2 T k (h1.aP (h4.trans h6)) (ko.trans (ba.aP (h4.trans h6)))
  have e4:number s b'= .ok b'.n s:=by simp[number,h5]
  rw[e4]at hr
  refine op_ev (rr (dB ?_))
  have kk:=ba.aP (T:=T) (h4.trans h6)
  simp[(kr _ _ kk).2]
  exact fin (.val (num _)) s τ2 T _ hr (h1.aP (h4.trans h6)) kk
 rw[if_neg k9]at hr
 by_cases k15:t.h.kind=15
 ·rw[if_pos k15]at hr
  simp[k15,A0t,hqt,e0,hk4]
  refine jU (fun h3 τ1 h4=> ?_) (fun h3 τ1 h4=> ?_)
  rotate_left
  ·have:number s a= .over s 6:=by simp[number,h3]
   rw[this]at hr
   exact hr τ1 T k (h1.aP h4) (ko.trans (ba.aP h4))
  have e3:number s a= .ok a.n s:=by simp[number,h3]
  rw[e3]at hr
  refine rr ?_
  have kk:=ba.aP (T:=T) h4
  simp[num,V.av,(kr _ _ kk).2]
  exact fin (.exn _ _) s τ1 T _ hr (h1.aP h4) kk
 rw[if_neg k15]at hr
 have k10:t.h.kind=10:=by omega
 obtain⟨b',hb'⟩:∃b,vals[1]?=some b:=⟨_,List.getElem?_eq_getElem (by rw[hl,k10];simp[nk])⟩
 have b0:at0 vals 1=b':=by unfold at0;rw[hb'];rfl
 have h2:=(List.getElem?_eq_some_iff.1 hb').1
 have e1:(vals.map V.av++rest)[1]?=some b'.av:=by rw[List.getElem?_append_left (by simpa using h2)];simp[hb']
 have A1:∀υ:ah,υ.get q=τ.get q→ak 4 (.own q vals.length) (.val (.int .i64 1)) υ=some (.ptr q 1 0):=fun υ hυ=>lR (i:=1) (hυ.trans hqt) e1 h2
 rw[b0]at hr
 simp[k10]
 obtain⟨sid,cv,fv,vv,hx⟩:=id h1
 have hm:mid<τ.next:=hx.lt mid (by rw[hx.tm];omega)
 obtain⟨J,hJ⟩:∃J:aA→ah→Prop,∀fr υ,J fr υ↔∃(id:Nat) (f:Co) (c:Cl),fr= [(4,.ptr (σ.next+1) 0 0),(6,.own q vals.length),(7,.ptr id 0 0)]∧aq τ υ∧τ.next≤id∧id<υ.next∧υ.get id=some (.cells 5 [f.av])∧take s a 3= .ok c s∧s.aC[c.code.toNat]?=some f:=⟨_,fun _ _=>Iff.rfl⟩
 refine bw J ?_ ?_
 ·simp[hx.obj,A0t,hqt,e0,hk4]
  refine⟨?_,?_⟩
  ·refine tk (τ2:=τ) hr fun c ht _ τ1 h4=> ?_
   have hx1:=hx.aP h4
   have hm1:=h4.next
   obtain⟨f,hf',hcd⟩:=hi.code ht
   obtain⟨q',els,a3,a2,a4,A⟩:=hx1.nw hf'
   rw[←hcd]at A
   have hch:c.av[9]?=some (int c.code):=rfl
   have ql:=hx1.lt q' (by omega)
   have B1:=A τ1 rfl
   have B2:=A (τ1.new (.cells 5 [zCo])) (by rw[an,if_neg (by omega)])
   have C1:(τ1.new (.cells 5 [zCo])).get q=τ.get q:=by rw[an,if_neg (by omega)];exact h4.get q (by omega)
   have C2:=A0 _ C1
   have C3:τ1.get q=some (.cells 4 (vals.map V.av++rest)):=by rw[h4.get q (by omega)];exact hqt
   simp[hx1.obj,hch,B1,B2,C2,C3,a2,a4,e0,hk4,an,show mid≠τ1.next by omega,show q'≠τ1.next by omega,show q≠τ1.next by omega,List.take_of_length_le (Nat.le_of_eq f.bT)]
   exact(hJ _ _).2 ⟨τ1.next,f,c,rfl,(h4.trans (aq.new _ _)).set (by omega) _,by omega,by simp,by simp,ht,hf'⟩
  ·have hgn:=aq.new τ (.cells 5 [zCo])
   have C1:(τ.new (.cells 5 [zCo])).get q=τ.get q:=by rw[an,if_neg (by omega)]
   simp[an,show mid≠τ.next by omega,hx.obj,A0 _ C1,hqt,show q≠τ.next by omega,e0,hk4]
   refine nH (h1.aP hgn) (v:=a) ?_
   cases ht:take s a 3 with
   | over s' o=>
    rw[ht]at hr
    intro τ1 h4
    have hs':s'=s:=by have:=bR (s:=s) (v:=a) (k:=3) (p:=fun x=>x=s) rfl;rw[ht]at this;exact this
    rw[hs']at hr
    exact hr τ1 T k (h1.aP (hgn.trans h4)) (ko.trans (ba.aP (hgn.trans h4)))
   | ok c s'=>
    have hs':=(fQ ht).1
    rw[hs']at ht
    intro τ1 h4
    have hx1:=hx.aP (hgn.trans h4)
    have hm1:τ.next+1≤τ1.next:=h4.next
    obtain⟨f,hf',hcd⟩:=hi.code ht
    obtain⟨q',els,a3,a2,a4,A⟩:=hx1.nw hf'
    rw[←hcd]at A
    have hch:c.av[9]?=some (int c.code):=rfl
    have B1:=A τ1 rfl
    have gz:τ1.get τ.next=some (.cells 5 [zCo]):=by rw[h4.get τ.next (Nat.lt_succ_self _)];simp
    simp[hx1.obj,hch,B1,a2,a4,gz,List.take_of_length_le (Nat.le_of_eq f.bT)]
    exact(hJ _ _).2 ⟨τ.next,f,c,rfl,(hgn.trans h4).set (Nat.le_refl _) _,Nat.le_refl _,by simp;omega,by simp,ht,hf'⟩
 ·intro fr υ hj
  obtain⟨id,f,c,rfl,q1,q2,q3,q4,q5,q6⟩:=(hJ fr υ).1 hj
  rw[q5]at hr
  simp only[Re.bind,q6]at hr
  have hun:=q1.next
  have fa0:f.av.head?=some (.ref f.body.av):=rfl
  have fa1:f.av[1]?=some (str f.arg):=rfl
  have fa2:(f.av.drop 2).take 2=bH f.env:=rfl
  have C3:υ.get q=some (.cells 4 (vals.map V.av++rest)):=by rw[q1.get q (by omega)];exact hqt
  simp[q4,fa0,fa1,fa2,A1 υ (q1.get q (by omega)),C3,e1,hk4]
  refine nJ ?_
  have kk:=ba.aP (T:=T) q1
  simp[q4,fa0,(kr _ _ kk).2,bH]
  exact fin (.node f.body (f.env.with f.arg b' false)) s υ T _ hr (h1.aP q1) kk
end Go.Abs.Mac
