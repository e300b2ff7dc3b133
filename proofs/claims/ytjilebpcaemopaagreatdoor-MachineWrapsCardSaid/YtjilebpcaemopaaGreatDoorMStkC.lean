import Derived.Test.YtjilebpcaemopaaGreatDoorMacDec
import Derived.Test.YtjilebpcaemopaaGreatDoorStackM
set_option linter.unusedVariables false
set_option linter.unusedSimpArgs false
set_option linter.deprecated false
namespace Go.Abs.Stk
open Go Go.Abs Go.Proofs.MacD
noncomputable abbrev PR:=Go.Proofs.Tryz.prog
abbrev int (n:Int):AV:=.val (.int .i64 n)
abbrev key (r:Int):MK:=.i .i64 r
abbrev bf:AV:=.val (.slice none 0 0)
def ints (l:List Nat):List (List AV):=l.map fun i:Nat=>[int (i:Int)]
def nN (σ:ah) (v:AV) (c:Row):Prop:=
 (∀el∈c,el.length=10)∧((v=bf∧c= [])∨∃q rest,v= .own q c.length∧σ.get q=some (.cells 10 (c++rest)))
theorem nN.mono {σ τ:ah} {v c} (h:nN σ v c) (hg:∀q n,v= .own q n→τ.get q=σ.get q):nN τ v c:=by
 refine⟨h.1,?_⟩
 rcases h.2 with h | ⟨q,rest,rfl,h'⟩
 ·exact .inl h
 ·exact .inr ⟨q,rest,rfl,by rw[hg _ _ rfl];exact h'⟩
theorem dK {v:AV} {σ:ah} {j:Nat} (h:∀n,v≠ .own j n):(gone v σ).get j=σ.get j:=by
 unfold gone
 split
 ·rename_i q n
  exact ah.gQ fun e=>h n (by rw[e])
 ·rfl
theorem nN.rows {σ v c} (h:nN σ v c):Rows σ 10 v c:=by
 rcases h with ⟨_,h | h⟩
 ·exact .inl h
 ·exact .inr (.inr h)
structure At (σ:ah) (id mid lid:Nat) (es:List (MK×AV)) (s:S):Prop where
 obj:σ.get id=some (.cells 7 [[int s.R,int s.C,.mp mid,.own lid s.live.length,int s.L.length,int s.cells,int s.most]])
 map:σ.get mid=some (.map es)
 keys:b9 (.int .i64) es=true
 uniq:nO es
 lv:∃rest,σ.get lid=some (.cells 1 (ints s.live++rest))
 none:∀r,s.row r=none→cZ es (key r)=none
 some:∀r c,s.row r=some c→∃v,cZ es (key r)=some v∧nN σ v c
 ids:id≠mid∧id≠lid∧mid≠lid
 lt:id<σ.next∧mid<σ.next∧lid<σ.next
 apart:∀r q n,cZ es (key r)=Option.some (.own q n)→q≠id∧q≠mid∧q≠lid∧q<σ.next
 inj:∀r r' q n n',cZ es (key r)=Option.some (.own q n)→cZ es (key r')=Option.some (.own q n')→r=r'
def Foot (id mid lid:Nat) (es:List (MK×AV)) (i:Nat):Prop:=i=id∨i=mid∨i=lid∨∃r n,cZ es (key r)=some (.own i n)
def In (σ:ah) (id:Nat) (s:S) (F:Nat→Prop):Prop:=∃mid lid es,At σ id mid lid es s∧∀i,Foot id mid lid es i→F i
structure Off (F:Nat→Prop) (σ τ:ah):Prop where
 next:σ.next≤τ.next
 get:∀i,¬F i→i<σ.next→τ.get i=σ.get i
def wB (F:Nat→Prop) (n:Nat) (i:Nat):Prop:=F i∨n≤i
theorem At.aP {σ τ id mid lid es s} (h:At σ id mid lid es s) (g:aq σ τ):At τ id mid lid es s where
 obj:=by rw[g.get _ h.lt.1];exact h.obj
 map:=by rw[g.get _ h.lt.2.1];exact h.map
 keys:=h.keys
 uniq:=h.uniq
 lv:=let ⟨rest,e⟩:=h.lv;⟨rest,by rw[g.get _ h.lt.2.2];exact e⟩
 none:=h.none
 some:=fun r c hr=>by
  obtain⟨v,h1,h2,h3⟩:=h.some r c hr
  refine⟨v,h1,h2,?_⟩
  rcases h3 with h3 | ⟨q,rest,rfl,h4⟩
  ·exact .inl h3
  ·exact .inr ⟨q,rest,rfl,by rw[g.get _ (h.apart _ _ _ h1).2.2.2];exact h4⟩
 ids:=h.ids
 lt:=⟨Nat.lt_of_lt_of_le h.lt.1 g.next,Nat.lt_of_lt_of_le h.lt.2.1 g.next,Nat.lt_of_lt_of_le h.lt.2.2 g.next⟩
 apart:=fun r q n e=>let ⟨a,b,c,d⟩:=h.apart r q n e;⟨a,b,c,Nat.lt_of_lt_of_le d g.next⟩
 inj:=h.inj
theorem In.aP {σ τ id s F} (h:In σ id s F) (g:aq σ τ):In τ id s F:=
 let ⟨mid,lid,es,h1,h2⟩:=h;⟨mid,lid,es,h1.aP g,h2⟩
theorem Off.refl (F σ):Off F σ σ:=⟨Nat.le_refl _,fun _ _ _=>rfl⟩
variable {σ:ah} {id:Nat} {s:S} {F:Nat→Prop} {k kp:AV→ah→Prop}
theorem kE (h:In σ id s F) (hk:k (int s.live.length) σ):Ev PR 27 [.ptr id 0 0] σ k kp:=by
 obtain⟨mid,lid,es,h,_⟩:=h
 apply Ew;unfold F27
 simp[h.obj,hk]
theorem yu (h:In σ id s F) (hk:k (int s.cells) σ):Ev PR 28 [.ptr id 0 0] σ k kp:=by
 obtain⟨mid,lid,es,h,_⟩:=h
 apply Ex;unfold F28
 simp[h.obj,hk]
theorem CP (h:In σ id s F) (hk:k (int s.most) σ):Ev PR 29 [.ptr id 0 0] σ k kp:=by
 obtain⟨mid,lid,es,h,_⟩:=h
 apply Ey;unfold F29
 simp[h.obj,hk]
abbrev intsZ (l:List Int):List (List AV):=l.map fun i=>[int i]
theorem rf (h:In σ id s F) {x:AV} {l:List Int} (hr:Rows σ 1 x (intsZ l)) (hl:l.length<4611686018427387904) (hk:k (.val (.bool (l.all fun r=>(s.row r).isSome))) σ):Ev PR 125 [.ptr id 0 0,x] σ k kp:=by
 obtain⟨mid,lid,es,h,_⟩:=h
 apply AH;unfold F125
 refine aM ?_
 simp[hr.len]
 refine aX (fun i:Nat=>[(0,AV.ptr id 0 0),(9,x),(10,int l.length),(11,int i)]) (fun i τ=>τ=σ∧i≤l.length∧∀r∈l.take i,(s.row r).isSome=true) (fun fr _=>l.length - (intOf (aa fr 11)).toNat) 0 (by simp) ⟨rfl,by simp,by simp⟩ ?_
 rintro i τ ⟨rfl,hi,hall⟩
 simp
 by_cases hlt:i<l.length
 ·obtain⟨r,hr'⟩:∃r,l[i]?=some r:=⟨_,List.getElem?_eq_getElem hlt⟩
  obtain⟨p,hp,hpt⟩:=hr.at (i:=i) (el:=[int r]) (by simp[hr']) rfl .i64
  have htake:l.take (i+1)=l.take i++ [r]:=by rw[List.take_add_one,hr'];rfl
  simp[hlt,hp,hpt.load,h.obj]
  rw[fU (q:=key r) rfl rfl h.map h.keys]
  cases hrow:s.row r with
  | none=>
   simp[h.none r hrow]
   have:l.all (fun r=>(s.row r).isSome)=false:=by
    rw[List.all_eq_false]
    exact⟨r,List.mem_of_getElem? hr',by simp[hrow]⟩
   rwa [this]at hk
  | some c=>
   obtain⟨v,hv,_⟩:=h.some r c hrow
   simp[hv]
   rw[wrap64 (by omega)]
   refine⟨⟨i+1,by simp,by omega,?_⟩,by omega⟩
   rw[htake]
   intro r' hr''
   rcases List.mem_append.1 hr'' with h1 | h1
   ·exact hall r' h1
   ·simp at h1;subst h1;simp[hrow]
 ·have:l.all (fun r=>(s.row r).isSome)=true:=by
   rw[List.all_eq_true]
   intro r hr'
   exact hall r (by rw[List.take_of_length_le (by omega)];exact hr')
  rw[this]at hk
  simp[hlt,hk]
structure Ok (s:S):Prop where
 R:1≤s.R∧s.R≤1048576
 C:0≤s.C∧s.C≤4194304
 live:s.live.length≤s.R
 cells:s.cells≤s.C
 most:0≤s.most∧s.most≤s.C
 len:s.L.length<4611686018427387904
theorem CZ (h:In σ id s F) (ok:Ok s)
 (hk:if s.live.length<s.R then ∀σ',In σ' id s.more (wB F σ.next)→Off F σ σ'→k (.tup [int s.L.length,.val (.bool true)]) σ' else k (.tup [int 0,.val (.bool false)]) σ):Ev PR 78 [.ptr id 0 0] σ k kp:=by
 obtain⟨mid,lid,es,h,hF⟩:=h
 apply E6;unfold F78
 simp[h.obj]
 by_cases hlt:(s.live.length:Int)<s.R
 ·rw[if_pos hlt]at hk
  have:=ok.R
  have:=ok.len
  obtain⟨rest,hlv⟩:=h.lv
  have i1:=h.ids.1
  have i2:=h.ids.2.1
  have i3:=h.ids.2.2
  have l1:=h.lt.1
  have l2:=h.lt.2.1
  have l3:=h.lt.2.2
  simp[show ¬s.R≤(s.live.length:Int) by omega,h.obj]
  refine bF (bP (xs:=ints s.live) (ys:=[[int s.L.length]]) (.inr (.inr ⟨lid,rest,by simp[ints],by simp[an,au,Ne.symm i2,Nat.ne_of_lt l3,hlv]⟩)) (by simp) (.inr (.inr ⟨σ.next,[],rfl,by simp[an]⟩)) (by simp[ints];omega)) ?_
  simp[gone,an,au,bD,i1,i2,i3,Ne.symm i1,Nat.ne_of_lt l1,lt_next l1]
  refine bF (by rw[gP (q:=key s.L.length) (es:=es) rfl rfl (by simp[an,au,bD,i1,i2,i3,Ne.symm i1,Nat.ne_of_lt l2,lt_next l2,h.map]) h.keys];rfl) ?_
  have hnr:s.row s.L.length=Option.none:=by simp[SG.row,FP,rowAt]
  apply hk
  ·refine⟨mid,σ.next+1,du es (key s.L.length) bf,?_,?_⟩
   ·refine {obj:= ?_,map:= ?_,keys:=iJ h.keys rfl _,uniq:=h.uniq.du _ _,lv:=⟨[],?_⟩,none:= ?_,some:= ?_,ids:= ?_,lt:= ?_,apart:= ?_,inj:= ?_}
    ·simp[au,i1]
     rw[wrap64 (by omega)]
     exact⟨rfl,rfl,by rw[SG.ik];simp[ints],by simp[SG.more],by rw[SG.ku],rfl⟩
    ·simp[au]
    ·simp[au,an,SG.ik,ints,Ne.symm (Nat.ne_of_lt (Nat.lt_succ_of_lt l1)),Ne.symm (Nat.ne_of_lt (Nat.lt_succ_of_lt l2))]
    ·intro r hr
     rw[SG.ph]at hr
     split at hr
     ·cases hr
     ·rename_i e
      rw[cc,if_neg (by simpa using e)]
      exact h.none r hr
    ·intro r c hr
     rw[SG.ph]at hr
     rw[cc]
     split at hr
     ·rename_i e
      cases hr
      exact⟨bf,by simp[e],by simp,.inl ⟨rfl,rfl⟩⟩
     ·rename_i e
      rw[if_neg (by simpa using e)]
      obtain⟨v,h1,h2,h3⟩:=h.some r c hr
      refine⟨v,h1,h2,?_⟩
      rcases h3 with h3 | ⟨q,rest,rfl,h4⟩
      ·exact .inl h3
      ·obtain⟨a1,a2,a3,a4⟩:=h.apart _ _ _ h1
       exact .inr ⟨q,rest,rfl,by simp[au,an,bD,a1,a2,a3,Nat.ne_of_lt a4,lt_next a4,h4]⟩
    ·exact⟨i1,by omega,by omega⟩
    ·simp;omega
    ·intro r q n e
     rw[cc]at e
     split at e
     ·cases e
     ·obtain⟨a1,a2,a3,a4⟩:=h.apart _ _ _ e
      simp;omega
    ·intro r r' q n n' e e'
     rw[cc]at e e'
     split at e
     ·cases e
     ·split at e'
      ·cases e'
      ·exact h.inj _ _ _ _ _ e e'
   ·rintro i (rfl | rfl | rfl | ⟨r,n,e⟩)
    ·exact .inl (hF _ (.inl rfl))
    ·exact .inl (hF _ (.inr (.inl rfl)))
    ·exact .inr (by omega)
    ·rw[cc]at e
     split at e
     ·cases e
     ·exact .inl (hF _ (.inr (.inr (.inr ⟨r,n,e⟩))))
  ·refine⟨by simp;omega,fun i hn hi=> ?_⟩
   have n1:i≠id:=fun e=>hn (hF _ (.inl e))
   have n2:i≠mid:=fun e=>hn (hF _ (.inr (.inl e)))
   have n3:i≠lid:=fun e=>hn (hF _ (.inr (.inr (.inl e))))
   simp[au,an,bD,n1,n2,n3,Nat.ne_of_lt hi,lt_next hi]
 ·rw[if_neg hlt]at hk
  simp[show s.R≤(s.live.length:Int) by omega,hk]
theorem At.zG {σ id mid lid es s} (h:At σ id mid lid es s):Rows σ 1 (.own lid s.live.length) (ints s.live):=by
 obtain⟨rest,e⟩:=h.lv
 exact .inr (.inr ⟨lid,rest,by simp[ints],e⟩)
theorem Gl (h:In σ id s F) (ok:Ok s)
 (hk:if s.live.length<2 then k (.val (.bool false)) σ else ∀i,s.live.getLast?=some i→∀σ',In σ' id (s.less i) (wB F σ.next)→Off F σ σ'→k (.val (.bool true)) σ'):Ev PR 91 [.ptr id 0 0] σ k kp:=by
 obtain⟨mid,lid,es,h,hF⟩:=h
 apply Fk;unfold F91
 simp[h.obj]
 by_cases hlt:s.live.length<2
 ·rw[if_pos hlt]at hk
  simp[show(s.live.length:Int)<2 by omega,hk]
 ·rw[if_neg hlt]at hk
  obtain⟨i,hi⟩:∃i,s.live.getLast?=some i:=by
   cases hh:s.live.getLast? with
   | none=>rw[List.getLast?_eq_none_iff]at hh;rw[hh]at hlt;simp at hlt
   | some i=>exact⟨i,rfl⟩
  obtain⟨c,hc⟩:=SG.lq hi
  have hil:=(List.getElem?_eq_some_iff.1 hc).1
  have hrow:s.row i=some c:=yh hc
  obtain⟨v,hv,hvr⟩:=h.some _ _ hrow
  obtain⟨rest,hlv⟩:=h.lv
  have:=ok.R
  have:=ok.C
  have:=ok.cells
  have hcl:=SG.nZ hc
  have:=ok.len
  have hlive:=ok.live
  have i1:=h.ids.1
  have i2:=h.ids.2.1
  have i3:=h.ids.2.2
  have l1:=h.lt.1
  have l2:=h.lt.2.1
  have l3:=h.lt.2.2
  have hget:(ints s.live)[s.live.length - 1]?=some [int i]:=by
   rw[List.getLast?_eq_getElem?]at hi
   simp[ints,hi]
  obtain⟨p,hp,hpt⟩:=h.zG.at (k:=.i64) hget rfl
  have hw:IntKind.i64.wrap ((s.live.length:Int) - 1)=((s.live.length - 1:Nat):Int):=by rw[wrap64 (by omega)];omega
  simp only[show ¬((s.live.length:Int)<2) by omega,decide_false,sk]
  simp[hw]
  refine fJ hp ?_
  simp[hpt.load,h.obj,hw]
  have hset:(σ.set id (dm.cells 7 [[int s.R,int s.C,AV.mp mid,AV.own lid (s.live.length - 1),int s.L.length,int s.cells,int s.most]])).get mid=some (.map es):=by
   rw[au,if_neg (Ne.symm i1)];exact h.map
  refine fJ (fU (q:=key i) rfl rfl hset h.keys) ?_
  simp[hv]
  have hlen:aE .slice v (σ.set id (dm.cells 7 [[int s.R,int s.C,AV.mp mid,AV.own lid (s.live.length - 1),int s.L.length,int s.cells,int s.most]]))=some (int c.length):=by
   rcases hvr with ⟨_,⟨rfl,rfl⟩ | ⟨q,rest,rfl,_⟩⟩<;>rfl
  refine fJ hlen ?_
  simp[au]
  refine bF (by rw[pG (q:=key i) (es:=es) rfl rfl (by simp[au,Ne.symm i1,h.map]) h.keys];rfl) ?_
  refine hk i hi _ ⟨mid,lid,gp es (key i),?_,?_⟩ ?_
  ·refine {obj:= ?_,map:= ?_,keys:=q8 h.keys _,uniq:=h.uniq.gp _,lv:=⟨[int i]::rest,?_⟩,none:= ?_,some:= ?_,ids:=h.ids,lt:=h.lt,apart:= ?_,inj:= ?_}
   ·simp[au,i1]
    rw[wrap64 (by omega),SG.jR hi]
    exact⟨rfl,rfl,by simp,by simp[SG.less],by omega,rfl⟩
   ·simp[au]
   ·have hsplit:s.live=s.live.dropLast++ [i]:=by
     obtain⟨m,e⟩:=List.getLast?_eq_some_iff.1 hi
     rw[e];simp
    simp[au,i2,Ne.symm i2,Ne.symm i3,hlv]
    rw[SG.jR hi]
    conv=>lhs;rw[hsplit]
    simp[ints]
   ·intro r hr
    rw[SG.pf hil]at hr
    rw[il h.uniq]
    split
    ·rfl
    ·rename_i e
     rw[if_neg (by simpa using e)]at hr
     exact h.none r hr
   ·intro r c' hr
    rw[SG.pf hil]at hr
    split at hr
    ·cases hr
    ·rename_i e
     rw[il h.uniq,if_neg (by simpa using e)]
     obtain⟨v,h1,h2,h3⟩:=h.some r c' hr
     refine⟨v,h1,h2,?_⟩
     rcases h3 with h3 | ⟨q,rest,rfl,h4⟩
     ·exact .inl h3
     ·obtain⟨a1,a2,a3,a4⟩:=h.apart _ _ _ h1
      exact .inr ⟨q,rest,rfl,by simp[au,a1,a2,h4]⟩
   ·intro r q n e
    rw[il h.uniq]at e
    split at e
    ·cases e
    ·exact h.apart _ _ _ e
   ·intro r r' q n n' e e'
    rw[il h.uniq]at e e'
    split at e
    ·cases e
    ·split at e'
     ·cases e'
     ·exact h.inj _ _ _ _ _ e e'
  ·rintro j (rfl | rfl | rfl | ⟨r,n,e⟩)
   ·exact .inl (hF _ (.inl rfl))
   ·exact .inl (hF _ (.inr (.inl rfl)))
   ·exact .inl (hF _ (.inr (.inr (.inl rfl))))
   ·rw[il h.uniq]at e
    split at e
    ·cases e
    ·exact .inl (hF _ (.inr (.inr (.inr ⟨r,n,e⟩))))
  ·refine⟨Nat.le_refl _,fun j hn hj=> ?_⟩
   have n1:j≠id:=fun e=>hn (hF _ (.inl e))
   have n2:j≠mid:=fun e=>hn (hF _ (.inr (.inl e)))
   simp[au,n1,n2]
abbrev u8 (n:Int):AV:=.val (.int .u8 n)
abbrev zeroV:AV:=.agg [u8 0,int 0,int 0,int 0]
theorem Gp (h:In σ id s F) (ok:Ok s) {r:Int} {c:List AV} (hc:c.length=10)
 (hk:match s.row r with
   | none=>∀τ,aq σ τ→k (.tup [zeroV,int 6]) τ
   | some row=>if s.C≤s.cells then ∀τ,aq σ τ→k (.tup [zeroV,int 3]) τ
    else ∀i:Nat,r=i→s.L[i]?=some (true,row)→∀τ,In τ id (s.gU i row c) (wB F σ.next)→Off F σ τ→k (.tup [.agg [u8 2,int 0,int r,int row.length],int 0]) τ):Ev PR 126 [.ptr id 0 0,int r,.agg c] σ k kp:=by
 apply AI;unfold F126
 simp[hc]
 generalize hτ:((σ.new (.cells 10 [c])).new (.cells 4 [[u8 0,int 0,int 0,int 0]])).new (.cells 1 [[int r]])=τ
 have hg:aq σ τ:=by rw[←hτ];exact((aq.new _ _).trans (aq.new _ _)).trans (aq.new _ _)
 have hn:τ.next=σ.next+3:=by rw[←hτ];rfl
 have g5:τ.get σ.next=some (.cells 10 [c]):=by rw[←hτ];simp[an];omega
 have g6:τ.get (σ.next+1)=some (.cells 4 [[u8 0,int 0,int 0,int 0]]):=by rw[←hτ];simp[an]
 have g7:τ.get (σ.next+2)=some (.cells 1 [[int r]]):=by rw[←hτ];simp[an]
 have h':=h.aP hg
 refine rf h' (l:=[r]) (.inr (.inr ⟨σ.next+2,[],rfl,by simpa using g7⟩)) (by simp) ?_
 obtain⟨mid,lid,es,h0,hF⟩:=h
 have h:=h0.aP hg
 have i1:=h.ids.1
 have i2:=h.ids.2.1
 have i3:=h.ids.2.2
 have l1:=h0.lt.1
 have l2:=h0.lt.2.1
 have l3:=h0.lt.2.2
 cases hrow:s.row r with
 | none=>
  rw[hrow]at hk
  simp[hrow,g6]
  exact hk _ (hg.set (by omega) _)
 | some row=>
  rw[hrow]at hk
  simp only at hk
  simp[hrow,h.obj]
  by_cases hlt:s.C≤s.cells
  ·rw[if_pos hlt]at hk
   simp[hlt,g6]
   exact hk _ (hg.set (by omega) _)
  ·rw[if_neg hlt]at hk
   obtain⟨i,rfl,hL,hil⟩:=SG.iO hrow
   obtain⟨v,hv,hvr⟩:=h.some _ _ hrow
   have hvr0:=hvr.rows
   have:=ok.C
   have:=ok.cells
   have hrl:row.length≤s.cells:=Dl hL
   have hcp:=SG.jO (c':=row++ [c]) hL
   have n1:σ.next≠id:=by omega
   have n2:σ.next≠mid:=by omega
   have n3:σ.next+1≠id:=by omega
   have n4:σ.next+1≠mid:=by omega
   simp[hlt,h.obj,au,wrap64 (n:=(s.cells:Int)+1) (by omega)]
   refine fJ (fU (q:=key i) (es:=es) rfl rfl (by simp[au,Ne.symm i1,h.map]) h.keys) ?_
   simp[hv,au,g5,n1,hc,List.take_of_length_le (Nat.le_of_eq hc)]
   generalize hT:(τ.set id (dm.cells 7 [[int s.R,int s.C,AV.mp mid,AV.own lid s.live.length,int s.L.length,AV.val (Value.int IntKind.i64 ((s.cells:Int)+1)),int s.most]])).set id (dm.cells 7 [[int s.R,int s.C,AV.mp mid,AV.own lid s.live.length,int s.L.length,AV.val (Value.int IntKind.i64 ((s.cells:Int)+1)),AV.val (Value.int IntKind.i64 (if s.most<(s.cells:Int)+1 then (s.cells:Int)+1 else s.most))]])=T
   have t0:T.get id=some (dm.cells 7 [[int s.R,int s.C,AV.mp mid,AV.own lid s.live.length,int s.L.length,AV.val (Value.int IntKind.i64 ((s.cells:Int)+1)),AV.val (Value.int IntKind.i64 (if s.most<(s.cells:Int)+1 then (s.cells:Int)+1 else s.most))]]):=by rw[←hT];simp
   have t1:∀j,j≠id→T.get j=τ.get j:=by intro j hj;rw[←hT];simp[au,hj]
   have t2:T.next=σ.next+3:=by rw[←hT];exact hn
   have hap:∀q n,v= .own q n→q≠id∧q≠mid∧q≠lid∧q<σ.next:=fun q n e=>h0.apart _ _ _ (by rw[hv,e])
   have hvT:nN T v row:=hvr.mono fun q n e=>t1 q (hap q n e).1
   have hns:∀c',v≠ .sl c' 10 row:=by
    intro c' e
    rcases hvr.2 with ⟨e',_⟩ | ⟨q,rest,e',_⟩<;>rw[e]at e'<;>cases e'
   refine bF (bP hvT.rows hns (.inr (.inl ⟨true,rfl⟩)) (by simp;omega)) ?_
   generalize hU:(gone v T).new (.cells 10 (row++ [c]))=U
   have u0:∀j,j≠σ.next+3→(∀n,v≠ .own j n)→U.get j=T.get j:=by
    intro j hj hv'
    rw[←hU,an,bM,t2,if_neg hj,dK hv']
   have u1:U.get (σ.next+3)=some (.cells 10 (row++ [c])):=by rw[←hU,←t2];simp[an]
   have u2:U.next=σ.next+4:=by rw[←hU];simp[t2]
   have uid:U.get id=T.get id:=u0 _ (by omega) (fun n e=>(hap _ _ e).1 rfl)
   have umid:U.get mid=some (.map es):=by rw[u0 _ (by omega) (fun n e=>(hap _ _ e).2.1 rfl),t1 _ (Ne.symm i1)];exact h.map
   simp[uid,t0]
   refine D1 (gP (q:=key i) rfl rfl umid h.keys) ?_
   have hK:b9 (.int .i64) (du es (key i) (.own T.next (row.length+1)))=true:=iJ h.keys rfl _
   generalize hV:U.set mid (.map (du es (key i) (.own T.next (row.length+1))))=V
   have v0:V.get mid=some (.map (du es (key i) (.own T.next (row.length+1)))):=by rw[←hV];simp
   have v1:∀j,j≠mid→V.get j=U.get j:=by intro j hj;rw[←hV];simp[au,hj]
   have v2:V.next=σ.next+4:=by rw[←hV];exact u2
   have v6:V.get (σ.next+1)=some (.cells 4 [[u8 0,int 0,int 0,int 0]]):=by
    rw[v1 _ (by omega),u0 _ (by omega) (fun n e=>by have:=(hap _ _ e).2.2.2;omega),t1 _ (by omega)];exact g6
   simp[v1 _ i1,uid,t0]
   refine fJ (fU (q:=key i) rfl rfl v0 hK) ?_
   simp[cc,wrap64 (n:=(row.length:Int)) (by omega),v6]
   refine hk i rfl hL _ ⟨mid,lid,du es (key i) (.own T.next (row.length+1)),?_,?_⟩ ?_
   ·have hw1:∀j,j≠σ.next+1→j≠mid→j≠id→j≠σ.next+3→(∀n,v≠ .own j n)→(V.set (σ.next+1) (.cells 4 [[.val (.int .u8 2),.val (.int .i64 0),.val (.int .i64 i),.val (.int .i64 row.length)]])).get j=τ.get j:=by
     intro j a b c' d e
     rw[au,if_neg a,v1 _ b,u0 _ d e,t1 _ c']
    refine {obj:= ?_,map:= ?_,keys:=hK,uniq:=h.uniq.du _ _,lv:= ?_,none:= ?_,some:= ?_,ids:=h.ids,lt:= ?_,apart:= ?_,inj:= ?_}
    ·rw[au,if_neg (by omega),v1 _ i1,uid,t0]
     have e1:(s.gU i row c).live=s.live:=nC hL
     have e2:((s.gU i row c).cells:Int)=s.cells+1:=by
      have:(s.gU i row c).cells=(s.put i (row++ [c])).cells:=rfl
      rw[this];simp at hcp;omega
     rw[e1,e2]
     simp[SG.gU]
    ·rw[au,if_neg (by omega),v0]
    ·obtain⟨rest,hlv⟩:=h.lv
     have e1:(s.gU i row c).live=s.live:=nC hL
     rw[e1]
     exact⟨rest,by rw[hw1 _ (by omega) (Ne.symm i3) (Ne.symm i2) (by omega) (fun n e=>(hap _ _ e).2.2.1 rfl)];exact hlv⟩
    ·intro r hr
     have hr':(s.put i (row++ [c])).row r=none:=hr
     rw[SG.lJ hil]at hr'
     split at hr'
     ·cases hr'
     ·rename_i e
      rw[cc,if_neg (by simpa using e)]
      exact h.none r hr'
    ·intro r c' hr
     have hr':(s.put i (row++ [c])).row r=some c':=hr
     rw[SG.lJ hil]at hr'
     rw[cc]
     split at hr'
     ·rename_i e
      subst e
      cases hr'
      refine⟨_,if_pos rfl,?_,.inr ⟨T.next,[],by simp,?_⟩⟩
      ·intro el hel
       rcases List.mem_append.1 hel with h1 | h1
       ·exact hvr.1 el h1
       ·simp at h1;rw[h1];exact hc
      ·rw[t2,au,if_neg (by omega),v1 _ (by omega),u1];simp
     ·rename_i e
      rw[if_neg (by simpa using e)]
      obtain⟨v',h1,h2⟩:=h.some r c' hr'
      refine⟨v',h1,h2.mono fun q n e'=> ?_⟩
      obtain⟨a1,a2,a3,a4⟩:=h0.apart r q n (by rw[h1,e'])
      refine hw1 _ (by omega) a2 a1 (by omega) fun n' e2=> ?_
      exact e (h.inj r i q n n' (by rw[h1,e']) (by rw[hv,e2]))
    ·show id<V.next∧mid<V.next∧lid<V.next
     omega
    ·intro r q n e
     show _∧_∧_∧q<V.next
     rw[cc]at e
     split at e
     ·cases e;omega
     ·obtain⟨a1,a2,a3,a4⟩:=h0.apart r q n e
      omega
    ·intro r r' q n n' e e'
     rw[cc]at e e'
     split at e
     ·rename_i er
      split at e'
      ·rename_i er';cases er;cases er';rfl
      ·cases e
       have:=(h0.apart _ _ _ e').2.2.2
       omega
     ·split at e'
      ·cases e'
       have:=(h0.apart _ _ _ e).2.2.2
       omega
      ·exact h.inj _ _ _ _ _ e e'
   ·rintro j (rfl | rfl | rfl | ⟨r,n,e⟩)
    ·exact .inl (hF _ (.inl rfl))
    ·exact .inl (hF _ (.inr (.inl rfl)))
    ·exact .inl (hF _ (.inr (.inr (.inl rfl))))
    ·rw[cc]at e
     split at e
     ·cases e;exact .inr (by omega)
     ·exact .inl (hF _ (.inr (.inr (.inr ⟨r,n,e⟩))))
   ·refine⟨by show σ.next≤V.next;omega,fun j hj hlt=> ?_⟩
    have n1:j≠id:=fun e=>hj (hF _ (.inl e))
    have n2:j≠mid:=fun e=>hj (hF _ (.inr (.inl e)))
    have n3:∀n,v≠ .own j n:=fun n e=>hj (hF _ (.inr (.inr (.inr ⟨i,n,by rw[hv,e]⟩))))
    rw[au,if_neg (by omega),v1 _ n2,u0 _ (by omega) n3,t1 _ n1]
    exact hg.get _ hlt
end Go.Abs.Stk
set_option linter.unusedVariables false
set_option linter.unusedSimpArgs false
set_option linter.deprecated false
namespace Go.Abs.Stk
open Go Go.Abs Go.Proofs.MacD
variable {σ:ah} {id:Nat} {s:S} {F:Nat→Prop} {k kp:AV→ah→Prop}
abbrev GW (kd n r a:Int):AV:=.agg [u8 kd,int n,int r,int a]
abbrev fq:AV:=.val (.pointer none)
theorem CL {mid lid:Nat} {es:List (MK×AV)} (h:At σ id mid lid es s) {r:Int} {v:AV} (hv:cZ es (key r)=some v):dO (.int .i64) (.val (.slice none 0 0)) false (.mp mid) (int r) σ=some v:=by
 rw[fU (q:=key r) rfl rfl h.map h.keys,hv];rfl
theorem DA {mid lid:Nat} {es:List (MK×AV)} (h:At σ id mid lid es s) {kd n r a:Int}
 (hk1:s.find kd n r a≠0→∀τ,aq σ τ→k (.tup [fq,int (s.find kd n r a)]) τ)
 (hk0:s.find kd n r a=0→∀τ,aq σ τ→∀row (i:Nat) c q rest,s.row r=some row→a=i→row[i]?=some c→c.length=10→cZ es (key r)=some (.own q row.length)→σ.get q=some (.cells 10 (row++rest))→k (.tup [.ptr q i 0,int 0]) τ):
 Ev PR 172 [.ptr id 0 0,GW kd n r a] σ k kp:=by
 apply Bp;unfold F172
 simp
 by_cases h1:kd≠2∨n≠0
 ·have hf:s.find kd n r a=1:=by simp only[SG.find,if_pos h1]
  rw[hf]at hk1
  have:=hk1 (by omega) _ (aq.new σ (.cells 4 [[u8 kd,int n,int r,int a]]))
  by_cases h2:kd=2
  ·have h3:n≠0:=by omega
   simpa [h2,h3] using this
  ·simpa [h2] using this
 ·have h2:kd=2:=by omega
  have h3:n=0:=by omega
  subst h2;subst h3
  have hf:s.find 2 0 r a=match s.row r with | none=>6 | some row=>if a<0∨row.length≤a then 1 else 0:=by
   simp only[SG.find,if_neg h1]
   cases s.row r<;>rfl
  simp
  generalize hτ:(σ.new (.cells 4 [[u8 2,int 0,int r,int a]])).new (.cells 1 [[int r]])=τ
  have hg:aq σ τ:=by rw[←hτ];exact(aq.new _ _).trans (aq.new _ _)
  have g0:τ.get σ.next=some (.cells 4 [[u8 2,int 0,int r,int a]]):=by rw[←hτ];simp[an]
  have g1:τ.get (σ.next+1)=some (.cells 1 [[int r]]):=by rw[←hτ];simp[an]
  have h':=h.aP hg
  refine rf (F:=fun _=>True) ⟨mid,lid,es,h',fun _ _=>trivial⟩ (l:=[r]) (.inr (.inr ⟨σ.next+1,[],rfl,by simpa using g1⟩)) (by simp) ?_
  cases hrow:s.row r with
  | none=>
   rw[hrow]at hf
   simp only at hf
   rw[hf]at hk1
   simpa [hrow] using hk1 (by omega) τ hg
  | some row=>
   rw[hrow]at hf
   simp only at hf
   obtain⟨v,hv,hvr⟩:=h.some _ _ hrow
   simp[hrow,g0]
   by_cases ha:a<0
   ·rw[if_pos (.inl ha)]at hf
    rw[hf]at hk1
    simpa [ha] using hk1 (by omega) τ hg
   ·have hl:=CL h' hv
    have hlen:aE .slice v τ=some (int row.length):=by rcases hvr.2 with ⟨rfl,rfl⟩ | ⟨q,rest,rfl,_⟩<;>rfl
    simp[ha,h'.obj,g0,hl,hlen]
    by_cases hb:(row.length:Int)≤a
    ·rw[if_pos (.inr hb)]at hf
     rw[hf]at hk1
     simpa [hb] using hk1 (by omega) τ hg
    ·rw[if_neg (by omega)]at hf
     obtain⟨i,rfl⟩:=Int.eq_ofNat_of_zero_le (Int.not_lt.1 ha)
     have hi:i<row.length:=by omega
     obtain⟨c,hc⟩:∃c,row[i]?=some c:=⟨_,List.getElem?_eq_getElem hi⟩
     have hcl:=hvr.1 c (List.mem_of_getElem? hc)
     rcases hvr.2 with ⟨rfl,rfl⟩ | ⟨q,rest,rfl,hq⟩
     ·simp at hi
     ·have hq':τ.get q=some (.cells 10 (row++rest)):=by rw[hg.get _ (h.apart _ _ _ hv).2.2.2];exact hq
      have hel:iG τ q i=some c:=by rw[dP hq',List.getElem?_append_left hi,hc]
      have hix:ak 10 (.own q row.length) (int i) τ=some (.ptr q i 0):=by
       rw[cg,if_pos (by omega)]
       simp only[Int.toNat_natCast,hel,Option.bind_some,hcl,if_true]
      simp[hb,h'.obj,g0,hl,hix]
      exact hk0 hf τ hg row i c q rest hrow rfl hc hcl hv hq
abbrev qC:List AV:=[u8 0,u8 0,int 0,int 0,int 0,u8 0,int 0,int 0,int 0,int 0]
theorem F5 (h:In σ id s F) {kd n r a:Int}
 (hk1:s.find kd n r a≠0→∀τ,aq σ τ→k (.tup [.agg qC,int (s.find kd n r a)]) τ)
 (hk0:s.find kd n r a=0→∀τ,aq σ τ→∀row (i:Nat) c,s.row r=some row→a=i→row[i]?=some c→k (.tup [.agg c,int 0]) τ):Ev PR 171 [.ptr id 0 0,GW kd n r a] σ k kp:=by
 obtain⟨mid,lid,es,h,hF⟩:=h
 apply Bo;unfold F171
 simp
 generalize hτ:(σ.new (.cells 4 [[u8 kd,int n,int r,int a]])).new (.cells 10 [qC])=τ
 have hg:aq σ τ:=by rw[←hτ];exact(aq.new _ _).trans (aq.new _ _)
 have hn:τ.next=σ.next+2:=by rw[←hτ];rfl
 have g0:τ.get σ.next=some (.cells 4 [[u8 kd,int n,int r,int a]]):=by rw[←hτ];simp[an]
 have g1:τ.get (σ.next+1)=some (.cells 10 [qC]):=by rw[←hτ];simp[an]
 simp[g0]
 refine DA (h.aP hg) ?_ ?_
 ·intro hf υ hu
  have u1:υ.get (σ.next+1)=some (.cells 10 [qC]):=by rw[hu.get _ (by omega)];exact g1
  simp[hf,u1]
  exact hk1 hf _ ((hg.trans hu).set (by omega) _)
 ·intro hf υ hu row i c q rest h1 h2 h3 h4 h5 h6
  have hql:=(h.apart _ _ _ h5).2.2.2
  have u1:υ.get (σ.next+1)=some (.cells 10 [qC]):=by rw[hu.get _ (by omega)];exact g1
  have u2:υ.get q=some (.cells 10 (row++rest)):=by rw[hu.get _ (by omega)];exact h6
  have hi:=(List.getElem?_eq_some_iff.1 h3).1
  simp[u1,u2,List.getElem?_append_left hi,h3,h4,List.take_of_length_le (Nat.le_of_eq h4),List.drop_of_length_le (Nat.le_of_eq h4)]
  exact hk0 hf _ ((hg.trans hu).set (by omega) _) row i c h1 h2 h3
theorem GL (h:In σ id s F) {kd n r a:Int} {c:List AV} (hc:c.length=10)
 (hk1:s.find kd n r a≠0→∀τ,aq σ τ→k (int (s.find kd n r a)) τ)
 (hk0:s.find kd n r a=0→∀row (ri i:Nat),r=ri→s.L[ri]?=some (true,row)→a=i→i<row.length→∀τ,In τ id (s.put ri (row.set i c)) (wB F σ.next)→Off F σ τ→k (int 0) τ):Ev PR 127 [.ptr id 0 0,GW kd n r a,.agg c] σ k kp:=by
 obtain⟨mid,lid,es,h,hF⟩:=h
 apply AJ;unfold F127
 simp[hc]
 generalize hτ:(σ.new (.cells 4 [[u8 kd,int n,int r,int a]])).new (.cells 10 [c])=τ
 have hg:aq σ τ:=by rw[←hτ];exact(aq.new _ _).trans (aq.new _ _)
 have hn:τ.next=σ.next+2:=by rw[←hτ];rfl
 have g0:τ.get σ.next=some (.cells 4 [[u8 kd,int n,int r,int a]]):=by rw[←hτ];simp[an]
 have g1:τ.get (σ.next+1)=some (.cells 10 [c]):=by rw[←hτ];simp[an]
 simp[g0]
 refine DA (h.aP hg) ?_ ?_
 ·intro hf υ hu
  refine aM ?_
  simp[hf]
  exact hk1 hf _ (hg.trans hu)
 ·intro hf υ hu row i c0 q rest h1 h2 h3 h4 h5 h6
  have hu':=hg.trans hu
  have hA:=h.aP hu'
  obtain⟨q1,q2,q3,q4⟩:=h.apart _ _ _ h5
  have u1:υ.get (σ.next+1)=some (.cells 10 [c]):=by rw[hu.get _ (by omega)];exact g1
  have u2:υ.get q=some (.cells 10 (row++rest)):=by rw[hu.get _ (by omega)];exact h6
  have hi:=(List.getElem?_eq_some_iff.1 h3).1
  obtain⟨ri,rfl,hL,hril⟩:=SG.iO h1
  refine aM ?_
  simp[u1,u2,List.getElem?_append_left hi,h3,h4,hc,List.take_of_length_le (Nat.le_of_eq hc),List.drop_of_length_le (Nat.le_of_eq h4)]
  have hcell:=SG.jO (c':=row.set i c) hL
  have hset:(row++rest).set i c=row.set i c++rest:=List.set_append_left _ _ hi
  have hw:∀j,j≠q→(υ.set q (.cells 10 ((row++rest).set i c))).get j=υ.get j:=fun j hj=>by rw[au,if_neg hj]
  refine hk0 hf row ri i rfl hL h2 hi _ ⟨mid,lid,es,?_,fun j hj=>.inl (hF j hj)⟩ ⟨hu'.next,fun j hj hlt=> ?_⟩
  ·refine {obj:= ?_,map:= ?_,keys:=h.keys,uniq:=h.uniq,lv:= ?_,none:= ?_,some:= ?_,ids:=h.ids,lt:=hA.lt,apart:=hA.apart,inj:=h.inj}
   ·rw[hw _ (Ne.symm q1),SG.oJ hL]
    have:(s.put ri (row.set i c)).cells=s.cells:=by simp at hcell;omega
    rw[this,hA.obj]
    simp[SG.put]
   ·rw[hw _ (Ne.symm q2)];exact hA.map
   ·rw[hw _ (Ne.symm q3),SG.oJ hL];exact hA.lv
   ·intro r hr
    rw[SG.lJ hril]at hr
    split at hr
    ·cases hr
    ·exact h.none r hr
   ·intro r c' hr
    rw[SG.lJ hril]at hr
    split at hr
    ·rename_i e
     subst e
     cases hr
     obtain⟨v,hv,hvr⟩:=h.some _ _ h1
     rw[hv]at h5
     cases h5
     refine⟨_,hv,?_,.inr ⟨q,rest,by simp,by rw[au,if_pos rfl,hset]⟩⟩
     intro el hel
     rcases List.mem_or_eq_of_mem_set hel with h1 | h1
     ·exact hvr.1 el h1
     ·rw[h1];exact hc
    ·rename_i e
     obtain⟨v,hv,hvr⟩:=hA.some r c' hr
     refine⟨v,hv,hvr.mono fun q' n' e'=>hw _ fun e2=>e ?_⟩
     subst e2
     exact h.inj r ri q' _ _ (by rw[hv,e']) h5
  ·have hjq:j≠q:=fun e=>hj (hF _ (.inr (.inr (.inr ⟨ri,row.length,by rw[e];exact h5⟩))))
   rw[hw _ hjq]
   exact hu'.get _ hlt
def eT (n lo hi:Int):Int:=if n<lo then lo else if hi<n then hi else n
def SG.new (r c:Int):S:={R:=eT r 1 1048576,C:=eT c 0 4194304,L:=[(true,[])],most:=0}
theorem Ge {r c:Int} (hk:∀id τ,σ.next≤id→In τ id (SG.new r c) (fun i=>σ.next≤i)→Off (fun i=>σ.next≤i) σ τ→k (.ptr id 0 0) τ):Ev PR 25 [.agg [int r,int c]] σ k kp:=by
 apply Es;unfold F25
 have e1:(if 1<(if (1048576:Int)<r then 1048576 else r) then (if (1048576:Int)<r then 1048576 else r) else 1)=eT r 1 1048576:=by
  unfold eT;repeat' split
  all_goals omega
 have e2:(if 0<(if (4194304:Int)<c then 4194304 else c) then (if (4194304:Int)<c then 4194304 else c) else 0)=eT c 0 4194304:=by
  unfold eT;repeat' split
  all_goals omega
 simp
 rw[e1,e2]
 generalize hτ:(((σ.new (.cells 2 [[int r,int c]])).set σ.next (.cells 2 [[.val (.int .i64 (eT r 1 1048576)),int c]])).set σ.next (.cells 2 [[.val (.int .i64 (eT r 1 1048576)),.val (.int .i64 (eT c 0 4194304))]])).new (.map [])=τ
 have hn:τ.next=σ.next+2:=by rw[←hτ];rfl
 have hg:aq σ τ:=by rw[←hτ];exact(((aq.new _ _).set (Nat.le_refl _) _).set (Nat.le_refl _) _).trans (aq.new _ _)
 have g1:τ.get (σ.next+1)=some (.map []):=by rw[←hτ];simp[an]
 refine D1 (gP (q:=key 0) rfl rfl g1 rfl) ?_
 simp[hn]
 refine hk _ _ (by omega) ⟨σ.next+1,σ.next+2,[(key 0,bf)],?_,?_⟩ ⟨by simp;omega,fun i h1 h2=>by simp[an,au,Nat.ne_of_lt h2,lt_next h2,hn,du,hg.get i h2];intro e;omega⟩
 ·have hrow:∀r':Int,(SG.new r c).row r'=if r'=0 then some [] else none:=by
   intro r'
   unfold SG.row SG.new at' rowAt
   by_cases h0:r'=0
   ·subst h0;rfl
   ·rw[if_neg h0]
    split
    ·rename_i h1
     obtain⟨n,rfl⟩:=Int.eq_ofNat_of_zero_le h1
     cases n with
     | zero=>exact absurd rfl h0
     | succ n=>rfl
    ·rfl
  refine {obj:= ?_,map:= ?_,keys:=rfl,uniq:=by simp[nO],lv:=⟨[],?_⟩,none:= ?_,some:= ?_,ids:=by omega,lt:= ?_,apart:= ?_,inj:= ?_}
  ·simp[an,au,hn,SG.new,SG.live,SG.cells,idx,tot]
  ·simp[an,au,hn,du]
  ·simp[an,au,hn,SG.new,SG.live,idx,ints]
  ·intro r' h
   rw[hrow]at h
   split at h
   ·cases h
   ·rename_i e;simp[cZ,Ne.symm e]
  ·intro r' c' h
   rw[hrow]at h
   split at h
   ·rename_i e
    cases h
    exact⟨bf,by simp[cZ,e],by simp,.inl ⟨rfl,rfl⟩⟩
   ·cases h
  ·simp[hn]
  ·intro r' q n h
   simp only[cZ]at h
   split at h<;>cases h
  ·intro r' r'' q n n' h
   simp only[cZ]at h
   split at h<;>cases h
 ·rintro j (rfl | rfl | rfl | ⟨r',n,h⟩)
  ·omega
  ·omega
  ·omega
  ·simp only[cZ]at h
   split at h<;>cases h
theorem Off.fresh {σ τ υ:ah} {F:Nat→Prop} (o:Off F τ υ) (h:aq σ τ) (hF:∀i,F i→σ.next≤i):aq σ υ:=
 ⟨Nat.le_trans h.next o.next,fun i hi=>(o.get i (fun e=>by have:=hF i e;omega) (Nat.lt_of_lt_of_le hi h.next)).trans (h.get i hi)⟩
theorem In.fresh {τ:ah} {n m:Nat} (h:In τ id s (wB (fun i=>n≤i) m)) (hn:n≤m):In τ id s (fun i=>n≤i):=by
 obtain⟨mid,lid,es,h1,h2⟩:=h
 exact⟨mid,lid,es,h1,fun i hi=>(h2 i hi).elim (fun h=>h) fun h=>Nat.le_trans hn h⟩
theorem In.cut {τ:ah} (h:In τ id s F):In τ id s (fun i=>F i∧i<τ.next):=by
 obtain⟨mid,lid,es,h1,h2⟩:=h
 refine⟨mid,lid,es,h1,fun i hi=>⟨h2 i hi,?_⟩⟩
 rcases hi with rfl | rfl | rfl | ⟨r,n,e⟩
 ·exact h1.lt.1
 ·exact h1.lt.2.1
 ·exact h1.lt.2.2
 ·exact(h1.apart _ _ _ e).2.2.2
theorem In.sub {τ:ah} {G:Nat→Prop} (h:In τ id s F) (hs:∀i,F i→G i):In τ id s G:=by
 obtain⟨mid,lid,es,h1,h2⟩:=h
 exact⟨mid,lid,es,h1,fun i hi=>hs i (h2 i hi)⟩
end Go.Abs.Stk
