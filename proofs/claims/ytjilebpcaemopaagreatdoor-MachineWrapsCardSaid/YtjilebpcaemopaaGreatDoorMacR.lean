import Derived.Test.YtjilebpcaemopaaGreatDoorMacM
set_option linter.unusedVariables false
set_option linter.unusedSimpArgs false
namespace Go.Abs.Mac
open Go Go.Abs Go.Abs.Stk Go.Abs.At
structure SOk (s:SG Cl):Prop where
 R:1≤s.R∧s.R≤1048576
 C:0≤s.C∧s.C≤4194304
 live:s.live.length≤s.R
 cells:s.cells≤s.C
 most:s.cells≤s.most∧s.most≤s.C
theorem gu {s:SG Cl} {r st} (h:dw s=some (r,st)):(s.live.length:Int)<s.R∧r=s.L.length∧st=s.more:=by
 unfold dw at h
 split at h
 ·cases h;exact⟨by assumption,rfl,rfl⟩
 ·cases h
theorem SOk.push {s:SG Cl} (h:SOk s) {r st} (hp:dw s=some (r,st)):SOk st:=by
 obtain⟨h1,rfl,rfl⟩:=gu hp
 refine⟨h.R,h.C,?_,?_,?_⟩
 ·rw[SG.ik];simp;exact h1
 ·rw[SG.ku];exact h.cells
 ·rw[SG.ku];exact h.most
theorem SOk.pop {s:SG Cl} (h:SOk s):SOk (cz s):=by
 unfold cz
 split
 ·exact h
 ·split
  ·rename_i i hi
   obtain⟨c,hc⟩:=SG.lq hi
   have h1:=SG.nZ hc
   have h2:=h.live
   have h3:=h.cells
   have h4:=h.most
   refine⟨h.R,h.C,?_,?_,?_⟩
   ·rw[SG.jR hi,List.length_dropLast];show((s.live.length - 1:Nat):Int)≤s.R;omega
   ·show((s.less i).cells:Int)≤s.C;omega
   ·show((s.less i).cells:Int)≤s.most∧s.most≤s.C;omega
  ·exact h
theorem e9 {s:SG Cl} {r c v st} (h:e8 s r c=some (v,st)):∃(i:Nat) (row:List Cl),r=i∧s.L[i]?=some (true,row)∧(s.cells:Int)<s.C∧v=⟨2,0,r,row.length⟩∧st=s.gU i row c:=by
 unfold e8 at h
 split at h
 ·cases h
 ·rename_i row hr
  obtain⟨i,rfl,h1,h2⟩:=SG.iO hr
  split at h
  ·cases h
  ·cases h
   exact⟨i,row,rfl,h1,by omega,rfl,rfl⟩
theorem SG.oW {α} {s:SG α} {i:Nat} {row:List α} (h:s.L[i]?=some (true,row)) (c:α):(s.gU i row c).cells=s.cells+1:=by
 have:=SG.jO (c':=row++ [c]) h
 have e:(s.gU i row c).cells=(s.put i (row++ [c])).cells:=rfl
 rw[e];simp at this;omega
theorem SG.my {α} {s:SG α} {i:Nat} {row:List α} (h:s.L[i]?=some (true,row)) (c:α):(s.gU i row c).live=s.live:=nC h
theorem SOk.put {s:SG Cl} (h:SOk s) {r c v st} (hp:e8 s r c=some (v,st)):SOk st:=by
 obtain⟨i,row,rfl,h1,h2,_,rfl⟩:=e9 hp
 have h3:=h.most
 refine⟨h.R,h.C,?_,?_,?_⟩
 ·rw[SG.my h1];exact h.live
 ·rw[SG.oW h1];show((s.cells+1:Nat):Int)≤s.C;omega
 ·rw[SG.oW h1]
  show((s.cells+1:Nat):Int)≤(if s.most<s.cells+1 then (s.cells:Int)+1 else s.most)∧(if s.most<s.cells+1 then (s.cells:Int)+1 else s.most)≤s.C
  split<;>omega
theorem jZ (s:SG Cl) (v c):(eN s v c).live=s.live∧(eN s v c).cells=s.cells∧(eN s v c).R=s.R∧(eN s v c).C=s.C∧(eN s v c).most=s.most:=by
 unfold eN
 split
 ·rename_i row hr
  obtain⟨i,e,h1,h2⟩:=SG.iO hr
  rw[e]
  have hc:=SG.jO (c':=row.set v.a.toNat c) h1
  simp at hc
  exact⟨SG.oJ h1,by simpa using hc,rfl,rfl,rfl⟩
 ·exact⟨rfl,rfl,rfl,rfl,rfl⟩
theorem SOk.set {s:SG Cl} (h:SOk s) (v c):SOk (eN s v c):=by
 obtain⟨h1,h2,h3,h4,h5⟩:=jZ s v c
 exact⟨by rw[h3];exact h.R,by rw[h4];exact h.C,by rw[h1,h3];exact h.live,by rw[h2,h4];exact h.cells,by rw[h2,h5,h4];exact h.most⟩
def jk (s:Sa):Prop:=∀(i:Nat) (row:List Cl) (c:Cl),s.store.L[i]?=some (true,row)→c∈row→c.kind=3→0≤c.code∧c.code<s.aC.length
theorem jk.mono {s s':Sa} (h:jk s) (hL:∀(i:Nat) (row:List Cl) (c:Cl),s'.store.L[i]?=some (true,row)→c∈row→c.kind=3→(∃row',s.store.L[i]?=some (true,row')∧c∈row')∨(0≤c.code∧c.code<s'.aC.length)) (hc:s.aC.length≤s'.aC.length):jk s':=by
 intro i row c h1 h2 h3
 rcases hL i row c h1 h2 h3 with ⟨row',h4,h5⟩ | h4
 ·have:=h i row' c h4 h5 h3;omega
 ·exact h4
theorem zd {s:SG Cl} {i:Nat} {row:List Cl} (h:(s.more).L[i]?=some (true,row)):s.L[i]?=some (true,row)∨row= []:=by
 have h:(s.L++ [(true,[])])[i]?=some (true,row):=h
 by_cases hi:i<s.L.length
 ·rw[List.getElem?_append_left hi]at h;exact .inl h
 ·rw[List.getElem?_append_right (by omega)]at h
  cases hh:i - s.L.length with
  | zero=>rw[hh]at h;simp at h;exact .inr h
  | succ n=>rw[hh]at h;simp at h
theorem rE {l:List (Bool×List Cl)} {i j:Nat} {x:Bool×List Cl} {row:List Cl} (h:(l.set j x)[i]?=some (true,row)):(i≠j∧l[i]?=some (true,row))∨(i=j∧x=(true,row)):=by
 by_cases e:i=j
 ·subst e
  have hl:i<l.length:=by have:=(List.getElem?_eq_some_iff.1 h).1;simpa using this
  rw[List.getElem?_set_self hl]at h
  exact .inr ⟨rfl,by simpa using h⟩
 ·rw[List.getElem?_set_ne (Ne.symm e)]at h
  exact .inl ⟨e,h⟩
theorem CY {s:SG Cl} {i:Nat} {row:List Cl} (h:(cz s).L[i]?=some (true,row)):s.L[i]?=some (true,row):=by
 unfold cz at h
 split at h
 ·exact h
 ·split at h
  ·rcases rE h with h | ⟨_,h⟩
   ·exact h.2
   ·cases h
  ·exact h
theorem wb {s:SG Cl} {r:Int} {c:Cl} {v:V} {st:SG Cl} {i:Nat} {row:List Cl} (hp:e8 s r c=some (v,st)) (h:st.L[i]?=some (true,row)):∀x∈row,x=c∨∃row',s.L[i]?=some (true,row')∧x∈row':=by
 obtain⟨j,row0,rfl,h1,h2,_,rfl⟩:=e9 hp
 intro x hx
 have h:(s.L.set j (true,row0++ [c]))[i]?=some (true,row):=h
 rcases rE h with h | ⟨ij,e⟩
 ·exact .inr ⟨row,h.2,hx⟩
 ·have e:=(Prod.mk.injEq .. ▸e).2
  subst e
  rcases List.mem_append.1 hx with hx | hx
  ·exact .inr ⟨row0,ij▸h1,hx⟩
  ·exact .inl (by simpa using hx)
theorem Aa {s:SG Cl} {v:V} {c:Cl} {i:Nat} {row:List Cl} (h:(eN s v c).L[i]?=some (true,row)):∀x∈row,x=c∨∃row',s.L[i]?=some (true,row')∧x∈row':=by
 intro x hx
 unfold eN at h
 split at h
 ·rename_i row0 hr
  obtain⟨j,e,h1,h2⟩:=SG.iO hr
  rw[e]at h
  have h:(s.L.set j (true,row0.set v.a.toNat c))[i]?=some (true,row):=h
  rcases rE h with h | ⟨ij,e⟩
  ·exact .inr ⟨row,h.2,hx⟩
  ·have e:=(Prod.mk.injEq .. ▸e).2
   subst e
   rcases List.mem_or_eq_of_mem_set hx with hx | hx
   ·exact .inr ⟨row0,ij▸h1,hx⟩
   ·exact .inl hx
 ·exact .inr ⟨row,h,hx⟩
structure Good (N a b c:Nat) (s:Sa):Prop where
 cw:CW (TN N) s
 ok:SOk s.store
 idx:jk s
 steps:a≤s.steps
 len:b≤s.store.L.length
 aC:c≤s.aC.length
theorem mv (s e):(patch s e).aC.length=s.aC.length:=by
 unfold patch
 split
 ·rename_i c hc
  have:s.aC≠[]:=by intro h;rw[h]at hc;simp at hc
  have:0<s.aC.length:=List.length_pos_iff.2 this
  simp;omega
 ·rfl
theorem cH (N a b c:Nat):Inv (Good N a b c) (TN N) where
 kid:=(aZ N).kid
 wf:=(aZ N).wf
 put:=fun h hk hp=>⟨(aZ N).put h.cw hk hp,h.ok.put hp,h.idx.mono (fun i row x h1 h2 h3=>by
  rcases wb hp h1 x h2 with rfl | h4
  ·exact absurd h3 hk
  ·exact .inl h4) (Nat.le_refl _),h.steps,by rw[lH hp];exact h.len,h.aC⟩
 code:=@fun s co h hc=>⟨(aZ N).code h.cw hc,h.ok,h.idx.mono (fun i row x h1 h2 h3=>.inl ⟨row,h1,h2⟩) (by show s.aC.length≤(s.aC++ [co]).length;simp),h.steps,h.len,by have:=h.aC;show c≤(s.aC++ [co]).length;simp;omega⟩
 codePut:=@fun s co r v st h hc hp=>⟨(aZ N).codePut h.cw hc hp,h.ok.put hp,h.idx.mono (fun i row x h1 h2 h3=>by
  rcases wb hp h1 x h2 with rfl | h4
  ·refine .inr ?_
   show(0:Int)≤(s.aC.length:Int)∧(s.aC.length:Int)<((s.aC++ [co]).length:Int)
   simp;omega
  ·exact .inl h4) (by show s.aC.length≤(s.aC++ [co]).length;simp),h.steps,by rw[lH hp];exact h.len,by have:=h.aC;show c≤(s.aC++ [co]).length;simp;omega⟩
 set:=@fun s v co h hk=>⟨(aZ N).set (v:=v) h.cw hk,h.ok.set _ _,h.idx.mono (fun i row x h1 h2 h3=>by
  rcases Aa h1 x h2 with rfl | h4
  ·omega
  ·exact .inl h4) (Nat.le_refl _),h.steps,by rw[tx];exact h.len,h.aC⟩
 body:=fun h hi=>(aZ N).body h.cw hi
 tick:=fun h=>⟨h.cw,h.ok,h.idx,Nat.le_succ_of_le h.steps,h.len,h.aC⟩
 push:=@fun s r st h hp=>⟨h.cw,h.ok.push hp,h.idx.mono (fun i row x h1 h2 h3=>by
  obtain⟨_,_,rfl⟩:=gu hp
  rcases zd h1 with h4 | rfl
  ·exact .inl ⟨row,h4,h2⟩
  ·simp at h2) (Nat.le_refl _),h.steps,by rw[mw hp];exact Nat.le_succ_of_le h.len,h.aC⟩
 pop:=@fun s h=>⟨h.cw,h.ok.pop,h.idx.mono (fun i row x h1 h2 h3=>.inl ⟨row,CY h1,h2⟩) (Nat.le_refl _),h.steps,by rw[oV];exact h.len,h.aC⟩
 patch:=@fun s e h=>⟨(aZ N).patch h.cw,by rw[cK];exact h.ok,h.idx.mono (fun i row x h1 h2 h3=>.inl ⟨row,by rw[←cK s e];exact h1,h2⟩) (by rw[mv];exact Nat.le_refl _),by rw[dv];exact h.steps,by rw[cK];exact h.len,by rw[mv];exact h.aC⟩
theorem Good.self {N a b c s} (h:Good N a b c s):Good N s.steps s.store.L.length s.aC.length s:=⟨h.cw,h.ok,h.idx,Nat.le_refl _,Nat.le_refl _,Nat.le_refl _⟩
theorem Good.less {N a b c a' b' c' s} (h:Good N a b c s) (h1:a'≤a) (h2:b'≤b) (h3:c'≤c):Good N a' b' c' s:=⟨h.cw,h.ok,h.idx,Nat.le_trans h1 h.steps,Nat.le_trans h2 h.len,Nat.le_trans h3 h.aC⟩
theorem Big.eM {fuel N s t e s' o} (h:Big fuel s t e s' o) (hs:Good N 0 0 0 s) (ht:TN N t):Good N s.steps s.store.L.length s.aC.length s':=h.inv (cH N _ _ _) hs.self ht
structure wz (f:Fr):Prop where
 wf:Wf f.t
 vals:f.vals.length<f.t.kids.length
structure Fits (N B:Nat) (m:M):Prop where
 eM:Good N 0 0 0 m.s
 len:m.s.store.L.length≤B
 aC:m.s.aC.length≤B
 k:m.k.length≤B
 fr:∀f∈m.k,wz f
 node:∀t e,m.x= .node t e→Wf t
structure Res where
 s:Sa
 kind:Int
 isInt:Bool
 n:Int
 exn:ByteArray
inductive mG (fuel N B:Nat):M→Nat→Res→Prop
 | end_ {m s kind b n x} (hf:Fits N B m) (h:step fuel m= .end_ s kind b n x):mG fuel N B m 0 ⟨s,kind,b,n,x⟩
 | on {m m' j r} (hf:Fits N B m) (h:step fuel m= .on m') (h':mG fuel N B m' j r):mG fuel N B m (j+1) r
def Ends (fuel N B:Nat) (m:M) (r:Res):Prop:=∃j,mG fuel N B m j r
theorem Ends.on {fuel N B m m' r} (hf:Fits N B m) (h:step fuel m= .on m') (h':Ends fuel N B m' r):Ends fuel N B m r:=let ⟨j,h'⟩:=h';⟨j+1,.on hf h h'⟩
theorem Ends.end_ {fuel N B m s kind b n x} (hf:Fits N B m) (h:step fuel m= .end_ s kind b n x):Ends fuel N B m ⟨s,kind,b,n,x⟩:=⟨0,.end_ hf h⟩
def wA (fuel N B:Nat) (s:Sa) (k:List Fr) (r:Res):Out→Prop
 | .val v=>Ends fuel N B ⟨.val v,s,k⟩ r
 | .exn n x=>Ends fuel N B ⟨.exn n x,s,k⟩ r
 | .over kind=>r=⟨s,kind,false,0,ByteArray.empty⟩
end Go.Abs.Mac
set_option linter.unusedVariables false
set_option linter.unusedSimpArgs false
namespace Go.Abs.Mac
open Go Go.Abs Go.Abs.Stk Go.Abs.At
def Bd (B:Nat) (s:Sa):Prop:=s.steps+s.store.L.length≤B∧s.aC.length≤B
theorem Good.bd {N B s s'} (h:Good N s.steps s.store.L.length s.aC.length s') (hb:Bd B s'):Bd B s:=⟨by have:=h.steps;have:=h.len;have:=hb.1;omega,by have:=h.aC;have:=hb.2;omega⟩
structure Ks (s:Sa) (k:List Fr):Prop where
 fr:∀f∈k,wz f
 len:k.length≤s.steps+s.store.L.length
theorem Ks.later {N s s' k} (h:Ks s k) (hg:Good N s.steps s.store.L.length s.aC.length s'):Ks s' k:=⟨h.fr,by have:=h.len;have:=hg.steps;have:=hg.len;omega⟩
theorem fits {N B s k x} (hg:Good N 0 0 0 s) (hb:Bd B s) (hk:Ks s k) (hx:∀t e,x=Nx.node t e→Wf t):Fits N B ⟨x,s,k⟩:=
 ⟨hg,by have:=hb.1;show s.store.L.length≤B;omega,hb.2,by have:=hb.1;have:=hk.len;show k.length≤B;omega,hk.fr,hx⟩
theorem ib {N B s k v} (hg:Good N 0 0 0 s) (hb:Bd B s) (hk:Ks s k):Fits N B ⟨.val v,s,k⟩:=fits hg hb hk (by simp)
theorem vH {N B s k n x} (hg:Good N 0 0 0 s) (hb:Bd B s) (hk:Ks s k):Fits N B ⟨.exn n x,s,k⟩:=fits hg hb hk (by simp)
theorem Ends.pass {fuel N B m m' r} (hf:Fits N B m) (h:step fuel m=step fuel m') (h':Ends fuel N B m' r):Ends fuel N B m r:=by
 obtain⟨j,h'⟩:=h'
 cases h' with
 | end_ _ h2=>exact .end_ hf (h.trans h2)
 | on _ h2 h3=>exact .on hf (h.trans h2) ⟨_,h3⟩
theorem Ks.cons {s s':Sa} {k} {t:AT} {e:En} {vs:List V} (h:Ks s k) (hw:Wf t) (hv:vs.length<t.kids.length) (hs:s.steps+s.store.L.length<s'.steps+s'.store.L.length):Ks s' (⟨t,e,vs⟩::k):=
 ⟨fun f hf=>by rcases List.mem_cons.1 hf with rfl | hf
               ·exact⟨hw,hv⟩
               ·exact h.fr f hf,by have:=h.len;simp;omega⟩
theorem iv {fuel N B s f k r o} (hg:Good N 0 0 0 s) (hb:Bd B s) (hk:Ks s (f::k)) (h17:f.t.h.kind≠17) (ho:¬o.isVal) (hx:f.t.h.kind=16→∀n,o≠ .exn n f.t.h.exn) (h:wA fuel N B s k r o):wA fuel N B s (f::k) r o:=by
 cases o with
 | val v=>exact absurd trivial ho
 | over kind=>exact h
 | exn n x=>
  refine Ends.pass (m':=⟨.exn n x,s,k⟩) (vH hg hb hk) ?_ h
  have:¬(f.t.h.kind=16∧f.t.h.exn=x):=fun⟨a,b⟩=>hx a n (by rw[b])
  simp[step,raise,h17,this]
theorem lp {k:Int} (h:3≤k∧k≤10∨k=15):k≠17∧¬bu k∧k≠13∧k≠16∧k≠12∧k≠14:=by unfold bu;omega
theorem xD {fuel s k t e} (hf:s.steps<fuel) (h17:t.h.kind≠17) (hl:¬bu t.h.kind) (h13:t.h.kind≠13):step fuel ⟨.node t e,s,k⟩= .on ⟨.node (aB t 0) e,tick s,⟨t,e,[]⟩::k⟩:=by
 simp[step,enter,h17,hl,h13,Nat.not_le.2 hf]
theorem aS {N t i} (ht:TN N t) (hi:i<nk t.h.kind):TN N (aB t i):=(ht.gh hi).1
theorem cG {N s} (h:Good N 0 0 0 s):Good N 0 0 0 (tick s):=(cH N 0 0 0).tick h
theorem Good.zero {N a b c s} (h:Good N a b c s):Good N 0 0 0 s:=h.less (Nat.zero_le _) (Nat.zero_le _) (Nat.zero_le _)
theorem Ks.tick {s k} (h:Ks s k):Ks (tick s) k:=⟨h.fr,by have:=h.len;simp[Mac.tick];omega⟩
theorem wait {fuel N B s t e s' o k r} (hf:s.steps<fuel) (h17:t.h.kind≠17) (hl:¬bu t.h.kind) (h13:t.h.kind≠13) (h0:0<nk t.h.kind) (h:Big fuel (tick s) (aB t 0) e s' o)
 (ih:Good N 0 0 0 (tick s)→TN N (aB t 0)→Bd B s'→∀k r,Ks (tick s) k→wA fuel N B s' k r o→Ends fuel N B ⟨.node (aB t 0) e,tick s,k⟩ r)
 (hg:Good N 0 0 0 s) (ht:TN N t) (hb:Bd B s') (hk:Ks s k) (hr:Ks s' (⟨t,e,[]⟩::k)→Good N 0 0 0 s'→wA fuel N B s' (⟨t,e,[]⟩::k) r o):Ends fuel N B ⟨.node t e,s,k⟩ r:=by
 have hg1:=h.eM (cG hg) (aS ht h0)
 have hbs:=hg1.bd hb
 have hK:Ks (tick s) (⟨t,e,[]⟩::k):=hk.cons ht.1 (by rw[ht.1.len];exact h0) (by simp[tick])
 refine .on (fits hg ⟨by have:=hbs.1;simp[tick]at this;omega,hbs.2⟩ hk (by rintro _ _ ⟨⟩;exact ht.1)) (xD hf h17 hl h13) ?_
 exact ih (cG hg) (aS ht h0) hb _ _ hK (hr (hK.later hg1) hg1.zero)
theorem qn {fuel N B m k r s o} {x:Re Nx} (hf:Fits N B m) (h:step fuel m=x.go k) (hx:kj x s o) (hr:wA fuel N B s k r o):Ends fuel N B m r:=by
 cases hx with
 | val=>exact .on hf h hr
 | exn=>exact .on hf h hr
 | over=>
  have hr:r=_:=hr
  subst hr
  exact .end_ hf h
theorem yr {fuel N B s t e s' o} (h:Big fuel s t e s' o):Good N 0 0 0 s→TN N t→Bd B s'→∀k r,Ks s k→wA fuel N B s' k r o→Ends fuel N B ⟨.node t e,s,k⟩ r:=by
 induction h with
 | @full s t e hk h=>
  intro hg ht hb k r hk' hr
  have hr:r=_:=hr
  subst hr
  exact .end_ (fits hg hb hk' (by rintro _ _ ⟨⟩;exact ht.1)) (by simp[step,enter,hk,h])
 | @region s t e rg st s' o hk h h' ih=>
  intro hg ht hb k r hk' hr
  have h0:0<nk t.h.kind:=aJ (by omega)
  have hg1:Good N 0 0 0 {s with store:=st}:=(cH N 0 0 0).push hg h
  have hg2:=h'.eM hg1 (aS ht h0)
  obtain⟨p1,p2,p3⟩:=jV o s'
  have hb':Bd B s':=⟨by rw[←p1,←p2];exact hb.1,by rw[←p3];exact hb.2⟩
  have hb1:=hg2.bd hb'
  have hlen:=mw h
  have hbs:Bd B s:=⟨by have:=hb1.1;simp only at this;omega,hb1.2⟩
  have hK:Ks {s with store:=st} (⟨t,e,[]⟩::k):=hk'.cons ht.1 (by rw[ht.1.len];exact h0) (by simp only;omega)
  have hg2':=hg2.less (a':=0) (b':=0) (c':=0) (Nat.zero_le _) (Nat.zero_le _) (Nat.zero_le _)
  refine .on (fits hg hbs hk' (by rintro _ _ ⟨⟩;exact ht.1)) (m':=⟨.node (aB t 0) (e.opn t.rho rg),{s with store:=st},⟨t,e,[]⟩::k⟩) (by simp[step,enter,hk,h]) ?_
  refine ih hg1 (aS ht h0) hb' _ _ hK ?_
  cases o with
  | val v=>exact .on (ib hg2' hb' (hK.later hg2)) (by simp[step,je,hk];rfl) hr
  | exn n x=>exact .pass (m':=⟨.exn n x,_,k⟩) (vH hg2' hb' (hK.later hg2)) (by simp[step,raise,hk];rfl) hr
  | over kd=>exact hr
 | @fuel s t e hk h=>
  intro hg ht hb k r hk' hr
  have hr:r=_:=hr
  subst hr
  exact .end_ (fits hg hb hk' (by rintro _ _ ⟨⟩;exact ht.1)) (by simp[step,enter,hk,h])
 | @leaf s t e s' v hf hk h=>
  intro hg ht hb k r hk' hr
  have:=(cH N (s.steps) s.store.L.length s.aC.length).ka (s:=tick s) (e:=e) ((cH N _ _ _).tick hg.self) ht hk
  rw[h]at this
  have h17:t.h.kind≠17:=by unfold bu at hk;omega
  exact .on (fits hg (Good.bd this hb) hk' (by rintro _ _ ⟨⟩;exact ht.1)) (by simp[step,enter,h17,hk,Nat.not_le.2 hf,h,Re.bind,Re.go]) hr
 | @leafOver s t e s' kd hf hk h=>
  intro hg ht hb k r hk' hr
  have:=(cH N (s.steps) s.store.L.length s.aC.length).ka (s:=tick s) (e:=e) ((cH N _ _ _).tick hg.self) ht hk
  rw[h]at this
  have h17:t.h.kind≠17:=by unfold bu at hk;omega
  have hr:r=_:=hr
  subst hr
  exact .end_ (fits hg (Good.bd this hb) hk' (by rintro _ _ ⟨⟩;exact ht.1)) (by simp[step,enter,h17,hk,Nat.not_le.2 hf,h,Re.bind,Re.go])
 | @letStop s t e s' o hf hk h ho ih=>
  intro hg ht hb k r hk' hr
  exact wait hf (by omega) (by unfold bu;omega) (by omega) (aJ (by omega)) h ih hg ht hb hk' fun hK hG=>iv hG hb hK (by simp;omega) ho (fun h=>by simp at h;omega) hr
 | @let_ s t e s' v s'' o hf hk h h' ih ih'=>
  intro hg ht hb k r hk' hr
  have k1:=aS ht (i:=1) (cb (by omega))
  have hG:=(h.eM (cG hg) (aS ht (aJ (by omega)))).zero
  have hb':=(h'.eM hG k1).bd hb
  refine wait hf (by omega) (by unfold bu;omega) (by omega) (aJ (by omega)) h ih hg ht hb' hk' fun hK hG=> ?_
  exact .on (ib hG hb' hK) (m':=⟨.node (aB t 1) (e.with t.h.name v false),s',k⟩) (by simp[step,je,hk]) (ih' hG k1 hb k r (hk'.tick.later (h.eM (cG hg) (aS ht (aJ (by omega))))) hr)
 | @letrecOver s t e s' kd hf hk h=>
  intro hg ht hb k r hk' hr
  have:=(cH N (s.steps) s.store.L.length s.aC.length).fY (s:=tick s) (e:=e) (rho:=t.rho) (c:=⟨aB t 0,t.h.arg,e,some t.aH⟩) ((cH N _ _ _).tick hg.self) (aS ht (aJ (by omega)))
  rw[h]at this
  have h17:t.h.kind≠17:=by omega
  have hnl:¬bu t.h.kind:=by unfold bu;omega
  have hr:r=_:=hr
  subst hr
  exact .end_ (fits hg (Good.bd this hb) hk' (by rintro _ _ ⟨⟩;exact ht.1)) (by simp[step,enter,show ¬bu 13 by unfold bu;omega,hk,Nat.not_le.2 hf,h,Re.bind,Re.go])
 | @letrec s t e s' v s'' o hf hk h h' ih=>
  intro hg ht hb k r hk' hr
  have:=(cH N (s.steps) s.store.L.length s.aC.length).fY (s:=tick s) (e:=e) (rho:=t.rho) (c:=⟨aB t 0,t.h.arg,e,some t.aH⟩) ((cH N _ _ _).tick hg.self) (aS ht (aJ (by omega)))
  rw[h]at this
  have this:Good N s.steps s.store.L.length s.aC.length s':=this
  have hp:=(cH N _ _ _).patch (e:=e.with t.h.name v true) this
  have k1:=aS ht (i:=1) (cb (by omega))
  have hg2:=h'.eM hp.zero k1
  have h17:t.h.kind≠17:=by omega
  have hnl:¬bu t.h.kind:=by unfold bu;omega
  refine .on (fits hg (hp.bd (hg2.bd hb)) hk' (by rintro _ _ ⟨⟩;exact ht.1)) (m':=⟨.node (aB t 1) (e.with t.h.name v true),patch s' (e.with t.h.name v true),k⟩) (by simp[step,enter,show ¬bu 13 by unfold bu;omega,hk,Nat.not_le.2 hf,h,Re.bind,Re.go]) ?_
  exact ih hp.zero k1 hb k r (hk'.later hp) hr
 | @ifStop s t e s' o hf hk h ho ih=>
  intro hg ht hb k r hk' hr
  exact wait hf (by omega) (by unfold bu;omega) (by omega) (aJ (by omega)) h ih hg ht hb hk' fun hK hG=>iv hG hb hK (by simp;omega) ho (fun h=>by simp at h;omega) hr
 | @ifStuck s t e s' v hf hk h hv ih=>
  intro hg ht hb k r hk' hr
  refine wait hf (by omega) (by unfold bu;omega) (by omega) (aJ (by omega)) h ih hg ht hb hk' fun hK hG=> ?_
  have hr:r=_:=hr
  subst hr
  exact .end_ (ib hG hb hK) (by simp[step,je,hk,number,hv,Re.bind,Re.go])
 | @if_ s t e s' v s'' o hf hk h hv h' ih ih'=>
  intro hg ht hb k r hk' hr
  have k1:=aS ht (i:=if v.n≠0 then 1 else 2) (mQ hk)
  have hG:=(h.eM (cG hg) (aS ht (aJ (by omega)))).zero
  have hb':=(h'.eM hG k1).bd hb
  refine wait hf (by omega) (by unfold bu;omega) (by omega) (aJ (by omega)) h ih hg ht hb' hk' fun hK hG=> ?_
  exact .on (ib hG hb' hK) (m':=⟨.node (aB t (if v.n≠0 then 1 else 2)) e,s',k⟩) (by simp[step,je,hk,number,hv,Re.bind,Re.go]) (ih' hG k1 hb k r (hk'.tick.later (h.eM (cG hg) (aS ht (aJ (by omega))))) hr)
 | @try_ s t e s' o hf hk h ho ih=>
  intro hg ht hb k r hk' hr
  refine wait hf (by omega) (by unfold bu;omega) (by omega) (aJ (by omega)) h ih hg ht hb hk' fun hK hG=> ?_
  by_cases hv:o.isVal
  ·cases o with
   | val v=>exact .on (ib hG hb hK) (m':=⟨.val v,s',k⟩) (by simp[step,je,hk]) hr
   | exn n x=>exact hv.elim
   | over kd=>exact hv.elim
  ·exact iv hG hb hK (by simp;omega) hv (fun _=>ho) hr
 | @catch_ s t e s' n s'' o hf hk h h' ih ih'=>
  intro hg ht hb k r hk' hr
  have k1:=aS ht (i:=1) (cb (by omega))
  have hG:=(h.eM (cG hg) (aS ht (aJ (by omega)))).zero
  have hb':=(h'.eM hG k1).bd hb
  refine wait hf (by omega) (by unfold bu;omega) (by omega) (aJ (by omega)) h ih hg ht hb' hk' fun hK hG=> ?_
  exact .on (vH hG hb' hK) (m':=⟨.node (aB t 1) (e.with t.h.arg (num n) false),s',k⟩) (by simp[step,raise,hk]) (ih' hG k1 hb k r (hk'.tick.later (h.eM (cG hg) (aS ht (aJ (by omega))))) hr)
 | @stop1 s t e s' o hf hk h ho ih=>
  intro hg ht hb k r hk' hr
  obtain⟨q1,q2,q3,q4,q5,q6⟩:=lp hk
  exact wait hf q1 q2 q3 (aJ (by omega)) h ih hg ht hb hk' fun hK hG=>iv hG hb hK q1 ho (fun h=>absurd h q4) hr
 | @stop2 s t e s' v s'' o hf hk hl h h' ho ih ih'=>
  intro hg ht hb k r hk' hr
  obtain⟨q1,q2,q3,q4,q5,q6⟩:=lp hk
  have k0:=aS ht (i:=0) (aJ (by omega))
  have k1:=aS ht (i:=1) (by rw[←ht.1.len];omega)
  have hG:=(h.eM (cG hg) k0)
  have hg2:=h'.eM hG.zero k1
  have hb':=hg2.bd hb
  refine wait hf q1 q2 q3 (aJ (by omega)) h ih hg ht hb' hk' fun hK _=> ?_
  refine .on (ib hG.zero hb' hK) (m':=⟨.node (aB t 1) e,s',⟨t,e,[v]⟩::k⟩) (by simp[step,je,q1,q4,q5,q6,hl]) ?_
  have hK2:Ks s' (⟨t,e,[v]⟩::k):=(hk'.cons (s':=tick s) ht.1 (vs:=[v]) (by simp;omega) (by simp[tick])).later hG
  exact ih' hG.zero k1 hb _ r hK2 (iv hg2.zero hb (hK2.later hg2) q1 ho (fun h=>absurd h q4) hr)
 | @rule1 s t e s' v s₂ o hf hk hl h h' ih=>
  intro hg ht hb k r hk' hr
  obtain⟨q1,q2,q3,q4,q5,q6⟩:=lp hk
  have k0:=aS ht (i:=0) (aJ (by omega))
  have hG:=(h.eM (cG hg) k0)
  have hgr:=h'.all ((cH N s'.steps s'.store.L.length s'.aC.length).kc (s:=s') (t:=t) (e:=e) (vs:=[v]) hG.self)
  have hb':=hgr.bd hb
  refine wait hf q1 q2 q3 (aJ (by omega)) h ih hg ht hb' hk' fun hK _=> ?_
  have e1:step fuel ⟨.val v,s',⟨t,e,[]⟩::k⟩=(eJ s' t e [v]).go k:=by simp[step,je,q1,q4,q5,q6,hl]
  exact qn (ib hG.zero hb' hK) e1 h' hr
 | @rule2 s t e s' v s'' w s₃ o hf hk hl h h' h₂ ih ih'=>
  intro hg ht hb k r hk' hr
  obtain⟨q1,q2,q3,q4,q5,q6⟩:=lp hk
  have k0:=aS ht (i:=0) (aJ (by omega))
  have k1:=aS ht (i:=1) (by rw[←ht.1.len];omega)
  have hG:=(h.eM (cG hg) k0)
  have hg2:=h'.eM hG.zero k1
  have hgr:=h₂.all ((cH N s''.steps s''.store.L.length s''.aC.length).kc (s:=s'') (t:=t) (e:=e) (vs:=[v,w]) hg2.self)
  have hb'':=hgr.bd hb
  have hb':=hg2.bd hb''
  refine wait hf q1 q2 q3 (aJ (by omega)) h ih hg ht hb' hk' fun hK _=> ?_
  refine .on (ib hG.zero hb' hK) (m':=⟨.node (aB t 1) e,s',⟨t,e,[v]⟩::k⟩) (by simp[step,je,q1,q4,q5,q6,hl]) ?_
  have hK2:Ks s' (⟨t,e,[v]⟩::k):=(hk'.cons (s':=tick s) ht.1 (vs:=[v]) (by simp;omega) (by simp[tick])).later hG
  refine ih' hG.zero k1 hb'' _ r hK2 ?_
  have e1:step fuel ⟨.val w,s'',⟨t,e,[v]⟩::k⟩=(eJ s'' t e [v,w]).go k:=by simp[step,je,q1,q4,q5,q6,hl]
  exact qn (ib hg2.zero hb'' (hK2.later hg2)) e1 h₂ hr
 | @call s t e s' v s'' w s₃ b e' s₄ o hf hk hl h h' h₂ h₃ ih ih' ih₃=>
  intro hg ht hb k r hk' hr
  obtain⟨q1,q2,q3,q4,q5,q6⟩:=lp hk
  have k0:=aS ht (i:=0) (aJ (by omega))
  have k1:=aS ht (i:=1) (by rw[←ht.1.len];omega)
  have hG:=(h.eM (cG hg) k0)
  have hg2:=h'.eM hG.zero k1
  have hrn:=dG h₂
  obtain⟨rfl,c,fn,_,hf',rfl,rfl,_⟩:=hrn
  have tb:=(aZ N).body hg2.cw hf'
  have hg3:=h₃.eM hg2.zero tb
  have hb'':=hg3.bd hb
  have hb':=hg2.bd hb''
  refine wait hf q1 q2 q3 (aJ (by omega)) h ih hg ht hb' hk' fun hK _=> ?_
  refine .on (ib hG.zero hb' hK) (m':=⟨.node (aB t 1) e,s',⟨t,e,[v]⟩::k⟩) (by simp[step,je,q1,q4,q5,q6,hl]) ?_
  have hK2:Ks s' (⟨t,e,[v]⟩::k):=(hk'.cons (s':=tick s) ht.1 (vs:=[v]) (by simp;omega) (by simp[tick])).later hG
  refine ih' hG.zero k1 hb'' _ r hK2 ?_
  have e1:step fuel ⟨.val w,s₃,⟨t,e,[v]⟩::k⟩=(eJ s₃ t e [v,w]).go k:=by simp[step,je,q1,q4,q5,q6,hl]
  rw[h₂]at e1
  exact .on (ib hg2.zero hb'' (hK2.later hg2)) e1 (ih₃ hg2.zero tb hb k r ((hk'.tick.later hG).later hg2) hr)
end Go.Abs.Mac
set_option linter.unusedVariables false
set_option linter.unusedSimpArgs false
namespace Go.Abs.Mac
open Go Go.Abs Go.Abs.Stk Go.Abs.At
theorem eY (N:Nat) (l:List Nat) (m:Nat):lV (fun s=>s.store.live=l∧s.steps=m∧CW (TN N) s) (TN N) where
 kid:=(aZ N).kid
 wf:=(aZ N).wf
 put:=@fun s r c v st h _ hp=>by
  obtain⟨i,row,rfl,h1,_,_,rfl⟩:=e9 hp
  exact⟨(SG.my h1 _).trans h.1,h.2⟩
 code:=fun h hc=>⟨h.1,h.2.1,(aZ N).code h.2.2 hc⟩
 codePut:=@fun s co r v st h hc hp=>by
  obtain⟨i,row,rfl,h1,_,_,rfl⟩:=e9 hp
  exact⟨(SG.my h1 _).trans h.1,h.2.1,(aZ N).code h.2.2 hc⟩
 set:=@fun s v c h _=>⟨(jZ _ _ _).1.trans h.1,h.2⟩
 body:=fun h hi=>(aZ N).body h.2.2 hi
def Out.cB:Out→Prop
 | .over _=>True
 | _=>False
structure Left (fuel N:Nat) (s s':Sa) (o:Out):Prop where
 steps:s'.steps≤fuel
 one:1≤s'.store.live.length
 same:¬o.cB→s'.store.live=s.store.live
 cw:CW (TN N) s'
theorem qh {s:SG Cl} {l:List Nat} {n:Nat} (h:s.live=l++ [n]) (hl:1≤l.length):(cz s).live=l:=by
 unfold cz
 have h1:¬s.live.length<2:=by rw[h];simp;omega
 rw[if_neg h1]
 have h2:s.live.getLast?=some n:=by rw[h];simp
 rw[h2]
 simp only
 rw[SG.jR h2,h];simp
theorem Left.of {fuel N s s'} {o:Out} (h:s'.store.live=s.store.live∧s'.steps=s.steps+1∧CW (TN N) s') (hs:s.steps<fuel) (h1:1≤s.store.live.length):Left fuel N s s' o:=⟨by omega,by rw[h.1];exact h1,fun _=>h.1,h.2.2⟩
theorem Big.left {fuel N s t e s' o} (h:Big fuel s t e s' o):CW (TN N) s→TN N t→1≤s.store.live.length→s.steps≤fuel→Left fuel N s s' o:=by
 induction h with
 | full hk h=>exact fun hs ht h1 hf=>⟨hf,h1,fun h=>(h trivial).elim,hs⟩
 | @region s t e r st s' o hk h h' ih=>
  intro hs ht h1 hf
  obtain⟨_,rfl,rfl⟩:=gu h
  have hl:s.store.more.live=s.store.live++ [s.store.L.length]:=SG.ik _
  have:=ih hs (aS ht (aJ (by omega))) (by show 1≤s.store.more.live.length;rw[hl];simp) hf
  obtain⟨p1,p2,p3⟩:=jV o s'
  cases o with
  | over k=>exact⟨this.steps,this.one,fun h=>(h trivial).elim,this.cw⟩
  | val v=>
   have e:(cz s'.store).live=s.store.live:=qh ((this.same (by simp[Out.cB])).trans hl) h1
   exact⟨this.steps,by show 1≤(cz s'.store).live.length;rw[e];exact h1,fun _=>e,this.cw⟩
  | exn n x=>
   have e:(cz s'.store).live=s.store.live:=qh ((this.same (by simp[Out.cB])).trans hl) h1
   exact⟨this.steps,by show 1≤(cz s'.store).live.length;rw[e];exact h1,fun _=>e,this.cw⟩
 | fuel hk h=>exact fun hs ht h1 hf=>⟨hf,h1,fun h=>(h trivial).elim,hs⟩
 | @leaf s t e s' v hf hk h=>
  intro hs ht h1 _
  have:=(eY N s.store.live (s.steps+1)).ka (s:=tick s) (e:=e) ⟨rfl,rfl,hs⟩ ht hk
  rw[h]at this
  exact .of this hf h1
 | @leafOver s t e s' k hf hk h=>
  intro hs ht h1 _
  have:=(eY N s.store.live (s.steps+1)).ka (s:=tick s) (e:=e) ⟨rfl,rfl,hs⟩ ht hk
  rw[h]at this
  exact .of this hf h1
 | @letStop s t e s' o hf hk h ho ih=>
  intro hs ht h1 _
  have a:=ih hs (aS ht (aJ (by omega))) h1 hf
  exact⟨a.steps,a.one,a.same,a.cw⟩
 | @let_ s t e s' v s'' o hf hk h h' ih ih'=>
  intro hs ht h1 _
  have a:=ih hs (aS ht (aJ (by omega))) h1 hf
  have b:=ih' a.cw (aS ht (cb (by omega))) a.one a.steps
  exact⟨b.steps,b.one,fun h=>(b.same h).trans (a.same (by simp[Out.cB])),b.cw⟩
 | @letrecOver s t e s' k hf hk h=>
  intro hs ht h1 _
  have:=(eY N s.store.live (s.steps+1)).fY (s:=tick s) (e:=e) (rho:=t.rho) (c:=⟨aB t 0,t.h.arg,e,some t.aH⟩) ⟨rfl,rfl,hs⟩ (aS ht (aJ (by omega)))
  rw[h]at this
  exact .of this hf h1
 | @letrec s t e s' v s'' o hf hk h h' ih=>
  intro hs ht h1 _
  have:=(eY N s.store.live (s.steps+1)).fY (s:=tick s) (e:=e) (rho:=t.rho) (c:=⟨aB t 0,t.h.arg,e,some t.aH⟩) ⟨rfl,rfl,hs⟩ (aS ht (aJ (by omega)))
  rw[h]at this
  obtain⟨a1,a2,a3⟩:=this
  have b:=ih ((aZ N).patch a3) (aS ht (cb (by omega))) (by rw[cK,a1];exact h1) (by rw[dv];omega)
  exact⟨b.steps,b.one,fun h=>by rw[b.same h,cK,a1],b.cw⟩
 | @ifStop s t e s' o hf hk h ho ih=>
  intro hs ht h1 _
  have a:=ih hs (aS ht (aJ (by omega))) h1 hf
  exact⟨a.steps,a.one,a.same,a.cw⟩
 | @ifStuck s t e s' v hf hk h hv ih=>
  intro hs ht h1 _
  have a:=ih hs (aS ht (aJ (by omega))) h1 hf
  exact⟨a.steps,a.one,fun h=>(h trivial).elim,a.cw⟩
 | @if_ s t e s' v s'' o hf hk h hv h' ih ih'=>
  intro hs ht h1 _
  have a:=ih hs (aS ht (aJ (by omega))) h1 hf
  have b:=ih' a.cw (aS ht (mQ hk)) a.one a.steps
  exact⟨b.steps,b.one,fun h=>(b.same h).trans (a.same (by simp[Out.cB])),b.cw⟩
 | @try_ s t e s' o hf hk h ho ih=>
  intro hs ht h1 _
  have a:=ih hs (aS ht (aJ (by omega))) h1 hf
  exact⟨a.steps,a.one,a.same,a.cw⟩
 | @catch_ s t e s' n s'' o hf hk h h' ih ih'=>
  intro hs ht h1 _
  have a:=ih hs (aS ht (aJ (by omega))) h1 hf
  have b:=ih' a.cw (aS ht (cb (by omega))) a.one a.steps
  exact⟨b.steps,b.one,fun h=>(b.same h).trans (a.same (by simp[Out.cB])),b.cw⟩
 | @stop1 s t e s' o hf hk h ho ih=>
  intro hs ht h1 _
  have a:=ih hs (aS ht (aJ (by omega))) h1 hf
  exact⟨a.steps,a.one,a.same,a.cw⟩
 | @stop2 s t e s' v s'' o hf hk hl h h' ho ih ih'=>
  intro hs ht h1 _
  have a:=ih hs (aS ht (aJ (by omega))) h1 hf
  have b:=ih' a.cw (aS ht (by rw[←ht.1.len];omega)) a.one a.steps
  exact⟨b.steps,b.one,fun h=>(b.same h).trans (a.same (by simp[Out.cB])),b.cw⟩
 | @rule1 s t e s' v s₂ o hf hk hl h h' ih=>
  intro hs ht h1 _
  have a:=ih hs (aS ht (aJ (by omega))) h1 hf
  obtain⟨r1,r2,r3⟩:=h'.all ((eY N s'.store.live s'.steps).kc (s:=s') (t:=t) (e:=e) (vs:=[v]) ⟨rfl,rfl,a.cw⟩)
  exact⟨by rw[r2];exact a.steps,by rw[r1];exact a.one,fun _=>by rw[r1];exact a.same (by simp[Out.cB]),r3⟩
 | @rule2 s t e s' v s'' w s₃ o hf hk hl h h' h₂ ih ih'=>
  intro hs ht h1 _
  have a:=ih hs (aS ht (aJ (by omega))) h1 hf
  have b:=ih' a.cw (aS ht (by rw[←ht.1.len];omega)) a.one a.steps
  obtain⟨r1,r2,r3⟩:=h₂.all ((eY N s''.store.live s''.steps).kc (s:=s'') (t:=t) (e:=e) (vs:=[v,w]) ⟨rfl,rfl,b.cw⟩)
  exact⟨by rw[r2];exact b.steps,by rw[r1];exact b.one,fun _=>by rw[r1,b.same (by simp[Out.cB])];exact a.same (by simp[Out.cB]),r3⟩
 | @call s t e s' v s'' w s₃ b e' s₄ o hf hk hl h h' h₂ h₃ ih ih' ih₃=>
  intro hs ht h1 _
  have a:=ih hs (aS ht (aJ (by omega))) h1 hf
  have b:=ih' a.cw (aS ht (by rw[←ht.1.len];omega)) a.one a.steps
  obtain⟨rfl,c,fn,_,hf',rfl,rfl,_⟩:=dG h₂
  have c:=ih₃ b.cw ((aZ N).body b.cw hf') b.one b.steps
  exact⟨c.steps,c.one,fun h=>by rw[c.same h,b.same (by simp[Out.cB])];exact a.same (by simp[Out.cB]),c.cw⟩
end Go.Abs.Mac
