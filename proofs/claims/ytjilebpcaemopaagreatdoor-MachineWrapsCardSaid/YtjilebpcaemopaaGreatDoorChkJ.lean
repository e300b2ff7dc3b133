import Derived.Test.YtjilebpcaemopaaGreatDoorChkI
import Derived.Test.YtjilebpcaemopaaGreatDoorSafeA
import Derived.Test.YtjilebpcaemopaaGreatDoorMacMay
set_option linter.unusedVariables false
set_option linter.unusedSimpArgs false
set_option linter.deprecated false
namespace Go.Abs.Chk
open Go Go.Abs Go.Abs.At Go.Abs.Safe
def Gd (t:RT):Prop:=t.small∧Shp t
theorem kL {l:List RT}:qI l↔∀t∈l,Shp t:=by
 induction l with
 | nil=>simp[qI]
 | cons t l ih=>simp[qI,ih]
theorem dR {l:List RT}:RT.cn l↔∀t∈l,t.small:=by
 induction l with
 | nil=>simp[RT.cn]
 | cons t l ih=>simp[RT.cn,ih]
theorem l9:Gd one:=⟨⟨⟨by simp,by simp⟩,trivial⟩,by simp[one,Shp,qI]⟩
theorem nB:Gd bU:=⟨⟨⟨by simp,by simp⟩,trivial⟩,by simp[bU,Shp,qI]⟩
theorem Gd.aS {t:RT} (h:Gd t) (i:Nat):Gd (aS t i):=by
 obtain⟨k,r,e,ks⟩:=t
 unfold Chk.aS
 simp only[RT.kids]
 cases hi:ks[i]? with
 | none=>exact nB
 | some x=>
  have hm:=List.mem_of_getElem? hi
  exact⟨dR.1 h.1.2 x hm,kL.1 h.2.2.2.2 x hm⟩
theorem uj {fr to:List Int} {e:List Atom} (h:iY e):iY (gA fr to e):=by
 refine⟨Nat.le_trans (qA fr to e) h.1,fun a ha=> ?_⟩
 have:=y7 (fun a=>bL a=true) (gO fr to) (l:=e) (acc:=[]) (b:=a)
 unfold gA at ha
 rw[this]at ha
 rcases ha with ha | ⟨c,hc,_,rfl,_⟩
 ·simp at ha
 ·have:(gO fr to c).exn=c.exn:=by unfold gO;split<;>rfl
  rw[this];exact h.2 c hc
theorem uW (fr to:List Int) (l:List RT):(cU fr to l).length=l.length:=by
 induction l with
 | nil=>rfl
 | cons t l ih=>simp[cU,ih]
mutual
theorem Gd.swapT {fr to:List Int}:∀ {t:RT},Gd t→Gd (swapT fr to t)
 | .mk k r e ks,h=>by
  have hks:∀t∈ks,Gd t:=fun t ht=>⟨dR.1 h.1.2 t ht,kL.1 h.2.2.2.2 t ht⟩
  have:=Gds.swapT (fr:=fr) (to:=to) hks
  have hl:=uW fr to ks
  simp only[Chk.swapT]
  split
  ·exact⟨⟨h.1.1,dR.2 fun t ht=>(this t ht).1⟩,⟨by rw[hl];exact h.2.1,by rw[hl];exact h.2.2.1,by rw[hl];exact h.2.2.2.1,kL.2 fun t ht=>(this t ht).2⟩⟩
  ·exact⟨⟨uj h.1.1,dR.2 fun t ht=>(this t ht).1⟩,⟨by rw[hl];exact h.2.1,by rw[hl];exact h.2.2.1,by rw[hl];exact h.2.2.2.1,kL.2 fun t ht=>(this t ht).2⟩⟩
theorem Gds.swapT {fr to:List Int}:∀ {l:List RT},(∀t∈l,Gd t)→∀t∈cU fr to l,Gd t
 | [],_,t,h=>by simp[cU]at h
 | a::l,h,t,ht=>by
  simp only[cU,List.mem_cons]at ht
  rcases ht with rfl | ht
  ·exact Gd.swapT (h a (by simp))
  ·exact Gds.swapT (fun x hx=>h x (by simp[hx])) t ht
end
theorem xq {k:Int} {n:Nat} (h:n=eO k):(k=2→n=2)∧(k=3→n=1)∧(k=4→n=2):=by
 unfold eO at h
 refine⟨fun e=> ?_,fun e=> ?_,fun e=> ?_⟩<;>rw[e]at h<;>simpa using h
mutual
theorem rp:∀ {t:RT},t.may=true→Shp t
 | .mk k r e ks,h=>by
  simp only[RT.may,Bool.and_eq_true]at h
  have h1:=h.1
  unfold cT at h1
  simp only[Bool.and_eq_true,RT.kind,RT.kids]at h1
  have:=xq (k:=k) (n:=ks.length) (of_decide_eq_true h1.1.1.1.1.2)
  exact⟨this.1,this.2.1,this.2.2,sM h.2⟩
theorem sM:∀ {l:List RT},RT.mh l=true→qI l
 | [],_=>trivial
 | t::ts,h=>by
  simp only[RT.mh,Bool.and_eq_true]at h
  exact⟨rp h.1,sM h.2⟩
end
structure Gt (t:AT):Prop where
 ok:t.Ok
 may:∀n∈t.all,bN n=true
theorem Gt.kid {t k:AT} (h:Gt t) (hk:k∈t.kids):Gt k:=by
 refine⟨h.ok.kid hk,fun n hn=>h.may n ?_⟩
 rw[all_cons,lY]
 exact List.mem_cons_of_mem _ (List.mem_flatMap.2 ⟨k,hk,hn⟩)
theorem Gt.aB {t:AT} (h:Gt t) (i:Nat):Gt (Mac.aB t i):=by
 unfold Mac.aB
 cases hi:t.kids[i]? with
 | none=>exact h
 | some k=>exact h.kid (List.mem_of_getElem? hi)
theorem qf {t:AT} (h:bN t=true):(t.h.kind=11∨t.h.kind=13∨t.h.kind=15→t.type.may=true)∧(t.h.kind=13→t.res.may=true):=by
 unfold bN at h
 simp only[Bool.and_eq_true]at h
 have h1:=h.1.2
 have h2:=h.2
 refine⟨fun hk=> ?_,fun hk=> ?_⟩
 ·have:t.h.kind∈[(11:Int),13,15]:=by rcases hk with e | e | e<;>simp[e]
  rwa [if_pos this]at h1
 ·rwa [if_pos hk]at h2
theorem Gt.type {t:AT} (h:Gt t) (hk:t.h.kind=11∨t.h.kind=13∨t.h.kind=15):Gd t.type:=⟨h.ok.type.small,rp ((qf (h.may t (lM t))).1 hk)⟩
theorem Gt.res {t:AT} (h:Gt t) (hk:t.h.kind=13):Gd t.res:=⟨h.ok.res.small,rp ((qf (h.may t (lM t))).2 hk)⟩
theorem rW {t:AT} (h:t.Ok):iY t.eff:=by obtain⟨a,b,c,d,e,f,g⟩:=t;exact h.1.2.2.1
def GB (b:Bd):Prop:=(b.fn=false→Gd b.t)∧(b.fn=true→Gt b.f∧b.f.h.kind=13)
def GG (Γ:List Bd):Prop:=∀b∈Γ,GB b
theorem GG.add {Γ:List Bd} (h:GG Γ) {b:Bd} (hb:GB b):GG (Γ++ [b]):=fun x hx=>by
 rcases List.mem_append.1 hx with hx | hx
 ·exact h x hx
 ·rw[List.mem_singleton.1 hx];exact hb
theorem kz {nm:ByteArray} {t:RT} (h:Gd t):GB (jF nm t):=⟨fun _=>h,fun h=>by simp at h⟩
theorem ur {t:AT} (h:Gt t) (hk:t.h.kind=13):GB (sX t):=⟨fun h=>by simp at h,fun _=>⟨h,hk⟩⟩
theorem db (l:List Atom):(ofA l).length≤l.length:=by
 have:∀(l acc:List Atom),(l.foldl dc acc).length≤acc.length+l.length:=by
  intro l
  induction l with
  | nil=>intro acc;simp
  | cons a l ih=>
   intro acc
   simp only[List.foldl_cons,List.length_cons]
   have:=@eG a acc
   refine Nat.le_trans (ih _) ?_
   omega
 simpa [ofA] using this l []
theorem px {t:AT} (h:t.kids.length=1):t.size=1+(Mac.aB t 0).size:=by
 have:=yY h
 obtain⟨a,b,c,d,e,f,g⟩:=t
 simp only[AT.kids]at this
 simp only[AT.size]
 rw[this];simp[AT.aI];rw[←this]
theorem kJ {t:AT} (h:t.kids.length=2):t.size=1+(Mac.aB t 0).size+(Mac.aB t 1).size:=by
 have:=yZ h
 obtain⟨a,b,c,d,e,f,g⟩:=t
 simp only[AT.kids]at this
 simp only[AT.size]
 rw[this];simp[AT.aI];rw[←this];omega
theorem GM {t:AT} (h:t.kids.length=3):t.size=1+(Mac.aB t 0).size+(Mac.aB t 1).size+(Mac.aB t 2).size:=by
 have:=y3 h
 obtain⟨a,b,c,d,e,f,g⟩:=t
 simp only[AT.kids]at this
 simp only[AT.size]
 rw[this];simp[AT.aI];rw[←this];omega
theorem F4 {t:RT} (h:Gd t):t.eff.length≤100:=by obtain⟨k,r,e,ks⟩:=t;exact h.1.1.1
theorem Ty.gd {Γ rs t T E} (h:Ty Γ rs t T E):GG Γ→Gt t→Mac.Wf t→Gd T∧E.length≤102 * t.size:=by
 have hpos:∀t:AT,1≤t.size:=fun t=>t.size_pos
 induction h with
 | @num Γ rs t hr hk=>exact fun _ _ _=>⟨l9,by simp⟩
 | @var Γ rs t b hr hk hf hb=>exact fun hG _ _=>⟨(hG _ (ou hf)).1 hb,by simp⟩
 | @inst Γ rs t b hr hk hf hb hl hw=>
  intro hG ht hwf
  obtain⟨h1,h2⟩:=(hG _ (ou hf)).2 hb
  have g1:=(h1.type (.inr (.inl h2))).swapT (fr:=b.f.aH) (to:=t.aH)
  have g2:=(h1.res h2).swapT (fr:=b.f.aH) (to:=t.aH)
  have hl2:=db [fL b.f.rho,putAt t.rho]
  have:=hpos t
  exact⟨⟨⟨rW ht.ok,g1.1,g2.1,trivial⟩,by simp,by simp,by simp,g1.2,g2.2,trivial⟩,by simp only[List.length_cons,List.length_nil]at hl2;omega⟩
 | @pair Γ rs t a e0 b e1 hr hk h0 h1 ih0 ih1=>
  intro hG ht hwf
  have hn:Mac.nk t.h.kind=2:=by rw[hk];rfl
  obtain⟨i0,l0⟩:=ih0 hG (ht.aB 0) (hwf.kid (by omega))
  obtain⟨i1,l1⟩:=ih1 hG (ht.aB 1) (hwf.kid (by omega))
  have hl:=db (e0++e1++ [putAt t.rho])
  have hs:=kJ (t:=t) (by rw[hwf.len,hn])
  exact⟨⟨⟨⟨by simp,by simp⟩,i0.1,i1.1,trivial⟩,by simp,by simp,by simp,i0.2,i1.2,trivial⟩,by simp only[List.length_append,List.length_cons,List.length_nil]at hl;omega⟩
 | @proj Γ rs t a e0 hr hk h0 ha ih0=>
  intro hG ht hwf
  have hn:Mac.nk t.h.kind=1:=by rcases hk with h | h<;>rw[h]<;>rfl
  obtain⟨i0,l0⟩:=ih0 hG (ht.aB 0) (hwf.kid (by omega))
  have hl:=db (e0++ [fL a.rho])
  have hs:=px (t:=t) (by rw[hwf.len,hn])
  exact⟨i0.aS _,by simp only[List.length_append,List.length_cons,List.length_nil]at hl;omega⟩
 | @ref Γ rs t a e0 hr hk h0 ih0=>
  intro hG ht hwf
  have hn:Mac.nk t.h.kind=1:=by rw[hk];rfl
  obtain⟨i0,l0⟩:=ih0 hG (ht.aB 0) (hwf.kid (by omega))
  have hl:=db (e0++ [putAt t.rho])
  have hs:=px (t:=t) (by rw[hwf.len,hn])
  exact⟨⟨⟨⟨by simp,by simp⟩,i0.1,trivial⟩,by simp,by simp,by simp,i0.2,trivial⟩,by simp only[List.length_append,List.length_cons,List.length_nil]at hl;omega⟩
 | @get Γ rs t a e0 hr hk h0 ha ih0=>
  intro hG ht hwf
  have hn:Mac.nk t.h.kind=1:=by rw[hk];rfl
  obtain⟨i0,l0⟩:=ih0 hG (ht.aB 0) (hwf.kid (by omega))
  have hl:=db (e0++ [fL a.rho])
  have hs:=px (t:=t) (by rw[hwf.len,hn])
  exact⟨i0.aS _,by simp only[List.length_append,List.length_cons,List.length_nil]at hl;omega⟩
 | @set Γ rs t a e0 b e1 hr hk h0 h1 ha hsm ih0 ih1=>
  intro hG ht hwf
  have hn:Mac.nk t.h.kind=2:=by rw[hk];rfl
  obtain⟨i0,l0⟩:=ih0 hG (ht.aB 0) (hwf.kid (by omega))
  obtain⟨i1,l1⟩:=ih1 hG (ht.aB 1) (hwf.kid (by omega))
  have hl:=db (e0++e1++ [putAt a.rho])
  have hs:=kJ (t:=t) (by rw[hwf.len,hn])
  exact⟨l9,by simp only[List.length_append,List.length_cons,List.length_nil]at hl;omega⟩
 | @op Γ rs t a e0 b e1 hr hk h0 h1 ha hb ih0 ih1=>
  intro hG ht hwf
  have hn:Mac.nk t.h.kind=2:=by rw[hk];rfl
  obtain⟨i0,l0⟩:=ih0 hG (ht.aB 0) (hwf.kid (by omega))
  obtain⟨i1,l1⟩:=ih1 hG (ht.aB 1) (hwf.kid (by omega))
  have hl:=db (e0++e1)
  have hs:=kJ (t:=t) (by rw[hwf.len,hn])
  exact⟨l9,by simp only[List.length_append,List.length_cons,List.length_nil]at hl;omega⟩
 | @app Γ rs t a e0 b e1 hr hk h0 h1 ha hsm ih0 ih1=>
  intro hG ht hwf
  have hn:Mac.nk t.h.kind=2:=by rw[hk];rfl
  obtain⟨i0,l0⟩:=ih0 hG (ht.aB 0) (hwf.kid (by omega))
  obtain⟨i1,l1⟩:=ih1 hG (ht.aB 1) (hwf.kid (by omega))
  have hl:=db (e0++e1++ [fL a.rho]++a.eff)
  have hs:=kJ (t:=t) (by rw[hwf.len,hn])
  have:=F4 i0
  exact⟨i0.aS 1,by simp only[List.length_append,List.length_cons,List.length_nil]at hl;omega⟩
 | @fn Γ rs t a e0 hr hk h0 hw ih0=>
  intro hG ht hwf
  have hn:Mac.nk t.h.kind=1:=by rw[hk];rfl
  have gt:=ht.type (.inl hk)
  obtain⟨i0,l0⟩:=ih0 (hG.add (kz gt)) (ht.aB 0) (hwf.kid (by omega))
  have hl:=db [putAt t.rho]
  have:=hpos t
  exact⟨⟨⟨rW ht.ok,gt.1,i0.1,trivial⟩,by simp,by simp,by simp,gt.2,i0.2,trivial⟩,by simp only[List.length_append,List.length_cons,List.length_nil]at hl;omega⟩
 | @let_ Γ rs t a e0 b e1 hr hk h0 h1 ih0 ih1=>
  intro hG ht hwf
  have hn:Mac.nk t.h.kind=2:=by rw[hk];rfl
  obtain⟨i0,l0⟩:=ih0 hG (ht.aB 0) (hwf.kid (by omega))
  obtain⟨i1,l1⟩:=ih1 (hG.add (kz i0)) (ht.aB 1) (hwf.kid (by omega))
  have hl:=db (e0++e1)
  have hs:=kJ (t:=t) (by rw[hwf.len,hn])
  exact⟨i1,by simp only[List.length_append,List.length_cons,List.length_nil]at hl;omega⟩
 | @letrec Γ rs t a e0 b e1 hr hk h0 hsm hw h1 ih0 ih1=>
  intro hG ht hwf
  have hn:Mac.nk t.h.kind=2:=by rw[hk];rfl
  obtain⟨i1,l1⟩:=ih1 (hG.add (ur ht hk)) (ht.aB 1) (hwf.kid (by omega))
  have hl:=db (putAt t.rho::e1)
  have hs:=kJ (t:=t) (by rw[hwf.len,hn])
  exact⟨i1,by simp only[List.length_append,List.length_cons,List.length_nil]at hl;omega⟩
 | @if_ Γ rs t a e0 b e1 c e2 hr hk h0 h1 h2 ha hsm ih0 ih1 ih2=>
  intro hG ht hwf
  have hn:Mac.nk t.h.kind=3:=by rw[hk];rfl
  obtain⟨i0,l0⟩:=ih0 hG (ht.aB 0) (hwf.kid (by omega))
  obtain⟨i1,l1⟩:=ih1 hG (ht.aB 1) (hwf.kid (by omega))
  obtain⟨i2,l2⟩:=ih2 hG (ht.aB 2) (hwf.kid (by omega))
  have hl:=db (e0++e1++e2)
  have hs:=GM (t:=t) (by rw[hwf.len,hn])
  exact⟨i1,by simp only[List.length_append,List.length_cons,List.length_nil]at hl;omega⟩
 | @raise Γ rs t a e0 hr hk h0 ha ih0=>
  intro hG ht hwf
  have hn:Mac.nk t.h.kind=1:=by rw[hk];rfl
  obtain⟨i0,l0⟩:=ih0 hG (ht.aB 0) (hwf.kid (by omega))
  have hl:=db (e0++ [sq t.h.exn])
  have hs:=px (t:=t) (by rw[hwf.len,hn])
  exact⟨ht.type (.inr (.inr hk)),by simp only[List.length_append,List.length_cons,List.length_nil]at hl;omega⟩
 | @try_ Γ rs t a e0 b e1 hr hk h0 h1 hsm ih0 ih1=>
  intro hG ht hwf
  have hn:Mac.nk t.h.kind=2:=by rw[hk];rfl
  obtain⟨i0,l0⟩:=ih0 hG (ht.aB 0) (hwf.kid (by omega))
  obtain⟨i1,l1⟩:=ih1 (hG.add (kz l9)) (ht.aB 1) (hwf.kid (by omega))
  have hl:=db (eC e0 [t.h.exn]++e1)
  have hh:=jA e0 [t.h.exn]
  have hs:=kJ (t:=t) (by rw[hwf.len,hn])
  exact⟨i0,by simp only[List.length_append,List.length_cons,List.length_nil]at hl;omega⟩
 | @region Γ rs t a e0 hr hk h0 hn' ih0=>
  intro hG ht hwf
  have hn:Mac.nk t.h.kind=1:=by rw[hk];rfl
  obtain⟨i0,l0⟩:=ih0 hG (ht.aB 0) (hwf.kid (by omega))
  have hl:=db (fo e0 [t.rho])
  have hw:=m8 e0 [t.rho]
  have hs:=px (t:=t) (by rw[hwf.len,hn])
  exact⟨i0,by omega⟩
theorem Ch {t:AT} {r:Rr} (h:(jt t r).no≠0) (hr:r.no≠0→r.e= []):(jt t r).e= []:=by
 unfold jt at h⊢
 split
 ·rfl
 ·rename_i h1;rw[if_neg h1]at h;exact hr h
theorem yE:∀(d:Nat) Γ rs t,(fdM d Γ rs t).no≠0→(fdM d Γ rs t).e= []
 | 0,Γ,rs,t,_=>rfl
 | d+1,Γ,rs,t,h=>by
  simp only[fdM]at h⊢
  refine Ch h fun h=> ?_
  unfold cY at h⊢
  split
  ·rfl
  ·rename_i h1;rw[if_neg h1]at h
   split
   ·rename_i h2;rw[if_pos h2]at h
    unfold nj at h⊢
    split
    ·rfl
    ·rename_i b hb;rw[hb]at h;simp only at h
     repeat' split
     all_goals first | rfl | (exfalso;simp_all)
   ·rename_i h2;rw[if_neg h2]at h
    have:∀cs k r,Chk.bo (fdM d) Γ rs t cs k= .inl r→r.no≠0∧r.e= []:=by
     intro cs
     induction cs with
     | nil=>intro k r h;simp[Chk.bo]at h
     | cons c cs ih=>
      intro k r h
      simp only[Chk.bo]at h
      split at h
      ·rename_i h1;cases h;exact⟨h1,yE d _ _ _ h1⟩
      ·exact ih _ _ h
    split
    ·rename_i r hr;exact(this _ _ _ hr).2
    ·rename_i k hk;rw[hk]at h;simp only at h
     unfold jJ at h⊢
     generalize dy t k=q at h⊢
     obtain⟨a,b,c,e⟩:=q
     cases a
     ·rfl
     ·cases b
      ·rfl
      ·simp at h
theorem wI {t:AT} {r:Rr} (h:(jt t r).no=0):(jt t r).t.size≤500:=by
 unfold jt at h⊢
 split
 ·rename_i h1;rw[if_pos h1]at h;simp[bad]at h
 ·rename_i h1;rw[if_neg h1]at h;omega
theorem vE:∀(d:Nat) Γ rs t,(fdM d Γ rs t).no=0→(fdM d Γ rs t).t.size≤500
 | 0,Γ,rs,t,h=>by simp[fdM,bad]at h
 | d+1,Γ,rs,t,h=>by simp only[fdM]at h⊢;exact wI h
theorem Cr {d:Nat} {Γ:List Bd} {rs:List Int} {t:AT} (hG:GG Γ) (ht:Gt t) (hw:Mac.Wf t):(fdM d Γ rs t).e.length≤102 * t.size∧((fdM d Γ rs t).no=0→FT (fdM d Γ rs t).t):=by
 by_cases h:(fdM d Γ rs t).no=0
 ·have:=Ty.gd (yF d Γ rs t hw h) hG ht hw
  exact⟨this.2,fun _=>⟨⟨this.1.1,by have:=vE d Γ rs t h;omega⟩,this.1.2⟩⟩
 ·rw[yE d Γ rs t h];exact⟨by simp,fun h'=>absurd h' h⟩
end Go.Abs.Chk
set_option linter.unusedVariables false
set_option linter.unusedSimpArgs false
set_option linter.deprecated false
namespace Go.Abs.Chk
open Go Go.Abs Go.Abs.At Go.Abs.Safe Go.Proofs.ChkD
attribute [local simp] Nat.add_assoc
variable {σ φ:ah} {k kp:AV→ah→Prop}
attribute [local simp] ix0 ix1 ix2 DU C5 rr_h Gu Gv Gw DT DP DQ DR zI Dy yc DI
theorem Gx (r:Rr):r.av[6]?=some (int r.no):=by obtain⟨⟨_,_,_,_⟩,e,p,n⟩:=r;rfl
theorem DS (r:Rr) (h:6<r.av.length):r.av[6]'h=int r.no:=nr (Option.some.inj ((List.getElem?_eq_getElem h).symm.trans (Gx r)))
attribute [local simp] Gx DS
theorem ac_rr (r:Rr):br (.agg r.av)=some r.av:=nr rfl
attribute [local simp] ac_rr
structure pE (env:List Bd):Prop where
 gg:GG env
 ok:∀b∈env,b.t.size≤2000∧b.t.small
theorem pE.env {env:List Bd} (h:pE env):Dr env:=fun b hb=>⟨⟨(h.ok b hb).2,(h.ok b hb).1⟩,fun hf=>((h.gg b hb).2 hf).1.ok⟩
def Ds (d:Nat):Prop:=∀(env:List Bd) (rs:List Int) (t:AT),t.size≤d→pE env→Gt t→Mac.Wf t→env.length+2 * t.size≤100000→rs.length+51 * t.size≤100000→
 ∀(σ:ah) (k kp:AV→ah→Prop),k (fdM d env rs t).v σ→Ev PR 35 [dt env,aO rs,t.v] σ k kp
theorem pE.add {env:List Bd} (h:pE env) {b:Bd} (h1:GB b) (h2:b.t.size≤2000∧b.t.small):pE (env++ [b]):=⟨h.gg.add h1,fun x hx=>by
 rcases List.mem_append.1 hx with hx | hx
 ·exact h.ok x hx
 ·rw[List.mem_singleton.1 hx];exact h2⟩
theorem r0_ft {ks:List Rr} (h:∀r∈ks,FT r.t) (i:Nat):FT (r0 ks i).t:=by
 unfold r0
 cases hi:ks[i]? with
 | none=>exact⟨⟨nB.1,by simp[bU,RT.size,RT.aI]⟩,nB.2⟩
 | some r=>exact h r (List.mem_of_getElem? hi)
theorem CB {env:List Bd} {rs:List Int} {t:AT} {i:Nat} {ks:List Rr} (h:pE env) (ht:Gt t) (hf:∀r∈ks,FT r.t):
 pE (aU env rs t i ks).1∧(aU env rs t i ks).1.length≤env.length+2∧(aU env rs t i ks).2.length≤rs.length+50:=by
 have hrl:=kQ ht.ok
 have h1:(one:RT).size≤2000∧one.small:=⟨by simp[one,RT.size,RT.aI],l9.1⟩
 have h0:(bU:RT).size≤2000∧bU.small:=⟨by simp[bU,RT.size,RT.aI],nB.1⟩
 have hty:t.type.size≤2000∧t.type.small:=⟨by have:=ht.ok.type.size;omega,ht.ok.type.small⟩
 unfold aU
 by_cases c11:t.h.kind=11
 ·rw[if_pos c11]
  exact⟨h.add (kz (ht.type (.inl c11))) hty,by simp,by simp⟩
 rw[if_neg c11]
 by_cases c12:t.h.kind=12
 ·rw[if_pos c12]
  split
  ·have:=r0_ft hf 0
   exact⟨h.add (kz ⟨this.ok.small,this.shp⟩) ⟨this.ok.size,this.ok.small⟩,by simp,by simp⟩
  ·exact⟨h,by simp,by simp⟩
 rw[if_neg c12]
 by_cases c13:t.h.kind=13
 ·rw[if_pos c13]
  split
  ·exact⟨(h.add (ur ht c13) h0).add (kz (ht.type (.inr (.inl c13)))) hty,by simp,by simp;omega⟩
  ·exact⟨h.add (ur ht c13) h0,by simp,by simp⟩
 rw[if_neg c13]
 by_cases c16:t.h.kind=16
 ·rw[if_pos c16]
  split
  ·exact⟨h.add (kz l9) h1,by simp,by simp⟩
  ·exact⟨h,by simp,by simp⟩
 rw[if_neg c16]
 by_cases c17:t.h.kind=17
 ·rw[if_pos c17];exact⟨h,by simp,by simp⟩
 ·rw[if_neg c17];exact⟨h,by simp,by simp⟩
theorem yV {t c:AT} (h:c∈t.kids):c.size<t.size:=Mac.jC h
theorem wV {d:Nat} (ih:Ds d) {env:List Bd} {rs:List Int} {t:AT} (hd:t.size≤d+1) (he:pE env) (ht:Gt t) (hw:Mac.Wf t) (hl1:env.length+2 * t.size≤100000) (hl2:rs.length+51 * t.size≤100000)
 (hk:k (cY (fdM d) env rs t).v σ):Ev PR 65 [dt env,aO rs,t.v] σ k kp:=by
 refine Ev.pure ?_
 apply EU;unfold F65
 simp[an]
 generalize hτ:ah.new _ (.cells 7 _)=τ
 have hg:aq σ τ:=by rw[←hτ];exact(aq.new _ _).trans (aq.new _ _)
 have hnx:τ.next=σ.next+2:=by rw[←hτ];rfl
 have g0:τ.get σ.next=some (.cells 19 [t.av]):=by rw[←hτ];simp[an]
 have g1:τ.get (σ.next+1)=some (.cells 7 [[u8 0,int 0,bf,bf,bf,int 0,int 0]]):=by rw[←hτ];simp[an]
 clear hτ
 have fin:∀(r:Rr) (φ:ah),cY (fdM d) env rs t=r→aq σ φ→aq σ (φ.set (σ.next+1) (.cells 7 [r.av]))∧∃y,Frz (φ.set (σ.next+1) (.cells 7 [r.av])) σ.next (.agg r.av) y∧k y σ:=fun r φ e h=>⟨h.set (by omega) _,_,.low ((Dat.agg r.dat).low _),by rw[←e];exact hk⟩
 have hsz:=t.size_pos
 refine s7 ht.ok (by omega) ?_
 cases hr:bt t rs with
 | false=>
  have e:cY (fdM d) env rs t=bad t 4:=by unfold cY;rw[if_pos hr]
  simp[g0]
  refine fK ?_
  simp[g1,au]
  exact fin _ _ e hg
 | true=>
  by_cases c:t.h.kind=2∨t.h.kind=18
  ·have e:cY (fdM d) env rs t=nj env t:=by unfold cY;rw[hr,if_neg (by simp),if_pos c]
   have:∀r:Rr,nj env t=r→cY (fdM d) env rs t=r:=fun r h=>e.trans h
   rcases c with c | c
   ·simp[g0,c]
    refine wv ht.ok (by omega) he.env ?_
    simp[g1,au]
    exact fin _ _ e hg
   ·simp[g0,c]
    refine wv ht.ok (by omega) he.env ?_
    simp[g1,au]
    exact fin _ _ e hg
  ·have e:cY (fdM d) env rs t=match Chk.bo (fdM d) env rs t t.kids [] with
    | .inl r=>r
    | .inr k=>jJ t k:=by unfold cY;rw[hr,if_neg (by simp),if_neg c];rfl
   have c1:¬t.h.kind=2:=fun h=>c (.inl h)
   have c2:¬t.h.kind=18:=fun h=>c (.inr h)
   simp[g0,c1,c2]
   refine aM ?_
   have z0:σ.next≠τ.next:=by omega
   simp[an,g0,z0]
   have hy0:Kid σ.next 2 7 (τ.new (.cells 7 [])) (.own τ.next 0) []:=.inr ⟨τ.next,[],rfl,by simp[an],by omega,by simp⟩
   have hgn:aq τ (τ.new (.cells 7 [])):=aq.new _ _
   generalize τ.new (.cells 7 [])=ψ at hy0 hgn
   obtain⟨I,hI⟩:∃I:aA→ah→Prop,∀f φ,I f φ↔∃(i:Nat) (y:AV) (ks:List Rr),f= [(0,dt env),(1,aO rs),(5,.ptr σ.next 0 0),(6,.ptr (σ.next+1) 0 0),(7,y),(34,int t.kids.length),(35,int i)]∧i≤t.kids.length∧ks.length=i∧
    Kid σ.next 2 7 φ y (ks.map Rr.av)∧(∀j,j<σ.next+2→φ.get j=τ.get j)∧τ.next≤φ.next∧Chk.bo (fdM d) env rs t t.kids []=Chk.bo (fdM d) env rs t (t.kids.drop i) ks∧(∀r∈ks,FT r.t∧r.e.length≤50000):=⟨_,fun _ _=>Iff.rfl⟩
   refine bI I (fun f _=>t.kids.length - (intOf (aa f 35)).toNat) ((hI _ _).2 ⟨0,_,[],rfl,Nat.zero_le _,rfl,hy0,fun j hj=>hgn.get j (by omega),hgn.next,rfl,by simp⟩) ?_
   intro f φ hi
   obtain⟨i,y,ks,rfl,hi,hil,hy,hg2,hn2,hkm,hks⟩:=(hI _ _).1 hi
   have f0:=(hg2 σ.next (by omega)).trans g0
   have f1:=(hg2 (σ.next+1) (by omega)).trans g1
   have hkw:=hw.len
   have hk3:t.kids.length≤3:=by
    have:=ml hw.kind;omega
   by_cases hlt:i<t.kids.length
   ·obtain⟨c,hc⟩:=get_some hlt
    have hcm:=List.mem_of_getElem? hc
    have hcs:=yV hcm
    have hia:∀ω,ak 19 (AT.vs t.kids) (int i) ω=some (.ref c.av):=fun ω=>by rw[aD,AT.cu];simp[hc]
    have hwi:IntKind.i64.wrap ((i:Int)+1)=((i+1:Nat):Int):=by rw[wrap64 (by omega)];omega
    obtain⟨q1,q2,q3⟩:=CB (rs:=rs) (i:=i) he ht fun r hr=>(hks r hr).1
    rw[cx hc]at hkm
    simp only[Chk.bo,hil]at hkm
    simp[hlt,f0]
    refine w6 ht.ok (by omega) (by omega) hy.rows (fun q n hq=> ?_) (fun h1=>by omega) ?_
    ·rcases hy with ⟨h,_⟩ | ⟨q',rest,h,_,_,h4⟩
     ·rw[h]at hq;cases hq
     ·rw[h]at hq;cases hq;exact h4
    simp[f0,hia]
    generalize hP:aU env rs t i ks=P at q1 q2 q3 hkm
    have hcg:=Cr (d:=d) (rs:=P.2) q1.gg (ht.kid hcm) (hw.kids c hcm)
    refine ih P.1 P.2 c (by omega) q1 (ht.kid hcm) (hw.kids c hcm) (by omega) (by omega) _ _ _ ?_
    generalize hR:fdM d P.1 P.2 c=R at hcg hkm
    simp[an,au]
    by_cases hno:R.no=0
    ·rw[if_neg (by simpa using hno)]at hkm
     have hc400:=ht.ok.size
     simp[hno]
     have hgr:aq φ (((φ.new (.cells 7 [[.val (.int .u8 0),.val (.int .i64 0),.val (.slice none 0 0),.val (.slice none 0 0),.val (.slice none 0 0),.val (.int .i64 0),.val (.int .i64 0)]])).set φ.next (.cells 7 [R.av]))):=(aq.new _ _).set (Nat.le_refl _) _
     have hχ:((φ.new (.cells 7 [[.val (.int .u8 0),.val (.int .i64 0),.val (.slice none 0 0),.val (.slice none 0 0),.val (.slice none 0 0),.val (.int .i64 0),.val (.int .i64 0)]])).set φ.next (.cells 7 [R.av])).next=φ.next+1:=rfl
     generalize (φ.new (.cells 7 [[.val (.int .u8 0),.val (.int .i64 0),.val (.slice none 0 0),.val (.slice none 0 0),.val (.slice none 0 0),.val (.int .i64 0),.val (.int .i64 0)]])).set φ.next (.cells 7 [R.av])=χ at hgr hχ
     rw[←hχ]
     refine fk (hy.aP hgr) (by omega) (by simp only[List.length_map];omega) fun y' ω h1 h2 h3=> ?_
     rw[hwi]
     refine⟨(hI _ _).2 ⟨i+1,y',ks++ [R],rfl,hlt,by simp[hil],by simpa using h1,fun j hj=>(h2 j (by omega)).trans ((hgr.get j (by omega)).trans (hg2 j hj)),by omega,hkm,fun r hr=> ?_⟩,by omega⟩
     rcases List.mem_append.1 hr with hr | hr
     ·exact hks r hr
     ·rw[List.mem_singleton.1 hr];exact⟨hcg.2 hno,by have:=hcg.1;omega⟩
    ·rw[if_pos hno]at hkm
     rw[hkm]at e
     have z1:¬σ.next+1=φ.next:=by omega
     simp[hno,z1,f1]
     exact fin _ _ e ((bW hg (fun j hj=>hg2 j (by omega)) hn2).trans ((aq.new _ _).set (Nat.le_refl _) _))
   ·have hin:i=t.kids.length:=by omega
    have hdr:t.kids.drop i= []:=List.drop_of_length_le (by omega)
    rw[hdr]at hkm
    simp only[Chk.bo]at hkm
    rw[hkm]at e
    subst hin
    simp[f0]
    refine fA.arg (.inr hy) fun φ' h1 h2=> ?_
    refine zJ ht.ok hw.kind (by omega) (fun r hr=>(hks r hr).1) (fun r hr=>(hks r hr).2) ?_
    have f1':=(h1 (σ.next+1) (by omega)).trans f1
    simp[f1',au]
    exact fin _ _ e (bW hg (fun j hj=>(h1 j (by omega)).trans (hg2 j (by omega))) (by omega))
theorem w7 (t:RT) (i:Nat):(aS t i).size≤t.size:=by
 obtain⟨k,r,e,ks⟩:=t
 unfold Chk.aS
 simp only[RT.kids]
 cases hi:ks[i]? with
 | none=>simp[bU,RT.size,RT.aI]
 | some x=>have:=RT.dW (List.mem_of_getElem? hi);simp[RT.size];omega
mutual
theorem pC (fr to:List Int):∀t:RT,(swapT fr to t).size=t.size
 | .mk k r e ks=>by
  simp only[Chk.swapT]
  split<;>simp[RT.size,mY fr to ks]
theorem mY (fr to:List Int):∀l:List RT,RT.aI (cU fr to l)=RT.aI l
 | []=>rfl
 | t::ts=>by simp[cU,RT.aI,pC fr to t,mY fr to ts]
end
theorem uJ (t:AT) (ks:List Rr):(dy t ks).2.2.1.size≤1+(r0 ks 0).t.size+(r0 ks 1).t.size+t.type.size:=by
 have h0:=fun i=>w7 (r0 ks 0).t i
 have h1:one.size=1:=rfl
 unfold dy
 dsimp only
 by_cases c3:t.h.kind=3
 ·simp[c3,RT.size,RT.aI]<;>omega
 by_cases c4:t.h.kind=4∨t.h.kind=5
 ·rw[if_neg c3,if_pos c4]
  split
  ·have:=h0 (t.h.kind - 4).toNat;simp only;omega
  ·simp only;omega
 by_cases c6:t.h.kind=6
 ·simp[c6,RT.size,RT.aI]<;>omega
 by_cases c7:t.h.kind=7
 ·rw[if_neg c3,if_neg c4,if_neg c6,if_pos c7]
  split
  ·have:=h0 0;simp only;omega
  ·simp only;omega
 by_cases c8:t.h.kind=8
 ·simp[c8];omega
 by_cases c9:t.h.kind=9
 ·simp[c9];omega
 by_cases c10:t.h.kind=10
 ·rw[if_neg c3,if_neg c4,if_neg c6,if_neg c7,if_neg c8,if_neg c9,if_pos c10]
  split
  ·have:=h0 1;simp only;omega
  ·simp only;omega
 by_cases c11:t.h.kind=11
 ·simp[c11,RT.size,RT.aI];omega
 by_cases c12:t.h.kind=12
 ·simp[c12];omega
 by_cases c13:t.h.kind=13
 ·simp[c13];omega
 by_cases c14:t.h.kind=14
 ·simp[c14];omega
 by_cases c15:t.h.kind=15
 ·simp[c15];omega
 by_cases c16:t.h.kind=16
 ·simp[c16];omega
 by_cases c17:t.h.kind=17
 ·simp[c17];omega
 ·simp[c3,c4,c6,c7,c8,c9,c10,c11,c12,c13,c14,c15,c16,c17];omega
theorem wc {ks:List Rr} (h:∀r∈ks,r.t.size≤500) (i:Nat):(r0 ks i).t.size≤500:=by
 unfold r0
 cases hi:ks[i]? with
 | none=>simp[bU,RT.size,RT.aI]
 | some r=>exact h r (List.mem_of_getElem? hi)
theorem uq {d:Nat} {env:List Bd} {rs:List Int} {t:AT} (he:pE env) (ht:Gt t) (h:(cY (fdM d) env rs t).no=0):(cY (fdM d) env rs t).t.size≤3000:=by
 have hty:=ht.ok.type.size
 unfold cY at h⊢
 split
 ·rename_i h1;rw[if_pos h1]at h;simp[bad]at h
 ·rename_i h1;rw[if_neg h1]at h
  split
  ·rename_i h2;rw[if_pos h2]at h
   unfold nj at h⊢
   cases hf:fH env t.h.name with
   | none=>rw[hf]at h;simp[bad]at h
   | some b=>
    rw[hf]at h
    have hbm:=ou hf
    have hb:=he.ok b hbm
    simp only at h⊢
    split
    ·split
     ·simp[bad,bU,RT.size,RT.aI]
     ·simp only;omega
    ·split
     ·simp[bad,bU,RT.size,RT.aI]
     ·rename_i hbf
      split
      ·simp[bad,bU,RT.size,RT.aI]
      ·have hfn:b.fn=true:=by
        cases hh:b.fn
        ·exact absurd (.inl hh) hbf
        ·rfl
       have g:=((he.gg b hbm).2 hfn).1.ok
       have g1:=g.type.size
       have g2:=g.res.size
       simp[RT.size,RT.aI,pC];omega
  ·rename_i h2;rw[if_neg h2]at h
   have hkids:∀cs k0 k,Chk.bo (fdM d) env rs t cs k0= .inr k→(∀r∈k0,r.t.size≤500)→∀r∈k,r.t.size≤500:=by
    intro cs
    induction cs with
    | nil=>intro k0 k h h0;simp[Chk.bo]at h;subst h;exact h0
    | cons c cs ih=>
     intro k0 k h h0
     obtain⟨a1,a2⟩:=dQ h
     refine ih _ _ a2 fun r hr=> ?_
     rcases List.mem_append.1 hr with hr | hr
     ·exact h0 r hr
     ·rw[List.mem_singleton.1 hr];exact vE d _ _ _ a1
   split
   ·rename_i r hr
    rw[hr]at h
    simp only at h
    have:∀cs k r,Chk.bo (fdM d) env rs t cs k= .inl r→r.no≠0:=by
     intro cs
     induction cs with
     | nil=>intro k r h;simp[Chk.bo]at h
     | cons c cs ih=>
      intro k r h
      simp only[Chk.bo]at h
      split at h
      ·rename_i h1;cases h;exact h1
      ·exact ih _ _ h
    exact absurd h (this _ _ _ hr)
   ·rename_i k hk
    rw[hk]at h
    simp only at h
    have hs:=hkids _ _ _ hk (by simp)
    obtain⟨_,_,r3,_⟩:=ti h
    rw[r3]
    have:=uJ t k
    have a0:=wc hs 0
    have a1:=wc hs 1
    omega
theorem lD:∀d,Ds d
 | 0=>fun env rs t hd=>by have:=t.size_pos;omega
 | d+1=>by
  intro env rs t hd he ht hw hl1 hl2 σ k kp hk
  refine Ev.bB hk ((Rr.tD _).low _) fun k' hk'=> ?_
  simp only[fdM]at hk'
  apply EB;unfold F35
  simp[an]
  generalize hτ:ah.new _ (.cells 7 _)=τ
  have hg:aq σ τ:=by rw[←hτ];exact(aq.new _ _).trans (aq.new _ _)
  have hnx:τ.next=σ.next+2:=by rw[←hτ];rfl
  have g0:τ.get σ.next=some (.cells 19 [t.av]):=by rw[←hτ];simp[an]
  have g1:τ.get (σ.next+1)=some (.cells 7 [[u8 0,int 0,bf,bf,bf,int 0,int 0]]):=by rw[←hτ];simp[an]
  clear hτ
  refine wV (lD d) hd he ht hw hl1 hl2 ?_
  have hfs:=uq (d:=d) (rs:=rs) he ht
  generalize cY (fdM d) env rs t=R at hk' hfs
  simp[an,au]
  have hgr:aq τ ((τ.new (.cells 7 [[.val (.int .u8 0),.val (.int .i64 0),.val (.slice none 0 0),.val (.slice none 0 0),.val (.slice none 0 0),.val (.int .i64 0),.val (.int .i64 0)]])).set τ.next (.cells 7 [R.av])):=(aq.new _ _).set (Nat.le_refl _) _
  have x2:((τ.new (.cells 7 [[.val (.int .u8 0),.val (.int .i64 0),.val (.slice none 0 0),.val (.slice none 0 0),.val (.slice none 0 0),.val (.int .i64 0),.val (.int .i64 0)]])).set τ.next (.cells 7 [R.av])).get τ.next=some (.cells 7 [R.av]):=by simp[au]
  generalize (τ.new (.cells 7 [[.val (.int .u8 0),.val (.int .i64 0),.val (.slice none 0 0),.val (.slice none 0 0),.val (.slice none 0 0),.val (.int .i64 0),.val (.int .i64 0)]])).set τ.next (.cells 7 [R.av])=χ at hgr x2
  have x0:=(hgr.get _ (by omega)).trans g0
  have x1:=(hgr.get _ (by omega)).trans g1
  have fin:∀r:Rr,jt t R=r→k' (.agg r.av) (χ.set (σ.next+1) (.cells 7 [r.av])):=fun r h=>by
   have:=hk' (χ.set (σ.next+1) (.cells 7 [r.av])) ((hg.trans hgr).set (by omega) _)
   rw[h]at this;exact this
  by_cases hno:R.no=0
  ·simp[hno,x2]
   refine xw _ _ (Nat.le_refl _) (by have:=hfs hno;omega) _ _ _ ?_
   by_cases h5:500<R.t.size
   ·have h5':(500:Int)<R.t.size:=by omega
    have e:jt t R=bad t 3:=by unfold jt;rw[if_pos ⟨hno,h5⟩]
    simp[h5',x0]
    refine fK ?_
    simp[x1,au]
    exact fin _ e
   ·have h5':¬(500:Int)<R.t.size:=by omega
    have e:jt t R=R:=by unfold jt;rw[if_neg (fun h=>h5 h.2)]
    simp[h5',x2,x1,au]
    exact fin _ e
  ·have e:jt t R=R:=by unfold jt;rw[if_neg (fun h=>hno h.1)]
   simp[hno,x2,x1,au]
   exact fin _ e
end Go.Abs.Chk
