import Derived.Test.YtjilebpcaemopaaGreatDoorSafeF
set_option linter.unusedVariables false
set_option linter.unusedSimpArgs false
namespace Go.Abs.Wrap
open Go Go.Abs Go.Abs.Stk Go.Abs.At Go.Abs.Mac
def shR (r:Int):Int:=if r≤0 then r else r+1
def shV (v:V):V:={v with r:=shR v.r}
def shC (c:Cl):Cl:={c with a:=shV c.a,b:=shV c.b}
def shP (p:Bool×List Cl):Bool×List Cl:=(p.1,p.2.map shC)
def shL:List (Bool×List Cl)→List (Bool×List Cl)
 | []=>[]
 | x::l=>shP x::(true,[])::l.map shP
def shS (s:SG Cl):SG Cl:=⟨s.R+1,s.C,shL s.L,s.most⟩
def shN (n:Nm):Nm:={n with v:=shV n.v}
section
variable (ρ:Int)
def shE (e:En):En:=⟨e.names.map shN,(e.aH.map fun p=>(p.1,shR p.2))++ [(ρ,1)]⟩
def uU (c:Co):Co:={c with env:=shE ρ c.env}
def sh (s:Sa):Sa:=⟨shS s.store,s.steps,s.aC.map (uU ρ)⟩
def shX {α β:Type} (f:α→β):Re α→Re β
 | .ok x s=>.ok (f x) (sh ρ s)
 | .over s k=>.over (sh ρ s) k
def shNx:Nx→Nx
 | .node t e=>.node t (shE ρ e)
 | .val v=>.val (shV v)
 | .exn n x=>.exn n x
end
def shO:Out→Out
 | .val v=>.val (shV v)
 | .exn n x=>.exn n x
 | .over k=>.over k
variable {ρ:Int}
theorem zZ:shR 0=0:=rfl
theorem z7:shV V.zero=V.zero:=rfl
theorem Dd (n:Nat) (h:1≤n):shR (n:Int)=((n+1:Nat):Int):=by unfold shR;rw[if_neg (by omega)];omega
theorem lf (l:List (Bool×List Cl)):∀i,idx (l.map shP) i=idx l i:=by
 induction l with
 | nil=>intro i;rfl
 | cons p l ih=>
  intro i
  obtain⟨b,c⟩:=p
  cases b<;>simp[idx,shP,ih]
theorem sC (l:List (Bool×List Cl)):∀i,idx l (i+1)=(idx l i).map (· +1):=by
 induction l with
 | nil=>intro i;rfl
 | cons p l ih=>
  intro i
  obtain⟨b,c⟩:=p
  cases b<;>simp[idx,ih]
theorem rG (l:List (Bool×List Cl)):tot (l.map shP)=tot l:=by
 induction l with
 | nil=>rfl
 | cons p l ih=>obtain⟨b,c⟩:=p;simp[tot,shP,ih]
theorem GR (l:List (Bool×List Cl)):tot (shL l)=tot l:=by
 cases l with
 | nil=>rfl
 | cons p l=>obtain⟨b,c⟩:=p;simp[shL,tot,shP,rG]
theorem rZ (s:SG Cl):(shS s).cells=s.cells:=GR s.L
theorem rh {s:SG Cl} (h:s.L≠[]):(shS s).live.length=s.live.length+1:=by
 unfold SG.live shS
 cases hL:s.L with
 | nil=>exact absurd hL h
 | cons p l=>
  obtain⟨b,c⟩:=p
  cases b<;>simp[shL,idx,shP,lf,sC]
theorem gl (l:List Nat) (x:Nat):(l++ [x]).getLast?=some x:=by simp
theorem CI {s:SG Cl} (h:2≤s.live.length):∃i,s.live.getLast?=some i∧1≤i∧(shS s).live.getLast?=some (i+1):=by
 unfold SG.live shS at *
 cases hL:s.L with
 | nil=>rw[hL]at h;simp[idx]at h
 | cons p l=>
  rw[hL]at h
  obtain⟨b,c⟩:=p
  have key:idx l 1≠[]:=by
   intro e
   cases b<;>simp[idx,e]at h
  obtain⟨m,i,hm⟩:∃m i,idx l 1=m++ [i]:=⟨(idx l 1).dropLast,(idx l 1).getLast key,(List.dropLast_concat_getLast key).symm⟩
  have hi:1≤i:=by
   have:i∈idx l 1:=by rw[hm];simp
   obtain⟨j,c',e,_⟩:=jS.1 this
   omega
  have hm2:idx l 2=m.map (· +1)++ [i+1]:=by rw[show(2:Nat)=1+1 from rfl,sC l 1,hm];simp
  refine⟨i,?_,hi,?_⟩
  ·cases b
   ·simp[idx,hm]
   ·simp only[idx,cond_true]
    rw[show(0+1:Nat)=1 from rfl,hm]
    exact gl (0::m) i
  ·cases b
   ·simp only[shL,shP,idx,cond_false,cond_true,lf]
    rw[show(0+1+1:Nat)=2 from rfl,hm2]
    exact gl (1::m.map (· +1)) (i+1)
   ·simp only[shL,shP,idx,cond_true,lf]
    rw[show(0+1+1:Nat)=2 from rfl,hm2]
    exact gl (0::1::m.map (· +1)) (i+1)
theorem F6 (l:List (Bool×List Cl)) (i:Nat):(shL l)[if i=0 then 0 else i+1]?=(l[i]?).map shP:=by
 cases l with
 | nil=>cases i<;>simp[shL]
 | cons p l=>
  cases i with
  | zero=>simp[shL]
  | succ i=>simp[shL]
theorem pD {r:Int} (h:0≤r):(shR r).toNat=if r.toNat=0 then 0 else r.toNat+1:=by
 unfold shR
 split<;>split<;>omega
theorem pk (s:SG Cl) (r:Int):(shS s).row (shR r)=(s.row r).map (List.map shC):=by
 unfold SG.row at'
 by_cases h:0≤r
 ·have h2:0≤shR r:=by unfold shR;split<;>omega
  rw[if_pos h,if_pos h2,pD h]
  unfold Stk.rowAt shS
  simp only
  rw[F6]
  cases s.L[r.toNat]? with
  | none=>rfl
  | some p=>obtain⟨b,c⟩:=p;cases b<;>rfl
 ·have h2:¬0≤shR r:=by unfold shR;split<;>omega
  rw[if_neg h,if_neg h2];rfl
theorem y6 (s:SG Cl) (r:Int):dH (shS s) (shR r)=dH s r:=by
 unfold dH;rw[pk];cases s.row r<;>rfl
theorem uT (l:List (Bool×List Cl)) (i:Nat) (p:Bool×List Cl):(shL l).set (if i=0 then 0 else i+1) (shP p)=shL (l.set i p):=by
 cases l with
 | nil=>cases i<;>simp[shL]
 | cons q l=>
  cases i with
  | zero=>simp[shL]
  | succ i=>simp[shL,List.map_set]
theorem Gq {s:SG Cl} {r:Int} {c:Cl}:e8 (shS s) (shR r) (shC c)=(e8 s r c).map fun p=>(shV p.1,shS p.2):=by
 unfold e8
 rw[pk]
 cases hr:s.row r with
 | none=>rfl
 | some row=>
  have h0:0≤r:=(qQ hr).1
  simp only[Option.map_some,rZ]
  by_cases hc:s.C≤(s.cells:Int)
  ·rw[if_pos hc,if_pos (show(shS s).C≤(s.cells:Int) from hc)];rfl
  ·rw[if_neg hc,if_neg (show ¬(shS s).C≤(s.cells:Int) from hc)]
   simp only[Option.map_some,List.length_map,Option.some.injEq,Prod.mk.injEq]
   refine⟨rfl,?_⟩
   unfold SG.gU
   rw[pD h0,rZ]
   have:(true,List.map shC row++ [shC c])=shP (true,row++ [c]):=by simp[shP]
   show SG.mk _ _ ((shL s.L).set _ _) _=SG.mk _ _ (shL _) _
   rw[this,uT]
   rfl
theorem Cs (s:SG Cl) (kd n r a:Int):(shS s).find kd n (shR r) a=s.find kd n r a:=by
 unfold SG.find
 rw[pk]
 split
 ·rfl
 ·cases s.row r with
  | none=>rfl
  | some row=>simp
theorem wK (s:SG Cl) (v:V):cellAt (shS s) (shV v)=(cellAt s v).map shC:=by
 unfold cellAt
 show((shS s).row (shR v.r)).bind _=_
 rw[pk]
 cases s.row v.r with
 | none=>rfl
 | some row=>
  show(row.map shC)[v.a.toNat]?=_
  simp
theorem Da (s:SG Cl) (v:V) (c:Cl):eN (shS s) (shV v) (shC c)=shS (eN s v c):=by
 unfold eN
 show(match (shS s).row (shR v.r) with | some row=>(shS s).put (shR v.r).toNat (row.set v.a.toNat (shC c)) | none=>shS s)=_
 rw[pk]
 cases hr:s.row v.r with
 | none=>rfl
 | some row=>
  have h0:0≤v.r:=(qQ hr).1
  simp only[Option.map_some]
  unfold SG.put
  rw[pD h0]
  have:(true,(row.map shC).set v.a.toNat (shC c))=shP (true,row.set v.a.toNat c):=by simp[shP,List.map_set]
  show SG.mk _ _ ((shL s.L).set _ _) _=SG.mk _ _ (shL _) _
  rw[this,uT]
  rfl
theorem v8 {s:SG Cl} (h:2≤s.live.length):cz (shS s)=shS (cz s):=by
 have hL:s.L≠[]:=by
  intro e
  unfold SG.live at h;rw[e]at h;simp[idx]at h
 obtain⟨i,h1,h2,h3⟩:=CI h
 unfold cz
 rw[if_neg (by rw[rh hL];omega),if_neg (by omega),h1,h3]
 simp only
 unfold SG.less
 have:=uT s.L i (false,[])
 rw[if_neg (by omega)]at this
 show SG.mk _ _ ((shL s.L).set (i+1) (false,[])) _=SG.mk _ _ (shL _) _
 rw[←this];rfl
theorem CO {s:SG Cl} (h:s.L≠[]):shS s.more=(shS s).more:=by
 unfold SG.more shS
 simp only
 cases hL:s.L with
 | nil=>exact absurd hL h
 | cons p l=>simp[shL,shP]
theorem F9 {s:SG Cl} (h:s.L≠[]):((shS s).L.length:Int)=shR s.L.length:=by
 cases hL:s.L with
 | nil=>exact absurd hL h
 | cons p l=>
  rw[Dd _ (by simp)]
  unfold shS
  rw[hL]
  simp[shL]
theorem sR (s:SG Cl):(cz s).most=s.most:=by
 unfold cz;split
 ·rfl
 ·split<;>rfl
theorem qm {e:En} {x:Int} (h:x≠ρ):(shE ρ e).region x=(shR (e.region x).1,(e.region x).2):=by
 unfold En.region shE
 simp only[List.find?_append,List.find?_map]
 have h':¬ρ=x:=fun e=>h e.symm
 have e0:(((fun r:Int×Int=>decide (r.1=x))∘fun p:Int×Int=>(p.1,shR p.2)))=fun r=>decide (r.1=x):=rfl
 rw[e0]
 cases e.aH.find? fun r=>decide (r.1=x) with
 | none=>simp[h',zZ]
 | some p=>simp
theorem sw {e:En} {nm:ByteArray}:(shE ρ e).find nm=(e.find nm).map shN:=by
 unfold En.find shE
 simp only[List.find?_map]
 rfl
theorem Gg (e:En) (x r:Int):shE ρ (e.opn x r)=(shE ρ e).opn x (shR r):=rfl
theorem sY {e:En}:∀ {l qs:List Int} {own:En},(∀x∈l,x≠ρ)→opens (shE ρ e) (shE ρ own) l qs=(opens e own l qs).map (shE ρ)
 | [],qs,own,_=>by simp[opens]
 | r::l,[],own,_=>by simp[opens]
 | r::l,q::qs,own,h=>by
  simp only[opens]
  rw[qm (h r (by simp))]
  split
  ·rw[←Gg];exact sY fun x hx=>h x (by simp[hx])
  ·rfl
theorem ek {α β α' β':Type} {f:α→α'} {g:β→β'} {x:Re α} {F:α→Sa→Re β} {F':α'→Sa→Re β'} (h:∀a s,x= .ok a s→F' (f a) (sh ρ s)=shX ρ g (F a s)):(shX ρ f x).bind F'=shX ρ g (x.bind F):=by
 cases x with
 | ok a s=>exact h a s rfl
 | over s k=>rfl
theorem rk {s:Sa} {e:En} {x:Int} {c:Cl} (h:x≠ρ):make (sh ρ s) (shE ρ e) x (shC c)=shX ρ shV (make s e x c):=by
 unfold make
 rw[qm h]
 show(if (e.region x).2=true∧dH (shS s.store) (shR (e.region x).1)=true then _ else _)=_
 rw[y6]
 split
 ·show(match e8 (shS s.store) (shR (e.region x).1) (shC c) with | some (v,st)=>_ | none=>_)=_
  rw[Gq]
  cases e8 s.store (e.region x).1 c with
  | none=>rfl
  | some p=>rfl
 ·rfl
theorem j4 {s:Sa} {v:V} {k:Int}:take (sh ρ s) (shV v) k=shX ρ shC (take s v k):=by
 unfold take
 show(if v.kind=2 then (if (shS s.store).find v.kind v.n (shR v.r) v.a=6 then _ else if (shS s.store).find v.kind v.n (shR v.r) v.a=0 then (match cellAt (shS s.store) (shV v) with | some c=>_ | none=>_) else _) else _)=_
 rw[Cs,wK]
 split
 ·split
  ·rfl
  ·split
   ·cases cellAt s.store v with
    | none=>rfl
    | some c=>
     simp only[Option.map_some]
     show(if c.kind=k then _ else _)=_
     split<;>rfl
   ·rfl
 ·rfl
theorem mq {s:Sa} {v:V}:number (sh ρ s) (shV v)=shX ρ id (number s v):=by
 unfold number
 show(if v.kind=1 then _ else _)=_
 split<;>rfl
theorem sg (s:Sa) (c:Co):(cM (sh ρ s) (uU ρ c)).1=shC (cM s c).1∧(cM (sh ρ s) (uU ρ c)).2=sh ρ (cM s c).2:=by
 unfold cM sh
 simp[shC,z7]
theorem ny {s:Sa} {e:En} {x:Int} {c:Co} (h:x≠ρ):Mac.code (sh ρ s) (shE ρ e) x (uU ρ c)=shX ρ shV (Mac.code s e x c):=by
 unfold Mac.code
 rw[(sg s c).1,(sg s c).2]
 exact rk h
def Nr (ρ:Int) (t:AT):Prop:=(t.h.kind≠17→t.rho≠ρ)∧(t.h.kind=18→ρ∉t.aH)
def NR (ρ:Int) (t:AT):Prop:=∀n∈t.all,Nr ρ n
theorem pZ {s:Sa} {i:Nat}:(sh ρ s).aC[i]?=(s.aC[i]?).map (uU ρ):=by unfold sh;simp
theorem CE {s:Sa} {t:AT} {e:En} (h:Nr ρ t) (hk:t.h.kind=18):inst (sh ρ s) t (shE ρ e)=shX ρ shV (inst s t e):=by
 unfold inst
 rw[sw]
 cases e.find t.h.name with
 | none=>rfl
 | some n=>
  simp only[Option.map_some]
  show(if n.fn=true then (take (sh ρ s) (shV n.v) 3).bind _ else _)=_
  split
  ·rw[j4]
   refine ek fun c s1 _=> ?_
   show(match (sh ρ s1).aC[c.code.toNat]? with | none=>_ | some f=>_)=_
   rw[pZ]
   cases s1.aC[c.code.toNat]? with
   | none=>rfl
   | some f=>
    simp only[Option.map_some]
    show(if f.rsl.length=t.aH.length then (match opens (shE ρ e) (shE ρ f.env) t.aH f.rsl with | none=>_ | some own=>_) else _)=_
    split
    ·rw[sY (fun x hx hxr=>h.2 hk (by rw[←hxr];exact hx))]
     cases opens e f.env t.aH f.rsl with
     | none=>rfl
     | some own=>exact ny (c:=⟨f.body,f.arg,own,none⟩) (h.1 (by omega))
    ·rfl
  ·rfl
theorem vM {s:Sa} {t:AT} {e:En} (h:Nr ρ t) (hk:bu t.h.kind):Mac.leaf (sh ρ s) t (shE ρ e)=shX ρ shV (Mac.leaf s t e):=by
 unfold bu at hk
 unfold Mac.leaf
 split
 ·rfl
 ·split
  ·rw[sw]
   cases e.find t.h.name with
   | none=>rfl
   | some n=>
    simp only[Option.map_some]
    show(if n.fn=true then _ else _)=_
    split<;>rfl
  ·split
   ·rename_i h18;exact CE h h18
   ·exact ny (c:=⟨aB t 0,t.h.arg,e,none⟩) (h.1 (by omega))
theorem FO (vs:List V) (i:Nat):at0 (vs.map shV) i=shV (at0 vs i):=by
 unfold at0
 rw[List.getElem?_map]
 cases vs[i]?<;>rfl
theorem rA {s:Sa} {t:AT} {e:En} {vs:List V} (h:Nr ρ t) (h17:t.h.kind≠17):eJ (sh ρ s) t (shE ρ e) (vs.map shV)=shX ρ (shNx ρ) (eJ s t e vs):=by
 unfold eJ
 simp only[FO]
 have hr:=h.1 h17
 split
 ·rw[show(⟨1,shV (at0 vs 0),shV (at0 vs 1),0⟩:Cl)=shC ⟨1,at0 vs 0,at0 vs 1,0⟩ from rfl,rk hr]
  exact ek fun _ _ _=>rfl
 split
 ·rw[j4];exact ek fun _ _ _=>rfl
 split
 ·rw[j4];exact ek fun _ _ _=>rfl
 split
 ·rw[show(⟨2,shV (at0 vs 0),V.zero,0⟩:Cl)=shC ⟨2,at0 vs 0,V.zero,0⟩ from rfl,rk hr]
  exact ek fun _ _ _=>rfl
 split
 ·rw[j4];exact ek fun _ _ _=>rfl
 split
 ·rw[j4]
  refine ek fun c s1 _=> ?_
  have:=Da s1.store (at0 vs 0) ⟨2,at0 vs 1,V.zero,0⟩
  show Re.ok _ (⟨eN (shS s1.store) (shV (at0 vs 0)) (shC ⟨2,at0 vs 1,V.zero,0⟩),_,_⟩:Sa)=_
  rw[this];rfl
 split
 ·rw[mq]
  refine ek fun a s1 _=> ?_
  rw[mq]
  exact ek fun _ _ _=>rfl
 split
 ·rw[mq];exact ek fun _ _ _=>rfl
 ·rw[j4]
  refine ek fun c s1 _=> ?_
  show(match (sh ρ s1).aC[c.code.toNat]? with | none=>_ | some f=>_)=_
  rw[pZ]
  cases s1.aC[c.code.toNat]?<;>rfl
theorem zq (s:Sa) (e:En):patch (sh ρ s) (shE ρ e)=sh ρ (patch s e):=by
 unfold patch
 have e1:(sh ρ s).aC.getLast?=(s.aC.getLast?).map (uU ρ):=by unfold sh;simp
 rw[e1]
 cases s.aC.getLast? with
 | none=>rfl
 | some c=>
  simp only[Option.map_some]
  unfold sh
  simp[uU,List.map_dropLast]
theorem wg {r:Re Nx} {s o} (h:kj r s o):kj (shX ρ (shNx ρ) r) (sh ρ s) (shO o):=by cases h<;>constructor
theorem nG {o:Out} (h:¬o.isVal):¬(shO o).isVal:=by cases o<;>simp_all [shO,Out.isVal]
theorem wu (s:Sa):tick (sh ρ s)=sh ρ (tick s):=rfl
def TR (N:Nat) (ρ:Int) (t:AT):Prop:=TN N t∧NR ρ t
theorem Gf {t:AT} (h:NR ρ t) {i:Nat} (hi:i<t.kids.length):NR ρ (aB t i):=by
 obtain⟨p,q,he⟩:=Safe.q9 hi
 exact fun n hn=>h n (by rw[Safe.all_cons,he];simp[hn])
theorem gB (N:Nat):Inv (CW (TR N ρ)) (TR N ρ):=yw (TR N ρ) (fun h hi=>⟨(aZ N).kid h.1 hi,Gf h.2 hi⟩) (fun h=>h.1.1)
theorem kY {N:Nat} {s:Sa} (h:CW (TR N ρ) s):CW (TN N) s:=fun c hc=>(h c hc).1
theorem cD {N:Nat} {t:AT} (h:TR N ρ t) {i:Nat} (hi:i<nk t.h.kind):TR N ρ (aB t i):=(gB N).kid h (by rw[h.1.1.len];exact hi)
theorem iQ {N:Nat} {t:AT} (h:TR N ρ t):Nr ρ t:=h.2 t (Safe.lM t)
theorem Big.sh {fuel N s t e s' o} (h:Big fuel s t e s' o):CW (TR N ρ) s→TR N ρ t→1≤s.store.live.length→s.steps≤fuel→Big fuel (Wrap.sh ρ s) t (shE ρ e) (Wrap.sh ρ s') (shO o):=by
 induction h with
 | @full s t e hk h=>
  intro hs ht h1 _
  have hL:s.store.L≠[]:=by intro e;unfold SG.live at h1;rw[e]at h1;simp[idx]at h1
  refine .full hk ?_
  unfold dw at h⊢
  split at h
  ·cases h
  ·rename_i hn
   refine if_neg ?_
   show ¬(((shS s.store).live.length:Int)<s.store.R+1)
   rw[rh hL];omega
 | @region s t e r st s' o hk h h' ih=>
  intro hs ht h1 hf
  have hL:s.store.L≠[]:=by intro e;unfold SG.live at h1;rw[e]at h1;simp[idx]at h1
  obtain⟨h2,rfl,rfl⟩:=gu h
  have hp:dw (Wrap.sh ρ s).store=some (shR s.store.L.length,shS s.store.more):=by
   unfold dw
   rw[if_pos]
   ·show some (((shS s.store).L.length:Int),(shS s.store).more)=_
    rw[F9 hL,CO hL]
   ·show((shS s.store).live.length:Int)<s.store.R+1
    rw[rh hL];omega
  have k0:=cD ht (i:=0) (aJ (by omega))
  have hl2:s.store.more.live.length=s.store.live.length+1:=by rw[SG.ik];simp
  have i0:=ih hs k0 (by show 1≤s.store.more.live.length;omega) hf
  have hB:=Big.region (fuel:=fuel) (s:=Wrap.sh ρ s) (e:=shE ρ e) hk hp i0
  have hLf:=h'.left (kY hs) k0.1 (by show 1≤s.store.more.live.length;omega) hf
  have e1:ni (shO o) (Wrap.sh ρ s')=Wrap.sh ρ (ni o s'):=by
   cases o with
   | over k=>rfl
   | val v=>
    have:s'.store.live=s.store.more.live:=hLf.same (by simp[Out.cB])
    show(⟨cz (shS s'.store),_,_⟩:Sa)=⟨shS (cz s'.store),_,_⟩
    rw[v8 (by rw[this];omega)];rfl
   | exn n x=>
    have:s'.store.live=s.store.more.live:=hLf.same (by simp[Out.cB])
    show(⟨cz (shS s'.store),_,_⟩:Sa)=⟨shS (cz s'.store),_,_⟩
    rw[v8 (by rw[this];omega)];rfl
  rw[e1]at hB
  exact hB
 | @fuel s t e hk h=>exact fun _ _ _ _=>.fuel hk h
 | @leaf s t e s' v hf hk h=>
  intro hs ht h1 _
  refine .leaf hf hk ?_
  rw[wu,vM (iQ ht) hk,h];rfl
 | @leafOver s t e s' k hf hk h=>
  intro hs ht h1 _
  refine .leafOver hf hk ?_
  rw[wu,vM (iQ ht) hk,h];rfl
 | @letStop s t e s' o hf hk h ho ih=>
  intro hs ht h1 _
  exact .letStop hf hk (ih hs (cD ht (aJ (by omega))) h1 hf) (nG ho)
 | @let_ s t e s' v s'' o hf hk h h' ih ih'=>
  intro hs ht h1 _
  have k0:=cD ht (i:=0) (aJ (by omega))
  have L:=h.left (s:=tick s) (kY hs) k0.1 h1 hf
  have c0:=h.inv (gB N) (s:=tick s) hs k0
  exact .let_ hf hk (ih hs k0 h1 hf) (ih' c0 (cD ht (cb (by omega))) L.one L.steps)
 | @letrecOver s t e s' k hf hk h=>
  intro hs ht h1 _
  refine .letrecOver hf hk ?_
  have:=ny (ρ:=ρ) (s:=tick s) (e:=e) (x:=t.rho) (c:=⟨aB t 0,t.h.arg,e,some t.aH⟩) ((iQ ht).1 (by omega))
  rw[h]at this;exact this
 | @letrec s t e s' v s'' o hf hk h h' ih=>
  intro hs ht h1 _
  have hc:=ny (ρ:=ρ) (s:=tick s) (e:=e) (x:=t.rho) (c:=⟨aB t 0,t.h.arg,e,some t.aH⟩) ((iQ ht).1 (by omega))
  have r:=(gB (ρ:=ρ) N).fY (s:=tick s) (e:=e) (rho:=t.rho) (c:=⟨aB t 0,t.h.arg,e,some t.aH⟩) hs (cD ht (i:=0) (aJ (by omega)))
  have lv:=(eY N s.store.live (s.steps+1)).fY (s:=tick s) (e:=e) (rho:=t.rho) (c:=⟨aB t 0,t.h.arg,e,some t.aH⟩) ⟨rfl,rfl,kY hs⟩ (cD ht (i:=0) (aJ (by omega))).1
  rw[h]at hc r lv
  have hps:(patch s' (e.with t.h.name v true)).store=s'.store:=cK _ _
  have lv1:s'.store.live=s.store.live:=lv.1
  have lv2:s'.steps=s.steps+1:=lv.2.1
  have i:=ih ((gB N).patch r) (cD ht (cb (by omega))) (by rw[hps,lv1];exact h1) (by rw[dv];omega)
  rw[←zq]at i
  exact .letrec hf hk hc i
 | @ifStop s t e s' o hf hk h ho ih=>
  intro hs ht h1 _
  exact .ifStop hf hk (ih hs (cD ht (aJ (by omega))) h1 hf) (nG ho)
 | @ifStuck s t e s' v hf hk h hv ih=>
  intro hs ht h1 _
  exact .ifStuck (v:=shV v) hf hk (ih hs (cD ht (aJ (by omega))) h1 hf) hv
 | @if_ s t e s' v s'' o hf hk h hv h' ih ih'=>
  intro hs ht h1 _
  have k0:=cD ht (i:=0) (aJ (by omega))
  have L:=h.left (s:=tick s) (kY hs) k0.1 h1 hf
  have c0:=h.inv (gB N) (s:=tick s) hs k0
  exact .if_ (v:=shV v) hf hk (ih hs k0 h1 hf) hv (ih' c0 (cD ht (mQ hk)) L.one L.steps)
 | @try_ s t e s' o hf hk h ho ih=>
  intro hs ht h1 _
  refine .try_ hf hk (ih hs (cD ht (aJ (by omega))) h1 hf) fun n hn=> ?_
  cases o with
  | exn n' x=>exact ho n' (by cases hn;rfl)
  | val v=>cases hn
  | over k=>cases hn
 | @catch_ s t e s' n s'' o hf hk h h' ih ih'=>
  intro hs ht h1 _
  have k0:=cD ht (i:=0) (aJ (by omega))
  have L:=h.left (s:=tick s) (kY hs) k0.1 h1 hf
  have c0:=h.inv (gB N) (s:=tick s) hs k0
  exact .catch_ hf hk (ih hs k0 h1 hf) (ih' c0 (cD ht (cb (by omega))) L.one L.steps)
 | @stop1 s t e s' o hf hk h ho ih=>
  intro hs ht h1 _
  exact .stop1 hf hk (ih hs (cD ht (aJ (by omega))) h1 hf) (nG ho)
 | @stop2 s t e s' v s'' o hf hk hl h h' ho ih ih'=>
  intro hs ht h1 _
  have k0:=cD ht (i:=0) (aJ (by omega))
  have L:=h.left (s:=tick s) (kY hs) k0.1 h1 hf
  have c0:=h.inv (gB N) (s:=tick s) hs k0
  exact .stop2 hf hk hl (ih hs k0 h1 hf) (ih' c0 (cD ht (by rw[←ht.1.1.len];omega)) L.one L.steps) (nG ho)
 | @rule1 s t e s' v s₂ o hf hk hl h h' ih=>
  intro hs ht h1 _
  have k0:=cD ht (i:=0) (aJ (by omega))
  refine .rule1 hf hk hl (ih hs k0 h1 hf) ?_
  have:=rA (ρ:=ρ) (s:=s') (e:=e) (vs:=[v]) (iQ ht) (by omega)
  rw[show[shV v]= [v].map shV from rfl,this]
  exact wg h'
 | @rule2 s t e s' v s'' w s₃ o hf hk hl h h' h₂ ih ih'=>
  intro hs ht h1 _
  have k0:=cD ht (i:=0) (aJ (by omega))
  have L:=h.left (s:=tick s) (kY hs) k0.1 h1 hf
  have c0:=h.inv (gB N) (s:=tick s) hs k0
  refine .rule2 hf hk hl (ih hs k0 h1 hf) (ih' c0 (cD ht (by rw[←ht.1.1.len];omega)) L.one L.steps) ?_
  have:=rA (ρ:=ρ) (s:=s'') (e:=e) (vs:=[v,w]) (iQ ht) (by omega)
  rw[show[shV v,shV w]= [v,w].map shV from rfl,this]
  exact wg h₂
 | @call s t e s' v s'' w s₃ b e' s₄ o hf hk hl h h' h₂ h₃ ih ih' ih₃=>
  intro hs ht h1 _
  have k0:=cD ht (i:=0) (aJ (by omega))
  have k1:=cD ht (i:=1) (by rw[←ht.1.1.len];omega)
  have L:=h.left (s:=tick s) (kY hs) k0.1 h1 hf
  have c0:=h.inv (gB N) (s:=tick s) hs k0
  have L1:=h'.left (kY c0) k1.1 L.one L.steps
  have c1:=h'.inv (gB N) c0 k1
  obtain⟨rfl,c,fn,_,hf',rfl,rfl,_⟩:=dG h₂
  have:=rA (ρ:=ρ) (s:=s₃) (e:=e) (vs:=[v,w]) (iQ ht) (by omega)
  rw[h₂]at this
  exact .call hf hk hl (ih hs k0 h1 hf) (ih' c0 k1 L.one L.steps) (by rw[show[shV v,shV w]= [v,w].map shV from rfl];exact this) (ih₃ c1 ((gB N).body c1 hf') L1.one L1.steps)
end Go.Abs.Wrap
set_option linter.unusedVariables false
set_option linter.unusedSimpArgs false
namespace Go.Abs.Wrap
open Go Go.Abs Go.Abs.Stk Go.Abs.At Go.Abs.Mac Go.Abs.Chk Go.Abs.Safe
variable {ρ:Int}
theorem vZ {t:AT}:∀x∈own t,x∈bg t.all:=fun x hx=>by rw[all_cons];simp[bg,hx]
theorem CH {t:AT} {i:Nat} (hi:i<t.kids.length):∀x∈bg (aB t i).all,x∈bg t.all:=fun x hx=>by
 obtain⟨p,q,he⟩:=q9 hi
 rw[all_cons,he]
 have e:bg (t::(p++(aB t i).all++q))=own t++(bg p++bg (aB t i).all++bg q):=by simp[bg]
 rw[e];simp[hx]
theorem ft {t:AT} (h:Nr ρ t) (hk:∀i,i<t.kids.length→NR ρ (aB t i)):NR ρ t:=by
 intro n hn
 rw[all_cons,lY]at hn
 rcases List.mem_cons.1 hn with rfl | hn
 ·exact h
 ·obtain⟨c,hc,hn⟩:=List.mem_flatMap.1 hn
  obtain⟨i,hi,rfl⟩:=List.mem_iff_getElem.1 hc
  have:aB t i=t.kids[i]:=by unfold aB;rw[List.getElem?_eq_getElem hi];rfl
  exact hk i hi n (by rw[this];exact hn)
theorem dx {t:AT} {rs:List Int} (hr:bt t rs=true) (hn:ρ∉rs):Nr ρ t:=by
 obtain⟨h1,h2,_⟩:=uF hr
 exact⟨fun hk e=>hn (by rw[←e];exact h1 hk),fun hk hm=>hn (h2 hk _ hm)⟩
theorem vR {rs l:List Int} (h1:ρ∉rs) (h2:ρ∉l):ρ∉rs++l:=by simp[h1,h2]
theorem Ty.nr {Γ rs t T E} (h:Ty Γ rs t T E):ρ∉rs→ρ∉bg t.all→Wf t→NR ρ t:=by
 have k0:∀ {t:AT},Wf t→nk t.h.kind=0→∀i,i<t.kids.length→NR ρ (aB t i):=fun hw h i hi=>by rw[hw.len,h]at hi;omega
 have k1:∀ {t:AT},Wf t→nk t.h.kind=1→NR ρ (aB t 0)→∀i,i<t.kids.length→NR ρ (aB t i):=fun hw h a i hi=>by
  rw[hw.len,h]at hi
  obtain rfl:i=0:=by omega
  exact a
 have k2:∀ {t:AT},Wf t→nk t.h.kind=2→NR ρ (aB t 0)→NR ρ (aB t 1)→∀i,i<t.kids.length→NR ρ (aB t i):=fun hw h a b i hi=>by
  rw[hw.len,h]at hi
  match i,hi with
  | 0,_=>exact a
  | 1,_=>exact b
 have k3:∀ {t:AT},Wf t→nk t.h.kind=3→NR ρ (aB t 0)→NR ρ (aB t 1)→NR ρ (aB t 2)→∀i,i<t.kids.length→NR ρ (aB t i):=fun hw h a b c i hi=>by
  rw[hw.len,h]at hi
  match i,hi with
  | 0,_=>exact a
  | 1,_=>exact b
  | 2,_=>exact c
 have sb:∀ {t:AT} {i:Nat},Wf t→i<nk t.h.kind→ρ∉bg t.all→ρ∉bg (aB t i).all:=fun hw hi hn hm=>hn (CH (by rw[hw.len];exact hi) _ hm)
 induction h with
 | num hr hk=>exact fun hn _ hw=>ft (dx hr hn) (k0 hw (by rw[hk];rfl))
 | var hr hk hf hb=>exact fun hn _ hw=>ft (dx hr hn) (k0 hw (by rw[hk];rfl))
 | inst hr hk hf hb hl hww=>exact fun hn _ hw=>ft (dx hr hn) (k0 hw (by rw[hk];rfl))
 | @pair Γ rs t a e0 b e1 hr hk h0 h1 ih0 ih1=>
  intro hn ho hw
  have n2:nk t.h.kind=2:=by rw[hk];rfl
  exact ft (dx hr hn) (k2 hw n2 (ih0 hn (sb hw (by omega) ho) (hw.kid (by omega))) (ih1 hn (sb hw (by omega) ho) (hw.kid (by omega))))
 | @proj Γ rs t a e0 hr hk h0 ha ih0=>
  intro hn ho hw
  have n1:nk t.h.kind=1:=by rcases hk with h | h<;>rw[h]<;>rfl
  exact ft (dx hr hn) (k1 hw n1 (ih0 hn (sb hw (by omega) ho) (hw.kid (by omega))))
 | @ref Γ rs t a e0 hr hk h0 ih0=>
  intro hn ho hw
  have n1:nk t.h.kind=1:=by rw[hk];rfl
  exact ft (dx hr hn) (k1 hw n1 (ih0 hn (sb hw (by omega) ho) (hw.kid (by omega))))
 | @get Γ rs t a e0 hr hk h0 ha ih0=>
  intro hn ho hw
  have n1:nk t.h.kind=1:=by rw[hk];rfl
  exact ft (dx hr hn) (k1 hw n1 (ih0 hn (sb hw (by omega) ho) (hw.kid (by omega))))
 | @set Γ rs t a e0 b e1 hr hk h0 h1 ha hs ih0 ih1=>
  intro hn ho hw
  have n2:nk t.h.kind=2:=by rw[hk];rfl
  exact ft (dx hr hn) (k2 hw n2 (ih0 hn (sb hw (by omega) ho) (hw.kid (by omega))) (ih1 hn (sb hw (by omega) ho) (hw.kid (by omega))))
 | @op Γ rs t a e0 b e1 hr hk h0 h1 ha hb ih0 ih1=>
  intro hn ho hw
  have n2:nk t.h.kind=2:=by rw[hk];rfl
  exact ft (dx hr hn) (k2 hw n2 (ih0 hn (sb hw (by omega) ho) (hw.kid (by omega))) (ih1 hn (sb hw (by omega) ho) (hw.kid (by omega))))
 | @app Γ rs t a e0 b e1 hr hk h0 h1 ha hs ih0 ih1=>
  intro hn ho hw
  have n2:nk t.h.kind=2:=by rw[hk];rfl
  exact ft (dx hr hn) (k2 hw n2 (ih0 hn (sb hw (by omega) ho) (hw.kid (by omega))) (ih1 hn (sb hw (by omega) ho) (hw.kid (by omega))))
 | @fn Γ rs t a e0 hr hk h0 hww ih0=>
  intro hn ho hw
  have n1:nk t.h.kind=1:=by rw[hk];rfl
  exact ft (dx hr hn) (k1 hw n1 (ih0 hn (sb hw (by omega) ho) (hw.kid (by omega))))
 | @let_ Γ rs t a e0 b e1 hr hk h0 h1 ih0 ih1=>
  intro hn ho hw
  have n2:nk t.h.kind=2:=by rw[hk];rfl
  exact ft (dx hr hn) (k2 hw n2 (ih0 hn (sb hw (by omega) ho) (hw.kid (by omega))) (ih1 hn (sb hw (by omega) ho) (hw.kid (by omega))))
 | @letrec Γ rs t a e0 b e1 hr hk h0 hs hww h1 ih0 ih1=>
  intro hn ho hw
  have n2:nk t.h.kind=2:=by rw[hk];rfl
  have hl:ρ∉t.aH:=fun hm=>ho (vZ _ (by unfold own;rw[if_neg (by omega),if_pos hk];exact hm))
  exact ft (dx hr hn) (k2 hw n2 (ih0 (vR hn hl) (sb hw (by omega) ho) (hw.kid (by omega))) (ih1 hn (sb hw (by omega) ho) (hw.kid (by omega))))
 | @if_ Γ rs t a e0 b e1 c e2 hr hk h0 h1 h2 ha hs ih0 ih1 ih2=>
  intro hn ho hw
  have n3:nk t.h.kind=3:=by rw[hk];rfl
  exact ft (dx hr hn) (k3 hw n3 (ih0 hn (sb hw (by omega) ho) (hw.kid (by omega))) (ih1 hn (sb hw (by omega) ho) (hw.kid (by omega))) (ih2 hn (sb hw (by omega) ho) (hw.kid (by omega))))
 | @raise Γ rs t a e0 hr hk h0 ha ih0=>
  intro hn ho hw
  have n1:nk t.h.kind=1:=by rw[hk];rfl
  exact ft (dx hr hn) (k1 hw n1 (ih0 hn (sb hw (by omega) ho) (hw.kid (by omega))))
 | @try_ Γ rs t a e0 b e1 hr hk h0 h1 hs ih0 ih1=>
  intro hn ho hw
  have n2:nk t.h.kind=2:=by rw[hk];rfl
  exact ft (dx hr hn) (k2 hw n2 (ih0 hn (sb hw (by omega) ho) (hw.kid (by omega))) (ih1 hn (sb hw (by omega) ho) (hw.kid (by omega))))
 | @region Γ rs t a e0 hr hk h0 hnn ih0=>
  intro hn ho hw
  have n1:nk t.h.kind=1:=by rw[hk];rfl
  have hl:ρ∉[t.rho]:=fun hm=>ho (vZ _ (by unfold own;rw[if_pos hk];exact hm))
  exact ft (dx hr hn) (k1 hw n1 (ih0 (vR hn hl) (sb hw (by omega) ho) (hw.kid (by omega))))
structure Du (r r':Res):Prop where
 kind:r'.kind=r.kind
 isInt:r'.isInt=r.isInt
 n:r'.n=r.n
 exn:r'.exn=r.exn
 steps:r'.s.steps=r.s.steps
 most:r'.s.store.most=r.s.store.most
theorem xp (o:Out) (s:Sa):(ni o s).store.most=s.store.most∧(ni o s).steps=s.steps:=by
 cases o with
 | over k=>exact⟨rfl,rfl⟩
 | val v=>exact⟨sR _,rfl⟩
 | exn n x=>exact⟨sR _,rfl⟩
theorem xO {fuel:Nat} {R C:Int} {t t2:AT} {r r2:Res} {T:RT} {E:List Atom} (h:Mac.j7 fuel R C t) (h2:Mac.j7 fuel (R+1) C t2) (hw:Mac.Whole fuel R C t r) (hw2:Mac.Whole fuel (R+1) C t2 r2)
 (hr:Dt t T E) (hk:t2.h.kind=17) (hk0:aB t2 0=t) (hn:t2.rho∉bg t.all) (h0:1≤t2.rho):Du r r2:=by
 obtain⟨s',o,hb,rfl⟩:=xN h hw
 have hT:TN t.size t:=⟨h.wf,Nat.le_refl _⟩
 have hNR:NR t2.rho t:=Ty.nr hr.ty (by simp;omega) hn h.wf
 have hS:=Wrap.Big.sh (ρ:=t2.rho) (N:=t.size) hb (fun c hc=>by simp[s0]at hc) ⟨hT,hNR⟩ (by show 1≤[0].length;simp) (Nat.zero_le _)
 have e1:sh t2.rho (s0 R C)= {s0 (R+1) C with store:=(s0 (R+1) C).store.more}:=rfl
 have e2:shE t2.rho En.nil=En.nil.opn t2.rho 1:=rfl
 have hp:dw (s0 (R+1) C).store=some (1,(s0 (R+1) C).store.more):=by
  unfold dw
  rw[if_pos]
  ·rfl
  ·show((([0]:List Nat).length:Nat):Int)<R+1
   have:=h.lim.R.1
   simp;omega
 have hB:Big fuel (s0 (R+1) C) t2 En.nil (ni (shO o) (sh t2.rho s')) (shO o):=by
  refine .region hk hp ?_
  rw[←e1,←e2,hk0];exact hS
 have:=qB (lS h2.f h2.wf h2.sz h2.lim hB) hw2
 rw[this]
 obtain⟨m1,m2⟩:=xp (shO o) (sh t2.rho s')
 have hkv:∀v:V,(shV v).kind=v.kind∧(shV v).n=v.n:=fun v=>⟨rfl,rfl⟩
 refine⟨?_,?_,?_,?_,by rw[vF,vF,m2];rfl,by rw[vF,vF,m1];rfl⟩
 all_goals
  cases o with
  | val v=>
   simp only[shO,fin,(hkv v).1,(hkv v).2]
   split<;>rfl
  | exn n x=>rfl
  | over k=>rfl
end Go.Abs.Wrap
