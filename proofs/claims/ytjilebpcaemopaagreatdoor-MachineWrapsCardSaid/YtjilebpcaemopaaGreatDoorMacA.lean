import Derived.Test.YtjilebpcaemopaaGreatDoorMacV
import Derived.Test.YtjilebpcaemopaaGreatDoorMacR
set_option linter.unusedVariables false
set_option linter.unusedSimpArgs false
set_option linter.deprecated false
namespace Go.Abs.Mac
open Go Go.Abs Go.Abs.Stk Go.Abs.At Go.Proofs.MacD
def avS (s:SG Cl):S:=⟨s.R,s.C,s.L.map fun p=>(p.1,p.2.map Cl.av),s.most⟩
theorem lf (l:List (Bool×List Cl)):∀i,idx (l.map fun p=>(p.1,p.2.map Cl.av)) i=idx l i:=by
 induction l with
 | nil=>intro i;rfl
 | cons p l ih=>intro i;obtain⟨b,c⟩:=p;cases b<;>simp[idx,ih]
theorem rG (l:List (Bool×List Cl)):tot (l.map fun p=>(p.1,p.2.map Cl.av))=tot l:=by
 induction l with
 | nil=>rfl
 | cons p l ih=>obtain⟨b,c⟩:=p;cases b<;>simp[tot,ih]
@[simp] theorem avS_R (s:SG Cl):(avS s).R=s.R:=rfl
@[simp] theorem avS_C (s:SG Cl):(avS s).C=s.C:=rfl
@[simp] theorem yk (s:SG Cl):(avS s).most=s.most:=rfl
@[simp] theorem nV (s:SG Cl):(avS s).live=s.live:=lf _ _
@[simp] theorem lZ (s:SG Cl):(avS s).cells=s.cells:=rG _
@[simp] theorem vw (s:SG Cl):(avS s).L.length=s.L.length:=by simp[avS]
theorem kS (s:SG Cl) (r:Int):(avS s).row r=(s.row r).map (List.map Cl.av):=by
 unfold SG.row at' Stk.rowAt
 by_cases h:0≤r
 ·simp only[h,if_true,avS,List.getElem?_map]
  cases hr:s.L[r.toNat]? with
  | none=>rfl
  | some p=>obtain⟨b,c⟩:=p;cases b<;>rfl
 ·simp[h]
theorem kR (s:SG Cl) (kd n r a:Int):(avS s).find kd n r a=s.find kd n r a:=by
 unfold SG.find
 rw[kS]
 split
 ·rfl
 ·cases s.row r with
  | none=>rfl
  | some row=>simp
theorem yj (s:SG Cl):(avS s).more=avS s.more:=by simp[avS,SG.more]
theorem yi (s:SG Cl) (i:Nat):(avS s).less i=avS (s.less i):=by simp[avS,SG.less,List.map_set]
theorem Ce (s:SG Cl) (i:Nat) (row:List Cl):(avS s).put i (row.map Cl.av)=avS (s.put i row):=by simp[avS,SG.put,List.map_set]
theorem yl (s:SG Cl) (i:Nat) (row:List Cl) (c:Cl):(avS s).gU i (row.map Cl.av) c.av=avS (s.gU i row c):=by
 have h1:(avS s).cells=s.cells:=lZ s
 simp only[SG.gU,h1,yk]
 simp[avS,List.map_set]
theorem Cl.bT (c:Cl):c.av.length=10:=rfl
structure Bnd (fuel:Nat) (s:Sa) (k:List Fr):Prop where
 ok:SOk s.store
 len:s.store.L.length≤1000000000000
 aC:s.aC.length≤1000000000000
 k:k.length≤1000000000000
 fuel:fuel≤1099511627776
theorem Bnd.Ok {fuel s k} (h:Bnd fuel s k):Stk.Ok (avS s.store) where
 R:=h.ok.R
 C:=h.ok.C
 live:=by rw[nV];exact h.ok.live
 cells:=by rw[lZ];exact h.ok.cells
 most:=by have:=h.ok.most;exact⟨by show 0≤s.store.most;omega,this.2⟩
 len:=by rw[vw];have:=h.len;omega
def rsV:Option (List Int)→AV
 | none=>bf
 | some l=>aO l
def Co.av (c:Co):List AV:=[.ref c.body.av,str c.arg,bO c.env.names,fD c.env.aH,rsV c.rs]
def frC (f:Fr) (v:AV):List AV:=[.ref f.t.av,bO f.e.names,fD f.e.aH,v]
def jd (σ:ah) (T:Nat→Nat) (tag sz:Nat) (v:AV) (els:List (List AV)):Prop:=
 (v=bf∧els= [])∨∃q rest,v= .own q els.length∧σ.get q=some (.cells sz (els++rest))∧T q=tag
theorem jd.rows {σ T tag sz v els} (h:jd σ T tag sz v els):Rows σ sz v els:=by
 rcases h with h | ⟨q,rest,h1,h2,_⟩
 ·exact .inl h
 ·exact .inr (.inr ⟨q,rest,h1,h2⟩)
theorem jd.mono {σ τ:ah} {T T':Nat→Nat} {tag sz v els} (h:jd σ T tag sz v els) (hk:∀q,T q=tag→T' q=tag∧τ.get q=σ.get q):jd τ T' tag sz v els:=by
 rcases h with h | ⟨q,rest,h1,h2,h3⟩
 ·exact .inl h
 ·exact .inr ⟨q,rest,h1,by rw[(hk q h3).2];exact h2,(hk q h3).1⟩
def gD (σ:ah) (T:Nat→Nat):List Fr→List AV→Prop
 | [],[]=>True
 | f::k,v::vv=>jd σ T (5+k.length) 4 v (f.vals.map V.av)∧gD σ T k vv
 | _,_=>False
theorem gD.mono {σ τ:ah} {T T':Nat→Nat}:∀ {k:List Fr} {vv:List AV},gD σ T k vv→(∀q,5≤T q→T q<5+k.length→T' q=T q∧τ.get q=σ.get q)→gD τ T' k vv
 | [],[],_,_=>trivial
 | f::k,v::vv,h,hk=>⟨h.1.mono fun q hq=>by have:=hk q (by omega) (by simp;omega);rw[hq]at this;exact this,gD.mono h.2 fun q h1 h2=>hk q h1 (by simp;omega)⟩
theorem gD.len {σ:ah} {T:Nat→Nat}:∀ {k:List Fr} {vv:List AV},gD σ T k vv→vv.length=k.length
 | [],[],_=>rfl
 | f::k,v::vv,h=>by simp[gD.len h.2]
def frs (k:List Fr) (vv:List AV):List (List AV):=(List.zipWith frC k vv).reverse
theorem fj {σ T k vv} (h:gD σ T k vv):(frs k vv).length=k.length:=by simp[frs,h.len]
@[simp] theorem frs_cons (f:Fr) (k:List Fr) (v:AV) (vv:List AV):frs (f::k) (v::vv)=frs k vv++ [frC f v]:=by simp[frs]
structure MX (σ:ah) (mid sid:Nat) (cv fv:AV) (vv:List AV) (T:Nat→Nat) (fuel:Nat) (s:Sa) (k:List Fr):Prop where
 obj:σ.get mid=some (.cells 5 [[.ptr sid 0 0,int fuel,int s.steps,cv,fv]])
 tm:T mid=2
 store:In σ sid (avS s.store) (fun i=>T i=1)
 aC:jd σ T 3 5 cv (s.aC.map Co.av)
 frames:jd σ T 4 4 fv (frs k vv)
 vals:gD σ T k vv
 lt:∀i,T i≠0→i<σ.next
def MA (σ:ah) (mid:Nat) (T:Nat→Nat) (fuel:Nat) (s:Sa) (k:List Fr):Prop:=∃sid cv fv vv,MX σ mid sid cv fv vv T fuel s k
theorem In.congr {σ τ:ah} {id:Nat} {s:S} {F:Nat→Prop} (h:In σ id s F) (hn:σ.next≤τ.next) (hg:∀i,F i→i<σ.next→τ.get i=σ.get i):In τ id s F:=by
 obtain⟨mid,lid,es,h,hF⟩:=h
 have gid:=hg id (hF _ (.inl rfl)) h.lt.1
 have gmid:=hg mid (hF _ (.inr (.inl rfl))) h.lt.2.1
 have glid:=hg lid (hF _ (.inr (.inr (.inl rfl)))) h.lt.2.2
 refine⟨mid,lid,es,{obj:= ?_,map:= ?_,keys:=h.keys,uniq:=h.uniq,lv:= ?_,none:=h.none,some:= ?_,ids:=h.ids,lt:= ?_,apart:= ?_,inj:=h.inj},hF⟩
 ·rw[gid];exact h.obj
 ·rw[gmid];exact h.map
 ·obtain⟨rest,e⟩:=h.lv;exact⟨rest,by rw[glid];exact e⟩
 ·intro r c hr
  obtain⟨v,h1,h2⟩:=h.some r c hr
  exact⟨v,h1,h2.mono fun q n e=>hg q (hF _ (.inr (.inr (.inr ⟨r,n,by rw[h1,e]⟩)))) (h.apart r q n (by rw[h1,e])).2.2.2⟩
 ·have:=h.lt;omega
 ·intro r q n e;have:=h.apart r q n e;omega
theorem MX.same {σ τ:ah} {mid sid cv fv vv T fuel s k} (h:MX σ mid sid cv fv vv T fuel s k) (hn:σ.next≤τ.next) (hg:∀i,T i≠0→i<σ.next→τ.get i=σ.get i):MX τ mid sid cv fv vv T fuel s k where
 obj:=by rw[hg mid (by rw[h.tm];omega) (h.lt mid (by rw[h.tm];omega))];exact h.obj
 tm:=h.tm
 store:=In.congr h.store hn fun i h1 h2=>hg i (by omega) h2
 aC:=h.aC.mono fun q hq=>⟨hq,hg q (by omega) (h.lt q (by omega))⟩
 frames:=h.frames.mono fun q hq=>⟨hq,hg q (by omega) (h.lt q (by omega))⟩
 vals:=h.vals.mono fun q h1 h2=>⟨rfl,hg q (by omega) (h.lt q (by omega))⟩
 lt:=fun i hi=>Nat.lt_of_lt_of_le (h.lt i hi) hn
theorem MA.same {σ τ:ah} {mid T fuel s k} (h:MA σ mid T fuel s k) (hn:σ.next≤τ.next) (hg:∀i,T i≠0→i<σ.next→τ.get i=σ.get i):MA τ mid T fuel s k:=
 let ⟨sid,cv,fv,vv,h⟩:=h;⟨sid,cv,fv,vv,h.same hn hg⟩
theorem MA.aP {σ τ:ah} {mid T fuel s k} (h:MA σ mid T fuel s k) (g:aq σ τ):MA τ mid T fuel s k:=h.same g.next fun i _ hi=>g.get i hi
theorem MA.lt {σ:ah} {mid T fuel s k} (h:MA σ mid T fuel s k):∀i,T i≠0→i<σ.next:=let ⟨_,_,_,_,h⟩:=h;h.lt
theorem MA.zero {σ:ah} {mid T fuel s k} (h:MA σ mid T fuel s k) {i:Nat} (hi:σ.next≤i):T i=0:=by
 by_cases e:T i=0
 ·exact e
 ·have:=h.lt i e;omega
structure ba (T:Nat→Nat) (σ:ah) (T':Nat→Nat) (τ:ah):Prop where
 next:σ.next≤τ.next
 get:∀i,i<σ.next→T i=0→T' i=0∧τ.get i=σ.get i
theorem ba.refl (T σ):ba T σ T σ:=⟨Nat.le_refl _,fun _ _ h=>⟨h,rfl⟩⟩
theorem ba.trans {T σ T' τ T'' υ} (h:ba T σ T' τ) (k:ba T' τ T'' υ):ba T σ T'' υ:=
 ⟨Nat.le_trans h.next k.next,fun i hi h0=>by
  obtain⟨a,b⟩:=h.get i hi h0
  obtain⟨c,d⟩:=k.get i (Nat.lt_of_lt_of_le hi h.next) a
  exact⟨c,d.trans b⟩⟩
theorem ba.aP {T σ τ} (g:aq σ τ):ba T σ T τ:=⟨g.next,fun i hi h0=>⟨h0,g.get i hi⟩⟩
theorem ba.set {T σ τ i o} (h:ba T σ T τ) (hi:σ.next≤i):ba T σ T (τ.set i o):=⟨h.next,fun j hj h0=>⟨h0,by rw[au,if_neg (by omega)];exact(h.get j hj h0).2⟩⟩
theorem ba.of {T σ τ} {T':Nat→Nat} {υ:ah} (g:aq σ τ) (h:ba T τ T' υ):ba T σ T' υ:=(ba.aP g).trans h
structure Loc (n:Nat) (T:Nat→Nat) (τ υ:ah):Prop where
 next:τ.next≤υ.next
 get:∀i,i<τ.next→(i<n∨T i≠0)→υ.get i=τ.get i
theorem Loc.refl (n T τ):Loc n T τ τ:=⟨Nat.le_refl _,fun _ _ _=>rfl⟩
theorem Loc.new {n T τ υ} (h:Loc n T τ υ) (o:dm):Loc n T τ (υ.new o):=⟨Nat.le_succ_of_le h.next,fun i hi h0=>by rw[an,if_neg (by have:=h.next;omega)];exact h.get i hi h0⟩
theorem Loc.set {n T τ υ} (h:Loc n T τ υ) {i:Nat} {o:dm} (hi:τ.next≤i∨(n≤i∧T i=0)):Loc n T τ (υ.set i o):=⟨h.next,fun j hj h0=>by rw[au,if_neg (by rintro rfl;omega)];exact h.get j hj h0⟩
theorem Loc.aP {n T τ υ} (h:aq τ υ):Loc n T τ υ:=⟨h.next,fun i hi _=>h.get i hi⟩
theorem Loc.trans {n T τ υ ω} (h:Loc n T τ υ) (k:Loc n T υ ω):Loc n T τ ω:=⟨Nat.le_trans h.next k.next,fun i hi h0=>(k.get i (Nat.lt_of_lt_of_le hi h.next) h0).trans (h.get i hi h0)⟩
theorem MA.loc {n:Nat} {τ υ:ah} {mid T fuel s k} (h:MA τ mid T fuel s k) (l:Loc n T τ υ):MA υ mid T fuel s k:=h.same l.next fun i h1 h2=>l.get i h2 (.inr h1)
theorem MX.loc {n:Nat} {τ υ:ah} {mid sid cv fv vv T fuel s k} (h:MX τ mid sid cv fv vv T fuel s k) (l:Loc n T τ υ):MX υ mid sid cv fv vv T fuel s k:=h.same l.next fun i h1 h2=>l.get i h2 (.inr h1)
theorem ba.loc {T σ T' τ υ} (h:ba T σ T' τ) (l:Loc σ.next T' τ υ):ba T σ T' υ:=⟨Nat.le_trans h.next l.next,fun i hi h0=>⟨(h.get i hi h0).1,by rw[l.get i (Nat.lt_of_lt_of_le hi h.next) (.inl hi)];exact(h.get i hi h0).2⟩⟩
def pR {α:Type} (mid fuel:Nat) (T:Nat→Nat) (σ:ah) (k:List Fr) (f:α→AV) (K kp:AV→ah→Prop):Re α→Prop
 | .ok x s=>∀τ T',MA τ mid T' fuel s k→ba T σ T' τ→K (f x) τ
 | .over s kd=>∀τ T' k',MA τ mid T' fuel s k'→ba T σ T' τ→kp (.iface 102 (.agg [u8 kd])) τ
end Go.Abs.Mac
set_option linter.unusedVariables false
set_option linter.unusedSimpArgs false
set_option linter.deprecated false
namespace Go.Abs.Mac
open Go Go.Abs Go.Abs.Stk Go.Abs.At Go.Proofs.MacD
variable {σ:ah} {mid sid fuel:Nat} {cv fv:AV} {vv:List AV} {T:Nat→Nat} {s:Sa} {k:List Fr} {K kp:AV→ah→Prop}
theorem MX.change (h:MX σ mid sid cv fv vv T fuel s k) {τ:ah} {st:SG Cl} (hin:In τ sid (avS st) (wB (fun i=>T i=1) σ.next)) (off:Off (fun i=>T i=1) σ τ):
 ∃T',MX τ mid sid cv fv vv T' fuel {s with store:=st} k∧ba T σ T' τ:=by
 have hne:∀i,σ.next≤i→T i=0:=fun i hi=>by
  by_cases e:T i=0
  ·exact e
  ·have:=h.lt i e;omega
 refine⟨fun i=>if σ.next≤i∧i<τ.next then 1 else T i,?_,off.next,fun i hi h0=>⟨by show(if σ.next≤i∧i<τ.next then 1 else T i)=0;rw[if_neg (by omega)];exact h0,off.get i (by omega) hi⟩⟩
 have hT:∀i,2≤T i→(if σ.next≤i∧i<τ.next then 1 else T i)=T i∧τ.get i=σ.get i:=fun i hi=>by
  have:=h.lt i (by omega)
  exact⟨if_neg (by omega),off.get i (by omega) this⟩
 refine {obj:= ?_,tm:= ?_,store:= ?_,aC:= ?_,frames:= ?_,vals:= ?_,lt:= ?_}
 ·rw[(hT mid (by rw[h.tm];omega)).2];exact h.obj
 ·rw[(hT mid (by rw[h.tm];omega)).1];exact h.tm
 ·refine In.sub (In.cut hin) fun i hi=> ?_
  show(if σ.next≤i∧i<τ.next then 1 else T i)=1
  rcases hi with ⟨hi | hi,hl⟩
  ·have:=h.lt i (by omega);rw[if_neg (by omega)];exact hi
  ·rw[if_pos ⟨hi,hl⟩]
 ·exact h.aC.mono fun q hq=>⟨(hT q (by omega)).1.trans hq,(hT q (by omega)).2⟩
 ·exact h.frames.mono fun q hq=>⟨(hT q (by omega)).1.trans hq,(hT q (by omega)).2⟩
 ·exact h.vals.mono fun q h1 _=>hT q (by omega)
 ·intro i hi
  by_cases e:σ.next≤i∧i<τ.next
  ·exact e.2
  ·have hi:(if σ.next≤i∧i<τ.next then 1 else T i)≠0:=hi
   rw[if_neg e]at hi
   have:=h.lt i hi;have:=off.next;omega
theorem Gn (h:MX σ mid sid cv fv vv T fuel s k) (b:Stk.Ok (avS s.store))
 (hk:match dw s.store with
   | some (r,st)=>∀τ T',MX τ mid sid cv fv vv T' fuel {s with store:=st} k→ba T σ T' τ→K (.tup [int r,bool true]) τ
   | none=>K (.tup [int 0,bool false]) σ):Ev PR 78 [.ptr sid 0 0] σ K kp:=by
 refine CZ h.store b ?_
 unfold dw at hk
 rw[nV,avS_R,vw]
 by_cases hl:(s.store.live.length:Int)<s.store.R
 ·rw[if_pos hl]at hk⊢
  intro τ hin off
  rw[yj]at hin
  obtain⟨T',h1,h2⟩:=h.change hin off
  exact hk τ T' h1 h2
 ·rw[if_neg hl]at hk⊢
  exact hk
theorem DM (h:MX σ mid sid cv fv vv T fuel s k) (b:Stk.Ok (avS s.store))
 (hk:∀x τ T',MX τ mid sid cv fv vv T' fuel {s with store:=cz s.store} k→ba T σ T' τ→K x τ):Ev PR 91 [.ptr sid 0 0] σ K kp:=by
 refine Gl h.store b ?_
 unfold cz at hk
 rw[nV]
 by_cases hl:s.store.live.length<2
 ·rw[if_pos hl]at hk⊢
  exact hk _ σ T h (ba.refl _ _)
 ·rw[if_neg hl]at hk⊢
  intro i hi τ hin off
  rw[hi]at hk
  rw[yi]at hin
  obtain⟨T',h1,h2⟩:=h.change hin off
  exact hk _ τ T' h1 h2
theorem Ga (h:MX σ mid sid cv fv vv T fuel s k) {x:AV} {r:Int} (hr:Rows σ 1 x [[int r]]) (hk:K (bool (dH s.store r)) σ):Ev PR 125 [.ptr sid 0 0,x] σ K kp:=by
 refine rf (l:=[r]) h.store hr (by simp) ?_
 simp[kS]
 simpa [dH] using hk
theorem DO (h:MX σ mid sid cv fv vv T fuel s k) (b:Stk.Ok (avS s.store)) {r:Int} {c:Cl} (hl:dH s.store r=true)
 (hk:match e8 s.store r c with
   | some (v,st)=>∀τ T',MX τ mid sid cv fv vv T' fuel {s with store:=st} k→ba T σ T' τ→K (.tup [vV v,int 0]) τ
   | none=>∀τ,aq σ τ→K (.tup [vV V.zero,int 3]) τ):Ev PR 126 [.ptr sid 0 0,int r,.agg c.av] σ K kp:=by
 refine Gp h.store b c.bT ?_
 unfold dH at hl
 unfold e8 at hk
 cases hr:s.store.row r with
 | none=>rw[hr]at hl;simp at hl
 | some row=>
  rw[hr]at hk
  rw[kS,hr]
  simp only[Option.map_some,avS_C,lZ]at hk⊢
  by_cases hc:s.store.C≤s.store.cells
  ·rw[if_pos hc]at hk⊢
   exact hk
  ·rw[if_neg hc]at hk⊢
   intro i hi hL τ hin off
   subst hi
   rw[yl]at hin
   obtain⟨T',h1,h2⟩:=h.change hin off
   have:=hk τ T' h1 h2
   rw[List.length_map]
   exact this
theorem DJ (h:MX σ mid sid cv fv vv T fuel s k) {v:V}
 (hk:match (if s.store.find v.kind v.n v.r v.a=0 then cellAt s.store v else none) with
   | some c=>∀τ,aq σ τ→K (.tup [.agg c.av,int 0]) τ
   | none=>s.store.find v.kind v.n v.r v.a≠0→∀τ,aq σ τ→K (.tup [.agg qC,int (s.store.find v.kind v.n v.r v.a)]) τ):Ev PR 171 [.ptr sid 0 0,vV v] σ K kp:=by
 refine F5 (kd:=v.kind) (n:=v.n) (r:=v.r) (a:=v.a) h.store ?_ ?_
 ·rw[kR]
  intro hf
  rw[if_neg hf]at hk
  exact hk hf
 ·rw[kR]
  intro hf τ hg row i c hrow hi hc
  rw[if_pos hf]at hk
  rw[kS]at hrow
  obtain⟨row',hrow',rfl⟩:=Option.map_eq_some_iff.1 hrow
  rw[List.getElem?_map]at hc
  obtain⟨c',hc',rfl⟩:=Option.map_eq_some_iff.1 hc
  have:cellAt s.store v=some c':=by unfold cellAt;rw[hrow'];simp[hi,hc']
  rw[this]at hk
  exact hk τ hg
theorem set_m (h:MX σ mid sid cv fv vv T fuel s k) {v:V} {c:Cl} (hf:s.store.find v.kind v.n v.r v.a=0)
 (hk:∀x τ T',MX τ mid sid cv fv vv T' fuel {s with store:=eN s.store v c} k→ba T σ T' τ→K x τ):Ev PR 127 [.ptr sid 0 0,vV v,.agg c.av] σ K kp:=by
 refine GL (kd:=v.kind) (n:=v.n) (r:=v.r) (a:=v.a) h.store c.bT ?_ ?_
 ·rw[kR];intro h0;exact absurd hf h0
 ·rw[kR]
  intro _ row ri i hr hL ha hi τ hin off
  have hrow:(avS s.store).row v.r=some row:=by rw[hr];exact yh hL
  rw[kS]at hrow
  obtain⟨row',hrow',rfl⟩:=Option.map_eq_some_iff.1 hrow
  have e:eN s.store v c=s.store.put ri (row'.set i c):=by
   unfold eN
   rw[hrow'];simp[hr,ha]
  have e2:(List.map Cl.av row').set i c.av=(row'.set i c).map Cl.av:=by rw[List.map_set]
  rw[e2,Ce,←e]at hin
  obtain⟨T',h1,h2⟩:=h.change hin off
  exact hk _ τ T' h1 h2
end Go.Abs.Mac
set_option linter.unusedVariables false
set_option linter.unusedSimpArgs false
set_option linter.deprecated false
namespace Go.Abs.Mac
open Go Go.Abs Go.Abs.Stk Go.Abs.At Go.Proofs.MacD
variable {σ:ah} {mid sid fuel:Nat} {cv fv:AV} {vv:List AV} {T:Nat→Nat} {s:Sa} {k:List Fr} {K kp:AV→ah→Prop}
@[simp] theorem Cl.av_len' (c:Cl):c.av.length=10:=rfl
@[simp] theorem V.bT (v:V):v.av.length=4:=rfl
@[simp] theorem jy (e:En):(bH e).length=2:=rfl
@[simp] theorem take_all {α:Type} (l:List α) {n:Nat} (h:l.length≤n):l.take n=l:=List.take_of_length_le h
theorem MX.aP {σ τ:ah} (h:MX σ mid sid cv fv vv T fuel s k) (g:aq σ τ):MX τ mid sid cv fv vv T fuel s k:=h.same g.next fun i _ hi=>g.get i hi
theorem iL (h:MA σ mid T fuel s k) (b:Stk.Ok (avS s.store)) {e:En} {rho:Int} {c:Cl} (hr:pR mid fuel T σ k vV K kp (make s e rho c)):Ev PR 86 [.ptr mid 0 0,dt e,int rho,.agg c.av] σ K kp:=by
 apply Ff;unfold F86
 simp[an,Nat.add_assoc]
 generalize hτ:((σ.new (.cells 2 [bH e])).new (.cells 10 [c.av])).new (.cells 4 [[.val (.int .u8 0),.val (.int .i64 0),.val (.int .i64 0),.val (.int .i64 0)]])=τ
 have hg:aq σ τ:=by rw[←hτ];exact((aq.new _ _).trans (aq.new _ _)).trans (aq.new _ _)
 have hn:τ.next=σ.next+3:=by rw[←hτ];rfl
 have g0:τ.get σ.next=some (.cells 2 [bH e]):=by rw[←hτ];simp[an];omega
 have g1:τ.get (σ.next+1)=some (.cells 10 [c.av]):=by rw[←hτ];simp[an]
 have g2:τ.get (σ.next+2)=some (.cells 4 [[.val (.int .u8 0),.val (.int .i64 0),.val (.int .i64 0),.val (.int .i64 0)]]):=by rw[←hτ];simp[an]
 obtain⟨sid,cv,fv,vv,hx⟩:=h.aP hg
 refine qk ?_
 unfold Mac.make at hr
 simp
 by_cases h1:(e.region rho).2=true
 ·simp[h1,hx.obj,Nat.add_assoc]
  have hx1:=hx.aP (aq.new τ (.cells 1 [[.val (.int .i64 (e.region rho).1)]]))
  refine Ga hx1 (r:=(e.region rho).1) (.inr (.inr ⟨τ.next,[],rfl,by simp[an]⟩)) ?_
  generalize hτ2:τ.new (.cells 1 [[.val (.int .i64 (e.region rho).1)]])=τ2 at hx1
  have hg2:aq σ τ2:=by rw[←hτ2];exact hg.trans (aq.new _ _)
  have hn2:τ2.next=σ.next+4:=by rw[←hτ2];show τ.next+1=_;omega
  have g0:τ2.get σ.next=some (.cells 2 [bH e]):=by rw[←hτ2];simp[an,hn,g0]
  have g1:τ2.get (σ.next+1)=some (.cells 10 [c.av]):=by rw[←hτ2];simp[an,hn,g1]
  have g2:τ2.get (σ.next+2)=some (.cells 4 [[.val (.int .u8 0),.val (.int .i64 0),.val (.int .i64 0),.val (.int .i64 0)]]):=by rw[←hτ2];simp[an,hn,g2]
  refine cy (fun h2=> ?_) (fun h2=> ?_)
  ·rw[if_pos ⟨h1,h2⟩]at hr
   obtain⟨J,hJ⟩:∃J:aA→ah→Prop,∀fr υ,J fr υ↔∃(id:Nat) (v:V) (er:Int) (x:List AV),fr= [(8,.ptr (σ.next+2) 0 0),(11,.ptr id 0 0),(12,int er)]∧υ.get id=some (.cells 4 [v.av])∧υ.get (σ.next+2)=some (.cells 4 [x])∧x.length=4∧
    (er=0→∀y,K (vV v) (υ.set (σ.next+2) y))∧(er≠0→kp (.iface 102 (.agg [u8 4])) υ):=⟨_,fun _ _=>Iff.rfl⟩
   refine bw J ?_ ?_
   ·simp only[hx1.obj]
    simp[hx1.obj,g1,List.take_of_length_le (Nat.le_of_eq c.bT)]
    refine⟨?_,?_⟩
    ·refine DO hx1 b h2 ?_
     cases hp:e8 s.store (e.region rho).1 c with
     | some p=>
      obtain⟨v,st⟩:=p
      rw[hp]at hr
      intro τ3 T' hx3 hk3
      have hn3:=hk3.next
      have z0:=(hk3.get (σ.next+1) (by omega) (h.zero (by omega)))
      have z1:=(hk3.get (σ.next+2) (by omega) (h.zero (by omega)))
      have hm:mid<τ3.next:=hx3.lt mid (by rw[hx3.tm];omega)
      simp[hx3.obj,z0.2,z1.2,g1,g2,Nat.ne_of_lt hm,an,au,show σ.next+1≠τ3.next by omega,show σ.next+2≠τ3.next by omega,List.take_of_length_le (Nat.le_of_eq c.bT)]
      refine(hJ _ _).2 ⟨τ3.next,v,0,_,rfl,by simp[au],by simp[au,an,show σ.next+2≠τ3.next by omega,z1.2,g2];rfl,rfl,fun _ y=> ?_,fun h=>(h rfl).elim⟩
      have l:Loc σ.next T' τ3 (((τ3.new (.cells 4 [[.val (.int .u8 0),.val (.int .i64 0),.val (.int .i64 0),.val (.int .i64 0)]])).set τ3.next (.cells 4 [v.av])).set (σ.next+2) y):=((Loc.new (.refl _ _ _) _).set (.inl (Nat.le_refl _))).set (.inr ⟨by omega,z1.1⟩)
      exact hr _ T' ⟨_,_,_,_,hx3.loc l⟩ ((ba.of hg2 hk3).loc l)
     | none=>
      rw[hp]at hr
      intro τ3 hg3
      have hn3:=hg3.next
      have hx3:=hx1.aP hg3
      have hm:mid<τ3.next:=hx3.lt mid (by rw[hx3.tm];omega)
      simp[hx3.obj,hg3.get (σ.next+1) (by omega),hg3.get (σ.next+2) (by omega),g1,g2,Nat.ne_of_lt hm,an,au,show σ.next+1≠τ3.next by omega,show σ.next+2≠τ3.next by omega,List.take_of_length_le (Nat.le_of_eq c.bT)]
      refine(hJ _ _).2 ⟨τ3.next,V.zero,3,_,rfl,by simp[au],by simp[au,an,show σ.next+2≠τ3.next by omega,hg3.get (σ.next+2) (by omega),g2];rfl,rfl,fun h=>by simp at h,fun _=> ?_⟩
      have l:Loc σ.next T τ3 ((τ3.new (.cells 4 [[.val (.int .u8 0),.val (.int .i64 0),.val (.int .i64 0),.val (.int .i64 0)]])).set τ3.next (.cells 4 [V.zero.av])):=(Loc.new (.refl _ _ _) _).set (.inl (Nat.le_refl _))
      exact hr _ T _ ⟨_,_,_,_,hx3.loc l⟩ ((ba.aP (hg2.trans hg3)).loc l)
    ·have hm2:mid<τ2.next:=hx1.lt mid (by rw[hx1.tm];omega)
     simp[hx1.obj,g1,g2,Nat.ne_of_lt hm2,an,au,show σ.next+1≠τ2.next by omega,List.take_of_length_le (Nat.le_of_eq c.bT)]
     have hx2:=hx1.aP (aq.new τ2 (.cells 4 [[.val (.int .u8 0),.val (.int .i64 0),.val (.int .i64 0),.val (.int .i64 0)]]))
     have hg3:=hg2.trans (aq.new τ2 (.cells 4 [[.val (.int .u8 0),.val (.int .i64 0),.val (.int .i64 0),.val (.int .i64 0)]]))
     refine DO hx2 b h2 ?_
     cases hp:e8 s.store (e.region rho).1 c with
     | some p=>
      obtain⟨v,st⟩:=p
      rw[hp]at hr
      intro τ3 T' hx3 hk3
      have hn3:τ2.next+1≤τ3.next:=hk3.next
      have z1:=(hk3.get (σ.next+2) (by show _<τ2.next+1;omega) (h.zero (by omega)))
      have z2:=(hk3.get τ2.next (by show _<τ2.next+1;omega) (h.zero (by omega)))
      rw[an,if_neg (by omega)]at z1
      rw[an,if_pos rfl]at z2
      simp[z2.2]
      refine(hJ _ _).2 ⟨τ2.next,v,0,_,rfl,by simp[au],by simp[au,show σ.next+2≠τ2.next by omega,z1.2,g2];rfl,rfl,fun _ y=> ?_,fun h=>(h rfl).elim⟩
      have l:Loc σ.next T' τ3 ((τ3.set τ2.next (.cells 4 [v.av])).set (σ.next+2) y):=(Loc.set (.refl _ _ _) (.inr ⟨by omega,z2.1⟩)).set (.inr ⟨by omega,z1.1⟩)
      exact hr _ T' ⟨_,_,_,_,hx3.loc l⟩ ((ba.of hg3 hk3).loc l)
     | none=>
      rw[hp]at hr
      intro τ3 hg4
      have hn3:τ2.next+1≤τ3.next:=hg4.next
      have hx3:=hx2.aP hg4
      have z1:=hg4.get (σ.next+2) (by show _<τ2.next+1;omega)
      have z2:=hg4.get τ2.next (by show _<τ2.next+1;omega)
      rw[an,if_neg (by omega)]at z1
      rw[an,if_pos rfl]at z2
      simp[z2]
      refine(hJ _ _).2 ⟨τ2.next,V.zero,3,_,rfl,by simp[au],by simp[au,show σ.next+2≠τ2.next by omega,z1,g2];rfl,rfl,fun h=>by simp at h,fun _=> ?_⟩
      have l:Loc σ.next T τ3 (τ3.set τ2.next (.cells 4 [V.zero.av])):=Loc.set (.refl _ _ _) (.inr ⟨by omega,h.zero (by omega)⟩)
      exact hr _ T _ ⟨_,_,_,_,hx3.loc l⟩ ((ba.aP (hg3.trans hg4)).loc l)
   ·intro fr υ hj
    obtain⟨id,v,er,x,rfl,q1,q2,q3,q4,q5⟩:=(hJ fr υ).1 hj
    simp
    refine cy (fun h3=> ?_) (fun h3=>q5 (by simpa using h3))
    simp[q1,q2,q3,List.drop_of_length_le (Nat.le_of_eq q3),List.take_of_length_le (Nat.le_of_eq v.bT)]
    exact q4 (by simpa using h3) _
  ·rw[if_neg (by simp[h2])]at hr
   exact hr _ T k ⟨_,_,_,_,hx1⟩ (ba.aP hg2)
 ·rw[if_neg (by simp[h1])]at hr
  simp[h1]
  refine cy (fun h2=>by simp at h2) (fun _=>hr _ T k ⟨_,_,_,_,hx⟩ (ba.aP hg))
end Go.Abs.Mac
set_option linter.unusedVariables false
set_option linter.unusedSimpArgs false
set_option linter.deprecated false
namespace Go.Abs.Mac
open Go Go.Abs Go.Abs.Stk Go.Abs.At Go.Proofs.MacD
variable {σ:ah} {mid sid fuel:Nat} {cv fv:AV} {vv:List AV} {T:Nat→Nat} {s:Sa} {k:List Fr} {K kp:AV→ah→Prop}
abbrev zC:List AV:=[.val (.int .u8 0),.val (.int .u8 0),.val (.int .i64 0),.val (.int .i64 0),.val (.int .i64 0),.val (.int .u8 0),.val (.int .i64 0),.val (.int .i64 0),.val (.int .i64 0),.val (.int .i64 0)]
theorem nH (h:MA σ mid T fuel s k) {v:V} {kd:Int}
 (hr:match take s v kd with
   | .ok c _=>∀τ,aq σ τ→K (.agg c.av) τ
   | .over _ o=>∀τ,aq σ τ→kp (.iface 102 (.agg [u8 o])) τ):Ev PR 123 [.ptr mid 0 0,vV v,u8 kd] σ K kp:=by
 apply AF;unfold F123
 simp[an,Nat.add_assoc]
 generalize hτ:(σ.new (.cells 4 [v.av])).new (.cells 10 [zC])=τ
 have hg:aq σ τ:=by rw[←hτ];exact(aq.new _ _).trans (aq.new _ _)
 have hn:τ.next=σ.next+2:=by rw[←hτ];rfl
 have g0:τ.get σ.next=some (.cells 4 [v.av]):=by rw[←hτ];simp[an]
 have g1:τ.get (σ.next+1)=some (.cells 10 [zC]):=by rw[←hτ];simp[an]
 obtain⟨sid,cv,fv,vv,hx⟩:=h.aP hg
 have hm:mid<τ.next:=hx.lt mid (by rw[hx.tm];omega)
 have hvh:v.av.head?=some (u8 v.kind):=rfl
 simp[hvh]
 unfold Mac.take at hr
 refine cy (fun h1=> ?_) (fun h1=> ?_)
 ·simp at h1
  rw[if_pos h1]at hr
  obtain⟨J,hJ⟩:∃J:aA→ah→Prop,∀fr υ,J fr υ↔∃(id:Nat) (c:Cl) (er:Int),fr= [(2,u8 kd),(6,.ptr (σ.next+1) 0 0),(7,.ptr id 0 0),(8,int er)]∧aq σ υ∧υ.get id=some (.cells 10 [c.av])∧υ.get (σ.next+1)=some (.cells 10 [zC])∧s.store.find v.kind v.n v.r v.a=er∧(er=0→cellAt s.store v=some c):=⟨_,fun _ _=>Iff.rfl⟩
  refine bw J ?_ ?_
  ·simp[hx.obj,g0,List.take_of_length_le (Nat.le_of_eq v.bT)]
   refine⟨?_,?_⟩
   ·have go:∀(c:Cl) (er:Int),s.store.find v.kind v.n v.r v.a=er→(er=0→cellAt s.store v=some c)→∀τ1,aq τ τ1→J [(2,u8 kd),(6,.ptr (σ.next+1) 0 0),(7,.ptr τ1.next 0 0),(8,int er)] ((τ1.new (.cells 10 [zC])).set τ1.next (.cells 10 [c.av])):=by
     intro c er h2 h3 τ1 h4
     have:=h4.next
     exact(hJ _ _).2 ⟨τ1.next,c,er,rfl,((hg.trans h4).trans (aq.new _ _)).set (by have:=hg.next;omega) _,by simp[au],by simp[au,an,show σ.next+1≠τ1.next by omega,h4.get (σ.next+1) (by omega),g1],h2,h3⟩
    refine DJ hx ?_
    split
    ·rename_i c hc
     intro τ1 h4
     have hx1:=hx.aP h4
     have hm1:=h4.next
     by_cases hf:s.store.find v.kind v.n v.r v.a=0
     ·rw[if_pos hf]at hc
      simp[hx1.obj,an,au,show mid≠τ1.next by omega,show σ.next≠τ1.next by omega,h4.get σ.next (by omega),g0,List.take_of_length_le (Nat.le_of_eq v.bT)]
      exact go c 0 hf (fun _=>hc) τ1 h4
     ·rw[if_neg hf]at hc;cases hc
    ·intro hf τ1 h4
     have hx1:=hx.aP h4
     have hm1:=h4.next
     simp[hx1.obj,an,au,show mid≠τ1.next by omega,show σ.next≠τ1.next by omega,h4.get σ.next (by omega),g0,List.take_of_length_le (Nat.le_of_eq v.bT)]
     exact go ⟨0,V.zero,V.zero,0⟩ _ rfl (fun e=>absurd e hf) τ1 h4
   ·simp[an,Nat.ne_of_lt hm,hx.obj,show σ.next≠τ.next by omega,g0,List.take_of_length_le (Nat.le_of_eq v.bT)]
    have hgn:aq τ (τ.new (.cells 10 [zC])):=aq.new _ _
    have go:∀(c:Cl) (er:Int),s.store.find v.kind v.n v.r v.a=er→(er=0→cellAt s.store v=some c)→∀τ1,aq (τ.new (.cells 10 [zC])) τ1→J [(2,u8 kd),(6,.ptr (σ.next+1) 0 0),(7,.ptr τ.next 0 0),(8,int er)] (τ1.set τ.next (.cells 10 [c.av])):=by
     intro c er h2 h3 τ1 h4
     have h5:=hgn.trans h4
     exact(hJ _ _).2 ⟨τ.next,c,er,rfl,(hg.trans h5).set (by omega) _,by simp[au],by simp[au,show σ.next+1≠τ.next by omega,h5.get (σ.next+1) (by omega),g1],h2,h3⟩
    have gn:∀τ1,aq (τ.new (.cells 10 [zC])) τ1→τ1.get τ.next=some (.cells 10 [zC]):=fun τ1 h4=>by rw[h4.get τ.next (Nat.lt_succ_self _)];simp
    refine DJ (hx.aP hgn) ?_
    split
    ·rename_i c hc
     intro τ1 h4
     have hx1:=(hx.aP hgn).aP h4
     by_cases hf:s.store.find v.kind v.n v.r v.a=0
     ·rw[if_pos hf]at hc
      simp[hx1.obj,gn τ1 h4]
      exact go c 0 hf (fun _=>hc) τ1 h4
     ·rw[if_neg hf]at hc;cases hc
    ·intro hf τ1 h4
     have hx1:=(hx.aP hgn).aP h4
     simp[hx1.obj,gn τ1 h4]
     exact go ⟨0,V.zero,V.zero,0⟩ _ rfl (fun e=>absurd e hf) τ1 h4
  ·intro fr υ hj
   obtain⟨id,c,er,rfl,q1,q2,q3,q4,q5⟩:=(hJ fr υ).1 hj
   rw[q4]at hr
   simp
   refine cy (fun h2=> ?_) (fun h2=> ?_)
   ·simp at h2
    rw[if_neg h2]at hr
    by_cases h0:er=0
    ·subst h0
     rw[if_pos rfl,q5 rfl]at hr
     simp only at hr
     have hch:c.av.head?=some (u8 c.kind):=rfl
     simp[q2,hch]
     refine cy (fun h3=> ?_) (fun h3=> ?_)
     ·simp at h3
      rw[if_pos h3]at hr
      simp[q2,q3,List.take_of_length_le (Nat.le_of_eq c.bT)]
      exact hr _ (q1.set (by omega) _)
     ·simp at h3
      rw[if_neg h3]at hr
      exact hr _ q1
    ·rw[if_neg h0]at hr
     simp[h0]
     exact cy (fun h3=>by simp at h3) (fun h3=>hr _ q1)
   ·simp at h2
    rw[if_pos h2]at hr
    exact hr _ q1
 ·simp at h1
  rw[if_neg h1]at hr
  exact hr _ hg
end Go.Abs.Mac
set_option linter.unusedVariables false
set_option linter.unusedSimpArgs false
set_option linter.deprecated false
namespace Go.Abs.Mac
open Go Go.Abs Go.Abs.Stk Go.Abs.At Go.Proofs.MacD
variable {σ τ:ah} {mid sid fuel:Nat} {cv fv:AV} {vv:List AV} {T:Nat→Nat} {s:Sa} {k:List Fr} {K kp:AV→ah→Prop}
def tg (T:Nat→Nat) (n c:Nat):Nat→Nat:=fun i=>if i=n then c else T i
theorem rF (T:Nat→Nat) (n c:Nat):tg T n c n=c:=by simp[tg]
theorem eQ {T:Nat→Nat} {n c i:Nat} (h:i≠n):tg T n c i=T i:=by simp[tg,h]
theorem jd.dK {tag sz:Nat} {v:AV} {els:List (List AV)} (h:jd σ T tag sz v els) {i:Nat} (hi:T i≠tag):(gone v σ).get i=σ.get i:=by
 rcases h with ⟨rfl,_⟩ | ⟨q,rest,rfl,_,h3⟩
 ·rfl
 ·show(σ.del q).get i=_
  rw[bD,if_neg (by rintro rfl;exact hi h3)]
theorem jd.append {tag sz by':Nat} {v:AV} {els:List (List AV)} (h:jd σ T tag sz v els) (y:List AV) (hb:(els.length+1) * by'≤140737488355328∧els.length+1≤140737488355328):
 aY sz by' v (.sl true sz [y]) σ=some (.own σ.next (els.length+1),(gone v σ).new (.cells sz (els++ [y]))):=by
 have:=bP (by':=by') h.rows (fun c=>by rcases h with ⟨rfl,_⟩ | ⟨q,rest,rfl,_⟩<;>simp) (y:=.sl true sz [y]) (ys:=[y]) (.inr (.inl ⟨true,rfl⟩)) (by simpa using hb)
 simpa using this
theorem jd.tag {tag tag' sz:Nat} {v:AV} {els:List (List AV)} (h:jd σ T tag sz v els) {T':Nat→Nat} (ht:∀q,T q=tag→T' q=tag'):jd σ T' tag' sz v els:=by
 rcases h with h | ⟨q,rest,h1,h2,h3⟩
 ·exact .inl h
 ·exact .inr ⟨q,rest,h1,h2,ht q h3⟩
theorem MX.re (h:MX σ mid sid cv fv vv T fuel s k) {υ:ah} {T':Nat→Nat} (hn:σ.next≤υ.next) (hT:∀i,T i≠0→T i≤2→T' i=T i) (hs:∀i,T i=1→υ.get i=σ.get i):
 T' mid=2∧In υ sid (avS s.store) (fun i=>T' i=1):=
 ⟨by rw[hT mid (by rw[h.tm];omega) (by rw[h.tm];omega),h.tm],In.sub (In.congr h.store hn fun i h1 _=>hs i h1) fun i hi=>by rw[hT i (by omega) (by omega)];exact hi⟩
theorem MX.qP (h:MX σ mid sid cv fv vv T fuel s k):T σ.next=0:=by
 by_cases e:T σ.next=0
 ·exact e
 ·exact absurd (h.lt _ e) (Nat.lt_irrefl _)
abbrev lB (sid fuel steps:Nat) (cv fv:AV):dm:=.cells 5 [[.ptr sid 0 0,int fuel,int steps,cv,fv]]
theorem MX.pushC (h:MX σ mid sid cv fv vv T fuel s k) (c:Co) {υ:ah} (hυ:υ=((gone cv σ).new (.cells 5 (s.aC.map Co.av++ [c.av]))).set mid (lB sid fuel s.steps (.own σ.next (s.aC.length+1)) fv)):
 MX υ mid sid (.own σ.next (s.aC.length+1)) fv vv (tg T σ.next 3) fuel {s with aC:=s.aC++ [c]} k∧ba T σ (tg T σ.next 3) υ:=by
 have h0:=h.qP
 have hm:mid<σ.next:=h.lt mid (by rw[h.tm];omega)
 have hne:∀i,T i≠0→i≠σ.next:=fun i hi e=>by rw[e]at hi;exact hi h0
 have hget:∀i,i≠σ.next→i≠mid→T i≠3→υ.get i=σ.get i:=fun i h1 h2 h3=>by
  rw[hυ,au,if_neg h2,an,bM,if_neg h1];exact h.aC.dK h3
 have hnx:υ.next=σ.next+1:=by rw[hυ];simp
 have htm:∀i,T i≠2→i≠mid:=fun i hi e=>by rw[e,h.tm]at hi;exact hi rfl
 obtain⟨r1,r2⟩:=h.re (T':=tg T σ.next 3) (υ:=υ) (by omega) (fun i h1 _=>eQ (hne i h1)) (fun i hi=>hget i (hne i (by omega)) (htm i (by omega)) (by omega))
 refine⟨{obj:=by rw[hυ];simp,tm:=r1,store:=r2,aC:= ?_,frames:= ?_,vals:= ?_,lt:= ?_},by omega,fun i hi h1=>⟨by rw[eQ (by omega)];exact h1,hget i (by omega) (htm i (by omega)) (by omega)⟩⟩
 ·exact .inr ⟨σ.next,[],by simp,by rw[hυ,au,if_neg (by omega),an,bM,if_pos rfl];simp,rF _ _ _⟩
 ·exact h.frames.mono fun q hq=>⟨by rw[eQ (hne q (by omega))];exact hq,hget q (hne q (by omega)) (htm q (by omega)) (by omega)⟩
 ·exact h.vals.mono fun q h1 _=>⟨eQ (hne q (by omega)),hget q (hne q (by omega)) (htm q (by omega)) (by omega)⟩
 ·intro i hi
  by_cases e:i=σ.next
  ·omega
  ·rw[eQ e]at hi;have:=h.lt i hi;omega
theorem MX.DN (h:MX σ mid sid cv fv vv T fuel s k) (f:Fr) (hf:f.vals= []) {υ:ah} (hυ:υ=((gone fv σ).new (.cells 4 (frs k vv++ [frC f bf]))).set mid (lB sid fuel s.steps cv (.own σ.next (k.length+1)))):
 MX υ mid sid cv (.own σ.next (k.length+1)) (bf::vv) (tg T σ.next 4) fuel s (f::k)∧ba T σ (tg T σ.next 4) υ:=by
 have h0:=h.qP
 have hm:mid<σ.next:=h.lt mid (by rw[h.tm];omega)
 have hne:∀i,T i≠0→i≠σ.next:=fun i hi e=>by rw[e]at hi;exact hi h0
 have hget:∀i,i≠σ.next→i≠mid→T i≠4→υ.get i=σ.get i:=fun i h1 h2 h3=>by
  rw[hυ,au,if_neg h2,an,bM,if_neg h1];exact h.frames.dK h3
 have hnx:υ.next=σ.next+1:=by rw[hυ];simp
 have htm:∀i,T i≠2→i≠mid:=fun i hi e=>by rw[e,h.tm]at hi;exact hi rfl
 obtain⟨r1,r2⟩:=h.re (T':=tg T σ.next 4) (υ:=υ) (by omega) (fun i h1 _=>eQ (hne i h1)) (fun i hi=>hget i (hne i (by omega)) (htm i (by omega)) (by omega))
 refine⟨{obj:=by rw[hυ];simp,tm:=r1,store:=r2,aC:= ?_,frames:= ?_,vals:= ?_,lt:= ?_},by omega,fun i hi h1=>⟨by rw[eQ (by omega)];exact h1,hget i (by omega) (htm i (by omega)) (by omega)⟩⟩
 ·exact h.aC.mono fun q hq=>⟨by rw[eQ (hne q (by omega))];exact hq,hget q (hne q (by omega)) (htm q (by omega)) (by omega)⟩
 ·exact .inr ⟨σ.next,[],by simp[fj h.vals],by rw[hυ,au,if_neg (by omega),an,bM,if_pos rfl];simp,rF _ _ _⟩
 ·refine⟨.inl ⟨rfl,by rw[hf];rfl⟩,h.vals.mono fun q h1 _=>⟨eQ (hne q (by omega)),hget q (hne q (by omega)) (htm q (by omega)) (by omega)⟩⟩
 ·intro i hi
  by_cases e:i=σ.next
  ·omega
  ·rw[eQ e]at hi;have:=h.lt i hi;omega
theorem MX.top {f:Fr} (h:MX σ mid sid cv fv vv T fuel s (f::k)):∃fid rest v vv',vv=v::vv'∧fv= .own fid (k.length+1)∧σ.get fid=some (.cells 4 (frs k vv'++frC f v::rest))∧T fid=4∧(frs k vv').length=k.length:=by
 have hv:=h.vals
 cases vv with
 | nil=>exact hv.elim
 | cons v vv'=>
  have hl:=fj hv.2
  rcases h.frames with ⟨_,h2⟩ | ⟨q,rest,h1,h2,h3⟩
  ·simp at h2
  ·exact⟨q,rest,v,vv',rfl,by rw[h1];simp[hl],by rw[h2];simp,h3,hl⟩
theorem MX.pushV {f:Fr} {v:AV} (h:MX σ mid sid cv fv (v::vv) T fuel s (f::k)) (w:V) {fid:Nat} {rest:List (List AV)} (hfv:fv= .own fid (k.length+1)) (hfg:σ.get fid=some (.cells 4 (frs k vv++frC f v::rest))) (hft:T fid=4)
 {υ:ah} (hυ:υ=((gone v σ).new (.cells 4 (f.vals.map V.av++ [w.av]))).set fid (.cells 4 (frs k vv++frC f (.own σ.next (f.vals.length+1))::rest))):
 MX υ mid sid cv fv (.own σ.next (f.vals.length+1)::vv) (tg T σ.next (5+k.length)) fuel s (⟨f.t,f.e,f.vals++ [w]⟩::k)∧ba T σ (tg T σ.next (5+k.length)) υ:=by
 have h0:=h.qP
 have hm:mid<σ.next:=h.lt mid (by rw[h.tm];omega)
 have hfl:fid<σ.next:=h.lt fid (by omega)
 have hne:∀i,T i≠0→i≠σ.next:=fun i hi e=>by rw[e]at hi;exact hi h0
 have hget:∀i,i≠σ.next→i≠fid→T i≠5+k.length→υ.get i=σ.get i:=fun i h1 h2 h3=>by
  rw[hυ,au,if_neg h2,an,bM,if_neg h1];exact h.vals.1.dK h3
 have hnx:υ.next=σ.next+1:=by rw[hυ];simp
 have htf:∀i,T i≠4→i≠fid:=fun i hi e=>by rw[e]at hi;exact hi hft
 have hl:=fj h.vals.2
 obtain⟨r1,r2⟩:=h.re (T':=tg T σ.next (5+k.length)) (υ:=υ) (by omega) (fun i h1 _=>eQ (hne i h1)) (fun i hi=>hget i (hne i (by omega)) (htf i (by omega)) (by omega))
 refine⟨{obj:=by rw[hget mid (by omega) (htf mid (by rw[h.tm];omega)) (by rw[h.tm];omega)];exact h.obj,tm:=r1,store:=r2,aC:= ?_,frames:= ?_,vals:= ?_,lt:= ?_},by omega,fun i hi h1=>⟨by rw[eQ (by omega)];exact h1,hget i (by omega) (htf i (by omega)) (by omega)⟩⟩
 ·exact h.aC.mono fun q hq=>⟨by rw[eQ (hne q (by omega))];exact hq,hget q (hne q (by omega)) (htf q (by omega)) (by omega)⟩
 ·exact .inr ⟨fid,rest,by rw[hfv];simp[hl],by rw[hυ];simp[frC],by rw[eQ (hne fid (by omega))];exact hft⟩
 ·refine⟨.inr ⟨σ.next,[],by simp,by rw[hυ,au,if_neg (by omega),an,bM,if_pos rfl];simp,rF _ _ _⟩,?_⟩
  exact h.vals.2.mono fun q h1 h2=>⟨eQ (hne q (by omega)),hget q (hne q (by omega)) (htf q (by omega)) (by omega)⟩
 ·intro i hi
  by_cases e:i=σ.next
  ·omega
  ·rw[eQ e]at hi;have:=h.lt i hi;omega
theorem MX.popF {f:Fr} {v:AV} (h:MX σ mid sid cv fv (v::vv) T fuel s (f::k)) {fid:Nat} {rest:List (List AV)} (hfv:fv= .own fid (k.length+1)) (hfg:σ.get fid=some (.cells 4 (frs k vv++frC f v::rest))) (hft:T fid=4)
 {υ:ah} (hυ:υ=σ.set mid (lB sid fuel s.steps cv (.own fid k.length))):
 MX υ mid sid cv (.own fid k.length) vv (fun i=>if T i=5+k.length then 0 else T i) fuel s k∧ba T σ (fun i=>if T i=5+k.length then 0 else T i) υ∧jd υ (fun i=>if T i=5+k.length then 0 else T i) 0 4 v (f.vals.map V.av)∧(∀q n,v= .own q n→q<υ.next):=by
 have hget:∀i,T i≠2→υ.get i=σ.get i:=fun i h2=>by
  rw[hυ,au,if_neg (by rintro rfl;exact h2 h.tm)]
 have hnx:υ.next=σ.next:=by rw[hυ];rfl
 have hT:∀i,T i≠5+k.length→(fun i=>if T i=5+k.length then 0 else T i) i=T i:=fun i hi=>if_neg hi
 have hl:=fj h.vals.2
 obtain⟨r1,r2⟩:=h.re (T':=fun i=>if T i=5+k.length then 0 else T i) (υ:=υ) (by omega) (fun i h1 h2=>hT i (by omega)) (fun i hi=>hget i (by omega))
 refine⟨{obj:=by rw[hυ];simp,tm:=r1,store:=r2,aC:= ?_,frames:= ?_,vals:= ?_,lt:= ?_},⟨by omega,fun i hi h1=>⟨by show(if T i=5+k.length then 0 else T i)=0;rw[if_neg (by omega)];exact h1,hget i (by omega)⟩⟩,?_⟩
 ·exact h.aC.mono fun q hq=>⟨(hT q (by omega)).trans hq,hget q (by omega)⟩
 ·refine .inr ⟨fid,frC f v::rest,by rw[hl],by rw[hget fid (by omega)];exact hfg,(hT fid (by omega)).trans hft⟩
 ·exact h.vals.2.mono fun q h1 h2=>⟨hT q (by omega),hget q (by omega)⟩
 ·intro i hi
  have:T i≠0:=by
   intro e
   have hi:(if T i=5+k.length then 0 else T i)≠0:=hi
   rw[if_neg (by omega)]at hi;exact hi e
  rw[hnx];exact h.lt i this
 ·have h1:=h.vals.1.tag (T':=fun i=>if T i=5+k.length then 0 else T i) (tag':=0) (fun q hq=>if_pos hq)
  rcases h.vals.1 with ⟨rfl,h2⟩ | ⟨q,r2,e1,e2,e3⟩
  ·exact⟨.inl ⟨rfl,h2⟩,by intro q n e;cases e⟩
  ·exact⟨.inr ⟨q,r2,e1,by rw[hget q (by omega)];exact e2,if_pos e3⟩,by intro q' n e;rw[e1]at e;cases e;rw[hnx];exact h.lt q (by omega)⟩
end Go.Abs.Mac
