import Derived.Test.YtjilebpcaemopaaGreatDoorMacV
import Derived.Test.YtjilebpcaemopaaGreatDoorMacM
set_option linter.unusedVariables false
set_option linter.unusedSimpArgs false
set_option linter.deprecated false
namespace Go.Abs.Mac
open Go Go.Abs Go.Abs.Stk Go.Abs.At Go.Proofs.MacD
def avS (s:SG Cl):S:=⟨s.R,s.C,s.L.map fun p=>(p.1,p.2.map Cl.av),s.most⟩
theorem idx_map (l:List (Bool × List Cl)):∀ i,idx (l.map fun p=>(p.1,p.2.map Cl.av)) i=idx l i:=by
  induction l with
  | nil=>intro i;rfl
  | cons p l ih=>intro i;obtain ⟨b,c⟩:=p;cases b <;> simp [idx,ih]
theorem tot_map (l:List (Bool × List Cl)):tot (l.map fun p=>(p.1,p.2.map Cl.av))=tot l:=by
  induction l with
  | nil=>rfl
  | cons p l ih=>obtain ⟨b,c⟩:=p;cases b <;> simp [tot,ih]
@[simp] theorem avS_R (s:SG Cl):(avS s).R=s.R:=rfl
@[simp] theorem avS_C (s:SG Cl):(avS s).C=s.C:=rfl
@[simp] theorem avS_most (s:SG Cl):(avS s).most=s.most:=rfl
@[simp] theorem avS_live (s:SG Cl):(avS s).live=s.live:=idx_map _ _
@[simp] theorem avS_cells (s:SG Cl):(avS s).cells=s.cells:=tot_map _
@[simp] theorem avS_len (s:SG Cl):(avS s).L.length=s.L.length:=by simp [avS]
theorem avS_row (s:SG Cl) (r:Int):(avS s).row r=(s.row r).map (List.map Cl.av):=by
  unfold SG.row at' Stk.rowAt
  by_cases h:0≤r
  · simp only [h,if_true,avS,List.getElem?_map]
    cases hr:s.L[r.toNat]? with
    | none=>rfl
    | some p=>obtain ⟨b,c⟩:=p;cases b <;> rfl
  · simp [h]
theorem avS_find (s:SG Cl) (kd n r a:Int):(avS s).find kd n r a=s.find kd n r a:=by
  unfold SG.find
  rw [avS_row]
  split
  · rfl
  · cases s.row r with
    | none=>rfl
    | some row=>simp
theorem avS_more (s:SG Cl):(avS s).more=avS s.more:=by simp [avS,SG.more]
theorem avS_less (s:SG Cl) (i:Nat):(avS s).less i=avS (s.less i):=by simp [avS,SG.less,List.map_set]
theorem avS_put (s:SG Cl) (i:Nat) (row:List Cl):(avS s).put i (row.map Cl.av)=avS (s.put i row):=by simp [avS,SG.put,List.map_set]
theorem avS_putC (s:SG Cl) (i:Nat) (row:List Cl) (c:Cl):(avS s).putC i (row.map Cl.av) c.av=avS (s.putC i row c):=by
  have h1:(avS s).cells=s.cells:=avS_cells s
  simp only [SG.putC,h1,avS_most]
  simp [avS,List.map_set]
theorem Cl.av_len (c:Cl):c.av.length=10:=rfl
structure Bnd (fuel:Nat) (s:Sa) (k:List Fr):Prop where
  ok:SOk s.store
  len:s.store.L.length≤1000000000000
  codes:s.codes.length≤1000000000000
  k:k.length≤1000000000000
  fuel:fuel≤1099511627776
theorem Bnd.Ok {fuel s k} (h:Bnd fuel s k):Stk.Ok (avS s.store) where
  R:=h.ok.R
  C:=h.ok.C
  live:=by rw [avS_live];exact h.ok.live
  cells:=by rw [avS_cells];exact h.ok.cells
  most:=by have:=h.ok.most;exact ⟨by show 0≤s.store.most;omega,this.2⟩
  len:=by rw [avS_len];have:=h.len;omega
def rsV:Option (List Int)→AV
  | none=>nilSl
  | some l=>rhosV l
def Co.av (c:Co):List AV:=[.ref c.body.av,str c.arg,namesV c.env.names,rhoV c.env.rhos,rsV c.rs]
def frC (f:Fr) (v:AV):List AV:=[.ref f.t.av,namesV f.e.names,rhoV f.e.rhos,v]
def RowA (σ:AHeap) (T:Nat→Nat) (tag sz:Nat) (v:AV) (els:List (List AV)):Prop :=
  (v=nilSl∧els=[])∨∃ q rest,v=.own q els.length∧σ.get q=some (.cells sz (els ++ rest))∧T q=tag
theorem RowA.rows {σ T tag sz v els} (h:RowA σ T tag sz v els):Rows σ sz v els:=by
  rcases h with h | ⟨q,rest,h1,h2,_⟩
  · exact .inl h
  · exact .inr (.inr ⟨q,rest,h1,h2⟩)
theorem RowA.mono {σ τ:AHeap} {T T':Nat→Nat} {tag sz v els} (h:RowA σ T tag sz v els) (hk:∀ q,T q=tag→T' q=tag∧τ.get q=σ.get q):RowA τ T' tag sz v els:=by
  rcases h with h | ⟨q,rest,h1,h2,h3⟩
  · exact .inl h
  · exact .inr ⟨q,rest,h1,by rw [(hk q h3).2];exact h2,(hk q h3).1⟩
def Vals (σ:AHeap) (T:Nat→Nat):List Fr→List AV→Prop
  | [],[]=>True
  | f :: k,v :: vv=>RowA σ T (5+k.length) 4 v (f.vals.map V.av)∧Vals σ T k vv
  | _,_=>False
theorem Vals.mono {σ τ:AHeap} {T T':Nat→Nat}:∀ {k:List Fr} {vv:List AV},Vals σ T k vv→(∀ q,5≤T q→T q < 5+k.length→T' q=T q∧τ.get q=σ.get q)→Vals τ T' k vv
  | [],[],_,_=>trivial
  | f :: k,v :: vv,h,hk=>⟨h.1.mono fun q hq=>by have:=hk q (by omega) (by simp;omega);rw [hq] at this;exact this,Vals.mono h.2 fun q h1 h2=>hk q h1 (by simp;omega)⟩
theorem Vals.len {σ:AHeap} {T:Nat→Nat}:∀ {k:List Fr} {vv:List AV},Vals σ T k vv→vv.length=k.length
  | [],[],_=>rfl
  | f :: k,v :: vv,h=>by simp [Vals.len h.2]
def frs (k:List Fr) (vv:List AV):List (List AV):=(List.zipWith frC k vv).reverse
theorem frs_len {σ T k vv} (h:Vals σ T k vv):(frs k vv).length=k.length:=by simp [frs,h.len]
@[simp] theorem frs_cons (f:Fr) (k:List Fr) (v:AV) (vv:List AV):frs (f :: k) (v :: vv)=frs k vv ++ [frC f v]:=by simp [frs]
structure MX (σ:AHeap) (mid sid:Nat) (cv fv:AV) (vv:List AV) (T:Nat→Nat) (fuel:Nat) (s:Sa) (k:List Fr):Prop where
  obj:σ.get mid=some (.cells 5 [[.ptr sid 0 0,int fuel,int s.steps,cv,fv]])
  tm:T mid=2
  store:In σ sid (avS s.store) (fun i=>T i=1)
  codes:RowA σ T 3 5 cv (s.codes.map Co.av)
  frames:RowA σ T 4 4 fv (frs k vv)
  vals:Vals σ T k vv
  lt:∀ i,T i ≠ 0→i < σ.next
def MA (σ:AHeap) (mid:Nat) (T:Nat→Nat) (fuel:Nat) (s:Sa) (k:List Fr):Prop:=∃ sid cv fv vv,MX σ mid sid cv fv vv T fuel s k
theorem In.congr {σ τ:AHeap} {id:Nat} {s:S} {F:Nat→Prop} (h:In σ id s F) (hn:σ.next≤τ.next) (hg:∀ i,F i→i < σ.next→τ.get i=σ.get i):In τ id s F:=by
  obtain ⟨mid,lid,es,h,hF⟩:=h
  have gid:=hg id (hF _ (.inl rfl)) h.lt.1
  have gmid:=hg mid (hF _ (.inr (.inl rfl))) h.lt.2.1
  have glid:=hg lid (hF _ (.inr (.inr (.inl rfl)))) h.lt.2.2
  refine ⟨mid,lid,es,{ obj:=?_,map:=?_,keys:=h.keys,uniq:=h.uniq,lv:=?_,none:=h.none,some:=?_,ids:=h.ids,lt:=?_,apart:=?_,inj:=h.inj },hF⟩
  · rw [gid];exact h.obj
  · rw [gmid];exact h.map
  · obtain ⟨rest,e⟩:=h.lv;exact ⟨rest,by rw [glid];exact e⟩
  · intro r c hr
    obtain ⟨v,h1,h2⟩:=h.some r c hr
    exact ⟨v,h1,h2.mono fun q n e=>hg q (hF _ (.inr (.inr (.inr ⟨r,n,by rw [h1,e]⟩)))) (h.apart r q n (by rw [h1,e])).2.2.2⟩
  · have:=h.lt;omega
  · intro r q n e;have:=h.apart r q n e;omega
theorem MX.same {σ τ:AHeap} {mid sid cv fv vv T fuel s k} (h:MX σ mid sid cv fv vv T fuel s k) (hn:σ.next≤τ.next) (hg:∀ i,T i ≠ 0→i < σ.next→τ.get i=σ.get i):MX τ mid sid cv fv vv T fuel s k where
  obj:=by rw [hg mid (by rw [h.tm];omega) (h.lt mid (by rw [h.tm];omega))];exact h.obj
  tm:=h.tm
  store:=In.congr h.store hn fun i h1 h2=>hg i (by omega) h2
  codes:=h.codes.mono fun q hq=>⟨hq,hg q (by omega) (h.lt q (by omega))⟩
  frames:=h.frames.mono fun q hq=>⟨hq,hg q (by omega) (h.lt q (by omega))⟩
  vals:=h.vals.mono fun q h1 h2=>⟨rfl,hg q (by omega) (h.lt q (by omega))⟩
  lt:=fun i hi=>Nat.lt_of_lt_of_le (h.lt i hi) hn
theorem MA.same {σ τ:AHeap} {mid T fuel s k} (h:MA σ mid T fuel s k) (hn:σ.next≤τ.next) (hg:∀ i,T i ≠ 0→i < σ.next→τ.get i=σ.get i):MA τ mid T fuel s k :=
  let ⟨sid,cv,fv,vv,h⟩:=h;⟨sid,cv,fv,vv,h.same hn hg⟩
theorem MA.grows {σ τ:AHeap} {mid T fuel s k} (h:MA σ mid T fuel s k) (g:Grows σ τ):MA τ mid T fuel s k:=h.same g.next fun i _ hi=>g.get i hi
theorem MA.lt {σ:AHeap} {mid T fuel s k} (h:MA σ mid T fuel s k):∀ i,T i ≠ 0→i < σ.next:=let ⟨_,_,_,_,h⟩:=h;h.lt
theorem MA.zero {σ:AHeap} {mid T fuel s k} (h:MA σ mid T fuel s k) {i:Nat} (hi:σ.next≤i):T i=0:=by
  by_cases e:T i=0
  · exact e
  · have:=h.lt i e;omega
structure Keep (T:Nat→Nat) (σ:AHeap) (T':Nat→Nat) (τ:AHeap):Prop where
  next:σ.next≤τ.next
  get:∀ i,i < σ.next→T i=0→T' i=0∧τ.get i=σ.get i
theorem Keep.refl (T σ):Keep T σ T σ:=⟨Nat.le_refl _,fun _ _ h=>⟨h,rfl⟩⟩
theorem Keep.trans {T σ T' τ T'' υ} (h:Keep T σ T' τ) (k:Keep T' τ T'' υ):Keep T σ T'' υ :=
  ⟨Nat.le_trans h.next k.next,fun i hi h0=>by
    obtain ⟨a,b⟩:=h.get i hi h0
    obtain ⟨c,d⟩:=k.get i (Nat.lt_of_lt_of_le hi h.next) a
    exact ⟨c,d.trans b⟩⟩
theorem Keep.grows {T σ τ} (g:Grows σ τ):Keep T σ T τ:=⟨g.next,fun i hi h0=>⟨h0,g.get i hi⟩⟩
theorem Keep.set {T σ τ i o} (h:Keep T σ T τ) (hi:σ.next≤i):Keep T σ T (τ.set i o):=⟨h.next,fun j hj h0=>⟨h0,by rw [get_set,if_neg (by omega)];exact (h.get j hj h0).2⟩⟩
theorem Keep.of {T σ τ} {T':Nat→Nat} {υ:AHeap} (g:Grows σ τ) (h:Keep T τ T' υ):Keep T σ T' υ:=(Keep.grows g).trans h
structure Loc (n:Nat) (T:Nat→Nat) (τ υ:AHeap):Prop where
  next:τ.next≤υ.next
  get:∀ i,i < τ.next→(i < n∨T i ≠ 0)→υ.get i=τ.get i
theorem Loc.refl (n T τ):Loc n T τ τ:=⟨Nat.le_refl _,fun _ _ _=>rfl⟩
theorem Loc.new {n T τ υ} (h:Loc n T τ υ) (o:AObj):Loc n T τ (υ.new o):=⟨Nat.le_succ_of_le h.next,fun i hi h0=>by rw [get_new,if_neg (by have:=h.next;omega)];exact h.get i hi h0⟩
theorem Loc.set {n T τ υ} (h:Loc n T τ υ) {i:Nat} {o:AObj} (hi:τ.next≤i∨(n≤i∧T i=0)):Loc n T τ (υ.set i o):=⟨h.next,fun j hj h0=>by rw [get_set,if_neg (by rintro rfl;omega)];exact h.get j hj h0⟩
theorem Loc.grows {n T τ υ} (h:Grows τ υ):Loc n T τ υ:=⟨h.next,fun i hi _=>h.get i hi⟩
theorem Loc.trans {n T τ υ ω} (h:Loc n T τ υ) (k:Loc n T υ ω):Loc n T τ ω:=⟨Nat.le_trans h.next k.next,fun i hi h0=>(k.get i (Nat.lt_of_lt_of_le hi h.next) h0).trans (h.get i hi h0)⟩
theorem MA.loc {n:Nat} {τ υ:AHeap} {mid T fuel s k} (h:MA τ mid T fuel s k) (l:Loc n T τ υ):MA υ mid T fuel s k:=h.same l.next fun i h1 h2=>l.get i h2 (.inr h1)
theorem MX.loc {n:Nat} {τ υ:AHeap} {mid sid cv fv vv T fuel s k} (h:MX τ mid sid cv fv vv T fuel s k) (l:Loc n T τ υ):MX υ mid sid cv fv vv T fuel s k:=h.same l.next fun i h1 h2=>l.get i h2 (.inr h1)
theorem Keep.loc {T σ T' τ υ} (h:Keep T σ T' τ) (l:Loc σ.next T' τ υ):Keep T σ T' υ:=⟨Nat.le_trans h.next l.next,fun i hi h0=>⟨(h.get i hi h0).1,by rw [l.get i (Nat.lt_of_lt_of_le hi h.next) (.inl hi)];exact (h.get i hi h0).2⟩⟩
def After {α:Type} (mid fuel:Nat) (T:Nat→Nat) (σ:AHeap) (k:List Fr) (f:α→AV) (K kp:AV→AHeap→Prop):Re α→Prop
  | .ok x s=>∀ τ T',MA τ mid T' fuel s k→Keep T σ T' τ→K (f x) τ
  | .over s kd=>∀ τ T' k',MA τ mid T' fuel s k'→Keep T σ T' τ→kp (.iface 102 (.agg [u8 kd])) τ
end Go.Abs.Mac
namespace Go.Abs.Mac
open Go Go.Abs Go.Abs.Stk Go.Abs.At Go.Proofs.MacD
variable {σ:AHeap} {mid sid fuel:Nat} {cv fv:AV} {vv:List AV} {T:Nat→Nat} {s:Sa} {k:List Fr} {K kp:AV→AHeap→Prop}
theorem MX.change (h:MX σ mid sid cv fv vv T fuel s k) {τ:AHeap} {st:SG Cl} (hin:In τ sid (avS st) (Wide (fun i=>T i=1) σ.next)) (off:Off (fun i=>T i=1) σ τ) :
    ∃ T',MX τ mid sid cv fv vv T' fuel { s with store:=st } k∧Keep T σ T' τ:=by
  have hne:∀ i,σ.next≤i→T i=0:=fun i hi=>by
    by_cases e:T i=0
    · exact e
    · have:=h.lt i e;omega
  refine ⟨fun i=>if σ.next≤i∧i < τ.next then 1 else T i,?_,off.next,fun i hi h0=>⟨by show (if σ.next≤i∧i < τ.next then 1 else T i)=0;rw [if_neg (by omega)];exact h0,off.get i (by omega) hi⟩⟩
  have hT:∀ i,2≤T i→(if σ.next≤i∧i < τ.next then 1 else T i)=T i∧τ.get i=σ.get i:=fun i hi=>by
    have:=h.lt i (by omega)
    exact ⟨if_neg (by omega),off.get i (by omega) this⟩
  refine { obj:=?_,tm:=?_,store:=?_,codes:=?_,frames:=?_,vals:=?_,lt:=?_ }
  · rw [(hT mid (by rw [h.tm];omega)).2];exact h.obj
  · rw [(hT mid (by rw [h.tm];omega)).1];exact h.tm
  · refine In.sub (In.cut hin) fun i hi=>?_
    show (if σ.next≤i∧i < τ.next then 1 else T i)=1
    rcases hi with ⟨hi | hi,hl⟩
    · have:=h.lt i (by omega);rw [if_neg (by omega)];exact hi
    · rw [if_pos ⟨hi,hl⟩]
  · exact h.codes.mono fun q hq=>⟨(hT q (by omega)).1.trans hq,(hT q (by omega)).2⟩
  · exact h.frames.mono fun q hq=>⟨(hT q (by omega)).1.trans hq,(hT q (by omega)).2⟩
  · exact h.vals.mono fun q h1 _=>hT q (by omega)
  · intro i hi
    by_cases e:σ.next≤i∧i < τ.next
    · exact e.2
    · have hi:(if σ.next≤i∧i < τ.next then 1 else T i) ≠ 0:=hi
      rw [if_neg e] at hi
      have:=h.lt i hi;have:=off.next;omega
theorem push_m (h:MX σ mid sid cv fv vv T fuel s k) (b:Stk.Ok (avS s.store))
    (hk:match pushS s.store with
      | some (r,st)=>∀ τ T',MX τ mid sid cv fv vv T' fuel { s with store:=st } k→Keep T σ T' τ→K (.tup [int r,bool true]) τ
      | none=>K (.tup [int 0,bool false]) σ):Ev PR 78 [.ptr sid 0 0] σ K kp:=by
  refine push_ev h.store b ?_
  unfold pushS at hk
  rw [avS_live,avS_R,avS_len]
  by_cases hl:(s.store.live.length:Int) < s.store.R
  · rw [if_pos hl] at hk ⊢
    intro τ hin off
    rw [avS_more] at hin
    obtain ⟨T',h1,h2⟩:=h.change hin off
    exact hk τ T' h1 h2
  · rw [if_neg hl] at hk ⊢
    exact hk
theorem pop_m (h:MX σ mid sid cv fv vv T fuel s k) (b:Stk.Ok (avS s.store))
    (hk:∀ x τ T',MX τ mid sid cv fv vv T' fuel { s with store:=popS s.store } k→Keep T σ T' τ→K x τ):Ev PR 91 [.ptr sid 0 0] σ K kp:=by
  refine pop_ev h.store b ?_
  unfold popS at hk
  rw [avS_live]
  by_cases hl:s.store.live.length < 2
  · rw [if_pos hl] at hk ⊢
    exact hk _ σ T h (Keep.refl _ _)
  · rw [if_neg hl] at hk ⊢
    intro i hi τ hin off
    rw [hi] at hk
    rw [avS_less] at hin
    obtain ⟨T',h1,h2⟩:=h.change hin off
    exact hk _ τ T' h1 h2
theorem live_m (h:MX σ mid sid cv fv vv T fuel s k) {x:AV} {r:Int} (hr:Rows σ 1 x [[int r]]) (hk:K (bool (liveS s.store r)) σ):Ev PR 125 [.ptr sid 0 0,x] σ K kp:=by
  refine live_ev (l:=[r]) h.store hr (by simp) ?_
  simp [avS_row]
  simpa [liveS] using hk
theorem put_m (h:MX σ mid sid cv fv vv T fuel s k) (b:Stk.Ok (avS s.store)) {r:Int} {c:Cl} (hl:liveS s.store r=true)
    (hk:match putS s.store r c with
      | some (v,st)=>∀ τ T',MX τ mid sid cv fv vv T' fuel { s with store:=st } k→Keep T σ T' τ→K (.tup [vV v,int 0]) τ
      | none=>∀ τ,Grows σ τ→K (.tup [vV V.zero,int 3]) τ):Ev PR 126 [.ptr sid 0 0,int r,.agg c.av] σ K kp:=by
  refine put_ev h.store b c.av_len ?_
  unfold liveS at hl
  unfold putS at hk
  cases hr:s.store.row r with
  | none=>rw [hr] at hl;simp at hl
  | some row =>
    rw [hr] at hk
    rw [avS_row,hr]
    simp only [Option.map_some,avS_C,avS_cells] at hk ⊢
    by_cases hc:s.store.C≤s.store.cells
    · rw [if_pos hc] at hk ⊢
      exact hk
    · rw [if_neg hc] at hk ⊢
      intro i hi hL τ hin off
      subst hi
      rw [avS_putC] at hin
      obtain ⟨T',h1,h2⟩:=h.change hin off
      have:=hk τ T' h1 h2
      rw [List.length_map]
      exact this
theorem get_m (h:MX σ mid sid cv fv vv T fuel s k) {v:V}
    (hk:match (if s.store.find v.kind v.n v.r v.a=0 then cellAt s.store v else none) with
      | some c=>∀ τ,Grows σ τ→K (.tup [.agg c.av,int 0]) τ
      | none=>s.store.find v.kind v.n v.r v.a ≠ 0→∀ τ,Grows σ τ→K (.tup [.agg zeroC,int (s.store.find v.kind v.n v.r v.a)]) τ):Ev PR 171 [.ptr sid 0 0,vV v] σ K kp:=by
  refine get_ev (kd:=v.kind) (n:=v.n) (r:=v.r) (a:=v.a) h.store ?_ ?_
  · rw [avS_find]
    intro hf
    rw [if_neg hf] at hk
    exact hk hf
  · rw [avS_find]
    intro hf τ hg row i c hrow hi hc
    rw [if_pos hf] at hk
    rw [avS_row] at hrow
    obtain ⟨row',hrow',rfl⟩:=Option.map_eq_some_iff.1 hrow
    rw [List.getElem?_map] at hc
    obtain ⟨c',hc',rfl⟩:=Option.map_eq_some_iff.1 hc
    have:cellAt s.store v=some c':=by unfold cellAt;rw [hrow'];simp [hi,hc']
    rw [this] at hk
    exact hk τ hg
theorem set_m (h:MX σ mid sid cv fv vv T fuel s k) {v:V} {c:Cl} (hf:s.store.find v.kind v.n v.r v.a=0)
    (hk:∀ x τ T',MX τ mid sid cv fv vv T' fuel { s with store:=setS s.store v c } k→Keep T σ T' τ→K x τ):Ev PR 127 [.ptr sid 0 0,vV v,.agg c.av] σ K kp:=by
  refine set_ev (kd:=v.kind) (n:=v.n) (r:=v.r) (a:=v.a) h.store c.av_len ?_ ?_
  · rw [avS_find];intro h0;exact absurd hf h0
  · rw [avS_find]
    intro _ row ri i hr hL ha hi τ hin off
    have hrow:(avS s.store).row v.r=some row:=by rw [hr];exact at_of hL
    rw [avS_row] at hrow
    obtain ⟨row',hrow',rfl⟩:=Option.map_eq_some_iff.1 hrow
    have e:setS s.store v c=s.store.put ri (row'.set i c):=by
      unfold setS
      rw [hrow'];simp [hr,ha]
    have e2:(List.map Cl.av row').set i c.av=(row'.set i c).map Cl.av:=by rw [List.map_set]
    rw [e2,avS_put,← e] at hin
    obtain ⟨T',h1,h2⟩:=h.change hin off
    exact hk _ τ T' h1 h2
end Go.Abs.Mac
namespace Go.Abs.Mac
open Go Go.Abs Go.Abs.Stk Go.Abs.At Go.Proofs.MacD
variable {σ:AHeap} {mid sid fuel:Nat} {cv fv:AV} {vv:List AV} {T:Nat→Nat} {s:Sa} {k:List Fr} {K kp:AV→AHeap→Prop}
@[simp] theorem Cl.av_len' (c:Cl):c.av.length=10:=rfl
@[simp] theorem V.av_len (v:V):v.av.length=4:=rfl
@[simp] theorem envC_len (e:En):(envC e).length=2:=rfl
@[simp] theorem take_all {α:Type} (l:List α) {n:Nat} (h:l.length≤n):l.take n=l:=List.take_of_length_le h
theorem MX.grows {σ τ:AHeap} (h:MX σ mid sid cv fv vv T fuel s k) (g:Grows σ τ):MX τ mid sid cv fv vv T fuel s k:=h.same g.next fun i _ hi=>g.get i hi
theorem make_ev (h:MA σ mid T fuel s k) (b:Stk.Ok (avS s.store)) {e:En} {rho:Int} {c:Cl} (hr:After mid fuel T σ k vV K kp (make s e rho c)):Ev PR 86 [.ptr mid 0 0,envV e,int rho,.agg c.av] σ K kp:=by
  apply F86_ev;unfold F86
  simp [get_new,Nat.add_assoc]
  generalize hτ:((σ.new (.cells 2 [envC e])).new (.cells 10 [c.av])).new (.cells 4 [[.val (.int .u8 0),.val (.int .i64 0),.val (.int .i64 0),.val (.int .i64 0)]])=τ
  have hg:Grows σ τ:=by rw [← hτ];exact ((Grows.new _ _).trans (Grows.new _ _)).trans (Grows.new _ _)
  have hn:τ.next=σ.next+3:=by rw [← hτ];rfl
  have g0:τ.get σ.next=some (.cells 2 [envC e]):=by rw [← hτ];simp [get_new];omega
  have g1:τ.get (σ.next+1)=some (.cells 10 [c.av]):=by rw [← hτ];simp [get_new]
  have g2:τ.get (σ.next+2)=some (.cells 4 [[.val (.int .u8 0),.val (.int .i64 0),.val (.int .i64 0),.val (.int .i64 0)]]):=by rw [← hτ];simp [get_new]
  obtain ⟨sid,cv,fv,vv,hx⟩:=h.grows hg
  refine region_ev ?_
  unfold Mac.make at hr
  simp
  by_cases h1:(e.region rho).2=true
  · simp [h1,hx.obj,Nat.add_assoc]
    have hx1:=hx.grows (Grows.new τ (.cells 1 [[.val (.int .i64 (e.region rho).1)]]))
    refine live_m hx1 (r:=(e.region rho).1) (.inr (.inr ⟨τ.next,[],rfl,by simp [get_new]⟩)) ?_
    generalize hτ2:τ.new (.cells 1 [[.val (.int .i64 (e.region rho).1)]])=τ2 at hx1
    have hg2:Grows σ τ2:=by rw [← hτ2];exact hg.trans (Grows.new _ _)
    have hn2:τ2.next=σ.next+4:=by rw [← hτ2];show τ.next+1=_;omega
    have g0:τ2.get σ.next=some (.cells 2 [envC e]):=by rw [← hτ2];simp [get_new,hn,g0]
    have g1:τ2.get (σ.next+1)=some (.cells 10 [c.av]):=by rw [← hτ2];simp [get_new,hn,g1]
    have g2:τ2.get (σ.next+2)=some (.cells 4 [[.val (.int .u8 0),.val (.int .i64 0),.val (.int .i64 0),.val (.int .i64 0)]]):=by rw [← hτ2];simp [get_new,hn,g2]
    refine must_ev (fun h2=>?_) (fun h2=>?_)
    · rw [if_pos ⟨h1,h2⟩] at hr
      obtain ⟨J,hJ⟩:∃ J:AFrame→AHeap→Prop,∀ fr υ,J fr υ↔∃ (id:Nat) (v:V) (er:Int) (x:List AV),fr=[(8,.ptr (σ.next+2) 0 0),(11,.ptr id 0 0),(12,int er)]∧υ.get id=some (.cells 4 [v.av])∧υ.get (σ.next+2)=some (.cells 4 [x])∧x.length=4 ∧
        (er=0→∀ y,K (vV v) (υ.set (σ.next+2) y))∧(er ≠ 0→kp (.iface 102 (.agg [u8 4])) υ):=⟨_,fun _ _=>Iff.rfl⟩
      refine seqW_by J ?_ ?_
      · simp only [hx1.obj]
        simp [hx1.obj,g1,List.take_of_length_le (Nat.le_of_eq c.av_len)]
        refine ⟨?_,?_⟩
        · refine put_m hx1 b h2 ?_
          cases hp:putS s.store (e.region rho).1 c with
          | some p =>
            obtain ⟨v,st⟩:=p
            rw [hp] at hr
            intro τ3 T' hx3 hk3
            have hn3:=hk3.next
            have z0:=(hk3.get (σ.next+1) (by omega) (h.zero (by omega)))
            have z1:=(hk3.get (σ.next+2) (by omega) (h.zero (by omega)))
            have hm:mid < τ3.next:=hx3.lt mid (by rw [hx3.tm];omega)
            simp [hx3.obj,z0.2,z1.2,g1,g2,Nat.ne_of_lt hm,get_new,get_set,show σ.next+1 ≠ τ3.next by omega,show σ.next+2 ≠ τ3.next by omega,List.take_of_length_le (Nat.le_of_eq c.av_len)]
            refine (hJ _ _).2 ⟨τ3.next,v,0,_,rfl,by simp [get_set],by simp [get_set,get_new,show σ.next+2 ≠ τ3.next by omega,z1.2,g2];rfl,rfl,fun _ y=>?_,fun h=>(h rfl).elim⟩
            have l:Loc σ.next T' τ3 (((τ3.new (.cells 4 [[.val (.int .u8 0),.val (.int .i64 0),.val (.int .i64 0),.val (.int .i64 0)]])).set τ3.next (.cells 4 [v.av])).set (σ.next+2) y):=((Loc.new (.refl _ _ _) _).set (.inl (Nat.le_refl _))).set (.inr ⟨by omega,z1.1⟩)
            exact hr _ T' ⟨_,_,_,_,hx3.loc l⟩ ((Keep.of hg2 hk3).loc l)
          | none =>
            rw [hp] at hr
            intro τ3 hg3
            have hn3:=hg3.next
            have hx3:=hx1.grows hg3
            have hm:mid < τ3.next:=hx3.lt mid (by rw [hx3.tm];omega)
            simp [hx3.obj,hg3.get (σ.next+1) (by omega),hg3.get (σ.next+2) (by omega),g1,g2,Nat.ne_of_lt hm,get_new,get_set,show σ.next+1 ≠ τ3.next by omega,show σ.next+2 ≠ τ3.next by omega,List.take_of_length_le (Nat.le_of_eq c.av_len)]
            refine (hJ _ _).2 ⟨τ3.next,V.zero,3,_,rfl,by simp [get_set],by simp [get_set,get_new,show σ.next+2 ≠ τ3.next by omega,hg3.get (σ.next+2) (by omega),g2];rfl,rfl,fun h=>by simp at h,fun _=>?_⟩
            have l:Loc σ.next T τ3 ((τ3.new (.cells 4 [[.val (.int .u8 0),.val (.int .i64 0),.val (.int .i64 0),.val (.int .i64 0)]])).set τ3.next (.cells 4 [V.zero.av])):=(Loc.new (.refl _ _ _) _).set (.inl (Nat.le_refl _))
            exact hr _ T _ ⟨_,_,_,_,hx3.loc l⟩ ((Keep.grows (hg2.trans hg3)).loc l)
        · have hm2:mid < τ2.next:=hx1.lt mid (by rw [hx1.tm];omega)
          simp [hx1.obj,g1,g2,Nat.ne_of_lt hm2,get_new,get_set,show σ.next+1 ≠ τ2.next by omega,List.take_of_length_le (Nat.le_of_eq c.av_len)]
          have hx2:=hx1.grows (Grows.new τ2 (.cells 4 [[.val (.int .u8 0),.val (.int .i64 0),.val (.int .i64 0),.val (.int .i64 0)]]))
          have hg3:=hg2.trans (Grows.new τ2 (.cells 4 [[.val (.int .u8 0),.val (.int .i64 0),.val (.int .i64 0),.val (.int .i64 0)]]))
          refine put_m hx2 b h2 ?_
          cases hp:putS s.store (e.region rho).1 c with
          | some p =>
            obtain ⟨v,st⟩:=p
            rw [hp] at hr
            intro τ3 T' hx3 hk3
            have hn3:τ2.next+1≤τ3.next:=hk3.next
            have z1:=(hk3.get (σ.next+2) (by show _ < τ2.next+1;omega) (h.zero (by omega)))
            have z2:=(hk3.get τ2.next (by show _ < τ2.next+1;omega) (h.zero (by omega)))
            rw [get_new,if_neg (by omega)] at z1
            rw [get_new,if_pos rfl] at z2
            simp [z2.2]
            refine (hJ _ _).2 ⟨τ2.next,v,0,_,rfl,by simp [get_set],by simp [get_set,show σ.next+2 ≠ τ2.next by omega,z1.2,g2];rfl,rfl,fun _ y=>?_,fun h=>(h rfl).elim⟩
            have l:Loc σ.next T' τ3 ((τ3.set τ2.next (.cells 4 [v.av])).set (σ.next+2) y):=(Loc.set (.refl _ _ _) (.inr ⟨by omega,z2.1⟩)).set (.inr ⟨by omega,z1.1⟩)
            exact hr _ T' ⟨_,_,_,_,hx3.loc l⟩ ((Keep.of hg3 hk3).loc l)
          | none =>
            rw [hp] at hr
            intro τ3 hg4
            have hn3:τ2.next+1≤τ3.next:=hg4.next
            have hx3:=hx2.grows hg4
            have z1:=hg4.get (σ.next+2) (by show _ < τ2.next+1;omega)
            have z2:=hg4.get τ2.next (by show _ < τ2.next+1;omega)
            rw [get_new,if_neg (by omega)] at z1
            rw [get_new,if_pos rfl] at z2
            simp [z2]
            refine (hJ _ _).2 ⟨τ2.next,V.zero,3,_,rfl,by simp [get_set],by simp [get_set,show σ.next+2 ≠ τ2.next by omega,z1,g2];rfl,rfl,fun h=>by simp at h,fun _=>?_⟩
            have l:Loc σ.next T τ3 (τ3.set τ2.next (.cells 4 [V.zero.av])):=Loc.set (.refl _ _ _) (.inr ⟨by omega,h.zero (by omega)⟩)
            exact hr _ T _ ⟨_,_,_,_,hx3.loc l⟩ ((Keep.grows (hg3.trans hg4)).loc l)
      · intro fr υ hj
        obtain ⟨id,v,er,x,rfl,q1,q2,q3,q4,q5⟩:=(hJ fr υ).1 hj
        simp
        refine must_ev (fun h3=>?_) (fun h3=>q5 (by simpa using h3))
        simp [q1,q2,q3,List.drop_of_length_le (Nat.le_of_eq q3),List.take_of_length_le (Nat.le_of_eq v.av_len)]
        exact q4 (by simpa using h3) _
    · rw [if_neg (by simp [h2])] at hr
      exact hr _ T k ⟨_,_,_,_,hx1⟩ (Keep.grows hg2)
  · rw [if_neg (by simp [h1])] at hr
    simp [h1]
    refine must_ev (fun h2=>by simp at h2) (fun _=>hr _ T k ⟨_,_,_,_,hx⟩ (Keep.grows hg))
end Go.Abs.Mac
namespace Go.Abs.Mac
open Go Go.Abs Go.Abs.Stk Go.Abs.At Go.Proofs.MacD
variable {σ:AHeap} {mid sid fuel:Nat} {cv fv:AV} {vv:List AV} {T:Nat→Nat} {s:Sa} {k:List Fr} {K kp:AV→AHeap→Prop}
abbrev zC:List AV:=[.val (.int .u8 0),.val (.int .u8 0),.val (.int .i64 0),.val (.int .i64 0),.val (.int .i64 0),.val (.int .u8 0),.val (.int .i64 0),.val (.int .i64 0),.val (.int .i64 0),.val (.int .i64 0)]
theorem take_ev (h:MA σ mid T fuel s k) {v:V} {kd:Int}
    (hr:match take s v kd with
      | .ok c _=>∀ τ,Grows σ τ→K (.agg c.av) τ
      | .over _ o=>∀ τ,Grows σ τ→kp (.iface 102 (.agg [u8 o])) τ):Ev PR 123 [.ptr mid 0 0,vV v,u8 kd] σ K kp:=by
  apply F123_ev;unfold F123
  simp [get_new,Nat.add_assoc]
  generalize hτ:(σ.new (.cells 4 [v.av])).new (.cells 10 [zC])=τ
  have hg:Grows σ τ:=by rw [← hτ];exact (Grows.new _ _).trans (Grows.new _ _)
  have hn:τ.next=σ.next+2:=by rw [← hτ];rfl
  have g0:τ.get σ.next=some (.cells 4 [v.av]):=by rw [← hτ];simp [get_new]
  have g1:τ.get (σ.next+1)=some (.cells 10 [zC]):=by rw [← hτ];simp [get_new]
  obtain ⟨sid,cv,fv,vv,hx⟩:=h.grows hg
  have hm:mid < τ.next:=hx.lt mid (by rw [hx.tm];omega)
  have hvh:v.av.head?=some (u8 v.kind):=rfl
  simp [hvh]
  unfold Mac.take at hr
  refine must_ev (fun h1=>?_) (fun h1=>?_)
  · simp at h1
    rw [if_pos h1] at hr
    obtain ⟨J,hJ⟩:∃ J:AFrame→AHeap→Prop,∀ fr υ,J fr υ↔∃ (id:Nat) (c:Cl) (er:Int),fr=[(2,u8 kd),(6,.ptr (σ.next+1) 0 0),(7,.ptr id 0 0),(8,int er)]∧Grows σ υ∧υ.get id=some (.cells 10 [c.av])∧υ.get (σ.next+1)=some (.cells 10 [zC])∧s.store.find v.kind v.n v.r v.a=er∧(er=0→cellAt s.store v=some c):=⟨_,fun _ _=>Iff.rfl⟩
    refine seqW_by J ?_ ?_
    · simp [hx.obj,g0,List.take_of_length_le (Nat.le_of_eq v.av_len)]
      refine ⟨?_,?_⟩
      · have go:∀ (c:Cl) (er:Int),s.store.find v.kind v.n v.r v.a=er→(er=0→cellAt s.store v=some c)→∀ τ1,Grows τ τ1→J [(2,u8 kd),(6,.ptr (σ.next+1) 0 0),(7,.ptr τ1.next 0 0),(8,int er)] ((τ1.new (.cells 10 [zC])).set τ1.next (.cells 10 [c.av])):=by
          intro c er h2 h3 τ1 h4
          have:=h4.next
          exact (hJ _ _).2 ⟨τ1.next,c,er,rfl,((hg.trans h4).trans (Grows.new _ _)).set (by have:=hg.next;omega) _,by simp [get_set],by simp [get_set,get_new,show σ.next+1 ≠ τ1.next by omega,h4.get (σ.next+1) (by omega),g1],h2,h3⟩
        refine get_m hx ?_
        split
        · rename_i c hc
          intro τ1 h4
          have hx1:=hx.grows h4
          have hm1:=h4.next
          by_cases hf:s.store.find v.kind v.n v.r v.a=0
          · rw [if_pos hf] at hc
            simp [hx1.obj,get_new,get_set,show mid ≠ τ1.next by omega,show σ.next ≠ τ1.next by omega,h4.get σ.next (by omega),g0,List.take_of_length_le (Nat.le_of_eq v.av_len)]
            exact go c 0 hf (fun _=>hc) τ1 h4
          · rw [if_neg hf] at hc;cases hc
        · intro hf τ1 h4
          have hx1:=hx.grows h4
          have hm1:=h4.next
          simp [hx1.obj,get_new,get_set,show mid ≠ τ1.next by omega,show σ.next ≠ τ1.next by omega,h4.get σ.next (by omega),g0,List.take_of_length_le (Nat.le_of_eq v.av_len)]
          exact go ⟨0,V.zero,V.zero,0⟩ _ rfl (fun e=>absurd e hf) τ1 h4
      · simp [get_new,Nat.ne_of_lt hm,hx.obj,show σ.next ≠ τ.next by omega,g0,List.take_of_length_le (Nat.le_of_eq v.av_len)]
        have hgn:Grows τ (τ.new (.cells 10 [zC])):=Grows.new _ _
        have go:∀ (c:Cl) (er:Int),s.store.find v.kind v.n v.r v.a=er→(er=0→cellAt s.store v=some c)→∀ τ1,Grows (τ.new (.cells 10 [zC])) τ1→J [(2,u8 kd),(6,.ptr (σ.next+1) 0 0),(7,.ptr τ.next 0 0),(8,int er)] (τ1.set τ.next (.cells 10 [c.av])):=by
          intro c er h2 h3 τ1 h4
          have h5:=hgn.trans h4
          exact (hJ _ _).2 ⟨τ.next,c,er,rfl,(hg.trans h5).set (by omega) _,by simp [get_set],by simp [get_set,show σ.next+1 ≠ τ.next by omega,h5.get (σ.next+1) (by omega),g1],h2,h3⟩
        have gn:∀ τ1,Grows (τ.new (.cells 10 [zC])) τ1→τ1.get τ.next=some (.cells 10 [zC]):=fun τ1 h4=>by rw [h4.get τ.next (Nat.lt_succ_self _)];simp
        refine get_m (hx.grows hgn) ?_
        split
        · rename_i c hc
          intro τ1 h4
          have hx1:=(hx.grows hgn).grows h4
          by_cases hf:s.store.find v.kind v.n v.r v.a=0
          · rw [if_pos hf] at hc
            simp [hx1.obj,gn τ1 h4]
            exact go c 0 hf (fun _=>hc) τ1 h4
          · rw [if_neg hf] at hc;cases hc
        · intro hf τ1 h4
          have hx1:=(hx.grows hgn).grows h4
          simp [hx1.obj,gn τ1 h4]
          exact go ⟨0,V.zero,V.zero,0⟩ _ rfl (fun e=>absurd e hf) τ1 h4
    · intro fr υ hj
      obtain ⟨id,c,er,rfl,q1,q2,q3,q4,q5⟩:=(hJ fr υ).1 hj
      rw [q4] at hr
      simp
      refine must_ev (fun h2=>?_) (fun h2=>?_)
      · simp at h2
        rw [if_neg h2] at hr
        by_cases h0:er=0
        · subst h0
          rw [if_pos rfl,q5 rfl] at hr
          simp only at hr
          have hch:c.av.head?=some (u8 c.kind):=rfl
          simp [q2,hch]
          refine must_ev (fun h3=>?_) (fun h3=>?_)
          · simp at h3
            rw [if_pos h3] at hr
            simp [q2,q3,List.take_of_length_le (Nat.le_of_eq c.av_len)]
            exact hr _ (q1.set (by omega) _)
          · simp at h3
            rw [if_neg h3] at hr
            exact hr _ q1
        · rw [if_neg h0] at hr
          simp [h0]
          exact must_ev (fun h3=>by simp at h3) (fun h3=>hr _ q1)
      · simp at h2
        rw [if_pos h2] at hr
        exact hr _ q1
  · simp at h1
    rw [if_neg h1] at hr
    exact hr _ hg
end Go.Abs.Mac
namespace Go.Abs.Mac
open Go Go.Abs Go.Abs.Stk Go.Abs.At Go.Proofs.MacD
variable {σ τ:AHeap} {mid sid fuel:Nat} {cv fv:AV} {vv:List AV} {T:Nat→Nat} {s:Sa} {k:List Fr} {K kp:AV→AHeap→Prop}
def tg (T:Nat→Nat) (n c:Nat):Nat→Nat:=fun i=>if i=n then c else T i
theorem tg_same (T:Nat→Nat) (n c:Nat):tg T n c n=c:=by simp [tg]
theorem tg_ne {T:Nat→Nat} {n c i:Nat} (h:i ≠ n):tg T n c i=T i:=by simp [tg,h]
theorem RowA.gone_get {tag sz:Nat} {v:AV} {els:List (List AV)} (h:RowA σ T tag sz v els) {i:Nat} (hi:T i ≠ tag):(gone v σ).get i=σ.get i:=by
  rcases h with ⟨rfl,_⟩ | ⟨q,rest,rfl,_,h3⟩
  · rfl
  · show (σ.del q).get i=_
    rw [get_del,if_neg (by rintro rfl;exact hi h3)]
theorem RowA.append {tag sz by':Nat} {v:AV} {els:List (List AV)} (h:RowA σ T tag sz v els) (y:List AV) (hb:(els.length+1) * by'≤140737488355328∧els.length+1≤140737488355328) :
    aAppend sz by' v (.sl true sz [y]) σ=some (.own σ.next (els.length+1),(gone v σ).new (.cells sz (els ++ [y]))):=by
  have:=aAppend_rows (by':=by') h.rows (fun c=>by rcases h with ⟨rfl,_⟩ | ⟨q,rest,rfl,_⟩ <;> simp) (y:=.sl true sz [y]) (ys:=[y]) (.inr (.inl ⟨true,rfl⟩)) (by simpa using hb)
  simpa using this
theorem RowA.tag {tag tag' sz:Nat} {v:AV} {els:List (List AV)} (h:RowA σ T tag sz v els) {T':Nat→Nat} (ht:∀ q,T q=tag→T' q=tag'):RowA σ T' tag' sz v els:=by
  rcases h with h | ⟨q,rest,h1,h2,h3⟩
  · exact .inl h
  · exact .inr ⟨q,rest,h1,h2,ht q h3⟩
theorem MX.re (h:MX σ mid sid cv fv vv T fuel s k) {υ:AHeap} {T':Nat→Nat} (hn:σ.next≤υ.next) (hT:∀ i,T i ≠ 0→T i≤2→T' i=T i) (hs:∀ i,T i=1→υ.get i=σ.get i) :
    T' mid=2∧In υ sid (avS s.store) (fun i=>T' i=1) :=
  ⟨by rw [hT mid (by rw [h.tm];omega) (by rw [h.tm];omega),h.tm],In.sub (In.congr h.store hn fun i h1 _=>hs i h1) fun i hi=>by rw [hT i (by omega) (by omega)];exact hi⟩
theorem MX.at_next (h:MX σ mid sid cv fv vv T fuel s k):T σ.next=0:=by
  by_cases e:T σ.next=0
  · exact e
  · exact absurd (h.lt _ e) (Nat.lt_irrefl _)
abbrev mobj (sid fuel steps:Nat) (cv fv:AV):AObj:=.cells 5 [[.ptr sid 0 0,int fuel,int steps,cv,fv]]
theorem MX.pushC (h:MX σ mid sid cv fv vv T fuel s k) (c:Co) {υ:AHeap} (hυ:υ=((gone cv σ).new (.cells 5 (s.codes.map Co.av ++ [c.av]))).set mid (mobj sid fuel s.steps (.own σ.next (s.codes.length+1)) fv)) :
    MX υ mid sid (.own σ.next (s.codes.length+1)) fv vv (tg T σ.next 3) fuel { s with codes:=s.codes ++ [c] } k∧Keep T σ (tg T σ.next 3) υ:=by
  have h0:=h.at_next
  have hm:mid < σ.next:=h.lt mid (by rw [h.tm];omega)
  have hne:∀ i,T i ≠ 0→i ≠ σ.next:=fun i hi e=>by rw [e] at hi;exact hi h0
  have hget:∀ i,i ≠ σ.next→i ≠ mid→T i ≠ 3→υ.get i=σ.get i:=fun i h1 h2 h3=>by
    rw [hυ,get_set,if_neg h2,get_new,gone_next,if_neg h1];exact h.codes.gone_get h3
  have hnx:υ.next=σ.next+1:=by rw [hυ];simp
  have htm:∀ i,T i ≠ 2→i ≠ mid:=fun i hi e=>by rw [e,h.tm] at hi;exact hi rfl
  obtain ⟨r1,r2⟩:=h.re (T':=tg T σ.next 3) (υ:=υ) (by omega) (fun i h1 _=>tg_ne (hne i h1)) (fun i hi=>hget i (hne i (by omega)) (htm i (by omega)) (by omega))
  refine ⟨{ obj:=by rw [hυ];simp,tm:=r1,store:=r2,codes:=?_,frames:=?_,vals:=?_,lt:=?_ },by omega,fun i hi h1=>⟨by rw [tg_ne (by omega)];exact h1,hget i (by omega) (htm i (by omega)) (by omega)⟩⟩
  · exact .inr ⟨σ.next,[],by simp,by rw [hυ,get_set,if_neg (by omega),get_new,gone_next,if_pos rfl];simp,tg_same _ _ _⟩
  · exact h.frames.mono fun q hq=>⟨by rw [tg_ne (hne q (by omega))];exact hq,hget q (hne q (by omega)) (htm q (by omega)) (by omega)⟩
  · exact h.vals.mono fun q h1 _=>⟨tg_ne (hne q (by omega)),hget q (hne q (by omega)) (htm q (by omega)) (by omega)⟩
  · intro i hi
    by_cases e:i=σ.next
    · omega
    · rw [tg_ne e] at hi;have:=h.lt i hi;omega
theorem MX.pushF (h:MX σ mid sid cv fv vv T fuel s k) (f:Fr) (hf:f.vals=[]) {υ:AHeap} (hυ:υ=((gone fv σ).new (.cells 4 (frs k vv ++ [frC f nilSl]))).set mid (mobj sid fuel s.steps cv (.own σ.next (k.length+1)))) :
    MX υ mid sid cv (.own σ.next (k.length+1)) (nilSl :: vv) (tg T σ.next 4) fuel s (f :: k)∧Keep T σ (tg T σ.next 4) υ:=by
  have h0:=h.at_next
  have hm:mid < σ.next:=h.lt mid (by rw [h.tm];omega)
  have hne:∀ i,T i ≠ 0→i ≠ σ.next:=fun i hi e=>by rw [e] at hi;exact hi h0
  have hget:∀ i,i ≠ σ.next→i ≠ mid→T i ≠ 4→υ.get i=σ.get i:=fun i h1 h2 h3=>by
    rw [hυ,get_set,if_neg h2,get_new,gone_next,if_neg h1];exact h.frames.gone_get h3
  have hnx:υ.next=σ.next+1:=by rw [hυ];simp
  have htm:∀ i,T i ≠ 2→i ≠ mid:=fun i hi e=>by rw [e,h.tm] at hi;exact hi rfl
  obtain ⟨r1,r2⟩:=h.re (T':=tg T σ.next 4) (υ:=υ) (by omega) (fun i h1 _=>tg_ne (hne i h1)) (fun i hi=>hget i (hne i (by omega)) (htm i (by omega)) (by omega))
  refine ⟨{ obj:=by rw [hυ];simp,tm:=r1,store:=r2,codes:=?_,frames:=?_,vals:=?_,lt:=?_ },by omega,fun i hi h1=>⟨by rw [tg_ne (by omega)];exact h1,hget i (by omega) (htm i (by omega)) (by omega)⟩⟩
  · exact h.codes.mono fun q hq=>⟨by rw [tg_ne (hne q (by omega))];exact hq,hget q (hne q (by omega)) (htm q (by omega)) (by omega)⟩
  · exact .inr ⟨σ.next,[],by simp [frs_len h.vals],by rw [hυ,get_set,if_neg (by omega),get_new,gone_next,if_pos rfl];simp,tg_same _ _ _⟩
  · refine ⟨.inl ⟨rfl,by rw [hf];rfl⟩,h.vals.mono fun q h1 _=>⟨tg_ne (hne q (by omega)),hget q (hne q (by omega)) (htm q (by omega)) (by omega)⟩⟩
  · intro i hi
    by_cases e:i=σ.next
    · omega
    · rw [tg_ne e] at hi;have:=h.lt i hi;omega
theorem MX.top {f:Fr} (h:MX σ mid sid cv fv vv T fuel s (f :: k)):∃ fid rest v vv',vv=v :: vv'∧fv=.own fid (k.length+1)∧σ.get fid=some (.cells 4 (frs k vv' ++ frC f v :: rest))∧T fid=4∧(frs k vv').length=k.length:=by
  have hv:=h.vals
  cases vv with
  | nil=>exact hv.elim
  | cons v vv' =>
    have hl:=frs_len hv.2
    rcases h.frames with ⟨_,h2⟩ | ⟨q,rest,h1,h2,h3⟩
    · simp at h2
    · exact ⟨q,rest,v,vv',rfl,by rw [h1];simp [hl],by rw [h2];simp,h3,hl⟩
theorem MX.pushV {f:Fr} {v:AV} (h:MX σ mid sid cv fv (v :: vv) T fuel s (f :: k)) (w:V) {fid:Nat} {rest:List (List AV)} (hfv:fv=.own fid (k.length+1)) (hfg:σ.get fid=some (.cells 4 (frs k vv ++ frC f v :: rest))) (hft:T fid=4)
    {υ:AHeap} (hυ:υ=((gone v σ).new (.cells 4 (f.vals.map V.av ++ [w.av]))).set fid (.cells 4 (frs k vv ++ frC f (.own σ.next (f.vals.length+1)) :: rest))) :
    MX υ mid sid cv fv (.own σ.next (f.vals.length+1) :: vv) (tg T σ.next (5+k.length)) fuel s (⟨f.t,f.e,f.vals ++ [w]⟩ :: k)∧Keep T σ (tg T σ.next (5+k.length)) υ:=by
  have h0:=h.at_next
  have hm:mid < σ.next:=h.lt mid (by rw [h.tm];omega)
  have hfl:fid < σ.next:=h.lt fid (by omega)
  have hne:∀ i,T i ≠ 0→i ≠ σ.next:=fun i hi e=>by rw [e] at hi;exact hi h0
  have hget:∀ i,i ≠ σ.next→i ≠ fid→T i ≠ 5+k.length→υ.get i=σ.get i:=fun i h1 h2 h3=>by
    rw [hυ,get_set,if_neg h2,get_new,gone_next,if_neg h1];exact h.vals.1.gone_get h3
  have hnx:υ.next=σ.next+1:=by rw [hυ];simp
  have htf:∀ i,T i ≠ 4→i ≠ fid:=fun i hi e=>by rw [e] at hi;exact hi hft
  have hl:=frs_len h.vals.2
  obtain ⟨r1,r2⟩:=h.re (T':=tg T σ.next (5+k.length)) (υ:=υ) (by omega) (fun i h1 _=>tg_ne (hne i h1)) (fun i hi=>hget i (hne i (by omega)) (htf i (by omega)) (by omega))
  refine ⟨{ obj:=by rw [hget mid (by omega) (htf mid (by rw [h.tm];omega)) (by rw [h.tm];omega)];exact h.obj,tm:=r1,store:=r2,codes:=?_,frames:=?_,vals:=?_,lt:=?_ },by omega,fun i hi h1=>⟨by rw [tg_ne (by omega)];exact h1,hget i (by omega) (htf i (by omega)) (by omega)⟩⟩
  · exact h.codes.mono fun q hq=>⟨by rw [tg_ne (hne q (by omega))];exact hq,hget q (hne q (by omega)) (htf q (by omega)) (by omega)⟩
  · exact .inr ⟨fid,rest,by rw [hfv];simp [hl],by rw [hυ];simp [frC],by rw [tg_ne (hne fid (by omega))];exact hft⟩
  · refine ⟨.inr ⟨σ.next,[],by simp,by rw [hυ,get_set,if_neg (by omega),get_new,gone_next,if_pos rfl];simp,tg_same _ _ _⟩,?_⟩
    exact h.vals.2.mono fun q h1 h2=>⟨tg_ne (hne q (by omega)),hget q (hne q (by omega)) (htf q (by omega)) (by omega)⟩
  · intro i hi
    by_cases e:i=σ.next
    · omega
    · rw [tg_ne e] at hi;have:=h.lt i hi;omega
theorem MX.popF {f:Fr} {v:AV} (h:MX σ mid sid cv fv (v :: vv) T fuel s (f :: k)) {fid:Nat} {rest:List (List AV)} (hfv:fv=.own fid (k.length+1)) (hfg:σ.get fid=some (.cells 4 (frs k vv ++ frC f v :: rest))) (hft:T fid=4)
    {υ:AHeap} (hυ:υ=σ.set mid (mobj sid fuel s.steps cv (.own fid k.length))) :
    MX υ mid sid cv (.own fid k.length) vv (fun i=>if T i=5+k.length then 0 else T i) fuel s k∧Keep T σ (fun i=>if T i=5+k.length then 0 else T i) υ∧RowA υ (fun i=>if T i=5+k.length then 0 else T i) 0 4 v (f.vals.map V.av)∧(∀ q n,v=.own q n→q < υ.next):=by
  have hget:∀ i,T i ≠ 2→υ.get i=σ.get i:=fun i h2=>by
    rw [hυ,get_set,if_neg (by rintro rfl;exact h2 h.tm)]
  have hnx:υ.next=σ.next:=by rw [hυ];rfl
  have hT:∀ i,T i ≠ 5+k.length→(fun i=>if T i=5+k.length then 0 else T i) i=T i:=fun i hi=>if_neg hi
  have hl:=frs_len h.vals.2
  obtain ⟨r1,r2⟩:=h.re (T':=fun i=>if T i=5+k.length then 0 else T i) (υ:=υ) (by omega) (fun i h1 h2=>hT i (by omega)) (fun i hi=>hget i (by omega))
  refine ⟨{ obj:=by rw [hυ];simp,tm:=r1,store:=r2,codes:=?_,frames:=?_,vals:=?_,lt:=?_ },⟨by omega,fun i hi h1=>⟨by show (if T i=5+k.length then 0 else T i)=0;rw [if_neg (by omega)];exact h1,hget i (by omega)⟩⟩,?_⟩
  · exact h.codes.mono fun q hq=>⟨(hT q (by omega)).trans hq,hget q (by omega)⟩
  · refine .inr ⟨fid,frC f v :: rest,by rw [hl],by rw [hget fid (by omega)];exact hfg,(hT fid (by omega)).trans hft⟩
  · exact h.vals.2.mono fun q h1 h2=>⟨hT q (by omega),hget q (by omega)⟩
  · intro i hi
    have:T i ≠ 0:=by
      intro e
      have hi:(if T i=5+k.length then 0 else T i) ≠ 0:=hi
      rw [if_neg (by omega)] at hi;exact hi e
    rw [hnx];exact h.lt i this
  · have h1:=h.vals.1.tag (T':=fun i=>if T i=5+k.length then 0 else T i) (tag':=0) (fun q hq=>if_pos hq)
    rcases h.vals.1 with ⟨rfl,h2⟩ | ⟨q,r2,e1,e2,e3⟩
    · exact ⟨.inl ⟨rfl,h2⟩,by intro q n e;cases e⟩
    · exact ⟨.inr ⟨q,r2,e1,by rw [hget q (by omega)];exact e2,if_pos e3⟩,by intro q' n e;rw [e1] at e;cases e;rw [hnx];exact h.lt q (by omega)⟩
end Go.Abs.Mac
namespace Go.Abs.Mac
open Go Go.Abs Go.Abs.Stk Go.Abs.At Go.Proofs.MacD
variable {σ τ:AHeap} {mid sid fuel:Nat} {cv fv:AV} {vv:List AV} {T:Nat→Nat} {s:Sa} {k:List Fr} {K kp:AV→AHeap→Prop}
@[simp] theorem Co.av_len (c:Co):c.av.length=5:=rfl
theorem coded_ev (h:MA σ mid T fuel s k) (b:Bnd fuel s k) {c:Co} (hk:∀ τ T',MA τ mid T' fuel (coded s c).2 k→Keep T σ T' τ→K (.agg (coded s c).1.av) τ):Ev PR 87 [.ptr mid 0 0,.agg c.av] σ K kp:=by
  apply F87_ev;unfold F87
  simp [Nat.add_assoc]
  generalize hτ:(σ.new (.cells 5 [c.av])).new (.cells 10 [zC])=τ
  have hg:Grows σ τ:=by rw [← hτ];exact (Grows.new _ _).trans (Grows.new _ _)
  have hn:τ.next=σ.next+2:=by rw [← hτ];rfl
  have g0:τ.get σ.next=some (.cells 5 [c.av]):=by rw [← hτ];simp [get_new]
  have g1:τ.get (σ.next+1)=some (.cells 10 [zC]):=by rw [← hτ];simp [get_new]
  obtain ⟨sid,cv,fv,vv,hx⟩:=h.grows hg
  have hm:mid < τ.next:=hx.lt mid (by rw [hx.tm];omega)
  have hbc:=b.codes
  have hm2:mid ≠ σ.next+1:=by rintro e;have:=h.zero (i:=mid) (by omega);rw [hx.tm] at this;omega
  simp [hx.obj,g0,List.take_of_length_le (Nat.le_of_eq c.av_len)]
  refine stepK_of (hx.codes.append (by':=64) c.av (by simp;omega)) ?_
  have z1:T (σ.next+1)=0:=h.zero (by omega)
  have gg:(gone cv τ).get mid=τ.get mid:=hx.codes.gone_get (by rw [hx.tm];omega)
  have gl:(gone cv τ).get (σ.next+1)=τ.get (σ.next+1):=hx.codes.gone_get (by omega)
  simp [gone_next,get_new,get_set,Nat.ne_of_lt hm,gg,hx.obj]
  obtain ⟨p1,p2⟩:=hx.pushC c (υ:=((gone cv τ).new (.cells 5 (s.codes.map Co.av ++ [c.av]))).set mid (mobj sid fuel s.steps (.own τ.next (s.codes.length+1)) fv)) rfl
  rw [wrap64 (by omega)]
  simp [get_set,get_new,Ne.symm hm2,show σ.next+1 ≠ τ.next by omega,gl,g1]
  have l:Loc σ.next (tg T τ.next 3) _ ((((gone cv τ).new (.cells 5 (s.codes.map Co.av ++ [c.av]))).set mid (mobj sid fuel s.steps (.own τ.next (s.codes.length+1)) fv)).set (σ.next+1) (.cells 10 [(coded s c).1.av])):=Loc.set (.refl _ _ _) (.inr ⟨by omega,by rw [tg_ne (by omega)];exact z1⟩)
  have:=hk _ _ ⟨_,_,_,_,p1.loc l⟩ ((Keep.of hg p2).loc l)
  simpa [coded,Cl.av,V.av,V.zero] using this
theorem step_ev (h:MA σ mid T fuel s k) (b:Bnd fuel s k)
    (hk:s.steps < fuel→∀ τ,MA τ mid T fuel (tick s) k→Keep T σ T τ→K (.tup []) τ) (hp:fuel≤s.steps→kp (.iface 102 (.agg [u8 3])) σ):Ev PR 81 [.ptr mid 0 0] σ K kp:=by
  apply F81_ev;unfold F81
  obtain ⟨sid,cv,fv,vv,hx⟩:=h
  have hm:mid < σ.next:=hx.lt mid (by rw [hx.tm];omega)
  have hbf:=b.fuel
  simp [hx.obj]
  refine must_ev (fun h1=>?_) (fun h1=>hp (by simpa using h1))
  have h1:s.steps < fuel:=by simpa using h1
  simp [hx.obj]
  rw [wrap64 (by omega)]
  refine hk h1 _ ⟨sid,cv,fv,vv,?_⟩ ?_
  · have hget:∀ i,T i ≠ 2→(σ.set mid (mobj sid fuel (s.steps+1) cv fv)).get i=σ.get i:=fun i h2=>by
      rw [get_set,if_neg (by rintro rfl;exact h2 hx.tm)]
    exact { obj:=by simp [tick],tm:=hx.tm,store:=In.congr hx.store (Nat.le_refl _) fun i h1 _=>hget i (by omega),codes:=hx.codes.mono fun q hq=>⟨hq,hget q (by omega)⟩,frames:=hx.frames.mono fun q hq=>⟨hq,hget q (by omega)⟩,vals:=hx.vals.mono fun q h1 _=>⟨rfl,hget q (by omega)⟩,lt:=hx.lt }
  · exact ⟨Nat.le_refl _,fun i hi h0=>⟨h0,by rw [get_set,if_neg (by rintro rfl;rw [hx.tm] at h0;omega)]⟩⟩
theorem top_ev {f:Fr} (h:MX σ mid sid cv fv vv T fuel s (f :: k)) (b:Bnd fuel s (f :: k)) {fid:Nat} {rest:List (List AV)} {v:AV} {vv':List AV} (hvv:vv=v :: vv') (hfv:fv=.own fid (k.length+1)) (hfg:σ.get fid=some (.cells 4 (frs k vv' ++ frC f v :: rest)))
    (hk:K (.ptr fid k.length 0) σ):Ev PR 92 [.ptr mid 0 0] σ K kp:=by
  subst hvv
  apply F92_ev;unfold F92
  have hl:=frs_len h.vals.2
  have hbk:=b.k
  simp at hbk
  simp [h.obj,hfv]
  rw [wrap64 (by omega)]
  refine stepP (x:=.ptr fid k.length 0) ?_ hk
  rw [aIndexAddr_own,if_pos (by omega)]
  rw [Int.toNat_natCast,elAt_cells hfg,← hl,List.getElem?_append_right (Nat.le_refl _)]
  simp [frC]
theorem pop_frame_ev {f:Fr} (h:MA σ mid T fuel s (f :: k)) (b:Bnd fuel s (f :: k))
    (hk:∀ τ T' v,MA τ mid T' fuel s k→Keep T σ T' τ→RowA τ T' 0 4 v (f.vals.map V.av)→(∀ q n,v=.own q n→q < τ.next)→K (.agg (frC f v)) τ):Ev PR 90 [.ptr mid 0 0] σ K kp:=by
  apply F90_ev;unfold F90
  simp
  have hg1:=Grows.new σ (.cells 4 [[.val (.pointer none),.val (.pointer none),.val (.pointer none),.val (.slice none 0 0)]])
  obtain ⟨sid,cv,fv,vv,hx⟩:=h.grows hg1
  obtain ⟨fid,rest,v,vv',rfl,hfv,hfg,hft,hl⟩:=hx.top
  refine top_ev hx b rfl hfv hfg ?_
  generalize hτ:σ.new (.cells 4 [[.val (.pointer none),.val (.pointer none),.val (.pointer none),.val (.slice none 0 0)]])=τ at *
  have hn:τ.next=σ.next+1:=by rw [← hτ];rfl
  have g0:τ.get σ.next=some (.cells 4 [[.val (.pointer none),.val (.pointer none),.val (.pointer none),.val (.slice none 0 0)]]):=by rw [← hτ];simp
  have hm:mid < τ.next:=hx.lt mid (by rw [hx.tm];omega)
  have hm2:mid ≠ σ.next:=by rintro e;have:=h.zero (i:=mid) (by omega);rw [hx.tm] at this;omega
  have hel:(frs k vv' ++ frC f v :: rest)[k.length]?=some (frC f v):=by
    rw [← hl,List.getElem?_append_right (Nat.le_refl _)];simp
  have hfl:(frC f v).length=4:=rfl
  simp [hfg,hel,hfl,List.take_of_length_le (Nat.le_of_eq hfl),get_new,Nat.ne_of_lt hm,hx.obj,get_set]
  have hbk:=b.k
  simp at hbk
  simp [hfv]
  rw [wrap64 (by omega)]
  rw [if_pos (by omega),Int.toNat_natCast]
  simp [get_new,get_set,Nat.ne_of_lt hm,hx.obj,hm2,Ne.symm hm2,show τ.next ≠ mid by omega,show σ.next ≠ τ.next by omega,g0,hfl,List.take_of_length_le (Nat.le_of_eq hfl)]
  obtain ⟨p1,p2,p3,p4⟩:=hx.popF hfv hfg hft (υ:=τ.set mid (mobj sid fuel s.steps cv (.own fid k.length))) rfl
  generalize hT:(fun i=>if T i=5+k.length then 0 else T i)=T' at p1 p2 p3
  have zs:T' σ.next=0:=by rw [← hT];show (if T σ.next=5+k.length then 0 else T σ.next)=0;rw [if_neg (by rw [h.zero (Nat.le_refl _)];omega)];exact h.zero (Nat.le_refl _)
  have hq:∀ i,i < τ.next→i ≠ σ.next→((((τ.new (.cells 4 [[.val (.pointer none),.val (.pointer none),.val (.pointer none),.val (.slice none 0 0)]])).set τ.next (.cells 4 [frC f v])).set mid (mobj sid fuel s.steps cv (.own fid k.length))).set σ.next (.cells 4 [frC f v])).get i=(τ.set mid (mobj sid fuel s.steps cv (.own fid k.length))).get i:=by
    intro i h1 h2
    rw [get_set,if_neg h2]
    simp only [get_set,get_new]
    by_cases e:i=mid
    · rw [if_pos e,if_pos e]
    · rw [if_neg e,if_neg e,if_neg (by omega),if_neg (by omega)]
  have l:Loc σ.next T' (τ.set mid (mobj sid fuel s.steps cv (.own fid k.length))) ((((τ.new (.cells 4 [[.val (.pointer none),.val (.pointer none),.val (.pointer none),.val (.slice none 0 0)]])).set τ.next (.cells 4 [frC f v])).set mid (mobj sid fuel s.steps cv (.own fid k.length))).set σ.next (.cells 4 [frC f v])) :=
    ⟨Nat.le_succ _,fun i h1 h2=>hq i h1 (by rintro rfl;omega)⟩
  refine hk _ T' v ⟨_,_,_,_,p1.loc l⟩ ((Keep.of hg1 p2).loc l) ?_ (fun q n e=>Nat.lt_of_lt_of_le (p4 q n e) (Nat.le_succ _))
  rcases p3 with p3 | ⟨q,r,q1,q2,q3⟩
  · exact .inl p3
  · refine .inr ⟨q,r,q1,?_,q3⟩
    rcases hx.vals.1 with ⟨rfl,_⟩ | ⟨q',r',e1,e2,e3⟩
    · cases q1
    · rw [q1] at e1;cases e1
      rw [hq q (hx.lt q (by omega)) (by rintro rfl;rw [h.zero (Nat.le_refl _)] at e3;omega)]
      exact q2
theorem kid_get {t:AT} {i:Nat} (h:i < t.kids.length):t.kids[i]?=some (kidAt t i):=by
  unfold kidAt;rw [List.getElem?_eq_getElem h];rfl
theorem kid_addr {t:AT} {i:Nat} (h:i < t.kids.length) (σ:AHeap):aIndexAddr 19 (AT.vs t.kids) (.val (.int .i64 i)) σ=some (.ref (kidAt t i).av):=by
  rw [AT.vs,aIndexAddr_sl,if_pos (by omega),Int.toNat_natCast,AT.avs_map,List.getElem?_map,kid_get h];rfl
theorem AT.fields (t:AT):t.av[0]?=some (u8 t.h.kind)∧t.av[1]?=some (u8 t.h.op)∧t.av[3]?=some (int t.h.n)∧t.av[4]?=some (str t.h.name)∧t.av[5]?=some (str t.h.arg)∧t.av[6]?=some (str t.h.exn)∧t.av[7]?=some (int t.rho)∧t.av[8]?=some (rhosV t.rhos)∧t.av[18]?=some (AT.vs t.kids):=by
  obtain ⟨_,_,_,_,_,_,_,_,_,_,e⟩:=t.av_eq
  rw [e]
  exact ⟨rfl,rfl,rfl,rfl,rfl,rfl,rfl,rfl,rfl⟩
theorem MX.codesGet (h:MX σ mid sid cv fv vv T fuel s k) (hl:0 < s.codes.length):∃ q rest,cv=.own q s.codes.length∧σ.get q=some (.cells 5 (s.codes.map Co.av ++ rest))∧T q=3:=by
  rcases h.codes with ⟨_,h2⟩ | ⟨q,rest,h1,h2,h3⟩
  · have:=congrArg List.length h2;simp at this;rw [this] at hl;simp at hl
  · exact ⟨q,rest,by rw [h1];simp,h2,h3⟩
theorem cellAt_in {s:SG Cl} {v:V} {c:Cl} (h:cellAt s v=some c):∃ (i:Nat) (row:List Cl),s.L[i]?=some (true,row)∧c ∈ row:=by
  unfold cellAt at h
  cases hr:s.row v.r with
  | none=>rw [hr] at h;cases h
  | some row =>
    rw [hr] at h
    obtain ⟨i,_,h1,_⟩:=SG.row_nat hr
    exact ⟨i,row,h1,List.mem_of_getElem? h⟩
theorem IdxOk.code {s s':Sa} {v:V} {c:Cl} (h:IdxOk s) (ht:take s v 3=.ok c s'):∃ f,s.codes[c.code.toNat]?=some f∧c.code=(c.code.toNat:Int):=by
  obtain ⟨rfl,hk,hc,_⟩:=take_ok ht
  obtain ⟨i,row,h1,h2⟩:=cellAt_in hc
  have:=h i row c h1 h2 hk
  exact ⟨_,List.getElem?_eq_getElem (by omega),by omega⟩
@[simp] theorem AT.av_0' (t:AT) (h:0 < t.av.length):t.av[0]'h=u8 t.h.kind:=by have:=(AT.fields t).1;rw [List.getElem?_eq_getElem h] at this;exact Option.some.inj this
@[simp] theorem AT.av_1' (t:AT) (h:1 < t.av.length):t.av[1]'h=u8 t.h.op:=by have:=(AT.fields t).2.1;rw [List.getElem?_eq_getElem h] at this;exact Option.some.inj this
@[simp] theorem AT.av_3' (t:AT) (h:3 < t.av.length):t.av[3]'h=int t.h.n:=by have:=(AT.fields t).2.2.1;rw [List.getElem?_eq_getElem h] at this;exact Option.some.inj this
@[simp] theorem AT.av_18' (t:AT) (h:18 < t.av.length):t.av[18]'h=AT.vs t.kids:=by have:=(AT.fields t).2.2.2.2.2.2.2.2;rw [List.getElem?_eq_getElem h] at this;exact Option.some.inj this
@[simp] theorem AT.av_head (t:AT):t.av.head?=some (u8 t.h.kind):=by have:=(AT.fields t).1;rw [List.head?_eq_getElem?];exact this
theorem kid_addr0 {t:AT} (h:0 < t.kids.length) (σ:AHeap):aIndexAddr 19 (AT.vs t.kids) (.val (.int .i64 0)) σ=some (.ref (kidAt t 0).av):=kid_addr (i:=0) h σ
theorem kid_addr1 {t:AT} (h:1 < t.kids.length) (σ:AHeap):aIndexAddr 19 (AT.vs t.kids) (.val (.int .i64 1)) σ=some (.ref (kidAt t 1).av):=kid_addr (i:=1) h σ
theorem kid_addr2 {t:AT} (h:2 < t.kids.length) (σ:AHeap):aIndexAddr 19 (AT.vs t.kids) (.val (.int .i64 2)) σ=some (.ref (kidAt t 2).av):=kid_addr (i:=2) h σ
theorem wait_ev (h:MA σ mid T fuel s k) (b:Bnd fuel s k) {t:AT} {e:En} (h0:0 < t.kids.length)
    (hk:∀ τ T',MA τ mid T' fuel s (⟨t,e,[]⟩ :: k)→Keep T σ T' τ→K (Nx.av (.node (kidAt t 0) e)) τ):Ev PR 89 [.ptr mid 0 0,.ref t.av,envV e] σ K kp:=by
  apply F89_ev;unfold F89
  obtain ⟨f0,f1,f3,f4,f5,f6,f7,f8,f18⟩:=AT.fields t
  simp [Nat.add_assoc]
  generalize hτ:(σ.new (.cells 2 [envC e])).new (.cells 9 [[.val (.pointer none),.val (.pointer none),.val (.pointer none),.val (.int .u8 0),.val (.int .i64 0),.val (.int .i64 0),.val (.int .i64 0),.val (.bool false),.val (.string ByteArray.empty)]])=τ
  have hg:Grows σ τ:=by rw [← hτ];exact (Grows.new _ _).trans (Grows.new _ _)
  have hn:τ.next=σ.next+2:=by rw [← hτ];rfl
  have g0:τ.get σ.next=some (.cells 2 [envC e]):=by rw [← hτ];simp [get_new]
  have g1:τ.get (σ.next+1)=some (.cells 9 [[.val (.pointer none),.val (.pointer none),.val (.pointer none),.val (.int .u8 0),.val (.int .i64 0),.val (.int .i64 0),.val (.int .i64 0),.val (.bool false),.val (.string ByteArray.empty)]]):=by rw [← hτ];simp [get_new]
  obtain ⟨sid,cv,fv,vv,hx⟩:=h.grows hg
  have hm:mid < τ.next:=hx.lt mid (by rw [hx.tm];omega)
  have hbk:=b.k
  have z0:T σ.next=0:=h.zero (by omega)
  have z1:T (σ.next+1)=0:=h.zero (by omega)
  have hl:=frs_len hx.vals
  have hm1:mid ≠ σ.next+1:=by rintro e;rw [e] at hx;have:=hx.tm;omega
  have hm0:mid ≠ σ.next:=by rintro e;rw [e] at hx;have:=hx.tm;omega
  simp [hx.obj,g0,envC]
  refine stepK_of (hx.frames.append (by':=48) (frC ⟨t,e,[]⟩ nilSl) (by rw [hl];omega)) ?_
  have gg:∀ i,T i ≠ 4→(gone fv τ).get i=τ.get i:=fun i hi=>hx.frames.gone_get hi
  simp [gone_next,get_new,get_set,Nat.ne_of_lt hm,gg mid (by rw [hx.tm];omega),hx.obj,hl,kid_addr0 h0,Ne.symm hm0,Ne.symm hm1,show σ.next ≠ τ.next by omega,show σ.next+1 ≠ τ.next by omega,gg σ.next (by omega),gg (σ.next+1) (by omega),g0,g1]
  simp [envC]
  obtain ⟨p1,p2⟩:=hx.pushF ⟨t,e,[]⟩ rfl (υ:=((gone fv τ).new (.cells 4 (frs k vv ++ [frC ⟨t,e,[]⟩ nilSl]))).set mid (mobj sid fuel s.steps cv (.own τ.next (k.length+1)))) rfl
  have l:Loc σ.next (tg T τ.next 4) _ ((((gone fv τ).new (.cells 4 (frs k vv ++ [frC ⟨t,e,[]⟩ nilSl]))).set mid (mobj sid fuel s.steps cv (.own τ.next (k.length+1)))).set (σ.next+1) (.cells 9 [[.ref (kidAt t 0).av,namesV e.names,rhoV e.rhos,.val (.int .u8 0),.val (.int .i64 0),.val (.int .i64 0),.val (.int .i64 0),.val (.bool false),.val (.string ByteArray.empty)]])):=Loc.set (.refl _ _ _) (.inr ⟨by omega,by rw [tg_ne (by omega)];exact z1⟩)
  exact hk _ _ ⟨_,_,_,_,p1.loc l⟩ ((Keep.of hg p2).loc l)
end Go.Abs.Mac
namespace Go.Abs.Mac
open Go Go.Abs Go.Abs.Stk Go.Abs.At Go.Proofs.MacD
variable {σ τ:AHeap} {mid sid fuel:Nat} {cv fv:AV} {vv:List AV} {T:Nat→Nat} {s:Sa} {k:List Fr} {K kp:AV→AHeap→Prop}
abbrev zV4:List AV:=[.val (.int .u8 0),.val (.int .i64 0),.val (.int .i64 0),.val (.int .i64 0)]
abbrev zCo:List AV:=[.val (.pointer none),.val (.string ByteArray.empty),.val (.pointer none),.val (.pointer none),.val (.slice none 0 0)]
theorem rs_len (rs:Option (List Int)) (σ:AHeap):aLenK .slice (rsV rs) σ=some (int ((rs.getD []).length:Nat)):=by
  cases rs with
  | none=>rfl
  | some l=>simp [rsV,rhosV]
theorem rs_at {rs:Option (List Int)} {i:Nat} {r:Int} (h:(rs.getD [])[i]?=some r) (σ:AHeap):aIndexAddr 1 (rsV rs) (int i) σ=some (.ref [int r]):=by
  cases rs with
  | none=>simp at h
  | some l =>
    show aIndexAddr 1 (.sl false 1 (l.map fun r=>[At.int r])) (.val (.int .i64 i)) σ=_
    rw [aIndexAddr_sl,if_pos (by omega),Int.toNat_natCast,List.getElem?_map,show l[i]?=some r from h];rfl
@[simp] theorem rsV_cells (rs:Option (List Int)):acells (rsV rs)=some [rsV rs]:=by cases rs <;> rfl
theorem MX.codeAt' (h:MX σ mid sid cv fv vv T fuel s k) {i:Nat} {f:Co} (hf:s.codes[i]?=some f) :
    ∃ q els,T q=3∧σ.get q=some (.cells 5 els)∧els[i]?=some f.av∧∀ υ:AHeap,υ.get q=σ.get q→aIndexAddr 5 cv (int i) υ=some (.ptr q i 0):=by
  have hi:=(List.getElem?_eq_some_iff.1 hf).1
  obtain ⟨q,rest,h1,h2,h3⟩:=h.codesGet (by omega)
  have he:(s.codes.map Co.av ++ rest)[i]?=some f.av:=by rw [List.getElem?_append_left (by simpa using hi)];simp [hf]
  refine ⟨q,_,h3,h2,he,fun υ hυ=>?_⟩
  rw [h1,aIndexAddr_own,if_pos (by omega),Int.toNat_natCast,elAt_cells (hυ.trans h2),he];simp
theorem inst_ev (h:MA σ mid T fuel s k) (b:Bnd fuel s k) (hi:IdxOk s) {t:AT} (htl:t.rhos.length≤1000000) {e:En} (hr:After mid fuel T σ k vV K kp (inst s t e)):Ev PR 85 [.ptr mid 0 0,.ref t.av,envV e] σ K kp:=by
  apply F85_ev;unfold F85
  simp [Nat.add_assoc]
  generalize hτ:(σ.new (.cells 2 [envC e])).new (.cells 4 [zV4])=τ
  have hg:Grows σ τ:=by rw [← hτ];exact (Grows.new _ _).trans (Grows.new _ _)
  have hn:τ.next=σ.next+2:=by rw [← hτ];rfl
  have g0:τ.get σ.next=some (.cells 2 [envC e]):=by rw [← hτ];simp [get_new]
  have g1:τ.get (σ.next+1)=some (.cells 4 [zV4]):=by rw [← hτ];simp [get_new]
  have h1:=h.grows hg
  have ko:Keep T σ T τ:=Keep.grows hg
  have z:∀ i,σ.next≤i→T i=0:=fun i hi=>h.zero hi
  simp [g0,List.take_of_length_le (Nat.le_of_eq (envC_len e))]
  unfold inst at hr
  refine find_ev (fun hf=>?_) (fun n l hf=>?_)
  · rw [hf] at hr
    simp only at hr
    simp
    exact must_ev (fun h=>by simp at h) (fun _=>hr _ T k h1 ko)
  · rw [hf] at hr
    simp only at hr
    simp [namesV]
    refine must_ev (fun h2=>?_) (fun h2=>?_)
    rotate_left
    · rw [if_neg (by simp [h2])] at hr
      exact hr _ T k h1 ko
    rw [if_pos h2] at hr
    obtain ⟨sid,cv,fv,vv,hx⟩:=id h1
    have hm:mid < τ.next:=hx.lt mid (by rw [hx.tm];omega)
    obtain ⟨J,hJ⟩:∃ J:AFrame→AHeap→Prop,∀ fr υ,J fr υ↔∃ (id:Nat) (f:Co) (c:Cl),fr=[(0,.ptr mid 0 0),(1,.ref t.av),(5,.ptr σ.next 0 0),(6,.ptr (σ.next+1) 0 0),(8,.ptr id 0 0)]∧Grows τ υ∧τ.next≤id∧id < υ.next∧υ.get id=some (.cells 5 [f.av])∧take s n.v 3=.ok c s∧s.codes[c.code.toNat]?=some f:=⟨_,fun _ _=>Iff.rfl⟩
    refine seqW_by J ?_ ?_
    · simp [hx.obj]
      refine ⟨?_,?_⟩
      · refine take_ev h1 (v:=n.v) ?_
        cases ht:take s n.v 3 with
        | over s' o =>
          rw [ht] at hr
          intro τ1 h4
          have hs':s'=s:=by have:=take_same (s:=s) (v:=n.v) (k:=3) (p:=fun x=>x=s) rfl;rw [ht] at this;exact this
          subst hs'
          exact hr τ1 T k (h1.grows h4) (ko.trans (Keep.grows h4))
        | ok c s' =>
          obtain ⟨rfl,_⟩:=take_ok ht
          intro τ1 h4
          have hx1:=hx.grows h4
          have hm1:=h4.next
          obtain ⟨f,hf',hcd⟩:=hi.code ht
          obtain ⟨q,els,a3,a2,a4,A⟩:=hx1.codeAt' hf'
          rw [← hcd] at A
          have hch:c.av[9]?=some (int c.code):=rfl
          have ql:=hx1.lt q (by omega)
          have A1:=A τ1 rfl
          have A2:=A (τ1.new (.cells 5 [zCo])) (by rw [get_new,if_neg (by omega)])
          simp [hx1.obj,hch,A1,A2,a2,a4,get_new,show mid ≠ τ1.next by omega,show q ≠ τ1.next by omega,List.take_of_length_le (Nat.le_of_eq f.av_len)]
          exact (hJ _ _).2 ⟨τ1.next,f,c,rfl,(h4.trans (Grows.new _ _)).set (by omega) _,by omega,by simp,by simp,ht,hf'⟩
      · have hgn:=Grows.new τ (.cells 5 [zCo])
        simp [get_new,show mid ≠ τ.next by omega,hx.obj]
        refine take_ev (h1.grows hgn) (v:=n.v) ?_
        cases ht:take s n.v 3 with
        | over s' o =>
          rw [ht] at hr
          intro τ1 h4
          have hs':s'=s:=by have:=take_same (s:=s) (v:=n.v) (k:=3) (p:=fun x=>x=s) rfl;rw [ht] at this;exact this
          subst hs'
          exact hr τ1 T k (h1.grows (hgn.trans h4)) (ko.trans (Keep.grows (hgn.trans h4)))
        | ok c s' =>
          obtain ⟨rfl,_⟩:=take_ok ht
          intro τ1 h4
          have hx1:=hx.grows (hgn.trans h4)
          have hm1:τ.next+1≤τ1.next:=h4.next
          obtain ⟨f,hf',hcd⟩:=hi.code ht
          obtain ⟨q,els,a3,a2,a4,A⟩:=hx1.codeAt' hf'
          rw [← hcd] at A
          have hch:c.av[9]?=some (int c.code):=rfl
          have A1:=A τ1 rfl
          have gz:τ1.get τ.next=some (.cells 5 [zCo]):=by rw [h4.get τ.next (Nat.lt_succ_self _)];simp
          simp [hx1.obj,hch,A1,a2,a4,gz,List.take_of_length_le (Nat.le_of_eq f.av_len)]
          exact (hJ _ _).2 ⟨τ.next,f,c,rfl,(hgn.trans h4).set (Nat.le_refl _) _,Nat.le_refl _,by simp;omega,by simp,ht,hf'⟩
    · intro fr υ hj
      obtain ⟨id,f,c,rfl,q1,q2,q3,q4,q5,q6⟩:=(hJ fr υ).1 hj
      have hx1:=hx.grows q1
      rw [q5] at hr
      simp only [Re.bind,q6] at hr
      have w0:υ.get σ.next=some (.cells 2 [envC e]):=by rw [q1.get σ.next (by omega)];exact g0
      have w1:υ.get (σ.next+1)=some (.cells 4 [zV4]):=by rw [q1.get _ (by omega)];exact g1
      have fa4:f.av[4]?=some (rsV f.rs):=rfl
      simp [q4,fa4,rs_len,rhosV]
      refine must_ev (fun h3=>?_) (fun h3=>?_)
      rotate_left
      · rw [if_neg (by simp at h3;unfold Co.rsl;omega)] at hr
        exact hr _ T k ⟨_,_,_,_,hx1⟩ (ko.trans (Keep.grows q1))
      have h3:f.rsl.length=t.rhos.length:=by simp at h3;unfold Co.rsl;omega
      rw [if_pos h3] at hr
      have fa2:(f.av.drop 2).take 2=envC f.env:=rfl
      simp [q4,fa2]
      have hgo:∀ υ',Grows υ υ'→MA υ' mid T fuel s k∧Keep T σ T υ':=fun υ' hu=>⟨⟨_,_,_,_,hx1.grows hu⟩,(ko.trans (Keep.grows q1)).trans (Keep.grows hu)⟩
      have hun:=q1.next
      obtain ⟨J2,hJ2⟩:∃ J2:AFrame→AHeap→Prop,∀ fr υ',J2 fr υ'↔∃ own,fr=[(0,.ptr mid 0 0),(1,.ref t.av),(5,.ptr σ.next 0 0),(6,.ptr (σ.next+1) 0 0),(8,.ptr id 0 0),(9,.ptr υ.next 0 0)]∧Grows υ υ'∧υ'.get υ.next=some (.cells 2 [envC own])∧υ.next < υ'.next∧opens e f.env t.rhos f.rsl=some own:=⟨_,fun _ _=>Iff.rfl⟩
      refine seqW_by J2 ?_ ?_
      · refine loopW_by (fun p:Nat × En=>[(0,.ptr mid 0 0),(1,.ref t.av),(5,.ptr σ.next 0 0),(6,.ptr (σ.next+1) 0 0),(8,.ptr id 0 0),(9,.ptr υ.next 0 0),(58,.sl false 1 (t.rhos.map fun r=>[At.int r])),(59,int t.rhos.length),(60,int p.1)])
          (fun p υ'=>Grows υ υ'∧υ'.get υ.next=some (.cells 2 [envC p.2])∧υ.next < υ'.next∧p.1≤t.rhos.length∧opens e p.2 (t.rhos.drop p.1) (f.rsl.drop p.1)=opens e f.env t.rhos f.rsl)
          (fun fr _=>t.rhos.length - (intOf (look fr 60)).toNat) (0,f.env) (by simp) ⟨(Grows.new _ _).set (Nat.le_refl _) _,by simp,by simp,by simp,rfl⟩ ?_
        rintro ⟨i,own⟩ υ' ⟨hu,hu1,hu2,hil,ho⟩
        simp only at hu1 hil ho
        by_cases hlt:i < t.rhos.length
        · obtain ⟨r,hr'⟩:∃ r,t.rhos[i]?=some r:=⟨_,List.getElem?_eq_getElem hlt⟩
          obtain ⟨q,hq'⟩:∃ q,f.rsl[i]?=some q:=⟨_,List.getElem?_eq_getElem (by omega)⟩
          have hd1:t.rhos.drop i=r :: t.rhos.drop (i+1):=by rw [List.drop_eq_getElem_cons hlt];congr 1;exact Option.some.inj ((List.getElem?_eq_getElem hlt).symm.trans hr')
          have hd2:f.rsl.drop i=q :: f.rsl.drop (i+1):=by
            have hl2:i < f.rsl.length:=by omega
            rw [List.drop_eq_getElem_cons hl2];congr 1;exact Option.some.inj ((List.getElem?_eq_getElem hl2).symm.trans hq')
          rw [hd1,hd2] at ho
          simp only [opens] at ho
          have u0:υ'.get σ.next=some (.cells 2 [envC e]):=by rw [hu.get _ (by omega)];exact w0
          have u8':υ'.get id=some (.cells 5 [f.av]):=by rw [hu.get _ (by omega)];exact q4
          have hre:t.rhos[i]'hlt=r:=Option.some.inj ((List.getElem?_eq_getElem hlt).symm.trans hr')
          simp [hlt,aIndexAddr_sl,hre,u0,List.take_of_length_le (Nat.le_of_eq (envC_len e))]
          refine region_ev ?_
          simp
          refine must_ev (fun h4=>?_) (fun h4=>?_)
          rotate_left
          · rw [if_neg (by simp [h4])] at ho
            rw [← ho] at hr
            exact hr _ T k (hgo _ hu).1 (hgo _ hu).2
          rw [if_pos h4] at ho
          simp [hu1,u8',fa4,rs_at (rs:=f.rs) (i:=i) hq',List.take_of_length_le (Nat.le_of_eq (envC_len own))]
          refine open_ev ?_
          simp [hu1,List.drop_of_length_le (Nat.le_of_eq (envC_len own))]
          rw [wrap64 (by omega)]
          exact ⟨⟨i+1,by simp,hu.set (Nat.le_refl _) _,own.opn q (e.region r).1,rfl,hu2,by omega,ho⟩,by omega⟩
        · have:i=t.rhos.length:=by omega
          subst this
          simp at ho
          simp
          exact (hJ2 _ _).2 ⟨own,rfl,hu,hu1,hu2,by rw [← ho];rfl⟩
      · intro fr υ' hj2
        obtain ⟨own,rfl,p1,p2,p3,p4⟩:=(hJ2 fr υ').1 hj2
        rw [p4] at hr
        simp only [code] at hr
        have u0:υ'.get σ.next=some (.cells 2 [envC e]):=by rw [p1.get _ (by omega)];exact w0
        have u1:υ'.get (σ.next+1)=some (.cells 4 [zV4]):=by rw [p1.get _ (by omega)];exact w1
        have u8':υ'.get id=some (.cells 5 [f.av]):=by rw [p1.get _ (by omega)];exact q4
        have fa0:f.av.head?=some (.ref f.body.av):=rfl
        have fa1:f.av[1]?=some (str f.arg):=rfl
        simp [u0,u8',fa0,fa1,p2]
        refine coded_ev (hgo _ p1).1 b (c:=⟨f.body,f.arg,own,none⟩) fun τ2 T2 hm2 hk2=>?_
        have y0:=hk2.get σ.next (by have:=p1.next;omega) (z _ (by omega))
        have y1:=hk2.get (σ.next+1) (by have:=p1.next;omega) (z _ (by omega))
        simp [y0.2,y1.2,u0,u1,List.take_of_length_le (Nat.le_of_eq (envC_len e))]
        refine make_ev hm2 b.Ok ?_
        have kk:=(hgo _ p1).2.trans hk2
        cases hmk:make (coded s ⟨f.body,f.arg,own,none⟩).2 e t.rho (coded s ⟨f.body,f.arg,own,none⟩).1 with
        | over s' o =>
          rw [hmk] at hr
          intro τ3 T3 k' hm3 hk3
          exact hr τ3 T3 k' hm3 (kk.trans hk3)
        | ok v s' =>
          rw [hmk] at hr
          intro τ3 T3 hm3 hk3
          have x1:=hk3.get (σ.next+1) (by have:=p1.next;have:=hk2.next;omega) y1.1
          simp [x1.2,y1.2,u1,List.take_of_length_le (Nat.le_of_eq v.av_len)]
          have l:Loc σ.next T3 τ3 (τ3.set (σ.next+1) (.cells 4 [v.av])):=Loc.set (.refl _ _ _) (.inr ⟨by omega,x1.1⟩)
          exact hr _ T3 (hm3.loc l) ((kk.trans hk3).loc l)
end Go.Abs.Mac
namespace Go.Abs.Mac
open Go Go.Abs Go.Abs.Stk Go.Abs.At Go.Proofs.MacD
variable {σ τ:AHeap} {mid sid fuel:Nat} {cv fv:AV} {vv:List AV} {T:Nat→Nat} {s:Sa} {k:List Fr} {K kp:AV→AHeap→Prop}
abbrev zNx:List AV:=[.val (.pointer none),.val (.pointer none),.val (.pointer none),.val (.int .u8 0),.val (.int .i64 0),.val (.int .i64 0),.val (.int .i64 0),.val (.bool false),.val (.string ByteArray.empty)]
theorem vals_at {q n:Nat} {els:List (List AV)} {υ:AHeap} (h:υ.get q=some (.cells 4 els)) {i:Nat} {v:V} (he:els[i]?=some v.av) (hn:i < n):aIndexAddr 4 (.own q n) (.val (.int .i64 i)) υ=some (.ptr q i 0):=by
  rw [aIndexAddr_own,if_pos (by omega),Int.toNat_natCast,elAt_cells h,he];simp
@[simp] theorem Nx.av_node (t:AT) (e:En):Nx.av (.node t e)=.agg [.ref t.av,namesV e.names,rhoV e.rhos,u8 0,int 0,int 0,int 0,bool false,str ByteArray.empty]:=rfl
@[simp] theorem Nx.av_val (v:V):Nx.av (.val v)=.agg [nilP,nilP,nilP,u8 v.kind,int v.n,int v.r,int v.a,bool false,str ByteArray.empty]:=rfl
@[simp] theorem Nx.av_exn (n:Int) (x:ByteArray):Nx.av (.exn n x)=.agg [nilP,nilP,nilP,u8 1,int n,int 0,int 0,bool true,str x]:=rfl
theorem rule_ev {f:Fr} {v:AV} (h:MA σ mid T fuel s k) (b:Bnd fuel s k) (hi:IdxOk s) (hkd:3≤f.t.h.kind∧f.t.h.kind≤10∨f.t.h.kind=15) (hl:f.vals.length=nk f.t.h.kind) (hv:RowA σ T 0 4 v (f.vals.map V.av)) (hvq:∀ q n,v=.own q n→q < σ.next)
    (hr:After mid fuel T σ k Nx.av K kp (rule s f.t f.e f.vals)):Ev PR 94 [.ptr mid 0 0,.agg (frC f v)] σ K kp:=by
  obtain ⟨t,e,vals⟩:=f
  simp only at hkd hl hv hr
  have h0:0 < vals.length:=by rw [hl];exact nk_pos (by omega)
  obtain ⟨q,rest,hvo,hq0,hq1⟩:∃ q rest,v=.own q vals.length∧σ.get q=some (.cells 4 (vals.map V.av ++ rest))∧T q=0:=by
    rcases hv with ⟨_,h2⟩ | ⟨q,rest,h1,h2,h3⟩
    · have:=congrArg List.length h2;simp at this;rw [this] at h0;simp at h0
    · exact ⟨q,rest,by rw [h1];simp,h2,h3⟩
  have hql:=hvq q _ hvo
  subst hvo
  obtain ⟨a,ha⟩:∃ a,vals[0]?=some a:=⟨_,List.getElem?_eq_getElem h0⟩
  have a0:at0 vals 0=a:=by unfold at0;rw [ha];rfl
  apply F94_ev;unfold F94
  simp [Nat.add_assoc,frC]
  generalize hτ:(σ.new (.cells 4 [[.ref t.av,namesV e.names,rhoV e.rhos,.own q vals.length]])).new (.cells 9 [zNx])=τ
  have hg:Grows σ τ:=by rw [← hτ];exact (Grows.new _ _).trans (Grows.new _ _)
  have hn:τ.next=σ.next+2:=by rw [← hτ];rfl
  have g0:τ.get σ.next=some (.cells 4 [[.ref t.av,namesV e.names,rhoV e.rhos,.own q vals.length]]):=by rw [← hτ];simp [get_new]
  have g1:τ.get (σ.next+1)=some (.cells 9 [zNx]):=by rw [← hτ];simp [get_new]
  have h1:=h.grows hg
  have ko:Keep T σ T τ:=Keep.grows hg
  have z:∀ i,σ.next≤i→T i=0:=fun i hi=>h.zero hi
  simp [g0]
  unfold rule at hr
  rw [a0] at hr
  have hqt:τ.get q=some (.cells 4 (vals.map V.av ++ rest)):=by rw [hg.get q hql];exact hq0
  have e0:(vals.map V.av ++ rest)[0]?=some a.av:=by rw [List.getElem?_append_left (by simpa using h0)];simp [ha]
  have A0:∀ υ:AHeap,υ.get q=τ.get q→aIndexAddr 4 (.own q vals.length) (.val (.int .i64 0)) υ=some (.ptr q 0 0):=fun υ hυ=>vals_at (i:=0) (hυ.trans hqt) e0 h0
  have A0t:=A0 τ rfl
  have hk4:∀ v:V,List.take 4 v.av=v.av:=fun v=>List.take_of_length_le (Nat.le_of_eq v.av_len)
  have kq:∀ T3 τ3,Keep T τ T3 τ3→T3 q=0∧τ3.get q=τ.get q:=fun T3 τ3 kk=>kk.get q (by omega) hq1
  have kr:∀ T3 τ3,Keep T τ T3 τ3→T3 (σ.next+1)=0∧τ3.get (σ.next+1)=some (.cells 9 [zNx]):=fun T3 τ3 kk=>by
    have:=kk.get (σ.next+1) (by omega) (z _ (by omega));rw [g1] at this;exact this
  have fin:∀ (x:Nx) (s':Sa) (τ3:AHeap) (T3:Nat→Nat) (cs:List AV),After mid fuel T σ k Nx.av K kp (.ok x s')→MA τ3 mid T3 fuel s' k→Keep T τ T3 τ3→K x.av (τ3.set (σ.next+1) (.cells 9 [cs])):=by
    intro x s' τ3 T3 cs hr hm kk
    have l:Loc σ.next T3 τ3 (τ3.set (σ.next+1) (.cells 9 [cs])):=Loc.set (.refl _ _ _) (.inr ⟨by omega,(kr T3 τ3 kk).1⟩)
    exact hr _ T3 (hm.loc l) ((ko.trans kk).loc l)
  have tk:∀ {kd:Int} {Q:AV→AHeap→Prop} {τ2:AHeap} {g:Cl→Sa→Re Nx},After mid fuel T σ k Nx.av K kp ((take s a kd).bind g)→(∀ c,take s a kd=.ok c s→After mid fuel T σ k Nx.av K kp (g c s)→∀ τ1,Grows τ τ1→Q (.agg c.av) τ1)→Ev PR 123 [.ptr mid 0 0,.agg a.av,u8 kd] τ Q kp:=by
    intro kd Q τ2 g hr2 hq
    refine take_ev h1 (v:=a) ?_
    cases ht:take s a kd with
    | over s' o =>
      rw [ht] at hr2
      have hs':s'=s:=by have:=take_same (s:=s) (v:=a) (k:=kd) (p:=fun x=>x=s) rfl;rw [ht] at this;exact this
      rw [hs'] at hr2
      intro τ1 h4
      exact hr2 τ1 T k (h1.grows h4) (ko.trans (Keep.grows h4))
    | ok c s' =>
      have hs':=(take_ok ht).1
      rw [ht] at hr2
      rw [hs'] at hr2 ht
      exact fun τ1 h4=>hq c ht hr2 τ1 h4
  by_cases k3:t.h.kind=3
  · obtain ⟨b',hb'⟩:∃ b,vals[1]?=some b:=⟨_,List.getElem?_eq_getElem (by rw [hl,k3];simp [nk])⟩
    have b0:at0 vals 1=b':=by unfold at0;rw [hb'];rfl
    have h2:=(List.getElem?_eq_some_iff.1 hb').1
    have e1:(vals.map V.av ++ rest)[1]?=some b'.av:=by rw [List.getElem?_append_left (by simpa using h2)];simp [hb']
    have A1t:aIndexAddr 4 (.own q vals.length) (.val (.int .i64 1)) τ=some (.ptr q 1 0):=vals_at (i:=1) hqt e1 h2
    rw [if_pos k3,b0] at hr
    simp [k3,A0t,A1t,hqt,e0,e1,hk4]
    refine make_ev h1 b.Ok (c:=⟨1,a,b',0⟩) ?_
    cases hm:make s e t.rho ⟨1,a,b',0⟩ with
    | over s' o =>
      rw [hm] at hr
      intro τ3 T3 k' hm3 hk3
      exact hr τ3 T3 k' hm3 (ko.trans hk3)
    | ok w s' =>
      rw [hm] at hr
      intro τ3 T3 hm3 hk3
      refine back_ev ?_
      simp [(kr _ _ hk3).2]
      exact fin (.val w) s' τ3 T3 _ hr hm3 hk3
  rw [if_neg k3] at hr
  have vf:∀ w:V,AV.agg [u8 w.kind,int w.n,int w.r,int w.a]=vV w:=fun _=>rfl
  by_cases k4:t.h.kind=4
  · rw [if_pos k4] at hr
    simp [k4,A0t,hqt,e0,hk4]
    refine tk (τ2:=τ) hr fun c ht hr2 τ1 h4=>?_
    have:(c.av.drop 1).take 4=c.a.av:=rfl
    simp [this]
    refine back_ev ?_
    have kk:=Keep.grows (T:=T) h4
    simp [(kr _ _ kk).2]
    exact fin (.val c.a) s τ1 T _ hr2 (h1.grows h4) kk
  rw [if_neg k4] at hr
  by_cases k5:t.h.kind=5
  · rw [if_pos k5] at hr
    simp [k5,A0t,hqt,e0,hk4]
    refine tk (τ2:=τ) hr fun c ht hr2 τ1 h4=>?_
    have:(c.av.drop 5).take 4=c.b.av:=rfl
    simp [this]
    refine back_ev ?_
    have kk:=Keep.grows (T:=T) h4
    simp [(kr _ _ kk).2]
    exact fin (.val c.b) s τ1 T _ hr2 (h1.grows h4) kk
  rw [if_neg k5] at hr
  by_cases k6:t.h.kind=6
  · rw [if_pos k6] at hr
    simp [k6,A0t,hqt,e0,hk4]
    refine make_ev h1 b.Ok (c:=⟨2,a,V.zero,0⟩) ?_
    cases hm:make s e t.rho ⟨2,a,V.zero,0⟩ with
    | over s' o =>
      rw [hm] at hr
      intro τ3 T3 k' hm3 hk3
      exact hr τ3 T3 k' hm3 (ko.trans hk3)
    | ok w s' =>
      rw [hm] at hr
      intro τ3 T3 hm3 hk3
      refine back_ev ?_
      simp [(kr _ _ hk3).2]
      exact fin (.val w) s' τ3 T3 _ hr hm3 hk3
  rw [if_neg k6] at hr
  by_cases k7:t.h.kind=7
  · rw [if_pos k7] at hr
    simp [k7,A0t,hqt,e0,hk4]
    refine tk (τ2:=τ) hr fun c ht hr2 τ1 h4=>?_
    have:(c.av.drop 1).take 4=c.a.av:=rfl
    simp [this]
    refine back_ev ?_
    have kk:=Keep.grows (T:=T) h4
    simp [(kr _ _ kk).2]
    exact fin (.val c.a) s τ1 T _ hr2 (h1.grows h4) kk
  rw [if_neg k7] at hr
  by_cases k8:t.h.kind=8
  · obtain ⟨b',hb'⟩:∃ b,vals[1]?=some b:=⟨_,List.getElem?_eq_getElem (by rw [hl,k8];simp [nk])⟩
    have b0:at0 vals 1=b':=by unfold at0;rw [hb'];rfl
    have h2:=(List.getElem?_eq_some_iff.1 hb').1
    have e1:(vals.map V.av ++ rest)[1]?=some b'.av:=by rw [List.getElem?_append_left (by simpa using h2)];simp [hb']
    rw [if_pos k8,b0] at hr
    simp [k8,A0t,hqt,e0,hk4]
    refine tk (τ2:=τ) hr fun c ht hr2 τ1 h4=>?_
    obtain ⟨sid,cv,fv,vv,hx⟩:=h1.grows h4
    have hqu:τ1.get q=some (.cells 4 (vals.map V.av ++ rest)):=by rw [h4.get q (by omega)];exact hqt
    have A1u:aIndexAddr 4 (.own q vals.length) (.val (.int .i64 1)) τ1=some (.ptr q 1 0):=vals_at (i:=1) hqu e1 h2
    simp [hx.obj,A0 τ1 (h4.get q (by omega)),A1u,hqu,e0,e1,hk4]
    refine set_m hx (v:=a) (c:=⟨2,b',V.zero,0⟩) (take_ok ht).2.2.2 fun x τ3 T3 hx3 hk3=>?_
    refine num_ev (back_ev ?_)
    have kk:=(Keep.grows (T:=T) h4).trans hk3
    simp [(kr _ _ kk).2]
    exact fin (.val (num 0)) _ τ3 T3 _ hr2 ⟨_,_,_,_,hx3⟩ kk
  rw [if_neg k8] at hr
  by_cases k9:t.h.kind=9
  · obtain ⟨b',hb'⟩:∃ b,vals[1]?=some b:=⟨_,List.getElem?_eq_getElem (by rw [hl,k9];simp [nk])⟩
    have b0:at0 vals 1=b':=by unfold at0;rw [hb'];rfl
    have h2:=(List.getElem?_eq_some_iff.1 hb').1
    have e1:(vals.map V.av ++ rest)[1]?=some b'.av:=by rw [List.getElem?_append_left (by simpa using h2)];simp [hb']
    rw [if_pos k9,b0] at hr
    have A1:∀ υ:AHeap,υ.get q=τ.get q→aIndexAddr 4 (.own q vals.length) (.val (.int .i64 1)) υ=some (.ptr q 1 0):=fun υ hυ=>vals_at (i:=1) (hυ.trans hqt) e1 h2
    simp [k9,A0t,A1 τ rfl,hqt,e0,e1,hk4]
    refine number_ev (fun h3 τ1 h4=>?_) (fun h3 τ1 h4=>?_)
    rotate_left
    · have:number s a=.over s 6:=by simp [number,h3]
      rw [this] at hr
      exact hr τ1 T k (h1.grows h4) (ko.trans (Keep.grows h4))
    have e3:number s a=.ok a.n s:=by simp [number,h3]
    rw [e3] at hr
    simp only [Re.bind] at hr
    simp [A1 τ1 (h4.get q (by omega)),h4.get q (by omega),hqt,e1,hk4]
    refine number_ev (fun h5 τ2 h6=>?_) (fun h5 τ2 h6=>?_)
    rotate_left
    · have:number s b'=.over s 6:=by simp [number,h5]
      rw [this] at hr
      exact hr τ2 T k (h1.grows (h4.trans h6)) (ko.trans (Keep.grows (h4.trans h6)))
    have e4:number s b'=.ok b'.n s:=by simp [number,h5]
    rw [e4] at hr
    refine op_ev (num_ev (back_ev ?_))
    have kk:=Keep.grows (T:=T) (h4.trans h6)
    simp [(kr _ _ kk).2]
    exact fin (.val (num _)) s τ2 T _ hr (h1.grows (h4.trans h6)) kk
  rw [if_neg k9] at hr
  by_cases k15:t.h.kind=15
  · rw [if_pos k15] at hr
    simp [k15,A0t,hqt,e0,hk4]
    refine number_ev (fun h3 τ1 h4=>?_) (fun h3 τ1 h4=>?_)
    rotate_left
    · have:number s a=.over s 6:=by simp [number,h3]
      rw [this] at hr
      exact hr τ1 T k (h1.grows h4) (ko.trans (Keep.grows h4))
    have e3:number s a=.ok a.n s:=by simp [number,h3]
    rw [e3] at hr
    refine num_ev ?_
    have kk:=Keep.grows (T:=T) h4
    simp [num,V.av,(kr _ _ kk).2]
    exact fin (.exn _ _) s τ1 T _ hr (h1.grows h4) kk
  rw [if_neg k15] at hr
  have k10:t.h.kind=10:=by omega
  obtain ⟨b',hb'⟩:∃ b,vals[1]?=some b:=⟨_,List.getElem?_eq_getElem (by rw [hl,k10];simp [nk])⟩
  have b0:at0 vals 1=b':=by unfold at0;rw [hb'];rfl
  have h2:=(List.getElem?_eq_some_iff.1 hb').1
  have e1:(vals.map V.av ++ rest)[1]?=some b'.av:=by rw [List.getElem?_append_left (by simpa using h2)];simp [hb']
  have A1:∀ υ:AHeap,υ.get q=τ.get q→aIndexAddr 4 (.own q vals.length) (.val (.int .i64 1)) υ=some (.ptr q 1 0):=fun υ hυ=>vals_at (i:=1) (hυ.trans hqt) e1 h2
  rw [b0] at hr
  simp [k10]
  obtain ⟨sid,cv,fv,vv,hx⟩:=id h1
  have hm:mid < τ.next:=hx.lt mid (by rw [hx.tm];omega)
  obtain ⟨J,hJ⟩:∃ J:AFrame→AHeap→Prop,∀ fr υ,J fr υ↔∃ (id:Nat) (f:Co) (c:Cl),fr=[(4,.ptr (σ.next+1) 0 0),(6,.own q vals.length),(7,.ptr id 0 0)]∧Grows τ υ∧τ.next≤id∧id < υ.next∧υ.get id=some (.cells 5 [f.av])∧take s a 3=.ok c s∧s.codes[c.code.toNat]?=some f:=⟨_,fun _ _=>Iff.rfl⟩
  refine seqW_by J ?_ ?_
  · simp [hx.obj,A0t,hqt,e0,hk4]
    refine ⟨?_,?_⟩
    · refine tk (τ2:=τ) hr fun c ht _ τ1 h4=>?_
      have hx1:=hx.grows h4
      have hm1:=h4.next
      obtain ⟨f,hf',hcd⟩:=hi.code ht
      obtain ⟨q',els,a3,a2,a4,A⟩:=hx1.codeAt' hf'
      rw [← hcd] at A
      have hch:c.av[9]?=some (int c.code):=rfl
      have ql:=hx1.lt q' (by omega)
      have B1:=A τ1 rfl
      have B2:=A (τ1.new (.cells 5 [zCo])) (by rw [get_new,if_neg (by omega)])
      have C1:(τ1.new (.cells 5 [zCo])).get q=τ.get q:=by rw [get_new,if_neg (by omega)];exact h4.get q (by omega)
      have C2:=A0 _ C1
      have C3:τ1.get q=some (.cells 4 (vals.map V.av ++ rest)):=by rw [h4.get q (by omega)];exact hqt
      simp [hx1.obj,hch,B1,B2,C2,C3,a2,a4,e0,hk4,get_new,show mid ≠ τ1.next by omega,show q' ≠ τ1.next by omega,show q ≠ τ1.next by omega,List.take_of_length_le (Nat.le_of_eq f.av_len)]
      exact (hJ _ _).2 ⟨τ1.next,f,c,rfl,(h4.trans (Grows.new _ _)).set (by omega) _,by omega,by simp,by simp,ht,hf'⟩
    · have hgn:=Grows.new τ (.cells 5 [zCo])
      have C1:(τ.new (.cells 5 [zCo])).get q=τ.get q:=by rw [get_new,if_neg (by omega)]
      simp [get_new,show mid ≠ τ.next by omega,hx.obj,A0 _ C1,hqt,show q ≠ τ.next by omega,e0,hk4]
      refine take_ev (h1.grows hgn) (v:=a) ?_
      cases ht:take s a 3 with
      | over s' o =>
        rw [ht] at hr
        intro τ1 h4
        have hs':s'=s:=by have:=take_same (s:=s) (v:=a) (k:=3) (p:=fun x=>x=s) rfl;rw [ht] at this;exact this
        rw [hs'] at hr
        exact hr τ1 T k (h1.grows (hgn.trans h4)) (ko.trans (Keep.grows (hgn.trans h4)))
      | ok c s' =>
        have hs':=(take_ok ht).1
        rw [hs'] at ht
        intro τ1 h4
        have hx1:=hx.grows (hgn.trans h4)
        have hm1:τ.next+1≤τ1.next:=h4.next
        obtain ⟨f,hf',hcd⟩:=hi.code ht
        obtain ⟨q',els,a3,a2,a4,A⟩:=hx1.codeAt' hf'
        rw [← hcd] at A
        have hch:c.av[9]?=some (int c.code):=rfl
        have B1:=A τ1 rfl
        have gz:τ1.get τ.next=some (.cells 5 [zCo]):=by rw [h4.get τ.next (Nat.lt_succ_self _)];simp
        simp [hx1.obj,hch,B1,a2,a4,gz,List.take_of_length_le (Nat.le_of_eq f.av_len)]
        exact (hJ _ _).2 ⟨τ.next,f,c,rfl,(hgn.trans h4).set (Nat.le_refl _) _,Nat.le_refl _,by simp;omega,by simp,ht,hf'⟩
  · intro fr υ hj
    obtain ⟨id,f,c,rfl,q1,q2,q3,q4,q5,q6⟩:=(hJ fr υ).1 hj
    rw [q5] at hr
    simp only [Re.bind,q6] at hr
    have hun:=q1.next
    have fa0:f.av.head?=some (.ref f.body.av):=rfl
    have fa1:f.av[1]?=some (str f.arg):=rfl
    have fa2:(f.av.drop 2).take 2=envC f.env:=rfl
    have C3:υ.get q=some (.cells 4 (vals.map V.av ++ rest)):=by rw [q1.get q (by omega)];exact hqt
    simp [q4,fa0,fa1,fa2,A1 υ (q1.get q (by omega)),C3,e1,hk4]
    refine with_ev ?_
    have kk:=Keep.grows (T:=T) q1
    simp [q4,fa0,(kr _ _ kk).2,envC]
    exact fin (.node f.body (f.env.with f.arg b' false)) s υ T _ hr (h1.grows q1) kk
end Go.Abs.Mac
namespace Go.Abs.Mac
open Go Go.Abs Go.Abs.Stk Go.Abs.At Go.Proofs.MacD
variable {σ τ:AHeap} {mid sid fuel:Nat} {cv fv:AV} {vv:List AV} {T:Nat→Nat} {s:Sa} {k:List Fr} {K kp:AV→AHeap→Prop}
def flen (mid:Nat) (σ:AHeap):Nat :=
  match σ.get mid with
  | some (.cells _ [[_,_,_,_,.own _ n]])=>n
  | _=>0
theorem MX.flen (h:MX σ mid sid cv fv vv T fuel s k):flen mid σ=k.length:=by
  unfold Mac.flen
  rw [h.obj]
  have hl:=frs_len h.vals
  rcases h.frames with ⟨rfl,h2⟩ | ⟨q,rest,rfl,_⟩
  · rw [h2] at hl;simpa using hl
  · simpa using hl
theorem MA.flen (h:MA σ mid T fuel s k):Mac.flen mid σ=k.length:=let ⟨_,_,_,_,h⟩:=h;h.flen
def AfterG (mid fuel:Nat) (T:Nat→Nat) (σ:AHeap) (K kp:AV→AHeap→Prop):Go→Prop
  | .on m=>∀ τ T',MA τ mid T' fuel m.s m.k→Keep T σ T' τ→K m.x.av τ
  | .end_ s kd _ _ _=>∀ τ T' k',MA τ mid T' fuel s k'→Keep T σ T' τ→kp (.iface 102 (.agg [u8 kd])) τ
def AfterR (mid fuel:Nat) (T:Nat→Nat) (σ:AHeap) (n:Int) (x:ByteArray) (K:AV→AHeap→Prop):Go→Prop
  | .on m=>∀ τ T',MA τ mid T' fuel m.s m.k→Keep T σ T' τ→K (.tup [m.x.av,bool true]) τ
  | .end_ s _ _ _ _=>∀ τ T' k',MA τ mid T' fuel s k'→Keep T σ T' τ→K (.tup [Nx.av (.exn n x),bool false]) τ
theorem Bnd.pop {fuel s f k} (b:Bnd fuel s (f :: k)):Bnd fuel s k:=⟨b.ok,b.len,b.codes,by have:=b.k;simp at this;omega,b.fuel⟩
theorem Bnd.popS {fuel s k} (b:Bnd fuel s k):Bnd fuel { s with store:=popS s.store } k:=⟨b.ok.pop,by rw [popS_len];exact b.len,b.codes,b.k,b.fuel⟩
theorem raise_ev {n:Int} {x:ByteArray} (h:MA σ mid T fuel s k) (b:Bnd fuel s k) (hfr:∀ f ∈ k,FrOk f) (hr:AfterR mid fuel T σ n x K (raise s n x k)):Ev PR 44 [.ptr mid 0 0,Nx.av (.exn n x)] σ K kp:=by
  apply F44_ev;unfold F44
  simp [Nat.add_assoc]
  generalize hxc:[nilP,nilP,nilP,u8 1,int n,int 0,int 0,bool true,str x]=xc
  generalize hτ:(σ.new (.cells 9 [xc])).new (.cells 9 [zNx])=τ
  have hg:Grows σ τ:=by rw [← hτ];exact (Grows.new _ _).trans (Grows.new _ _)
  have hn:τ.next=σ.next+2:=by rw [← hτ];rfl
  have g0:τ.get σ.next=some (.cells 9 [xc]):=by rw [← hτ];simp [get_new]
  have g1:τ.get (σ.next+1)=some (.cells 9 [zNx]):=by rw [← hτ];simp [get_new]
  have h1:=h.grows hg
  have ko:Keep T σ T τ:=Keep.grows hg
  have z:∀ i,σ.next≤i→T i=0:=fun i hi=>h.zero hi
  have kr:∀ T3 τ3,Keep T τ T3 τ3→T3 σ.next=0∧τ3.get σ.next=some (.cells 9 [xc])∧T3 (σ.next+1)=0∧τ3.get (σ.next+1)=some (.cells 9 [zNx]):=fun T3 τ3 kk=>by
    have a:=kk.get σ.next (by omega) (z _ (by omega));rw [g0] at a
    have b:=kk.get (σ.next+1) (by omega) (z _ (by omega));rw [g1] at b
    exact ⟨a.1,a.2,b.1,b.2⟩
  have xl:xc.length=9:=by rw [← hxc];rfl
  obtain ⟨J,hJ⟩:∃ J:AFrame→AHeap→Prop,∀ fr υ,J fr υ↔∃ T3 s3 ,fr=[(3,.ptr σ.next 0 0),(4,.ptr (σ.next+1) 0 0)]∧MA υ mid T3 fuel s3 []∧Keep T τ T3 υ∧raise s n x k=.end_ s3 2 false n x:=⟨_,fun _ _=>Iff.rfl⟩
  refine seqW_by J ?_ ?_
  · refine loopW_by (fun _:List Fr × Sa × (Nat→Nat)=>[(0,.ptr mid 0 0),(3,.ptr σ.next 0 0),(4,.ptr (σ.next+1) 0 0)]) (fun p υ=>MA υ mid p.2.2 fuel p.2.1 p.1∧Keep T τ p.2.2 υ∧Bnd fuel p.2.1 p.1∧(∀ f ∈ p.1,FrOk f)∧raise p.2.1 n x p.1=raise s n x k)
      (fun _ υ=>flen mid υ) (k,s,T) rfl ⟨h1,Keep.refl _ _,b,hfr,rfl⟩ ?_
    rintro ⟨k',s',T'⟩ υ ⟨hm,kk,b',hfr',hrr⟩
    simp only at hm kk b' hfr' hrr
    have hfl:=hm.flen
    obtain ⟨sid,cv,fv,vv,hx⟩:=id hm
    simp [hx.obj]
    cases k' with
    | nil =>
      have hfv:aLenK .slice fv υ=some (int 0):=by
        have hl:=frs_len hx.vals
        rcases hx.frames with ⟨rfl,_⟩ | ⟨q,rest,rfl,_⟩
        · rfl
        · rw [hl];rfl
      simp [hfv]
      exact (hJ _ _).2 ⟨T',s',rfl,hm,kk,by rw [← hrr];rfl⟩
    | cons f k' =>
      obtain ⟨fid,rest,v,vv',rfl,hfv,hfg,hft,hl⟩:=hx.top
      have hlen:aLenK .slice fv υ=some (int ((k'.length+1:Nat):Int)):=by rw [hfv];rfl
      have hpos:(0:Int) < (k'.length:Int)+1:=by omega
      simp [hlen,hpos]
      refine pop_frame_ev hm b' fun τ1 T1 v1 hm1 hk1 hv1 hvq1=>?_
      have hfl1:=hm1.flen
      have kk1:=kk.trans hk1
      have fcl:(frC f v1).length=4:=rfl
      have fc0:(frC f v1)[0]?=some (.ref f.t.av):=rfl
      have fch:(frC f v1).head?=some (.ref f.t.av):=rfl
      have fc1:((frC f v1).drop 1).take 2=envC f.e:=rfl
      have fok:=hfr' f (by simp)
      have z1:=hm1.zero (Nat.le_refl _)
      simp [List.take_of_length_le (Nat.le_of_eq fcl),fcl,List.drop_of_length_le (Nat.le_of_eq (show ([AV.val (Value.pointer none),AV.val (Value.pointer none),AV.val (Value.pointer none),AV.val (Value.slice none 0 0)]:List AV).length=4 from rfl))]
      generalize hτ2:(τ1.new (.cells 4 [[.val (.pointer none),.val (.pointer none),.val (.pointer none),.val (.slice none 0 0)]])).set τ1.next (.cells 4 [frC f v1])=τ2
      have hn1:τ.next≤τ1.next:=kk1.next
      have l2:Loc τ.next T1 τ1 τ2:=by rw [← hτ2];exact (Loc.new (.refl _ _ _) _).set (.inl (Nat.le_refl _))
      have n2:τ2.next=τ1.next+1:=by rw [← hτ2];rfl
      have g2:τ2.get τ1.next=some (.cells 4 [frC f v1]):=by rw [← hτ2];simp
      have hm2:=hm1.loc l2
      have kk2:=kk1.loc l2
      have z2:T1 τ1.next=0:=z1
      obtain ⟨J2,hJ2⟩:∃ J2:AFrame→AHeap→Prop,∀ fr υ,J2 fr υ↔∃ T3,fr=[(0,.ptr mid 0 0),(3,.ptr σ.next 0 0),(4,.ptr (σ.next+1) 0 0),(6,.ptr τ1.next 0 0)]∧MA υ mid T3 fuel (if f.t.h.kind=17 then { s' with store:=Mac.popS s'.store } else s') k'∧Keep T τ T3 υ∧υ.get τ1.next=some (.cells 4 [frC f v1]):=⟨_,fun _ _=>Iff.rfl⟩
      refine seqW_by J2 ?_ ?_
      · simp [g2,fch]
        by_cases h17:f.t.h.kind=17
        · obtain ⟨sid,cv,fv,vv,hx2⟩:=hm2
          simp [h17,hx2.obj]
          refine pop_m hx2 b'.pop.Ok fun y τ3 T3 hx3 hk3=>?_
          refine (hJ2 _ _).2 ⟨T3,rfl,?_,kk2.trans hk3,?_⟩
          · rw [if_pos h17];exact ⟨_,_,_,_,hx3⟩
          · rw [(hk3.get τ1.next (by omega) z2).2];exact g2
        · simp [h17]
          refine (hJ2 _ _).2 ⟨T1,rfl,?_,kk2,g2⟩
          rw [if_neg h17];exact hm2
      · intro fr υ2 hj2
        obtain ⟨T3,rfl,hm3,kk3,g3⟩:=(hJ2 fr υ2).1 hj2
        obtain ⟨c1,c2,c3,c4⟩:=kr _ _ kk3
        have hrr2:raise s n x k=if f.t.h.kind=16∧f.t.h.exn=x then Go.on ⟨.node (kidAt f.t 1) (f.e.with f.t.h.arg (num n) false),if f.t.h.kind=17 then { s' with store:=Mac.popS s'.store } else s',k'⟩ else raise (if f.t.h.kind=17 then { s' with store:=Mac.popS s'.store } else s') n x k':=by rw [← hrr];rfl
        have hb3:Bnd fuel (if f.t.h.kind=17 then { s' with store:=Mac.popS s'.store } else s') k':=by split;exact b'.pop.popS;exact b'.pop
        have hfl3:=hm3.flen
        have fin:¬ (f.t.h.kind=16∧f.t.h.exn=x)→(∃ p:List Fr × Sa × (Nat→Nat),[(0,AV.ptr mid 0 0),(3,AV.ptr σ.next 0 0),(4,AV.ptr (σ.next+1) 0 0)]=[(0,AV.ptr mid 0 0),(3,AV.ptr σ.next 0 0),(4,AV.ptr (σ.next+1) 0 0)]∧MA υ2 mid p.2.2 fuel p.2.1 p.1∧Keep T τ p.2.2 υ2∧Bnd fuel p.2.1 p.1∧(∀ f ∈ p.1,FrOk f)∧raise p.2.1 n x p.1=raise s n x k)∧Mac.flen mid υ2 < Mac.flen mid υ:=by
          intro hne
          rw [if_neg hne] at hrr2
          refine ⟨⟨(k',_,T3),rfl,hm3,kk3,hb3,fun f hf=>hfr' f (by simp [hf]),hrr2.symm⟩,?_⟩
          rw [hfl3,hfl];simp
        have x8:xc[8]?=some (str x):=by rw [← hxc];rfl
        have x3:(xc.drop 3).take 4=(num n).av:=by rw [← hxc];rfl
        have xl7:4≤xc.length - 3:=by omega
        simp [g3,fch]
        by_cases h16:f.t.h.kind=16
        · simp [h16,g3,fch,c2,x8]
          by_cases hex:f.t.h.exn=x
          · rw [if_pos ⟨h16,hex⟩] at hrr2
            have hk2:1 < f.t.kids.length:=by rw [fok.wf.len,h16];simp [nk]
            rw [hrr2] at hr
            have fct:(frC f v1).tail.take 2=envC f.e:=rfl
            simp [hex,g3,fch,fct,fcl,c2,x3,xl,kid_addr1 hk2]
            refine with_ev ?_
            simp [g3,fch,kid_addr1 hk2,c4,envC]
            have l:Loc σ.next T3 υ2 (υ2.set (σ.next+1) (.cells 9 [[.ref (kidAt f.t 1).av,namesV (f.e.with f.t.h.arg (num n) false).names,rhoV (f.e.with f.t.h.arg (num n) false).rhos,.val (.int .u8 0),.val (.int .i64 0),.val (.int .i64 0),.val (.int .i64 0),.val (.bool false),.val (.string ByteArray.empty)]])):=Loc.set (.refl _ _ _) (.inr ⟨by omega,c3⟩)
            have:=hr _ T3 (hm3.loc l) ((ko.trans kk3).loc l)
            simpa [Nx.av_node] using this
          · simp [hex]
            obtain ⟨⟨p,_,hp⟩,hlt⟩:=fin (fun h=>hex h.2)
            exact ⟨⟨p.1,p.2.1,p.2.2,hp⟩,hlt⟩
        · simp [h16]
          obtain ⟨⟨p,_,hp⟩,hlt⟩:=fin (fun h=>h16 h.1)
          exact ⟨⟨p.1,p.2.1,p.2.2,hp⟩,hlt⟩
  · intro fr υ hj
    obtain ⟨T3,s3,rfl,hm,kk,he⟩:=(hJ fr υ).1 hj
    rw [he] at hr
    obtain ⟨c1,c2,c3,c4⟩:=kr _ _ kk
    simp [c2,c4,xl,List.take_of_length_le (Nat.le_of_eq xl),List.drop_of_length_le (Nat.le_of_eq xl)]
    have l:Loc σ.next T3 υ (υ.set (σ.next+1) (.cells 9 [xc])):=Loc.set (.refl _ _ _) (.inr ⟨by omega,c3⟩)
    have:=hr _ T3 [] (hm.loc l) ((ko.trans kk).loc l)
    rw [Nx.av_exn,hxc] at this
    exact this
end Go.Abs.Mac
namespace Go.Abs.Mac
open Go Go.Abs Go.Abs.Stk Go.Abs.At Go.Proofs.MacD
variable {σ τ:AHeap} {mid sid fuel:Nat} {cv fv:AV} {vv:List AV} {T:Nat→Nat} {s:Sa} {k:List Fr} {K kp:AV→AHeap→Prop}
theorem set_mid {α:Type} (A B:List α) (x y:α) {n:Nat} (hn:A.length=n):(A ++ x :: B).set n y=A ++ y :: B:=by
  subst hn
  rw [List.set_append_right _ _ (Nat.le_refl _)];simp
theorem get_mid {α:Type} (A B:List α) (x:α) {n:Nat} (hn:A.length=n):(A ++ x :: B)[n]?=some x:=by
  subst hn
  rw [List.getElem?_append_right (Nat.le_refl _)];simp
theorem give_ev {f:Fr} {v:V} (h:MA σ mid T fuel s (f :: k)) (b:Bnd fuel s (f :: k)) (hi:IdxOk s) (fok:FrOk f) (hwk:¬ isLeaf f.t.h.kind∧f.t.h.kind ≠ 13) (hr:AfterG mid fuel T σ K kp (give s k f v)):Ev PR 48 [.ptr mid 0 0,vV v] σ K kp:=by
  apply F48_ev;unfold F48
  simp [Nat.add_assoc]
  generalize hτ:(σ.new (.cells 4 [v.av])).new (.cells 9 [zNx])=τ
  have hg:Grows σ τ:=by rw [← hτ];exact (Grows.new _ _).trans (Grows.new _ _)
  have hn:τ.next=σ.next+2:=by rw [← hτ];rfl
  have g0:τ.get σ.next=some (.cells 4 [v.av]):=by rw [← hτ];simp [get_new]
  have g1:τ.get (σ.next+1)=some (.cells 9 [zNx]):=by rw [← hτ];simp [get_new]
  have h1:=h.grows hg
  have ko:Keep T σ T τ:=Keep.grows hg
  have z:∀ i,σ.next≤i→T i=0:=fun i hi=>h.zero hi
  have hk4:∀ v:V,List.take 4 v.av=v.av:=fun v=>List.take_of_length_le (Nat.le_of_eq v.av_len)
  obtain ⟨sid,cv,fv,vv,hx⟩:=id h1
  obtain ⟨fid,rest,v1,vv',rfl,hfv,hfg,hft,hl⟩:=hx.top
  refine top_ev hx b rfl hfv hfg ?_
  have hbv:=fok.vals
  have hkl:f.t.kids.length≤3:=by rw [fok.wf.len];unfold nk;split;omega;split;omega;split <;> omega
  have gm:(frs k vv' ++ frC f v1 :: rest)[k.length]?=some (frC f v1):=get_mid _ _ _ hl
  have fc3:(frC f v1)[3]?=some v1:=rfl
  simp [hfg,gm,fc3,g0,hk4]
  refine stepK_of (hx.vals.1.append (by':=32) v.av (by simp;omega)) ?_
  have gg:∀ i,T i ≠ 5+k.length→(gone v1 τ).get i=τ.get i:=fun i hi=>hx.vals.1.gone_get hi
  have hfl:fid < τ.next:=hx.lt fid (by omega)
  obtain ⟨p1,p2⟩:=hx.pushV v hfv hfg hft (υ:=((gone v1 τ).new (.cells 4 (f.vals.map V.av ++ [v.av]))).set fid (.cells 4 (frs k vv' ++ frC f (.own τ.next (f.vals.length+1)) :: rest))) rfl
  have st:((frC f v1).set 3 (.own τ.next (f.vals.length+1)))=frC f (.own τ.next (f.vals.length+1)):=rfl
  have st2:(frC f v1).take 3 ++ [.own τ.next (f.vals.length+1)]=frC f (.own τ.next (f.vals.length+1)):=rfl
  have fcl:(frC f v1).length=4:=rfl
  simp [get_new,gone_next,gg fid (by omega),hfg,gm,Nat.ne_of_lt hfl,fcl,List.drop_of_length_le (Nat.le_of_eq fcl),st2,set_mid _ _ _ _ hl]
  generalize hυ:((gone v1 τ).new (.cells 4 (f.vals.map V.av ++ [v.av]))).set fid (.cells 4 (frs k vv' ++ frC f (.own τ.next (f.vals.length+1)) :: rest))=υ at *
  have gm2:(frs k vv' ++ frC f (.own τ.next (f.vals.length+1)) :: rest)[k.length]?=some (frC f (.own τ.next (f.vals.length+1))):=get_mid _ _ _ hl
  have uf:υ.get fid=some (.cells 4 (frs k vv' ++ frC f (.own τ.next (f.vals.length+1)) :: rest)):=by rw [← hυ];simp
  have fch:(frC f (.own τ.next (f.vals.length+1))).head?=some (.ref f.t.av):=rfl
  have fc3':(frC f (.own τ.next (f.vals.length+1)))[3]?=some (.own τ.next (f.vals.length+1)):=rfl
  have fct:(frC f (.own τ.next (f.vals.length+1))).tail.take 2=envC f.e:=rfl
  have fcl2:(frC f (.own τ.next (f.vals.length+1))).length=4:=rfl
  have hm:MA υ mid (tg T τ.next (5+k.length)) fuel s (⟨f.t,f.e,f.vals ++ [v]⟩ :: k):=⟨_,_,_,_,p1⟩
  generalize tg T τ.next (5+k.length)=T1 at p1 p2 hm
  have b1:Bnd fuel s (⟨f.t,f.e,f.vals ++ [v]⟩ :: k):=⟨b.ok,b.len,b.codes,b.k,b.fuel⟩
  have kr:∀ T3 τ3,Keep T τ T3 τ3→T3 σ.next=0∧τ3.get σ.next=some (.cells 4 [v.av])∧T3 (σ.next+1)=0∧τ3.get (σ.next+1)=some (.cells 9 [zNx]):=fun T3 τ3 kk=>by
    have a:=kk.get σ.next (by omega) (z _ (by omega));rw [g0] at a
    have b:=kk.get (σ.next+1) (by omega) (z _ (by omega));rw [g1] at b
    exact ⟨a.1,a.2,b.1,b.2⟩
  have fin:∀ (m:M) (υ3:AHeap) (T3:Nat→Nat) (cs:List AV),AfterG mid fuel T σ K kp (.on m)→MA υ3 mid T3 fuel m.s m.k→Keep T τ T3 υ3→K m.x.av (υ3.set (σ.next+1) (.cells 9 [cs])):=by
    intro m τ3 T3 cs hr hm kk
    have l:Loc σ.next T3 τ3 (τ3.set (σ.next+1) (.cells 9 [cs])):=Loc.set (.refl _ _ _) (.inr ⟨by omega,(kr T3 τ3 kk).2.2.1⟩)
    exact hr _ T3 (hm.loc l) ((ko.trans kk).loc l)
  have efl:∀ e:En,List.take 2 (envC e)=envC e:=fun e=>rfl
  have fc1:∀ v,((frC ⟨f.t,f.e,f.vals ++ [v]⟩ v1).drop 1).take 2=envC f.e:=fun _=>rfl
  simp [gm2,fch,uf,fc3']
  unfold give at hr
  by_cases k17:f.t.h.kind=17
  · rw [if_pos k17] at hr
    simp [k17]
    refine pop_frame_ev hm b1 fun τ2 T2 w hm2 hk2 hw hwq=>?_
    obtain ⟨sid,cv,fv,vv,hx2⟩:=hm2
    simp [hx2.obj]
    refine pop_m hx2 b1.pop.Ok fun y τ3 T3 hx3 hk3=>?_
    have kk:=(p2.trans hk2).trans hk3
    obtain ⟨c1,c2,c3,c4⟩:=kr _ _ kk
    simp [c2,hk4]
    refine back_ev ?_
    simp [c4]
    exact fin ⟨.val v,_,k⟩ τ3 T3 _ hr ⟨_,_,_,_,hx3⟩ kk
  rw [if_neg k17] at hr
  by_cases k16:f.t.h.kind=16
  · rw [if_pos k16] at hr
    simp [k16]
    refine pop_frame_ev hm b1 fun τ2 T2 w hm2 hk2 hw hwq=>?_
    have kk:=p2.trans hk2
    obtain ⟨c1,c2,c3,c4⟩:=kr _ _ kk
    simp [c2,hk4]
    refine back_ev ?_
    simp [c4]
    exact fin ⟨.val v,s,k⟩ τ2 T2 _ hr hm2 kk
  rw [if_neg k16] at hr
  by_cases k12:f.t.h.kind=12
  · have h2:1 < f.t.kids.length:=by rw [fok.wf.len,k12];simp [nk]
    rw [if_pos k12] at hr
    simp [k12]
    refine pop_frame_ev hm b1 fun τ2 T2 w hm2 hk2 hw hwq=>?_
    have kk:=p2.trans hk2
    obtain ⟨c1,c2,c3,c4⟩:=kr _ _ kk
    have hn2:=kk.next
    have wl:(frC ⟨f.t,f.e,f.vals ++ [v]⟩ w).length=4:=rfl
    have wt:(frC ⟨f.t,f.e,f.vals ++ [v]⟩ w).tail.take 2=envC f.e:=rfl
    simp [wl,wt,kid_addr1 h2]
    simp [get_set,get_new,show σ.next ≠ τ2.next by omega,c2,hk4,efl]
    refine with_ev ?_
    simp [kid_addr1 h2,get_set,get_new,show σ.next+1 ≠ τ2.next by omega,c4,envC]
    have l:Loc τ.next T2 τ2 ((τ2.new (.cells 2 [[.val (.pointer none),.val (.pointer none)]])).set τ2.next (.cells 2 [envC f.e])):=(Loc.new (.refl _ _ _) _).set (.inl (Nat.le_refl _))
    exact fin ⟨.node (kidAt f.t 1) (f.e.with f.t.h.name v false),s,k⟩ _ T2 _ hr (hm2.loc l) (kk.loc l)
  rw [if_neg k12] at hr
  by_cases k14:f.t.h.kind=14
  · have h2:1 < f.t.kids.length:=by rw [fok.wf.len,k14];simp [nk]
    have h3:2 < f.t.kids.length:=by rw [fok.wf.len,k14];simp [nk]
    rw [if_pos k14] at hr
    simp [k14]
    refine pop_frame_ev hm b1 fun τ2 T2 w hm2 hk2 hw hwq=>?_
    have kk:=p2.trans hk2
    obtain ⟨c1,c2,c3,c4⟩:=kr _ _ kk
    have hn2:=kk.next
    have wl:(frC ⟨f.t,f.e,f.vals ++ [v]⟩ w).length=4:=rfl
    have wt:(frC ⟨f.t,f.e,f.vals ++ [v]⟩ w).tail.take 2=envC f.e:=rfl
    simp [wl,wt,get_set,get_new,show σ.next ≠ τ2.next by omega,c2,hk4]
    have l:Loc τ.next T2 τ2 ((τ2.new (.cells 2 [[.val (.pointer none),.val (.pointer none)]])).set τ2.next (.cells 2 [envC f.e])):=(Loc.new (.refl _ _ _) _).set (.inl (Nat.le_refl _))
    have gz:((τ2.new (.cells 2 [[.val (.pointer none),.val (.pointer none)]])).set τ2.next (.cells 2 [envC f.e])).get τ2.next=some (.cells 2 [envC f.e]):=by simp
    have gr:((τ2.new (.cells 2 [[.val (.pointer none),.val (.pointer none)]])).set τ2.next (.cells 2 [envC f.e])).get (σ.next+1)=some (.cells 9 [zNx]):=by rw [get_set,if_neg (by omega),get_new,if_neg (by omega)];exact c4
    have hm3:=hm2.loc l
    have kk3:=kk.loc l
    have hn3:((τ2.new (.cells 2 [[.val (.pointer none),.val (.pointer none)]])).set τ2.next (.cells 2 [envC f.e])).next=τ2.next+1:=rfl
    generalize ((τ2.new (.cells 2 [[.val (.pointer none),.val (.pointer none)]])).set τ2.next (.cells 2 [envC f.e]))=τ3 at *
    refine number_ev (fun h5 τ4 h6=>?_) (fun h5 τ4 h6=>?_)
    rotate_left
    · have:number s v=.over s 6:=by simp [number,h5]
      rw [this] at hr
      exact hr τ4 T2 k (hm3.grows h6) ((ko.trans kk3).trans (Keep.grows h6))
    have e4:number s v=.ok v.n s:=by simp [number,h5]
    rw [e4] at hr
    simp only [Re.bind,Re.go] at hr
    have gz4:τ4.get τ2.next=some (.cells 2 [envC f.e]):=by rw [h6.get _ (by omega)];exact gz
    have kk4:=kk3.trans (Keep.grows (T:=T2) h6)
    have gr4:=(kr _ _ kk4).2.2.2
    by_cases hv0:v.n=0
    · rw [if_neg (by simp [hv0])] at hr
      simp [hv0,kid_addr2 h3,gz4,efl,gr4]
      simp [envC]
      exact fin ⟨.node (kidAt f.t 2) f.e,s,k⟩ τ4 T2 _ hr (hm3.grows h6) kk4
    · rw [if_pos hv0] at hr
      simp [hv0,kid_addr1 h2,gz4,efl,gr4]
      simp [envC]
      exact fin ⟨.node (kidAt f.t 1) f.e,s,k⟩ τ4 T2 _ hr (hm3.grows h6) kk4
  rw [if_neg k14] at hr
  simp [k17,k16,k12,k14]
  by_cases hlt:f.vals.length+1 < f.t.kids.length
  · rw [if_pos hlt] at hr
    have hlt':(f.vals.length:Int)+1 < (f.t.kids.length:Int):=by omega
    have hka:=kid_addr hlt υ
    rw [show ((f.vals.length+1:Nat):Int)=(f.vals.length:Int)+1 from by omega] at hka
    obtain ⟨c1,c2,c3,c4⟩:=kr _ _ p2
    simp [AT.avs_map,hlt',hka,uf,gm2,fct,fcl2,c4]
    exact fin ⟨.node (kidAt f.t (f.vals.length+1)) f.e,s,⟨f.t,f.e,f.vals ++ [v]⟩ :: k⟩ υ _ _ hr hm p2
  · rw [if_neg hlt] at hr
    have hlt':¬ ((f.vals.length:Int)+1 < (f.t.kids.length:Int)):=by omega
    simp [AT.avs_map,hlt']
    refine pop_frame_ev hm b1 fun τ2 T2 w hm2 hk2 hw hwq=>?_
    have kk:=p2.trans hk2
    have hkd:=kinds fok.wf.kind k17
    have hnl:(f.vals ++ [v]).length=nk f.t.h.kind:=by rw [← fok.wf.len];simp;omega
    refine rule_ev (f:=⟨f.t,f.e,f.vals ++ [v]⟩) hm2 b1.pop hi (by obtain ⟨h1,h2⟩:=hwk;simp only;rcases hkd with h | h | h | h | h | h <;> first | omega | exact absurd h h1) hnl hw hwq ?_
    cases hrl:rule s f.t f.e (f.vals ++ [v]) with
    | over s' o =>
      rw [hrl] at hr
      intro τ3 T3 k' hm3 hk3
      exact hr τ3 T3 k' hm3 ((ko.trans kk).trans hk3)
    | ok x s' =>
      rw [hrl] at hr
      intro τ3 T3 hm3 hk3
      have kk3:=kk.trans hk3
      obtain ⟨c1,c2,c3,c4⟩:=kr _ _ kk3
      have:∃ cs,x.av=.agg cs∧cs.length=9:=by cases x <;> exact ⟨_,rfl,rfl⟩
      obtain ⟨cs,e1,e2⟩:=this
      have:=fin ⟨x,s',k⟩ τ3 T3 cs hr hm3 kk3
      rw [e1] at this ⊢
      simp [c4,e2,List.take_of_length_le (Nat.le_of_eq e2),List.drop_of_length_le (Nat.le_of_eq (show zNx.length=9 from rfl))]
      exact this
end Go.Abs.Mac
