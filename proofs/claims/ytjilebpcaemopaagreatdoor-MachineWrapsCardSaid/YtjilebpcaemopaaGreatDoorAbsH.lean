import Derived.Test.YtjilebpcaemopaaGreatDoorAbsG
import Derived.Lib.ConvBytes
set_option linter.unusedVariables false
namespace Go.Abs
open Go
def ae (σ:ah) (r:Option AV):Option (AV×ah):=r.map fun x=>(x,σ)
def aG (r:Option ah):Option (AV×ah):=r.map fun σ=>(.val undef,σ)
def aR (zs:List AV) (σ:ah):Option (AV×ah):=some (.ptr σ.next 0 0,σ.new (.cells zs.length [zs]))
def bq (x:AV) (σ:ah):Option (AV×ah):=(br x).map fun cs=>(.ptr σ.next 0 0,σ.new (.cells cs.length [cs]))
def nQ (σ:ah):Option (AV×ah):=some (.mp σ.next,σ.new (.map []))
def aE (k:qF) (x:AV) (σ:ah):Option AV:=if lu k x=true then yb x σ else none
def aF (c a b:AV):Option AV:=
 match c with
 | .val (.bool t)=>some (bif t then a else b)
 | _=>none
def x7 (x:AV) (σ:ah):Option (AV×ah):=
 match x with
 | .val (.slice none 0 0)=>some (.val (.int .i64 0),σ)
 | _=>none
def vJ (P:Program) (t:TypeId):Bool:=
 match P.underlying t with
 | some (.interface _)=>false
 | some _=>true
 | none=>false
def oO (P:Program) (t:TypeId):Bool:=
 match P.underlying t with
 | some (.interface _)=>false
 | some _=>true
 | none=>false
def jN (z:AV) (t:TypeId) (x:AV):Option AV:=
 match x with
 | .iface t' v=>if t'=t then some (.tup [v,.val (.bool true)]) else some (.tup [z,.val (.bool false)])
 | .val .nilIface=>some (.tup [z,.val (.bool false)])
 | _=>none
def jl (P:Program) (b:Builtin) (ts:List TypeId) (xs:List AV) (σ:ah):Option (AV×ah):=
 match b,ts,xs with
 | .len,[t],[x]=>match rb P t with
  | some k=>ae σ (aE k x σ)
  | none=>none
 | .append,[t,t'],[s,x]=>if t=t' then match fI P t with
  | some (e,sz,bytes)=>match zeroOf P e with
   | some zs=>if zs.length=sz then aY sz bytes s x σ else none
   | none=>none
  | none=>none
  else match fI P t,P.underlying t' with
   | some (e,sz,bytes),some (.int _)=>match zeroOf P e with
    | some zs=>kM sz bytes zs s x σ
    | none=>none
   | _,_=>none
 | .max,_,[x,y]=>ae σ (qK x y)
 | .min,_,[x,y]=>ae σ (rO x y)
 | .delete,[t,_],[m,k]=>match lA P t with
  | some (_,d,_)=>(eR d m k σ).map fun σ=>(.val (.tuple #[]),σ)
  | none=>none
 | .cap,[t],[x]=>match fI P t with
  | some _=>x7 x σ
  | none=>none
 | .clear,[t],[s]=>match fI P t with
  | some (e,sz,_)=>match zeroOf P e with
   | some zs=>(tS sz zs s σ).map fun σ=>(.val (.tuple #[]),σ)
   | none=>none
  | none=>none
 | _,_,_=>none
def bS (P:Program) (op:Op) (fr:aA) (σ:ah):Option (AV×ah):=
 match op with
 | .move x=>some (ev fr x,σ)
 | .assign x=>some (ev fr x,σ)
 | .pick c a b=>ae σ (aF (ev fr c) (ev fr a) (ev fr b))
 | .alloc t=>match zeroOf P t with
  | some zs=>aR zs σ
  | none=>none
 | .box _ x=>bq (ev fr x) σ
 | .build t parts=>match zeroOf P t,placesOf P t with
  | some zs,some pl=>match partsOf pl fr parts.toList with
   | some l=>ae σ (aN zs l)
   | none=>none
  | _,_=>none
 | .buildSlice t len parts=>match fI P t with
  | some (e,sz,_)=>match zeroOf P e with
   | some zs=>aK len sz zs (parts.toList.map fun(i,x)=>(i,ev fr x)) σ
   | none=>none
  | none=>none
 | .load t x=>match dA P t with
  | some (g,n)=>ae σ (aj g n (ev fr x) σ)
  | none=>none
 | .store t a v=>match dA P t with
  | some (_,n)=>aG (az n (ev fr a) (ev fr v) σ)
  | none=>none
 | .nilCheck x=>ae σ (ax (ev fr x))
 | .binOp op t x y _=>match oo P t with
  | some e=>ae σ (ar op e (ev fr x) (ev fr y))
  | none=>none
 | .unOp .not _ x=>ae σ (bC (ev fr x))
 | .unOp .neg _ x=>ae σ (B7 (ev fr x))
 | .convert s d x=>match jw P s d with
  | some k=>ae σ (iW k (ev fr x))
  | none=>none
 | .makeInterface t x=>if vJ P t=true then some (.iface t (ev fr x),σ) else none
 | .makeFunc fn first cap=>if first.size=0 then some (.fn fn (cap.toList.map (ev fr)),σ) else none
 | .makeMap _ none=>nQ σ
 | .makeSlice t x y=>match fI P t with
  | some (e,sz,bytes)=>match zeroOf P e with
   | some zs=>fV sz bytes zs (ev fr x) (ev fr y) σ
   | none=>none
  | none=>none
 | .slice t x lo hi mx=>match isSlice P t with
  | some n=>ae σ (dJ n (ev fr x) (lo.map (ev fr)) (hi.map (ev fr)) (mx.map (ev fr)))
  | none=>if isStr P t=true then match mx with
   | none=>ae σ (cP (ev fr x) (lo.map (ev fr)) (hi.map (ev fr)))
   | some _=>none
   else none
 | .fieldAddr s x f=>match F0 P s f with
  | some o=>ae σ (ag o (ev fr x))
  | none=>none
 | .field s x f=>match yI P s f with
  | some (o,g,n)=>ae σ (ef o g n (ev fr x))
  | none=>none
 | .indexAddr t x i=>match isSlice P t with
  | some n=>ae σ (ak n (ev fr x) (ev fr i) σ)
  | none=>none
 | .index t x i=>if isStr P t=true then ae σ (bG (ev fr x) (ev fr i)) else none
 | .lookup t x i ok=>match lA P t with
  | some (_,d,e)=>match mF P e with
   | some z=>ae σ (dO d z ok (ev fr x) (ev fr i) σ)
   | none=>none
  | none=>none
 | .mapUpdate t m k x=>match lA P t with
  | some (_,d,_)=>aG (cX d (ev fr m) (ev fr k) (ev fr x) σ)
  | none=>none
 | .insert t m k x=>match lA P t with
  | some (_,d,_)=>aG (cX d (ev fr m) (ev fr k) (ev fr x) σ)
  | none=>none
 | .extract t i=>ae σ (bc i (ev fr t))
 | .typeAssert x _ asserted true=>if oO P asserted=true then match mF P asserted with
  | some z=>ae σ (jN z asserted (ev fr x))
  | none=>none
  else none
 | .call c=>match c.callee with
  | .builtin b=>jl P b c.argTypes.toList (c.args.toList.map (ev fr)) σ
  | _=>none
 | _=>none
theorem C8 {c:Ctx} {P t xt z} (ht:oO P t=true) (hz:mF P t=some z) {x v} (hx:aL c x v) {y} (h:jN z t x=some y) (w:World):∃u,(Instr.typeAssert v xt t true).run P w= .ok u w∧aL c y u:=by
 have hd:∃d,P.underlying t=some d∧∀ms,d≠ .interface ms:=by
  unfold oO at ht
  split at ht
  ·cases ht
  ·rename_i d hne hu
   exact⟨d,hu,hne⟩
  ·cases ht
 obtain⟨d,hu,hd⟩:=hd
 obtain⟨zv,hzv,hzr⟩:=m9 hz w
 have two:∀(p:AV) (b:Bool) (q:Value),aL c p q→aL c (.tup [p,.val (.bool b)]) (.tuple #[q,.bool b]):=by
  intro p b q hpq
  refine .tup rfl fun i x v hx hv=> ?_
  match i with
  | 0=>simp at hx hv;subst hx;subst hv;exact hpq
  | 1=>simp at hx hv;subst hx;subst hv;exact .val _
  | i+2=>simp at hx
 have fail:∀v',(v'= .nilIface∨∃t' x',v'= .iface t' x'∧t'≠t)→(Instr.typeAssert v' xt t true).run P w= .ok (.tuple #[zv,.bool false]) w:=by
  intro v' hv'
  rcases hv' with rfl | ⟨t',x',rfl,hne⟩
  ·simp only[Instr.typeAssert,Sem.run_bind,run_underlying hu,Result.andThen_ok]
   cases d<;>first
    | exact absurd rfl (hd _)
    | simp[hzv]
  ·simp only[Instr.typeAssert,Sem.run_bind,run_underlying hu,Result.andThen_ok]
   cases d<;>first
    | exact absurd rfl (hd _)
    | simp[hzv,hne]
 unfold jN at h
 split at h
 ·rename_i t' p
  cases hx with
  | iface hp=>
   rename_i q
   split at h
   ·rename_i e
    subst e
    cases h
    refine⟨.tuple #[q,.bool true],?_,two _ _ _ hp⟩
    simp only[Instr.typeAssert,Sem.run_bind,run_underlying hu,Result.andThen_ok]
    cases d<;>first
     | exact absurd rfl (hd _)
     | simp
   ·rename_i hne
    cases h
    exact⟨_,fail _ (.inr ⟨_,_,rfl,hne⟩),two _ _ _ (hzr c)⟩
 ·cases h
  obtain rfl:=hx.aQ
  exact⟨_,fail _ (.inl rfl),two _ _ _ (hzr c)⟩
 ·cases h
def jj (n:Next) (v:Value):Prop:=n= .value v∨(n= .skip∧v=undef)
theorem gY {c:Ctx} {fr} {a:Act} (hf:dZ c fr a.tmps) (o:Option Operand):nK c (o.map (ev fr)) (o.map a.eval):=by
 cases o with
 | none=>trivial
 | some x=>exact hf.eval x
theorem bK {ρ σ w} (hs:Sim ρ σ w) {P:Program} {o:Oper} {a:Act} {s:Sem Value} (he:execOp a.eval o=(do pure (.value (←s)))) {r:Option AV} {x σ'} (h:ae σ r=some (x,σ'))
 (hr:∀y,r=some y→∃u,s.run P w= .ok u w∧aL (ctx ρ σ w) y u):
 ∃n v w' ρ',(execOp a.eval o).run P w= .ok n w'∧jj n v∧aL (ctx ρ' σ' w') x v∧Sim ρ' σ' w'∧Ext ρ σ w ρ' σ' w':=by
 obtain⟨y,hy,e⟩:=Option.map_eq_some_iff.1 h
 cases e
 obtain⟨u,hu,hrel⟩:=hr _ hy
 exact⟨_,u,w,ρ,by rw[he];simp[hu],.inl rfl,hrel,hs,Ext.refl _ _ _⟩
theorem kA {ρ σ w} {P:Program} {o:Oper} {a:Act} {s:Sem Unit} (he:execOp a.eval o=(do s;pure .skip)) {r:Option ah} {x σ'} (h:aG r=some (x,σ'))
 (hr:∀τ,r=some τ→∃w',s.run P w= .ok () w'∧Sim ρ τ w'∧Ext ρ σ w ρ τ w'):
 ∃n v w' ρ',(execOp a.eval o).run P w= .ok n w'∧jj n v∧aL (ctx ρ' σ' w') x v∧Sim ρ' σ' w'∧Ext ρ σ w ρ' σ' w':=by
 obtain⟨τ,hy,e⟩:=Option.map_eq_some_iff.1 h
 cases e
 obtain⟨w',hu,h1,h2⟩:=hr _ hy
 exact⟨.skip,undef,w',ρ,by rw[he];simp[hu],.inr ⟨rfl,rfl⟩,.val _,h1,h2⟩
theorem eV {ρ σ w} {P:Program} {o:Oper} {a:Act} {s:Sem Value} (he:execOp a.eval o=(do pure (.value (←s)))) {x σ'}
 (hr:∃u w' ρ',s.run P w= .ok u w'∧aL (ctx ρ' σ' w') x u∧Sim ρ' σ' w'∧Ext ρ σ w ρ' σ' w'):
 ∃n v w' ρ',(execOp a.eval o).run P w= .ok n w'∧jj n v∧aL (ctx ρ' σ' w') x v∧Sim ρ' σ' w'∧Ext ρ σ w ρ' σ' w':=by
 obtain⟨u,w',ρ',h1,h2,h3,h4⟩:=hr
 exact⟨_,u,w',ρ',by rw[he];simp[h1],.inl rfl,h2,h3,h4⟩
theorem oI {α:Type} {l:List α} {f:α→AV} {x} (h:l.map f= [x]):∃a,l= [a]∧f a=x:=by
 match l,h with
 | [a],h=>simp at h;exact⟨a,rfl,h⟩
theorem lx {α:Type} {l:List α} {f:α→AV} {x y} (h:l.map f= [x,y]):∃a b,l= [a,b]∧f a=x∧f b=y:=by
 match l,h with
 | [a,b],h=>simp at h;exact⟨a,b,rfl,h.1,h.2⟩
theorem bz {α:Type} {a:Array α} {l:List α} (h:a.toList=l):a=l.toArray:=by rw[←h]
theorem Sim.more {ρ σ w w'} (hs:Sim ρ σ w) (hsz:w'.heap.size=w.heap.size+1) (hold:∀b:Nat,b<w.heap.size→w'.heap[b]?=w.heap[b]?) (ho:w'.os=w.os) (ht:w'.tape=w.tape) (hp:w'.output=w.output) (hdr:w.drawn≤w'.drawn):
 Sim ρ σ w'∧Ext ρ σ w ρ σ w'∧Imm ρ σ w' w.heap.size:=by
 have hle:CLe (ctx ρ σ w) (ctx ρ σ w'):=by
  refine⟨fun _ _ h=>h,fun b hb=>⟨⟨by rw[hsz];exact Nat.lt_succ_of_lt hb.1,hb.2⟩,hold b hb.1⟩,fun b cs t f hb=> ?_⟩
  exact⟨cs,f,by rw[show(ctx ρ σ w').h=w'.heap from rfl,hold b (Array.getElem?_eq_some_iff.1 hb).1];exact hb,rfl⟩
 refine⟨⟨hs.fresh,fun id o' ho'=> ?_,hs.inj⟩,⟨hle,Nat.le_refl _,ho,ht,hp,by rw[hsz];exact Nat.le_succ _⟩,⟨by rw[hsz];exact Nat.lt_succ_self _,fun id o' s ho' hp=> ?_⟩⟩
 ·obtain⟨p,hp,hor⟩:=hs.obj id o' ho'
  refine⟨p,hp,hor.mono hle fun b hb=>hold b ?_⟩
  obtain⟨pb,psz⟩:=p
  simp at hb;subst hb
  exact hor.lt
 ·exact Nat.lt_irrefl _ (hs.blk ho' hp)
theorem uO {ρ σ w} (hs:Sim ρ σ w) {P s d} (hk:jw P s d=some .bytes) {x v} (hx:aL (ctx ρ σ w) x v) {y} (h:iW .bytes x=some y):
 ∃u w' ρ',(convert s d v).run P w= .ok u w'∧aL (ctx ρ' σ w') y u∧Sim ρ' σ w'∧Ext ρ σ w ρ' σ w':=by
 unfold jw at hk
 split at hk
 ·cases hk
 ·cases hk
 ·rename_i e h1 h2
  split at hk
  ·rename_i h3
   unfold iW at h
   split at h
   ·rename_i q;cases q
   ·rename_i q;cases q
   ·rename_i b _
    cases h
    obtain rfl:=hx.aQ
    obtain⟨m1,m2,m3⟩:=hs.more (w':=Go.Lib.bytesWorld w e b) (Go.Lib.bytesWorld_size w e b) (fun j hj=>Go.Lib.bytesWorld_at_old w e b j hj) rfl rfl rfl (Nat.le_succ _)
    refine⟨_,_,ρ,Go.Lib.run_convert_string_bytes w s d e b h1 h2 h3,?_,m1,m2⟩
    have hlen:(jo b).length=b.size:=by simp[jo]
    have hget:∀(i:Nat) el,(jo b)[i]?=some el→i<b.size∧el= [.val (.int .u8 (b.data.toList.getD i 0).toNat)]:=by
     intro i el hi
     have hil:i<b.size:=by rw[←hlen];exact(List.getElem?_eq_some_iff.1 hi).1
     refine⟨hil,?_⟩
     simp only[jo,List.getElem?_map,Option.map_eq_some_iff]at hi
     obtain⟨c,hc,rfl⟩:=hi
     simp[List.getD_eq_getElem?_getD,hc]
    refine .sl (fun i _=>.int .u8 (b.data.toList.getD i 0).toNat) hlen.symm (fun q=>by cases q) (grownCap_ge w _ _ _) (fun q=>by cases q) (fun i el hi=> ?_) (fun i el j x hi hx=> ?_)
    ·obtain⟨hil,rfl⟩:=hget i el hi
     refine⟨rfl,_,0,rfl,m3,fun j hj=> ?_⟩
     obtain rfl:j=0:=by omega
     refine⟨?_,rfl⟩
     have:=Go.Lib.bytesWorld_cell w e b i hil
     rw[←this]
     simp only[Nat.zero_add,Nat.mul_one,Nat.add_zero]
     exact(iC _ _ _).symm
    ·obtain⟨hil,rfl⟩:=hget i el hi
     cases j with
     | zero=>obtain rfl:=Option.some.inj hx;exact .val _
     | succ j=>simp at hx
   ·cases h
  ·cases hk
 ·cases hk
set_option maxHeartbeats 1000000 in
theorem nP {ρ σ w} (hs:Sim ρ σ w) {P:Program} {o:Oper} {fr} {a:Act} (hf:dZ (ctx ρ σ w) fr a.tmps) {b:Builtin} {args:Array Operand} {argTypes:Array TypeId}
 (hrun:∀(s:Sem Value),(∀ty cs,builtin b argTypes ty cs (args.map a.eval)=(do pure (.value (←s))))→∀w,(execOp a.eval o).run P w=(do pure (.value (←s)):Sem Next).run P w)
 {x σ'} (h:jl P b argTypes.toList (args.toList.map (ev fr)) σ=some (x,σ')):
 ∃n v w' ρ',(execOp a.eval o).run P w= .ok n w'∧jj n v∧aL (ctx ρ' σ' w') x v∧Sim ρ' σ' w'∧Ext ρ σ w ρ' σ' w':=by
 unfold jl at h
 split at h
 ·rename_i t y ht hx -- len
  obtain⟨p,hp,rfl⟩:=oI hx
  obtain rfl:=bz ht
  obtain rfl:=bz hp
  split at h
  ·rename_i k hk
   obtain⟨z,hz,hh⟩:=Option.map_eq_some_iff.1 h
   cases hh
   unfold aE at hz
   split at hz
   ·rename_i hfit
    obtain⟨u,hu,hrel⟩:=sLen (ty:=0) hs hk (hf.eval p) hfit hz
    have hall:∀ty,Builtin.len_ #[t] ty #[a.eval p]=Builtin.len_ #[t] 0 #[a.eval p]:=fun _=>rfl
    exact⟨.value u,u,w,ρ,by rw[hrun (Builtin.len_ #[t] 0 #[a.eval p]) (fun ty cs=>by simp[builtin,hall ty])];simp[hu],.inl rfl,hrel,hs,Ext.refl _ _ _⟩
   ·cases hz
  ·cases h
 ·rename_i t t' s y ht hx -- append
  obtain⟨p,q,hp,rfl,rfl⟩:=lx hx
  obtain rfl:=bz ht
  obtain rfl:=bz hp
  split at h
  ·rename_i e
   subst e
   split at h
   ·rename_i el sz by' hi
    split at h
    ·rename_i zs hz
     split at h
     ·rename_i hzl
      obtain⟨u,w',ρ',h1,h2,h3,h4⟩:=C7 (ty:=0) hs hi hz hzl (hf.eval p) (hf.eval q) h
      have hall:∀ty,Builtin.append_ #[t,t] ty #[a.eval p,a.eval q]=Builtin.append_ #[t,t] 0 #[a.eval p,a.eval q]:=fun _=>rfl
      exact⟨.value u,u,w',ρ',by rw[hrun (Builtin.append_ #[t,t] 0 #[a.eval p,a.eval q]) (fun ty cs=>by simp[builtin,hall ty])];simp[h1],.inl rfl,h2,h3,h4⟩
     ·cases h
    ·cases h
   ·cases h
  ·split at h
   ·rename_i el sz by' kn hi htn
    split at h
    ·rename_i zs hz
     obtain⟨u,w',ρ',h1,h2,h3,h4⟩:=zS (ty:=0) hs hi hz htn (hf.eval p) (hf.eval q) h
     have hall:∀ty,Builtin.append_ #[t,t'] ty #[a.eval p,a.eval q]=Builtin.append_ #[t,t'] 0 #[a.eval p,a.eval q]:=fun _=>rfl
     exact⟨.value u,u,w',ρ',by rw[hrun (Builtin.append_ #[t,t'] 0 #[a.eval p,a.eval q]) (fun ty cs=>by simp[builtin,hall ty])];simp[h1],.inl rfl,h2,h3,h4⟩
    ·cases h
   ·cases h
 ·rename_i x' y hx -- max
  obtain⟨p,q,hp,rfl,rfl⟩:=lx hx
  obtain rfl:=bz hp
  obtain⟨z,hz,hh⟩:=Option.map_eq_some_iff.1 h
  cases hh
  obtain⟨u,hu,hrel⟩:=sMax (P:=P) (ts:=argTypes) (ty:=0) (hf.eval p) (hf.eval q) hz w
  have hall:∀ty,Builtin.max_ argTypes ty #[a.eval p,a.eval q]=Builtin.max_ argTypes 0 #[a.eval p,a.eval q]:=fun _=>rfl
  exact⟨.value u,u,w,ρ,by rw[hrun (Builtin.max_ argTypes 0 #[a.eval p,a.eval q]) (fun ty cs=>by simp[builtin,hall ty])];simp[hu],.inl rfl,hrel,hs,Ext.refl _ _ _⟩
 ·rename_i x' y hx -- min
  obtain⟨p,q,hp,rfl,rfl⟩:=lx hx
  obtain rfl:=bz hp
  obtain⟨z,hz,hh⟩:=Option.map_eq_some_iff.1 h
  cases hh
  obtain⟨u,hu,hrel⟩:=sMin (P:=P) (ts:=argTypes) (ty:=0) (hf.eval p) (hf.eval q) hz w
  have hall:∀ty,Builtin.min_ argTypes ty #[a.eval p,a.eval q]=Builtin.min_ argTypes 0 #[a.eval p,a.eval q]:=fun _=>rfl
  exact⟨.value u,u,w,ρ,by rw[hrun (Builtin.min_ argTypes 0 #[a.eval p,a.eval q]) (fun ty cs=>by simp[builtin,hall ty])];simp[hu],.inl rfl,hrel,hs,Ext.refl _ _ _⟩
 ·rename_i t t2 m k ht hx -- delete
  obtain⟨p,q,hp,rfl,rfl⟩:=lx hx
  obtain rfl:=bz ht
  obtain rfl:=bz hp
  split at h
  ·rename_i kt d el hm
   obtain⟨τ,hτ,hh⟩:=Option.map_eq_some_iff.1 h
   cases hh
   obtain⟨w',h1,h2,h3⟩:=uS (t2:=t2) (ty:=0) hs hm (hf.eval p) (hf.eval q) hτ
   have hall:∀ty,Builtin.delete_ #[t,t2] ty #[a.eval p,a.eval q]=Builtin.delete_ #[t,t2] 0 #[a.eval p,a.eval q]:=fun _=>rfl
   exact⟨.value (.tuple #[]),_,w',ρ,by rw[hrun (Builtin.delete_ #[t,t2] 0 #[a.eval p,a.eval q]) (fun ty cs=>by simp[builtin,hall ty])];simp[h1],.inl rfl,.val _,h2,h3⟩
  ·cases h
 ·rename_i t y ht hx -- cap
  obtain⟨p,hp,rfl⟩:=oI hx
  obtain rfl:=bz ht
  obtain rfl:=bz hp
  split at h
  ·rename_i si hi
   obtain⟨el,sz,by'⟩:=si
   unfold x7 at h
   split at h
   ·rename_i hv
    cases h
    obtain⟨hu,_⟩:=fg hi
    have hv':=hf.eval p
    rw[hv]at hv'
    have h1:=hv'.aQ
    have hc:(Builtin.cap_ #[t] 0 #[a.eval p]).run P w= .ok (.int .i64 0) w:=by rw[h1];simp[Builtin.cap_,run_underlying hu,goInt]
    have hall:∀ty,Builtin.cap_ #[t] ty #[a.eval p]=Builtin.cap_ #[t] 0 #[a.eval p]:=fun _=>rfl
    exact⟨.value (.int .i64 0),_,w,ρ,by rw[hrun (Builtin.cap_ #[t] 0 #[a.eval p]) (fun ty cs=>by simp[builtin,hall ty])];simp[hc],.inl rfl,.val _,hs,Ext.refl _ _ _⟩
   ·cases h
  ·cases h
 ·rename_i t s ht hx -- clear
  obtain⟨p,hp,rfl⟩:=oI hx
  obtain rfl:=bz ht
  obtain rfl:=bz hp
  split at h
  ·rename_i el sz by' hi
   split at h
   ·rename_i zs hz
    obtain⟨τ,hτ,hh⟩:=Option.map_eq_some_iff.1 h
    cases hh
    obtain⟨w',h1,h2,h3⟩:=GF (ty:=0) hs hi hz (hf.eval p) hτ
    have hall:∀ty,Builtin.clear_ #[t] ty #[a.eval p]=Builtin.clear_ #[t] 0 #[a.eval p]:=fun _=>rfl
    exact⟨.value (.tuple #[]),_,w',ρ,by rw[hrun (Builtin.clear_ #[t] 0 #[a.eval p]) (fun ty cs=>by simp[builtin,hall ty])];simp[h1],.inl rfl,.val _,h2,h3⟩
   ·cases h
  ·cases h
 ·cases h
set_option maxHeartbeats 4000000 in
theorem tZ {ρ σ w} (hs:Sim ρ σ w) {P:Program} {o:Oper} {fr} {a:Act} (hf:dZ (ctx ρ σ w) fr a.tmps) {x σ'} (h:bS P o.op fr σ=some (x,σ')):
 ∃n v w' ρ',(execOp a.eval o).run P w= .ok n w'∧jj n v∧aL (ctx ρ' σ' w') x v∧Sim ρ' σ' w'∧Ext ρ σ w ρ' σ' w':=by
 unfold bS at h
 split at h
 ·rename_i y e -- move
  cases h
  exact⟨_,_,w,ρ,by simp[execOp,e],.inl rfl,hf.eval y,hs,Ext.refl _ _ _⟩
 ·rename_i y e -- assign
  cases h
  exact⟨_,_,w,ρ,by simp[execOp,e],.inl rfl,hf.eval y,hs,Ext.refl _ _ _⟩
 ·rename_i p q r e -- pick
  obtain⟨z,hz,hh⟩:=Option.map_eq_some_iff.1 h
  cases hh
  unfold aF at hz
  split at hz
  ·rename_i t ht
   cases hz
   have hv:=hf.eval p
   rw[ht]at hv
   have hv:=hv.aQ
   cases t with
   | true=>exact⟨.value (a.eval q),_,w,ρ,by simp[execOp,e,hv,asBool],.inl rfl,hf.eval q,hs,Ext.refl _ _ _⟩
   | false=>exact⟨.value (a.eval r),_,w,ρ,by simp[execOp,e,hv,asBool],.inl rfl,hf.eval r,hs,Ext.refl _ _ _⟩
  ·cases hz
 ·rename_i t e -- alloc
  split at h
  ·rename_i zs hz
   cases h
   exact eV (s:=Instr.alloc t true (.tuple #[])) (by simp only[execOp,e]) (GA hs hz)
  ·cases h
 ·rename_i t y e -- box
  obtain⟨cs,hc,hh⟩:=Option.map_eq_some_iff.1 h
  cases hh
  exact eV (s:=Instr.box t (a.eval y)) (by simp only[execOp,e]) (sBox hs t (hf.eval y) hc)
 ·rename_i t parts e -- build
  split at h
  ·rename_i zs pl hz hpl
   split at h
   ·rename_i l hl
    exact bK hs (s:=Instr.build t (parts.map fun(i,x)=>(i,a.eval x))) (by simp only[execOp,e]) h (fun y hy=>GD hz hpl hf hl hy w)
   ·cases h
  ·cases h
 ·rename_i t len parts e -- buildSlice
  split at h
  ·rename_i el sz by' hi
   split at h
   ·rename_i zs hz
    exact eV (s:=Instr.buildSlice t len (parts.map fun(i,x)=>(i,a.eval x))) (by simp only[execOp,e]) (tu hs hi hz hf h)
   ·cases h
  ·cases h
 ·rename_i t y e -- load
  split at h
  ·rename_i g n ht
   exact bK hs (s:=Instr.loadAt t (a.eval y)) (by simp only[execOp,e]) h (fun z hz=>DZ hs ht (hf.eval y) hz)
  ·cases h
 ·rename_i t p v e -- store
  split at h
  ·rename_i g n ht
   exact kA (s:=Instr.storeAt t (a.eval p) (a.eval v)) (by simp only[execOp,e]) h (fun τ hτ=>GJ hs ht (hf.eval p) (hf.eval v) hτ)
  ·cases h
 ·rename_i y e -- nilCheck
  obtain⟨z,hz,hh⟩:=Option.map_eq_some_iff.1 h
  cases hh
  have hv:=hf.eval y
  have:(execOp a.eval o).run P w= .ok (.value (a.eval y)) w∧aL (ctx ρ σ w) x (a.eval y):=by
   simp only[execOp,e]
   generalize a.eval y=v at *
   generalize ev fr y=q at *
   unfold ax at hz
   split at hz<;>first | (cases hz;done) | (cases hz;cases hv;refine⟨rfl,?_⟩;constructor<;>assumption;done) | skip
   all_goals
    cases hz
    refine⟨?_,hv⟩
    cases hv
    rfl
  exact⟨_,_,w,ρ,this.1,.inl rfl,this.2,hs,Ext.refl _ _ _⟩
 ·rename_i op t p q yt e -- binOp
  split at h
  ·rename_i k hk
   exact bK hs (s:=do eqGuard op t p q (a.eval p) (a.eval q);binOp op t (a.eval p) (a.eval q)) (by simp only[execOp,e]) h (fun z hz=>sBin hk (hf.eval p) (hf.eval q) hz p q w)
  ·cases h
 ·rename_i t y e -- not
  exact bK hs (s:=Op.unary .not (a.eval y)) (by simp only[execOp,e]) h (fun z hz=>sNot (hf.eval y) hz w)
 ·rename_i t y e -- neg
  exact bK hs (s:=Op.unary .neg (a.eval y)) (by simp only[execOp,e]) h (fun z hz=>sNeg (hf.eval y) hz w)
 ·rename_i s d y e -- convert
  split at h
  ·rename_i k hk
   by_cases hb:k= .bytes
   ·subst hb
    obtain⟨z,hz,hh⟩:=Option.map_eq_some_iff.1 h
    cases hh
    exact eV (s:=convert s d (a.eval y)) (by simp only[execOp,e]) (uO hs hk (hf.eval y) hz)
   ·exact bK hs (s:=convert s d (a.eval y)) (by simp only[execOp,e]) h (fun z hz=>sConv hk hb (hf.eval y) hz w)
  ·cases h
 ·rename_i t y e -- makeInterface
  split at h
  ·rename_i hi
   cases h
   refine⟨.value (.iface t (a.eval y)),_,w,ρ,?_,.inl rfl,.iface (hf.eval y),hs,Ext.refl _ _ _⟩
   unfold vJ at hi
   split at hi
   ·cases hi
   ·rename_i d hne hu
    have:(Instr.makeInterface t (a.eval y)).run P w= .ok (.iface t (a.eval y)) w:=by
     simp only[Instr.makeInterface,Sem.run_bind,run_underlying hu,Result.andThen_ok]
     cases d<;>first | rfl | exact absurd hu (hne _)
    simp only[execOp,e,Sem.run_bind,this,Result.andThen_ok,Sem.run_pure]
   ·cases hi
  ·cases h
 ·rename_i fn first cap e -- makeFunc
  split at h
  ·rename_i h0
   cases h
   have hfirst:first= #[]:=Array.eq_empty_of_size_eq_zero h0
   subst hfirst
   refine⟨.value (.func fn #[] (cap.map a.eval)),_,w,ρ,by simp[execOp,e,Instr.makeFunc],.inl rfl,.fn (by simp) (fun i x v hx hv=> ?_),hs,Ext.refl _ _ _⟩
   simp only[List.getElem?_map,Array.getElem?_toList]at hx
   simp only[Array.getElem?_map]at hv
   obtain⟨q,hq,rfl⟩:=Option.map_eq_some_iff.1 hx
   rw[hq]at hv
   simp at hv
   subst hv
   exact hf.eval q
  ·cases h
 ·rename_i t e -- makeMap
  cases h
  exact eV (s:=Instr.makeMap t none) (by simp only[execOp,e,Option.map_none]) (zX hs)
 ·rename_i t x y e -- makeSlice
  split at h
  ·rename_i el sz by' hi
   split at h
   ·rename_i zs hz
    exact eV (s:=Instr.makeSlice t (a.eval x) (a.eval y)) (by simp only[execOp,e]) (uR hs hi hz (hf.eval x) (hf.eval y) h)
   ·cases h
  ·cases h
 ·rename_i t y lo hi mx e -- slice
  split at h
  ·rename_i n hn
   exact bK hs (s:=Instr.sliceAt t (a.eval y) (lo.map a.eval) (hi.map a.eval) (mx.map a.eval)) (by simp only[execOp,e]) h (fun z hz=>GI hn (hf.eval y) (gY hf lo) (gY hf hi) (gY hf mx) hz w)
  ·split at h
   ·rename_i hst
    split at h
    ·exact bK hs (s:=Instr.sliceAt t (a.eval y) (lo.map a.eval) (hi.map a.eval) none) (by simp only[execOp,e,Option.map_none]) h (fun z hz=>xA hst (hf.eval y) (gY hf lo) (gY hf hi) hz w)
    ·cases h
   ·cases h
 ·rename_i s y f e -- fieldAddr
  split at h
  ·rename_i off hoff
   exact bK hs (s:=Instr.fieldAt s (a.eval y) f) (by simp only[execOp,e]) h (fun z hz=>uP hoff (hf.eval y) hz w)
  ·cases h
 ·rename_i s y f e -- field
  split at h
  ·rename_i off g n hoff
   exact bK hs (s:=Instr.field s (a.eval y) f) (by simp only[execOp,e]) h (fun z hz=>GH hoff (hf.eval y) hz w)
  ·cases h
 ·rename_i t y i e -- indexAddr
  split at h
  ·rename_i n hn
   exact bK hs (s:=Instr.indexAt t (a.eval y) (a.eval i)) (by simp only[execOp,e]) h (fun z hz=>uQ hs hn (hf.eval y) (hf.eval i) hz)
  ·cases h
 ·rename_i t y i e -- index
  split at h
  ·rename_i hst
   exact bK hs (s:=Instr.index t (a.eval y) (a.eval i)) (by simp only[execOp,e]) h (fun z hz=>xz hst (hf.eval y) (hf.eval i) hz w)
  ·cases h
 ·rename_i t y i ok e -- lookup
  split at h
  ·rename_i kt d el hm
   split at h
   ·rename_i z hz
    exact bK hs (s:=Instr.lookup t (a.eval y) (a.eval i) ok) (by simp only[execOp,e]) h (fun q hq=>C9 hs hm hz (hf.eval y) (hf.eval i) hq)
   ·cases h
  ·cases h
 ·rename_i t m k y e -- mapUpdate
  split at h
  ·rename_i kt d el hm
   exact kA (s:=Instr.mapUpdate t (a.eval m) (a.eval k) (a.eval y)) (by simp only[execOp,e]) h (fun τ hτ=>pw hs hm (hf.eval m) (hf.eval k) (hf.eval y) hτ)
  ·cases h
 ·rename_i t m k y e -- insert
  split at h
  ·rename_i kt d el hm
   exact kA (s:=Instr.mapUpdate t (a.eval m) (a.eval k) (a.eval y)) (by simp only[execOp,e]) h (fun τ hτ=>pw hs hm (hf.eval m) (hf.eval k) (hf.eval y) hτ)
  ·cases h
 ·rename_i t i e -- extract
  exact bK hs (s:=Instr.extract (a.eval t) i) (by simp only[execOp,e]) h (fun z hz=>zV (hf.eval t) hz w)
 ·rename_i y xt asserted e -- typeAssert
  split at h
  ·rename_i hn
   split at h
   ·rename_i z hz
    exact bK hs (s:=Instr.typeAssert (a.eval y) xt asserted true) (by simp only[execOp,e]) h (fun q hq=>C8 hn hz (hf.eval y) hq w)
   ·cases h
  ·cases h
 ·rename_i c e -- builtin
  split at h
  ·rename_i b hb
   obtain⟨callee,args,argTypes⟩:=c
   simp only at hb h
   subst hb
   have hrun:∀(s:Sem Value),(∀ty cs,builtin b argTypes ty cs (args.map a.eval)=(do pure (.value (←s))))→∀w,(execOp a.eval o).run P w=(do pure (.value (←s)):Sem Next).run P w:=by
    intro s hbs w
    simp only[execOp,e,resolve,Sem.run_bind,Sem.run_pure,Result.andThen_ok,invoke]
    rw[hbs]
    simp
   exact nP hs hf hrun h
  ·cases h
 ·cases h
end Go.Abs
namespace Go.Abs
open Go
def ix (c:Ctx) (xs:List AV) (vs:Array Value):Prop:=xs.length=vs.size∧∀(i:Nat) x v,xs[i]?=some x→vs[i]?=some v→aL c x v
def gX (P:Program) (f:FuncId):Prop:=∃fn,P.funcs[f]?=some fn∧fn.body.isSome=true∧(fn.name== "runtime.NumGoroutine")=false
def tO (ρ:Nat→Option (Option Nat×Nat)) (σ:ah) (w:World) (k kp:AV→ah→Prop) (e:Ending) (w':World):Prop:=
 ∃ρ' σ',Ext ρ σ w ρ' σ' w'∧Sim ρ' σ' w'∧match e with
  | .returned v=>∃x,k x σ'∧aL (ctx ρ' σ' w') x v
  | .panicked chain=>∃x v,chain= [{v,recovered:=false}]∧kp x σ'∧aL (ctx ρ' σ' w') x v
  | .outgrown=>False
def pF (P:Program) (f:FuncId) (vs:Array Value) (w:World) (Q:Ending→World→Prop):Prop:=
 (gX P f∧Calls P f vs w Q)∨∃v w',(callFunc f vs).run P w= .ok (.value v) w'∧Q (.returned v) w'
theorem pF.mono {P f vs w} {Q R:Ending→World→Prop} (h:pF P f vs w Q) (hm:∀e w',Q e w'→R e w'):pF P f vs w R:=by
 rcases h with ⟨h1,h2⟩ | ⟨v,w',h1,h2⟩
 ·exact .inl ⟨h1,h2.mono hm⟩
 ·exact .inr ⟨v,w',h1,hm _ _ h2⟩
theorem gX.run {P f} (h:gX P f) (vs:Array Value) (w:World):(callFunc f vs).run P w= .ok (.enter f vs) w:=by
 obtain⟨fn,h1,h2,h3⟩:=h
 have hb:fn.body≠none:=by intro hb;rw[hb]at h2;cases h2
 have hname:¬fn.name= "runtime.NumGoroutine" :=by simpa using h3
 simp[callFunc,h1,hname,hb]
theorem pF.calls {P f vs w} {Q:Ending→World→Prop} (hc:gX P f) (h:pF P f vs w Q):Calls P f vs w Q:=by
 rcases h with ⟨_,h⟩ | ⟨v,w',h,_⟩
 ·exact h
 ·rw[hc.run]at h;cases h
def Ev (P:Program) (f:FuncId) (args:List AV) (σ:ah) (k kp:AV→ah→Prop):Prop:=
 ∀ρ w vs,Sim ρ σ w→ix (ctx ρ σ w) args vs→pF P f vs w (tO ρ σ w k kp)
theorem Ev.mono {P f args σ} {k k' kp kp':AV→ah→Prop} (h:Ev P f args σ k kp) (h1:∀x τ,k x τ→k' x τ) (h2:∀x τ,kp x τ→kp' x τ):Ev P f args σ k' kp':=by
 refine fun ρ w vs hs ha=>(h ρ w vs hs ha).mono ?_
 rintro e w' ⟨ρ',σ',he,hs',hp⟩
 refine⟨ρ',σ',he,hs',?_⟩
 cases e with
 | returned v=>obtain⟨x,hx,hr⟩:=hp;exact⟨x,h1 _ _ hx,hr⟩
 | panicked chain=>obtain⟨x,v,hc,hx,hr⟩:=hp;exact⟨x,v,hc,h2 _ _ hx,hr⟩
 | outgrown=>exact hp
def ab (r:Option (AV×ah)) (k:AV→ah→Prop):Prop:=
 match r with
 | some p=>k p.1 p.2
 | none=>False
def fX (P:Program) (f:AV) (args:List AV) (σ:ah) (k kp:AV→ah→Prop):Prop:=
 match f with
 | .fn (.func g) cap=>Ev P g (args++cap) σ k kp
 | _=>False
def oT (x:AV) (σ:ah) (kp:AV→ah→Prop):Prop:=
 match x with
 | .iface t y=>kp (.iface t y) σ
 | _=>False
def eK (P:Program) (op:Op) (fr:aA) (σ:ah) (k kp:AV→ah→Prop):Prop:=
 match op with
 | .call c=>match c.callee with
  | .value f=>fX P (ev fr f) (c.args.toList.map (ev fr)) σ k kp
  | .builtin b=>ab (jl P b c.argTypes.toList (c.args.toList.map (ev fr)) σ) k
  | .invoke _ _=>False
 | .panic x=>oT (ev fr x) σ kp
 | .move x=>k (ev fr x) σ
 | .assign x=>k (ev fr x) σ
 | op=>ab (bS P op fr σ) k
def aSl (P:Program) (t:TypeId) (len:Nat) (parts:Array (Nat×Operand)) (fr:aA):Option AV:=
 match fI P t with
 | some (e,sz,_)=>match zeroOf P e with
  | some zs=>aV len sz zs (parts.toList.map fun(i,x)=>(i,ev fr x))
  | none=>none
 | none=>none
def iP (P:Program) (op:Op) (fr:aA) (σ:ah) (k kp:AV→ah→Prop):Prop:=
 match op with
 | .buildSlice t len parts=>ab (ae σ (aSl P t len parts fr)) k
 | op=>eK P op fr σ k kp
abbrev Run:=Op→aA→ah→(AV→ah→Prop)→(AV→ah→Prop)→Prop
def gR (x:AV) (want:Bool) (A B:Prop):Prop:=
 match x with
 | .val (.bool b)=>(b=want→A)∧(b≠want→B)
 | .val (.tuple _)=>B
 | _=>False
def gK (x:AV) (want:Bool) (run:(AV→ah→Prop)→Prop) (K:AV→ah→Prop) (σ:ah):Prop:=gR x want (run K) (K (.val undef) σ)
def jn (R:Run) (ops:Array Oper):List Nat→aA→ah→(aA→ah→Prop)→(AV→ah→Prop)→Prop
 | [],fr,σ,k,_=>k fr σ
 | i::l,fr,σ,k,kp=>match ops[i]? with
  | none=>False
  | some o=>match o.guard with
   | none=>R o.op fr σ (fun x τ=>jn R ops l (put fr o.dst x) τ k kp) kp
   | some (j,want)=>match (ops[j]?).bind (·.dst) with
    | some d=>gK (aa fr d) want (fun K=>R o.op fr σ K kp) (fun x τ=>jn R ops l (put fr o.dst x) τ k kp) σ
    | none=>False
def vI (X:List Nat) (ops:Array Oper):Bool:=ops.all fun o=>match o.dst with | some d=> !X.elem d | none=>true
def qV (N:Nat) (ops:Array Oper):Bool:=ops.all fun o=>match o.dst with | some d=>decide (d<N) | none=>true
def vq (ρ:Nat→Option (Option Nat×Nat)) (σ:ah) (w:World) (a:Act) (dst:Option Tmp) (k kp:AV→ah→Prop) (next:Act→World→Prop) (Q:Exit→Act→World→Prop):Prop:=
 (∀ρ' σ' w' x v,Ext ρ σ w ρ' σ' w'→Sim ρ' σ' w'→aL (ctx ρ' σ' w') x v→k x σ'→next (a.put dst v) w')∧
 (∀ρ' σ' w' x v,Ext ρ σ w ρ' σ' w'→Sim ρ' σ' w'→aL (ctx ρ' σ' w') x v→kp x σ'→Q (.panic [{v,recovered:=false}]) a w')
theorem gN {ρ σ w} (hs:Sim ρ σ w) {P:Program} {o:Oper} {fr} {a:Act} (hf:dZ (ctx ρ σ w) fr a.tmps) {k kp:AV→ah→Prop} {next Q} (hn:vq ρ σ w a o.dst k kp next Q) (h:ab (bS P o.op fr σ) k):o.wp P a w next Q:=by
 unfold ab at h
 split at h
 ·rename_i p hp
  obtain⟨x,σ'⟩:=p
  obtain⟨n,v,w',ρ',h1,h2,h3,h4,h5⟩:=tZ hs hf hp
  unfold Oper.wp
  rw[h1]
  rcases h2 with rfl | ⟨rfl,rfl⟩
  ·exact hn.1 ρ' σ' w' x v h5 h4 h3 h
  ·exact hn.1 ρ' σ' w' x undef h5 h4 h3 h
 ·exact h.elim
theorem rY {ρ σ w} (hs:Sim ρ σ w) {P:Program} {o:Oper} {fr} {a:Act} (hf:dZ (ctx ρ σ w) fr a.tmps) {f:Operand} {args:Array Operand} {ts:Array TypeId} (ho:o.op= .call {callee:=.value f,args:=args,argTypes:=ts})
 {k kp:AV→ah→Prop} {next Q} (hn:vq ρ σ w a o.dst k kp next Q) (h:fX P (ev fr f) (args.toList.map (ev fr)) σ k kp):o.wp P a w next Q:=by
 unfold fX at h
 split at h
 ·rename_i g cap hfn
  have hv:=hf.eval f
  rw[hfn]at hv
  generalize hfv:a.eval f=fv at hv
  cases hv with
  | fn hl hr=>
   rename_i vs
   have hargs:ix (ctx ρ σ w) (args.toList.map (ev fr)++cap) (args.map a.eval++vs):=by
    refine⟨by simp[hl],fun i x v hx hv=> ?_⟩
    rw[List.getElem?_append]at hx
    rw[Array.getElem?_append]at hv
    simp only[List.length_map,Array.length_toList]at hx
    simp only[Array.size_map]at hv
    split at hx
    ·rename_i hi
     rw[if_pos hi]at hv
     simp only[List.getElem?_map,Array.getElem?_toList]at hx
     simp only[Array.getElem?_map]at hv
     obtain⟨q,hq,rfl⟩:=Option.map_eq_some_iff.1 hx
     rw[hq]at hv
     simp at hv
     subst hv
     exact hf.eval q
    ·rename_i hi
     rw[if_neg hi]at hv
     exact hr _ _ _ hx hv
   have hrun0:(execOp a.eval o).run P w=(callFunc g (args.map a.eval++vs)).run P w:=by
    simp[execOp,ho,resolve,hfv,Deferred.ofValue,invoke]
   rcases h ρ w _ hs hargs with ⟨hc,hcall⟩ | ⟨v,w',hv,ρ',σ',he,hs',x,hx,hr⟩
   ·have hrun:(execOp a.eval o).run P w= .ok (.enter g (args.map a.eval++vs)) w:=hrun0.trans (hc.run _ _)
    unfold Oper.wp
    rw[hrun]
    refine hcall.mono ?_
    rintro e w' ⟨ρ',σ',he,hs',hp⟩
    cases e with
    | returned v=>obtain⟨x,hx,hr⟩:=hp;exact hn.1 ρ' σ' w' x v he hs' hr hx
    | panicked chain=>obtain⟨x,v,rfl,hx,hr⟩:=hp;exact hn.2 ρ' σ' w' x v he hs' hr hx
    | outgrown=>exact hp.elim
   ·unfold Oper.wp
    rw[hrun0,hv]
    exact hn.1 ρ' σ' w' x v he hs' hr hx
 ·exact h.elim
theorem mV {ρ σ w} (hs:Sim ρ σ w) {P:Program} {o:Oper} {fr} {a:Act} (hf:dZ (ctx ρ σ w) fr a.tmps) {k kp:AV→ah→Prop} {next Q} (hn:vq ρ σ w a o.dst k kp next Q) (h:eK P o.op fr σ k kp):o.wp P a w next Q:=by
 unfold eK at h
 split at h
 ·rename_i c hc
  split at h
  ·rename_i f hcf
   obtain⟨callee,args,ts⟩:=c
   simp only at hcf h
   subst hcf
   exact rY hs hf hc hn h
  ·rename_i b hcb
   refine gN hs hf hn ?_
   rw[hc]
   simp only[bS,hcb]
   exact h
  ·exact h.elim
 ·rename_i x hx
  unfold oT at h
  split at h
  ·rename_i t y hy
   have hv:=hf.eval x
   rw[hy]at hv
   generalize hxv:a.eval x=xv at hv
   cases hv with
   | iface hyv=>
    rename_i v
    unfold Oper.wp
    have hrun:(execOp a.eval o).run P w= .halt (.panic (.iface t v)) w:=by
     simp[execOp,hx,hxv,Instr.panic]
    rw[hrun]
    exact hn.2 ρ σ w _ _ (Ext.refl _ _ _) hs (.iface hyv) h
  ·exact h.elim
 ·rename_i x hx
  refine gN hs hf hn ?_
  rw[hx];exact h
 ·rename_i x hx
  refine gN hs hf hn ?_
  rw[hx];exact h
 ·exact gN hs hf hn h
def j7 (P:Program) (R:Run):Prop:=∀ {ρ σ w} (_:Sim ρ σ w) {o:Oper} {fr} {a:Act} (_:dZ (ctx ρ σ w) fr a.tmps) {k kp:AV→ah→Prop} {next Q} (_:vq ρ σ w a o.dst k kp next Q) (_:R o.op fr σ k kp),o.wp P a w next Q
theorem zN (P:Program):j7 P (eK P):=fun hs _ _ _ hf _ _ _ _ hn h=>mV hs hf hn h
theorem wj (P:Program):j7 P (iP P):=by
 intro ρ σ w hs o fr a hf k kp next Q hn h
 unfold iP at h
 split at h
 ·rename_i t len parts e
  unfold ab at h
  split at h
  ·rename_i p hp
   obtain⟨y,hy,e2⟩:=Option.map_eq_some_iff.1 hp
   subst e2
   unfold aSl at hy
   split at hy
   ·rename_i el sz by' hi
    split at hy
    ·rename_i zs hz
     have hb:=zU hs hi hz hf hy
     obtain⟨n,v,w',ρ',h1,h2,h3,h4,h5⟩:=eV (o:=o) (a:=a) (by simp only[execOp,e]) hb
     unfold Oper.wp
     rw[h1]
     rcases h2 with rfl | ⟨rfl,rfl⟩
     ·exact hn.1 ρ' σ w' y v h5 h4 h3 h
     ·exact hn.1 ρ' σ w' y undef h5 h4 h3 h
    ·cases hy
   ·cases hy
  ·exact h.elim
 ·exact mV hs hf hn h
structure St (D:Act→Prop) (ρ₀:Nat→Option (Option Nat×Nat)) (σ₀:ah) (w₀:World) (N:Nat) (ρ:Nat→Option (Option Nat×Nat)) (σ:ah) (w:World) (fr:aA) (a:Act):Prop where
 ext:Ext ρ₀ σ₀ w₀ ρ σ w
 sim:Sim ρ σ w
 frel:dZ (ctx ρ σ w) fr a.tmps
 size:a.tmps.size=N
 defers:D a
theorem oX (a:Act) (d:Option Tmp) (v:Value):(a.put d v).tmps.size=a.tmps.size:=by
 cases d<;>simp[Act.put]
theorem put_defers (a:Act) (d:Option Tmp) (v:Value):(a.put d v).defers=a.defers:=by
 cases d<;>rfl
structure DOk (X:List Nat) (D:Act→Prop):Prop where
 put:∀(a:Act) (d:Option Tmp) (v:Value),(∀k,d=some k→k∉X)→D a→D (a.put d v)
theorem DOk.plain (X:List Nat):DOk X (fun a=>a.defers= []):=⟨fun a d v _ h=>by rw[put_defers,h]⟩
theorem St.put {D ρ₀ σ₀ w₀ N ρ σ w fr a} {X:List Nat} (hD:DOk X D) (h:St D ρ₀ σ₀ w₀ N ρ σ w fr a) {ρ' σ' w'} (he:Ext ρ σ w ρ' σ' w') (hs:Sim ρ' σ' w') {x v} (hv:aL (ctx ρ' σ' w') x v) {d:Option Tmp} (hd:∀k,d=some k→k<N) (hx:∀k,d=some k→k∉X):
 St D ρ₀ σ₀ w₀ N ρ' σ' w' (put fr d x) (a.put d v):=
 ⟨h.ext.trans he,hs,(h.frel.mono he.le).put hv (by rw[h.size];exact hd),by rw[oX,h.size],hD.put _ _ _ hx h.defers⟩
def Ends (D:Act→Prop) (ρ₀:Nat→Option (Option Nat×Nat)) (σ₀:ah) (w₀:World) (N:Nat) (k:aA→ah→Prop) (kp:AV→ah→Prop) (Q:Exit→Act→World→Prop):Prop:=
 (∀ρ σ w fr a,St D ρ₀ σ₀ w₀ N ρ σ w fr a→k fr σ→Q .normal a w)∧
 (∀ρ σ w fr a x v,St D ρ₀ σ₀ w₀ N ρ σ w fr a→aL (ctx ρ σ w) x v→kp x σ→Q (.panic [{v,recovered:=false}]) a w)
theorem rI {c:Ctx} {ops:Array Oper} {j d:Nat} {tmps:Array Value} {b:Bool} (hd:(ops[j]?).bind (·.dst)=some d) (h:aL c (.val (.bool b)) (tmps.getD d undef)):yielded ops tmps j=some b:=by
 have:=h.aQ
 unfold yielded
 rw[hd]
 simp only[Option.bind_some]
 rw[Array.getD_eq_getD_getElem?]at this
 cases hx:tmps[d]? with
 | none=>rw[hx]at this;simp[undef]at this
 | some v=>rw[hx]at this;simp at this;subst this;rfl
theorem pP {c:Ctx} {ops:Array Oper} {j d:Nat} {tmps:Array Value} {vs:Array Value} (hd:(ops[j]?).bind (·.dst)=some d) (h:aL c (.val (.tuple vs)) (tmps.getD d undef)):yielded ops tmps j=none:=by
 have:=h.aQ
 unfold yielded
 rw[hd]
 simp only[Option.bind_some]
 rw[Array.getD_eq_getD_getElem?]at this
 cases hx:tmps[d]? with
 | none=>rfl
 | some v=>rw[hx]at this;simp at this;subst this;rfl
theorem tF {P:Nat→Option Bool} {o:Oper} {j:Nat} {want b:Bool} (hg:o.guard=some (j,want)) (hy:P j=some b):Region.wanted o P=decide (b=want):=by
 unfold Region.wanted
 rw[hg]
 simp only[hy]
 cases b<;>cases want<;>rfl
theorem tE {P:Nat→Option Bool} {o:Oper} {j:Nat} {want:Bool} (hg:o.guard=some (j,want)) (hy:P j=none):Region.wanted o P=false:=by
 unfold Region.wanted
 rw[hg]
 simp only[hy]
 rfl
theorem gG {P:Program} {R:Run} (hR:j7 P R) {ops:Array Oper} {N:Nat} (hN:qV N ops=true) {X:List Nat} {D:Act→Prop} (hX:vI X ops=true) (hD:DOk X D) {ρ₀ σ₀ w₀} {k:aA→ah→Prop} {kp:AV→ah→Prop} {Q:Exit→Act→World→Prop} (hQ:Ends D ρ₀ σ₀ w₀ N k kp Q):
 ∀(l:List Nat) (ρ) (σ:ah) (w:World) (fr:aA) (a:Act),St D ρ₀ σ₀ w₀ N ρ σ w fr a→jn R ops l fr σ k kp→wpOps P ops Q l a w
 | [],ρ,σ,w,fr,a,hst,h=>hQ.1 ρ σ w fr a hst h
 | i::l,ρ,σ,w,fr,a,hst,h=>by
  simp only[jn]at h
  simp only[wpOps]
  cases ho:ops[i]? with
  | none=>rw[ho]at h;exact h.elim
  | some o=>
   rw[ho]at h
   simp only at h⊢
   have hd:∀q,o.dst=some q→q<N:=by
    intro q hq
    obtain⟨hi,rfl⟩:=Array.getElem?_eq_some_iff.1 ho
    have:=Array.all_eq_true.1 hN i hi
    rw[hq]at this
    simpa using this
   have hx:∀q,o.dst=some q→q∉X:=by
    intro q hq
    obtain⟨hi,rfl⟩:=Array.getElem?_eq_some_iff.1 ho
    have:=Array.all_eq_true.1 hX i hi
    rw[hq]at this
    simpa using this
   have run:R o.op fr σ (fun x τ=>jn R ops l (put fr o.dst x) τ k kp) kp→o.wp P a w (wpOps P ops Q l) Q:=by
    intro hr
    refine hR hst.sim hst.frel ⟨?_,?_⟩ hr
    ·intro ρ' σ' w' x v he hs' hv hk
     exact gG hR hN hX hD hQ l ρ' σ' w' _ _ (hst.put hD he hs' hv hd hx) hk
    ·intro ρ' σ' w' x v he hs' hv hk
     exact hQ.2 ρ' σ' w' fr a x v ⟨hst.ext.trans he,hs',hst.frel.mono he.le,hst.size,hst.defers⟩ hv hk
   have skip:jn R ops l (put fr o.dst (.val undef)) σ k kp→wpOps P ops Q l (a.put o.dst undef) w:=by
    intro hr
    exact gG hR hN hX hD hQ l ρ σ w _ _ (hst.put hD (Ext.refl _ _ _) hst.sim (.val undef) hd hx) hr
   cases hg:o.guard with
   | none=>
    rw[hg]at h
    have hw:Region.wanted o (yielded ops a.tmps)=true:=by unfold Region.wanted;rw[hg]
    rw[if_pos hw]
    exact .inl (run h)
   | some p=>
    obtain⟨j,want⟩:=p
    rw[hg]at h
    simp only at h
    cases hj:(ops[j]?).bind (·.dst) with
    | none=>rw[hj]at h;exact h.elim
    | some d=>
     rw[hj]at h
     simp only at h
     have hv:=hst.frel d
     unfold gK gR at h
     split at h
     ·rename_i b hb
      rw[hb]at hv
      have hy:=rI hj hv
      rw[tF hg hy]
      by_cases hbw:b=want
      ·simp only[hbw,decide_true,if_true];exact .inl (run (h.1 hbw))
      ·simp only[hbw,decide_false,Bool.false_eq_true,if_false];exact skip (h.2 hbw)
     ·rename_i vs hb
      rw[hb]at hv
      rw[tE hg (pP hj hv)]
      simp only[Bool.false_eq_true,if_false]
      exact skip h
     ·exact h.elim
end Go.Abs
