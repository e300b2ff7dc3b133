import Derived.Test.YtjilebpcaemopaaGreatDoorAbsE
import Derived.Lib.ConvBytes
set_option linter.unusedVariables false
namespace Go.Abs
open Go
def pureR (σ:AHeap) (r:Option AV):Option (AV × AHeap):=r.map fun x=>(x,σ)
def unitR (r:Option AHeap):Option (AV × AHeap):=r.map fun σ=>(.val undef,σ)
def aAlloc (zs:List AV) (σ:AHeap):Option (AV × AHeap):=some (.ptr σ.next 0 0,σ.new (.cells zs.length [zs]))
def aBox (x:AV) (σ:AHeap):Option (AV × AHeap):=(acells x).map fun cs=>(.ptr σ.next 0 0,σ.new (.cells cs.length [cs]))
def aMakeMap (σ:AHeap):Option (AV × AHeap):=some (.mp σ.next,σ.new (.map []))
def aLenK (k:LenKind) (x:AV) (σ:AHeap):Option AV:=if lenFits k x=true then aLen x σ else none
def aPick (c a b:AV):Option AV :=
  match c with
  | .val (.bool t)=>some (bif t then a else b)
  | _=>none
def aCap0 (x:AV) (σ:AHeap):Option (AV × AHeap) :=
  match x with
  | .val (.slice none 0 0)=>some (.val (.int .i64 0),σ)
  | _=>none
def ifaceOk (P:Program) (t:TypeId):Bool :=
  match P.underlying t with
  | some (.interface _)=>false
  | some _=>true
  | none=>false
def notIface (P:Program) (t:TypeId):Bool :=
  match P.underlying t with
  | some (.interface _)=>false
  | some _=>true
  | none=>false
def aAssert (z:AV) (t:TypeId) (x:AV):Option AV :=
  match x with
  | .iface t' v=>if t'=t then some (.tup [v,.val (.bool true)]) else some (.tup [z,.val (.bool false)])
  | .val .nilIface=>some (.tup [z,.val (.bool false)])
  | _=>none
def aBuiltin (P:Program) (b:Builtin) (ts:List TypeId) (xs:List AV) (σ:AHeap):Option (AV × AHeap) :=
  match b,ts,xs with
  | .len,[t],[x]=>match lenKind P t with
    | some k=>pureR σ (aLenK k x σ)
    | none=>none
  | .append,[t,t'],[s,x]=>if t=t' then match sinfo P t with
      | some (e,sz,bytes)=>match zeroOf P e with
        | some zs=>if zs.length=sz then aAppend sz bytes s x σ else none
        | none=>none
      | none=>none
    else match sinfo P t,P.underlying t' with
      | some (e,sz,bytes),some (.int _)=>match zeroOf P e with
        | some zs=>aAppendZ sz bytes zs s x σ
        | none=>none
      | _,_=>none
  | .max,_,[x,y]=>pureR σ (aMax x y)
  | .min,_,[x,y]=>pureR σ (aMin x y)
  | .delete,[t,_],[m,k]=>match minfo P t with
    | some (_,d,_)=>(aMapDelete d m k σ).map fun σ=>(.val (.tuple #[]),σ)
    | none=>none
  | .cap,[t],[x]=>match sinfo P t with
    | some _=>aCap0 x σ
    | none=>none
  | .clear,[t],[s]=>match sinfo P t with
    | some (e,sz,_)=>match zeroOf P e with
      | some zs=>(aClear sz zs s σ).map fun σ=>(.val (.tuple #[]),σ)
      | none=>none
    | none=>none
  | _,_,_=>none
def aopF (P:Program) (op:Op) (fr:AFrame) (σ:AHeap):Option (AV × AHeap) :=
  match op with
  | .move x=>some (ev fr x,σ)
  | .assign x=>some (ev fr x,σ)
  | .pick c a b=>pureR σ (aPick (ev fr c) (ev fr a) (ev fr b))
  | .alloc t=>match zeroOf P t with
    | some zs=>aAlloc zs σ
    | none=>none
  | .box _ x=>aBox (ev fr x) σ
  | .build t parts=>match zeroOf P t,placesOf P t with
    | some zs,some pl=>match partsOf pl fr parts.toList with
      | some l=>pureR σ (aBuild zs l)
      | none=>none
    | _,_=>none
  | .buildSlice t len parts=>match sinfo P t with
    | some (e,sz,_)=>match zeroOf P e with
      | some zs=>aBuildSlice len sz zs (parts.toList.map fun (i,x)=>(i,ev fr x)) σ
      | none=>none
    | none=>none
  | .load t x=>match tinfo P t with
    | some (g,n)=>pureR σ (aLoad g n (ev fr x) σ)
    | none=>none
  | .store t a v=>match tinfo P t with
    | some (_,n)=>unitR (aStore n (ev fr a) (ev fr v) σ)
    | none=>none
  | .nilCheck x=>pureR σ (aNilCheck (ev fr x))
  | .binOp op t x y _=>match eqKind P t with
    | some e=>pureR σ (aBin op e (ev fr x) (ev fr y))
    | none=>none
  | .unOp .not _ x=>pureR σ (aNot (ev fr x))
  | .unOp .neg _ x=>pureR σ (aNeg (ev fr x))
  | .convert s d x=>match convKind P s d with
    | some k=>pureR σ (aConv k (ev fr x))
    | none=>none
  | .makeInterface t x=>if ifaceOk P t=true then some (.iface t (ev fr x),σ) else none
  | .makeFunc fn first cap=>if first.size=0 then some (.fn fn (cap.toList.map (ev fr)),σ) else none
  | .makeMap _ none=>aMakeMap σ
  | .makeSlice t x y=>match sinfo P t with
    | some (e,sz,bytes)=>match zeroOf P e with
      | some zs=>aMakeSlice sz bytes zs (ev fr x) (ev fr y) σ
      | none=>none
    | none=>none
  | .slice t x lo hi mx=>match isSlice P t with
    | some n=>pureR σ (aSlice n (ev fr x) (lo.map (ev fr)) (hi.map (ev fr)) (mx.map (ev fr)))
    | none=>if isStr P t=true then match mx with
        | none=>pureR σ (aSliceStr (ev fr x) (lo.map (ev fr)) (hi.map (ev fr)))
        | some _=>none
      else none
  | .fieldAddr s x f=>match foff P s f with
    | some o=>pureR σ (aFieldAddr o (ev fr x))
    | none=>none
  | .field s x f=>match finfo P s f with
    | some (o,g,n)=>pureR σ (aField o g n (ev fr x))
    | none=>none
  | .indexAddr t x i=>match isSlice P t with
    | some n=>pureR σ (aIndexAddr n (ev fr x) (ev fr i) σ)
    | none=>none
  | .index t x i=>if isStr P t=true then pureR σ (aIndexStr (ev fr x) (ev fr i)) else none
  | .lookup t x i ok=>match minfo P t with
    | some (_,d,e)=>match zeroAV P e with
      | some z=>pureR σ (aLookup d z ok (ev fr x) (ev fr i) σ)
      | none=>none
    | none=>none
  | .mapUpdate t m k x=>match minfo P t with
    | some (_,d,_)=>unitR (aMapUpdate d (ev fr m) (ev fr k) (ev fr x) σ)
    | none=>none
  | .insert t m k x=>match minfo P t with
    | some (_,d,_)=>unitR (aMapUpdate d (ev fr m) (ev fr k) (ev fr x) σ)
    | none=>none
  | .extract t i=>pureR σ (aExtract i (ev fr t))
  | .typeAssert x _ asserted true=>if notIface P asserted=true then match zeroAV P asserted with
      | some z=>pureR σ (aAssert z asserted (ev fr x))
      | none=>none
    else none
  | .call c=>match c.callee with
    | .builtin b=>aBuiltin P b c.argTypes.toList (c.args.toList.map (ev fr)) σ
    | _=>none
  | _=>none
theorem sAssert {c:Ctx} {P t xt z} (ht:notIface P t=true) (hz:zeroAV P t=some z) {x v} (hx:VRel c x v) {y} (h:aAssert z t x=some y) (w:World):∃ u,(Instr.typeAssert v xt t true).run P w=.ok u w∧VRel c y u:=by
  have hd:∃ d,P.underlying t=some d∧∀ ms,d ≠ .interface ms:=by
    unfold notIface at ht
    split at ht
    · cases ht
    · rename_i d hne hu
      exact ⟨d,hu,hne⟩
    · cases ht
  obtain ⟨d,hu,hd⟩:=hd
  obtain ⟨zv,hzv,hzr⟩:=zeroAV_spec hz w
  have two:∀ (p:AV) (b:Bool) (q:Value),VRel c p q→VRel c (.tup [p,.val (.bool b)]) (.tuple #[q,.bool b]):=by
    intro p b q hpq
    refine .tup rfl fun i x v hx hv=>?_
    match i with
    | 0=>simp at hx hv;subst hx;subst hv;exact hpq
    | 1=>simp at hx hv;subst hx;subst hv;exact .val _
    | i+2=>simp at hx
  have fail:∀ v',(v'=.nilIface∨∃ t' x',v'=.iface t' x'∧t' ≠ t)→(Instr.typeAssert v' xt t true).run P w=.ok (.tuple #[zv,.bool false]) w:=by
    intro v' hv'
    rcases hv' with rfl | ⟨t',x',rfl,hne⟩
    · simp only [Instr.typeAssert,Sem.run_bind,run_underlying hu,Result.andThen_ok]
      cases d <;> first
        | exact absurd rfl (hd _)
        | simp [hzv]
    · simp only [Instr.typeAssert,Sem.run_bind,run_underlying hu,Result.andThen_ok]
      cases d <;> first
        | exact absurd rfl (hd _)
        | simp [hzv,hne]
  unfold aAssert at h
  split at h
  · rename_i t' p
    cases hx with
    | iface hp =>
      rename_i q
      split at h
      · rename_i e
        subst e
        cases h
        refine ⟨.tuple #[q,.bool true],?_,two _ _ _ hp⟩
        simp only [Instr.typeAssert,Sem.run_bind,run_underlying hu,Result.andThen_ok]
        cases d <;> first
          | exact absurd rfl (hd _)
          | simp
      · rename_i hne
        cases h
        exact ⟨_,fail _ (.inr ⟨_,_,rfl,hne⟩),two _ _ _ (hzr c)⟩
  · cases h
    obtain rfl:=hx.val_inv
    exact ⟨_,fail _ (.inl rfl),two _ _ _ (hzr c)⟩
  · cases h
def Gives (n:Next) (v:Value):Prop:=n=.value v∨(n=.skip∧v=undef)
theorem ORelO_map {c:Ctx} {fr} {a:Act} (hf:FRel c fr a.tmps) (o:Option Operand):ORelO c (o.map (ev fr)) (o.map a.eval):=by
  cases o with
  | none=>trivial
  | some x=>exact hf.eval x
theorem gives_pure {ρ σ w} (hs:Sim ρ σ w) {P:Program} {o:Oper} {a:Act} {s:Sem Value} (he:execOp a.eval o=(do pure (.value (← s)))) {r:Option AV} {x σ'} (h:pureR σ r=some (x,σ'))
    (hr:∀ y,r=some y→∃ u,s.run P w=.ok u w∧VRel (ctx ρ σ w) y u) :
    ∃ n v w' ρ',(execOp a.eval o).run P w=.ok n w'∧Gives n v∧VRel (ctx ρ' σ' w') x v∧Sim ρ' σ' w'∧Ext ρ σ w ρ' σ' w':=by
  obtain ⟨y,hy,e⟩:=Option.map_eq_some_iff.1 h
  cases e
  obtain ⟨u,hu,hrel⟩:=hr _ hy
  exact ⟨_,u,w,ρ,by rw [he];simp [hu],.inl rfl,hrel,hs,Ext.refl _ _ _⟩
theorem gives_unit {ρ σ w} {P:Program} {o:Oper} {a:Act} {s:Sem Unit} (he:execOp a.eval o=(do s;pure .skip)) {r:Option AHeap} {x σ'} (h:unitR r=some (x,σ'))
    (hr:∀ τ,r=some τ→∃ w',s.run P w=.ok () w'∧Sim ρ τ w'∧Ext ρ σ w ρ τ w') :
    ∃ n v w' ρ',(execOp a.eval o).run P w=.ok n w'∧Gives n v∧VRel (ctx ρ' σ' w') x v∧Sim ρ' σ' w'∧Ext ρ σ w ρ' σ' w':=by
  obtain ⟨τ,hy,e⟩:=Option.map_eq_some_iff.1 h
  cases e
  obtain ⟨w',hu,h1,h2⟩:=hr _ hy
  exact ⟨.skip,undef,w',ρ,by rw [he];simp [hu],.inr ⟨rfl,rfl⟩,.val _,h1,h2⟩
theorem gives_new {ρ σ w} {P:Program} {o:Oper} {a:Act} {s:Sem Value} (he:execOp a.eval o=(do pure (.value (← s)))) {x σ'}
    (hr:∃ u w' ρ',s.run P w=.ok u w'∧VRel (ctx ρ' σ' w') x u∧Sim ρ' σ' w'∧Ext ρ σ w ρ' σ' w') :
    ∃ n v w' ρ',(execOp a.eval o).run P w=.ok n w'∧Gives n v∧VRel (ctx ρ' σ' w') x v∧Sim ρ' σ' w'∧Ext ρ σ w ρ' σ' w':=by
  obtain ⟨u,w',ρ',h1,h2,h3,h4⟩:=hr
  exact ⟨_,u,w',ρ',by rw [he];simp [h1],.inl rfl,h2,h3,h4⟩
theorem list_one {α:Type} {l:List α} {f:α→AV} {x} (h:l.map f=[x]):∃ a,l=[a]∧f a=x:=by
  match l,h with
  | [a],h=>simp at h;exact ⟨a,rfl,h⟩
theorem list_two {α:Type} {l:List α} {f:α→AV} {x y} (h:l.map f=[x,y]):∃ a b,l=[a,b]∧f a=x∧f b=y:=by
  match l,h with
  | [a,b],h=>simp at h;exact ⟨a,b,rfl,h.1,h.2⟩
theorem arr_of_list {α:Type} {a:Array α} {l:List α} (h:a.toList=l):a=l.toArray:=by rw [← h]
theorem Sim.more {ρ σ w w'} (hs:Sim ρ σ w) (hsz:w'.heap.size=w.heap.size+1) (hold:∀ b:Nat,b < w.heap.size→w'.heap[b]?=w.heap[b]?) (ho:w'.os=w.os) (ht:w'.tape=w.tape) (hp:w'.output=w.output) (hdr:w.drawn≤w'.drawn) :
    Sim ρ σ w'∧Ext ρ σ w ρ σ w'∧Imm ρ σ w' w.heap.size:=by
  have hle:CLe (ctx ρ σ w) (ctx ρ σ w'):=by
    refine ⟨fun _ _ h=>h,fun b hb=>⟨⟨by rw [hsz];exact Nat.lt_succ_of_lt hb.1,hb.2⟩,hold b hb.1⟩,fun b cs t f hb=>?_⟩
    exact ⟨cs,f,by rw [show (ctx ρ σ w').h=w'.heap from rfl,hold b (Array.getElem?_eq_some_iff.1 hb).1];exact hb,rfl⟩
  refine ⟨⟨hs.fresh,fun id o' ho'=>?_,hs.inj⟩,⟨hle,Nat.le_refl _,ho,ht,hp,by rw [hsz];exact Nat.le_succ _⟩,⟨by rw [hsz];exact Nat.lt_succ_self _,fun id o' s ho' hp=>?_⟩⟩
  · obtain ⟨p,hp,hor⟩:=hs.obj id o' ho'
    refine ⟨p,hp,hor.mono hle fun b hb=>hold b ?_⟩
    obtain ⟨pb,psz⟩:=p
    simp at hb;subst hb
    exact hor.lt
  · exact Nat.lt_irrefl _ (hs.blk ho' hp)
theorem sConvBytes {ρ σ w} (hs:Sim ρ σ w) {P s d} (hk:convKind P s d=some .bytes) {x v} (hx:VRel (ctx ρ σ w) x v) {y} (h:aConv .bytes x=some y) :
    ∃ u w' ρ',(convert s d v).run P w=.ok u w'∧VRel (ctx ρ' σ w') y u∧Sim ρ' σ w'∧Ext ρ σ w ρ' σ w':=by
  unfold convKind at hk
  split at hk
  · cases hk
  · cases hk
  · rename_i e h1 h2
    split at hk
    · rename_i h3
      unfold aConv at h
      split at h
      · rename_i q;cases q
      · rename_i q;cases q
      · rename_i b _
        cases h
        obtain rfl:=hx.val_inv
        obtain ⟨m1,m2,m3⟩:=hs.more (w':=Go.Lib.bytesWorld w e b) (Go.Lib.bytesWorld_size w e b) (fun j hj=>Go.Lib.bytesWorld_at_old w e b j hj) rfl rfl rfl (Nat.le_succ _)
        refine ⟨_,_,ρ,Go.Lib.run_convert_string_bytes w s d e b h1 h2 h3,?_,m1,m2⟩
        have hlen:(bytesV b).length=b.size:=by simp [bytesV]
        have hget:∀ (i:Nat) el,(bytesV b)[i]?=some el→i < b.size∧el=[.val (.int .u8 (b.data.toList.getD i 0).toNat)]:=by
          intro i el hi
          have hil:i < b.size:=by rw [← hlen];exact (List.getElem?_eq_some_iff.1 hi).1
          refine ⟨hil,?_⟩
          simp only [bytesV,List.getElem?_map,Option.map_eq_some_iff] at hi
          obtain ⟨c,hc,rfl⟩:=hi
          simp [List.getD_eq_getElem?_getD,hc]
        refine .sl (fun i _=>.int .u8 (b.data.toList.getD i 0).toNat) hlen.symm (fun q=>by cases q) (grownCap_ge w _ _ _) (fun q=>by cases q) (fun i el hi=>?_) (fun i el j x hi hx=>?_)
        · obtain ⟨hil,rfl⟩:=hget i el hi
          refine ⟨rfl,_,0,rfl,m3,fun j hj=>?_⟩
          obtain rfl:j=0:=by omega
          refine ⟨?_,rfl⟩
          have:=Go.Lib.bytesWorld_cell w e b i hil
          rw [← this]
          simp only [Nat.zero_add,Nat.mul_one,Nat.add_zero]
          exact (cell_eq _ _ _).symm
        · obtain ⟨hil,rfl⟩:=hget i el hi
          cases j with
          | zero=>obtain rfl:=Option.some.inj hx;exact .val _
          | succ j=>simp at hx
      · cases h
    · cases hk
  · cases hk
set_option maxHeartbeats 1000000 in
theorem aBuiltin_sound {ρ σ w} (hs:Sim ρ σ w) {P:Program} {o:Oper} {fr} {a:Act} (hf:FRel (ctx ρ σ w) fr a.tmps) {b:Builtin} {args:Array Operand} {argTypes:Array TypeId}
    (hrun:∀ (s:Sem Value),(∀ ty cs,builtin b argTypes ty cs (args.map a.eval)=(do pure (.value (← s))))→∀ w,(execOp a.eval o).run P w=(do pure (.value (← s)):Sem Next).run P w)
    {x σ'} (h:aBuiltin P b argTypes.toList (args.toList.map (ev fr)) σ=some (x,σ')) :
    ∃ n v w' ρ',(execOp a.eval o).run P w=.ok n w'∧Gives n v∧VRel (ctx ρ' σ' w') x v∧Sim ρ' σ' w'∧Ext ρ σ w ρ' σ' w':=by
  unfold aBuiltin at h
  split at h
  · rename_i t y ht hx
    obtain ⟨p,hp,rfl⟩:=list_one hx
    obtain rfl:=arr_of_list ht
    obtain rfl:=arr_of_list hp
    split at h
    · rename_i k hk
      obtain ⟨z,hz,hh⟩:=Option.map_eq_some_iff.1 h
      cases hh
      unfold aLenK at hz
      split at hz
      · rename_i hfit
        obtain ⟨u,hu,hrel⟩:=sLen (ty:=0) hs hk (hf.eval p) hfit hz
        have hall:∀ ty,Builtin.len_ #[t] ty #[a.eval p]=Builtin.len_ #[t] 0 #[a.eval p]:=fun _=>rfl
        exact ⟨.value u,u,w,ρ,by rw [hrun (Builtin.len_ #[t] 0 #[a.eval p]) (fun ty cs=>by simp [builtin,hall ty])];simp [hu],.inl rfl,hrel,hs,Ext.refl _ _ _⟩
      · cases hz
    · cases h
  · rename_i t t' s y ht hx
    obtain ⟨p,q,hp,rfl,rfl⟩:=list_two hx
    obtain rfl:=arr_of_list ht
    obtain rfl:=arr_of_list hp
    split at h
    · rename_i e
      subst e
      split at h
      · rename_i el sz by' hi
        split at h
        · rename_i zs hz
          split at h
          · rename_i hzl
            obtain ⟨u,w',ρ',h1,h2,h3,h4⟩:=sAppend (ty:=0) hs hi hz hzl (hf.eval p) (hf.eval q) h
            have hall:∀ ty,Builtin.append_ #[t,t] ty #[a.eval p,a.eval q]=Builtin.append_ #[t,t] 0 #[a.eval p,a.eval q]:=fun _=>rfl
            exact ⟨.value u,u,w',ρ',by rw [hrun (Builtin.append_ #[t,t] 0 #[a.eval p,a.eval q]) (fun ty cs=>by simp [builtin,hall ty])];simp [h1],.inl rfl,h2,h3,h4⟩
          · cases h
        · cases h
      · cases h
    · split at h
      · rename_i el sz by' kn hi htn
        split at h
        · rename_i zs hz
          obtain ⟨u,w',ρ',h1,h2,h3,h4⟩:=sAppendZ (ty:=0) hs hi hz htn (hf.eval p) (hf.eval q) h
          have hall:∀ ty,Builtin.append_ #[t,t'] ty #[a.eval p,a.eval q]=Builtin.append_ #[t,t'] 0 #[a.eval p,a.eval q]:=fun _=>rfl
          exact ⟨.value u,u,w',ρ',by rw [hrun (Builtin.append_ #[t,t'] 0 #[a.eval p,a.eval q]) (fun ty cs=>by simp [builtin,hall ty])];simp [h1],.inl rfl,h2,h3,h4⟩
        · cases h
      · cases h
  · rename_i x' y hx
    obtain ⟨p,q,hp,rfl,rfl⟩:=list_two hx
    obtain rfl:=arr_of_list hp
    obtain ⟨z,hz,hh⟩:=Option.map_eq_some_iff.1 h
    cases hh
    obtain ⟨u,hu,hrel⟩:=sMax (P:=P) (ts:=argTypes) (ty:=0) (hf.eval p) (hf.eval q) hz w
    have hall:∀ ty,Builtin.max_ argTypes ty #[a.eval p,a.eval q]=Builtin.max_ argTypes 0 #[a.eval p,a.eval q]:=fun _=>rfl
    exact ⟨.value u,u,w,ρ,by rw [hrun (Builtin.max_ argTypes 0 #[a.eval p,a.eval q]) (fun ty cs=>by simp [builtin,hall ty])];simp [hu],.inl rfl,hrel,hs,Ext.refl _ _ _⟩
  · rename_i x' y hx
    obtain ⟨p,q,hp,rfl,rfl⟩:=list_two hx
    obtain rfl:=arr_of_list hp
    obtain ⟨z,hz,hh⟩:=Option.map_eq_some_iff.1 h
    cases hh
    obtain ⟨u,hu,hrel⟩:=sMin (P:=P) (ts:=argTypes) (ty:=0) (hf.eval p) (hf.eval q) hz w
    have hall:∀ ty,Builtin.min_ argTypes ty #[a.eval p,a.eval q]=Builtin.min_ argTypes 0 #[a.eval p,a.eval q]:=fun _=>rfl
    exact ⟨.value u,u,w,ρ,by rw [hrun (Builtin.min_ argTypes 0 #[a.eval p,a.eval q]) (fun ty cs=>by simp [builtin,hall ty])];simp [hu],.inl rfl,hrel,hs,Ext.refl _ _ _⟩
  · rename_i t t2 m k ht hx
    obtain ⟨p,q,hp,rfl,rfl⟩:=list_two hx
    obtain rfl:=arr_of_list ht
    obtain rfl:=arr_of_list hp
    split at h
    · rename_i kt d el hm
      obtain ⟨τ,hτ,hh⟩:=Option.map_eq_some_iff.1 h
      cases hh
      obtain ⟨w',h1,h2,h3⟩:=sMapDelete (t2:=t2) (ty:=0) hs hm (hf.eval p) (hf.eval q) hτ
      have hall:∀ ty,Builtin.delete_ #[t,t2] ty #[a.eval p,a.eval q]=Builtin.delete_ #[t,t2] 0 #[a.eval p,a.eval q]:=fun _=>rfl
      exact ⟨.value (.tuple #[]),_,w',ρ,by rw [hrun (Builtin.delete_ #[t,t2] 0 #[a.eval p,a.eval q]) (fun ty cs=>by simp [builtin,hall ty])];simp [h1],.inl rfl,.val _,h2,h3⟩
    · cases h
  · rename_i t y ht hx
    obtain ⟨p,hp,rfl⟩:=list_one hx
    obtain rfl:=arr_of_list ht
    obtain rfl:=arr_of_list hp
    split at h
    · rename_i si hi
      obtain ⟨el,sz,by'⟩:=si
      unfold aCap0 at h
      split at h
      · rename_i hv
        cases h
        obtain ⟨hu,_⟩:=sinfo_spec hi
        have hv':=hf.eval p
        rw [hv] at hv'
        have h1:=hv'.val_inv
        have hc:(Builtin.cap_ #[t] 0 #[a.eval p]).run P w=.ok (.int .i64 0) w:=by rw [h1];simp [Builtin.cap_,run_underlying hu,goInt]
        have hall:∀ ty,Builtin.cap_ #[t] ty #[a.eval p]=Builtin.cap_ #[t] 0 #[a.eval p]:=fun _=>rfl
        exact ⟨.value (.int .i64 0),_,w,ρ,by rw [hrun (Builtin.cap_ #[t] 0 #[a.eval p]) (fun ty cs=>by simp [builtin,hall ty])];simp [hc],.inl rfl,.val _,hs,Ext.refl _ _ _⟩
      · cases h
    · cases h
  · rename_i t s ht hx
    obtain ⟨p,hp,rfl⟩:=list_one hx
    obtain rfl:=arr_of_list ht
    obtain rfl:=arr_of_list hp
    split at h
    · rename_i el sz by' hi
      split at h
      · rename_i zs hz
        obtain ⟨τ,hτ,hh⟩:=Option.map_eq_some_iff.1 h
        cases hh
        obtain ⟨w',h1,h2,h3⟩:=sClear (ty:=0) hs hi hz (hf.eval p) hτ
        have hall:∀ ty,Builtin.clear_ #[t] ty #[a.eval p]=Builtin.clear_ #[t] 0 #[a.eval p]:=fun _=>rfl
        exact ⟨.value (.tuple #[]),_,w',ρ,by rw [hrun (Builtin.clear_ #[t] 0 #[a.eval p]) (fun ty cs=>by simp [builtin,hall ty])];simp [h1],.inl rfl,.val _,h2,h3⟩
      · cases h
    · cases h
  · cases h
set_option maxHeartbeats 4000000 in
theorem aopF_sound {ρ σ w} (hs:Sim ρ σ w) {P:Program} {o:Oper} {fr} {a:Act} (hf:FRel (ctx ρ σ w) fr a.tmps) {x σ'} (h:aopF P o.op fr σ=some (x,σ')) :
    ∃ n v w' ρ',(execOp a.eval o).run P w=.ok n w'∧Gives n v∧VRel (ctx ρ' σ' w') x v∧Sim ρ' σ' w'∧Ext ρ σ w ρ' σ' w':=by
  unfold aopF at h
  split at h
  · rename_i y e
    cases h
    exact ⟨_,_,w,ρ,by simp [execOp,e],.inl rfl,hf.eval y,hs,Ext.refl _ _ _⟩
  · rename_i y e
    cases h
    exact ⟨_,_,w,ρ,by simp [execOp,e],.inl rfl,hf.eval y,hs,Ext.refl _ _ _⟩
  · rename_i p q r e
    obtain ⟨z,hz,hh⟩:=Option.map_eq_some_iff.1 h
    cases hh
    unfold aPick at hz
    split at hz
    · rename_i t ht
      cases hz
      have hv:=hf.eval p
      rw [ht] at hv
      have hv:=hv.val_inv
      cases t with
      | true=>exact ⟨.value (a.eval q),_,w,ρ,by simp [execOp,e,hv,asBool],.inl rfl,hf.eval q,hs,Ext.refl _ _ _⟩
      | false=>exact ⟨.value (a.eval r),_,w,ρ,by simp [execOp,e,hv,asBool],.inl rfl,hf.eval r,hs,Ext.refl _ _ _⟩
    · cases hz
  · rename_i t e
    split at h
    · rename_i zs hz
      cases h
      exact gives_new (s:=Instr.alloc t true (.tuple #[])) (by simp only [execOp,e]) (sAlloc hs hz)
    · cases h
  · rename_i t y e
    obtain ⟨cs,hc,hh⟩:=Option.map_eq_some_iff.1 h
    cases hh
    exact gives_new (s:=Instr.box t (a.eval y)) (by simp only [execOp,e]) (sBox hs t (hf.eval y) hc)
  · rename_i t parts e
    split at h
    · rename_i zs pl hz hpl
      split at h
      · rename_i l hl
        exact gives_pure hs (s:=Instr.build t (parts.map fun (i,x)=>(i,a.eval x))) (by simp only [execOp,e]) h (fun y hy=>sBuild hz hpl hf hl hy w)
      · cases h
    · cases h
  · rename_i t len parts e
    split at h
    · rename_i el sz by' hi
      split at h
      · rename_i zs hz
        exact gives_new (s:=Instr.buildSlice t len (parts.map fun (i,x)=>(i,a.eval x))) (by simp only [execOp,e]) (sBuildSlice hs hi hz hf h)
      · cases h
    · cases h
  · rename_i t y e
    split at h
    · rename_i g n ht
      exact gives_pure hs (s:=Instr.loadAt t (a.eval y)) (by simp only [execOp,e]) h (fun z hz=>sLoad hs ht (hf.eval y) hz)
    · cases h
  · rename_i t p v e
    split at h
    · rename_i g n ht
      exact gives_unit (s:=Instr.storeAt t (a.eval p) (a.eval v)) (by simp only [execOp,e]) h (fun τ hτ=>sStore hs ht (hf.eval p) (hf.eval v) hτ)
    · cases h
  · rename_i y e
    obtain ⟨z,hz,hh⟩:=Option.map_eq_some_iff.1 h
    cases hh
    have hv:=hf.eval y
    have:(execOp a.eval o).run P w=.ok (.value (a.eval y)) w∧VRel (ctx ρ σ w) x (a.eval y):=by
      simp only [execOp,e]
      generalize a.eval y=v at *
      generalize ev fr y=q at *
      unfold aNilCheck at hz
      split at hz <;> first | (cases hz;done) | (cases hz;cases hv;refine ⟨rfl,?_⟩;constructor <;> assumption;done) | skip
      all_goals
        cases hz
        refine ⟨?_,hv⟩
        cases hv
        rfl
    exact ⟨_,_,w,ρ,this.1,.inl rfl,this.2,hs,Ext.refl _ _ _⟩
  · rename_i op t p q yt e
    split at h
    · rename_i k hk
      exact gives_pure hs (s:=do eqGuard op t p q (a.eval p) (a.eval q);binOp op t (a.eval p) (a.eval q)) (by simp only [execOp,e]) h (fun z hz=>sBin hk (hf.eval p) (hf.eval q) hz p q w)
    · cases h
  · rename_i t y e
    exact gives_pure hs (s:=Op.unary .not (a.eval y)) (by simp only [execOp,e]) h (fun z hz=>sNot (hf.eval y) hz w)
  · rename_i t y e
    exact gives_pure hs (s:=Op.unary .neg (a.eval y)) (by simp only [execOp,e]) h (fun z hz=>sNeg (hf.eval y) hz w)
  · rename_i s d y e
    split at h
    · rename_i k hk
      by_cases hb:k=.bytes
      · subst hb
        obtain ⟨z,hz,hh⟩:=Option.map_eq_some_iff.1 h
        cases hh
        exact gives_new (s:=convert s d (a.eval y)) (by simp only [execOp,e]) (sConvBytes hs hk (hf.eval y) hz)
      · exact gives_pure hs (s:=convert s d (a.eval y)) (by simp only [execOp,e]) h (fun z hz=>sConv hk hb (hf.eval y) hz w)
    · cases h
  · rename_i t y e
    split at h
    · rename_i hi
      cases h
      refine ⟨.value (.iface t (a.eval y)),_,w,ρ,?_,.inl rfl,.iface (hf.eval y),hs,Ext.refl _ _ _⟩
      unfold ifaceOk at hi
      split at hi
      · cases hi
      · rename_i d hne hu
        have:(Instr.makeInterface t (a.eval y)).run P w=.ok (.iface t (a.eval y)) w:=by
          simp only [Instr.makeInterface,Sem.run_bind,run_underlying hu,Result.andThen_ok]
          cases d <;> first | rfl | exact absurd hu (hne _)
        simp only [execOp,e,Sem.run_bind,this,Result.andThen_ok,Sem.run_pure]
      · cases hi
    · cases h
  · rename_i fn first cap e
    split at h
    · rename_i h0
      cases h
      have hfirst:first=#[]:=Array.eq_empty_of_size_eq_zero h0
      subst hfirst
      refine ⟨.value (.func fn #[] (cap.map a.eval)),_,w,ρ,by simp [execOp,e,Instr.makeFunc],.inl rfl,.fn (by simp) (fun i x v hx hv=>?_),hs,Ext.refl _ _ _⟩
      simp only [List.getElem?_map,Array.getElem?_toList] at hx
      simp only [Array.getElem?_map] at hv
      obtain ⟨q,hq,rfl⟩:=Option.map_eq_some_iff.1 hx
      rw [hq] at hv
      simp at hv
      subst hv
      exact hf.eval q
    · cases h
  · rename_i t e
    cases h
    exact gives_new (s:=Instr.makeMap t none) (by simp only [execOp,e,Option.map_none]) (sMakeMap hs)
  · rename_i t x y e
    split at h
    · rename_i el sz by' hi
      split at h
      · rename_i zs hz
        exact gives_new (s:=Instr.makeSlice t (a.eval x) (a.eval y)) (by simp only [execOp,e]) (sMakeSlice hs hi hz (hf.eval x) (hf.eval y) h)
      · cases h
    · cases h
  · rename_i t y lo hi mx e
    split at h
    · rename_i n hn
      exact gives_pure hs (s:=Instr.sliceAt t (a.eval y) (lo.map a.eval) (hi.map a.eval) (mx.map a.eval)) (by simp only [execOp,e]) h (fun z hz=>sSlice hn (hf.eval y) (ORelO_map hf lo) (ORelO_map hf hi) (ORelO_map hf mx) hz w)
    · split at h
      · rename_i hst
        split at h
        · exact gives_pure hs (s:=Instr.sliceAt t (a.eval y) (lo.map a.eval) (hi.map a.eval) none) (by simp only [execOp,e,Option.map_none]) h (fun z hz=>sSliceStr hst (hf.eval y) (ORelO_map hf lo) (ORelO_map hf hi) hz w)
        · cases h
      · cases h
  · rename_i s y f e
    split at h
    · rename_i off hoff
      exact gives_pure hs (s:=Instr.fieldAt s (a.eval y) f) (by simp only [execOp,e]) h (fun z hz=>sFieldAddr hoff (hf.eval y) hz w)
    · cases h
  · rename_i s y f e
    split at h
    · rename_i off g n hoff
      exact gives_pure hs (s:=Instr.field s (a.eval y) f) (by simp only [execOp,e]) h (fun z hz=>sField hoff (hf.eval y) hz w)
    · cases h
  · rename_i t y i e
    split at h
    · rename_i n hn
      exact gives_pure hs (s:=Instr.indexAt t (a.eval y) (a.eval i)) (by simp only [execOp,e]) h (fun z hz=>sIndexAddr hs hn (hf.eval y) (hf.eval i) hz)
    · cases h
  · rename_i t y i e
    split at h
    · rename_i hst
      exact gives_pure hs (s:=Instr.index t (a.eval y) (a.eval i)) (by simp only [execOp,e]) h (fun z hz=>sIndexStr hst (hf.eval y) (hf.eval i) hz w)
    · cases h
  · rename_i t y i ok e
    split at h
    · rename_i kt d el hm
      split at h
      · rename_i z hz
        exact gives_pure hs (s:=Instr.lookup t (a.eval y) (a.eval i) ok) (by simp only [execOp,e]) h (fun q hq=>sLookup hs hm hz (hf.eval y) (hf.eval i) hq)
      · cases h
    · cases h
  · rename_i t m k y e
    split at h
    · rename_i kt d el hm
      exact gives_unit (s:=Instr.mapUpdate t (a.eval m) (a.eval k) (a.eval y)) (by simp only [execOp,e]) h (fun τ hτ=>sMapUpdate hs hm (hf.eval m) (hf.eval k) (hf.eval y) hτ)
    · cases h
  · rename_i t m k y e
    split at h
    · rename_i kt d el hm
      exact gives_unit (s:=Instr.mapUpdate t (a.eval m) (a.eval k) (a.eval y)) (by simp only [execOp,e]) h (fun τ hτ=>sMapUpdate hs hm (hf.eval m) (hf.eval k) (hf.eval y) hτ)
    · cases h
  · rename_i t i e
    exact gives_pure hs (s:=Instr.extract (a.eval t) i) (by simp only [execOp,e]) h (fun z hz=>sExtract (hf.eval t) hz w)
  · rename_i y xt asserted e
    split at h
    · rename_i hn
      split at h
      · rename_i z hz
        exact gives_pure hs (s:=Instr.typeAssert (a.eval y) xt asserted true) (by simp only [execOp,e]) h (fun q hq=>sAssert hn hz (hf.eval y) hq w)
      · cases h
    · cases h
  · rename_i c e
    split at h
    · rename_i b hb
      obtain ⟨callee,args,argTypes⟩:=c
      simp only at hb h
      subst hb
      have hrun:∀ (s:Sem Value),(∀ ty cs,builtin b argTypes ty cs (args.map a.eval)=(do pure (.value (← s))))→∀ w,(execOp a.eval o).run P w=(do pure (.value (← s)):Sem Next).run P w:=by
        intro s hbs w
        simp only [execOp,e,resolve,Sem.run_bind,Sem.run_pure,Result.andThen_ok,invoke]
        rw [hbs]
        simp
      exact aBuiltin_sound hs hf hrun h
    · cases h
  · cases h
end Go.Abs
namespace Go.Abs
open Go
def ArgsRel (c:Ctx) (xs:List AV) (vs:Array Value):Prop:=xs.length=vs.size∧∀ (i:Nat) x v,xs[i]?=some x→vs[i]?=some v→VRel c x v
def Callable (P:Program) (f:FuncId):Prop:=∃ fn,P.funcs[f]?=some fn∧fn.body.isSome=true∧(fn.name == "runtime.NumGoroutine")=false
def EvPost (ρ:Nat→Option (Option Nat × Nat)) (σ:AHeap) (w:World) (k kp:AV→AHeap→Prop) (e:Ending) (w':World):Prop :=
  ∃ ρ' σ',Ext ρ σ w ρ' σ' w'∧Sim ρ' σ' w'∧match e with
    | .returned v=>∃ x,k x σ'∧VRel (ctx ρ' σ' w') x v
    | .panicked chain=>∃ x v,chain=[{ v,recovered:=false }]∧kp x σ'∧VRel (ctx ρ' σ' w') x v
    | .outgrown=>False
def Runs (P:Program) (f:FuncId) (vs:Array Value) (w:World) (Q:Ending→World→Prop):Prop :=
  (Callable P f∧Calls P f vs w Q)∨∃ v w',(callFunc f vs).run P w=.ok (.value v) w'∧Q (.returned v) w'
theorem Runs.mono {P f vs w} {Q R:Ending→World→Prop} (h:Runs P f vs w Q) (hm:∀ e w',Q e w'→R e w'):Runs P f vs w R:=by
  rcases h with ⟨h1,h2⟩ | ⟨v,w',h1,h2⟩
  · exact .inl ⟨h1,h2.mono hm⟩
  · exact .inr ⟨v,w',h1,hm _ _ h2⟩
theorem Callable.run {P f} (h:Callable P f) (vs:Array Value) (w:World):(callFunc f vs).run P w=.ok (.enter f vs) w:=by
  obtain ⟨fn,h1,h2,h3⟩:=h
  have hb:fn.body ≠ none:=by intro hb;rw [hb] at h2;cases h2
  have hname:¬ fn.name = "runtime.NumGoroutine":=by simpa using h3
  simp [callFunc,h1,hname,hb]
theorem Runs.calls {P f vs w} {Q:Ending→World→Prop} (hc:Callable P f) (h:Runs P f vs w Q):Calls P f vs w Q:=by
  rcases h with ⟨_,h⟩ | ⟨v,w',h,_⟩
  · exact h
  · rw [hc.run] at h;cases h
def Ev (P:Program) (f:FuncId) (args:List AV) (σ:AHeap) (k kp:AV→AHeap→Prop):Prop :=
  ∀ ρ w vs,Sim ρ σ w→ArgsRel (ctx ρ σ w) args vs→Runs P f vs w (EvPost ρ σ w k kp)
theorem Ev.mono {P f args σ} {k k' kp kp':AV→AHeap→Prop} (h:Ev P f args σ k kp) (h1:∀ x τ,k x τ→k' x τ) (h2:∀ x τ,kp x τ→kp' x τ):Ev P f args σ k' kp':=by
  refine fun ρ w vs hs ha=>(h ρ w vs hs ha).mono ?_
  rintro e w' ⟨ρ',σ',he,hs',hp⟩
  refine ⟨ρ',σ',he,hs',?_⟩
  cases e with
  | returned v=>obtain ⟨x,hx,hr⟩:=hp;exact ⟨x,h1 _ _ hx,hr⟩
  | panicked chain=>obtain ⟨x,v,hc,hx,hr⟩:=hp;exact ⟨x,v,hc,h2 _ _ hx,hr⟩
  | outgrown=>exact hp
def stepK (r:Option (AV × AHeap)) (k:AV→AHeap→Prop):Prop :=
  match r with
  | some p=>k p.1 p.2
  | none=>False
def callK (P:Program) (f:AV) (args:List AV) (σ:AHeap) (k kp:AV→AHeap→Prop):Prop :=
  match f with
  | .fn (.func g) cap=>Ev P g (args ++ cap) σ k kp
  | _=>False
def panicK (x:AV) (σ:AHeap) (kp:AV→AHeap→Prop):Prop :=
  match x with
  | .iface t y=>kp (.iface t y) σ
  | _=>False
def runOp (P:Program) (op:Op) (fr:AFrame) (σ:AHeap) (k kp:AV→AHeap→Prop):Prop :=
  match op with
  | .call c=>match c.callee with
    | .value f=>callK P (ev fr f) (c.args.toList.map (ev fr)) σ k kp
    | .builtin b=>stepK (aBuiltin P b c.argTypes.toList (c.args.toList.map (ev fr)) σ) k
    | .invoke _ _=>False
  | .panic x=>panicK (ev fr x) σ kp
  | .move x=>k (ev fr x) σ
  | .assign x=>k (ev fr x) σ
  | op=>stepK (aopF P op fr σ) k
def aSl (P:Program) (t:TypeId) (len:Nat) (parts:Array (Nat × Operand)) (fr:AFrame):Option AV :=
  match sinfo P t with
  | some (e,sz,_)=>match zeroOf P e with
    | some zs=>aBuildSl len sz zs (parts.toList.map fun (i,x)=>(i,ev fr x))
    | none=>none
  | none=>none
def runQ (P:Program) (op:Op) (fr:AFrame) (σ:AHeap) (k kp:AV→AHeap→Prop):Prop :=
  match op with
  | .buildSlice t len parts=>stepK (pureR σ (aSl P t len parts fr)) k
  | op=>runOp P op fr σ k kp
abbrev Run:=Op→AFrame→AHeap→(AV→AHeap→Prop)→(AV→AHeap→Prop)→Prop
def guardK (x:AV) (want:Bool) (A B:Prop):Prop :=
  match x with
  | .val (.bool b)=>(b=want→A)∧(b ≠ want→B)
  | .val (.tuple _)=>B
  | _=>False
def gK (x:AV) (want:Bool) (run:(AV→AHeap→Prop)→Prop) (K:AV→AHeap→Prop) (σ:AHeap):Prop:=guardK x want (run K) (K (.val undef) σ)
def aopsI (R:Run) (ops:Array Oper):List Nat→AFrame→AHeap→(AFrame→AHeap→Prop)→(AV→AHeap→Prop)→Prop
  | [],fr,σ,k,_=>k fr σ
  | i :: l,fr,σ,k,kp=>match ops[i]? with
    | none=>False
    | some o=>match o.guard with
      | none=>R o.op fr σ (fun x τ=>aopsI R ops l (put fr o.dst x) τ k kp) kp
      | some (j,want)=>match (ops[j]?).bind (·.dst) with
        | some d=>gK (look fr d) want (fun K=>R o.op fr σ K kp) (fun x τ=>aopsI R ops l (put fr o.dst x) τ k kp) σ
        | none=>False
def fixOk (X:List Nat) (ops:Array Oper):Bool:=ops.all fun o=>match o.dst with | some d=>!X.elem d | none=>true
def dstsOk (N:Nat) (ops:Array Oper):Bool:=ops.all fun o=>match o.dst with | some d=>decide (d < N) | none=>true
def Next1 (ρ:Nat→Option (Option Nat × Nat)) (σ:AHeap) (w:World) (a:Act) (dst:Option Tmp) (k kp:AV→AHeap→Prop) (next:Act→World→Prop) (Q:Exit→Act→World→Prop):Prop :=
  (∀ ρ' σ' w' x v,Ext ρ σ w ρ' σ' w'→Sim ρ' σ' w'→VRel (ctx ρ' σ' w') x v→k x σ'→next (a.put dst v) w') ∧
  (∀ ρ' σ' w' x v,Ext ρ σ w ρ' σ' w'→Sim ρ' σ' w'→VRel (ctx ρ' σ' w') x v→kp x σ'→Q (.panic [{ v,recovered:=false }]) a w')
theorem stepK_sound {ρ σ w} (hs:Sim ρ σ w) {P:Program} {o:Oper} {fr} {a:Act} (hf:FRel (ctx ρ σ w) fr a.tmps) {k kp:AV→AHeap→Prop} {next Q} (hn:Next1 ρ σ w a o.dst k kp next Q) (h:stepK (aopF P o.op fr σ) k):o.wp P a w next Q:=by
  unfold stepK at h
  split at h
  · rename_i p hp
    obtain ⟨x,σ'⟩:=p
    obtain ⟨n,v,w',ρ',h1,h2,h3,h4,h5⟩:=aopF_sound hs hf hp
    unfold Oper.wp
    rw [h1]
    rcases h2 with rfl | ⟨rfl,rfl⟩
    · exact hn.1 ρ' σ' w' x v h5 h4 h3 h
    · exact hn.1 ρ' σ' w' x undef h5 h4 h3 h
  · exact h.elim
theorem callK_sound {ρ σ w} (hs:Sim ρ σ w) {P:Program} {o:Oper} {fr} {a:Act} (hf:FRel (ctx ρ σ w) fr a.tmps) {f:Operand} {args:Array Operand} {ts:Array TypeId} (ho:o.op=.call { callee:=.value f,args:=args,argTypes:=ts })
    {k kp:AV→AHeap→Prop} {next Q} (hn:Next1 ρ σ w a o.dst k kp next Q) (h:callK P (ev fr f) (args.toList.map (ev fr)) σ k kp):o.wp P a w next Q:=by
  unfold callK at h
  split at h
  · rename_i g cap hfn
    have hv:=hf.eval f
    rw [hfn] at hv
    generalize hfv:a.eval f=fv at hv
    cases hv with
    | fn hl hr =>
      rename_i vs
      have hargs:ArgsRel (ctx ρ σ w) (args.toList.map (ev fr) ++ cap) (args.map a.eval ++ vs):=by
        refine ⟨by simp [hl],fun i x v hx hv=>?_⟩
        rw [List.getElem?_append] at hx
        rw [Array.getElem?_append] at hv
        simp only [List.length_map,Array.length_toList] at hx
        simp only [Array.size_map] at hv
        split at hx
        · rename_i hi
          rw [if_pos hi] at hv
          simp only [List.getElem?_map,Array.getElem?_toList] at hx
          simp only [Array.getElem?_map] at hv
          obtain ⟨q,hq,rfl⟩:=Option.map_eq_some_iff.1 hx
          rw [hq] at hv
          simp at hv
          subst hv
          exact hf.eval q
        · rename_i hi
          rw [if_neg hi] at hv
          exact hr _ _ _ hx hv
      have hrun0:(execOp a.eval o).run P w=(callFunc g (args.map a.eval ++ vs)).run P w:=by
        simp [execOp,ho,resolve,hfv,Deferred.ofValue,invoke]
      rcases h ρ w _ hs hargs with ⟨hc,hcall⟩ | ⟨v,w',hv,ρ',σ',he,hs',x,hx,hr⟩
      · have hrun:(execOp a.eval o).run P w=.ok (.enter g (args.map a.eval ++ vs)) w:=hrun0.trans (hc.run _ _)
        unfold Oper.wp
        rw [hrun]
        refine hcall.mono ?_
        rintro e w' ⟨ρ',σ',he,hs',hp⟩
        cases e with
        | returned v=>obtain ⟨x,hx,hr⟩:=hp;exact hn.1 ρ' σ' w' x v he hs' hr hx
        | panicked chain=>obtain ⟨x,v,rfl,hx,hr⟩:=hp;exact hn.2 ρ' σ' w' x v he hs' hr hx
        | outgrown=>exact hp.elim
      · unfold Oper.wp
        rw [hrun0,hv]
        exact hn.1 ρ' σ' w' x v he hs' hr hx
  · exact h.elim
theorem runOp_sound {ρ σ w} (hs:Sim ρ σ w) {P:Program} {o:Oper} {fr} {a:Act} (hf:FRel (ctx ρ σ w) fr a.tmps) {k kp:AV→AHeap→Prop} {next Q} (hn:Next1 ρ σ w a o.dst k kp next Q) (h:runOp P o.op fr σ k kp):o.wp P a w next Q:=by
  unfold runOp at h
  split at h
  · rename_i c hc
    split at h
    · rename_i f hcf
      obtain ⟨callee,args,ts⟩:=c
      simp only at hcf h
      subst hcf
      exact callK_sound hs hf hc hn h
    · rename_i b hcb
      refine stepK_sound hs hf hn ?_
      rw [hc]
      simp only [aopF,hcb]
      exact h
    · exact h.elim
  · rename_i x hx
    unfold panicK at h
    split at h
    · rename_i t y hy
      have hv:=hf.eval x
      rw [hy] at hv
      generalize hxv:a.eval x=xv at hv
      cases hv with
      | iface hyv =>
        rename_i v
        unfold Oper.wp
        have hrun:(execOp a.eval o).run P w=.halt (.panic (.iface t v)) w:=by
          simp [execOp,hx,hxv,Instr.panic]
        rw [hrun]
        exact hn.2 ρ σ w _ _ (Ext.refl _ _ _) hs (.iface hyv) h
    · exact h.elim
  · rename_i x hx
    refine stepK_sound hs hf hn ?_
    rw [hx];exact h
  · rename_i x hx
    refine stepK_sound hs hf hn ?_
    rw [hx];exact h
  · exact stepK_sound hs hf hn h
def RunOk (P:Program) (R:Run):Prop:=∀ {ρ σ w} (_:Sim ρ σ w) {o:Oper} {fr} {a:Act} (_:FRel (ctx ρ σ w) fr a.tmps) {k kp:AV→AHeap→Prop} {next Q} (_:Next1 ρ σ w a o.dst k kp next Q) (_:R o.op fr σ k kp),o.wp P a w next Q
theorem runOp_ok (P:Program):RunOk P (runOp P):=fun hs _ _ _ hf _ _ _ _ hn h=>runOp_sound hs hf hn h
theorem runQ_ok (P:Program):RunOk P (runQ P):=by
  intro ρ σ w hs o fr a hf k kp next Q hn h
  unfold runQ at h
  split at h
  · rename_i t len parts e
    unfold stepK at h
    split at h
    · rename_i p hp
      obtain ⟨y,hy,e2⟩:=Option.map_eq_some_iff.1 hp
      subst e2
      unfold aSl at hy
      split at hy
      · rename_i el sz by' hi
        split at hy
        · rename_i zs hz
          have hb:=sBuildSl hs hi hz hf hy
          obtain ⟨n,v,w',ρ',h1,h2,h3,h4,h5⟩:=gives_new (o:=o) (a:=a) (by simp only [execOp,e]) hb
          unfold Oper.wp
          rw [h1]
          rcases h2 with rfl | ⟨rfl,rfl⟩
          · exact hn.1 ρ' σ w' y v h5 h4 h3 h
          · exact hn.1 ρ' σ w' y undef h5 h4 h3 h
        · cases hy
      · cases hy
    · exact h.elim
  · exact runOp_sound hs hf hn h
structure St (D:Act→Prop) (ρ₀:Nat→Option (Option Nat × Nat)) (σ₀:AHeap) (w₀:World) (N:Nat) (ρ:Nat→Option (Option Nat × Nat)) (σ:AHeap) (w:World) (fr:AFrame) (a:Act):Prop where
  ext:Ext ρ₀ σ₀ w₀ ρ σ w
  sim:Sim ρ σ w
  frel:FRel (ctx ρ σ w) fr a.tmps
  size:a.tmps.size=N
  defers:D a
theorem put_size (a:Act) (d:Option Tmp) (v:Value):(a.put d v).tmps.size=a.tmps.size:=by
  cases d <;> simp [Act.put]
theorem put_defers (a:Act) (d:Option Tmp) (v:Value):(a.put d v).defers=a.defers:=by
  cases d <;> rfl
structure DOk (X:List Nat) (D:Act→Prop):Prop where
  put:∀ (a:Act) (d:Option Tmp) (v:Value),(∀ k,d=some k→k ∉ X)→D a→D (a.put d v)
theorem DOk.plain (X:List Nat):DOk X (fun a=>a.defers=[]):=⟨fun a d v _ h=>by rw [put_defers,h]⟩
theorem St.put {D ρ₀ σ₀ w₀ N ρ σ w fr a} {X:List Nat} (hD:DOk X D) (h:St D ρ₀ σ₀ w₀ N ρ σ w fr a) {ρ' σ' w'} (he:Ext ρ σ w ρ' σ' w') (hs:Sim ρ' σ' w') {x v} (hv:VRel (ctx ρ' σ' w') x v) {d:Option Tmp} (hd:∀ k,d=some k→k < N) (hx:∀ k,d=some k→k ∉ X) :
    St D ρ₀ σ₀ w₀ N ρ' σ' w' (put fr d x) (a.put d v) :=
  ⟨h.ext.trans he,hs,(h.frel.mono he.le).put hv (by rw [h.size];exact hd),by rw [put_size,h.size],hD.put _ _ _ hx h.defers⟩
def Ends (D:Act→Prop) (ρ₀:Nat→Option (Option Nat × Nat)) (σ₀:AHeap) (w₀:World) (N:Nat) (k:AFrame→AHeap→Prop) (kp:AV→AHeap→Prop) (Q:Exit→Act→World→Prop):Prop :=
  (∀ ρ σ w fr a,St D ρ₀ σ₀ w₀ N ρ σ w fr a→k fr σ→Q .normal a w) ∧
  (∀ ρ σ w fr a x v,St D ρ₀ σ₀ w₀ N ρ σ w fr a→VRel (ctx ρ σ w) x v→kp x σ→Q (.panic [{ v,recovered:=false }]) a w)
theorem yielded_bool {c:Ctx} {ops:Array Oper} {j d:Nat} {tmps:Array Value} {b:Bool} (hd:(ops[j]?).bind (·.dst)=some d) (h:VRel c (.val (.bool b)) (tmps.getD d undef)):yielded ops tmps j=some b:=by
  have:=h.val_inv
  unfold yielded
  rw [hd]
  simp only [Option.bind_some]
  rw [Array.getD_eq_getD_getElem?] at this
  cases hx:tmps[d]? with
  | none=>rw [hx] at this;simp [undef] at this
  | some v=>rw [hx] at this;simp at this;subst this;rfl
theorem yielded_tuple {c:Ctx} {ops:Array Oper} {j d:Nat} {tmps:Array Value} {vs:Array Value} (hd:(ops[j]?).bind (·.dst)=some d) (h:VRel c (.val (.tuple vs)) (tmps.getD d undef)):yielded ops tmps j=none:=by
  have:=h.val_inv
  unfold yielded
  rw [hd]
  simp only [Option.bind_some]
  rw [Array.getD_eq_getD_getElem?] at this
  cases hx:tmps[d]? with
  | none=>rfl
  | some v=>rw [hx] at this;simp at this;subst this;rfl
theorem wanted_some {P:Nat→Option Bool} {o:Oper} {j:Nat} {want b:Bool} (hg:o.guard=some (j,want)) (hy:P j=some b):Region.wanted o P=decide (b=want):=by
  unfold Region.wanted
  rw [hg]
  simp only [hy]
  cases b <;> cases want <;> rfl
theorem wanted_none {P:Nat→Option Bool} {o:Oper} {j:Nat} {want:Bool} (hg:o.guard=some (j,want)) (hy:P j=none):Region.wanted o P=false:=by
  unfold Region.wanted
  rw [hg]
  simp only [hy]
  rfl
theorem aopsI_sound {P:Program} {R:Run} (hR:RunOk P R) {ops:Array Oper} {N:Nat} (hN:dstsOk N ops=true) {X:List Nat} {D:Act→Prop} (hX:fixOk X ops=true) (hD:DOk X D) {ρ₀ σ₀ w₀} {k:AFrame→AHeap→Prop} {kp:AV→AHeap→Prop} {Q:Exit→Act→World→Prop} (hQ:Ends D ρ₀ σ₀ w₀ N k kp Q) :
    ∀ (l:List Nat) (ρ) (σ:AHeap) (w:World) (fr:AFrame) (a:Act),St D ρ₀ σ₀ w₀ N ρ σ w fr a→aopsI R ops l fr σ k kp→wpOps P ops Q l a w
  | [],ρ,σ,w,fr,a,hst,h=>hQ.1 ρ σ w fr a hst h
  | i :: l,ρ,σ,w,fr,a,hst,h=>by
    simp only [aopsI] at h
    simp only [wpOps]
    cases ho:ops[i]? with
    | none=>rw [ho] at h;exact h.elim
    | some o =>
      rw [ho] at h
      simp only at h ⊢
      have hd:∀ q,o.dst=some q→q < N:=by
        intro q hq
        obtain ⟨hi,rfl⟩:=Array.getElem?_eq_some_iff.1 ho
        have:=Array.all_eq_true.1 hN i hi
        rw [hq] at this
        simpa using this
      have hx:∀ q,o.dst=some q→q ∉ X:=by
        intro q hq
        obtain ⟨hi,rfl⟩:=Array.getElem?_eq_some_iff.1 ho
        have:=Array.all_eq_true.1 hX i hi
        rw [hq] at this
        simpa using this
      have run:R o.op fr σ (fun x τ=>aopsI R ops l (put fr o.dst x) τ k kp) kp→o.wp P a w (wpOps P ops Q l) Q:=by
        intro hr
        refine hR hst.sim hst.frel ⟨?_,?_⟩ hr
        · intro ρ' σ' w' x v he hs' hv hk
          exact aopsI_sound hR hN hX hD hQ l ρ' σ' w' _ _ (hst.put hD he hs' hv hd hx) hk
        · intro ρ' σ' w' x v he hs' hv hk
          exact hQ.2 ρ' σ' w' fr a x v ⟨hst.ext.trans he,hs',hst.frel.mono he.le,hst.size,hst.defers⟩ hv hk
      have skip:aopsI R ops l (put fr o.dst (.val undef)) σ k kp→wpOps P ops Q l (a.put o.dst undef) w:=by
        intro hr
        exact aopsI_sound hR hN hX hD hQ l ρ σ w _ _ (hst.put hD (Ext.refl _ _ _) hst.sim (.val undef) hd hx) hr
      cases hg:o.guard with
      | none =>
        rw [hg] at h
        have hw:Region.wanted o (yielded ops a.tmps)=true:=by unfold Region.wanted;rw [hg]
        rw [if_pos hw]
        exact .inl (run h)
      | some p =>
        obtain ⟨j,want⟩:=p
        rw [hg] at h
        simp only at h
        cases hj:(ops[j]?).bind (·.dst) with
        | none=>rw [hj] at h;exact h.elim
        | some d =>
          rw [hj] at h
          simp only at h
          have hv:=hst.frel d
          unfold gK guardK at h
          split at h
          · rename_i b hb
            rw [hb] at hv
            have hy:=yielded_bool hj hv
            rw [wanted_some hg hy]
            by_cases hbw:b=want
            · simp only [hbw,decide_true,if_true];exact .inl (run (h.1 hbw))
            · simp only [hbw,decide_false,Bool.false_eq_true,if_false];exact skip (h.2 hbw)
          · rename_i vs hb
            rw [hb] at hv
            rw [wanted_none hg (yielded_tuple hj hv)]
            simp only [Bool.false_eq_true,if_false]
            exact skip h
          · exact h.elim
end Go.Abs
namespace Go.Abs
open Go
def opClass:Op→Nat
  | .move _ | .assign _ | .pick .. | .nilCheck _ | .binOp .. | .unOp .. | .convert .. | .makeFunc .. | .slice .. | .fieldAddr .. | .field .. | .index .. | .extract .. | .build .. | .buildSlice .. | .makeInterface ..=>0
  | .call c=>match c.callee with
    | .builtin .max=>0
    | .builtin .min=>0
    | .builtin .len=>1
    | _=>2
  | .load .. | .lookup .. | .indexAddr ..=>1
  | _=>2
def opTmps (op:Op):List Nat:=op.operands.toList.filterMap fun | .tmp t=>some t | _=>none
theorem ev_congr {fr fr':AFrame} {x:Operand} (h:∀ t,x=.tmp t→look fr t=look fr' t):ev fr x=ev fr' x:=by
  cases x with
  | tmp t=>exact h t rfl
  | _=>rfl
theorem mem_opTmps {op:Op} {t:Nat} (h:Operand.tmp t ∈ op.operands.toList):t ∈ opTmps op:=by
  unfold opTmps
  exact List.mem_filterMap.2 ⟨_,h,rfl⟩
theorem ev_of {op:Op} {fr fr':AFrame} (h:∀ t ∈ opTmps op,look fr t=look fr' t) {x:Operand} (hx:x ∈ op.operands.toList):ev fr x=ev fr' x :=
  ev_congr fun t e=>h t (mem_opTmps (by rw [← e];exact hx))
theorem partsOf_congr (pl:Array (Nat × Nat)) {fr fr':AFrame}:∀ (l:List (Nat × Operand)),(∀ p ∈ l,ev fr p.2=ev fr' p.2)→partsOf pl fr l=partsOf pl fr' l
  | [],_=>rfl
  | (i,x) :: r,h=>by
    simp only [partsOf]
    rw [partsOf_congr pl r (fun p hp=>h p (by simp [hp])),h (i,x) (by simp)]
theorem map_congr {fr fr':AFrame} {l:List Operand} (h:∀ x ∈ l,ev fr x=ev fr' x):l.map (ev fr)=l.map (ev fr'):=List.map_congr_left h
theorem opt_congr {fr fr':AFrame} {o:Option Operand} (h:∀ x,o=some x→ev fr x=ev fr' x):o.map (ev fr)=o.map (ev fr'):=by
  cases o with
  | none=>rfl
  | some x=>simp [h x rfl]
set_option maxHeartbeats 1000000 in
theorem aopF_congr {P:Program} {op:Op} {fr fr':AFrame} (h:∀ t ∈ opTmps op,look fr t=look fr' t) (σ:AHeap):aopF P op fr σ=aopF P op fr' σ:=by
  have e:=fun x hx=>ev_of h (x:=x) hx
  cases op with
  | build t parts =>
    have:∀ pl,partsOf pl fr parts.toList=partsOf pl fr' parts.toList:=fun pl =>
      partsOf_congr pl parts.toList fun p hp=>e p.2 (by simp only [Op.operands];exact List.mem_map.2 ⟨p,hp,rfl⟩)
    simp only [aopF,this]
  | buildSlice t len parts =>
    have:(parts.toList.map fun (p:Nat × Operand)=>(p.1,ev fr p.2))=parts.toList.map fun p=>(p.1,ev fr' p.2) :=
      List.map_congr_left fun p hp=>by rw [e p.2 (by simp only [Op.operands];exact List.mem_map.2 ⟨p,hp,rfl⟩)]
    simp only [aopF,this]
  | slice t x lo hi mx =>
    have h1:=opt_congr (fr:=fr) (fr':=fr') (o:=lo) (fun y hy=>e y (by subst hy;simp [Op.operands]))
    have h2:=opt_congr (fr:=fr) (fr':=fr') (o:=hi) (fun y hy=>e y (by subst hy;simp [Op.operands]))
    have h3:=opt_congr (fr:=fr) (fr':=fr') (o:=mx) (fun y hy=>e y (by subst hy;simp [Op.operands]))
    simp only [aopF]
    rw [h1,h2,h3,e x (by simp [Op.operands])]
  | makeFunc fn first cap =>
    have:cap.toList.map (ev fr)=cap.toList.map (ev fr'):=map_congr fun x hx=>e x (by simp [Op.operands];exact .inr (by simpa using hx))
    simp only [aopF]
    rw [this]
  | call c =>
    have:c.args.toList.map (ev fr)=c.args.toList.map (ev fr'):=map_congr fun x hx=>e x (by simp only [Op.operands,Call.operands,Array.toList_append,List.mem_append];exact .inr hx)
    simp only [aopF]
    rw [this]
  | unOp u t x=>cases u <;> simp only [aopF] <;> rw [e x (by simp [Op.operands])]
  | makeMap t r=>cases r <;> rfl
  | makeSlice t x y=>simp only [aopF];rw [e x (by simp [Op.operands]),e y (by simp [Op.operands])]
  | move x=>simp only [aopF];rw [e x (by simp [Op.operands])]
  | assign x=>simp only [aopF];rw [e x (by simp [Op.operands])]
  | box t x=>simp only [aopF];rw [e x (by simp [Op.operands])]
  | pick c x y=>simp only [aopF];rw [e c (by simp [Op.operands]),e x (by simp [Op.operands]),e y (by simp [Op.operands])]
  | load t x=>simp only [aopF];rw [e x (by simp [Op.operands])]
  | store t x y=>simp only [aopF];rw [e x (by simp [Op.operands]),e y (by simp [Op.operands])]
  | nilCheck x=>simp only [aopF];rw [e x (by simp [Op.operands])]
  | binOp op t x y t'=>simp only [aopF];rw [e x (by simp [Op.operands]),e y (by simp [Op.operands])]
  | convert s d x=>simp only [aopF];rw [e x (by simp [Op.operands])]
  | makeInterface t x=>simp only [aopF];rw [e x (by simp [Op.operands])]
  | fieldAddr s x f=>simp only [aopF];rw [e x (by simp [Op.operands])]
  | field s x f=>simp only [aopF];rw [e x (by simp [Op.operands])]
  | indexAddr t x i=>simp only [aopF];rw [e x (by simp [Op.operands]),e i (by simp [Op.operands])]
  | index t x i=>simp only [aopF];rw [e x (by simp [Op.operands]),e i (by simp [Op.operands])]
  | lookup t x i ok=>simp only [aopF];rw [e x (by simp [Op.operands]),e i (by simp [Op.operands])]
  | mapUpdate t x i y=>simp only [aopF];rw [e x (by simp [Op.operands]),e i (by simp [Op.operands]),e y (by simp [Op.operands])]
  | insert t x i y=>simp only [aopF];rw [e x (by simp [Op.operands]),e i (by simp [Op.operands]),e y (by simp [Op.operands])]
  | extract x i=>simp only [aopF];rw [e x (by simp [Op.operands])]
  | typeAssert x xt asserted c=>cases c <;> simp only [aopF] <;> (try rw [e x (by simp [Op.operands])])
  | _=>rfl
theorem runOp_else {P:Program} {op:Op} (h1:∀ c,op ≠ .call c) (h2:∀ x,op ≠ .panic x) (fr:AFrame) (σ:AHeap) (k kp:AV→AHeap→Prop):runOp P op fr σ k kp=stepK (aopF P op fr σ) k:=by
  cases op <;> first | rfl | exact absurd rfl (h1 _) | exact absurd rfl (h2 _)
theorem runOp_congr {P:Program} {op:Op} {fr fr':AFrame} (h:∀ t ∈ opTmps op,look fr t=look fr' t) {σ k kp} (hr:runOp P op fr σ k kp):runOp P op fr' σ k kp:=by
  have e:=fun x hx=>ev_of h (x:=x) hx
  by_cases hc:∃ c,op=.call c
  · obtain ⟨⟨callee,args,ts⟩,rfl⟩:=hc
    have hargs:args.toList.map (ev fr)=args.toList.map (ev fr'):=map_congr fun x hx=>e x (by simp only [Op.operands,Call.operands,Array.toList_append,List.mem_append];exact .inr hx)
    cases callee with
    | value f =>
      simp only [runOp] at hr ⊢
      rw [← hargs,← e f (by simp [Op.operands,Call.operands])]
      exact hr
    | builtin b =>
      simp only [runOp] at hr ⊢
      rw [← hargs]
      exact hr
    | invoke r m=>exact hr.elim
  · by_cases hp:∃ x,op=.panic x
    · obtain ⟨x,rfl⟩:=hp
      simp only [runOp] at hr ⊢
      rw [← e x (by simp [Op.operands])]
      exact hr
    · rw [runOp_else (fun c hh=>hc ⟨c,hh⟩) (fun c hh=>hp ⟨c,hh⟩)] at hr ⊢
      rw [← aopF_congr h]
      exact hr
theorem runOp_mono {P:Program} {op:Op} {fr σ} {k k' kp:AV→AHeap→Prop} (h:∀ x τ,k x τ→k' x τ) (hr:runOp P op fr σ k kp):runOp P op fr σ k' kp:=by
  have step:∀ r,stepK r k→stepK r k':=by
    intro r hr
    unfold stepK at hr ⊢
    split <;> simp_all
  by_cases hc:∃ c,op=.call c
  · obtain ⟨⟨callee,args,ts⟩,rfl⟩:=hc
    cases callee with
    | value f =>
      simp only [runOp] at hr ⊢
      generalize ev fr f=q at hr ⊢
      unfold callK at hr ⊢
      split at hr
      · exact hr.mono h (fun _ _ h=>h)
      · exact hr.elim
    | builtin b=>exact step _ hr
    | invoke r m=>exact hr.elim
  · by_cases hp:∃ x,op=.panic x
    · obtain ⟨x,rfl⟩:=hp
      exact hr
    · rw [runOp_else (fun c hh=>hc ⟨c,hh⟩) (fun c hh=>hp ⟨c,hh⟩)] at hr ⊢
      exact step _ hr
theorem pureR_quiet {σ:AHeap} {q:Option AV} {x:AV} {σ':AHeap} (h:pureR σ q=some (x,σ')):σ'=σ∧∀ τ,pureR τ q=some (x,τ):=by
  obtain ⟨y,rfl,e⟩:=Option.map_eq_some_iff.1 h
  cases e
  exact ⟨rfl,fun τ=>rfl⟩
set_option maxHeartbeats 1000000 in
theorem aopF_quiet {P:Program} {op:Op} (hb:∀ t l p,op ≠ .buildSlice t l p) (hc:opClass op≤1) {fr σ x σ'} (h:aopF P op fr σ=some (x,σ')):σ'=σ∧(opClass op=0→∀ τ,aopF P op fr τ=some (x,τ)):=by
  have out:∀ {q:Option AV} {Z:AHeap→Option (AV × AHeap)},pureR σ q=some (x,σ')→(∀ τ,pureR τ q=Z τ)→σ'=σ∧(opClass op=0→∀ τ,Z τ=some (x,τ)):=by
    intro q Z h1 h2
    obtain ⟨k1,k2⟩:=pureR_quiet h1
    exact ⟨k1,fun _ τ=>by rw [← h2];exact k2 τ⟩
  have out1:∀ {q:Option AV},pureR σ q=some (x,σ')→opClass op ≠ 0→σ'=σ∧(opClass op=0→∀ τ,aopF P op fr τ=some (x,τ)):=by
    intro q h1 h2
    exact ⟨(pureR_quiet h1).1,fun h0=>absurd h0 h2⟩
  cases op with
  | buildSlice t l p=>exact absurd rfl (hb t l p)
  | move y=>simp only [aopF] at h ⊢;cases h;exact ⟨rfl,fun _ τ=>rfl⟩
  | assign y=>simp only [aopF] at h ⊢;cases h;exact ⟨rfl,fun _ τ=>rfl⟩
  | nilCheck y=>simp only [aopF] at h ⊢;exact out h fun τ=>rfl
  | pick c y z=>simp only [aopF] at h ⊢;exact out h fun τ=>rfl
  | binOp op t y z t'=>simp only [aopF] at h ⊢;split at h;(exact out h fun τ=>rfl);cases h
  | unOp u t y=>cases u <;> simp only [aopF] at h ⊢ <;> first | (exact out h fun τ=>rfl) | cases h
  | convert s d y=>simp only [aopF] at h ⊢;split at h;(exact out h fun τ=>rfl);cases h
  | makeInterface t y=>simp only [aopF] at h ⊢;split at h;(rename_i hi;cases h;exact ⟨rfl,fun _ τ=>by rw [if_pos hi]⟩);cases h
  | makeFunc fn first cap=>simp only [aopF] at h ⊢;split at h;(rename_i hi;cases h;exact ⟨rfl,fun _ τ=>by rw [if_pos hi]⟩);cases h
  | slice t y lo hi mx =>
    simp only [aopF] at h ⊢
    split at h
    · exact out h fun τ=>rfl
    · split at h
      · rename_i hi
        split at h
        · exact out h fun τ=>by rw [if_pos hi]
        · cases h
      · cases h
  | fieldAddr s y f=>simp only [aopF] at h ⊢;split at h;(exact out h fun τ=>rfl);cases h
  | field s y f=>simp only [aopF] at h ⊢;split at h;(exact out h fun τ=>rfl);cases h
  | index t y i=>simp only [aopF] at h ⊢;split at h;(rename_i hi;exact out h fun τ=>by rw [if_pos hi]);cases h
  | extract y i=>simp only [aopF] at h ⊢;exact out h fun τ=>rfl
  | build t parts =>
    simp only [aopF] at h ⊢
    split at h
    · split at h
      · exact out h fun τ=>rfl
      · cases h
    · cases h
  | load t y =>
    simp only [aopF] at h
    split at h
    · exact out1 h (by simp [opClass])
    · cases h
  | lookup t y i ok =>
    simp only [aopF] at h
    split at h
    · split at h
      · exact out1 h (by simp [opClass])
      · cases h
    · cases h
  | indexAddr t y i =>
    simp only [aopF] at h
    split at h
    · exact out1 h (by simp [opClass])
    · cases h
  | call c =>
    obtain ⟨callee,args,ts⟩:=c
    cases callee with
    | value f=>simp [opClass] at hc
    | invoke r m=>simp [opClass] at hc
    | builtin b =>
      simp only [aopF] at h ⊢
      cases b <;> first
        | (simp [opClass] at hc;done)
        | (simp only [aBuiltin] at h ⊢
           split at h <;> first
             | (cases h;done)
             | (rename_i e _ _;cases e;done)
             | (rename_i e _;cases e;done)
             | (rename_i e;cases e;done)
             | (exact out h fun τ=>rfl)
             | (split at h
                · exact ⟨(pureR_quiet h).1,fun h0=>absurd h0 (by simp [opClass])⟩
                · cases h))
  | _=>simp [opClass] at hc
theorem runOp_quiet {P:Program} {op:Op} (hb:∀ t l p,op ≠ .buildSlice t l p) (hc:opClass op≤1) {fr σ} {k kp:AV→AHeap→Prop} (hr:runOp P op fr σ k kp) :
    ∃ x,k x σ∧(∀ k' kp',k' x σ→runOp P op fr σ k' kp')∧(opClass op=0→∀ τ k' kp',k' x τ→runOp P op fr τ k' kp'):=by
  have eq:∀ τ k' kp',runOp P op fr τ k' kp'=stepK (aopF P op fr τ) k':=by
    intro τ k' kp'
    by_cases hcc:∃ c,op=.call c
    · obtain ⟨⟨callee,args,ts⟩,rfl⟩:=hcc
      cases callee with
      | value f=>simp [opClass] at hc
      | invoke r m=>simp [opClass] at hc
      | builtin b=>rfl
    · by_cases hp:∃ x,op=.panic x
      · obtain ⟨x,rfl⟩:=hp;simp [opClass] at hc
      · exact runOp_else (fun c hh=>hcc ⟨c,hh⟩) (fun c hh=>hp ⟨c,hh⟩) _ _ _ _
  rw [eq] at hr
  unfold stepK at hr
  split at hr
  · rename_i p hp
    obtain ⟨x,σ'⟩:=p
    obtain ⟨rfl,h2⟩:=aopF_quiet hb hc hp
    refine ⟨x,hr,fun k' kp' hk=>?_,fun h0 τ k' kp' hk=>?_⟩
    · rw [eq,hp];exact hk
    · rw [eq,h2 h0 τ];exact hk
  · exact hr.elim
theorem aSl_congr {P:Program} {t len} {parts:Array (Nat × Operand)} {fr fr':AFrame} (h:∀ s ∈ opTmps (.buildSlice t len parts),look fr s=look fr' s):aSl P t len parts fr=aSl P t len parts fr':=by
  have e:=fun x hx=>ev_of h (x:=x) hx
  unfold aSl
  have:(parts.toList.map fun (i,x)=>(i,ev fr x))=(parts.toList.map fun (i,x)=>(i,ev fr' x)):=List.map_congr_left fun p hp=>by
    obtain ⟨i,x⟩:=p
    simp only
    rw [e x (by simp only [Op.operands];exact List.mem_map.2 ⟨(i,x),hp,rfl⟩)]
  rw [this]
theorem runQ_of {P:Program} {op:Op} (hb:∀ t l p,op ≠ .buildSlice t l p) (fr σ k kp):runQ P op fr σ k kp=runOp P op fr σ k kp:=by
  cases op <;> first | rfl | exact absurd rfl (hb _ _ _)
theorem runQ_congr {P:Program} {op:Op} {fr fr':AFrame} (h:∀ t ∈ opTmps op,look fr t=look fr' t) {σ k kp} (hr:runQ P op fr σ k kp):runQ P op fr' σ k kp:=by
  by_cases hb:∃ t l p,op=.buildSlice t l p
  · obtain ⟨t,l,p,rfl⟩:=hb
    simp only [runQ] at hr ⊢
    rw [← aSl_congr h];exact hr
  · have hb:∀ t l p,op ≠ .buildSlice t l p:=fun t l p e=>hb ⟨t,l,p,e⟩
    rw [runQ_of hb] at hr ⊢
    exact runOp_congr h hr
theorem runQ_mono {P:Program} {op:Op} {fr σ} {k k' kp:AV→AHeap→Prop} (h:∀ x τ,k x τ→k' x τ) (hr:runQ P op fr σ k kp):runQ P op fr σ k' kp:=by
  by_cases hb:∃ t l p,op=.buildSlice t l p
  · obtain ⟨t,l,p,rfl⟩:=hb
    simp only [runQ,stepK] at hr ⊢
    split at hr
    · exact h _ _ hr
    · exact hr.elim
  · have hb:∀ t l p,op ≠ .buildSlice t l p:=fun t l p e=>hb ⟨t,l,p,e⟩
    rw [runQ_of hb] at hr ⊢
    exact runOp_mono h hr
theorem runQ_quiet {P:Program} {op:Op} (hc:opClass op≤1) {fr σ} {k kp:AV→AHeap→Prop} (hr:runQ P op fr σ k kp) :
    ∃ x,k x σ∧(∀ k' kp',k' x σ→runQ P op fr σ k' kp')∧(opClass op=0→∀ τ k' kp',k' x τ→runQ P op fr τ k' kp'):=by
  by_cases hb:∃ t l p,op=.buildSlice t l p
  · obtain ⟨t,l,p,rfl⟩:=hb
    simp only [runQ,stepK] at hr ⊢
    cases hx:aSl P t l p fr with
    | none=>rw [hx] at hr;exact hr.elim
    | some x =>
      rw [hx] at hr
      exact ⟨x,hr,fun k' kp' hk=>hk,fun _ τ k' kp' hk=>hk⟩
  · have hb:∀ t l p,op ≠ .buildSlice t l p:=fun t l p e=>hb ⟨t,l,p,e⟩
    rw [runQ_of hb] at hr
    obtain ⟨x,h1,h2,h3⟩:=runOp_quiet hb hc hr
    exact ⟨x,h1,fun k' kp' hk=>by rw [runQ_of hb];exact h2 k' kp' hk,fun h0 τ k' kp' hk=>by rw [runQ_of hb];exact h3 h0 τ k' kp' hk⟩
def dstOf (ops:Array Oper) (i:Nat):Option Tmp:=(ops[i]?).bind (·.dst)
def reads (ops:Array Oper) (i:Nat):List Nat :=
  match ops[i]? with
  | none=>[]
  | some o=>opTmps o.op ++ (match o.guard with | some (j,_)=>(dstOf ops j).toList | none=>[])
def clsOf (ops:Array Oper) (i:Nat):Nat:=match ops[i]? with | some o=>opClass o.op | none=>2
def exec (P:Program) (ops:Array Oper) (i:Nat) (fr:AFrame) (σ:AHeap) (K:AV→AHeap→Prop) (kp:AV→AHeap→Prop):Prop :=
  match ops[i]? with
  | none=>False
  | some o=>match o.guard with
    | none=>runQ P o.op fr σ K kp
    | some (j,want)=>match (ops[j]?).bind (·.dst) with
      | some d=>gK (look fr d) want (fun K=>runQ P o.op fr σ K kp) K σ
      | none=>False
theorem aopsI_cons (P:Program) (ops:Array Oper) (i:Nat) (l:List Nat) (fr σ k kp):aopsI (runQ P) ops (i :: l) fr σ k kp=exec P ops i fr σ (fun x τ=>aopsI (runQ P) ops l (put fr (dstOf ops i) x) τ k kp) kp:=by
  simp only [aopsI,exec,dstOf]
  cases h:ops[i]? with
  | none=>rfl
  | some o=>rfl
theorem exec_mono {P ops i fr σ} {K K' kp:AV→AHeap→Prop} (h:∀ x τ,K x τ→K' x τ) (hr:exec P ops i fr σ K kp):exec P ops i fr σ K' kp:=by
  unfold exec at hr ⊢
  cases ho:ops[i]? with
  | none=>rw [ho] at hr;exact hr.elim
  | some o =>
    rw [ho] at hr
    simp only at hr ⊢
    cases hg:o.guard with
    | none=>rw [hg] at hr;exact runQ_mono h hr
    | some p =>
      obtain ⟨j,want⟩:=p
      rw [hg] at hr
      simp only at hr ⊢
      cases hd:(ops[j]?).bind (·.dst) with
      | none=>rw [hd] at hr;exact hr.elim
      | some d =>
        rw [hd] at hr
        simp only at hr ⊢
        unfold gK guardK at hr ⊢
        split at hr
        · exact ⟨fun e=>runQ_mono h (hr.1 e),fun e=>h _ _ (hr.2 e)⟩
        · exact h _ _ hr
        · exact hr.elim
theorem exec_congr {P ops i fr fr' σ} {K kp:AV→AHeap→Prop} (h:∀ t ∈ reads ops i,look fr t=look fr' t) (hr:exec P ops i fr σ K kp):exec P ops i fr' σ K kp:=by
  unfold exec at hr ⊢
  unfold reads at h
  cases ho:ops[i]? with
  | none=>rw [ho] at hr;exact hr.elim
  | some o =>
    rw [ho] at hr h
    simp only at hr h ⊢
    cases hg:o.guard with
    | none=>rw [hg] at hr;exact runQ_congr (fun t ht=>h t (by simp [ht])) hr
    | some p =>
      obtain ⟨j,want⟩:=p
      rw [hg] at hr h
      simp only at hr h ⊢
      cases hd:(ops[j]?).bind (·.dst) with
      | none=>rw [hd] at hr;exact hr.elim
      | some d =>
        rw [hd] at hr
        simp only at hr ⊢
        rw [← h d (by simp [dstOf,hd])]
        unfold gK guardK at hr ⊢
        split at hr
        · exact ⟨fun e=>runQ_congr (fun t ht=>h t (by simp [ht])) (hr.1 e),hr.2⟩
        · exact hr
        · exact hr.elim
theorem exec_quiet {P ops i fr σ} {K kp:AV→AHeap→Prop} (hc:clsOf ops i≤1) (hr:exec P ops i fr σ K kp) :
    ∃ x,K x σ∧(∀ K' kp',K' x σ→exec P ops i fr σ K' kp')∧(clsOf ops i=0→∀ τ K' kp',K' x τ→exec P ops i fr τ K' kp'):=by
  unfold clsOf at hc ⊢
  unfold exec at hr ⊢
  cases ho:ops[i]? with
  | none=>rw [ho] at hr;exact hr.elim
  | some o =>
    rw [ho] at hr hc
    simp only at hr hc ⊢
    cases hg:o.guard with
    | none=>rw [hg] at hr;exact runQ_quiet hc hr
    | some p =>
      obtain ⟨j,want⟩:=p
      rw [hg] at hr
      simp only at hr ⊢
      cases hd:(ops[j]?).bind (·.dst) with
      | none=>rw [hd] at hr;exact hr.elim
      | some d =>
        rw [hd] at hr
        simp only at hr ⊢
        unfold gK guardK at hr ⊢
        split at hr
        · rename_i b hb
          by_cases e:b=want
          · obtain ⟨x,h1,h2,h3⟩:=runQ_quiet hc (hr.1 e)
            exact ⟨x,h1,fun K' kp' hk=>⟨fun _=>h2 K' kp' hk,fun hn=>absurd e hn⟩,fun h0 τ K' kp' hk=>⟨fun _=>h3 h0 τ K' kp' hk,fun hn=>absurd e hn⟩⟩
          · exact ⟨_,hr.2 e,fun K' kp' hk=>⟨fun h=>absurd h e,fun _=>hk⟩,fun _ τ K' kp' hk=>⟨fun h=>absurd h e,fun _=>hk⟩⟩
        · exact ⟨_,hr,fun K' kp' hk=>hk,fun _ τ K' kp' hk=>hk⟩
        · exact hr.elim
def Alike (fr fr':AFrame):Prop:=∀ s,look fr s=look fr' s
theorem look_put (fr:AFrame) (d:Option Tmp) (x:AV) (s:Nat):look (put fr d x) s=if d=some s then x else look fr s:=by
  cases d with
  | none=>simp [put]
  | some d =>
    simp only [put,look_cons,Option.some.injEq]
    by_cases h:s=d
    · subst h;simp
    · simp [h,Ne.symm h]
theorem Alike.put {fr fr':AFrame} (h:Alike fr fr') (d:Option Tmp) (x:AV):Alike (put fr d x) (put fr' d x):=fun s=>by
  rw [look_put,look_put,h s]
def Resp (k:AFrame→AHeap→Prop):Prop:=∀ fr fr' τ,Alike fr fr'→k fr τ→k fr' τ
structure Commute (ops:Array Oper) (j i:Nat):Prop where
  ji:∀ d,dstOf ops j=some d→d ∉ reads ops i
  ij:∀ d,dstOf ops i=some d→d ∉ reads ops j
  dd:∀ d,dstOf ops i=some d→dstOf ops j ≠ some d
  cls:clsOf ops j≤1
  heap:clsOf ops i≤1∨clsOf ops j=0
inductive Sched (ops:Array Oper):(Nat→Prop)→List Nat→Prop
  | nil {D:Nat→Prop} (h:∀ i,i < ops.size→D i):Sched ops D []
  | cons {D:Nat→Prop} {i l} (hi:i < ops.size) (hn:¬ D i) (he:∀ e,e ∈ ((ops[i]?).map (·.after.toList)).getD []→Region.binds .any e=true→D e.on) (h:Sched ops (fun k=>D k∨k=i) l):Sched ops D (i :: l)
def cloStep (acc:List Nat) (o:Oper):Nat:=o.after.toList.foldl (fun s e=>if Region.binds .any e=true then s ||| 2 ^ e.on ||| acc.getD e.on 0 else s) 0
def cloAll:List Oper→List Nat→List Nat
  | [],acc=>acc
  | o :: r,acc=>cloAll r (acc ++ [cloStep acc o])
def clo (ops:Array Oper):List Nat:=cloAll ops.toList []
theorem foldl_bits (acc:List Nat) (l:List Edge):∀ (s j:Nat),(l.foldl (fun s e=>if Region.binds .any e=true then s ||| 2 ^ e.on ||| acc.getD e.on 0 else s) s).testBit j=true →
    s.testBit j=true∨∃ e ∈ l,Region.binds .any e=true∧(e.on=j∨(acc.getD e.on 0).testBit j=true):=by
  induction l with
  | nil=>intro s j h;exact .inl h
  | cons e l ih =>
    intro s j h
    rw [List.foldl_cons] at h
    rcases ih _ j h with h1 | ⟨e',he',h2⟩
    · split at h1
      · rename_i hb
        simp only [Nat.testBit_or,Bool.or_eq_true,Nat.testBit_two_pow,decide_eq_true_eq] at h1
        rcases h1 with (h1 | h1) | h1
        · exact .inl h1
        · exact .inr ⟨e,by simp,hb,.inl h1⟩
        · exact .inr ⟨e,by simp,hb,.inr h1⟩
      · exact .inl h1
    · exact .inr ⟨e',by simp [he'],h2⟩
theorem cloAll_spec:∀ (l:List Oper) (acc:List Nat) (i:Nat),(∀ k,k < acc.length→(cloAll l acc)[k]?=acc[k]?)∧(cloAll l acc).length=acc.length+l.length ∧
    (∀ o,l[i]?=some o→∃ acc',(cloAll l acc)[acc.length+i]?=some (cloStep acc' o)∧acc'.length=acc.length+i∧∀ k,k < acc'.length→(cloAll l acc)[k]?=acc'[k]?)
  | [],acc,i=>⟨fun k _=>rfl,by simp [cloAll],by simp⟩
  | o :: r,acc,i=>by
    obtain ⟨h1,h2,h3⟩:=cloAll_spec r (acc ++ [cloStep acc o]) (i - 1)
    refine ⟨fun k hk=>?_,by simp only [cloAll,h2];simp;omega,fun o' ho'=>?_⟩
    · simp only [cloAll]
      rw [h1 k (by simp;omega),List.getElem?_append_left hk]
    · cases i with
      | zero =>
        simp at ho'
        subst ho'
        refine ⟨acc,?_,rfl,fun k hk=>?_⟩
        · simp only [cloAll,Nat.add_zero]
          rw [h1 acc.length (by simp)]
          simp
        · simp only [cloAll]
          rw [h1 k (by simp;omega),List.getElem?_append_left hk]
      | succ i =>
        obtain ⟨acc',e1,e2,e3⟩:=h3 o' (by simpa using ho')
        refine ⟨acc',?_,by rw [e2];simp;omega,fun k hk=>by simp only [cloAll];exact e3 k hk⟩
        simp only [cloAll]
        rw [← e1];congr 1;simp;omega
theorem clo_spec {ops:Array Oper} (hb:∀ (i:Nat) (o:Oper),ops[i]?=some o→∀ e ∈ o.after.toList,Region.binds .any e=true→e.on < i) {i:Nat} {o:Oper} (ho:ops[i]?=some o) {j:Nat} (h:((clo ops).getD i 0).testBit j=true) :
    ∃ e ∈ o.after.toList,Region.binds .any e=true∧(e.on=j∨((clo ops).getD e.on 0).testBit j=true):=by
  obtain ⟨_,_,h3⟩:=cloAll_spec ops.toList [] i
  obtain ⟨acc',e1,e2,e3⟩:=h3 o (by simpa using ho)
  simp only [List.length_nil,Nat.zero_add] at e1 e2
  have e1:(clo ops)[i]?=some (cloStep acc' o):=e1
  have e3:∀ k,k < acc'.length→(clo ops)[k]?=acc'[k]?:=e3
  rw [List.getD_eq_getElem?_getD,e1,Option.getD_some] at h
  rcases foldl_bits acc' o.after.toList 0 j h with h0 | ⟨e,he,hbe,h1⟩
  · simp at h0
  · refine ⟨e,he,hbe,h1.imp id fun h1=>?_⟩
    rw [List.getD_eq_getElem?_getD,e3 e.on (by rw [e2];exact hb i o ho e he hbe),← List.getD_eq_getElem?_getD]
    exact h1
def stay (P:Program) (ops:Array Oper) (j:Nat) (fr:AFrame) (τ:AHeap):Prop :=
  match dstOf ops j with
  | some d=>exec P ops j fr τ (fun y θ=>y=look fr d∧θ=τ) (fun _ _=>False)
  | none=>False
def stays (P:Program) (ops:Array Oper):List Nat→AFrame→AHeap→Prop→Prop
  | [],_,_,R=>R
  | j :: js,fr,τ,R=>stay P ops j fr τ∧stays P ops js fr τ R
def aopsD (P:Program) (ops:Array Oper) (js:Nat→List Nat):List Nat→AFrame→AHeap→(AFrame→AHeap→Prop)→(AV→AHeap→Prop)→Prop
  | [],fr,σ,k,_=>k fr σ
  | i :: l,fr,σ,k,kp=>exec P ops i fr σ (fun x τ=>stays P ops (js i) (put fr (dstOf ops i) x) τ (aopsD P ops js l (put fr (dstOf ops i) x) τ k kp)) kp
def aopsR (P:Program) (ops:Array Oper) (js:Nat→List Nat):List Nat→List Nat→AFrame→AHeap→(AFrame→AHeap→Prop)→(AV→AHeap→Prop)→Prop
  | _,[],fr,σ,k,_=>k fr σ
  | pre,i :: l,fr,σ,k,kp=>exec P ops i fr σ (fun x τ=>(∀ j ∈ js i,j ∈ pre→stay P ops j (put fr (dstOf ops i) x) τ)∧aopsR P ops js (i :: pre) l (put fr (dstOf ops i) x) τ k kp) kp
theorem stays_iff {P ops}:∀ {l:List Nat} {fr τ R},stays P ops l fr τ R↔(∀ j ∈ l,stay P ops j fr τ)∧R
  | [],fr,τ,R=>by simp [stays]
  | j :: l,fr,τ,R=>by simp [stays,stays_iff,and_assoc]
theorem aopsR_mono {P ops js k kp}:∀ (l:List Nat) {pre pre':List Nat} {fr σ},(∀ j,j ∈ pre'→j ∈ pre)→aopsR P ops js pre l fr σ k kp→aopsR P ops js pre' l fr σ k kp
  | [],_,_,_,_,_,h=>h
  | i :: l,pre,pre',fr,σ,hp,h=>by
    refine exec_mono (fun x τ hh=>⟨fun j hj hm=>hh.1 j hj (hp j hm),aopsR_mono l (fun j hj=>?_) hh.2⟩) h
    rcases List.mem_cons.1 hj with rfl | hj
    · simp
    · simp [hp j hj]
theorem aopsR_of_D {P ops js k kp}:∀ (l:List Nat) {pre:List Nat} {fr σ},aopsD P ops js l fr σ k kp→aopsR P ops js pre l fr σ k kp
  | [],_,_,_,h=>h
  | i :: l,pre,fr,σ,h=>by
    refine exec_mono (fun x τ hh=>?_) h
    rw [stays_iff] at hh
    exact ⟨fun j hj _=>hh.1 j hj,aopsR_of_D l hh.2⟩
theorem stay_congr {P ops j fr fr' τ} (hr:∀ t ∈ reads ops j,look fr t=look fr' t) (hd:∀ d,dstOf ops j=some d→look fr d=look fr' d) (h:stay P ops j fr τ):stay P ops j fr' τ:=by
  unfold stay at h ⊢
  cases hj:dstOf ops j with
  | none=>rw [hj] at h;exact h.elim
  | some d =>
    rw [hj] at h
    simp only at h ⊢
    rw [← hd d hj]
    exact exec_congr hr h
theorem aopsR_resp {P ops js} {k kp} (hk:Resp k):∀ (l:List Nat) (pre:List Nat),Resp fun fr τ=>aopsR P ops js pre l fr τ k kp
  | [],pre,fr,fr',τ,h,hr=>hk fr fr' τ h hr
  | i :: l,pre,fr,fr',τ,h,hr=>by
    refine exec_mono (fun x τ' hh=>⟨fun j hj hm=>stay_congr (fun t _=>h.put _ _ t) (fun d _=>h.put _ _ d) (hh.1 j hj hm),aopsR_resp hk l _ _ _ _ (h.put _ _) hh.2⟩) (exec_congr (fun t _=>h t) hr)
structure Ssa (ops:Array Oper) (j i:Nat):Prop where
  ij:∀ d,dstOf ops i=some d→d ∉ reads ops j
  dd:∀ d,dstOf ops i=some d→dstOf ops j ≠ some d
structure Apart (ops:Array Oper) (js:Nat→List Nat) (j i:Nat):Prop where
  ji:∀ d,dstOf ops j=some d→d ∉ reads ops i
  ij:∀ d,dstOf ops i=some d→d ∉ reads ops j
  dd:∀ d,dstOf ops i=some d→dstOf ops j ≠ some d
  cls:clsOf ops j≤1
  none:js j=[]
  heap:(clsOf ops i≤1∨clsOf ops j=0)∨(j ∈ js i∧∃ d,dstOf ops j=some d∧d ∉ reads ops j)
theorem bubbleD {P ops js} {k kp} (hk:Resp k) (i:Nat) (c2:List Nat):∀ (c1 pre:List Nat),(∀ j ∈ c1,Apart ops js j i)→(∀ j' ∈ js i,j' ∈ pre→∀ j ∈ c1,Ssa ops j' j)→c1.Pairwise (fun j' j=>j' ∈ js i→Ssa ops j' j)→∀ fr σ,
    aopsR P ops js pre (c1 ++ i :: c2) fr σ k kp→exec P ops i fr σ (fun y τ=>(∀ j ∈ js i,j ∈ pre→stay P ops j (put fr (dstOf ops i) y) τ)∧aopsR P ops js pre (c1 ++ c2) (put fr (dstOf ops i) y) τ k kp) kp
  | [],pre,_,_,_,fr,σ,h=>exec_mono (fun y τ hh=>⟨hh.1,aopsR_mono _ (fun j hj=>by simp [hj]) hh.2⟩) h
  | j :: c1,pre,hA,hS,hP,fr,σ,h=>by
    have hj:=hA j (by simp)
    have h':exec P ops j fr σ (fun x τ=>exec P ops i (put fr (dstOf ops j) x) τ (fun y θ=>(∀ q ∈ js i,q ∈ j :: pre→stay P ops q (put (put fr (dstOf ops j) x) (dstOf ops i) y) θ)∧aopsR P ops js (j :: pre) (c1 ++ c2) (put (put fr (dstOf ops j) x) (dstOf ops i) y) θ k kp) kp) kp:=by
      refine exec_mono (fun x τ hh=>?_) h
      refine bubbleD hk i c2 c1 (j :: pre) (fun q hq=>hA q (by simp [hq])) (fun q hq hqp r hr=>?_) (List.pairwise_cons.1 hP).2 _ _ hh.2
      rcases List.mem_cons.1 hqp with rfl | hqp
      · exact (List.pairwise_cons.1 hP).1 r hr hq
      · exact hS q hq hqp r (by simp [hr])
    obtain ⟨x,h1,h2,h3⟩:=exec_quiet hj.cls h'
    have c1':∀ t ∈ reads ops i,look (put fr (dstOf ops j) x) t=look fr t:=by
      intro t ht
      rw [look_put]
      split
      · rename_i e;exact absurd ht (hj.ji t e)
      · rfl
    have c2':∀ y,∀ t ∈ reads ops j,look fr t=look (put fr (dstOf ops i) y) t:=by
      intro y t ht
      rw [look_put]
      split
      · rename_i e;exact absurd ht (hj.ij t e)
      · rfl
    have al:∀ y,Alike (put (put fr (dstOf ops j) x) (dstOf ops i) y) (put (put fr (dstOf ops i) y) (dstOf ops j) x):=by
      intro y s
      simp only [look_put]
      by_cases e1:dstOf ops i=some s
      · have:=hj.dd s e1
        simp [e1,this]
      · simp [e1]
    have off:∀ y s,dstOf ops j ≠ some s→look (put (put fr (dstOf ops j) x) (dstOf ops i) y) s=look (put fr (dstOf ops i) y) s:=by
      intro y s hs
      simp only [look_put,hs,if_false]
    have keepS:∀ y θ,(∀ q ∈ js i,q ∈ j :: pre→stay P ops q (put (put fr (dstOf ops j) x) (dstOf ops i) y) θ)→∀ q ∈ js i,q ∈ pre→stay P ops q (put fr (dstOf ops i) y) θ:=by
      intro y θ hh q hq hqp
      have hss:=hS q hq hqp j (by simp)
      exact stay_congr (fun t ht=>off y t fun e=>hss.ij t e ht) (fun d hd=>off y d fun e=>hss.dd d e hd) (hh q hq (by simp [hqp]))
    have put2:∀ y θ,aopsR P ops js (j :: pre) (c1 ++ c2) (put (put fr (dstOf ops j) x) (dstOf ops i) y) θ k kp→((∀ q ∈ js j,q ∈ pre→stay P ops q (put (put fr (dstOf ops i) y) (dstOf ops j) x) θ)∧aopsR P ops js (j :: pre) (c1 ++ c2) (put (put fr (dstOf ops i) y) (dstOf ops j) x) θ k kp):=by
      intro y θ hh
      refine ⟨fun q hq=>?_,aopsR_resp hk _ _ _ _ _ (al y) hh⟩
      rw [hj.none] at hq;simp at hq
    have h1:=exec_congr c1' h1
    rcases hj.heap with (hi | h0) | ⟨hjs,d,hd,hself⟩
    · obtain ⟨y,k1,k2,_⟩:=exec_quiet hi h1
      refine k2 _ _ ⟨keepS y σ k1.1,?_⟩
      exact exec_congr (c2' y) (h2 _ _ (put2 y σ k1.2))
    · refine exec_mono (fun y θ hh=>⟨keepS y θ hh.1,?_⟩) h1
      exact exec_congr (c2' y) (h3 h0 θ _ _ (put2 y θ hh.2))
    · refine exec_mono (fun y θ hh=>⟨keepS y θ hh.1,?_⟩) h1
      have hst:=hh.1 j hjs (by simp)
      unfold stay at hst
      rw [hd] at hst
      simp only at hst
      have hx:look (put (put fr (some d) x) (dstOf ops i) y) d=x:=by
        simp only [look_put,if_true]
        rw [if_neg]
        intro e
        exact hj.dd d e hd
      rw [hx,← hd] at hst
      obtain ⟨x',⟨rfl,_⟩,q2,_⟩:=exec_quiet hj.cls hst
      have:=q2 (fun x θ=>(∀ q ∈ js j,q ∈ pre→stay P ops q (put (put fr (dstOf ops i) y) (dstOf ops j) x) θ)∧aopsR P ops js (j :: pre) (c1 ++ c2) (put (put fr (dstOf ops i) y) (dstOf ops j) x) θ k kp) kp (put2 y θ hh.2)
      refine exec_congr (fun t ht=>off y t fun e=>?_) this
      rw [hd] at e
      cases e
      exact hself ht
def apartB (ops:Array Oper) (js:Nat→List Nat) (j i:Nat):Bool :=
  (match dstOf ops j with | some d=>!((reads ops i).contains d) | none=>true) &&
  (match dstOf ops i with | some d=>!((reads ops j).contains d) && decide (dstOf ops j ≠ some d) | none=>true) &&
  decide (clsOf ops j≤1) && (js j).isEmpty && ((decide (clsOf ops i≤1) || decide (clsOf ops j=0)) || ((js i).contains j && (match dstOf ops j with | some d=>!((reads ops j).contains d) | none=>false)))
theorem apartB_spec {ops js j i} (h:apartB ops js j i=true):Apart ops js j i:=by
  unfold apartB at h
  simp only [Bool.and_eq_true,decide_eq_true_eq,Bool.or_eq_true,List.isEmpty_iff] at h
  obtain ⟨⟨⟨⟨h1,h2⟩,h3⟩,h5⟩,h4⟩:=h
  refine ⟨fun d hd=>?_,fun d hd=>?_,fun d hd=>?_,h3,h5,h4.imp id fun h=>⟨by simpa using h.1,?_⟩⟩
  · rw [hd] at h1;simpa using h1
  · rw [hd] at h2;simp at h2;exact h2.1
  · rw [hd] at h2;simp at h2;exact h2.2
  · cases hd:dstOf ops j with
    | none=>rw [hd] at h;simp at h
    | some d=>rw [hd] at h;exact ⟨d,rfl,by simpa using h.2⟩
def ssaB (ops:Array Oper) (j i:Nat):Bool :=
  match dstOf ops i with | some d=>!((reads ops j).contains d) && decide (dstOf ops j ≠ some d) | none=>true
theorem ssaB_spec {ops j i} (h:ssaB ops j i=true):Ssa ops j i:=by
  unfold ssaB at h
  refine ⟨fun d hd=>?_,fun d hd=>?_⟩
  · rw [hd] at h;simp at h;exact h.1
  · rw [hd] at h;simp at h;exact h.2
def eff (ops:Array Oper) (i:Nat):Bool:=!(Nat.ble (clsOf ops i) 1)
def beforeB:List Nat→Nat→Nat→Bool
  | [],_,_=>false
  | a :: l,j,e=>if Nat.beq a j=true then l.contains e else beforeB l j e
theorem beforeB_mem {j e:Nat}:∀ {l:List Nat},beforeB l j e=true→e ∈ l
  | a :: l,h=>by
    unfold beforeB at h
    split at h
    · exact List.mem_cons_of_mem _ (by simpa using h)
    · exact List.mem_cons_of_mem _ (beforeB_mem h)
theorem beforeB_done {j e:Nat} {r:List Nat}:∀ {dn:List Nat},e ∈ dn→(dn ++ r).Nodup→beforeB (dn ++ r) j e=true→j ∈ dn
  | a :: dn,he,hn,h=>by
    simp only [List.cons_append,beforeB] at h
    simp only [List.cons_append,List.nodup_cons] at hn
    split at h
    · rename_i e1
      rw [Nat.beq_eq] at e1
      subst e1;exact List.mem_cons_self ..
    · rcases List.mem_cons.1 he with rfl | he
      · exact absurd (beforeB_mem h) hn.1
      · exact List.mem_cons_of_mem _ (beforeB_done he hn.2 h)
def canonOk (ops:Array Oper) (cl:List Nat) (E:List Nat) (js:Nat→List Nat):List Nat→Bool
  | []=>true
  | j :: c=>(c.all fun i=>(cl.getD i 0).testBit j || apartB ops js j i || (eff ops j && eff ops i) || (eff ops j && E.any fun e=>(cl.getD i 0).testBit e && beforeB E j e)) && (!(c.any fun i=>(js i).contains j) || c.all fun i=>ssaB ops j i) && canonOk ops cl E js c
def edgesOk (ops:Array Oper):Bool:=(List.range ops.size).all fun i=>match ops[i]? with | some o=>o.after.toList.all fun e=>!(Region.binds .any e) || decide (e.on < i) | none=>true
theorem edgesOk_spec {ops} (h:edgesOk ops=true) (i:Nat) (o:Oper) (ho:ops[i]?=some o):∀ e ∈ o.after.toList,Region.binds .any e=true→e.on < i:=by
  intro e he hb
  have hi:i < ops.size:=(Array.getElem?_eq_some_iff.1 ho).1
  have:=List.all_eq_true.1 h i (by simpa using hi)
  rw [ho] at this
  have:=List.all_eq_true.1 this e he
  simp [hb] at this
  exact this
def effL (cl:List Nat):Nat→List Nat→List (List Nat)
  | 0,_=>[[]]
  | _+1,[]=>[[]]
  | n+1,a :: r=>((a :: r).filter fun i=>(a :: r).all fun j=>!((cl.getD i 0).testBit j)).flatMap fun i=>(effL cl n ((a :: r).filter fun j=>!(Nat.beq j i))).map (i :: ·)
def effs (ops:Array Oper):List Nat:=(List.range ops.size).filter (eff ops)
def orderOk (ops:Array Oper) (o:(Nat→List Nat) × List Nat):Bool :=
  ((List.range ops.size).all fun i=>o.2.contains i) && (o.2.all fun i=>decide (i < ops.size)) && decide (o.2.Nodup) && canonOk ops (clo ops) (o.2.filter (eff ops)) o.1 o.2
def natsEq:List Nat→List Nat→Bool
  | [],[]=>true
  | a :: l,b :: m=>Nat.beq a b && natsEq l m
  | _,_=>false
theorem natsEq_eq:∀ {l m:List Nat},natsEq l m=true→l=m
  | [],[],_=>rfl
  | a :: l,b :: m,h=>by
    simp only [natsEq,Bool.and_eq_true,Nat.beq_eq] at h
    rw [h.1,natsEq_eq h.2]
  | [],_ :: _,h=>by simp [natsEq] at h
  | _ :: _,[],h=>by simp [natsEq] at h
def drawOk (ops:Array Oper) (os:List ((Nat→List Nat) × List Nat)):Bool :=
  edgesOk ops && (os.all (orderOk ops)) && ((effL (clo ops) (effs ops).length (effs ops)).all fun e=>os.any fun o=>natsEq (o.2.filter (eff ops)) e)
theorem Sched.effs {ops:Array Oper} (he:edgesOk ops=true):∀ (l:List Nat) (D:Nat→Prop) (n:Nat) (rem:List Nat),Sched ops D l→rem.length≤n→(∀ i,i < ops.size→eff ops i=true→(¬ D i↔i ∈ rem))→(∀ i ∈ rem,i < ops.size∧eff ops i=true) →
    (∀ i,D i→∀ j,((clo ops).getD i 0).testBit j=true→D j)→l.filter (eff ops) ∈ effL (clo ops) n rem
  | [],D,n,rem,hs,hn,hD,hrem,_=>by
    cases hs with
    | nil hall =>
      have:rem=[]:=by
        cases rem with
        | nil=>rfl
        | cons a r =>
          obtain ⟨h1,h2⟩:=hrem a (by simp)
          exact absurd (hall a h1) ((hD a h1 h2).2 (by simp))
      subst this
      cases n <;> simp [effL]
  | i :: l,D,n,rem,hs,hn,hD,hrem,hdown=>by
    cases hs with
    | cons hi hnD hed hs =>
      have hpre:∀ j,((clo ops).getD i 0).testBit j=true→D j:=by
        intro j hj
        obtain ⟨o,ho⟩:∃ o,ops[i]?=some o:=⟨_,Array.getElem?_eq_getElem hi⟩
        obtain ⟨e,hem,hb,hor⟩:=clo_spec (edgesOk_spec he) ho hj
        have hDe:=hed e (by simp [ho,hem]) hb
        rcases hor with rfl | h2
        · exact hDe
        · exact hdown _ hDe _ h2
      have hdown':∀ q,(D q∨q=i)→∀ j,((clo ops).getD q 0).testBit j=true→(D j∨j=i):=by
        intro q hq j hj
        rcases hq with hq | rfl
        · exact .inl (hdown q hq j hj)
        · exact .inl (hpre j hj)
      cases hef:eff ops i with
      | false =>
        rw [List.filter_cons,if_neg (by simp [hef])]
        refine Sched.effs he l _ n rem hs hn (fun q hq hqe=>?_) hrem hdown'
        have hne:q ≠ i:=by intro e;subst e;rw [hef] at hqe;cases hqe
        rw [← hD q hq hqe]
        simp [hne]
      | true =>
        have him:i ∈ rem:=(hD i hi hef).1 hnD
        rw [List.filter_cons,if_pos hef]
        cases n with
        | zero=>have:=List.length_pos_of_mem him;omega
        | succ n =>
          cases rem with
          | nil=>simp at him
          | cons a r =>
            simp only [effL,List.mem_flatMap,List.mem_filter,List.mem_map]
            refine ⟨i,⟨him,?_⟩,l.filter (eff ops),?_,rfl⟩
            · rw [List.all_eq_true]
              intro j hj
              cases hb:((clo ops).getD i 0).testBit j with
              | false=>rfl
              | true =>
                obtain ⟨h1,h2⟩:=hrem j hj
                exact absurd (hpre j hb) ((hD j h1 h2).2 hj)
            · refine Sched.effs he l _ n _ hs ?_ (fun q hq hqe=>?_) (fun q hq=>hrem q (List.mem_filter.1 hq).1) hdown'
              · have:((a :: r).filter fun j=>!(Nat.beq j i)).length < (a :: r).length:=by
                  rw [← List.countP_eq_length_filter]
                  rcases Nat.lt_or_ge (List.countP (fun j=>!(Nat.beq j i)) (a :: r)) (a :: r).length with h | h
                  · exact h
                  · have h':=List.countP_eq_length.1 (Nat.le_antisymm List.countP_le_length h) i him
                    simp at h'
                omega
              · rw [List.mem_filter,← hD q hq hqe,not_or]
                refine and_congr_right fun _=>⟨fun e=>by rw [nbeq_ne e];rfl,fun h e=>by subst e;simp at h⟩
termination_by l=>l.length
theorem canonOk_sub {ops cl E js}:∀ {c c':List Nat},c'.Sublist c→canonOk ops cl E js c=true→canonOk ops cl E js c'=true
  | _,_,.slnil,h=>h
  | _,_,.cons _ hs,h=>by
    simp only [canonOk,Bool.and_eq_true] at h
    exact canonOk_sub hs h.2
  | _,_,.cons_cons (l₁:=l₁) (l₂:=l₂) a hs,h=>by
    simp only [canonOk,Bool.and_eq_true,Bool.or_eq_true,Bool.not_eq_true'] at h ⊢
    refine ⟨⟨List.all_eq_true.2 fun i hi=>List.all_eq_true.1 h.1.1 i (hs.subset hi),?_⟩,canonOk_sub hs h.2⟩
    rcases h.1.2 with h1 | h1
    · left
      refine Bool.eq_false_iff.2 fun hh=>?_
      obtain ⟨i,hi,he⟩:=List.any_eq_true.1 hh
      exact Bool.eq_false_iff.1 h1 (List.any_eq_true.2 ⟨i,hs.subset hi,he⟩)
    · exact .inr (List.all_eq_true.2 fun i hi=>List.all_eq_true.1 h1 i (hs.subset hi))
theorem canonOk_before {ops cl E js i} {c2:List Nat}:∀ {c1:List Nat},canonOk ops cl E js (c1 ++ i :: c2)=true→∀ j ∈ c1,((cl.getD i 0).testBit j || apartB ops js j i || (eff ops j && eff ops i) || (eff ops j && E.any fun e=>(cl.getD i 0).testBit e && beforeB E j e))=true
  | [],_,j,hj=>by simp at hj
  | q :: c1,h,j,hj=>by
    simp only [List.cons_append,canonOk,Bool.and_eq_true] at h
    rcases List.mem_cons.1 hj with rfl | hj
    · exact List.all_eq_true.1 h.1.1 i (by simp)
    · exact canonOk_before h.2 j hj
theorem canonOk_pairs {ops cl E js i} {c2:List Nat}:∀ {c1:List Nat},canonOk ops cl E js (c1 ++ i :: c2)=true→c1.Pairwise fun j' j=>j' ∈ js i→Ssa ops j' j
  | [],_=>.nil
  | q :: c1,h=>by
    simp only [List.cons_append,canonOk,Bool.and_eq_true,Bool.or_eq_true,Bool.not_eq_true'] at h
    refine .cons (fun j hj hq=>?_) (canonOk_pairs h.2)
    rcases h.1.2 with h1 | h1
    · exact absurd (List.any_eq_true.2 ⟨i,by simp,by simpa using hq⟩) (Bool.eq_false_iff.1 h1)
    · exact ssaB_spec (List.all_eq_true.1 h1 j (by simp [hj]))
theorem sched_run {P ops js} (he:edgesOk ops=true) {k kp} (hk:Resp k) {E:List Nat} (hE:E.Nodup) (hEe:∀ e ∈ E,e < ops.size∧eff ops e=true):∀ (l:List Nat) (D:Nat→Prop) (c:List Nat),Sched ops D l→(∀ i,i < ops.size→(D i↔i ∉ c))→c.Nodup→(∀ i ∈ c,i < ops.size)→canonOk ops (clo ops) E js c=true→(∃ dn,E=dn ++ c.filter (eff ops)) →
    (∀ i,D i→∀ j,((clo ops).getD i 0).testBit j=true→D j)→c.filter (eff ops)=l.filter (eff ops)→∀ fr σ,aopsR P ops js [] c fr σ k kp→aopsI (runQ P) ops l fr σ k kp
  | [],D,c,hs,hD,_,hlt,_,_,_,_,fr,σ,h=>by
    cases hs with
    | nil hall =>
      cases c with
      | nil=>exact h
      | cons i c=>exact absurd (by simp) ((hD i (hlt i (by simp))).1 (hall i (hlt i (by simp))))
  | i :: l,D,c,hs,hD,hnd,hlt,hok,hdn,hdown,heq,fr,σ,h=>by
    cases hs with
    | cons hi hn hed hs =>
      have hic:i ∈ c:=Classical.byContradiction fun hh=>hn ((hD i hi).2 hh)
      obtain ⟨c1,c2,rfl⟩:=List.append_of_mem hic
      have hpre:∀ j,((clo ops).getD i 0).testBit j=true→D j:=by
        intro j hj
        obtain ⟨o,ho⟩:∃ o,ops[i]?=some o:=⟨_,Array.getElem?_eq_getElem hi⟩
        obtain ⟨e,hem,hb,hor⟩:=clo_spec (edgesOk_spec he) ho hj
        have hDe:=hed e (by simp [ho,hem]) hb
        rcases hor with rfl | h2
        · exact hDe
        · exact hdown _ hDe _ h2
      have hcom:∀ j ∈ c1,Apart ops js j i:=by
        intro j hj
        have:=canonOk_before hok j hj
        rw [Bool.or_eq_true,Bool.or_eq_true,Bool.or_eq_true] at this
        rcases this with ((h1 | h1) | h1) | h1
        · exact absurd (by simp [hj]) ((hD j (hlt j (by simp [hj]))).1 (hpre j h1))
        · exact apartB_spec h1
        rotate_left
        · exfalso
          obtain ⟨dn,hdn⟩:=hdn
          rw [Bool.and_eq_true,List.any_eq_true] at h1
          obtain ⟨hje,e,heE,h2⟩:=h1
          rw [Bool.and_eq_true] at h2
          have hDe:=hpre e h2.1
          have hec:=(hD e (hEe e heE).1).1 hDe
          have hedn:e ∈ dn:=by
            rw [hdn] at heE
            rcases List.mem_append.1 heE with h | h
            · exact h
            · exact absurd (List.mem_filter.1 h).1 hec
          have hb:=h2.2
          rw [hdn] at hb hE
          have hjd:=beforeB_done hedn hE hb
          rw [List.nodup_append] at hE
          exact hE.2.2 j hjd j (List.mem_filter.2 ⟨by simp [hj],hje⟩) rfl
        · exfalso
          simp only [Bool.and_eq_true] at h1
          rw [List.filter_cons,if_pos h1.2,List.filter_append] at heq
          have hjm:j ∈ c1.filter (eff ops):=List.mem_filter.2 ⟨hj,h1.1⟩
          cases hcf:c1.filter (eff ops) with
          | nil=>rw [hcf] at hjm;simp at hjm
          | cons q r =>
            rw [hcf] at heq
            simp only [List.cons_append,List.cons.injEq] at heq
            have hq:q ∈ c1:=(List.mem_filter.1 (by rw [hcf];simp:q ∈ c1.filter (eff ops))).1
            rw [heq.1] at hq
            rw [List.nodup_append] at hnd
            exact hnd.2.2 i hq i (by simp) rfl
      have hb:=bubbleD hk i c2 c1 [] hcom (fun _ _ h=>by simp at h) (canonOk_pairs hok) fr σ h
      rw [aopsI_cons]
      have hsub:(c1 ++ c2).Sublist (c1 ++ i :: c2):=List.Sublist.append (List.Sublist.refl _) (List.sublist_cons_self _ _)
      have hi2:i ∉ c1 ++ c2:=by
        have:=hnd
        rw [List.nodup_append] at this
        obtain ⟨_,h2,h3⟩:=this
        have h4:=(List.nodup_cons.1 h2).1
        simp only [List.mem_append,not_or]
        exact ⟨fun hh=>h3 i hh i (by simp) rfl,h4⟩
      have heq2:(c1 ++ c2).filter (eff ops)=l.filter (eff ops):=by
        rw [List.filter_append,List.filter_cons,List.filter_cons] at heq
        rw [List.filter_append]
        cases hef:eff ops i with
        | false=>rw [if_neg (by simp [hef]),if_neg (by simp [hef])] at heq;exact heq
        | true =>
          rw [if_pos hef,if_pos hef] at heq
          cases hcf:c1.filter (eff ops) with
          | nil=>rw [hcf] at heq;simpa using heq
          | cons q r =>
            rw [hcf] at heq
            simp only [List.cons_append,List.cons.injEq] at heq
            have hq:q ∈ c1:=(List.mem_filter.1 (by rw [hcf];simp:q ∈ c1.filter (eff ops))).1
            rw [heq.1] at hq
            exact absurd (by simp [hq]) hi2
      have hdn2:∃ dn,E=dn ++ (c1 ++ c2).filter (eff ops):=by
        obtain ⟨dn,hdn⟩:=hdn
        rw [heq,List.filter_cons] at hdn
        rw [heq2]
        cases hef:eff ops i with
        | false=>rw [if_neg (by simp [hef])] at hdn;exact ⟨dn,hdn⟩
        | true=>rw [if_pos hef] at hdn;exact ⟨dn ++ [i],by rw [hdn];simp⟩
      refine exec_mono (fun x τ hh=>?_) hb
      refine sched_run he hk hE hEe l _ (c1 ++ c2) hs (fun q hq=>?_) (hnd.sublist hsub) (fun q hq=>hlt q (hsub.subset hq)) (canonOk_sub hsub hok) hdn2 (fun q hq j hj=>?_) heq2 _ τ hh.2
      · rw [hD q hq]
        simp only [List.mem_append,List.mem_cons,not_or]
        by_cases e:q=i
        · subst e
          simp only [List.mem_append,not_or] at hi2
          simp [hi2]
        · simp [e]
      · rcases hq with hq | rfl
        · exact .inl (hdown q hq j hj)
        · exact .inl (hpre j hj)
theorem countP_lt {p q:Nat→Bool}:∀ {l:List Nat} {i:Nat},(∀ k,q k=true→p k=true)→i ∈ l→p i=true→q i=false→l.countP q < l.countP p
  | [],_,_,h,_,_=>by simp at h
  | a :: l,i,hpq,h,hp,hq=>by
    rw [List.countP_cons,List.countP_cons]
    have hle:l.countP q≤l.countP p:=List.countP_mono_left fun k _=>hpq k
    rcases List.mem_cons.1 h with rfl | h
    · simp [hp,hq];omega
    · have:=countP_lt hpq h hp hq
      have:(if q a=true then 1 else 0)≤(if p a=true then 1 else 0):=by
        split
        · rename_i e;rw [if_pos (hpq a e)];exact Nat.le_refl _
        · exact Nat.zero_le _
      omega
theorem Sched.congr {ops:Array Oper} {D D':Nat→Prop} {l} (h:Sched ops D l) (e:∀ k,D k↔D' k):Sched ops D' l:=by
  have:D=D':=funext fun k=>propext (e k)
  subst this;exact h
theorem lin_sched {ops:Array Oper} (he:edgesOk ops=true):∀ (fuel t:Nat) (listed:Array Bool) (acc:List Nat),listed.size=ops.size→(List.range ops.size).countP (fun k=>!listed.getD k true)≤fuel →
    ∃ l,Region.linearise.go .any ops fuel t listed acc=acc.reverse ++ l∧Sched ops (fun k=>listed.getD k true=true) l
  | 0,t,listed,acc,hsz,hc=>by
    refine ⟨[],by simp [Region.linearise.go],.nil fun i hi=>?_⟩
    have h0:=List.countP_eq_zero.1 (Nat.le_zero.1 hc) i (by simpa using hi)
    simpa using h0
  | fuel+1,t,listed,acc,hsz,hc=>by
    simp only [Region.linearise.go]
    generalize hrs:(List.range ops.size).filter (fun i=>!listed.getD i true && ((ops[i]?).map (·.after.all fun e=>!Region.binds .any e || listed.getD e.on false)).getD false)=rs
    by_cases h0:rs=[]
    · subst h0
      refine ⟨[],by simp,.nil ?_⟩
      intro i
      induction i using Nat.strongRecOn with
      | _ i ih =>
        intro hi
        refine Classical.byContradiction fun hn=>?_
        have hmem:i ∈ (List.range ops.size).filter (fun i=>!listed.getD i true && ((ops[i]?).map (·.after.all fun e=>!Region.binds .any e || listed.getD e.on false)).getD false):=by
          rw [List.mem_filter]
          refine ⟨by simpa using hi,?_⟩
          have hl:listed.getD i true=false:=by simpa using hn
          obtain ⟨o,ho⟩:∃ o,ops[i]?=some o:=⟨_,Array.getElem?_eq_getElem hi⟩
          simp only [hl,Bool.not_false,Bool.true_and,ho,Option.map_some,Option.getD_some]
          rw [Array.all_eq_true]
          intro q hq
          cases hb:Region.binds .any o.after[q] with
          | false=>rfl
          | true =>
            have hlt:=edgesOk_spec he i o ho o.after[q] (by simp) hb
            have h2:=ih _ hlt (by omega)
            have h3:o.after[q].on < listed.size:=by omega
            simp only [Bool.not_true,Bool.false_or]
            rw [Array.getD_eq_getD_getElem?,Array.getElem?_eq_getElem h3] at h2 ⊢
            exact h2
        rw [hrs] at hmem
        simp at hmem
    · have hlen:0 < rs.length:=List.length_pos_iff.2 h0
      have hmod:t % rs.length < rs.length:=Nat.mod_lt _ hlen
      rw [List.getElem?_eq_getElem hmod]
      simp only
      generalize hi:rs[t % rs.length]=i
      have him:i ∈ rs:=by rw [← hi];exact List.getElem_mem _
      rw [← hrs,List.mem_filter] at him
      obtain ⟨hlt,hcond⟩:=him
      simp only [List.mem_range] at hlt
      simp only [Bool.and_eq_true,Bool.not_eq_true'] at hcond
      obtain ⟨hnl,hready⟩:=hcond
      have hsz':(listed.setIfInBounds i true).size=ops.size:=by simpa using hsz
      have hget:∀ k,(listed.setIfInBounds i true).getD k true=true↔(listed.getD k true=true∨k=i):=by
        intro k
        by_cases e:k=i
        · subst e;simp [Array.getD_eq_getD_getElem?,hsz,hlt]
        · simp only [Array.getD_eq_getD_getElem?]
          rw [Array.getElem?_setIfInBounds_ne (Ne.symm e)]
          simp [e]
      obtain ⟨l,hl,hs⟩:=lin_sched he fuel (t / rs.length) (listed.setIfInBounds i true) (i :: acc) hsz' (by
        refine Nat.le_of_lt_succ (Nat.lt_of_lt_of_le (countP_lt (p:=fun k=>!listed.getD k true) (i:=i) (fun k hk=>?_) (by simpa using hlt) (by simp [hnl]) ?_) hc)
        · simp only [Bool.not_eq_true'] at hk ⊢
          refine Bool.eq_false_iff.2 fun hh=>?_
          have:=(hget k).2 (.inl hh)
          rw [this] at hk;cases hk
        · have:=(hget i).2 (.inr rfl)
          simp [this])
      refine ⟨i :: l,by rw [hl];simp,.cons hlt (by simp [hnl]) ?_ (hs.congr hget)⟩
      intro e hem hb
      obtain ⟨o,ho⟩:∃ o,ops[i]?=some o:=⟨_,Array.getElem?_eq_getElem hlt⟩
      rw [ho] at hem hready
      simp only [Option.map_some,Option.getD_some] at hem hready
      obtain ⟨q,hq,rfl⟩:=List.getElem_of_mem hem
      have:=Array.all_eq_true.1 hready q (by simpa using hq)
      simp only [Array.getElem_toList] at hb ⊢
      rw [hb] at this
      simp only [Bool.not_true,Bool.false_or] at this
      rw [Array.getD_eq_getD_getElem?] at this ⊢
      cases hx:listed[o.after[q].on]? with
      | none=>rw [hx] at this;simp at this
      | some b=>rw [hx] at this;simpa using this
theorem prune_congr (keep:List Nat) {fr fr':AFrame} (h:Alike fr fr'):prune keep fr=prune keep fr':=by
  unfold prune
  exact List.map_congr_left fun k _=>by rw [h k]
theorem draw_sound {P:Program} {ops:Array Oper} {N:Nat} (hN:dstsOk N ops=true) {X:List Nat} {D:Act→Prop} (hX:fixOk X ops=true) (hD:DOk X D) {os:List ((Nat→List Nat) × List Nat)} (hd:drawOk ops os=true) (t:Nat) {ρ₀ σ₀ w₀} {k:AFrame→AHeap→Prop} {kp:AV→AHeap→Prop} {Q:Exit→Act→World→Prop} (hQ:Ends D ρ₀ σ₀ w₀ N k kp Q) (hk:Resp k)
    {ρ σ w fr a} (hst:St D ρ₀ σ₀ w₀ N ρ σ w fr a) (h:∀ o ∈ os,aopsD P ops o.1 o.2 fr σ k kp):wpOps P ops Q (Region.schedule true ops t) a w:=by
  unfold drawOk at hd
  simp only [Bool.and_eq_true] at hd
  obtain ⟨⟨he,hos⟩,hcov⟩:=hd
  obtain ⟨l,hl,hs⟩:=lin_sched he ops.size t (Array.replicate ops.size false) [] (by simp) (Nat.le_trans List.countP_le_length (by simp))
  have hsched:Region.schedule true ops t=l:=by
    simp only [Region.schedule,Bool.true_or,if_true,Region.linearise]
    rw [hl];simp
  rw [hsched]
  have hfalse:∀ i,i < ops.size→(Array.replicate ops.size false).getD i true=false:=fun i hi=>by simp [Array.getD_eq_getD_getElem?,hi]
  have hdown:∀ i,(Array.replicate ops.size false).getD i true=true→∀ j,((clo ops).getD i 0).testBit j=true→(Array.replicate ops.size false).getD j true=true:=by
    intro i hi j hj
    rcases Nat.lt_or_ge i ops.size with hlt | hge
    · rw [hfalse i hlt] at hi;cases hi
    · obtain ⟨_,hlen,_⟩:=cloAll_spec ops.toList [] 0
      have:(clo ops).getD i 0=0:=by
        rw [List.getD_eq_getElem?_getD,List.getElem?_eq_none]
        · rfl
        · show (cloAll ops.toList []).length≤i
          rw [hlen];simpa using hge
      rw [this] at hj
      simp at hj
  have hmem:=Sched.effs he l _ (effs ops).length (effs ops) hs (Nat.le_refl _) (fun i hi hie=>by
      rw [hfalse i hi]
      simp [effs,hi,hie]) (fun i hi=>by simpa [effs] using hi) hdown
  obtain ⟨o,ho,hoe⟩:=List.any_eq_true.1 (List.all_eq_true.1 hcov _ hmem)
  have heq:=natsEq_eq hoe
  have hok:=List.all_eq_true.1 hos o ho
  unfold orderOk at hok
  simp only [Bool.and_eq_true,decide_eq_true_eq] at hok
  obtain ⟨⟨⟨h1,h2⟩,h3⟩,h4⟩:=hok
  refine aopsI_sound (runQ_ok P) hN hX hD hQ l ρ σ w fr a hst (sched_run he hk (h3.sublist List.filter_sublist) (fun e hee=>⟨by simpa using List.all_eq_true.1 h2 e (List.mem_filter.1 hee).1,(List.mem_filter.1 hee).2⟩) l _ o.2 hs (fun i hi=>?_) h3 (fun i hi=>by simpa using List.all_eq_true.1 h2 i hi) h4 ⟨[],by simp⟩ hdown heq fr σ (aopsR_of_D _ (h o ho)))
  have hc:=List.all_eq_true.1 h1 i (by simpa using hi)
  rw [hfalse i hi]
  simp only [Bool.false_eq_true,false_iff,Classical.not_not]
  simpa using hc
end Go.Abs
