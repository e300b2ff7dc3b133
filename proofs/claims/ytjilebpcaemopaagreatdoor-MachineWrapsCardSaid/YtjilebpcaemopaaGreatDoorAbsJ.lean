import Derived.Test.YtjilebpcaemopaaGreatDoorAbsH
namespace Go.Abs
open Go
def bV:Op→Nat
 | .move _ | .assign _ | .pick .. | .nilCheck _ | .binOp .. | .unOp .. | .convert .. | .makeFunc .. | .slice .. | .fieldAddr .. | .field .. | .index .. | .extract .. | .build .. | .buildSlice .. | .makeInterface .. =>0
 | .call c=>match c.callee with
  | .builtin .max=>0
  | .builtin .min=>0
  | .builtin .len=>1
  | _=>2
 | .load .. | .lookup .. | .indexAddr .. =>1
 | _=>2
def jG (op:Op):List Nat:=op.operands.toList.filterMap fun | .tmp t=>some t | _=>none
theorem yB {fr fr':aA} {x:Operand} (h:∀t,x= .tmp t→aa fr t=aa fr' t):ev fr x=ev fr' x:=by
 cases x with
 | tmp t=>exact h t rfl
 | _=>rfl
theorem uC {op:Op} {t:Nat} (h:Operand.tmp t∈op.operands.toList):t∈jG op:=by
 unfold jG
 exact List.mem_filterMap.2 ⟨_,h,rfl⟩
theorem yC {op:Op} {fr fr':aA} (h:∀t∈jG op,aa fr t=aa fr' t) {x:Operand} (hx:x∈op.operands.toList):ev fr x=ev fr' x:=
 yB fun t e=>h t (uC (by rw[←e];exact hx))
theorem kb (pl:Array (Nat×Nat)) {fr fr':aA}:∀(l:List (Nat×Operand)),(∀p∈l,ev fr p.2=ev fr' p.2)→partsOf pl fr l=partsOf pl fr' l
 | [],_=>rfl
 | (i,x)::r,h=>by
  simp only[partsOf]
  rw[kb pl r (fun p hp=>h p (by simp[hp])),h (i,x) (by simp)]
theorem map_congr {fr fr':aA} {l:List Operand} (h:∀x∈l,ev fr x=ev fr' x):l.map (ev fr)=l.map (ev fr'):=List.map_congr_left h
theorem mu {fr fr':aA} {o:Option Operand} (h:∀x,o=some x→ev fr x=ev fr' x):o.map (ev fr)=o.map (ev fr'):=by
 cases o with
 | none=>rfl
 | some x=>simp[h x rfl]
set_option maxHeartbeats 1000000 in
theorem tX {P:Program} {op:Op} {fr fr':aA} (h:∀t∈jG op,aa fr t=aa fr' t) (σ:ah):bS P op fr σ=bS P op fr' σ:=by
 have e:=fun x hx=>yC h (x:=x) hx
 cases op with
 | build t parts=>
  have:∀pl,partsOf pl fr parts.toList=partsOf pl fr' parts.toList:=fun pl=>
   kb pl parts.toList fun p hp=>e p.2 (by simp only[Op.operands];exact List.mem_map.2 ⟨p,hp,rfl⟩)
  simp only[bS,this]
 | buildSlice t len parts=>
  have:(parts.toList.map fun(p:Nat×Operand)=>(p.1,ev fr p.2))=parts.toList.map fun p=>(p.1,ev fr' p.2):=
   List.map_congr_left fun p hp=>by rw[e p.2 (by simp only[Op.operands];exact List.mem_map.2 ⟨p,hp,rfl⟩)]
  simp only[bS,this]
 | slice t x lo hi mx=>
  have h1:=mu (fr:=fr) (fr':=fr') (o:=lo) (fun y hy=>e y (by subst hy;simp[Op.operands]))
  have h2:=mu (fr:=fr) (fr':=fr') (o:=hi) (fun y hy=>e y (by subst hy;simp[Op.operands]))
  have h3:=mu (fr:=fr) (fr':=fr') (o:=mx) (fun y hy=>e y (by subst hy;simp[Op.operands]))
  simp only[bS]
  rw[h1,h2,h3,e x (by simp[Op.operands])]
 | makeFunc fn first cap=>
  have:cap.toList.map (ev fr)=cap.toList.map (ev fr'):=map_congr fun x hx=>e x (by simp[Op.operands];exact .inr (by simpa using hx))
  simp only[bS]
  rw[this]
 | call c=>
  have:c.args.toList.map (ev fr)=c.args.toList.map (ev fr'):=map_congr fun x hx=>e x (by simp only[Op.operands,Call.operands,Array.toList_append,List.mem_append];exact .inr hx)
  simp only[bS]
  rw[this]
 | unOp u t x=>cases u<;>simp only[bS]<;>rw[e x (by simp[Op.operands])]
 | makeMap t r=>cases r<;>rfl
 | makeSlice t x y=>simp only[bS];rw[e x (by simp[Op.operands]),e y (by simp[Op.operands])]
 | move x=>simp only[bS];rw[e x (by simp[Op.operands])]
 | assign x=>simp only[bS];rw[e x (by simp[Op.operands])]
 | box t x=>simp only[bS];rw[e x (by simp[Op.operands])]
 | pick c x y=>simp only[bS];rw[e c (by simp[Op.operands]),e x (by simp[Op.operands]),e y (by simp[Op.operands])]
 | load t x=>simp only[bS];rw[e x (by simp[Op.operands])]
 | store t x y=>simp only[bS];rw[e x (by simp[Op.operands]),e y (by simp[Op.operands])]
 | nilCheck x=>simp only[bS];rw[e x (by simp[Op.operands])]
 | binOp op t x y t'=>simp only[bS];rw[e x (by simp[Op.operands]),e y (by simp[Op.operands])]
 | convert s d x=>simp only[bS];rw[e x (by simp[Op.operands])]
 | makeInterface t x=>simp only[bS];rw[e x (by simp[Op.operands])]
 | fieldAddr s x f=>simp only[bS];rw[e x (by simp[Op.operands])]
 | field s x f=>simp only[bS];rw[e x (by simp[Op.operands])]
 | indexAddr t x i=>simp only[bS];rw[e x (by simp[Op.operands]),e i (by simp[Op.operands])]
 | index t x i=>simp only[bS];rw[e x (by simp[Op.operands]),e i (by simp[Op.operands])]
 | lookup t x i ok=>simp only[bS];rw[e x (by simp[Op.operands]),e i (by simp[Op.operands])]
 | mapUpdate t x i y=>simp only[bS];rw[e x (by simp[Op.operands]),e i (by simp[Op.operands]),e y (by simp[Op.operands])]
 | insert t x i y=>simp only[bS];rw[e x (by simp[Op.operands]),e i (by simp[Op.operands]),e y (by simp[Op.operands])]
 | extract x i=>simp only[bS];rw[e x (by simp[Op.operands])]
 | typeAssert x xt asserted c=>cases c<;>simp only[bS]<;>(try rw[e x (by simp[Op.operands])])
 | _=>rfl
theorem kG {P:Program} {op:Op} (h1:∀c,op≠ .call c) (h2:∀x,op≠ .panic x) (fr:aA) (σ:ah) (k kp:AV→ah→Prop):eK P op fr σ k kp=ab (bS P op fr σ) k:=by
 cases op<;>first | rfl | exact absurd rfl (h1 _) | exact absurd rfl (h2 _)
theorem tp {P:Program} {op:Op} {fr fr':aA} (h:∀t∈jG op,aa fr t=aa fr' t) {σ k kp} (hr:eK P op fr σ k kp):eK P op fr' σ k kp:=by
 have e:=fun x hx=>yC h (x:=x) hx
 by_cases hc:∃c,op= .call c
 ·obtain⟨⟨callee,args,ts⟩,rfl⟩:=hc
  have hargs:args.toList.map (ev fr)=args.toList.map (ev fr'):=map_congr fun x hx=>e x (by simp only[Op.operands,Call.operands,Array.toList_append,List.mem_append];exact .inr hx)
  cases callee with
  | value f=>
   simp only[eK]at hr⊢
   rw[←hargs,←e f (by simp[Op.operands,Call.operands])]
   exact hr
  | builtin b=>
   simp only[eK]at hr⊢
   rw[←hargs]
   exact hr
  | invoke r m=>exact hr.elim
 ·by_cases hp:∃x,op= .panic x
  ·obtain⟨x,rfl⟩:=hp
   simp only[eK]at hr⊢
   rw[←e x (by simp[Op.operands])]
   exact hr
  ·rw[kG (fun c hh=>hc ⟨c,hh⟩) (fun c hh=>hp ⟨c,hh⟩)]at hr⊢
   rw[←tX h]
   exact hr
theorem uK {P:Program} {op:Op} {fr σ} {k k' kp:AV→ah→Prop} (h:∀x τ,k x τ→k' x τ) (hr:eK P op fr σ k kp):eK P op fr σ k' kp:=by
 have step:∀r,ab r k→ab r k':=by
  intro r hr
  unfold ab at hr⊢
  split<;>simp_all
 by_cases hc:∃c,op= .call c
 ·obtain⟨⟨callee,args,ts⟩,rfl⟩:=hc
  cases callee with
  | value f=>
   simp only[eK]at hr⊢
   generalize ev fr f=q at hr⊢
   unfold fX at hr⊢
   split at hr
   ·exact hr.mono h (fun _ _ h=>h)
   ·exact hr.elim
  | builtin b=>exact step _ hr
  | invoke r m=>exact hr.elim
 ·by_cases hp:∃x,op= .panic x
  ·obtain⟨x,rfl⟩:=hp
   exact hr
  ·rw[kG (fun c hh=>hc ⟨c,hh⟩) (fun c hh=>hp ⟨c,hh⟩)]at hr⊢
   exact step _ hr
theorem jI {σ:ah} {q:Option AV} {x:AV} {σ':ah} (h:ae σ q=some (x,σ')):σ'=σ∧∀τ,ae τ q=some (x,τ):=by
 obtain⟨y,rfl,e⟩:=Option.map_eq_some_iff.1 h
 cases e
 exact⟨rfl,fun τ=>rfl⟩
set_option maxHeartbeats 1000000 in
theorem tY {P:Program} {op:Op} (hb:∀t l p,op≠ .buildSlice t l p) (hc:bV op≤1) {fr σ x σ'} (h:bS P op fr σ=some (x,σ')):σ'=σ∧(bV op=0→∀τ,bS P op fr τ=some (x,τ)):=by
 have out:∀ {q:Option AV} {Z:ah→Option (AV×ah)},ae σ q=some (x,σ')→(∀τ,ae τ q=Z τ)→σ'=σ∧(bV op=0→∀τ,Z τ=some (x,τ)):=by
  intro q Z h1 h2
  obtain⟨k1,k2⟩:=jI h1
  exact⟨k1,fun _ τ=>by rw[←h2];exact k2 τ⟩
 have out1:∀ {q:Option AV},ae σ q=some (x,σ')→bV op≠0→σ'=σ∧(bV op=0→∀τ,bS P op fr τ=some (x,τ)):=by
  intro q h1 h2
  exact⟨(jI h1).1,fun h0=>absurd h0 h2⟩
 cases op with
 | buildSlice t l p=>exact absurd rfl (hb t l p)
 | move y=>simp only[bS]at h⊢;cases h;exact⟨rfl,fun _ τ=>rfl⟩
 | assign y=>simp only[bS]at h⊢;cases h;exact⟨rfl,fun _ τ=>rfl⟩
 | nilCheck y=>simp only[bS]at h⊢;exact out h fun τ=>rfl
 | pick c y z=>simp only[bS]at h⊢;exact out h fun τ=>rfl
 | binOp op t y z t'=>simp only[bS]at h⊢;split at h;(exact out h fun τ=>rfl);cases h
 | unOp u t y=>cases u<;>simp only[bS]at h⊢ <;>first | (exact out h fun τ=>rfl) | cases h
 | convert s d y=>simp only[bS]at h⊢;split at h;(exact out h fun τ=>rfl);cases h
 | makeInterface t y=>simp only[bS]at h⊢;split at h;(rename_i hi;cases h;exact⟨rfl,fun _ τ=>by rw[if_pos hi]⟩);cases h
 | makeFunc fn first cap=>simp only[bS]at h⊢;split at h;(rename_i hi;cases h;exact⟨rfl,fun _ τ=>by rw[if_pos hi]⟩);cases h
 | slice t y lo hi mx=>
  simp only[bS]at h⊢
  split at h
  ·exact out h fun τ=>rfl
  ·split at h
   ·rename_i hi
    split at h
    ·exact out h fun τ=>by rw[if_pos hi]
    ·cases h
   ·cases h
 | fieldAddr s y f=>simp only[bS]at h⊢;split at h;(exact out h fun τ=>rfl);cases h
 | field s y f=>simp only[bS]at h⊢;split at h;(exact out h fun τ=>rfl);cases h
 | index t y i=>simp only[bS]at h⊢;split at h;(rename_i hi;exact out h fun τ=>by rw[if_pos hi]);cases h
 | extract y i=>simp only[bS]at h⊢;exact out h fun τ=>rfl
 | build t parts=>
  simp only[bS]at h⊢
  split at h
  ·split at h
   ·exact out h fun τ=>rfl
   ·cases h
  ·cases h
 | load t y=>
  simp only[bS]at h
  split at h
  ·exact out1 h (by simp[bV])
  ·cases h
 | lookup t y i ok=>
  simp only[bS]at h
  split at h
  ·split at h
   ·exact out1 h (by simp[bV])
   ·cases h
  ·cases h
 | indexAddr t y i=>
  simp only[bS]at h
  split at h
  ·exact out1 h (by simp[bV])
  ·cases h
 | call c=>
  obtain⟨callee,args,ts⟩:=c
  cases callee with
  | value f=>simp[bV]at hc
  | invoke r m=>simp[bV]at hc
  | builtin b=>
   simp only[bS]at h⊢
   cases b<;>first
    | (simp[bV]at hc;done)
    | (simp only[jl]at h⊢
       split at h<;>first
        | (cases h;done)
        | (rename_i e _ _;cases e;done)
        | (rename_i e _;cases e;done)
        | (rename_i e;cases e;done)
        | (exact out h fun τ=>rfl)
        | (split at h
           ·exact⟨(jI h).1,fun h0=>absurd h0 (by simp[bV])⟩
           ·cases h))
 | _=>simp[bV]at hc
theorem tq {P:Program} {op:Op} (hb:∀t l p,op≠ .buildSlice t l p) (hc:bV op≤1) {fr σ} {k kp:AV→ah→Prop} (hr:eK P op fr σ k kp):
 ∃x,k x σ∧(∀k' kp',k' x σ→eK P op fr σ k' kp')∧(bV op=0→∀τ k' kp',k' x τ→eK P op fr τ k' kp'):=by
 have eq:∀τ k' kp',eK P op fr τ k' kp'=ab (bS P op fr τ) k':=by
  intro τ k' kp'
  by_cases hcc:∃c,op= .call c
  ·obtain⟨⟨callee,args,ts⟩,rfl⟩:=hcc
   cases callee with
   | value f=>simp[bV]at hc
   | invoke r m=>simp[bV]at hc
   | builtin b=>rfl
  ·by_cases hp:∃x,op= .panic x
   ·obtain⟨x,rfl⟩:=hp;simp[bV]at hc
   ·exact kG (fun c hh=>hcc ⟨c,hh⟩) (fun c hh=>hp ⟨c,hh⟩) _ _ _ _
 rw[eq]at hr
 unfold ab at hr
 split at hr
 ·rename_i p hp
  obtain⟨x,σ'⟩:=p
  obtain⟨rfl,h2⟩:=tY hb hc hp
  refine⟨x,hr,fun k' kp' hk=> ?_,fun h0 τ k' kp' hk=> ?_⟩
  ·rw[eq,hp];exact hk
  ·rw[eq,h2 h0 τ];exact hk
 ·exact hr.elim
theorem wD {P:Program} {t len} {parts:Array (Nat×Operand)} {fr fr':aA} (h:∀s∈jG (.buildSlice t len parts),aa fr s=aa fr' s):aSl P t len parts fr=aSl P t len parts fr':=by
 have e:=fun x hx=>yC h (x:=x) hx
 unfold aSl
 have:(parts.toList.map fun(i,x)=>(i,ev fr x))=(parts.toList.map fun(i,x)=>(i,ev fr' x)):=List.map_congr_left fun p hp=>by
  obtain⟨i,x⟩:=p
  simp only
  rw[e x (by simp only[Op.operands];exact List.mem_map.2 ⟨(i,x),hp,rfl⟩)]
 rw[this]
theorem lK {P:Program} {op:Op} (hb:∀t l p,op≠ .buildSlice t l p) (fr σ k kp):iP P op fr σ k kp=eK P op fr σ k kp:=by
 cases op<;>first | rfl | exact absurd rfl (hb _ _ _)
theorem pq {P:Program} {op:Op} {fr fr':aA} (h:∀t∈jG op,aa fr t=aa fr' t) {σ k kp} (hr:iP P op fr σ k kp):iP P op fr' σ k kp:=by
 by_cases hb:∃t l p,op= .buildSlice t l p
 ·obtain⟨t,l,p,rfl⟩:=hb
  simp only[iP]at hr⊢
  rw[←wD h];exact hr
 ·have hb:∀t l p,op≠ .buildSlice t l p:=fun t l p e=>hb ⟨t,l,p,e⟩
  rw[lK hb]at hr⊢
  exact tp h hr
theorem qt {P:Program} {op:Op} {fr σ} {k k' kp:AV→ah→Prop} (h:∀x τ,k x τ→k' x τ) (hr:iP P op fr σ k kp):iP P op fr σ k' kp:=by
 by_cases hb:∃t l p,op= .buildSlice t l p
 ·obtain⟨t,l,p,rfl⟩:=hb
  simp only[iP,ab]at hr⊢
  split at hr
  ·exact h _ _ hr
  ·exact hr.elim
 ·have hb:∀t l p,op≠ .buildSlice t l p:=fun t l p e=>hb ⟨t,l,p,e⟩
  rw[lK hb]at hr⊢
  exact uK h hr
theorem pr {P:Program} {op:Op} (hc:bV op≤1) {fr σ} {k kp:AV→ah→Prop} (hr:iP P op fr σ k kp):
 ∃x,k x σ∧(∀k' kp',k' x σ→iP P op fr σ k' kp')∧(bV op=0→∀τ k' kp',k' x τ→iP P op fr τ k' kp'):=by
 by_cases hb:∃t l p,op= .buildSlice t l p
 ·obtain⟨t,l,p,rfl⟩:=hb
  simp only[iP,ab]at hr⊢
  cases hx:aSl P t l p fr with
  | none=>rw[hx]at hr;exact hr.elim
  | some x=>
   rw[hx]at hr
   exact⟨x,hr,fun k' kp' hk=>hk,fun _ τ k' kp' hk=>hk⟩
 ·have hb:∀t l p,op≠ .buildSlice t l p:=fun t l p e=>hb ⟨t,l,p,e⟩
  rw[lK hb]at hr
  obtain⟨x,h1,h2,h3⟩:=tq hb hc hr
  exact⟨x,h1,fun k' kp' hk=>by rw[lK hb];exact h2 k' kp' hk,fun h0 τ k' kp' hk=>by rw[lK hb];exact h3 h0 τ k' kp' hk⟩
def bn (ops:Array Oper) (i:Nat):Option Tmp:=(ops[i]?).bind (·.dst)
def reads (ops:Array Oper) (i:Nat):List Nat:=
 match ops[i]? with
 | none=>[]
 | some o=>jG o.op++(match o.guard with | some (j,_)=>(bn ops j).toList | none=>[])
def hO (ops:Array Oper) (i:Nat):Nat:=match ops[i]? with | some o=>bV o.op | none=>2
def exec (P:Program) (ops:Array Oper) (i:Nat) (fr:aA) (σ:ah) (K:AV→ah→Prop) (kp:AV→ah→Prop):Prop:=
 match ops[i]? with
 | none=>False
 | some o=>match o.guard with
  | none=>iP P o.op fr σ K kp
  | some (j,want)=>match (ops[j]?).bind (·.dst) with
   | some d=>gK (aa fr d) want (fun K=>iP P o.op fr σ K kp) K σ
   | none=>False
theorem ua (P:Program) (ops:Array Oper) (i:Nat) (l:List Nat) (fr σ k kp):jn (iP P) ops (i::l) fr σ k kp=exec P ops i fr σ (fun x τ=>jn (iP P) ops l (put fr (bn ops i) x) τ k kp) kp:=by
 simp only[jn,exec,bn]
 cases h:ops[i]? with
 | none=>rfl
 | some o=>rfl
theorem dS {P ops i fr σ} {K K' kp:AV→ah→Prop} (h:∀x τ,K x τ→K' x τ) (hr:exec P ops i fr σ K kp):exec P ops i fr σ K' kp:=by
 unfold exec at hr⊢
 cases ho:ops[i]? with
 | none=>rw[ho]at hr;exact hr.elim
 | some o=>
  rw[ho]at hr
  simp only at hr⊢
  cases hg:o.guard with
  | none=>rw[hg]at hr;exact qt h hr
  | some p=>
   obtain⟨j,want⟩:=p
   rw[hg]at hr
   simp only at hr⊢
   cases hd:(ops[j]?).bind (·.dst) with
   | none=>rw[hd]at hr;exact hr.elim
   | some d=>
    rw[hd]at hr
    simp only at hr⊢
    unfold gK gR at hr⊢
    split at hr
    ·exact⟨fun e=>qt h (hr.1 e),fun e=>h _ _ (hr.2 e)⟩
    ·exact h _ _ hr
    ·exact hr.elim
theorem eU {P ops i fr fr' σ} {K kp:AV→ah→Prop} (h:∀t∈reads ops i,aa fr t=aa fr' t) (hr:exec P ops i fr σ K kp):exec P ops i fr' σ K kp:=by
 unfold exec at hr⊢
 unfold reads at h
 cases ho:ops[i]? with
 | none=>rw[ho]at hr;exact hr.elim
 | some o=>
  rw[ho]at hr h
  simp only at hr h⊢
  cases hg:o.guard with
  | none=>rw[hg]at hr;exact pq (fun t ht=>h t (by simp[ht])) hr
  | some p=>
   obtain⟨j,want⟩:=p
   rw[hg]at hr h
   simp only at hr h⊢
   cases hd:(ops[j]?).bind (·.dst) with
   | none=>rw[hd]at hr;exact hr.elim
   | some d=>
    rw[hd]at hr
    simp only at hr⊢
    rw[←h d (by simp[bn,hd])]
    unfold gK gR at hr⊢
    split at hr
    ·exact⟨fun e=>pq (fun t ht=>h t (by simp[ht])) (hr.1 e),hr.2⟩
    ·exact hr
    ·exact hr.elim
theorem ky {P ops i fr σ} {K kp:AV→ah→Prop} (hc:hO ops i≤1) (hr:exec P ops i fr σ K kp):
 ∃x,K x σ∧(∀K' kp',K' x σ→exec P ops i fr σ K' kp')∧(hO ops i=0→∀τ K' kp',K' x τ→exec P ops i fr τ K' kp'):=by
 unfold hO at hc⊢
 unfold exec at hr⊢
 cases ho:ops[i]? with
 | none=>rw[ho]at hr;exact hr.elim
 | some o=>
  rw[ho]at hr hc
  simp only at hr hc⊢
  cases hg:o.guard with
  | none=>rw[hg]at hr;exact pr hc hr
  | some p=>
   obtain⟨j,want⟩:=p
   rw[hg]at hr
   simp only at hr⊢
   cases hd:(ops[j]?).bind (·.dst) with
   | none=>rw[hd]at hr;exact hr.elim
   | some d=>
    rw[hd]at hr
    simp only at hr⊢
    unfold gK gR at hr⊢
    split at hr
    ·rename_i b hb
     by_cases e:b=want
     ·obtain⟨x,h1,h2,h3⟩:=pr hc (hr.1 e)
      exact⟨x,h1,fun K' kp' hk=>⟨fun _=>h2 K' kp' hk,fun hn=>absurd e hn⟩,fun h0 τ K' kp' hk=>⟨fun _=>h3 h0 τ K' kp' hk,fun hn=>absurd e hn⟩⟩
     ·exact⟨_,hr.2 e,fun K' kp' hk=>⟨fun h=>absurd h e,fun _=>hk⟩,fun _ τ K' kp' hk=>⟨fun h=>absurd h e,fun _=>hk⟩⟩
    ·exact⟨_,hr,fun K' kp' hk=>hk,fun _ τ K' kp' hk=>hk⟩
    ·exact hr.elim
def Alike (fr fr':aA):Prop:=∀s,aa fr s=aa fr' s
theorem gk (fr:aA) (d:Option Tmp) (x:AV) (s:Nat):aa (put fr d x) s=if d=some s then x else aa fr s:=by
 cases d with
 | none=>simp[put]
 | some d=>
  simp only[put,dU,Option.some.injEq]
  by_cases h:s=d
  ·subst h;simp
  ·simp[h,Ne.symm h]
theorem Alike.put {fr fr':aA} (h:Alike fr fr') (d:Option Tmp) (x:AV):Alike (put fr d x) (put fr' d x):=fun s=>by
 rw[gk,gk,h s]
def xY (k:aA→ah→Prop):Prop:=∀fr fr' τ,Alike fr fr'→k fr τ→k fr' τ
structure Commute (ops:Array Oper) (j i:Nat):Prop where
 ji:∀d,bn ops j=some d→d∉reads ops i
 ij:∀d,bn ops i=some d→d∉reads ops j
 dd:∀d,bn ops i=some d→bn ops j≠some d
 cls:hO ops j≤1
 heap:hO ops i≤1∨hO ops j=0
inductive gZ (ops:Array Oper):(Nat→Prop)→List Nat→Prop
 | nil {D:Nat→Prop} (h:∀i,i<ops.size→D i):gZ ops D []
 | cons {D:Nat→Prop} {i l} (hi:i<ops.size) (hn:¬D i) (he:∀e,e∈((ops[i]?).map (·.after.toList)).getD []→Region.binds .any e=true→D e.on) (h:gZ ops (fun k=>D k∨k=i) l):gZ ops D (i::l)
def nu (acc:List Nat) (o:Oper):Nat:=o.after.toList.foldl (fun s e=>if Region.binds .any e=true then s||| 2 ^ e.on||| acc.getD e.on 0 else s) 0
def ew:List Oper→List Nat→List Nat
 | [],acc=>acc
 | o::r,acc=>ew r (acc++ [nu acc o])
def clo (ops:Array Oper):List Nat:=ew ops.toList []
theorem uo (acc:List Nat) (l:List Edge):∀(s j:Nat),(l.foldl (fun s e=>if Region.binds .any e=true then s||| 2 ^ e.on||| acc.getD e.on 0 else s) s).testBit j=true→
 s.testBit j=true∨∃e∈l,Region.binds .any e=true∧(e.on=j∨(acc.getD e.on 0).testBit j=true):=by
 induction l with
 | nil=>intro s j h;exact .inl h
 | cons e l ih=>
  intro s j h
  rw[List.foldl_cons]at h
  rcases ih _ j h with h1 | ⟨e',he',h2⟩
  ·split at h1
   ·rename_i hb
    simp only[Nat.testBit_or,Bool.or_eq_true,Nat.testBit_two_pow,decide_eq_true_eq]at h1
    rcases h1 with (h1 | h1) | h1
    ·exact .inl h1
    ·exact .inr ⟨e,by simp,hb,.inl h1⟩
    ·exact .inr ⟨e,by simp,hb,.inr h1⟩
   ·exact .inl h1
  ·exact .inr ⟨e',by simp[he'],h2⟩
theorem ju:∀(l:List Oper) (acc:List Nat) (i:Nat),(∀k,k<acc.length→(ew l acc)[k]?=acc[k]?)∧(ew l acc).length=acc.length+l.length∧
 (∀o,l[i]?=some o→∃acc',(ew l acc)[acc.length+i]?=some (nu acc' o)∧acc'.length=acc.length+i∧∀k,k<acc'.length→(ew l acc)[k]?=acc'[k]?)
 | [],acc,i=>⟨fun k _=>rfl,by simp[ew],by simp⟩
 | o::r,acc,i=>by
  obtain⟨h1,h2,h3⟩:=ju r (acc++ [nu acc o]) (i - 1)
  refine⟨fun k hk=> ?_,by simp only[ew,h2];simp;omega,fun o' ho'=> ?_⟩
  ·simp only[ew]
   rw[h1 k (by simp;omega),List.getElem?_append_left hk]
  ·cases i with
   | zero=>
    simp at ho'
    subst ho'
    refine⟨acc,?_,rfl,fun k hk=> ?_⟩
    ·simp only[ew,Nat.add_zero]
     rw[h1 acc.length (by simp)]
     simp
    ·simp only[ew]
     rw[h1 k (by simp;omega),List.getElem?_append_left hk]
   | succ i=>
    obtain⟨acc',e1,e2,e3⟩:=h3 o' (by simpa using ho')
    refine⟨acc',?_,by rw[e2];simp;omega,fun k hk=>by simp only[ew];exact e3 k hk⟩
    simp only[ew]
    rw[←e1];congr 1;simp;omega
theorem se {ops:Array Oper} (hb:∀(i:Nat) (o:Oper),ops[i]?=some o→∀e∈o.after.toList,Region.binds .any e=true→e.on<i) {i:Nat} {o:Oper} (ho:ops[i]?=some o) {j:Nat} (h:((clo ops).getD i 0).testBit j=true):
 ∃e∈o.after.toList,Region.binds .any e=true∧(e.on=j∨((clo ops).getD e.on 0).testBit j=true):=by
 obtain⟨_,_,h3⟩:=ju ops.toList [] i
 obtain⟨acc',e1,e2,e3⟩:=h3 o (by simpa using ho)
 simp only[List.length_nil,Nat.zero_add]at e1 e2
 have e1:(clo ops)[i]?=some (nu acc' o):=e1
 have e3:∀k,k<acc'.length→(clo ops)[k]?=acc'[k]?:=e3
 rw[List.getD_eq_getElem?_getD,e1,Option.getD_some]at h
 rcases uo acc' o.after.toList 0 j h with h0 | ⟨e,he,hbe,h1⟩
 ·simp at h0
 ·refine⟨e,he,hbe,h1.imp id fun h1=> ?_⟩
  rw[List.getD_eq_getElem?_getD,e3 e.on (by rw[e2];exact hb i o ho e he hbe),←List.getD_eq_getElem?_getD]
  exact h1
def stay (P:Program) (ops:Array Oper) (j:Nat) (fr:aA) (τ:ah):Prop:=
 match bn ops j with
 | some d=>exec P ops j fr τ (fun y θ=>y=aa fr d∧θ=τ) (fun _ _=>False)
 | none=>False
def stays (P:Program) (ops:Array Oper):List Nat→aA→ah→Prop→Prop
 | [],_,_,R=>R
 | j::js,fr,τ,R=>stay P ops j fr τ∧stays P ops js fr τ R
def pU (P:Program) (ops:Array Oper) (js:Nat→List Nat):List Nat→aA→ah→(aA→ah→Prop)→(AV→ah→Prop)→Prop
 | [],fr,σ,k,_=>k fr σ
 | i::l,fr,σ,k,kp=>exec P ops i fr σ (fun x τ=>stays P ops (js i) (put fr (bn ops i) x) τ (pU P ops js l (put fr (bn ops i) x) τ k kp)) kp
def iX (P:Program) (ops:Array Oper) (js:Nat→List Nat):List Nat→List Nat→aA→ah→(aA→ah→Prop)→(AV→ah→Prop)→Prop
 | _,[],fr,σ,k,_=>k fr σ
 | pre,i::l,fr,σ,k,kp=>exec P ops i fr σ (fun x τ=>(∀j∈js i,j∈pre→stay P ops j (put fr (bn ops i) x) τ)∧iX P ops js (i::pre) l (put fr (bn ops i) x) τ k kp) kp
theorem qx {P ops}:∀ {l:List Nat} {fr τ R},stays P ops l fr τ R↔(∀j∈l,stay P ops j fr τ)∧R
 | [],fr,τ,R=>by simp[stays]
 | j::l,fr,τ,R=>by simp[stays,qx,and_assoc]
theorem nR {P ops js k kp}:∀(l:List Nat) {pre pre':List Nat} {fr σ},(∀j,j∈pre'→j∈pre)→iX P ops js pre l fr σ k kp→iX P ops js pre' l fr σ k kp
 | [],_,_,_,_,_,h=>h
 | i::l,pre,pre',fr,σ,hp,h=>by
  refine dS (fun x τ hh=>⟨fun j hj hm=>hh.1 j hj (hp j hm),nR l (fun j hj=> ?_) hh.2⟩) h
  rcases List.mem_cons.1 hj with rfl | hj
  ·simp
  ·simp[hp j hj]
theorem nS {P ops js k kp}:∀(l:List Nat) {pre:List Nat} {fr σ},pU P ops js l fr σ k kp→iX P ops js pre l fr σ k kp
 | [],_,_,_,h=>h
 | i::l,pre,fr,σ,h=>by
  refine dS (fun x τ hh=> ?_) h
  rw[qx]at hh
  exact⟨fun j hj _=>hh.1 j hj,nS l hh.2⟩
theorem pA {P ops j fr fr' τ} (hr:∀t∈reads ops j,aa fr t=aa fr' t) (hd:∀d,bn ops j=some d→aa fr d=aa fr' d) (h:stay P ops j fr τ):stay P ops j fr' τ:=by
 unfold stay at h⊢
 cases hj:bn ops j with
 | none=>rw[hj]at h;exact h.elim
 | some d=>
  rw[hj]at h
  simp only at h⊢
  rw[←hd d hj]
  exact eU hr h
theorem nT {P ops js} {k kp} (hk:xY k):∀(l:List Nat) (pre:List Nat),xY fun fr τ=>iX P ops js pre l fr τ k kp
 | [],pre,fr,fr',τ,h,hr=>hk fr fr' τ h hr
 | i::l,pre,fr,fr',τ,h,hr=>by
  refine dS (fun x τ' hh=>⟨fun j hj hm=>pA (fun t _=>h.put _ _ t) (fun d _=>h.put _ _ d) (hh.1 j hj hm),nT hk l _ _ _ _ (h.put _ _) hh.2⟩) (eU (fun t _=>h t) hr)
structure Ssa (ops:Array Oper) (j i:Nat):Prop where
 ij:∀d,bn ops i=some d→d∉reads ops j
 dd:∀d,bn ops i=some d→bn ops j≠some d
structure xR (ops:Array Oper) (js:Nat→List Nat) (j i:Nat):Prop where
 ji:∀d,bn ops j=some d→d∉reads ops i
 ij:∀d,bn ops i=some d→d∉reads ops j
 dd:∀d,bn ops i=some d→bn ops j≠some d
 cls:hO ops j≤1
 none:js j= []
 heap:(hO ops i≤1∨hO ops j=0)∨(j∈js i∧∃d,bn ops j=some d∧d∉reads ops j)
theorem vA {P ops js} {k kp} (hk:xY k) (i:Nat) (c2:List Nat):∀(c1 pre:List Nat),(∀j∈c1,xR ops js j i)→(∀j'∈js i,j'∈pre→∀j∈c1,Ssa ops j' j)→c1.Pairwise (fun j' j=>j'∈js i→Ssa ops j' j)→∀fr σ,
 iX P ops js pre (c1++i::c2) fr σ k kp→exec P ops i fr σ (fun y τ=>(∀j∈js i,j∈pre→stay P ops j (put fr (bn ops i) y) τ)∧iX P ops js pre (c1++c2) (put fr (bn ops i) y) τ k kp) kp
 | [],pre,_,_,_,fr,σ,h=>dS (fun y τ hh=>⟨hh.1,nR _ (fun j hj=>by simp[hj]) hh.2⟩) h
 | j::c1,pre,hA,hS,hP,fr,σ,h=>by
  have hj:=hA j (by simp)
  have h':exec P ops j fr σ (fun x τ=>exec P ops i (put fr (bn ops j) x) τ (fun y θ=>(∀q∈js i,q∈j::pre→stay P ops q (put (put fr (bn ops j) x) (bn ops i) y) θ)∧iX P ops js (j::pre) (c1++c2) (put (put fr (bn ops j) x) (bn ops i) y) θ k kp) kp) kp:=by
   refine dS (fun x τ hh=> ?_) h
   refine vA hk i c2 c1 (j::pre) (fun q hq=>hA q (by simp[hq])) (fun q hq hqp r hr=> ?_) (List.pairwise_cons.1 hP).2 _ _ hh.2
   rcases List.mem_cons.1 hqp with rfl | hqp
   ·exact(List.pairwise_cons.1 hP).1 r hr hq
   ·exact hS q hq hqp r (by simp[hr])
  obtain⟨x,h1,h2,h3⟩:=ky hj.cls h'
  have c1':∀t∈reads ops i,aa (put fr (bn ops j) x) t=aa fr t:=by
   intro t ht
   rw[gk]
   split
   ·rename_i e;exact absurd ht (hj.ji t e)
   ·rfl
  have c2':∀y,∀t∈reads ops j,aa fr t=aa (put fr (bn ops i) y) t:=by
   intro y t ht
   rw[gk]
   split
   ·rename_i e;exact absurd ht (hj.ij t e)
   ·rfl
  have al:∀y,Alike (put (put fr (bn ops j) x) (bn ops i) y) (put (put fr (bn ops i) y) (bn ops j) x):=by
   intro y s
   simp only[gk]
   by_cases e1:bn ops i=some s
   ·have:=hj.dd s e1
    simp[e1,this]
   ·simp[e1]
  have off:∀y s,bn ops j≠some s→aa (put (put fr (bn ops j) x) (bn ops i) y) s=aa (put fr (bn ops i) y) s:=by
   intro y s hs
   simp only[gk,hs,if_false]
  have keepS:∀y θ,(∀q∈js i,q∈j::pre→stay P ops q (put (put fr (bn ops j) x) (bn ops i) y) θ)→∀q∈js i,q∈pre→stay P ops q (put fr (bn ops i) y) θ:=by
   intro y θ hh q hq hqp
   have hss:=hS q hq hqp j (by simp)
   exact pA (fun t ht=>off y t fun e=>hss.ij t e ht) (fun d hd=>off y d fun e=>hss.dd d e hd) (hh q hq (by simp[hqp]))
  have put2:∀y θ,iX P ops js (j::pre) (c1++c2) (put (put fr (bn ops j) x) (bn ops i) y) θ k kp→((∀q∈js j,q∈pre→stay P ops q (put (put fr (bn ops i) y) (bn ops j) x) θ)∧iX P ops js (j::pre) (c1++c2) (put (put fr (bn ops i) y) (bn ops j) x) θ k kp):=by
   intro y θ hh
   refine⟨fun q hq=> ?_,nT hk _ _ _ _ _ (al y) hh⟩
   rw[hj.none]at hq;simp at hq
  have h1:=eU c1' h1
  rcases hj.heap with (hi | h0) | ⟨hjs,d,hd,hself⟩
  ·obtain⟨y,k1,k2,_⟩:=ky hi h1
   refine k2 _ _ ⟨keepS y σ k1.1,?_⟩
   exact eU (c2' y) (h2 _ _ (put2 y σ k1.2))
  ·refine dS (fun y θ hh=>⟨keepS y θ hh.1,?_⟩) h1
   exact eU (c2' y) (h3 h0 θ _ _ (put2 y θ hh.2))
  ·refine dS (fun y θ hh=>⟨keepS y θ hh.1,?_⟩) h1
   have hst:=hh.1 j hjs (by simp)
   unfold stay at hst
   rw[hd]at hst
   simp only at hst
   have hx:aa (put (put fr (some d) x) (bn ops i) y) d=x:=by
    simp only[gk,if_true]
    rw[if_neg]
    intro e
    exact hj.dd d e hd
   rw[hx,←hd]at hst
   obtain⟨x',⟨rfl,_⟩,q2,_⟩:=ky hj.cls hst
   have:=q2 (fun x θ=>(∀q∈js j,q∈pre→stay P ops q (put (put fr (bn ops i) y) (bn ops j) x) θ)∧iX P ops js (j::pre) (c1++c2) (put (put fr (bn ops i) y) (bn ops j) x) θ k kp) kp (put2 y θ hh.2)
   refine eU (fun t ht=>off y t fun e=> ?_) this
   rw[hd]at e
   cases e
   exact hself ht
def qM (ops:Array Oper) (js:Nat→List Nat) (j i:Nat):Bool:=
 (match bn ops j with | some d=> !((reads ops i).contains d) | none=>true)&&
 (match bn ops i with | some d=> !((reads ops j).contains d)&&decide (bn ops j≠some d) | none=>true)&&
 decide (hO ops j≤1)&&(js j).isEmpty&&((decide (hO ops i≤1)||decide (hO ops j=0))||((js i).contains j&&(match bn ops j with | some d=> !((reads ops j).contains d) | none=>false)))
theorem rS {ops js j i} (h:qM ops js j i=true):xR ops js j i:=by
 unfold qM at h
 simp only[Bool.and_eq_true,decide_eq_true_eq,Bool.or_eq_true,List.isEmpty_iff]at h
 obtain⟨⟨⟨⟨h1,h2⟩,h3⟩,h5⟩,h4⟩:=h
 refine⟨fun d hd=> ?_,fun d hd=> ?_,fun d hd=> ?_,h3,h5,h4.imp id fun h=>⟨by simpa using h.1,?_⟩⟩
 ·rw[hd]at h1;simpa using h1
 ·rw[hd]at h2;simp at h2;exact h2.1
 ·rw[hd]at h2;simp at h2;exact h2.2
 ·cases hd:bn ops j with
  | none=>rw[hd]at h;simp at h
  | some d=>rw[hd]at h;exact⟨d,rfl,by simpa using h.2⟩
def GO (ops:Array Oper) (j i:Nat):Bool:=
 match bn ops i with | some d=> !((reads ops j).contains d)&&decide (bn ops j≠some d) | none=>true
theorem xC {ops j i} (h:GO ops j i=true):Ssa ops j i:=by
 unfold GO at h
 refine⟨fun d hd=> ?_,fun d hd=> ?_⟩
 ·rw[hd]at h;simp at h;exact h.1
 ·rw[hd]at h;simp at h;exact h.2
def eff (ops:Array Oper) (i:Nat):Bool:= !(Nat.ble (hO ops i) 1)
def iA:List Nat→Nat→Nat→Bool
 | [],_,_=>false
 | a::l,j,e=>if Nat.beq a j=true then l.contains e else iA l j e
theorem mI {j e:Nat}:∀ {l:List Nat},iA l j e=true→e∈l
 | a::l,h=>by
  unfold iA at h
  split at h
  ·exact List.mem_cons_of_mem _ (by simpa using h)
  ·exact List.mem_cons_of_mem _ (mI h)
theorem kT {j e:Nat} {r:List Nat}:∀ {dn:List Nat},e∈dn→(dn++r).Nodup→iA (dn++r) j e=true→j∈dn
 | a::dn,he,hn,h=>by
  simp only[List.cons_append,iA]at h
  simp only[List.cons_append,List.nodup_cons]at hn
  split at h
  ·rename_i e1
   rw[Nat.beq_eq]at e1
   subst e1;exact List.mem_cons_self ..
  ·rcases List.mem_cons.1 he with rfl | he
   ·exact absurd (mI h) hn.1
   ·exact List.mem_cons_of_mem _ (kT he hn.2 h)
def eu (ops:Array Oper) (cl:List Nat) (E:List Nat) (js:Nat→List Nat):List Nat→Bool
 | []=>true
 | j::c=>(c.all fun i=>(cl.getD i 0).testBit j||qM ops js j i||(eff ops j&&eff ops i)||(eff ops j&&E.any fun e=>(cl.getD i 0).testBit e&&iA E j e))&&(!(c.any fun i=>(js i).contains j)||c.all fun i=>GO ops j i)&&eu ops cl E js c
def la (ops:Array Oper):Bool:=(List.range ops.size).all fun i=>match ops[i]? with | some o=>o.after.toList.all fun e=> !(Region.binds .any e)||decide (e.on<i) | none=>true
theorem iE {ops} (h:la ops=true) (i:Nat) (o:Oper) (ho:ops[i]?=some o):∀e∈o.after.toList,Region.binds .any e=true→e.on<i:=by
 intro e he hb
 have hi:i<ops.size:=(Array.getElem?_eq_some_iff.1 ho).1
 have:=List.all_eq_true.1 h i (by simpa using hi)
 rw[ho]at this
 have:=List.all_eq_true.1 this e he
 simp[hb]at this
 exact this
def yx (cl:List Nat):Nat→List Nat→List (List Nat)
 | 0,_=>[[]]
 | _+1,[]=>[[]]
 | n+1,a::r=>((a::r).filter fun i=>(a::r).all fun j=> !((cl.getD i 0).testBit j)).flatMap fun i=>(yx cl n ((a::r).filter fun j=> !(Nat.beq j i))).map (i:: ·)
def pH (ops:Array Oper):List Nat:=(List.range ops.size).filter (eff ops)
def vU (ops:Array Oper) (o:(Nat→List Nat)×List Nat):Bool:=
 ((List.range ops.size).all fun i=>o.2.contains i)&&(o.2.all fun i=>decide (i<ops.size))&&decide (o.2.Nodup)&&eu ops (clo ops) (o.2.filter (eff ops)) o.1 o.2
def mj:List Nat→List Nat→Bool
 | [],[]=>true
 | a::l,b::m=>Nat.beq a b&&mj l m
 | _,_=>false
theorem qe:∀ {l m:List Nat},mj l m=true→l=m
 | [],[],_=>rfl
 | a::l,b::m,h=>by
  simp only[mj,Bool.and_eq_true,Nat.beq_eq]at h
  rw[h.1,qe h.2]
 | [],_::_,h=>by simp[mj]at h
 | _::_,[],h=>by simp[mj]at h
def ug (ops:Array Oper) (os:List ((Nat→List Nat)×List Nat)):Bool:=
 la ops&&(os.all (vU ops))&&((yx (clo ops) (pH ops).length (pH ops)).all fun e=>os.any fun o=>mj (o.2.filter (eff ops)) e)
theorem gZ.pH {ops:Array Oper} (he:la ops=true):∀(l:List Nat) (D:Nat→Prop) (n:Nat) (rem:List Nat),gZ ops D l→rem.length≤n→(∀i,i<ops.size→eff ops i=true→(¬D i↔i∈rem))→(∀i∈rem,i<ops.size∧eff ops i=true)→
 (∀i,D i→∀j,((clo ops).getD i 0).testBit j=true→D j)→l.filter (eff ops)∈yx (clo ops) n rem
 | [],D,n,rem,hs,hn,hD,hrem,_=>by
  cases hs with
  | nil hall=>
   have:rem= []:=by
    cases rem with
    | nil=>rfl
    | cons a r=>
     obtain⟨h1,h2⟩:=hrem a (by simp)
     exact absurd (hall a h1) ((hD a h1 h2).2 (by simp))
   subst this
   cases n<;>simp[yx]
 | i::l,D,n,rem,hs,hn,hD,hrem,hdown=>by
  cases hs with
  | cons hi hnD hed hs=>
   have hpre:∀j,((clo ops).getD i 0).testBit j=true→D j:=by
    intro j hj
    obtain⟨o,ho⟩:∃o,ops[i]?=some o:=⟨_,Array.getElem?_eq_getElem hi⟩
    obtain⟨e,hem,hb,hor⟩:=se (iE he) ho hj
    have hDe:=hed e (by simp[ho,hem]) hb
    rcases hor with rfl | h2
    ·exact hDe
    ·exact hdown _ hDe _ h2
   have hdown':∀q,(D q∨q=i)→∀j,((clo ops).getD q 0).testBit j=true→(D j∨j=i):=by
    intro q hq j hj
    rcases hq with hq | rfl
    ·exact .inl (hdown q hq j hj)
    ·exact .inl (hpre j hj)
   cases hef:eff ops i with
   | false=>
    rw[List.filter_cons,if_neg (by simp[hef])]
    refine gZ.pH he l _ n rem hs hn (fun q hq hqe=> ?_) hrem hdown'
    have hne:q≠i:=by intro e;subst e;rw[hef]at hqe;cases hqe
    rw[←hD q hq hqe]
    simp[hne]
   | true=>
    have him:i∈rem:=(hD i hi hef).1 hnD
    rw[List.filter_cons,if_pos hef]
    cases n with
    | zero=>have:=List.length_pos_of_mem him;omega
    | succ n=>
     cases rem with
     | nil=>simp at him
     | cons a r=>
      simp only[yx,List.mem_flatMap,List.mem_filter,List.mem_map]
      refine⟨i,⟨him,?_⟩,l.filter (eff ops),?_,rfl⟩
      ·rw[List.all_eq_true]
       intro j hj
       cases hb:((clo ops).getD i 0).testBit j with
       | false=>rfl
       | true=>
        obtain⟨h1,h2⟩:=hrem j hj
        exact absurd (hpre j hb) ((hD j h1 h2).2 hj)
      ·refine gZ.pH he l _ n _ hs ?_ (fun q hq hqe=> ?_) (fun q hq=>hrem q (List.mem_filter.1 hq).1) hdown'
       ·have:((a::r).filter fun j=> !(Nat.beq j i)).length<(a::r).length:=by
         rw[←List.countP_eq_length_filter]
         rcases Nat.lt_or_ge (List.countP (fun j=> !(Nat.beq j i)) (a::r)) (a::r).length with h | h
         ·exact h
         ·have h':=List.countP_eq_length.1 (Nat.le_antisymm List.countP_le_length h) i him
          simp at h'
        omega
       ·rw[List.mem_filter,←hD q hq hqe,not_or]
        refine and_congr_right fun _=>⟨fun e=>by rw[lC e];rfl,fun h e=>by subst e;simp at h⟩
termination_by l=>l.length
theorem jr {ops cl E js}:∀ {c c':List Nat},c'.Sublist c→eu ops cl E js c=true→eu ops cl E js c'=true
 | _,_,.slnil,h=>h
 | _,_,.cons _ hs,h=>by
  simp only[eu,Bool.and_eq_true]at h
  exact jr hs h.2
 | _,_,.cons_cons (l₁:=l₁) (l₂:=l₂) a hs,h=>by
  simp only[eu,Bool.and_eq_true,Bool.or_eq_true,Bool.not_eq_true']at h⊢
  refine⟨⟨List.all_eq_true.2 fun i hi=>List.all_eq_true.1 h.1.1 i (hs.subset hi),?_⟩,jr hs h.2⟩
  rcases h.1.2 with h1 | h1
  ·left
   refine Bool.eq_false_iff.2 fun hh=> ?_
   obtain⟨i,hi,he⟩:=List.any_eq_true.1 hh
   exact Bool.eq_false_iff.1 h1 (List.any_eq_true.2 ⟨i,hs.subset hi,he⟩)
  ·exact .inr (List.all_eq_true.2 fun i hi=>List.all_eq_true.1 h1 i (hs.subset hi))
theorem jq {ops cl E js i} {c2:List Nat}:∀ {c1:List Nat},eu ops cl E js (c1++i::c2)=true→∀j∈c1,((cl.getD i 0).testBit j||qM ops js j i||(eff ops j&&eff ops i)||(eff ops j&&E.any fun e=>(cl.getD i 0).testBit e&&iA E j e))=true
 | [],_,j,hj=>by simp at hj
 | q::c1,h,j,hj=>by
  simp only[List.cons_append,eu,Bool.and_eq_true]at h
  rcases List.mem_cons.1 hj with rfl | hj
  ·exact List.all_eq_true.1 h.1.1 i (by simp)
  ·exact jq h.2 j hj
theorem j9 {ops cl E js i} {c2:List Nat}:∀ {c1:List Nat},eu ops cl E js (c1++i::c2)=true→c1.Pairwise fun j' j=>j'∈js i→Ssa ops j' j
 | [],_=>.nil
 | q::c1,h=>by
  simp only[List.cons_append,eu,Bool.and_eq_true,Bool.or_eq_true,Bool.not_eq_true']at h
  refine .cons (fun j hj hq=> ?_) (j9 h.2)
  rcases h.1.2 with h1 | h1
  ·exact absurd (List.any_eq_true.2 ⟨i,by simp,by simpa using hq⟩) (Bool.eq_false_iff.1 h1)
  ·exact xC (List.all_eq_true.1 h1 j (by simp[hj]))
theorem qu {P ops js} (he:la ops=true) {k kp} (hk:xY k) {E:List Nat} (hE:E.Nodup) (hEe:∀e∈E,e<ops.size∧eff ops e=true):∀(l:List Nat) (D:Nat→Prop) (c:List Nat),gZ ops D l→(∀i,i<ops.size→(D i↔i∉c))→c.Nodup→(∀i∈c,i<ops.size)→eu ops (clo ops) E js c=true→(∃dn,E=dn++c.filter (eff ops))→
 (∀i,D i→∀j,((clo ops).getD i 0).testBit j=true→D j)→c.filter (eff ops)=l.filter (eff ops)→∀fr σ,iX P ops js [] c fr σ k kp→jn (iP P) ops l fr σ k kp
 | [],D,c,hs,hD,_,hlt,_,_,_,_,fr,σ,h=>by
  cases hs with
  | nil hall=>
   cases c with
   | nil=>exact h
   | cons i c=>exact absurd (by simp) ((hD i (hlt i (by simp))).1 (hall i (hlt i (by simp))))
 | i::l,D,c,hs,hD,hnd,hlt,hok,hdn,hdown,heq,fr,σ,h=>by
  cases hs with
  | cons hi hn hed hs=>
   have hic:i∈c:=Classical.byContradiction fun hh=>hn ((hD i hi).2 hh)
   obtain⟨c1,c2,rfl⟩:=List.append_of_mem hic
   have hpre:∀j,((clo ops).getD i 0).testBit j=true→D j:=by
    intro j hj
    obtain⟨o,ho⟩:∃o,ops[i]?=some o:=⟨_,Array.getElem?_eq_getElem hi⟩
    obtain⟨e,hem,hb,hor⟩:=se (iE he) ho hj
    have hDe:=hed e (by simp[ho,hem]) hb
    rcases hor with rfl | h2
    ·exact hDe
    ·exact hdown _ hDe _ h2
   have hcom:∀j∈c1,xR ops js j i:=by
    intro j hj
    have:=jq hok j hj
    rw[Bool.or_eq_true,Bool.or_eq_true,Bool.or_eq_true]at this
    rcases this with ((h1 | h1) | h1) | h1
    ·exact absurd (by simp[hj]) ((hD j (hlt j (by simp[hj]))).1 (hpre j h1))
    ·exact rS h1
    rotate_left
    ·exfalso
     obtain⟨dn,hdn⟩:=hdn
     rw[Bool.and_eq_true,List.any_eq_true]at h1
     obtain⟨hje,e,heE,h2⟩:=h1
     rw[Bool.and_eq_true]at h2
     have hDe:=hpre e h2.1
     have hec:=(hD e (hEe e heE).1).1 hDe
     have hedn:e∈dn:=by
      rw[hdn]at heE
      rcases List.mem_append.1 heE with h | h
      ·exact h
      ·exact absurd (List.mem_filter.1 h).1 hec
     have hb:=h2.2
     rw[hdn]at hb hE
     have hjd:=kT hedn hE hb
     rw[List.nodup_append]at hE
     exact hE.2.2 j hjd j (List.mem_filter.2 ⟨by simp[hj],hje⟩) rfl
    ·exfalso
     simp only[Bool.and_eq_true]at h1
     rw[List.filter_cons,if_pos h1.2,List.filter_append]at heq
     have hjm:j∈c1.filter (eff ops):=List.mem_filter.2 ⟨hj,h1.1⟩
     cases hcf:c1.filter (eff ops) with
     | nil=>rw[hcf]at hjm;simp at hjm
     | cons q r=>
      rw[hcf]at heq
      simp only[List.cons_append,List.cons.injEq]at heq
      have hq:q∈c1:=(List.mem_filter.1 (by rw[hcf];simp:q∈c1.filter (eff ops))).1
      rw[heq.1]at hq
      rw[List.nodup_append]at hnd
      exact hnd.2.2 i hq i (by simp) rfl
   have hb:=vA hk i c2 c1 [] hcom (fun _ _ h=>by simp at h) (j9 hok) fr σ h
   rw[ua]
   have hsub:(c1++c2).Sublist (c1++i::c2):=List.Sublist.append (List.Sublist.refl _) (List.sublist_cons_self _ _)
   have hi2:i∉c1++c2:=by
    have:=hnd
    rw[List.nodup_append]at this
    obtain⟨_,h2,h3⟩:=this
    have h4:=(List.nodup_cons.1 h2).1
    simp only[List.mem_append,not_or]
    exact⟨fun hh=>h3 i hh i (by simp) rfl,h4⟩
   have heq2:(c1++c2).filter (eff ops)=l.filter (eff ops):=by
    rw[List.filter_append,List.filter_cons,List.filter_cons]at heq
    rw[List.filter_append]
    cases hef:eff ops i with
    | false=>rw[if_neg (by simp[hef]),if_neg (by simp[hef])]at heq;exact heq
    | true=>
     rw[if_pos hef,if_pos hef]at heq
     cases hcf:c1.filter (eff ops) with
     | nil=>rw[hcf]at heq;simpa using heq
     | cons q r=>
      rw[hcf]at heq
      simp only[List.cons_append,List.cons.injEq]at heq
      have hq:q∈c1:=(List.mem_filter.1 (by rw[hcf];simp:q∈c1.filter (eff ops))).1
      rw[heq.1]at hq
      exact absurd (by simp[hq]) hi2
   have hdn2:∃dn,E=dn++(c1++c2).filter (eff ops):=by
    obtain⟨dn,hdn⟩:=hdn
    rw[heq,List.filter_cons]at hdn
    rw[heq2]
    cases hef:eff ops i with
    | false=>rw[if_neg (by simp[hef])]at hdn;exact⟨dn,hdn⟩
    | true=>rw[if_pos hef]at hdn;exact⟨dn++ [i],by rw[hdn];simp⟩
   refine dS (fun x τ hh=> ?_) hb
   refine qu he hk hE hEe l _ (c1++c2) hs (fun q hq=> ?_) (hnd.sublist hsub) (fun q hq=>hlt q (hsub.subset hq)) (jr hsub hok) hdn2 (fun q hq j hj=> ?_) heq2 _ τ hh.2
   ·rw[hD q hq]
    simp only[List.mem_append,List.mem_cons,not_or]
    by_cases e:q=i
    ·subst e
     simp only[List.mem_append,not_or]at hi2
     simp[hi2]
    ·simp[e]
   ·rcases hq with hq | rfl
    ·exact .inl (hdown q hq j hj)
    ·exact .inl (hpre j hj)
theorem p5 {p q:Nat→Bool}:∀ {l:List Nat} {i:Nat},(∀k,q k=true→p k=true)→i∈l→p i=true→q i=false→l.countP q<l.countP p
 | [],_,_,h,_,_=>by simp at h
 | a::l,i,hpq,h,hp,hq=>by
  rw[List.countP_cons,List.countP_cons]
  have hle:l.countP q≤l.countP p:=List.countP_mono_left fun k _=>hpq k
  rcases List.mem_cons.1 h with rfl | h
  ·simp[hp,hq];omega
  ·have:=p5 hpq h hp hq
   have:(if q a=true then 1 else 0)≤(if p a=true then 1 else 0):=by
    split
    ·rename_i e;rw[if_pos (hpq a e)];exact Nat.le_refl _
    ·exact Nat.zero_le _
   omega
theorem gZ.congr {ops:Array Oper} {D D':Nat→Prop} {l} (h:gZ ops D l) (e:∀k,D k↔D' k):gZ ops D' l:=by
 have:D=D':=funext fun k=>propext (e k)
 subst this;exact h
theorem qa {ops:Array Oper} (he:la ops=true):∀(fuel t:Nat) (listed:Array Bool) (acc:List Nat),listed.size=ops.size→(List.range ops.size).countP (fun k=> !listed.getD k true)≤fuel→
 ∃l,Region.linearise.go .any ops fuel t listed acc=acc.reverse++l∧gZ ops (fun k=>listed.getD k true=true) l
 | 0,t,listed,acc,hsz,hc=>by
  refine⟨[],by simp[Region.linearise.go],.nil fun i hi=> ?_⟩
  have h0:=List.countP_eq_zero.1 (Nat.le_zero.1 hc) i (by simpa using hi)
  simpa using h0
 | fuel+1,t,listed,acc,hsz,hc=>by
  simp only[Region.linearise.go]
  generalize hrs:(List.range ops.size).filter (fun i=> !listed.getD i true&&((ops[i]?).map (·.after.all fun e=> !Region.binds .any e||listed.getD e.on false)).getD false)=rs
  by_cases h0:rs= []
  ·subst h0
   refine⟨[],by simp,.nil ?_⟩
   -- the least that is not listed would be ready
   intro i
   induction i using Nat.strongRecOn with
   | _ i ih=>
    intro hi
    refine Classical.byContradiction fun hn=> ?_
    have hmem:i∈(List.range ops.size).filter (fun i=> !listed.getD i true&&((ops[i]?).map (·.after.all fun e=> !Region.binds .any e||listed.getD e.on false)).getD false):=by
     rw[List.mem_filter]
     refine⟨by simpa using hi,?_⟩
     have hl:listed.getD i true=false:=by simpa using hn
     obtain⟨o,ho⟩:∃o,ops[i]?=some o:=⟨_,Array.getElem?_eq_getElem hi⟩
     simp only[hl,Bool.not_false,Bool.true_and,ho,Option.map_some,Option.getD_some]
     rw[Array.all_eq_true]
     intro q hq
     cases hb:Region.binds .any o.after[q] with
     | false=>rfl
     | true=>
      have hlt:=iE he i o ho o.after[q] (by simp) hb
      have h2:=ih _ hlt (by omega)
      have h3:o.after[q].on<listed.size:=by omega
      simp only[Bool.not_true,Bool.false_or]
      rw[Array.getD_eq_getD_getElem?,Array.getElem?_eq_getElem h3]at h2⊢
      exact h2
    rw[hrs]at hmem
    simp at hmem
  ·have hlen:0<rs.length:=List.length_pos_iff.2 h0
   have hmod:t % rs.length<rs.length:=Nat.mod_lt _ hlen
   rw[List.getElem?_eq_getElem hmod]
   simp only
   generalize hi:rs[t % rs.length]=i
   have him:i∈rs:=by rw[←hi];exact List.getElem_mem _
   rw[←hrs,List.mem_filter]at him
   obtain⟨hlt,hcond⟩:=him
   simp only[List.mem_range]at hlt
   simp only[Bool.and_eq_true,Bool.not_eq_true']at hcond
   obtain⟨hnl,hready⟩:=hcond
   have hsz':(listed.setIfInBounds i true).size=ops.size:=by simpa using hsz
   have hget:∀k,(listed.setIfInBounds i true).getD k true=true↔(listed.getD k true=true∨k=i):=by
    intro k
    by_cases e:k=i
    ·subst e;simp[Array.getD_eq_getD_getElem?,hsz,hlt]
    ·simp only[Array.getD_eq_getD_getElem?]
     rw[Array.getElem?_setIfInBounds_ne (Ne.symm e)]
     simp[e]
   obtain⟨l,hl,hs⟩:=qa he fuel (t / rs.length) (listed.setIfInBounds i true) (i::acc) hsz' (by
    refine Nat.le_of_lt_succ (Nat.lt_of_lt_of_le (p5 (p:=fun k=> !listed.getD k true) (i:=i) (fun k hk=> ?_) (by simpa using hlt) (by simp[hnl]) ?_) hc)
    ·simp only[Bool.not_eq_true']at hk⊢
     refine Bool.eq_false_iff.2 fun hh=> ?_
     have:=(hget k).2 (.inl hh)
     rw[this]at hk;cases hk
    ·have:=(hget i).2 (.inr rfl)
     simp[this])
   refine⟨i::l,by rw[hl];simp,.cons hlt (by simp[hnl]) ?_ (hs.congr hget)⟩
   intro e hem hb
   obtain⟨o,ho⟩:∃o,ops[i]?=some o:=⟨_,Array.getElem?_eq_getElem hlt⟩
   rw[ho]at hem hready
   simp only[Option.map_some,Option.getD_some]at hem hready
   obtain⟨q,hq,rfl⟩:=List.getElem_of_mem hem
   have:=Array.all_eq_true.1 hready q (by simpa using hq)
   simp only[Array.getElem_toList]at hb⊢
   rw[hb]at this
   simp only[Bool.not_true,Bool.false_or]at this
   rw[Array.getD_eq_getD_getElem?]at this⊢
   cases hx:listed[o.after[q].on]? with
   | none=>rw[hx]at this;simp at this
   | some b=>rw[hx]at this;simpa using this
theorem s5 (keep:List Nat) {fr fr':aA} (h:Alike fr fr'):prune keep fr=prune keep fr':=by
 unfold prune
 exact List.map_congr_left fun k _=>by rw[h k]
theorem uh {P:Program} {ops:Array Oper} {N:Nat} (hN:qV N ops=true) {X:List Nat} {D:Act→Prop} (hX:vI X ops=true) (hD:DOk X D) {os:List ((Nat→List Nat)×List Nat)} (hd:ug ops os=true) (t:Nat) {ρ₀ σ₀ w₀} {k:aA→ah→Prop} {kp:AV→ah→Prop} {Q:Exit→Act→World→Prop} (hQ:Ends D ρ₀ σ₀ w₀ N k kp Q) (hk:xY k)
 {ρ σ w fr a} (hst:St D ρ₀ σ₀ w₀ N ρ σ w fr a) (h:∀o∈os,pU P ops o.1 o.2 fr σ k kp):wpOps P ops Q (Region.schedule true ops t) a w:=by
 unfold ug at hd
 simp only[Bool.and_eq_true]at hd
 obtain⟨⟨he,hos⟩,hcov⟩:=hd
 obtain⟨l,hl,hs⟩:=qa he ops.size t (Array.replicate ops.size false) [] (by simp) (Nat.le_trans List.countP_le_length (by simp))
 have hsched:Region.schedule true ops t=l:=by
  simp only[Region.schedule,Bool.true_or,if_true,Region.linearise]
  rw[hl];simp
 rw[hsched]
 have hfalse:∀i,i<ops.size→(Array.replicate ops.size false).getD i true=false:=fun i hi=>by simp[Array.getD_eq_getD_getElem?,hi]
 have hdown:∀i,(Array.replicate ops.size false).getD i true=true→∀j,((clo ops).getD i 0).testBit j=true→(Array.replicate ops.size false).getD j true=true:=by
  intro i hi j hj
  rcases Nat.lt_or_ge i ops.size with hlt | hge
  ·rw[hfalse i hlt]at hi;cases hi
  ·obtain⟨_,hlen,_⟩:=ju ops.toList [] 0
   have:(clo ops).getD i 0=0:=by
    rw[List.getD_eq_getElem?_getD,List.getElem?_eq_none]
    ·rfl
    ·show(ew ops.toList []).length≤i
     rw[hlen];simpa using hge
   rw[this]at hj
   simp at hj
 have hmem:=gZ.pH he l _ (pH ops).length (pH ops) hs (Nat.le_refl _) (fun i hi hie=>by
  rw[hfalse i hi]
  simp[pH,hi,hie]) (fun i hi=>by simpa [pH] using hi) hdown
 obtain⟨o,ho,hoe⟩:=List.any_eq_true.1 (List.all_eq_true.1 hcov _ hmem)
 have heq:=qe hoe
 have hok:=List.all_eq_true.1 hos o ho
 unfold vU at hok
 simp only[Bool.and_eq_true,decide_eq_true_eq]at hok
 obtain⟨⟨⟨h1,h2⟩,h3⟩,h4⟩:=hok
 refine gG (wj P) hN hX hD hQ l ρ σ w fr a hst (qu he hk (h3.sublist List.filter_sublist) (fun e hee=>⟨by simpa using List.all_eq_true.1 h2 e (List.mem_filter.1 hee).1,(List.mem_filter.1 hee).2⟩) l _ o.2 hs (fun i hi=> ?_) h3 (fun i hi=>by simpa using List.all_eq_true.1 h2 i hi) h4 ⟨[],by simp⟩ hdown heq fr σ (nS _ (h o ho)))
 have hc:=List.all_eq_true.1 h1 i (by simpa using hi)
 rw[hfalse i hi]
 simp only[Bool.false_eq_true,false_iff,Classical.not_not]
 simpa using hc
end Go.Abs
