import Derived.WalkKit
set_option linter.unusedVariables false
namespace Go.Abs
open Go
inductive AV where
 | any
 | val (v:Value)
 | ptr (id i o:Nat)
 | ref (cs:List AV)
 | sl (clip:Bool) (sz:Nat) (xs:List (List AV))
 | own (id len:Nat)
 | win (id off sz len:Nat)
 | mp (id:Nat)
 | fn (f:Fn) (cap:List AV)
 | iface (t:TypeId) (v:AV)
 | agg (cs:List AV)
 | tup (vs:List AV)
instance:Inhabited AV:=⟨.any⟩
def cellOf (h:Array Obj) (b o:Nat):Option Value:=
 match h[b]? with
 | some (.cells c _ _)=>c[o]?
 | _=>none
structure Ctx where
 ρ:Nat→Option (Option Nat×Nat)
 imm:Nat→Prop
 h:Array Obj
inductive aL (c:Ctx):AV→Value→Prop
 | any (v:Value):aL c .any v
 | val (v:Value):aL c (.val v) v
 | ptr {id i o b sz:Nat} (h:c.ρ id=some (some b,sz)):aL c (.ptr id i o) (.pointer (some ⟨b,i * sz+o,none⟩))
 | ref {cs:List AV} {b o:Nat} (f:Nat→Value) (hi:c.imm b) (hc:∀j,j<cs.length→cellOf c.h b (o+j)=some (f j)∧(f j).oneCell'=true)
  (hr:∀j x,cs[j]?=some x→aL c x (f j)):aL c (.ref cs) (.pointer (some ⟨b,o,none⟩))
 | sl {clip:Bool} {sz:Nat} {xs:List (List AV)} {a:Option Addr} {len cap:Nat} (f:Nat→Nat→Value) (hl:len=xs.length) (hn:a=none→xs= []∧cap=0) (hcap:len≤cap) (hclip:clip=true→cap=len)
  (hc:∀i el,xs[i]?=some el→el.length=sz∧∃b o,a=some ⟨b,o,none⟩∧c.imm b∧∀j,j<sz→cellOf c.h b (o+i * sz+j)=some (f i j)∧(f i j).oneCell'=true)
  (hr:∀i el j x,xs[i]?=some el→el[j]?=some x→aL c x (f i j)):aL c (.sl clip sz xs) (.slice a len cap)
 | own {id len b sz cap:Nat} (h:c.ρ id=some (some b,sz)) (hl:len≤cap) (hb:∃cs t f,c.h[b]?=some (.cells cs t f)∧cap * sz≤cs.size):
  aL c (.own id len) (.slice (some ⟨b,0,none⟩) len cap)
 | ownNil {id:Nat} {a:Option Addr} {p:Option Nat×Nat} (h:c.ρ id=some p):aL c (.own id 0) (.slice a 0 0)
 | win {id off sz len b s cap:Nat} (h:c.ρ id=some (some b,s)) (hl:len≤cap):aL c (.win id off sz len) (.slice (some ⟨b,off * sz,none⟩) len cap)
 | winNil {id off sz cap:Nat} {a:Option Addr} {p:Option Nat×Nat} (h:c.ρ id=some p):aL c (.win id off sz 0) (.slice a 0 cap)
 | mp {id b sz:Nat} (h:c.ρ id=some (some b,sz)):aL c (.mp id) (.map (some b))
 | fn {f:Fn} {cap:List AV} {vs:Array Value} (hl:cap.length=vs.size) (hr:∀(i:Nat) (x:AV) (v:Value),cap[i]?=some x→vs[i]?=some v→aL c x v):aL c (.fn f cap) (.func f #[] vs)
 | iface {t:TypeId} {x:AV} {v:Value} (h:aL c x v):aL c (.iface t x) (.iface t v)
 | agg {cs:List AV} {vs:Array Value} (hl:cs.length=vs.size) (h1:∀(i:Nat) (v:Value),vs[i]?=some v→v.oneCell'=true) (hr:∀(i:Nat) (x:AV) (v:Value),cs[i]?=some x→vs[i]?=some v→aL c x v):aL c (.agg cs) (.agg vs)
 | tup {cs:List AV} {vs:Array Value} (hl:cs.length=vs.size) (hr:∀(i:Nat) (x:AV) (v:Value),cs[i]?=some x→vs[i]?=some v→aL c x v):aL c (.tup cs) (.tuple vs)
structure CLe (c d:Ctx):Prop where
 ρ:∀id p,c.ρ id=some p→d.ρ id=some p
 imm:∀b,c.imm b→d.imm b∧d.h[b]?=c.h[b]?
 sz:∀(b:Nat) cs t f,c.h[b]?=some (.cells cs t f)→∃cs' f',d.h[b]?=some (.cells cs' t f')∧cs'.size=cs.size
theorem CLe.refl (c:Ctx):CLe c c:=⟨fun _ _ h=>h,fun _ h=>⟨h,rfl⟩,fun _ cs _ f h=>⟨cs,f,h,rfl⟩⟩
theorem CLe.trans {c d e:Ctx} (h:CLe c d) (k:CLe d e):CLe c e:=
 ⟨fun id p hp=>k.ρ id p (h.ρ id p hp),fun b hb=>⟨(k.imm b (h.imm b hb).1).1,(k.imm b (h.imm b hb).1).2.trans (h.imm b hb).2⟩,
  fun b cs t f hb=>by
   obtain⟨cs',f',h1,h2⟩:=h.sz b cs t f hb
   obtain⟨cs'',f'',h3,h4⟩:=k.sz b cs' t f' h1
   exact⟨cs'',f'',h3,h4.trans h2⟩⟩
theorem kV {h h':Array Obj} {b:Nat} (e:h'[b]?=h[b]?) (o:Nat):cellOf h' b o=cellOf h b o:=by
 simp[cellOf,e]
theorem aL.mono {c d:Ctx} (hle:CLe c d) {x:AV} {v:Value} (h:aL c x v):aL d x v:=by
 induction h with
 | any v=>exact .any v
 | val v=>exact .val v
 | ptr h=>exact .ptr (hle.ρ _ _ h)
 | ref f hi hc _ ih=>
  exact .ref f (hle.imm _ hi).1 (fun j hj=>by rw[kV (hle.imm _ hi).2];exact hc j hj) ih
 | sl f hl hn hcap hclip hc _ ih=>
  refine .sl f hl hn hcap hclip (fun i el he=> ?_) ih
  obtain⟨h1,b,o,h2,h3,h4⟩:=hc i el he
  exact⟨h1,b,o,h2,(hle.imm _ h3).1,fun j hj=>by rw[kV (hle.imm _ h3).2];exact h4 j hj⟩
 | own h hl hb=>
  obtain⟨cs,t,f,h1,h2⟩:=hb
  obtain⟨cs',f',h3,h4⟩:=hle.sz _ _ _ _ h1
  exact .own (hle.ρ _ _ h) hl ⟨cs',t,f',h3,by omega⟩
 | ownNil h=>exact .ownNil (hle.ρ _ _ h)
 | win h hl=>exact .win (hle.ρ _ _ h) hl
 | winNil h=>exact .winNil (hle.ρ _ _ h)
 | mp h=>exact .mp (hle.ρ _ _ h)
 | fn hl _ ih=>exact .fn hl ih
 | iface _ ih=>exact .iface ih
 | agg hl h1 _ ih=>exact .agg hl h1 ih
 | tup hl _ ih=>exact .tup hl ih
theorem lC {a b:Nat} (h:a≠b):Nat.beq a b=false:=by
 cases hb:Nat.beq a b
 ·rfl
 ·exact absurd (Nat.eq_of_beq_eq_true hb) h
theorem aL.fP {c:Ctx} {id len v} (h:aL c (.own id len) v):(∃b sz cap,v= .slice (some ⟨b,0,none⟩) len cap∧c.ρ id=some (some b,sz)∧len≤cap∧∃cs t f,c.h[b]?=some (.cells cs t f)∧cap * sz≤cs.size)∨(len=0∧∃a,v= .slice a 0 0∧∃p,c.ρ id=some p):=by
 cases h with
 | own h hl hb=>exact .inl ⟨_,_,_,rfl,h,hl,hb⟩
 | ownNil h=>exact .inr ⟨rfl,_,rfl,_,h⟩
theorem aL.nI {c:Ctx} {id off sz len v} (h:aL c (.win id off sz len) v):(∃b s cap,v= .slice (some ⟨b,off * sz,none⟩) len cap∧c.ρ id=some (some b,s)∧len≤cap)∨(len=0∧∃a cap,v= .slice a 0 cap):=by
 cases h with
 | win h hl=>exact .inl ⟨_,_,_,rfl,h,hl⟩
 | winNil h=>exact .inr ⟨rfl,_,_,rfl⟩
theorem aL.aQ {c:Ctx} {u v} (h:aL c (.val u) v):v=u:=by cases h;rfl
inductive MK where
 | i (k:IntKind) (n:Int)
 | s (b:ByteArray)
 deriving DecidableEq
def MK.val:MK→Value
 | .i k n=>.int k n
 | .s b=>.string b
inductive dm where
 | cells (sz:Nat) (els:List (List AV))
 | map (es:List (MK×AV))
 | raw (o:Obj)
structure ah where
 next:Nat
 get:Nat→Option dm
def ah.new (σ:ah) (o:dm):ah:=⟨σ.next+1,fun i=>bif Nat.beq i σ.next then some o else σ.get i⟩
def ah.set (σ:ah) (id:Nat) (o:dm):ah:=⟨σ.next,fun i=>bif Nat.beq i id then some o else σ.get i⟩
def ah.del (σ:ah) (id:Nat):ah:=⟨σ.next,fun i=>bif Nat.beq i id then none else σ.get i⟩
def ah.empty:ah:=⟨0,fun _=>none⟩
inductive fw (c:Ctx):dm→Option Nat×Nat→Prop
 | cells {els:List (List AV)} {b sz:Nat} (cs:Array Value) (t:TypeId) (hb:c.h[b]?=some (.cells cs t (0,0))) (hsz:els.length * sz≤cs.size)
  (he:∀(i:Nat) (el:List AV),els[i]?=some el→el.length=sz) (hone:∀(j:Nat) (v:Value),cs[j]?=some v→v.oneCell'=true)
  (hr:∀(i:Nat) (el:List AV) (j:Nat) (x:AV),els[i]?=some el→el[j]?=some x→∀v,cs[i * sz+j]?=some v→aL c x v):fw c (.cells sz els) (some b,sz)
 | none {sz:Nat}:fw c (.cells sz []) (none,sz)
 | map {es:List (MK×AV)} {b sz:Nat} (ents:Array MapEntry) (clock:Nat) (hb:c.h[b]?=some (.map ents clock)) (hl:ents.size=es.length)
  (hr:∀(i:Nat) (k:MK) (x:AV) (e:MapEntry),es[i]?=some (k,x)→ents[i]?=some e→e.key=k.val∧aL c x e.val):fw c (.map es) (some b,sz)
 | raw {o:Obj} {b sz:Nat} (hb:c.h[b]?=some o) (hn:∀cs t f,o≠ .cells cs t f):fw c (.raw o) (some b,sz)
def Imm (ρ:Nat→Option (Option Nat×Nat)) (σ:ah) (w:World) (b:Nat):Prop:=
 b<w.heap.size∧∀id o sz,σ.get id=some o→ρ id≠some (some b,sz)
def ctx (ρ:Nat→Option (Option Nat×Nat)) (σ:ah) (w:World):Ctx:=⟨ρ,Imm ρ σ w,w.heap⟩
structure Sim (ρ:Nat→Option (Option Nat×Nat)) (σ:ah) (w:World):Prop where
 fresh:∀id,σ.next≤id→ρ id=none
 obj:∀id o,σ.get id=some o→∃p,ρ id=some p∧fw (ctx ρ σ w) o p
 inj:∀i j oi oj b s t,σ.get i=some oi→σ.get j=some oj→ρ i=some (some b,s)→ρ j=some (some b,t)→i=j
structure Ext (ρ:Nat→Option (Option Nat×Nat)) (σ:ah) (w:World) (ρ':Nat→Option (Option Nat×Nat)) (σ':ah) (w':World):Prop where
 le:CLe (ctx ρ σ w) (ctx ρ' σ' w')
 next:σ.next≤σ'.next
 os:w'.os=w.os
 tape:w'.tape=w.tape
 output:w'.output=w.output
 size:w.heap.size≤w'.heap.size
theorem Ext.refl (ρ σ w):Ext ρ σ w ρ σ w:=⟨CLe.refl _,Nat.le_refl _,rfl,rfl,rfl,Nat.le_refl _⟩
theorem Ext.trans {ρ σ w ρ₁ σ₁ w₁ ρ₂ σ₂ w₂} (h:Ext ρ σ w ρ₁ σ₁ w₁) (k:Ext ρ₁ σ₁ w₁ ρ₂ σ₂ w₂):Ext ρ σ w ρ₂ σ₂ w₂:=
 ⟨h.le.trans k.le,Nat.le_trans h.next k.next,k.os.trans h.os,k.tape.trans h.tape,k.output.trans h.output,Nat.le_trans h.size k.size⟩
theorem fw.mono {c d:Ctx} (hle:CLe c d) {o:dm} {p:Option Nat×Nat} (h:fw c o p) (hb:∀b,p.1=some b→d.h[b]?=c.h[b]?):fw d o p:=by
 cases h with
 | cells cs t hb' hsz he hone hr=>exact .cells cs t (by rw[hb _ rfl];exact hb') hsz he hone (fun i el j x h1 h2 v hv=>(hr i el j x h1 h2 v hv).mono hle)
 | none=>exact .none
 | map ents clock hb' hl hr=>exact .map ents clock (by rw[hb _ rfl];exact hb') hl (fun i k x e h1 h2=>⟨(hr i k x e h1 h2).1,(hr i k x e h1 h2).2.mono hle⟩)
 | raw hb' hn=>exact .raw (by rw[hb _ rfl];exact hb') hn
theorem fw.eS {c:Ctx} {sz sz' b:Nat} {els:List (List AV)} (h:fw c (.cells sz els) (some b,sz')):sz=sz'∧∃cs t,c.h[b]?=some (.cells cs t (0,0))∧els.length * sz≤cs.size∧
 (∀(i:Nat) el,els[i]?=some el→el.length=sz)∧(∀(j:Nat) v,cs[j]?=some v→v.oneCell'=true)∧∀(i:Nat) (el:List AV) (j:Nat) (x:AV),els[i]?=some el→el[j]?=some x→∀v,cs[i * sz+j]?=some v→aL c x v:=by
 cases h with
 | cells cs t hb hsz he hone hr=>exact⟨rfl,cs,t,hb,hsz,he,hone,hr⟩
theorem fw.lt {c:Ctx} {o:dm} {b sz:Nat} (h:fw c o (some b,sz)):b<c.h.size:=by
 cases h with
 | cells cs t hb'=>exact(Array.getElem?_eq_some_iff.1 hb').1
 | map ents clock hb'=>exact(Array.getElem?_eq_some_iff.1 hb').1
 | raw hb' hn=>exact(Array.getElem?_eq_some_iff.1 hb').1
def upρ (ρ:Nat→Option (Option Nat×Nat)) (id:Nat) (p:Option Nat×Nat):Nat→Option (Option Nat×Nat):=fun i=>if i=id then some p else ρ i
@[simp] theorem upρ_same (ρ id p):upρ ρ id p id=some p:=by simp[upρ]
theorem upρ_ne {ρ id p i} (h:i≠id):upρ ρ id p i=ρ i:=by simp[upρ,h]
@[simp] theorem ah.im (σ:ah) (o:dm):(σ.new o).get σ.next=some o:=by simp[ah.new]
theorem ah.di {σ:ah} {o:dm} {i:Nat} (h:i≠σ.next):(σ.new o).get i=σ.get i:=by
 have:Nat.beq i σ.next=false:=lC h
 simp[ah.new,this]
@[simp] theorem ah.sU (σ:ah) (o:dm):(σ.new o).next=σ.next+1:=rfl
@[simp] theorem ah.tz (σ:ah) (id:Nat) (o:dm):(σ.set id o).get id=some o:=by simp[ah.set]
theorem ah.kI {σ:ah} {id:Nat} {o:dm} {i:Nat} (h:i≠id):(σ.set id o).get i=σ.get i:=by
 have:Nat.beq i id=false:=lC h
 simp[ah.set,this]
@[simp] theorem ah.zY (σ:ah) (id:Nat) (o:dm):(σ.set id o).next=σ.next:=rfl
@[simp] theorem ah.od (σ:ah) (id:Nat):(σ.del id).get id=none:=by simp[ah.del]
theorem ah.gQ {σ:ah} {id i:Nat} (h:i≠id):(σ.del id).get i=σ.get i:=by
 have:Nat.beq i id=false:=lC h
 simp[ah.del,this]
@[simp] theorem ah.fZ (σ:ah) (id:Nat):(σ.del id).next=σ.next:=rfl
theorem Sim.lt {ρ σ w} (h:Sim ρ σ w) {id o} (ho:σ.get id=some o):id<σ.next:=by
 rcases Nat.lt_or_ge id σ.next with h1 | h1
 ·exact h1
 ·obtain⟨p,hp,_⟩:=h.obj id o ho
  rw[h.fresh id h1]at hp;cases hp
theorem Sim.blk {ρ σ w} (h:Sim ρ σ w) {id o b sz} (ho:σ.get id=some o) (hp:ρ id=some (some b,sz)):b<w.heap.size:=by
 obtain⟨p,hp',hr⟩:=h.obj id o ho
 rw[hp]at hp';cases hp'
 exact hr.lt
theorem Sim.alloc {ρ σ w} (hs:Sim ρ σ w) (o:Obj) (ao:dm) (sz:Nat)
 (hr:∀d:Ctx,CLe (ctx ρ σ w) d→d.h[w.heap.size]?=some o→fw d ao (some w.heap.size,sz)):
 Sim (upρ ρ σ.next (some w.heap.size,sz)) (σ.new ao) (w.alloc o)∧Ext ρ σ w (upρ ρ σ.next (some w.heap.size,sz)) (σ.new ao) (w.alloc o):=by
 have hsz:(w.alloc o).heap.size=w.heap.size+1:=by show(w.heap.push o).size=_;simp
 have hold:∀b:Nat,b<w.heap.size→(w.alloc o).heap[b]?=w.heap[b]?:=fun b hb=>Go.RowKit.Below.heap_alloc w o b hb
 have hnew:(w.alloc o).heap[w.heap.size]?=some o:=by show(w.heap.push o)[w.heap.size]?=_;simp
 have hρ:∀id p,ρ id=some p→upρ ρ σ.next (some w.heap.size,sz) id=some p:=by
  intro id p hp
  rw[upρ_ne]
  ·exact hp
  ·intro e;subst e;rw[hs.fresh _ (Nat.le_refl _)]at hp;cases hp
 have hle:CLe (ctx ρ σ w) (ctx (upρ ρ σ.next (some w.heap.size,sz)) (σ.new ao) (w.alloc o)):=by
  refine⟨hρ,fun b hb=>⟨⟨by rw[hsz];exact Nat.lt_succ_of_lt hb.1,fun id o' s ho' hp=> ?_⟩,hold b hb.1⟩,fun b cs t f hb=> ?_⟩
  ·by_cases hid:id=σ.next
   ·subst hid
    rw[upρ_same]at hp
    have:=hb.1
    simp only[Option.some.injEq,Prod.mk.injEq]at hp
    omega
   ·rw[upρ_ne hid]at hp
    rw[ah.di hid]at ho'
    exact hb.2 id o' s ho' hp
  ·have:b<w.heap.size:=(Array.getElem?_eq_some_iff.1 hb).1
   exact⟨cs,f,by rw[show(ctx (upρ ρ σ.next (some w.heap.size,sz)) (σ.new ao) (w.alloc o)).h=(w.alloc o).heap from rfl,hold b this];exact hb,rfl⟩
 refine⟨⟨fun id hid=> ?_,fun id o' ho'=> ?_,fun i j oi oj b s t hi hj pi pj=> ?_⟩,⟨hle,Nat.le_succ _,rfl,rfl,rfl,by rw[hsz];exact Nat.le_succ _⟩⟩
 ·have:id≠σ.next:=by intro e;subst e;simp at hid;omega
  rw[upρ_ne this];exact hs.fresh id (by simp at hid;omega)
 ·by_cases hid:id=σ.next
  ·subst hid
   rw[ah.im]at ho'
   cases ho'
   exact⟨_,upρ_same _ _ _,hr _ hle hnew⟩
  ·rw[ah.di hid]at ho'
   obtain⟨p,hp,hor⟩:=hs.obj id o' ho'
   refine⟨p,hρ id p hp,hor.mono hle fun b hb=>hold b ?_⟩
   obtain⟨pb,psz⟩:=p
   simp at hb;subst hb
   exact hor.lt
 ·by_cases ei:i=σ.next<;>by_cases ej:j=σ.next
  ·rw[ei,ej]
  ·subst ei
   rw[upρ_same]at pi;cases pi
   rw[upρ_ne ej]at pj
   rw[ah.di ej]at hj
   exact absurd (hs.blk hj pj) (Nat.lt_irrefl _)
  ·subst ej
   rw[upρ_same]at pj;cases pj
   rw[upρ_ne ei]at pi
   rw[ah.di ei]at hi
   exact absurd (hs.blk hi pi) (Nat.lt_irrefl _)
  ·rw[upρ_ne ei]at pi;rw[upρ_ne ej]at pj
   rw[ah.di ei]at hi;rw[ah.di ej]at hj
   exact hs.inj i j oi oj b s t hi hj pi pj
theorem Sim.lX {ρ σ w} (hs:Sim ρ σ w) (sz:Nat):
 Sim (upρ ρ σ.next (none,sz)) (σ.new (.cells sz [])) w∧Ext ρ σ w (upρ ρ σ.next (none,sz)) (σ.new (.cells sz [])) w:=by
 have hρ:∀id p,ρ id=some p→upρ ρ σ.next (none,sz) id=some p:=by
  intro id p hp
  rw[upρ_ne]
  ·exact hp
  ·intro e;subst e;rw[hs.fresh _ (Nat.le_refl _)]at hp;cases hp
 have hle:CLe (ctx ρ σ w) (ctx (upρ ρ σ.next (none,sz)) (σ.new (.cells sz [])) w):=by
  refine⟨hρ,fun b hb=>⟨⟨hb.1,fun id o' s ho' hp=> ?_⟩,rfl⟩,fun b cs t f hb=>⟨cs,f,hb,rfl⟩⟩
  by_cases hid:id=σ.next
  ·subst hid;rw[upρ_same]at hp;simp at hp
  ·rw[upρ_ne hid]at hp
   rw[ah.di hid]at ho'
   exact hb.2 id o' s ho' hp
 refine⟨⟨fun id hid=> ?_,fun id o' ho'=> ?_,fun i j oi oj b s t hi hj pi pj=> ?_⟩,⟨hle,Nat.le_succ _,rfl,rfl,rfl,Nat.le_refl _⟩⟩
 ·have:id≠σ.next:=by intro e;subst e;simp at hid;omega
  rw[upρ_ne this];exact hs.fresh id (by simp at hid;omega)
 ·by_cases hid:id=σ.next
  ·subst hid
   rw[ah.im]at ho'
   cases ho'
   exact⟨_,upρ_same _ _ _,.none⟩
  ·rw[ah.di hid]at ho'
   obtain⟨p,hp,hor⟩:=hs.obj id o' ho'
   exact⟨p,hρ id p hp,hor.mono hle fun b hb=>rfl⟩
 ·by_cases ei:i=σ.next
  ·subst ei;rw[upρ_same]at pi;simp at pi
  ·by_cases ej:j=σ.next
   ·subst ej;rw[upρ_same]at pj;simp at pj
   ·rw[upρ_ne ei]at pi;rw[upρ_ne ej]at pj
    rw[ah.di ei]at hi;rw[ah.di ej]at hj
    exact hs.inj i j oi oj b s t hi hj pi pj
theorem Sim.write {ρ σ w} (hs:Sim ρ σ w) {id b sz:Nat} {ao:dm} (hid:σ.get id=some ao) (hp:ρ id=some (some b,sz)) (w':World) (ao':dm)
 (hother:∀k,k≠b→w'.heap[k]?=w.heap[k]?) (hsize:w'.heap.size=w.heap.size)
 (hcells:∀cs t f,w.heap[b]?=some (.cells cs t f)→∃cs' f',w'.heap[b]?=some (.cells cs' t f')∧cs'.size=cs.size)
 (hos:w'.os=w.os) (htape:w'.tape=w.tape) (hout:w'.output=w.output) (hdr:w.drawn≤w'.drawn)
 (hr:∀d:Ctx,CLe (ctx ρ σ w) d→d.h=w'.heap→fw d ao' (some b,sz)):
 Sim ρ (σ.set id ao') w'∧Ext ρ σ w ρ (σ.set id ao') w':=by
 have hle:CLe (ctx ρ σ w) (ctx ρ (σ.set id ao') w'):=by
  refine⟨fun _ _ h=>h,fun k hk=>⟨⟨by rw[hsize];exact hk.1,fun i o s ho hpi=> ?_⟩,?_⟩,fun k cs t f hk=> ?_⟩
  ·by_cases e:i=id
   ·subst e;exact hk.2 i ao s hid hpi
   ·rw[ah.kI e]at ho;exact hk.2 i o s ho hpi
  ·have:k≠b:=by intro e;subst e;exact hk.2 id ao sz hid hp
   exact hother k this
  ·by_cases e:k=b
   ·subst e;exact hcells cs t f hk
   ·exact⟨cs,f,by rw[show(ctx ρ (σ.set id ao') w').h=w'.heap from rfl,hother k e];exact hk,rfl⟩
 refine⟨⟨fun i hi=>hs.fresh i hi,fun i o ho=> ?_,fun i j oi oj c s t hi hj pi pj=> ?_⟩,⟨hle,Nat.le_refl _,hos,htape,hout,Nat.le_of_eq hsize.symm⟩⟩
 ·by_cases e:i=id
  ·subst e
   rw[ah.tz]at ho;cases ho
   exact⟨_,hp,hr _ hle rfl⟩
  ·rw[ah.kI e]at ho
   obtain⟨p,hpi,hor⟩:=hs.obj i o ho
   refine⟨p,hpi,hor.mono hle fun c hc=>hother c ?_⟩
   intro ec;subst ec
   obtain⟨pb,ps⟩:=p
   simp at hc;subst hc
   exact e (hs.inj i id o ao _ _ _ ho hid hpi hp)
 ·have gi:∃oi',σ.get i=some oi':=by
   by_cases e:i=id
   ·subst e;exact⟨_,hid⟩
   ·rw[ah.kI e]at hi;exact⟨_,hi⟩
  have gj:∃oj',σ.get j=some oj':=by
   by_cases e:j=id
   ·subst e;exact⟨_,hid⟩
   ·rw[ah.kI e]at hj;exact⟨_,hj⟩
  obtain⟨oi',gi⟩:=gi
  obtain⟨oj',gj⟩:=gj
  exact hs.inj i j oi' oj' c s t gi gj pi pj
theorem Sim.del {ρ σ w} (hs:Sim ρ σ w) (id:Nat):Sim ρ (σ.del id) w∧Ext ρ σ w ρ (σ.del id) w:=by
 have hget:∀i o,(σ.del id).get i=some o→σ.get i=some o:=by
  intro i o h
  by_cases e:i=id
  ·subst e;simp at h
  ·rwa [ah.gQ e]at h
 have hle:CLe (ctx ρ σ w) (ctx ρ (σ.del id) w):=
  ⟨fun _ _ h=>h,fun b hb=>⟨⟨hb.1,fun i o s ho=>hb.2 i o s (hget i o ho)⟩,rfl⟩,fun b cs t f hb=>⟨cs,f,hb,rfl⟩⟩
 exact⟨⟨hs.fresh,fun i o ho=>let ⟨p,hp,hor⟩:=hs.obj i o (hget i o ho);⟨p,hp,hor.mono hle fun _ _=>rfl⟩,
  fun i j oi oj b s t hi hj=>hs.inj i j oi oj b s t (hget i oi hi) (hget j oj hj)⟩,⟨hle,Nat.le_refl _,rfl,rfl,rfl,Nat.le_refl _⟩⟩
theorem Sim.drawn {ρ σ w} (hs:Sim ρ σ w) (n:Nat) (hn:w.drawn≤n):Sim ρ σ {w with drawn:=n}∧Ext ρ σ w ρ σ {w with drawn:=n}:=
 ⟨⟨hs.fresh,hs.obj,hs.inj⟩,⟨CLe.refl _,Nat.le_refl _,rfl,rfl,rfl,Nat.le_refl _⟩⟩
end Go.Abs
namespace Go.Abs
open Go
abbrev aA:=List (Nat×AV)
def aa:aA→Nat→AV
 | [],_=>.any
 | (k,v)::r,j=>bif Nat.beq j k then v else aa r j
def ev (fr:aA):Operand→AV
 | .tmp t=>aa fr t
 | .const v=>.val v
 | .global g=>.val (.pointer (some ⟨g,0,none⟩))
 | .func f=>.fn (.func f) []
def put (fr:aA):Option Nat→AV→aA
 | some d,v=>(d,v)::fr
 | none,_=>fr
def prune (keep:List Nat) (fr:aA):aA:=keep.map fun k=>(k,aa fr k)
def dZ (c:Ctx) (fr:aA) (tmps:Array Value):Prop:=∀k,aL c (aa fr k) (tmps.getD k undef)
theorem dZ.mono {c d:Ctx} (hle:CLe c d) {fr tmps} (h:dZ c fr tmps):dZ d fr tmps:=fun k=>(h k).mono hle
theorem dU (k v r j):aa ((k,v)::r) j=if j=k then v else aa r j:=by
 by_cases h:j=k
 ·subst h;simp[aa]
 ·simp[aa,lC h,h]
theorem dZ.eval {c fr} {a:Act} (h:dZ c fr a.tmps) (x:Operand):aL c (ev fr x) (a.eval x):=by
 cases x with
 | tmp t=>exact h t
 | const v=>exact .val v
 | global g=>exact .val _
 | func f=>exact .fn rfl (by intro i x v hx;simp at hx)
theorem dZ.put {c fr} {a:Act} (h:dZ c fr a.tmps) {d:Option Nat} {x v} (hv:aL c x v) (hd:∀k,d=some k→k<a.tmps.size):dZ c (put fr d x) (a.put d v).tmps:=by
 cases d with
 | none=>exact h
 | some d=>
  intro k
  have hd:=hd d rfl
  simp only[Abs.put,Act.put,dU]
  by_cases e:k=d
  ·subst e;simp[hd];exact hv
  ·simp only[e,if_false]
   have:=h k
   rw[Array.getD_eq_getD_getElem?]at this⊢
   rwa [Array.getElem?_setIfInBounds_ne (Ne.symm e)]
theorem uA (keep:List Nat) (fr:aA) (k:Nat):aa (prune keep fr) k=aa fr k∨aa (prune keep fr) k= .any:=by
 induction keep with
 | nil=>right;rfl
 | cons a r ih=>
  have:aa (prune (a::r) fr) k=if k=a then aa fr a else aa (prune r fr) k:=dU a (aa fr a) (prune r fr) k
  rw[this]
  by_cases e:k=a
  ·subst e;simp
  ·simp only[e,if_false];exact ih
theorem dZ.prune {c fr tmps} (h:dZ c fr tmps) (keep:List Nat):dZ c (prune keep fr) tmps:=by
 intro k
 rcases uA keep fr k with e | e<;>rw[e]
 ·exact h k
 ·exact .any _
def dA (P:Program) (t:TypeId):Option (Bool×Nat):=
 match P.info? t,P.underlying t with
 | some i,some (.struct _)=>some (true,i.size)
 | some i,some (.array _ _)=>some (true,i.size)
 | some i,some _=>some (false,i.size)
 | _,_=>none
theorem iT {P t g n} (h:dA P t=some (g,n)) (w:World):(sizeOf t).run P w= .ok n w∧(isAgg t).run P w= .ok g w:=by
 unfold dA at h
 split at h<;>rename_i hi hu
 ·cases h;simp[sizeOf,isAgg,typeInfo,underlying,hi,hu]
 ·cases h;simp[sizeOf,isAgg,typeInfo,underlying,hi,hu]
 ·cases h
  rename_i i d hns hna
  simp only[sizeOf,isAgg,typeInfo,underlying,hi,hu,Sem.run_bind,run_program,Result.andThen_ok,Sem.run_pure,true_and]
  try (cases d<;>first | (simp;done) | simp_all)
 ·cases h
theorem iC (w:World) (b o:Nat):w.cell? ⟨b,o,none⟩=cellOf w.heap b o:=by
 unfold World.cell? cellOf
 cases w.heap[b]? with
 | none=>rfl
 | some x=>cases x<;>rfl
theorem add_lit (b o n:Nat):(⟨b,o,none⟩:Addr).add n=⟨b,o+n,none⟩:=by
 unfold Addr.add;split<;>simp_all
def b8 (g:Bool) (n:Nat) (cs:List AV):Option AV:=
 if g=true then (if n≤cs.length then some (.agg (cs.take n)) else none) else cs.head?
theorem tw {P t g n} (ht:dA P t=some (g,n)) {c:Ctx} {w:World} {b o:Nat} {cs:List AV} (f:Nat→Value)
 (hc:∀j,j<cs.length→w.cell? ⟨b,o+j,none⟩=some (f j)∧(f j).oneCell'=true) (hr:∀(j:Nat) x,cs[j]?=some x→aL c x (f j)) {y} (hy:b8 g n cs=some y):
 ∃u,(loadVar t ⟨b,o,none⟩).run P w= .ok u w∧aL c y u:=by
 obtain⟨h1,h2⟩:=iT ht w
 cases g with
 | false=>
  simp only[b8,Bool.false_eq_true,if_false]at hy
  cases cs with
  | nil=>cases hy
  | cons x r=>
   simp at hy;subst hy
   refine⟨f 0,?_,hr 0 x (by simp)⟩
   have:=(hc 0 (by simp)).1
   simp at this
   simp[loadVar,h2,this]
 | true=>
  simp only[b8,if_true]at hy
  by_cases hn:n≤cs.length
  ·simp only[hn,if_true,Option.some.injEq]at hy;subst hy
   refine⟨.agg ((List.range n).map f).toArray,?_,?_⟩
   ·have:=run_loadCells (P:=P) w ⟨b,o,none⟩ n f (fun j hj=>by rw[add_lit];exact(hc j (by omega)).1)
    simp[loadVar,h1,h2,this]
   ·refine .agg (by simp;omega) ?_ ?_
    ·intro i v hv
     simp only[List.getElem?_toArray,List.getElem?_map]at hv
     by_cases hi:i<n
     ·simp[hi]at hv;subst hv;exact(hc i (by omega)).2
     ·simp[hi]at hv
    ·intro i x v hx hv
     simp only[List.getElem?_toArray,List.getElem?_map]at hv
     rw[List.getElem?_take]at hx
     by_cases hi:i<n
     ·simp[hi]at hv hx;subst hv;exact hr i x hx
     ·simp[hi]at hv
  ·simp[hn]at hy
def iG (σ:ah) (id i:Nat):Option (List AV):=
 match σ.get id with
 | some (.cells _ els)=>els[i]?
 | _=>none
theorem Sim.kW {ρ σ w} (hs:Sim ρ σ w) {id i b sz el} (he:iG σ id i=some el) (hp:ρ id=some (some b,sz)):
 el.length=sz∧∃els cs t,σ.get id=some (.cells sz els)∧els[i]?=some el∧w.heap[b]?=some (.cells cs t (0,0))∧els.length * sz≤cs.size∧i * sz+sz≤cs.size∧
  (∀(j:Nat) v,cs[j]?=some v→v.oneCell'=true)∧∀j x,el[j]?=some x→aL (ctx ρ σ w) x (cs.getD (i * sz+j) undef):=by
 unfold iG at he
 split at he
 ·rename_i sz0 els hg
  obtain⟨p,hp',hor⟩:=hs.obj id _ hg
  rw[hp]at hp';cases hp'
  cases hor with
  | cells cs t hb hsz hel hone hr=>
   have hl:=hel i el he
   have hi:i<els.length:=(List.getElem?_eq_some_iff.1 he).1
   have hm:i * sz+sz≤els.length * sz:=by rw[←Nat.succ_mul];exact Nat.mul_le_mul_right _ hi
   refine⟨hl,els,cs,t,hg,he,hb,hsz,by omega,hone,fun j x hx=> ?_⟩
   have hj:j<sz:=by rw[←hl];exact(List.getElem?_eq_some_iff.1 hx).1
   have hlt:i * sz+j<cs.size:=by omega
   have:=hr i el j x he hx cs[i * sz+j] (by simp[hlt])
   simpa [Array.getD_eq_getD_getElem?,hlt] using this
 ·cases he
def aj (g:Bool) (n:Nat) (x:AV) (σ:ah):Option AV:=
 match x with
 | .ptr id i o=>(iG σ id i).bind fun el=>b8 g n (el.drop o)
 | .ref cs=>b8 g n cs
 | _=>none
theorem DZ {ρ σ w} (hs:Sim ρ σ w) {P t g n} (ht:dA P t=some (g,n)) {x v} (hv:aL (ctx ρ σ w) x v) {y} (hy:aj g n x σ=some y):
 ∃u,(Instr.loadAt t v).run P w= .ok u w∧aL (ctx ρ σ w) y u:=by
 unfold aj at hy
 split at hy
 ·rename_i id i o
  cases hv with
  | ptr hp=>
   rename_i b sz
   cases he:iG σ id i with
   | none=>rw[he]at hy;cases hy
   | some el=>
    rw[he]at hy
    simp only[Option.bind_some]at hy
    obtain⟨hl,els,cs,t',_,_,hb,_,hsz,hone,hr⟩:=hs.kW he hp
    have:=tw (w:=w) (b:=b) (o:=i * sz+o) ht (cs:=el.drop o) (c:=ctx ρ σ w) (fun j=>cs.getD (i * sz+(o+j)) undef) (fun j hj=> ?_) (fun j x hx=> ?_) hy
    ·obtain⟨u,hu,hrel⟩:=this
     exact⟨u,by simp[Instr.loadAt,Instr.sureAddr,hu],hrel⟩
    ·simp at hj
     have hlt:i * sz+(o+j)<cs.size:=by omega
     rw[iC,cellOf,hb,Nat.add_assoc]
     simp only[hlt,Array.getElem?_eq_getElem,Array.getD_eq_getD_getElem?,Option.getD_some,true_and]
     exact hone _ _ (Array.getElem?_eq_getElem hlt)
    ·rw[List.getElem?_drop]at hx
     exact hr _ _ hx
 ·rename_i cs
  cases hv with
  | ref f hi hc hr=>
   rename_i b o
   obtain⟨u,hu,hrel⟩:=tw (w:=w) (b:=b) (o:=o) ht f (fun j hj=>by rw[iC];exact hc j hj) hr hy
   exact⟨u,by simp[Instr.loadAt,Instr.sureAddr,hu],hrel⟩
 ·cases hy
def br:AV→Option (List AV)
 | .any=>none
 | .val v=>if v.oneCell'=true then some [.val v] else none
 | .agg cs=>some cs
 | .tup _=>none
 | x=>some [x]
theorem wL {v:Value} (h:v.oneCell'=true):v.cells= #[v]:=by
 cases v<;>simp_all [Value.cells,Value.oneCell']
theorem rD {c x v cs} (hv:aL c x v) (hc:br x=some cs):
 v.cells.size=cs.length∧(∀(j:Nat) u,v.cells[j]?=some u→u.oneCell'=true)∧∀(j:Nat) y u,cs[j]?=some y→v.cells[j]?=some u→aL c y u:=by
 have one:v.oneCell'=true→cs= [x]→v.cells.size=cs.length∧(∀(j:Nat) u,v.cells[j]?=some u→u.oneCell'=true)∧∀(j:Nat) y u,cs[j]?=some y→v.cells[j]?=some u→aL c y u:=by
  intro h1 h2
  subst h2
  rw[wL h1]
  refine⟨by simp,fun j u hu=> ?_,fun j y u hy hu=> ?_⟩
  ·cases j with
   | zero=>simp at hu;subst hu;exact h1
   | succ j=>simp at hu
  ·cases j with
   | zero=>simp at hu hy;subst hu;subst hy;exact hv
   | succ j=>simp at hu
 cases hv with
 | any=>cases hc
 | val=>
  simp only[br]at hc
  split at hc
  ·rename_i h1;cases hc;exact one h1 rfl
  ·cases hc
 | agg hl h1 hr=>cases hc;exact⟨hl.symm,h1,hr⟩
 | tup hl hr=>cases hc
 | ptr h=>cases hc;exact one rfl rfl
 | ref f hi hcc hr=>cases hc;exact one rfl rfl
 | sl f hl hn hcap hclip hcc hr=>cases hc;exact one rfl rfl
 | own h hl hb=>cases hc;exact one rfl rfl
 | ownNil h=>cases hc;exact one rfl rfl
 | win h hl=>cases hc;exact one rfl rfl
 | winNil h=>cases hc;exact one rfl rfl
 | mp h=>cases hc;exact one rfl rfl
 | fn hl hr=>cases hc;exact one rfl rfl
 | iface h=>cases hc;exact one rfl rfl
theorem fw.fO {c:Ctx} {b:Nat} {arr:Array Value} {t:TypeId} {cs:List AV} (hb:c.h[b]?=some (.cells arr t (0,0))) (hsz:arr.size=cs.length)
 (hone:∀(j:Nat) v,arr[j]?=some v→v.oneCell'=true) (hr:∀(j:Nat) y u,cs[j]?=some y→arr[j]?=some u→aL c y u):fw c (.cells cs.length [cs]) (some b,cs.length):=by
 refine .cells arr t hb (by simp[hsz]) ?_ hone ?_
 ·intro i el he
  cases i with
  | zero=>simp at he;subst he;rfl
  | succ i=>simp at he
 ·intro i el j x he hx v hv
  cases i with
  | zero=>simp at he;subst he;exact hr j x v hx (by simpa using hv)
  | succ i=>simp at he
theorem sBox {ρ σ w} (hs:Sim ρ σ w) {P} (t:TypeId) {x v cs} (hv:aL (ctx ρ σ w) x v) (hc:br x=some cs):
 ∃u w' ρ',(Instr.box t v).run P w= .ok u w'∧aL (ctx ρ' (σ.new (.cells cs.length [cs])) w') (.ptr σ.next 0 0) u∧Sim ρ' (σ.new (.cells cs.length [cs])) w'∧Ext ρ σ w ρ' (σ.new (.cells cs.length [cs])) w':=by
 obtain⟨h1,h2,h3⟩:=rD hv hc
 have:=hs.alloc (.cells v.cells t) (.cells cs.length [cs]) cs.length (fun d hle hd=>fw.fO hd h1 h2 (fun j y u hy hu=>(h3 j y u hy hu).mono hle))
 refine⟨.pointer (some ⟨w.heap.size,0,none⟩),w.alloc (.cells v.cells t),_,by simp[Instr.box,newVar,newRow],?_,this.1,this.2⟩
 have:=aL.ptr (c:=ctx (upρ ρ σ.next (some w.heap.size,cs.length)) (σ.new (.cells cs.length [cs])) (w.alloc (.cells v.cells t))) (id:=σ.next) (i:=0) (o:=0) (b:=w.heap.size) (sz:=cs.length) (by simp[ctx])
 simpa using this
def tW (zs:Array Value):Bool:=zs.all (·.oneCell')
theorem jm {zs:Array Value} (h:tW zs=true):∀(j:Nat) v,zs[j]?=some v→v.oneCell'=true:=by
 intro j v hj
 have:=Array.all_eq_true.1 h
 obtain⟨hlt,rfl⟩:=Array.getElem?_eq_some_iff.1 hj
 exact this j hlt
def zeroOf (P:Program) (t:TypeId):Option (List AV):=
 match P.info? t with
 | some i=>match i.zero with
  | some z=>if tW z.cells=true then some (z.cells.toList.map AV.val) else none
  | none=>none
 | none=>none
theorem dX {P t zs} (h:zeroOf P t=some zs) (w:World):∃z,(zeroValue t).run P w= .ok z w∧z.cells.size=zs.length∧(∀(j:Nat) v,z.cells[j]?=some v→v.oneCell'=true)∧
 ∀(c:Ctx) (j:Nat) y u,zs[j]?=some y→z.cells[j]?=some u→aL c y u:=by
 unfold zeroOf at h
 split at h
 ·rename_i i hi
  split at h
  ·rename_i z hz
   split at h
   ·rename_i h1
    cases h
    refine⟨z,by simp[zeroValue,typeInfo,hi,hz],by simp,jm h1,fun c j y u hy hu=> ?_⟩
    simp only[List.getElem?_map,Array.getElem?_toList,hu,Option.map_some,Option.some.injEq]at hy
    subst hy;exact .val _
   ·cases h
  ·cases h
 ·cases h
theorem GA {ρ σ w} (hs:Sim ρ σ w) {P t zs} (hz:zeroOf P t=some zs):
 ∃u w' ρ',(Instr.alloc t true (.tuple #[])).run P w= .ok u w'∧aL (ctx ρ' (σ.new (.cells zs.length [zs])) w') (.ptr σ.next 0 0) u∧Sim ρ' (σ.new (.cells zs.length [zs])) w'∧Ext ρ σ w ρ' (σ.new (.cells zs.length [zs])) w':=by
 obtain⟨z,hr,h1,h2,h3⟩:=dX hz w
 have:=hs.alloc (.cells z.cells t) (.cells zs.length [zs]) zs.length (fun d _ hd=>fw.fO hd h1 h2 (fun j y u hy hu=>h3 d j y u hy hu))
 refine⟨.pointer (some ⟨w.heap.size,0,none⟩),w.alloc (.cells z.cells t),_,by simp[Instr.alloc,hr,newVar,newRow],?_,this.1,this.2⟩
 have:=aL.ptr (c:=ctx (upρ ρ σ.next (some w.heap.size,zs.length)) (σ.new (.cells zs.length [zs])) (w.alloc (.cells z.cells t))) (id:=σ.next) (i:=0) (o:=0) (b:=w.heap.size) (sz:=zs.length) (by simp[ctx])
 simpa using this
def az (n:Nat) (x v:AV) (σ:ah):Option ah:=
 match x with
 | .ptr id i o=>match σ.get id with
  | some (.cells sz els)=>match els[i]?,br v with
   | some el,some vs=>if vs.length=n∧o+n≤el.length then some (σ.set id (.cells sz (els.set i (el.take o++vs++el.drop (o+n))))) else none
   | _,_=>none
  | _=>none
 | _=>none
theorem qd {i k sz j j':Nat} (hj:j<sz) (hj':j'<sz) (h:i * sz+j=k * sz+j'):i=k∧j=j':=by
 have hi:i=k:=by
  rcases Nat.lt_trichotomy i k with h1 | h1 | h1
  ·have:=Nat.mul_le_mul_right sz (Nat.succ_le_of_lt h1)
   rw[Nat.succ_mul]at this;omega
  ·exact h1
  ·have:=Nat.mul_le_mul_right sz (Nat.succ_le_of_lt h1)
   rw[Nat.succ_mul]at this;omega
 subst hi
 exact⟨rfl,by omega⟩
def cF (cs:Array Value) (o:Nat) (vs:Array Value):Array Value:=((cs.toList.take o)++vs.toList++cs.toList.drop (o+vs.size)).toArray
theorem dz {cs:Array Value} {o:Nat} {vs:Array Value} (h:o+vs.size≤cs.size):(cF cs o vs).size=cs.size:=by
 simp[cF];omega
theorem bZ {cs:Array Value} {o:Nat} {vs:Array Value} (h:o+vs.size≤cs.size) (j:Nat):
 (cF cs o vs)[j]?=if o≤j∧j<o+vs.size then vs[j - o]? else cs[j]?:=by
 simp only[cF,List.getElem?_toArray]
 have hlen:(cs.toList.take o++vs.toList).length=o+vs.size:=by simp;omega
 by_cases h1:j<o
 ·rw[if_neg (by omega),List.append_assoc,List.getElem?_append_left (by simp;omega),List.getElem?_take]
  simp[h1]
 ·by_cases h2:j<o+vs.size
  ·rw[if_pos ⟨by omega,h2⟩,List.getElem?_append_left (by omega),List.getElem?_append_right (by simp;omega)]
   simp[Nat.min_eq_left (show o≤cs.size by omega)]
  ·rw[if_neg (by omega),List.getElem?_append_right (by omega),hlen,List.getElem?_drop]
   simp only[Array.getElem?_toList]
   congr 1;omega
theorem rC {P:Program} {w:World} {t:TypeId} {n b o:Nat} {v:Value} {cs:Array Value} {e:TypeId} (hsz:(sizeOf t).run P w= .ok n w) (hn:v.cells.size=n)
 (hb:w.heap[b]?=some (.cells cs e (0,0))) (hfit:o+n≤cs.size) (hone:∀(j:Nat) u,v.cells[j]?=some u→u.oneCell'=true):
 ∃w',(storeVar t ⟨b,o,none⟩ v).run P w= .ok () w'∧w'.heap[b]?=some (.cells (cF cs o v.cells) e (0,0))∧(∀k,k≠b→w'.heap[k]?=w.heap[k]?)∧w'.heap.size=w.heap.size∧w'.os=w.os∧w'.tape=w.tape∧w'.output=w.output∧w.drawn≤w'.drawn:=by
 have h1:∀u∈v.cells.toList,u.oneCell'=true:=by
  intro u hu
  obtain⟨j,hj,rfl⟩:=List.getElem_of_mem hu
  exact hone j _ (by simp at hj;simp[hj])
 have hst:=run_storeCells_at P b o e v.cells.toList 0 cs w hb (by simp;omega) h1
 simp only[Nat.add_zero]at hst
 refine⟨w.setRow b (cF cs o v.cells),by simp[storeVar,hsz,hn,hst,cF],?_,?_,?_,rfl,rfl,rfl,Nat.le_refl _⟩
 ·exact setRow_heap w b cs _ e (0,0) hb
 ·intro k hk
  exact setRow_other w b k _ hk
 ·simp[World.setRow]
theorem GJ {ρ σ w} (hs:Sim ρ σ w) {P t g n} (ht:dA P t=some (g,n)) {x y a v} (hx:aL (ctx ρ σ w) x a) (hy:aL (ctx ρ σ w) y v) {σ'} (h:az n x y σ=some σ'):
 ∃w',(Instr.storeAt t a v).run P w= .ok () w'∧Sim ρ σ' w'∧Ext ρ σ w ρ σ' w':=by
 unfold az at h
 split at h
 ·rename_i id i o
  split at h
  ·rename_i sz els hg
   split at h
   ·rename_i el vs hel hvs
    split at h
    ·rename_i hcond
     cases h
     obtain⟨hn,hfit⟩:=hcond
     cases hx with
     | ptr hp=>
      rename_i b sz1
      obtain⟨hl,els',cs,e,hg',hel',hb,hsz,hfit2,hone,hr⟩:=hs.kW (id:=id) (i:=i) (el:=el) (by simp[iG,hg,hel]) hp
      rw[hg]at hg';cases hg'
      obtain⟨k1,k2,k3⟩:=rD hy hvs
      obtain⟨w',r1,r2,r3,r4,r5,r6,r7,r8⟩:=rC (P:=P) (b:=b) (o:=i * sz+o) (v:=v) (n:=n) (iT ht w).1 (by omega) hb (by omega) k2
      refine⟨w',by simp[Instr.storeAt,Instr.sureAddr,r1],?_⟩
      have hsp:(i * sz+o)+v.cells.size≤cs.size:=by omega
      refine hs.write hg hp w' _ r3 r4 (fun cs' t' f' h'=> ?_) r5 r6 r7 r8 (fun d hle hd=> ?_)
      ·rw[hb]at h';cases h'
       exact⟨_,_,r2,dz hsp⟩
      ·have hil:i<els.length:=(List.getElem?_eq_some_iff.1 hel).1
       refine .cells (cF cs (i * sz+o) v.cells) e (by rw[hd];exact r2) (by rw[List.length_set,dz hsp];exact hsz) ?_ ?_ ?_
       ·intro k el' hk
        rw[List.getElem?_set]at hk
        split at hk
        ·cases hk;simp;omega
        ·obtain⟨p,hp',hor⟩:=hs.obj id _ hg
         have hp2:ρ id=some (some b,sz):=hp
         rw[hp2]at hp';cases hp'
         cases hor with
         | cells _ _ _ _ he _ _=>exact he k el' hk
       ·intro j u hu
        rw[bZ hsp]at hu
        split at hu
        ·exact k2 _ _ hu
        ·exact hone _ _ hu
       ·intro k el' j z hk hz u hu
        rw[bZ hsp]at hu
        rw[List.getElem?_set]at hk
        split at hk
        ·rename_i hik
         subst hik
         ·cases hk
          have hj:j<sz:=by have:=(List.getElem?_eq_some_iff.1 hz).1;simp at this;omega
          by_cases c1:j<o
          ·rw[if_neg (by omega)]at hu
           rw[List.append_assoc,List.getElem?_append_left (by simp;omega),List.getElem?_take]at hz
           simp only[c1,if_true]at hz
           have:=hr j z hz
           rw[Array.getD_eq_getD_getElem?,hu]at this
           exact this.mono hle
          ·by_cases c2:j<o+n
           ·rw[if_pos ⟨by omega,by omega⟩]at hu
            rw[List.getElem?_append_left (by simp;omega),List.getElem?_append_right (by simp;omega)]at hz
            refine(k3 (i * sz+j - (i * sz+o)) z u ?_ hu).mono hle
            rw[←hz];congr 1;simp;omega
           ·rw[if_neg (by omega)]at hu
            rw[List.getElem?_append_right (by simp;omega),List.getElem?_drop]at hz
            have:=hr j z (by rw[←hz];congr 1;simp;omega)
            rw[Array.getD_eq_getD_getElem?,hu]at this
            exact this.mono hle
        ·rename_i hik
         obtain⟨p,hp',hor⟩:=hs.obj id _ hg
         have hp2:ρ id=some (some b,sz):=hp
         rw[hp2]at hp';cases hp'
         cases hor with
         | cells cs2 t2 hb2 _ he _ hr2=>
          have e2:w.heap[b]?=some (.cells cs2 t2 (0,0)):=hb2
          rw[hb]at e2;cases e2
          have hj:j<sz:=by rw[←he k el' hk];exact(List.getElem?_eq_some_iff.1 hz).1
          have:¬(i * sz+o≤k * sz+j∧k * sz+j<i * sz+o+v.cells.size):=by
           intro hc
           have h5:k * sz+j=i * sz+(k * sz+j - i * sz):=by omega
           exact hik (qd hj (by omega) h5).1.symm
          rw[if_neg this]at hu
          exact(hr2 k el' j z hk hz u hu).mono hle
    ·cases h
   ·cases h
  ·cases h
 ·cases h
end Go.Abs
