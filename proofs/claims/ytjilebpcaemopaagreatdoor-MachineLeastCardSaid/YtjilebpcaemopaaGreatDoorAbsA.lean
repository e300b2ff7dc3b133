import Derived.WalkKit
set_option linter.unusedVariables false
namespace Go.Abs
open Go
inductive AV where
  | any
  | val (v:Value)
  | ptr (id i o:Nat)
  | ref (cs:List AV)
  | sl (clip:Bool) (sz:Nat) (xs:List (List AV))
  | own (id len:Nat)
  | win (id off sz len:Nat)
  | mp (id:Nat)
  | fn (f:Fn) (cap:List AV)
  | iface (t:TypeId) (v:AV)
  | agg (cs:List AV)
  | tup (vs:List AV)
instance:Inhabited AV:=⟨.any⟩
def cellOf (h:Array Obj) (b o:Nat):Option Value :=
  match h[b]? with
  | some (.cells c _ _)=>c[o]?
  | _=>none
structure Ctx where
  ρ:Nat→Option (Option Nat × Nat)
  imm:Nat→Prop
  h:Array Obj
inductive VRel (c:Ctx):AV→Value→Prop
  | any (v:Value):VRel c .any v
  | val (v:Value):VRel c (.val v) v
  | ptr {id i o b sz:Nat} (h:c.ρ id=some (some b,sz)):VRel c (.ptr id i o) (.pointer (some ⟨b,i * sz+o,none⟩))
  | ref {cs:List AV} {b o:Nat} (f:Nat→Value) (hi:c.imm b) (hc:∀ j,j < cs.length→cellOf c.h b (o+j)=some (f j)∧(f j).oneCell'=true)
      (hr:∀ j x,cs[j]?=some x→VRel c x (f j)):VRel c (.ref cs) (.pointer (some ⟨b,o,none⟩))
  | sl {clip:Bool} {sz:Nat} {xs:List (List AV)} {a:Option Addr} {len cap:Nat} (f:Nat→Nat→Value) (hl:len=xs.length) (hn:a=none→xs=[]∧cap=0) (hcap:len≤cap) (hclip:clip=true→cap=len)
      (hc:∀ i el,xs[i]?=some el→el.length=sz∧∃ b o,a=some ⟨b,o,none⟩∧c.imm b∧∀ j,j < sz→cellOf c.h b (o+i * sz+j)=some (f i j)∧(f i j).oneCell'=true)
      (hr:∀ i el j x,xs[i]?=some el→el[j]?=some x→VRel c x (f i j)):VRel c (.sl clip sz xs) (.slice a len cap)
  | own {id len b sz cap:Nat} (h:c.ρ id=some (some b,sz)) (hl:len≤cap) (hb:∃ cs t f,c.h[b]?=some (.cells cs t f)∧cap * sz≤cs.size) :
      VRel c (.own id len) (.slice (some ⟨b,0,none⟩) len cap)
  | ownNil {id:Nat} {a:Option Addr} {p:Option Nat × Nat} (h:c.ρ id=some p):VRel c (.own id 0) (.slice a 0 0)
  | win {id off sz len b s cap:Nat} (h:c.ρ id=some (some b,s)) (hl:len≤cap):VRel c (.win id off sz len) (.slice (some ⟨b,off * sz,none⟩) len cap)
  | winNil {id off sz cap:Nat} {a:Option Addr} {p:Option Nat × Nat} (h:c.ρ id=some p):VRel c (.win id off sz 0) (.slice a 0 cap)
  | mp {id b sz:Nat} (h:c.ρ id=some (some b,sz)):VRel c (.mp id) (.map (some b))
  | fn {f:Fn} {cap:List AV} {vs:Array Value} (hl:cap.length=vs.size) (hr:∀ (i:Nat) (x:AV) (v:Value),cap[i]?=some x→vs[i]?=some v→VRel c x v):VRel c (.fn f cap) (.func f #[] vs)
  | iface {t:TypeId} {x:AV} {v:Value} (h:VRel c x v):VRel c (.iface t x) (.iface t v)
  | agg {cs:List AV} {vs:Array Value} (hl:cs.length=vs.size) (h1:∀ (i:Nat) (v:Value),vs[i]?=some v→v.oneCell'=true) (hr:∀ (i:Nat) (x:AV) (v:Value),cs[i]?=some x→vs[i]?=some v→VRel c x v):VRel c (.agg cs) (.agg vs)
  | tup {cs:List AV} {vs:Array Value} (hl:cs.length=vs.size) (hr:∀ (i:Nat) (x:AV) (v:Value),cs[i]?=some x→vs[i]?=some v→VRel c x v):VRel c (.tup cs) (.tuple vs)
structure CLe (c d:Ctx):Prop where
  ρ:∀ id p,c.ρ id=some p→d.ρ id=some p
  imm:∀ b,c.imm b→d.imm b∧d.h[b]?=c.h[b]?
  sz:∀ (b:Nat) cs t f,c.h[b]?=some (.cells cs t f)→∃ cs' f',d.h[b]?=some (.cells cs' t f')∧cs'.size=cs.size
theorem CLe.refl (c:Ctx):CLe c c:=⟨fun _ _ h=>h,fun _ h=>⟨h,rfl⟩,fun _ cs _ f h=>⟨cs,f,h,rfl⟩⟩
theorem CLe.trans {c d e:Ctx} (h:CLe c d) (k:CLe d e):CLe c e :=
  ⟨fun id p hp=>k.ρ id p (h.ρ id p hp),fun b hb=>⟨(k.imm b (h.imm b hb).1).1,(k.imm b (h.imm b hb).1).2.trans (h.imm b hb).2⟩,
   fun b cs t f hb=>by
    obtain ⟨cs',f',h1,h2⟩:=h.sz b cs t f hb
    obtain ⟨cs'',f'',h3,h4⟩:=k.sz b cs' t f' h1
    exact ⟨cs'',f'',h3,h4.trans h2⟩⟩
theorem cellOf_congr {h h':Array Obj} {b:Nat} (e:h'[b]?=h[b]?) (o:Nat):cellOf h' b o=cellOf h b o:=by
  simp [cellOf,e]
theorem VRel.mono {c d:Ctx} (hle:CLe c d) {x:AV} {v:Value} (h:VRel c x v):VRel d x v:=by
  induction h with
  | any v=>exact .any v
  | val v=>exact .val v
  | ptr h=>exact .ptr (hle.ρ _ _ h)
  | ref f hi hc _ ih =>
    exact .ref f (hle.imm _ hi).1 (fun j hj=>by rw [cellOf_congr (hle.imm _ hi).2];exact hc j hj) ih
  | sl f hl hn hcap hclip hc _ ih =>
    refine .sl f hl hn hcap hclip (fun i el he=>?_) ih
    obtain ⟨h1,b,o,h2,h3,h4⟩:=hc i el he
    exact ⟨h1,b,o,h2,(hle.imm _ h3).1,fun j hj=>by rw [cellOf_congr (hle.imm _ h3).2];exact h4 j hj⟩
  | own h hl hb =>
    obtain ⟨cs,t,f,h1,h2⟩:=hb
    obtain ⟨cs',f',h3,h4⟩:=hle.sz _ _ _ _ h1
    exact .own (hle.ρ _ _ h) hl ⟨cs',t,f',h3,by omega⟩
  | ownNil h=>exact .ownNil (hle.ρ _ _ h)
  | win h hl=>exact .win (hle.ρ _ _ h) hl
  | winNil h=>exact .winNil (hle.ρ _ _ h)
  | mp h=>exact .mp (hle.ρ _ _ h)
  | fn hl _ ih=>exact .fn hl ih
  | iface _ ih=>exact .iface ih
  | agg hl h1 _ ih=>exact .agg hl h1 ih
  | tup hl _ ih=>exact .tup hl ih
theorem nbeq_ne {a b:Nat} (h:a ≠ b):Nat.beq a b=false:=by
  cases hb:Nat.beq a b
  · rfl
  · exact absurd (Nat.eq_of_beq_eq_true hb) h
theorem VRel.own_inv {c:Ctx} {id len v} (h:VRel c (.own id len) v):(∃ b sz cap,v=.slice (some ⟨b,0,none⟩) len cap∧c.ρ id=some (some b,sz)∧len≤cap∧∃ cs t f,c.h[b]?=some (.cells cs t f)∧cap * sz≤cs.size)∨(len=0∧∃ a,v=.slice a 0 0∧∃ p,c.ρ id=some p):=by
  cases h with
  | own h hl hb=>exact .inl ⟨_,_,_,rfl,h,hl,hb⟩
  | ownNil h=>exact .inr ⟨rfl,_,rfl,_,h⟩
theorem VRel.win_inv {c:Ctx} {id off sz len v} (h:VRel c (.win id off sz len) v):(∃ b s cap,v=.slice (some ⟨b,off * sz,none⟩) len cap∧c.ρ id=some (some b,s)∧len≤cap)∨(len=0∧∃ a cap,v=.slice a 0 cap):=by
  cases h with
  | win h hl=>exact .inl ⟨_,_,_,rfl,h,hl⟩
  | winNil h=>exact .inr ⟨rfl,_,_,rfl⟩
theorem VRel.val_inv {c:Ctx} {u v} (h:VRel c (.val u) v):v=u:=by cases h;rfl
inductive MK where
  | i (k:IntKind) (n:Int)
  | s (b:ByteArray)
  deriving DecidableEq
def MK.val:MK→Value
  | .i k n=>.int k n
  | .s b=>.string b
inductive AObj where
  | cells (sz:Nat) (els:List (List AV))
  | map (es:List (MK × AV))
  | raw (o:Obj)
structure AHeap where
  next:Nat
  get:Nat→Option AObj
def AHeap.new (σ:AHeap) (o:AObj):AHeap:=⟨σ.next+1,fun i=>bif Nat.beq i σ.next then some o else σ.get i⟩
def AHeap.set (σ:AHeap) (id:Nat) (o:AObj):AHeap:=⟨σ.next,fun i=>bif Nat.beq i id then some o else σ.get i⟩
def AHeap.del (σ:AHeap) (id:Nat):AHeap:=⟨σ.next,fun i=>bif Nat.beq i id then none else σ.get i⟩
def AHeap.empty:AHeap:=⟨0,fun _=>none⟩
inductive ORel (c:Ctx):AObj→Option Nat × Nat→Prop
  | cells {els:List (List AV)} {b sz:Nat} (cs:Array Value) (t:TypeId) (hb:c.h[b]?=some (.cells cs t (0,0))) (hsz:els.length * sz≤cs.size)
      (he:∀ (i:Nat) (el:List AV),els[i]?=some el→el.length=sz) (hone:∀ (j:Nat) (v:Value),cs[j]?=some v→v.oneCell'=true)
      (hr:∀ (i:Nat) (el:List AV) (j:Nat) (x:AV),els[i]?=some el→el[j]?=some x→∀ v,cs[i * sz+j]?=some v→VRel c x v):ORel c (.cells sz els) (some b,sz)
  | none {sz:Nat}:ORel c (.cells sz []) (none,sz)
  | map {es:List (MK × AV)} {b sz:Nat} (ents:Array MapEntry) (clock:Nat) (hb:c.h[b]?=some (.map ents clock)) (hl:ents.size=es.length)
      (hr:∀ (i:Nat) (k:MK) (x:AV) (e:MapEntry),es[i]?=some (k,x)→ents[i]?=some e→e.key=k.val∧VRel c x e.val):ORel c (.map es) (some b,sz)
  | raw {o:Obj} {b sz:Nat} (hb:c.h[b]?=some o) (hn:∀ cs t f,o ≠ .cells cs t f):ORel c (.raw o) (some b,sz)
def Imm (ρ:Nat→Option (Option Nat × Nat)) (σ:AHeap) (w:World) (b:Nat):Prop :=
  b < w.heap.size∧∀ id o sz,σ.get id=some o→ρ id ≠ some (some b,sz)
def ctx (ρ:Nat→Option (Option Nat × Nat)) (σ:AHeap) (w:World):Ctx:=⟨ρ,Imm ρ σ w,w.heap⟩
structure Sim (ρ:Nat→Option (Option Nat × Nat)) (σ:AHeap) (w:World):Prop where
  fresh:∀ id,σ.next≤id→ρ id=none
  obj:∀ id o,σ.get id=some o→∃ p,ρ id=some p∧ORel (ctx ρ σ w) o p
  inj:∀ i j oi oj b s t,σ.get i=some oi→σ.get j=some oj→ρ i=some (some b,s)→ρ j=some (some b,t)→i=j
structure Ext (ρ:Nat→Option (Option Nat × Nat)) (σ:AHeap) (w:World) (ρ':Nat→Option (Option Nat × Nat)) (σ':AHeap) (w':World):Prop where
  le:CLe (ctx ρ σ w) (ctx ρ' σ' w')
  next:σ.next≤σ'.next
  os:w'.os=w.os
  tape:w'.tape=w.tape
  output:w'.output=w.output
  size:w.heap.size≤w'.heap.size
theorem Ext.refl (ρ σ w):Ext ρ σ w ρ σ w:=⟨CLe.refl _,Nat.le_refl _,rfl,rfl,rfl,Nat.le_refl _⟩
theorem Ext.trans {ρ σ w ρ₁ σ₁ w₁ ρ₂ σ₂ w₂} (h:Ext ρ σ w ρ₁ σ₁ w₁) (k:Ext ρ₁ σ₁ w₁ ρ₂ σ₂ w₂):Ext ρ σ w ρ₂ σ₂ w₂ :=
  ⟨h.le.trans k.le,Nat.le_trans h.next k.next,k.os.trans h.os,k.tape.trans h.tape,k.output.trans h.output,Nat.le_trans h.size k.size⟩
theorem ORel.mono {c d:Ctx} (hle:CLe c d) {o:AObj} {p:Option Nat × Nat} (h:ORel c o p) (hb:∀ b,p.1=some b→d.h[b]?=c.h[b]?):ORel d o p:=by
  cases h with
  | cells cs t hb' hsz he hone hr=>exact .cells cs t (by rw [hb _ rfl];exact hb') hsz he hone (fun i el j x h1 h2 v hv=>(hr i el j x h1 h2 v hv).mono hle)
  | none=>exact .none
  | map ents clock hb' hl hr=>exact .map ents clock (by rw [hb _ rfl];exact hb') hl (fun i k x e h1 h2=>⟨(hr i k x e h1 h2).1,(hr i k x e h1 h2).2.mono hle⟩)
  | raw hb' hn=>exact .raw (by rw [hb _ rfl];exact hb') hn
theorem ORel.cells_inv {c:Ctx} {sz sz' b:Nat} {els:List (List AV)} (h:ORel c (.cells sz els) (some b,sz')):sz=sz'∧∃ cs t,c.h[b]?=some (.cells cs t (0,0))∧els.length * sz≤cs.size ∧
    (∀ (i:Nat) el,els[i]?=some el→el.length=sz)∧(∀ (j:Nat) v,cs[j]?=some v→v.oneCell'=true)∧∀ (i:Nat) (el:List AV) (j:Nat) (x:AV),els[i]?=some el→el[j]?=some x→∀ v,cs[i * sz+j]?=some v→VRel c x v:=by
  cases h with
  | cells cs t hb hsz he hone hr=>exact ⟨rfl,cs,t,hb,hsz,he,hone,hr⟩
theorem ORel.lt {c:Ctx} {o:AObj} {b sz:Nat} (h:ORel c o (some b,sz)):b < c.h.size:=by
  cases h with
  | cells cs t hb'=>exact (Array.getElem?_eq_some_iff.1 hb').1
  | map ents clock hb'=>exact (Array.getElem?_eq_some_iff.1 hb').1
  | raw hb' hn=>exact (Array.getElem?_eq_some_iff.1 hb').1
def upρ (ρ:Nat→Option (Option Nat × Nat)) (id:Nat) (p:Option Nat × Nat):Nat→Option (Option Nat × Nat):=fun i=>if i=id then some p else ρ i
@[simp] theorem upρ_same (ρ id p):upρ ρ id p id=some p:=by simp [upρ]
theorem upρ_ne {ρ id p i} (h:i ≠ id):upρ ρ id p i=ρ i:=by simp [upρ,h]
@[simp] theorem AHeap.new_same (σ:AHeap) (o:AObj):(σ.new o).get σ.next=some o:=by simp [AHeap.new]
theorem AHeap.new_ne {σ:AHeap} {o:AObj} {i:Nat} (h:i ≠ σ.next):(σ.new o).get i=σ.get i:=by
  have:Nat.beq i σ.next=false:=nbeq_ne h
  simp [AHeap.new,this]
@[simp] theorem AHeap.new_next (σ:AHeap) (o:AObj):(σ.new o).next=σ.next+1:=rfl
@[simp] theorem AHeap.set_same (σ:AHeap) (id:Nat) (o:AObj):(σ.set id o).get id=some o:=by simp [AHeap.set]
theorem AHeap.set_ne {σ:AHeap} {id:Nat} {o:AObj} {i:Nat} (h:i ≠ id):(σ.set id o).get i=σ.get i:=by
  have:Nat.beq i id=false:=nbeq_ne h
  simp [AHeap.set,this]
@[simp] theorem AHeap.set_next (σ:AHeap) (id:Nat) (o:AObj):(σ.set id o).next=σ.next:=rfl
@[simp] theorem AHeap.del_same (σ:AHeap) (id:Nat):(σ.del id).get id=none:=by simp [AHeap.del]
theorem AHeap.del_ne {σ:AHeap} {id i:Nat} (h:i ≠ id):(σ.del id).get i=σ.get i:=by
  have:Nat.beq i id=false:=nbeq_ne h
  simp [AHeap.del,this]
@[simp] theorem AHeap.del_next (σ:AHeap) (id:Nat):(σ.del id).next=σ.next:=rfl
theorem Sim.lt {ρ σ w} (h:Sim ρ σ w) {id o} (ho:σ.get id=some o):id < σ.next:=by
  rcases Nat.lt_or_ge id σ.next with h1 | h1
  · exact h1
  · obtain ⟨p,hp,_⟩:=h.obj id o ho
    rw [h.fresh id h1] at hp;cases hp
theorem Sim.blk {ρ σ w} (h:Sim ρ σ w) {id o b sz} (ho:σ.get id=some o) (hp:ρ id=some (some b,sz)):b < w.heap.size:=by
  obtain ⟨p,hp',hr⟩:=h.obj id o ho
  rw [hp] at hp';cases hp'
  exact hr.lt
theorem Sim.alloc {ρ σ w} (hs:Sim ρ σ w) (o:Obj) (ao:AObj) (sz:Nat)
    (hr:∀ d:Ctx,CLe (ctx ρ σ w) d→d.h[w.heap.size]?=some o→ORel d ao (some w.heap.size,sz)) :
    Sim (upρ ρ σ.next (some w.heap.size,sz)) (σ.new ao) (w.alloc o)∧Ext ρ σ w (upρ ρ σ.next (some w.heap.size,sz)) (σ.new ao) (w.alloc o):=by
  have hsz:(w.alloc o).heap.size=w.heap.size+1:=by show (w.heap.push o).size=_;simp
  have hold:∀ b:Nat,b < w.heap.size→(w.alloc o).heap[b]?=w.heap[b]?:=fun b hb=>Go.RowKit.Below.heap_alloc w o b hb
  have hnew:(w.alloc o).heap[w.heap.size]?=some o:=by show (w.heap.push o)[w.heap.size]?=_;simp
  have hρ:∀ id p,ρ id=some p→upρ ρ σ.next (some w.heap.size,sz) id=some p:=by
    intro id p hp
    rw [upρ_ne]
    · exact hp
    · intro e;subst e;rw [hs.fresh _ (Nat.le_refl _)] at hp;cases hp
  have hle:CLe (ctx ρ σ w) (ctx (upρ ρ σ.next (some w.heap.size,sz)) (σ.new ao) (w.alloc o)):=by
    refine ⟨hρ,fun b hb=>⟨⟨by rw [hsz];exact Nat.lt_succ_of_lt hb.1,fun id o' s ho' hp=>?_⟩,hold b hb.1⟩,fun b cs t f hb=>?_⟩
    · by_cases hid:id=σ.next
      · subst hid
        rw [upρ_same] at hp
        have:=hb.1
        simp only [Option.some.injEq,Prod.mk.injEq] at hp
        omega
      · rw [upρ_ne hid] at hp
        rw [AHeap.new_ne hid] at ho'
        exact hb.2 id o' s ho' hp
    · have:b < w.heap.size:=(Array.getElem?_eq_some_iff.1 hb).1
      exact ⟨cs,f,by rw [show (ctx (upρ ρ σ.next (some w.heap.size,sz)) (σ.new ao) (w.alloc o)).h=(w.alloc o).heap from rfl,hold b this];exact hb,rfl⟩
  refine ⟨⟨fun id hid=>?_,fun id o' ho'=>?_,fun i j oi oj b s t hi hj pi pj=>?_⟩,⟨hle,Nat.le_succ _,rfl,rfl,rfl,by rw [hsz];exact Nat.le_succ _⟩⟩
  · have:id ≠ σ.next:=by intro e;subst e;simp at hid;omega
    rw [upρ_ne this];exact hs.fresh id (by simp at hid;omega)
  · by_cases hid:id=σ.next
    · subst hid
      rw [AHeap.new_same] at ho'
      cases ho'
      exact ⟨_,upρ_same _ _ _,hr _ hle hnew⟩
    · rw [AHeap.new_ne hid] at ho'
      obtain ⟨p,hp,hor⟩:=hs.obj id o' ho'
      refine ⟨p,hρ id p hp,hor.mono hle fun b hb=>hold b ?_⟩
      obtain ⟨pb,psz⟩:=p
      simp at hb;subst hb
      exact hor.lt
  · by_cases ei:i=σ.next <;> by_cases ej:j=σ.next
    · rw [ei,ej]
    · subst ei
      rw [upρ_same] at pi;cases pi
      rw [upρ_ne ej] at pj
      rw [AHeap.new_ne ej] at hj
      exact absurd (hs.blk hj pj) (Nat.lt_irrefl _)
    · subst ej
      rw [upρ_same] at pj;cases pj
      rw [upρ_ne ei] at pi
      rw [AHeap.new_ne ei] at hi
      exact absurd (hs.blk hi pi) (Nat.lt_irrefl _)
    · rw [upρ_ne ei] at pi;rw [upρ_ne ej] at pj
      rw [AHeap.new_ne ei] at hi;rw [AHeap.new_ne ej] at hj
      exact hs.inj i j oi oj b s t hi hj pi pj
theorem Sim.allocNone {ρ σ w} (hs:Sim ρ σ w) (sz:Nat) :
    Sim (upρ ρ σ.next (none,sz)) (σ.new (.cells sz [])) w∧Ext ρ σ w (upρ ρ σ.next (none,sz)) (σ.new (.cells sz [])) w:=by
  have hρ:∀ id p,ρ id=some p→upρ ρ σ.next (none,sz) id=some p:=by
    intro id p hp
    rw [upρ_ne]
    · exact hp
    · intro e;subst e;rw [hs.fresh _ (Nat.le_refl _)] at hp;cases hp
  have hle:CLe (ctx ρ σ w) (ctx (upρ ρ σ.next (none,sz)) (σ.new (.cells sz [])) w):=by
    refine ⟨hρ,fun b hb=>⟨⟨hb.1,fun id o' s ho' hp=>?_⟩,rfl⟩,fun b cs t f hb=>⟨cs,f,hb,rfl⟩⟩
    by_cases hid:id=σ.next
    · subst hid;rw [upρ_same] at hp;simp at hp
    · rw [upρ_ne hid] at hp
      rw [AHeap.new_ne hid] at ho'
      exact hb.2 id o' s ho' hp
  refine ⟨⟨fun id hid=>?_,fun id o' ho'=>?_,fun i j oi oj b s t hi hj pi pj=>?_⟩,⟨hle,Nat.le_succ _,rfl,rfl,rfl,Nat.le_refl _⟩⟩
  · have:id ≠ σ.next:=by intro e;subst e;simp at hid;omega
    rw [upρ_ne this];exact hs.fresh id (by simp at hid;omega)
  · by_cases hid:id=σ.next
    · subst hid
      rw [AHeap.new_same] at ho'
      cases ho'
      exact ⟨_,upρ_same _ _ _,.none⟩
    · rw [AHeap.new_ne hid] at ho'
      obtain ⟨p,hp,hor⟩:=hs.obj id o' ho'
      exact ⟨p,hρ id p hp,hor.mono hle fun b hb=>rfl⟩
  · by_cases ei:i=σ.next
    · subst ei;rw [upρ_same] at pi;simp at pi
    · by_cases ej:j=σ.next
      · subst ej;rw [upρ_same] at pj;simp at pj
      · rw [upρ_ne ei] at pi;rw [upρ_ne ej] at pj
        rw [AHeap.new_ne ei] at hi;rw [AHeap.new_ne ej] at hj
        exact hs.inj i j oi oj b s t hi hj pi pj
theorem Sim.write {ρ σ w} (hs:Sim ρ σ w) {id b sz:Nat} {ao:AObj} (hid:σ.get id=some ao) (hp:ρ id=some (some b,sz)) (w':World) (ao':AObj)
    (hother:∀ k,k ≠ b→w'.heap[k]?=w.heap[k]?) (hsize:w'.heap.size=w.heap.size)
    (hcells:∀ cs t f,w.heap[b]?=some (.cells cs t f)→∃ cs' f',w'.heap[b]?=some (.cells cs' t f')∧cs'.size=cs.size)
    (hos:w'.os=w.os) (htape:w'.tape=w.tape) (hout:w'.output=w.output) (hdr:w.drawn≤w'.drawn)
    (hr:∀ d:Ctx,CLe (ctx ρ σ w) d→d.h=w'.heap→ORel d ao' (some b,sz)) :
    Sim ρ (σ.set id ao') w'∧Ext ρ σ w ρ (σ.set id ao') w':=by
  have hle:CLe (ctx ρ σ w) (ctx ρ (σ.set id ao') w'):=by
    refine ⟨fun _ _ h=>h,fun k hk=>⟨⟨by rw [hsize];exact hk.1,fun i o s ho hpi=>?_⟩,?_⟩,fun k cs t f hk=>?_⟩
    · by_cases e:i=id
      · subst e;exact hk.2 i ao s hid hpi
      · rw [AHeap.set_ne e] at ho;exact hk.2 i o s ho hpi
    · have:k ≠ b:=by intro e;subst e;exact hk.2 id ao sz hid hp
      exact hother k this
    · by_cases e:k=b
      · subst e;exact hcells cs t f hk
      · exact ⟨cs,f,by rw [show (ctx ρ (σ.set id ao') w').h=w'.heap from rfl,hother k e];exact hk,rfl⟩
  refine ⟨⟨fun i hi=>hs.fresh i hi,fun i o ho=>?_,fun i j oi oj c s t hi hj pi pj=>?_⟩,⟨hle,Nat.le_refl _,hos,htape,hout,Nat.le_of_eq hsize.symm⟩⟩
  · by_cases e:i=id
    · subst e
      rw [AHeap.set_same] at ho;cases ho
      exact ⟨_,hp,hr _ hle rfl⟩
    · rw [AHeap.set_ne e] at ho
      obtain ⟨p,hpi,hor⟩:=hs.obj i o ho
      refine ⟨p,hpi,hor.mono hle fun c hc=>hother c ?_⟩
      intro ec;subst ec
      obtain ⟨pb,ps⟩:=p
      simp at hc;subst hc
      exact e (hs.inj i id o ao _ _ _ ho hid hpi hp)
  · have gi:∃ oi',σ.get i=some oi':=by
      by_cases e:i=id
      · subst e;exact ⟨_,hid⟩
      · rw [AHeap.set_ne e] at hi;exact ⟨_,hi⟩
    have gj:∃ oj',σ.get j=some oj':=by
      by_cases e:j=id
      · subst e;exact ⟨_,hid⟩
      · rw [AHeap.set_ne e] at hj;exact ⟨_,hj⟩
    obtain ⟨oi',gi⟩:=gi
    obtain ⟨oj',gj⟩:=gj
    exact hs.inj i j oi' oj' c s t gi gj pi pj
theorem Sim.del {ρ σ w} (hs:Sim ρ σ w) (id:Nat):Sim ρ (σ.del id) w∧Ext ρ σ w ρ (σ.del id) w:=by
  have hget:∀ i o,(σ.del id).get i=some o→σ.get i=some o:=by
    intro i o h
    by_cases e:i=id
    · subst e;simp at h
    · rwa [AHeap.del_ne e] at h
  have hle:CLe (ctx ρ σ w) (ctx ρ (σ.del id) w) :=
    ⟨fun _ _ h=>h,fun b hb=>⟨⟨hb.1,fun i o s ho=>hb.2 i o s (hget i o ho)⟩,rfl⟩,fun b cs t f hb=>⟨cs,f,hb,rfl⟩⟩
  exact ⟨⟨hs.fresh,fun i o ho=>let ⟨p,hp,hor⟩:=hs.obj i o (hget i o ho);⟨p,hp,hor.mono hle fun _ _=>rfl⟩,
    fun i j oi oj b s t hi hj=>hs.inj i j oi oj b s t (hget i oi hi) (hget j oj hj)⟩,⟨hle,Nat.le_refl _,rfl,rfl,rfl,Nat.le_refl _⟩⟩
theorem Sim.drawn {ρ σ w} (hs:Sim ρ σ w) (n:Nat) (hn:w.drawn≤n):Sim ρ σ { w with drawn:=n }∧Ext ρ σ w ρ σ { w with drawn:=n } :=
  ⟨⟨hs.fresh,hs.obj,hs.inj⟩,⟨CLe.refl _,Nat.le_refl _,rfl,rfl,rfl,Nat.le_refl _⟩⟩
end Go.Abs
namespace Go.Abs
open Go
abbrev AFrame:=List (Nat × AV)
def look:AFrame→Nat→AV
  | [],_=>.any
  | (k,v) :: r,j=>bif Nat.beq j k then v else look r j
def ev (fr:AFrame):Operand→AV
  | .tmp t=>look fr t
  | .const v=>.val v
  | .global g=>.val (.pointer (some ⟨g,0,none⟩))
  | .func f=>.fn (.func f) []
def put (fr:AFrame):Option Nat→AV→AFrame
  | some d,v=>(d,v) :: fr
  | none,_=>fr
def prune (keep:List Nat) (fr:AFrame):AFrame:=keep.map fun k=>(k,look fr k)
def FRel (c:Ctx) (fr:AFrame) (tmps:Array Value):Prop:=∀ k,VRel c (look fr k) (tmps.getD k undef)
theorem FRel.mono {c d:Ctx} (hle:CLe c d) {fr tmps} (h:FRel c fr tmps):FRel d fr tmps:=fun k=>(h k).mono hle
theorem look_cons (k v r j):look ((k,v) :: r) j=if j=k then v else look r j:=by
  by_cases h:j=k
  · subst h;simp [look]
  · simp [look,nbeq_ne h,h]
theorem FRel.eval {c fr} {a:Act} (h:FRel c fr a.tmps) (x:Operand):VRel c (ev fr x) (a.eval x):=by
  cases x with
  | tmp t=>exact h t
  | const v=>exact .val v
  | global g=>exact .val _
  | func f=>exact .fn rfl (by intro i x v hx;simp at hx)
theorem FRel.put {c fr} {a:Act} (h:FRel c fr a.tmps) {d:Option Nat} {x v} (hv:VRel c x v) (hd:∀ k,d=some k→k < a.tmps.size):FRel c (put fr d x) (a.put d v).tmps:=by
  cases d with
  | none=>exact h
  | some d =>
    intro k
    have hd:=hd d rfl
    simp only [Abs.put,Act.put,look_cons]
    by_cases e:k=d
    · subst e;simp [hd];exact hv
    · simp only [e,if_false]
      have:=h k
      rw [Array.getD_eq_getD_getElem?] at this ⊢
      rwa [Array.getElem?_setIfInBounds_ne (Ne.symm e)]
theorem look_prune (keep:List Nat) (fr:AFrame) (k:Nat):look (prune keep fr) k=look fr k∨look (prune keep fr) k=.any:=by
  induction keep with
  | nil=>right;rfl
  | cons a r ih =>
    have:look (prune (a :: r) fr) k=if k=a then look fr a else look (prune r fr) k:=look_cons a (look fr a) (prune r fr) k
    rw [this]
    by_cases e:k=a
    · subst e;simp
    · simp only [e,if_false];exact ih
theorem FRel.prune {c fr tmps} (h:FRel c fr tmps) (keep:List Nat):FRel c (prune keep fr) tmps:=by
  intro k
  rcases look_prune keep fr k with e | e <;> rw [e]
  · exact h k
  · exact .any _
def tinfo (P:Program) (t:TypeId):Option (Bool × Nat) :=
  match P.info? t,P.underlying t with
  | some i,some (.struct _)=>some (true,i.size)
  | some i,some (.array _ _)=>some (true,i.size)
  | some i,some _=>some (false,i.size)
  | _,_=>none
theorem tinfo_spec {P t g n} (h:tinfo P t=some (g,n)) (w:World):(sizeOf t).run P w=.ok n w∧(isAgg t).run P w=.ok g w:=by
  unfold tinfo at h
  split at h <;> rename_i hi hu
  · cases h;simp [sizeOf,isAgg,typeInfo,underlying,hi,hu]
  · cases h;simp [sizeOf,isAgg,typeInfo,underlying,hi,hu]
  · cases h
    rename_i i d hns hna
    simp only [sizeOf,isAgg,typeInfo,underlying,hi,hu,Sem.run_bind,run_program,Result.andThen_ok,Sem.run_pure,true_and]
    try (cases d <;> first | (simp;done) | simp_all)
  · cases h
theorem cell_eq (w:World) (b o:Nat):w.cell? ⟨b,o,none⟩=cellOf w.heap b o:=by
  unfold World.cell? cellOf
  cases w.heap[b]? with
  | none=>rfl
  | some x=>cases x <;> rfl
theorem add_lit (b o n:Nat):(⟨b,o,none⟩:Addr).add n=⟨b,o+n,none⟩:=by
  unfold Addr.add;split <;> simp_all
def getCells (g:Bool) (n:Nat) (cs:List AV):Option AV :=
  if g=true then (if n≤cs.length then some (.agg (cs.take n)) else none) else cs.head?
theorem sLoadVar {P t g n} (ht:tinfo P t=some (g,n)) {c:Ctx} {w:World} {b o:Nat} {cs:List AV} (f:Nat→Value)
    (hc:∀ j,j < cs.length→w.cell? ⟨b,o+j,none⟩=some (f j)∧(f j).oneCell'=true) (hr:∀ (j:Nat) x,cs[j]?=some x→VRel c x (f j)) {y} (hy:getCells g n cs=some y) :
    ∃ u,(loadVar t ⟨b,o,none⟩).run P w=.ok u w∧VRel c y u:=by
  obtain ⟨h1,h2⟩:=tinfo_spec ht w
  cases g with
  | false =>
    simp only [getCells,Bool.false_eq_true,if_false] at hy
    cases cs with
    | nil=>cases hy
    | cons x r =>
      simp at hy;subst hy
      refine ⟨f 0,?_,hr 0 x (by simp)⟩
      have:=(hc 0 (by simp)).1
      simp at this
      simp [loadVar,h2,this]
  | true =>
    simp only [getCells,if_true] at hy
    by_cases hn:n≤cs.length
    · simp only [hn,if_true,Option.some.injEq] at hy;subst hy
      refine ⟨.agg ((List.range n).map f).toArray,?_,?_⟩
      · have:=run_loadCells (P:=P) w ⟨b,o,none⟩ n f (fun j hj=>by rw [add_lit];exact (hc j (by omega)).1)
        simp [loadVar,h1,h2,this]
      · refine .agg (by simp;omega) ?_ ?_
        · intro i v hv
          simp only [List.getElem?_toArray,List.getElem?_map] at hv
          by_cases hi:i < n
          · simp [hi] at hv;subst hv;exact (hc i (by omega)).2
          · simp [hi] at hv
        · intro i x v hx hv
          simp only [List.getElem?_toArray,List.getElem?_map] at hv
          rw [List.getElem?_take] at hx
          by_cases hi:i < n
          · simp [hi] at hv hx;subst hv;exact hr i x hx
          · simp [hi] at hv
    · simp [hn] at hy
def elAt (σ:AHeap) (id i:Nat):Option (List AV) :=
  match σ.get id with
  | some (.cells _ els)=>els[i]?
  | _=>none
theorem Sim.cellsAt {ρ σ w} (hs:Sim ρ σ w) {id i b sz el} (he:elAt σ id i=some el) (hp:ρ id=some (some b,sz)) :
    el.length=sz∧∃ els cs t,σ.get id=some (.cells sz els)∧els[i]?=some el∧w.heap[b]?=some (.cells cs t (0,0))∧els.length * sz≤cs.size∧i * sz+sz≤cs.size ∧
      (∀ (j:Nat) v,cs[j]?=some v→v.oneCell'=true)∧∀ j x,el[j]?=some x→VRel (ctx ρ σ w) x (cs.getD (i * sz+j) undef):=by
  unfold elAt at he
  split at he
  · rename_i sz0 els hg
    obtain ⟨p,hp',hor⟩:=hs.obj id _ hg
    rw [hp] at hp';cases hp'
    cases hor with
    | cells cs t hb hsz hel hone hr =>
      have hl:=hel i el he
      have hi:i < els.length:=(List.getElem?_eq_some_iff.1 he).1
      have hm:i * sz+sz≤els.length * sz:=by rw [← Nat.succ_mul];exact Nat.mul_le_mul_right _ hi
      refine ⟨hl,els,cs,t,hg,he,hb,hsz,by omega,hone,fun j x hx=>?_⟩
      have hj:j < sz:=by rw [← hl];exact (List.getElem?_eq_some_iff.1 hx).1
      have hlt:i * sz+j < cs.size:=by omega
      have:=hr i el j x he hx cs[i * sz+j] (by simp [hlt])
      simpa [Array.getD_eq_getD_getElem?,hlt] using this
  · cases he
def aLoad (g:Bool) (n:Nat) (x:AV) (σ:AHeap):Option AV :=
  match x with
  | .ptr id i o=>(elAt σ id i).bind fun el=>getCells g n (el.drop o)
  | .ref cs=>getCells g n cs
  | _=>none
theorem sLoad {ρ σ w} (hs:Sim ρ σ w) {P t g n} (ht:tinfo P t=some (g,n)) {x v} (hv:VRel (ctx ρ σ w) x v) {y} (hy:aLoad g n x σ=some y) :
    ∃ u,(Instr.loadAt t v).run P w=.ok u w∧VRel (ctx ρ σ w) y u:=by
  unfold aLoad at hy
  split at hy
  · rename_i id i o
    cases hv with
    | ptr hp =>
      rename_i b sz
      cases he:elAt σ id i with
      | none=>rw [he] at hy;cases hy
      | some el =>
        rw [he] at hy
        simp only [Option.bind_some] at hy
        obtain ⟨hl,els,cs,t',_,_,hb,_,hsz,hone,hr⟩:=hs.cellsAt he hp
        have:=sLoadVar (w:=w) (b:=b) (o:=i * sz+o) ht (cs:=el.drop o) (c:=ctx ρ σ w) (fun j=>cs.getD (i * sz+(o+j)) undef) (fun j hj=>?_) (fun j x hx=>?_) hy
        · obtain ⟨u,hu,hrel⟩:=this
          exact ⟨u,by simp [Instr.loadAt,Instr.sureAddr,hu],hrel⟩
        · simp at hj
          have hlt:i * sz+(o+j) < cs.size:=by omega
          rw [cell_eq,cellOf,hb,Nat.add_assoc]
          simp only [hlt,Array.getElem?_eq_getElem,Array.getD_eq_getD_getElem?,Option.getD_some,true_and]
          exact hone _ _ (Array.getElem?_eq_getElem hlt)
        · rw [List.getElem?_drop] at hx
          exact hr _ _ hx
  · rename_i cs
    cases hv with
    | ref f hi hc hr =>
      rename_i b o
      obtain ⟨u,hu,hrel⟩:=sLoadVar (w:=w) (b:=b) (o:=o) ht f (fun j hj=>by rw [cell_eq];exact hc j hj) hr hy
      exact ⟨u,by simp [Instr.loadAt,Instr.sureAddr,hu],hrel⟩
  · cases hy
def acells:AV→Option (List AV)
  | .any=>none
  | .val v=>if v.oneCell'=true then some [.val v] else none
  | .agg cs=>some cs
  | .tup _=>none
  | x=>some [x]
theorem cells_one {v:Value} (h:v.oneCell'=true):v.cells=#[v]:=by
  cases v <;> simp_all [Value.cells,Value.oneCell']
theorem sCells {c x v cs} (hv:VRel c x v) (hc:acells x=some cs) :
    v.cells.size=cs.length∧(∀ (j:Nat) u,v.cells[j]?=some u→u.oneCell'=true)∧∀ (j:Nat) y u,cs[j]?=some y→v.cells[j]?=some u→VRel c y u:=by
  have one:v.oneCell'=true→cs=[x]→v.cells.size=cs.length∧(∀ (j:Nat) u,v.cells[j]?=some u→u.oneCell'=true)∧∀ (j:Nat) y u,cs[j]?=some y→v.cells[j]?=some u→VRel c y u:=by
    intro h1 h2
    subst h2
    rw [cells_one h1]
    refine ⟨by simp,fun j u hu=>?_,fun j y u hy hu=>?_⟩
    · cases j with
      | zero=>simp at hu;subst hu;exact h1
      | succ j=>simp at hu
    · cases j with
      | zero=>simp at hu hy;subst hu;subst hy;exact hv
      | succ j=>simp at hu
  cases hv with
  | any=>cases hc
  | val =>
    simp only [acells] at hc
    split at hc
    · rename_i h1;cases hc;exact one h1 rfl
    · cases hc
  | agg hl h1 hr=>cases hc;exact ⟨hl.symm,h1,hr⟩
  | tup hl hr=>cases hc
  | ptr h=>cases hc;exact one rfl rfl
  | ref f hi hcc hr=>cases hc;exact one rfl rfl
  | sl f hl hn hcap hclip hcc hr=>cases hc;exact one rfl rfl
  | own h hl hb=>cases hc;exact one rfl rfl
  | ownNil h=>cases hc;exact one rfl rfl
  | win h hl=>cases hc;exact one rfl rfl
  | winNil h=>cases hc;exact one rfl rfl
  | mp h=>cases hc;exact one rfl rfl
  | fn hl hr=>cases hc;exact one rfl rfl
  | iface h=>cases hc;exact one rfl rfl
theorem ORel.ofCells {c:Ctx} {b:Nat} {arr:Array Value} {t:TypeId} {cs:List AV} (hb:c.h[b]?=some (.cells arr t (0,0))) (hsz:arr.size=cs.length)
    (hone:∀ (j:Nat) v,arr[j]?=some v→v.oneCell'=true) (hr:∀ (j:Nat) y u,cs[j]?=some y→arr[j]?=some u→VRel c y u):ORel c (.cells cs.length [cs]) (some b,cs.length):=by
  refine .cells arr t hb (by simp [hsz]) ?_ hone ?_
  · intro i el he
    cases i with
    | zero=>simp at he;subst he;rfl
    | succ i=>simp at he
  · intro i el j x he hx v hv
    cases i with
    | zero=>simp at he;subst he;exact hr j x v hx (by simpa using hv)
    | succ i=>simp at he
theorem sBox {ρ σ w} (hs:Sim ρ σ w) {P} (t:TypeId) {x v cs} (hv:VRel (ctx ρ σ w) x v) (hc:acells x=some cs) :
    ∃ u w' ρ',(Instr.box t v).run P w=.ok u w'∧VRel (ctx ρ' (σ.new (.cells cs.length [cs])) w') (.ptr σ.next 0 0) u∧Sim ρ' (σ.new (.cells cs.length [cs])) w'∧Ext ρ σ w ρ' (σ.new (.cells cs.length [cs])) w':=by
  obtain ⟨h1,h2,h3⟩:=sCells hv hc
  have:=hs.alloc (.cells v.cells t) (.cells cs.length [cs]) cs.length (fun d hle hd=>ORel.ofCells hd h1 h2 (fun j y u hy hu=>(h3 j y u hy hu).mono hle))
  refine ⟨.pointer (some ⟨w.heap.size,0,none⟩),w.alloc (.cells v.cells t),_,by simp [Instr.box,newVar,newRow],?_,this.1,this.2⟩
  have:=VRel.ptr (c:=ctx (upρ ρ σ.next (some w.heap.size,cs.length)) (σ.new (.cells cs.length [cs])) (w.alloc (.cells v.cells t))) (id:=σ.next) (i:=0) (o:=0) (b:=w.heap.size) (sz:=cs.length) (by simp [ctx])
  simpa using this
def allOne (zs:Array Value):Bool:=zs.all (·.oneCell')
theorem allOne_spec {zs:Array Value} (h:allOne zs=true):∀ (j:Nat) v,zs[j]?=some v→v.oneCell'=true:=by
  intro j v hj
  have:=Array.all_eq_true.1 h
  obtain ⟨hlt,rfl⟩:=Array.getElem?_eq_some_iff.1 hj
  exact this j hlt
def zeroOf (P:Program) (t:TypeId):Option (List AV) :=
  match P.info? t with
  | some i=>match i.zero with
    | some z=>if allOne z.cells=true then some (z.cells.toList.map AV.val) else none
    | none=>none
  | none=>none
theorem zeroOf_spec {P t zs} (h:zeroOf P t=some zs) (w:World):∃ z,(zeroValue t).run P w=.ok z w∧z.cells.size=zs.length∧(∀ (j:Nat) v,z.cells[j]?=some v→v.oneCell'=true) ∧
    ∀ (c:Ctx) (j:Nat) y u,zs[j]?=some y→z.cells[j]?=some u→VRel c y u:=by
  unfold zeroOf at h
  split at h
  · rename_i i hi
    split at h
    · rename_i z hz
      split at h
      · rename_i h1
        cases h
        refine ⟨z,by simp [zeroValue,typeInfo,hi,hz],by simp,allOne_spec h1,fun c j y u hy hu=>?_⟩
        simp only [List.getElem?_map,Array.getElem?_toList,hu,Option.map_some,Option.some.injEq] at hy
        subst hy;exact .val _
      · cases h
    · cases h
  · cases h
theorem sAlloc {ρ σ w} (hs:Sim ρ σ w) {P t zs} (hz:zeroOf P t=some zs) :
    ∃ u w' ρ',(Instr.alloc t true (.tuple #[])).run P w=.ok u w'∧VRel (ctx ρ' (σ.new (.cells zs.length [zs])) w') (.ptr σ.next 0 0) u∧Sim ρ' (σ.new (.cells zs.length [zs])) w'∧Ext ρ σ w ρ' (σ.new (.cells zs.length [zs])) w':=by
  obtain ⟨z,hr,h1,h2,h3⟩:=zeroOf_spec hz w
  have:=hs.alloc (.cells z.cells t) (.cells zs.length [zs]) zs.length (fun d _ hd=>ORel.ofCells hd h1 h2 (fun j y u hy hu=>h3 d j y u hy hu))
  refine ⟨.pointer (some ⟨w.heap.size,0,none⟩),w.alloc (.cells z.cells t),_,by simp [Instr.alloc,hr,newVar,newRow],?_,this.1,this.2⟩
  have:=VRel.ptr (c:=ctx (upρ ρ σ.next (some w.heap.size,zs.length)) (σ.new (.cells zs.length [zs])) (w.alloc (.cells z.cells t))) (id:=σ.next) (i:=0) (o:=0) (b:=w.heap.size) (sz:=zs.length) (by simp [ctx])
  simpa using this
def aStore (n:Nat) (x v:AV) (σ:AHeap):Option AHeap :=
  match x with
  | .ptr id i o=>match σ.get id with
    | some (.cells sz els)=>match els[i]?,acells v with
      | some el,some vs=>if vs.length=n∧o+n≤el.length then some (σ.set id (.cells sz (els.set i (el.take o ++ vs ++ el.drop (o+n))))) else none
      | _,_=>none
    | _=>none
  | _=>none
theorem mul_split {i k sz j j':Nat} (hj:j < sz) (hj':j' < sz) (h:i * sz+j=k * sz+j'):i=k∧j=j':=by
  have hi:i=k:=by
    rcases Nat.lt_trichotomy i k with h1 | h1 | h1
    · have:=Nat.mul_le_mul_right sz (Nat.succ_le_of_lt h1)
      rw [Nat.succ_mul] at this;omega
    · exact h1
    · have:=Nat.mul_le_mul_right sz (Nat.succ_le_of_lt h1)
      rw [Nat.succ_mul] at this;omega
  subst hi
  exact ⟨rfl,by omega⟩
def splice (cs:Array Value) (o:Nat) (vs:Array Value):Array Value:=((cs.toList.take o) ++ vs.toList ++ cs.toList.drop (o+vs.size)).toArray
theorem splice_size {cs:Array Value} {o:Nat} {vs:Array Value} (h:o+vs.size≤cs.size):(splice cs o vs).size=cs.size:=by
  simp [splice];omega
theorem splice_get {cs:Array Value} {o:Nat} {vs:Array Value} (h:o+vs.size≤cs.size) (j:Nat) :
    (splice cs o vs)[j]?=if o≤j∧j < o+vs.size then vs[j - o]? else cs[j]?:=by
  simp only [splice,List.getElem?_toArray]
  have hlen:(cs.toList.take o ++ vs.toList).length=o+vs.size:=by simp;omega
  by_cases h1:j < o
  · rw [if_neg (by omega),List.append_assoc,List.getElem?_append_left (by simp;omega),List.getElem?_take]
    simp [h1]
  · by_cases h2:j < o+vs.size
    · rw [if_pos ⟨by omega,h2⟩,List.getElem?_append_left (by omega),List.getElem?_append_right (by simp;omega)]
      simp [Nat.min_eq_left (show o≤cs.size by omega)]
    · rw [if_neg (by omega),List.getElem?_append_right (by omega),hlen,List.getElem?_drop]
      simp only [Array.getElem?_toList]
      congr 1;omega
theorem run_storeVar {P:Program} {w:World} {t:TypeId} {n b o:Nat} {v:Value} {cs:Array Value} {e:TypeId} (hsz:(sizeOf t).run P w=.ok n w) (hn:v.cells.size=n)
    (hb:w.heap[b]?=some (.cells cs e (0,0))) (hfit:o+n≤cs.size) (hone:∀ (j:Nat) u,v.cells[j]?=some u→u.oneCell'=true) :
    ∃ w',(storeVar t ⟨b,o,none⟩ v).run P w=.ok () w'∧w'.heap[b]?=some (.cells (splice cs o v.cells) e (0,0))∧(∀ k,k ≠ b→w'.heap[k]?=w.heap[k]?)∧w'.heap.size=w.heap.size∧w'.os=w.os∧w'.tape=w.tape∧w'.output=w.output∧w.drawn≤w'.drawn:=by
  have h1:∀ u ∈ v.cells.toList,u.oneCell'=true:=by
    intro u hu
    obtain ⟨j,hj,rfl⟩:=List.getElem_of_mem hu
    exact hone j _ (by simp at hj;simp [hj])
  have hst:=run_storeCells_at P b o e v.cells.toList 0 cs w hb (by simp;omega) h1
  simp only [Nat.add_zero] at hst
  refine ⟨w.setRow b (splice cs o v.cells),by simp [storeVar,hsz,hn,hst,splice],?_,?_,?_,rfl,rfl,rfl,Nat.le_refl _⟩
  · exact setRow_heap w b cs _ e (0,0) hb
  · intro k hk
    exact setRow_other w b k _ hk
  · simp [World.setRow]
theorem sStore {ρ σ w} (hs:Sim ρ σ w) {P t g n} (ht:tinfo P t=some (g,n)) {x y a v} (hx:VRel (ctx ρ σ w) x a) (hy:VRel (ctx ρ σ w) y v) {σ'} (h:aStore n x y σ=some σ') :
    ∃ w',(Instr.storeAt t a v).run P w=.ok () w'∧Sim ρ σ' w'∧Ext ρ σ w ρ σ' w':=by
  unfold aStore at h
  split at h
  · rename_i id i o
    split at h
    · rename_i sz els hg
      split at h
      · rename_i el vs hel hvs
        split at h
        · rename_i hcond
          cases h
          obtain ⟨hn,hfit⟩:=hcond
          cases hx with
          | ptr hp =>
            rename_i b sz1
            obtain ⟨hl,els',cs,e,hg',hel',hb,hsz,hfit2,hone,hr⟩:=hs.cellsAt (id:=id) (i:=i) (el:=el) (by simp [elAt,hg,hel]) hp
            rw [hg] at hg';cases hg'
            obtain ⟨k1,k2,k3⟩:=sCells hy hvs
            obtain ⟨w',r1,r2,r3,r4,r5,r6,r7,r8⟩:=run_storeVar (P:=P) (b:=b) (o:=i * sz+o) (v:=v) (n:=n) (tinfo_spec ht w).1 (by omega) hb (by omega) k2
            refine ⟨w',by simp [Instr.storeAt,Instr.sureAddr,r1],?_⟩
            have hsp:(i * sz+o)+v.cells.size≤cs.size:=by omega
            refine hs.write hg hp w' _ r3 r4 (fun cs' t' f' h'=>?_) r5 r6 r7 r8 (fun d hle hd=>?_)
            · rw [hb] at h';cases h'
              exact ⟨_,_,r2,splice_size hsp⟩
            · have hil:i < els.length:=(List.getElem?_eq_some_iff.1 hel).1
              refine .cells (splice cs (i * sz+o) v.cells) e (by rw [hd];exact r2) (by rw [List.length_set,splice_size hsp];exact hsz) ?_ ?_ ?_
              · intro k el' hk
                rw [List.getElem?_set] at hk
                split at hk
                · cases hk;simp;omega
                · obtain ⟨p,hp',hor⟩:=hs.obj id _ hg
                  have hp2:ρ id=some (some b,sz):=hp
                  rw [hp2] at hp';cases hp'
                  cases hor with
                  | cells _ _ _ _ he _ _=>exact he k el' hk
              · intro j u hu
                rw [splice_get hsp] at hu
                split at hu
                · exact k2 _ _ hu
                · exact hone _ _ hu
              · intro k el' j z hk hz u hu
                rw [splice_get hsp] at hu
                rw [List.getElem?_set] at hk
                split at hk
                · rename_i hik
                  subst hik
                  · cases hk
                    have hj:j < sz:=by have:=(List.getElem?_eq_some_iff.1 hz).1;simp at this;omega
                    by_cases c1:j < o
                    · rw [if_neg (by omega)] at hu
                      rw [List.append_assoc,List.getElem?_append_left (by simp;omega),List.getElem?_take] at hz
                      simp only [c1,if_true] at hz
                      have:=hr j z hz
                      rw [Array.getD_eq_getD_getElem?,hu] at this
                      exact this.mono hle
                    · by_cases c2:j < o+n
                      · rw [if_pos ⟨by omega,by omega⟩] at hu
                        rw [List.getElem?_append_left (by simp;omega),List.getElem?_append_right (by simp;omega)] at hz
                        refine (k3 (i * sz+j - (i * sz+o)) z u ?_ hu).mono hle
                        rw [← hz];congr 1;simp;omega
                      · rw [if_neg (by omega)] at hu
                        rw [List.getElem?_append_right (by simp;omega),List.getElem?_drop] at hz
                        have:=hr j z (by rw [← hz];congr 1;simp;omega)
                        rw [Array.getD_eq_getD_getElem?,hu] at this
                        exact this.mono hle
                · rename_i hik
                  obtain ⟨p,hp',hor⟩:=hs.obj id _ hg
                  have hp2:ρ id=some (some b,sz):=hp
                  rw [hp2] at hp';cases hp'
                  cases hor with
                  | cells cs2 t2 hb2 _ he _ hr2 =>
                    have e2:w.heap[b]?=some (.cells cs2 t2 (0,0)):=hb2
                    rw [hb] at e2;cases e2
                    have hj:j < sz:=by rw [← he k el' hk];exact (List.getElem?_eq_some_iff.1 hz).1
                    have:¬ (i * sz+o≤k * sz+j∧k * sz+j < i * sz+o+v.cells.size):=by
                      intro hc
                      have h5:k * sz+j=i * sz+(k * sz+j - i * sz):=by omega
                      exact hik (mul_split hj (by omega) h5).1.symm
                    rw [if_neg this] at hu
                    exact (hr2 k el' j z hk hz u hu).mono hle
        · cases h
      · cases h
    · cases h
  · cases h
end Go.Abs
namespace Go.Abs
open Go
theorem AHeap.ext' {σ τ:AHeap} (h1:σ.next=τ.next) (h2:∀ i,σ.get i=τ.get i):σ=τ:=by
  cases σ;cases τ;simp at h1 h2;subst h1;congr;funext i;exact h2 i
theorem AHeap.set_del (σ:AHeap) (id:Nat) (o:AObj):(σ.set id o).del id=σ.del id:=by
  refine AHeap.ext' rfl fun i=>?_
  by_cases e:i=id
  · subst e;simp
  · rw [AHeap.del_ne e,AHeap.del_ne e,AHeap.set_ne e]
theorem AHeap.new_del (σ:AHeap) (id:Nat) (o:AObj) (h:id ≠ σ.next):(σ.new o).del id=(σ.del id).new o:=by
  refine AHeap.ext' rfl fun i=>?_
  by_cases e:i=id
  · subst e;rw [AHeap.del_same,AHeap.new_ne (by simpa using h),AHeap.del_same]
  · rw [AHeap.del_ne e]
    by_cases e2:i=σ.next
    · subst e2;rw [AHeap.new_same];exact (AHeap.new_same (σ.del id) o).symm
    · rw [AHeap.new_ne e2,AHeap.new_ne (by simpa using e2),AHeap.del_ne e]
theorem Sim.junk {ρ σ w} (hs:Sim ρ σ w) (o:Obj):Sim ρ σ (w.alloc o)∧Ext ρ σ w ρ σ (w.alloc o)∧Imm ρ σ (w.alloc o) w.heap.size∧(w.alloc o).heap[w.heap.size]?=some o:=by
  have hsz:(w.alloc o).heap.size=w.heap.size+1:=by show (w.heap.push o).size=_;simp
  have hold:∀ b:Nat,b < w.heap.size→(w.alloc o).heap[b]?=w.heap[b]?:=fun b hb=>Go.RowKit.Below.heap_alloc w o b hb
  have hnew:(w.alloc o).heap[w.heap.size]?=some o:=by show (w.heap.push o)[w.heap.size]?=_;simp
  have hle:CLe (ctx ρ σ w) (ctx ρ σ (w.alloc o)):=by
    refine ⟨fun _ _ h=>h,fun b hb=>⟨⟨by rw [hsz];exact Nat.lt_succ_of_lt hb.1,hb.2⟩,hold b hb.1⟩,fun b cs t f hb=>?_⟩
    exact ⟨cs,f,by rw [show (ctx ρ σ (w.alloc o)).h=(w.alloc o).heap from rfl,hold b (Array.getElem?_eq_some_iff.1 hb).1];exact hb,rfl⟩
  refine ⟨⟨hs.fresh,fun id o' ho'=>?_,hs.inj⟩,⟨hle,Nat.le_refl _,rfl,rfl,rfl,by rw [hsz];exact Nat.le_succ _⟩,⟨by rw [hsz];exact Nat.lt_succ_self _,fun id o' s ho' hp=>?_⟩,hnew⟩
  · obtain ⟨p,hp,hor⟩:=hs.obj id o' ho'
    refine ⟨p,hp,hor.mono hle fun b hb=>hold b ?_⟩
    obtain ⟨pb,psz⟩:=p
    simp at hb;subst hb
    exact hor.lt
  · exact Nat.lt_irrefl _ (hs.blk ho' hp)
theorem Sim.move {ρ σ w} (hs:Sim ρ σ w) {id:Nat} {ao:AObj} {p} (hid:σ.get id=some ao) (hp:ρ id=some p) :
    Sim (upρ ρ σ.next p) ((σ.del id).new ao) w∧Ext ρ σ w (upρ ρ σ.next p) ((σ.del id).new ao) w:=by
  have hne:id ≠ σ.next:=fun e=>by have:=hs.lt hid;omega
  have hρ:∀ i q,ρ i=some q→upρ ρ σ.next p i=some q:=by
    intro i q hq
    rw [upρ_ne]
    · exact hq
    · intro e;subst e;rw [hs.fresh _ (Nat.le_refl _)] at hq;cases hq
  have hget:∀ i o,((σ.del id).new ao).get i=some o→∃ k,σ.get k=some o∧upρ ρ σ.next p i=ρ k∧(i=σ.next→k=id)∧(i ≠ σ.next→k=i):=by
    intro i o h
    by_cases e:i=σ.next
    · subst e
      have h':=AHeap.new_same (σ.del id) ao
      simp only [AHeap.del_next] at h'
      rw [h'] at h;cases h
      exact ⟨id,hid,by rw [upρ_same,hp],fun _=>rfl,fun h=>absurd rfl h⟩
    · rw [AHeap.new_ne (by simpa using e)] at h
      have e2:i ≠ id:=by intro e2;subst e2;simp at h
      rw [AHeap.del_ne e2] at h
      exact ⟨i,h,upρ_ne e,fun h=>absurd h e,fun _=>rfl⟩
  have hle:CLe (ctx ρ σ w) (ctx (upρ ρ σ.next p) ((σ.del id).new ao) w):=by
    refine ⟨hρ,fun b hb=>⟨⟨hb.1,fun i o s ho hpi=>?_⟩,rfl⟩,fun b cs t f hb=>⟨cs,f,hb,rfl⟩⟩
    obtain ⟨k,hk,e,_⟩:=hget i o ho
    rw [e] at hpi
    exact hb.2 k o s hk hpi
  refine ⟨⟨fun i hi=>?_,fun i o ho=>?_,fun i j oi oj b s t hi hj pi pj=>?_⟩,⟨hle,Nat.le_succ _,rfl,rfl,rfl,Nat.le_refl _⟩⟩
  · have:i ≠ σ.next:=by intro e;subst e;simp at hi;omega
    rw [upρ_ne this];exact hs.fresh i (by simp at hi;omega)
  · obtain ⟨k,hk,e,_⟩:=hget i o ho
    obtain ⟨q,hq,hor⟩:=hs.obj k o hk
    exact ⟨q,by rw [e];exact hq,hor.mono hle fun _ _=>rfl⟩
  · obtain ⟨k,hk,e,h1,h2⟩:=hget i oi hi
    obtain ⟨l,hl,f,h3,h4⟩:=hget j oj hj
    rw [e] at pi;rw [f] at pj
    have hkl:=hs.inj k l oi oj b s t hk hl pi pj
    by_cases ei:i=σ.next <;> by_cases ej:j=σ.next
    · rw [ei,ej]
    · have:=h1 ei;have:=h4 ej;subst_vars
      exact absurd (hget l oj hj) (by rintro ⟨k',hk',e',_,h2'⟩;have:=h2' ej;subst this;rw [AHeap.new_ne (by simpa using ej)] at hj;simp at hj)
    · have:=h2 ei;have:=h3 ej;subst_vars
      exact absurd hi (by rw [AHeap.new_ne (by simpa using ei)];simp)
    · rw [← h2 ei,← h4 ej,hkl]
def elsOf (sz:Nat) (x:AV) (σ:AHeap):Option (List (List AV)) :=
  match x with
  | .val (.slice none 0 0)=>some []
  | .sl _ sz' xs=>if sz'=sz then some xs else none
  | .own id len=>match σ.get id with
    | some (.cells sz' els)=>if sz'=sz∧len≤els.length then some (els.take len) else none
    | _=>none
  | _=>none
structure Src (c:Ctx) (w:World) (sz:Nat) (ys:List (List AV)) (xa:Option Addr) (news:List Value):Prop where
  len:news.length=ys.length * sz
  none:xa=none→ys=[]
  cell:∀ ad,xa=some ad→∀ (j:Nat) u,news[j]?=some u→w.cell? (ad.add j)=some u
  one:∀ u ∈ news,u.oneCell'=true
  rel:∀ (i:Nat) el (j:Nat) x,ys[i]?=some el→el[j]?=some x→VRel c x (news.getD (i * sz+j) undef)
  ll:∀ (i:Nat) el,ys[i]?=some el→el.length=sz
theorem div_mul_lt {k sz n:Nat} (h:k < n * sz):0 < sz∧k / sz < n∧k % sz < sz∧k / sz * sz+k % sz=k:=by
  have h0:0 < sz:=by
    rcases Nat.eq_zero_or_pos sz with e | e
    · subst e;simp at h
    · exact e
  exact ⟨h0,(Nat.div_lt_iff_lt_mul h0).2 h,Nat.mod_lt _ h0,by rw [Nat.mul_comm];exact Nat.div_add_mod k sz⟩
theorem Sim.src {ρ σ w} (hs:Sim ρ σ w) {x v ys sz} (hv:VRel (ctx ρ σ w) x v) (he:elsOf sz x σ=some ys) :
    ∃ xa xc news,v=.slice xa ys.length xc∧ys.length≤xc∧(xa=none→xc=0)∧Src (ctx ρ σ w) w sz ys xa news:=by
  unfold elsOf at he
  split at he
  · cases he
    cases hv
    exact ⟨none,0,[],rfl,Nat.le_refl _,fun _=>rfl,by simp,fun _=>rfl,(fun ad h=>by cases h),by simp,by simp,by simp⟩
  · rename_i clip sz' xs
    split at he
    · rename_i e
      subst e
      cases he
      cases hv with
      | sl f hl hn hcap hclip hc hr =>
        rename_i a len cap
        subst hl
        refine ⟨a,cap,(List.range (ys.length * sz')).map fun k=>f (k / sz') (k % sz'),rfl,hcap,fun h=>(hn h).2,by simp,fun h=>(hn h).1,?_,?_,?_,fun i el he=>(hc i el he).1⟩
        · intro ad had j u hu
          simp only [List.getElem?_map] at hu
          by_cases hj:j < ys.length * sz'
          · simp only [List.getElem?_range hj,Option.map_some,Option.some.injEq] at hu
            subst hu
            obtain ⟨h0,h1,h2,h3⟩:=div_mul_lt hj
            obtain ⟨el,hel⟩:∃ el,ys[j / sz']?=some el:=⟨_,List.getElem?_eq_getElem h1⟩
            obtain ⟨e2,b,o,e3,_,e4⟩:=hc _ _ hel
            rw [e3] at had;cases had
            have:=(e4 (j % sz') h2).1
            rw [add_lit,cell_eq,← this,Nat.add_assoc,h3]
            rfl
          · rw [List.getElem?_eq_none (by simp;omega)] at hu;cases hu
        · intro u hu
          obtain ⟨k,hk,rfl⟩:=List.mem_map.1 hu
          simp only [List.mem_range] at hk
          obtain ⟨h0,h1,h2,h3⟩:=div_mul_lt hk
          obtain ⟨el,hel⟩:∃ el,ys[k / sz']?=some el:=⟨_,List.getElem?_eq_getElem h1⟩
          obtain ⟨e2,b,o,e3,_,e4⟩:=hc _ _ hel
          exact (e4 (k % sz') (by omega)).2
        · intro i el j x hi hx
          have hil:=(List.getElem?_eq_some_iff.1 hi).1
          have e1:=(hc _ _ hi).1
          have hjl:j < sz':=by rw [← e1];exact (List.getElem?_eq_some_iff.1 hx).1
          have hlt:i * sz'+j < ys.length * sz':=by
            have:=Nat.mul_le_mul_right sz' (Nat.succ_le_of_lt hil);rw [Nat.succ_mul] at this;omega
          have h0:0 < sz':=by omega
          have q1:(i * sz'+j) / sz'=i:=by rw [Nat.mul_comm,Nat.mul_add_div h0,Nat.div_eq_of_lt hjl];omega
          have q2:(i * sz'+j) % sz'=j:=by rw [Nat.mul_comm,Nat.mul_add_mod,Nat.mod_eq_of_lt hjl]
          simp only [List.getD_eq_getElem?_getD,List.getElem?_map,List.getElem?_range hlt,Option.map_some,Option.getD_some,q1,q2]
          exact hr i el j x hi hx
    · cases he
  · rename_i id len
    split at he
    · rename_i sz' els hg
      split at he
      · rename_i hle
        obtain ⟨rfl,hle⟩:=hle
        cases he
        have hlen:(els.take len).length=len:=by simp;omega
        rcases hv.own_inv with ⟨b,sz2,cap,rfl,hp,hl,_⟩ | ⟨rfl,a,rfl,_⟩
        · obtain ⟨p,hp',hor⟩:=hs.obj id _ hg
          have hp2:ρ id=some (some b,sz2):=hp
          rw [hp2] at hp';cases hp'
          obtain ⟨rfl,cs,t,hbb,hcsz,hel,hone,hr⟩:=hor.cells_inv
          have hbb:w.heap[b]?=some (.cells cs t (0,0)):=hbb
          have hm:len * sz'≤els.length * sz':=Nat.mul_le_mul_right _ hle
          refine ⟨some ⟨b,0,none⟩,cap,cs.toList.take (len * sz'),by rw [hlen],by rw [hlen];exact hl,(fun h=>by cases h),by rw [hlen,List.length_take,Array.length_toList];omega,(fun h=>by cases h),?_,?_,?_,fun i el hi=>?_⟩
          · intro ad had j u hu
            cases had
            rw [List.getElem?_take] at hu
            split at hu
            · rw [add_lit,cell_eq,cellOf,hbb];simpa using hu
            · cases hu
          · intro u hu
            obtain ⟨j,hj,rfl⟩:=List.getElem_of_mem (List.mem_of_mem_take hu)
            exact hone j _ (by simp at hj;simp [hj])
          · intro i el j x hi hx
            have hil:=(List.getElem?_eq_some_iff.1 hi).1
            rw [hlen] at hil
            rw [List.getElem?_take,if_pos hil] at hi
            have hjl:j < sz':=by rw [← hel _ _ hi];exact (List.getElem?_eq_some_iff.1 hx).1
            have hlt:i * sz'+j < len * sz':=by
              have:=Nat.mul_le_mul_right sz' (Nat.succ_le_of_lt hil);rw [Nat.succ_mul] at this;omega
            have hlt2:i * sz'+j < cs.size:=by omega
            have:=hr i el j x hi hx cs[i * sz'+j] (by simp [hlt2])
            simpa [List.getD_eq_getElem?_getD,List.getElem?_take,hlt,hlt2] using this
          · rw [List.getElem?_take] at hi
            split at hi
            · exact hel _ _ hi
            · cases hi
        · exact ⟨a,0,[],by simp,by simp,fun _=>rfl,by simp,by simp,(fun ad h j u hu=>by simp at hu),by simp,by simp,by simp⟩
      · cases he
    · cases he
  · cases he
def aAppend (sz bytes:Nat) (s x:AV) (σ:AHeap):Option (AV × AHeap) :=
  match elsOf sz s σ,elsOf sz x σ with
  | some es,some ys =>
    if (es.length+ys.length) * bytes≤140737488355328∧es.length+ys.length≤140737488355328 then
      match s with
      | .val (.slice none 0 0)=>some (.own σ.next (es.length+ys.length),σ.new (.cells sz (es ++ ys)))
      | .own id _=>some (.own σ.next (es.length+ys.length),(σ.del id).new (.cells sz (es ++ ys)))
      | .sl true _ _=>if es.length=0∨0 < ys.length then some (.own σ.next (es.length+ys.length),σ.new (.cells sz (es ++ ys))) else some (.sl true sz es,σ)
      | _=>none
    else none
  | _,_=>none
def sinfo (P:Program) (t:TypeId):Option (TypeId × Nat × Nat) :=
  match P.underlying t with
  | some (.slice e)=>match P.info? e with
    | some i=>if i.zero.isSome then some (e,i.size,i.bytes) else none
    | none=>none
  | _=>none
theorem sinfo_spec {P t e sz bytes} (h:sinfo P t=some (e,sz,bytes)):P.underlying t=some (.slice e)∧∃ i z,P.info? e=some i∧i.zero=some z∧i.size=sz∧i.bytes=bytes:=by
  unfold sinfo at h
  split at h
  · rename_i e' he
    split at h
    · rename_i i hi
      split at h
      · rename_i hz
        cases h
        obtain ⟨z,hz⟩:=Option.isSome_iff_exists.1 hz
        exact ⟨he,i,z,hi,hz,rfl,rfl⟩
      · cases h
    · cases h
  · cases h
theorem rel_append {c:Ctx} {sz:Nat} {es ys:List (List AV)} {olds news:List Value} (h1:olds.length=es.length * sz)
    (r1:∀ (i:Nat) el (j:Nat) x,es[i]?=some el→el[j]?=some x→VRel c x (olds.getD (i * sz+j) undef)) (r2:∀ (i:Nat) el (j:Nat) x,ys[i]?=some el→el[j]?=some x→VRel c x (news.getD (i * sz+j) undef))
    (l1:∀ (i:Nat) el,es[i]?=some el→el.length=sz) :
    ∀ (i:Nat) el (j:Nat) x,(es ++ ys)[i]?=some el→el[j]?=some x→VRel c x ((olds ++ news).getD (i * sz+j) undef):=by
  intro i el j x hi hx
  rw [List.getElem?_append] at hi
  split at hi
  · rename_i hil
    have hjl:j < sz:=by rw [← l1 _ _ hi];exact (List.getElem?_eq_some_iff.1 hx).1
    have hlt:i * sz+j < olds.length:=by
      have:=Nat.mul_le_mul_right sz (Nat.succ_le_of_lt hil);rw [Nat.succ_mul] at this;omega
    rw [List.getD_eq_getElem?_getD,List.getElem?_append_left hlt,← List.getD_eq_getElem?_getD]
    exact r1 i el j x hi hx
  · rename_i hil
    have hge:olds.length≤i * sz+j:=by
      have:=Nat.mul_le_mul_right sz (Nat.le_of_not_lt hil);omega
    have e:i * sz+j - olds.length=(i - es.length) * sz+j:=by
      rw [h1,Nat.sub_mul]
      have:=Nat.mul_le_mul_right sz (Nat.le_of_not_lt hil);omega
    rw [List.getD_eq_getElem?_getD,List.getElem?_append_right hge,← List.getD_eq_getElem?_getD,e]
    exact r2 _ el j x hi hx
theorem ORel.ofList {c:Ctx} {b sz:Nat} {arr:Array Value} {t:TypeId} {els:List (List AV)} {vals:List Value} (hb:c.h[b]?=some (.cells arr t (0,0))) (hv:vals.length=els.length * sz)
    (hpre:∀ j,j < vals.length→arr[j]?=vals[j]?) (hsz:vals.length≤arr.size) (hone:∀ (j:Nat) v,arr[j]?=some v→v.oneCell'=true) (hl:∀ (i:Nat) el,els[i]?=some el→el.length=sz)
    (hr:∀ (i:Nat) el (j:Nat) x,els[i]?=some el→el[j]?=some x→VRel c x (vals.getD (i * sz+j) undef)):ORel c (.cells sz els) (some b,sz):=by
  refine .cells arr t hb (by omega) hl hone fun i el j x hi hx v hvv=>?_
  have hil:=(List.getElem?_eq_some_iff.1 hi).1
  have hjl:j < sz:=by rw [← hl _ _ hi];exact (List.getElem?_eq_some_iff.1 hx).1
  have hlt:i * sz+j < vals.length:=by
    have:=Nat.mul_le_mul_right sz (Nat.succ_le_of_lt hil);rw [Nat.succ_mul] at this;omega
  have:=hr i el j x hi hx
  rw [hpre _ hlt] at hvv
  rwa [List.getD_eq_getElem?_getD,hvv] at this
theorem zeroCells_one {z:Array Value} (h:∀ (j:Nat) v,z[j]?=some v→v.oneCell'=true) (n:Nat):∀ u ∈ (Builtin.zeroCells z n).toList,u.oneCell'=true:=by
  intro u hu
  simp only [Builtin.zeroCells,Array.toList_map,List.mem_map] at hu
  obtain ⟨i,hi,rfl⟩:=hu
  have hi:i < n * z.size:=by simpa using hi
  obtain ⟨h0,h1,h2,_⟩:=div_mul_lt hi
  rw [getElem!_pos z (i % z.size) h2]
  exact h _ _ (Array.getElem?_eq_getElem h2)
theorem grown_rel {P:Program} {sz:Nat} {e:TypeId} {i:TypeInfo} {z:Value} (hz:zeroOf P e ≠ none) (hi:P.info? e=some i) (hzz:i.zero=some z) {c:Ctx} {b:Nat} {es ys:List (List AV)} {olds news:List Value} {k:Nat}
    (hb:c.h[b]?=some (.cells (olds.toArray ++ news.toArray ++ Builtin.zeroCells z.cells k) e)) (ho:olds.length=es.length * sz) (hn:news.length=ys.length * sz)
    (o1:∀ u ∈ olds,u.oneCell'=true) (n1:∀ u ∈ news,u.oneCell'=true)
    (r1:∀ (i:Nat) el (j:Nat) x,es[i]?=some el→el[j]?=some x→VRel c x (olds.getD (i * sz+j) undef)) (r2:∀ (i:Nat) el (j:Nat) x,ys[i]?=some el→el[j]?=some x→VRel c x (news.getD (i * sz+j) undef))
    (l1:∀ (i:Nat) el,es[i]?=some el→el.length=sz) (l2:∀ (i:Nat) el,ys[i]?=some el→el.length=sz):ORel c (.cells sz (es ++ ys)) (some b,sz):=by
  have hzo:∀ (j:Nat) v,z.cells[j]?=some v→v.oneCell'=true:=by
    unfold zeroOf at hz
    rw [hi] at hz
    simp only [hzz] at hz
    split at hz
    · rename_i h1;exact allOne_spec h1
    · exact absurd rfl hz
  refine ORel.ofList (vals:=olds ++ news) hb (by rw [List.length_append,List.length_append,ho,hn,Nat.add_mul]) (fun j hj=>?_) (by simp) (fun j v hv=>?_) (fun i el he=>?_) (rel_append ho r1 r2 l1)
  · rw [Array.getElem?_append_left (by simpa using hj)]
    simp
  · have:v ∈ (olds.toArray ++ news.toArray ++ Builtin.zeroCells z.cells k):=Array.mem_of_getElem? hv
    simp only [Array.mem_append,List.mem_toArray] at this
    rcases this with (h | h) | h
    · exact o1 v h
    · exact n1 v h
    · exact zeroCells_one hzo k v (by simpa using h)
  · rw [List.getElem?_append] at he
    split at he
    · exact l1 _ _ he
    · exact l2 _ _ he
theorem Src.mono {c d:Ctx} {w:World} {sz ys xa news} (hle:CLe c d) (h:Src c w sz ys xa news):Src d w sz ys xa news :=
  ⟨h.len,h.none,h.cell,h.one,fun i el j x a b=>(h.rel i el j x a b).mono hle,h.ll⟩
theorem zero_size {P:Program} {e:TypeId} {i:TypeInfo} {z:Value} (hi:P.info? e=some i) (hzz:i.zero=some z) {zs} (hz0:zeroOf P e=some zs):z.cells.size=zs.length:=by
  unfold zeroOf at hz0
  rw [hi] at hz0
  simp only [hzz] at hz0
  split at hz0
  · cases hz0;simp
  · cases hz0
theorem run_append0 {P:Program} {w:World} {t ty e:TypeId} {i:TypeInfo} (hu:P.underlying t=some (.slice e)) (hi:P.info? e=some i) (sa:Option Addr) (n sc:Nat) (hsc:n≤sc) (xa:Option Addr) (xc:Nat) :
    (Builtin.append_ #[t,t] ty #[.slice sa n sc,.slice xa 0 xc]).run P w=.ok (.slice sa n sc) w:=by
  have hf:(Builtin.firstCells i.size 0 (.slice xa 0 xc)).run P w=.ok #[] w:=by
    cases xa with
    | none=>simp [Builtin.firstCells]
    | some ad=>have:=run_firstCells_some (P:=P) w i.size 0 ad 0 xc [] (by simp) (by simp);simpa using this
  cases sa with
  | none=>simp [Builtin.append_,run_underlying hu,sizeOf,typeInfo,hi,Builtin.lenOf,hf,hsc]
  | some ad=>simp [Builtin.append_,run_underlying hu,sizeOf,typeInfo,hi,Builtin.lenOf,hf,hsc,storeCells]
theorem run_appendG {P:Program} {w:World} {c:Ctx} {t ty e:TypeId} {i:TypeInfo} {z:Value} (hu:P.underlying t=some (.slice e)) (hi:P.info? e=some i) (hzz:i.zero=some z) (hzs:z.cells.size=i.size)
    {es ys:List (List AV)} {sa:Option Addr} {sc:Nat} {olds:List Value} (hsn:sa=none→sc=0) (so:Src c w i.size es sa olds) {xa:Option Addr} {xc:Nat} {news:List Value} (sn:Src c w i.size ys xa news)
    (c3:(es.length+ys.length) * i.bytes≤140737488355328) (c4:es.length+ys.length≤140737488355328) (hg:sc < es.length+ys.length) (hsc:es.length≤sc) :
    ∃ k,(Builtin.append_ #[t,t] ty #[.slice sa es.length sc,.slice xa ys.length xc]).run P w =
      .ok (.slice (some ⟨w.heap.size,0,none⟩) (es.length+ys.length) (es.length+ys.length+k)) (w.drew.alloc (.cells (olds.toArray ++ news.toArray ++ Builtin.zeroCells z.cells k) e)) ∧
      (olds.toArray ++ news.toArray ++ Builtin.zeroCells z.cells k).size=(es.length+ys.length+k) * i.size:=by
  have hy0:0 < ys.length:=by omega
  obtain ⟨xb,rfl⟩:∃ xb,xa=some xb:=by
    cases xa with
    | none=>have:=sn.none rfl;subst this;simp at hy0
    | some xb=>exact ⟨xb,rfl⟩
  have hge:=grownCap_ge w (es.length+ys.length) sc e
  refine ⟨grownCap w (es.length+ys.length) sc e - (es.length+ys.length),?_,?_⟩
  · rw [Nat.add_sub_cancel' hge]
    cases sa with
    | none =>
      have:=so.none rfl;subst this
      have ho0:olds=[]:=List.eq_nil_of_length_eq_zero (by rw [so.len];simp)
      subst ho0
      obtain rfl:=hsn rfl
      have:=run_append_nil (P:=P) w t ty e i z hu hi hzz xb ys.length xc news sn.len (sn.cell xb rfl) hy0 (by simp at c4;omega) (by simp at c3;omega)
      simpa using this
    | some sb =>
      exact run_append_grow (P:=P) w t ty e i z hu hi hzz sb es.length sc olds so.len (so.cell sb rfl) xb ys.length xc news sn.len (sn.cell xb rfl) hg (by omega) (growslice_fits hg c3)
  · simp only [Array.size_append,List.size_toArray,size_zeroCells,so.len,sn.len,hzs,Nat.add_mul]
theorem upρ_get (ρ:Nat→Option (Option Nat × Nat)) (id:Nat) (p) (σ:AHeap) (w:World):(ctx (upρ ρ id p) σ w).ρ id=some p:=upρ_same ρ id p
theorem sAppendNew {ρ σ w} (hs:Sim ρ σ w) {P:Program} {t ty e:TypeId} {i:TypeInfo} {z:Value} (hz:zeroOf P e ≠ none) (hu:P.underlying t=some (.slice e)) (hi:P.info? e=some i) (hzz:i.zero=some z) (hzs:z.cells.size=i.size)
    {es ys:List (List AV)} {sa:Option Addr} {sc:Nat} {olds:List Value} (hsn:sa=none→sc=0) (so:Src (ctx ρ σ w) w i.size es sa olds) {xa:Option Addr} {xc:Nat} {news:List Value} (sn:Src (ctx ρ σ w) w i.size ys xa news)
    (l1:∀ (k:Nat) el,es[k]?=some el→el.length=i.size) (l2:∀ (k:Nat) el,ys[k]?=some el→el.length=i.size)
    (c3:(es.length+ys.length) * i.bytes≤140737488355328) (c4:es.length+ys.length≤140737488355328) (hg:sc < es.length+ys.length) (hsc:es.length≤sc) :
    ∃ u w' ρ',(Builtin.append_ #[t,t] ty #[.slice sa es.length sc,.slice xa ys.length xc]).run P w=.ok u w' ∧
      VRel (ctx ρ' (σ.new (.cells i.size (es ++ ys))) w') (.own σ.next (es.length+ys.length)) u∧Sim ρ' (σ.new (.cells i.size (es ++ ys))) w'∧Ext ρ σ w ρ' (σ.new (.cells i.size (es ++ ys))) w':=by
  obtain ⟨k,hrun,hk⟩:=run_appendG (ty:=ty) (c:=ctx ρ σ w) (xc:=xc) hu hi hzz hzs hsn so sn c3 c4 hg hsc
  have hd:=hs.drawn (w.drawn+1) (Nat.le_succ _)
  have ha:=hd.1.alloc (.cells (olds.toArray ++ news.toArray ++ Builtin.zeroCells z.cells k) e) (.cells i.size (es ++ ys)) i.size
    (fun d hle hb=>grown_rel hz hi hzz hb so.len sn.len so.one sn.one (so.mono (d:=d) hle).rel (sn.mono (d:=d) hle).rel l1 l2)
  exact ⟨_,_,_,hrun,.own (upρ_get _ _ _ _ _) (by omega) ⟨_,e,(0,0),heap_alloc_new w.drew _,by rw [hk];exact Nat.le_refl _⟩,ha.1,hd.2.trans ha.2⟩
theorem sAppendRoom {ρ σ w} (hs:Sim ρ σ w) {P:Program} {t ty e:TypeId} {i:TypeInfo} (hu:P.underlying t=some (.slice e)) (hi:P.info? e=some i) {id b cap:Nat} {els es ys:List (List AV)} {olds news:List Value} {cs:Array Value} {te:TypeId}
    (hg:σ.get id=some (.cells i.size els)) (hp:ρ id=some (some b,i.size)) (hb:w.heap[b]?=some (.cells cs te (0,0))) (hcap:cap * i.size≤cs.size)
    (so:Src (ctx ρ σ w) w i.size es (some ⟨b,0,none⟩) olds) {xa:Option Addr} {xc:Nat} (sn:Src (ctx ρ σ w) w i.size ys xa news)
    (hone:∀ (j:Nat) v,cs[j]?=some v→v.oneCell'=true) (l1:∀ (k:Nat) el,es[k]?=some el→el.length=i.size) (l2:∀ (k:Nat) el,ys[k]?=some el→el.length=i.size) (hroom:es.length+ys.length≤cap) :
    ∃ w' ρ',(Builtin.append_ #[t,t] ty #[.slice (some ⟨b,0,none⟩) es.length cap,.slice xa ys.length xc]).run P w=.ok (.slice (some ⟨b,0,none⟩) (es.length+ys.length) cap) w' ∧
      VRel (ctx ρ' ((σ.del id).new (.cells i.size (es ++ ys))) w') (.own σ.next (es.length+ys.length)) (.slice (some ⟨b,0,none⟩) (es.length+ys.length) cap)∧Sim ρ' ((σ.del id).new (.cells i.size (es ++ ys))) w'∧Ext ρ σ w ρ' ((σ.del id).new (.cells i.size (es ++ ys))) w':=by
  have hm:(es.length+ys.length) * i.size≤cap * i.size:=Nat.mul_le_mul_right _ hroom
  have hlen:olds.length+news.length≤cs.size:=by rw [so.len,sn.len,← Nat.add_mul];omega
  have ho:∀ j,j < olds.length→cs[j]?=olds[j]?:=by
    intro j hj
    have:=so.cell _ rfl j olds[j] (by simp [hj])
    rw [add_lit,cell_eq,cellOf,hb] at this
    simp only [Nat.zero_add] at this
    rw [this,List.getElem?_eq_getElem hj]
  obtain ⟨w',arr,hrun,h1,h2,h3,h4,h5,h6,h7⟩:∃ w' arr,(Builtin.append_ #[t,t] ty #[.slice (some ⟨b,0,none⟩) es.length cap,.slice xa ys.length xc]).run P w=.ok (.slice (some ⟨b,0,none⟩) (es.length+ys.length) cap) w' ∧
      w'.heap[b]?=some (.cells arr te (0,0))∧arr.size=cs.size∧(∀ j,j < olds.length+news.length→arr[j]?=(olds ++ news)[j]?)∧(∀ (j:Nat) v,arr[j]?=some v→v.oneCell'=true)∧(∀ k,k ≠ b→w'.heap[k]?=w.heap[k]?)∧w'.heap.size=w.heap.size∧(w'.os=w.os∧w'.tape=w.tape∧w'.output=w.output∧w.drawn≤w'.drawn):=by
    cases xa with
    | none =>
      have hy:=sn.none rfl
      subst hy
      have hn0:news=[]:=List.eq_nil_of_length_eq_zero (by rw [sn.len];simp)
      subst hn0
      refine ⟨w,cs,by simpa using run_append0 (P:=P) (w:=w) (ty:=ty) hu hi (some ⟨b,0,none⟩) es.length cap (by simpa using hroom) none xc,hb,rfl,fun j hj=>by simpa using ho j (by simpa using hj),hone,fun _ _=>rfl,rfl,rfl,rfl,rfl,Nat.le_refl _⟩
    | some xb =>
      have hf:=run_firstCells_some (P:=P) w i.size ys.length xb ys.length xc news sn.len (sn.cell xb rfl)
      have hst:=run_storeCells_at P b (es.length * i.size) te news 0 cs w hb (by rw [← so.len];simpa using hlen) sn.one
      simp only [Nat.add_zero] at hst
      have hsp:olds.length+news.toArray.size≤cs.size:=by simpa using hlen
      have earr:(cs.toList.take (es.length * i.size) ++ news ++ cs.toList.drop (es.length * i.size+news.length)).toArray=splice cs olds.length news.toArray:=by simp [splice,so.len]
      rw [earr] at hst
      refine ⟨w.setRow b (splice cs olds.length news.toArray),splice cs olds.length news.toArray,by simp [Builtin.append_,run_underlying hu,sizeOf,typeInfo,hi,Builtin.lenOf,hroom,hf,add_lit,hst],?_,splice_size hsp,?_,?_,?_,by simp [World.setRow],rfl,rfl,rfl,Nat.le_refl _⟩
      · exact setRow_heap w b cs _ te (0,0) hb
      · intro j hj
        rw [splice_get hsp]
        by_cases hj2:j < olds.length
        · rw [if_neg (by omega),List.getElem?_append_left hj2];exact ho j hj2
        · rw [if_pos ⟨by omega,by simpa using hj⟩,List.getElem?_append_right (by omega)];simp
      · intro j v hv
        rw [splice_get hsp] at hv
        split at hv
        · exact sn.one v (by simpa using Array.mem_of_getElem? hv)
        · exact hone j v hv
      · intro k hk;exact setRow_other w b k _ hk
  have hw:=hs.write hg hp w' (.cells i.size (es ++ ys)) h5 h6 (fun cs' t' f' h=>by rw [hb] at h;cases h;exact ⟨_,_,h1,h2⟩) h7.1 h7.2.1 h7.2.2.1 h7.2.2.2 (fun d hle hd=>by
    refine ORel.ofList (vals:=olds ++ news) (arr:=arr) (t:=te) (by rw [hd];exact h1) (by rw [List.length_append,List.length_append,so.len,sn.len,Nat.add_mul]) (fun j hj=>h3 j (by simpa using hj)) (by rw [h2];simpa using hlen) h4 ?_ (rel_append so.len (so.mono (d:=d) hle).rel (sn.mono (d:=d) hle).rel l1)
    intro k el he
    rw [List.getElem?_append] at he
    split at he
    · exact l1 _ _ he
    · exact l2 _ _ he)
  have hm2:=hw.1.move (id:=id) (AHeap.set_same _ _ _) hp
  rw [AHeap.set_next,AHeap.set_del] at hm2
  refine ⟨w',_,hrun,?_,hm2.1,hw.2.trans hm2.2⟩
  exact .own (sz:=i.size) (upρ_get _ _ _ _ _) hroom ⟨arr,te,(0,0),h1,by rw [h2];exact hcap⟩
set_option maxHeartbeats 1000000 in
theorem sAppend {ρ σ w} (hs:Sim ρ σ w) {P t ty e sz bytes} (ht:sinfo P t=some (e,sz,bytes)) {zs} (hz0:zeroOf P e=some zs) (hzl:zs.length=sz) {s x a v} (hx:VRel (ctx ρ σ w) s a) (hy:VRel (ctx ρ σ w) x v) {r σ'} (h:aAppend sz bytes s x σ=some (r,σ')) :
    ∃ u w' ρ',(Builtin.append_ #[t,t] ty #[a,v]).run P w=.ok u w'∧VRel (ctx ρ' σ' w') r u∧Sim ρ' σ' w'∧Ext ρ σ w ρ' σ' w':=by
  obtain ⟨hu,i,z,hi,hzz,hisz,hiby⟩:=sinfo_spec ht
  have hz:zeroOf P e ≠ none:=by rw [hz0];simp
  have hzs:z.cells.size=i.size:=by rw [zero_size hi hzz hz0,hzl,hisz]
  unfold aAppend at h
  split at h
  · rename_i es ys hes hys
    split at h
    · rename_i hc
      obtain ⟨c3,c4⟩:=hc
      subst hisz
      subst hiby
      obtain ⟨sa,sc,olds,ea,hsc,hsn,so⟩:=hs.src hx hes
      obtain ⟨xa,xc,news,rfl,hxc,hxn,sn⟩:=hs.src hy hys
      have l1:∀ (k:Nat) el,es[k]?=some el→el.length=i.size:=so.ll
      have l2:∀ (k:Nat) el,ys[k]?=some el→el.length=i.size:=sn.ll
      split at h
      ·
        cases h
        simp only [elsOf,Option.some.injEq] at hes
        subst hes
        rw [hx.val_inv] at ea ⊢
        cases ea
        by_cases h0:ys.length=0
        · have hy0:ys=[]:=List.eq_nil_of_length_eq_zero h0
          subst hy0
          have ha:=hs.allocNone i.size
          exact ⟨_,w,upρ ρ σ.next (none,i.size),run_append0 hu hi none 0 0 (Nat.le_refl _) xa xc,.ownNil (upρ_same ρ σ.next (none,i.size)),ha.1,ha.2⟩
        · exact sAppendNew hs hz hu hi hzz hzs (es:=[]) hsn so sn l1 l2 c3 c4 (by simp;omega) (by simp)
      ·
        rename_i id len
        cases h
        have hes':=hes
        unfold elsOf at hes'
        simp only at hes'
        split at hes'
        · rename_i sz0 els hg
          split at hes'
          · rename_i hle
            obtain ⟨rfl,hle⟩:=hle
            cases hes'
            have hne:id ≠ σ.next:=fun e=>by have:=hs.lt hg;omega
            subst ea
            by_cases hroom:(els.take len).length+ys.length≤sc
            · rcases hx.own_inv with ⟨b,sz',cap,e1,hp,_,cs0,t0,f0,hb0,hcap⟩ | ⟨h0,a,e1,_⟩
              · simp only [Value.slice.injEq] at e1
                obtain ⟨rfl,_,rfl⟩:=e1
                obtain ⟨p,hp2,hor⟩:=hs.obj id _ hg
                have hp3:ρ id=some (some b,sz'):=hp
                rw [hp3] at hp2;cases hp2
                cases hor with
                | cells cs te hb hcsz hel hone hr =>
                  have hb:w.heap[b]?=some (.cells cs te (0,0)):=hb
                  have hb0:w.heap[b]?=some (.cells cs0 t0 f0):=hb0
                  rw [hb] at hb0;cases hb0
                  obtain ⟨w',ρ',k1,k2,k3,k4⟩:=sAppendRoom (ty:=ty) (xc:=xc) hs hu hi hg hp3 hb hcap so sn hone l1 l2 hroom
                  exact ⟨_,w',ρ',k1,k2,k3,k4⟩
              · simp only [Value.slice.injEq] at e1
                obtain ⟨rfl,e2,rfl⟩:=e1
                have ey:ys=[]:=List.eq_nil_of_length_eq_zero (by omega)
                have e0:els.take len=[]:=List.eq_nil_of_length_eq_zero (by omega)
                rw [e0,ey]
                have ha:=hs.allocNone i.size
                have hdl:=ha.1.del id
                rw [AHeap.new_del _ _ _ hne] at hdl
                exact ⟨_,w,upρ ρ σ.next (none,i.size),run_append0 hu hi _ 0 0 (Nat.le_refl _) xa xc,.ownNil (upρ_same ρ σ.next (none,i.size)),hdl.1,ha.2.trans hdl.2⟩
            · obtain ⟨u,w',ρ',h1,h2,h3,h4⟩:=sAppendNew (ty:=ty) (xc:=xc) hs hz hu hi hzz hzs hsn so sn l1 l2 c3 c4 (by omega) hsc
              have hdl:=h3.del id
              rw [AHeap.new_del _ _ _ hne] at hdl
              exact ⟨u,w',ρ',h1,h2.mono hdl.2.le,hdl.1,h4.trans hdl.2⟩
          · cases hes'
        · cases hes'
      ·
        rename_i sz' xs
        simp only [elsOf] at hes
        split at hes
        case isFalse=>cases hes
        rename_i esz
        subst esz
        cases hes
        subst ea
        split at h
        · rename_i hcase
          cases h
          by_cases h0:ys.length=0
          · have hy0:ys=[]:=List.eq_nil_of_length_eq_zero h0
            subst hy0
            have he0:es=[]:=List.eq_nil_of_length_eq_zero (by rcases hcase with h1 | h1 <;> simp_all)
            subst he0
            have ha:=hs.allocNone i.size
            have hcl:sc=0:=by
              cases hx with
              | sl f hl hn hcap hclip hc hr=>exact hclip rfl
            subst hcl
            exact ⟨_,w,upρ ρ σ.next (none,i.size),run_append0 hu hi sa 0 0 (Nat.le_refl _) xa xc,.ownNil (upρ_same ρ σ.next (none,i.size)),ha.1,ha.2⟩
          · have hcl:sc=es.length:=by
              cases hx with
              | sl f hl hn hcap hclip hc hr=>exact hclip rfl
            exact sAppendNew (ty:=ty) (xc:=xc) hs hz hu hi hzz hzs hsn so sn l1 l2 c3 c4 (by omega) hsc
        · rename_i hcase
          cases h
          have hy0:ys=[]:=List.eq_nil_of_length_eq_zero (by omega)
          subst hy0
          exact ⟨_,w,ρ,run_append0 hu hi sa _ sc hsc xa xc,hx,hs,Ext.refl _ _ _⟩
      · cases h
    · cases h
  · cases h
end Go.Abs
namespace Go.Abs
open Go
def aNilCheck:AV→Option AV
  | .ptr id i o=>some (.ptr id i o)
  | .ref cs=>some (.ref cs)
  | .fn (.func f) cap=>some (.fn (.func f) cap)
  | .iface t v=>some (.iface t v)
  | _=>none
def foff (P:Program) (s:TypeId) (f:Nat):Option Nat :=
  match P.underlying s with
  | some (.struct fs)=>match fs[f]? with
    | some fd=>match P.info? fd.type with
      | some i=>if i.size=0 then none else some fd.offset
      | none=>none
    | none=>none
  | _=>none
def aFieldAddr (off:Nat):AV→Option AV
  | .ptr id i o=>some (.ptr id i (o+off))
  | .ref cs=>some (.ref (cs.drop off))
  | _=>none
theorem sFieldAddr {c:Ctx} {P s f off} (hf:foff P s f=some off) {x v} (hv:VRel c x v) {y} (hy:aFieldAddr off x=some y) (w:World):∃ u,(Instr.fieldAt s v f).run P w=.ok u w∧VRel c y u:=by
  unfold foff at hf
  split at hf
  · rename_i fs hs
    split at hf
    · rename_i fd hfd
      split at hf
      · rename_i i hi
        split at hf
        · cases hf
        · rename_i hne
          cases hf
          have hsz:(sizeOf fd.type).run P w=.ok i.size w:=by simp [sizeOf,typeInfo,hi]
          have hrun:∀ b o,(Instr.fieldAt s (.pointer (some ⟨b,o,none⟩)) f).run P w=.ok (.pointer (some ⟨b,o+fd.offset,none⟩)) w:=by
            intro b o
            simp [Instr.fieldAt,run_underlying hs,hfd,Instr.sureAddr,fieldPlace,hsz,hne,add_lit]
          unfold aFieldAddr at hy
          split at hy
          · cases hy
            cases hv with
            | ptr hp =>
              refine ⟨_,hrun _ _,?_⟩
              rw [Nat.add_assoc]
              exact .ptr hp
          · cases hy
            cases hv with
            | ref g hi' hc hr =>
              refine ⟨_,hrun _ _,?_⟩
              refine .ref (fun j=>g (fd.offset+j)) hi' (fun j hj=>?_) (fun j x hx=>?_)
              · rw [Nat.add_assoc];exact hc _ (by simp at hj;omega)
              · rw [List.getElem?_drop] at hx;exact hr _ _ hx
          · cases hy
      · cases hf
    · cases hf
  · cases hf
def finfo (P:Program) (s:TypeId) (f:Nat):Option (Nat × Bool × Nat) :=
  match P.underlying s with
  | some (.struct fs)=>match fs[f]? with
    | some fd=>(tinfo P fd.type).map fun p=>(fd.offset,p.1,p.2)
    | none=>none
  | _=>none
def aField (off:Nat) (g:Bool) (n:Nat):AV→Option AV
  | .agg cs=>getCells g n (cs.drop off)
  | _=>none
theorem sPart {c:Ctx} {P t g n} (ht:tinfo P t=some (g,n)) {cs:List AV} {vs:Array Value} (hl:cs.length=vs.size) (h1:∀ (i:Nat) (v:Value),vs[i]?=some v→v.oneCell'=true)
    (hr:∀ (i:Nat) (x:AV) (v:Value),cs[i]?=some x→vs[i]?=some v→VRel c x v) {off:Nat} {y} (hy:getCells g n (cs.drop off)=some y) (w:World):∃ u,(part t vs off).run P w=.ok u w∧VRel c y u:=by
  obtain ⟨k1,k2⟩:=tinfo_spec ht w
  cases g with
  | false =>
    simp only [getCells,Bool.false_eq_true,if_false,List.head?_drop] at hy
    have hlt:off < vs.size:=by rw [← hl];exact (List.getElem?_eq_some_iff.1 hy).1
    exact ⟨vs[off],by simp [part,k2,hlt],hr off y _ hy (Array.getElem?_eq_getElem hlt)⟩
  | true =>
    simp only [getCells,if_true] at hy
    split at hy
    · rename_i hn
      cases hy
      simp at hn
      refine ⟨.agg (vs.extract off (off+n)),by simp [part,k1,k2],.agg (by simp;omega) (fun i v hv=>?_) (fun i x v hx hv=>?_)⟩
      · rw [Array.getElem?_extract] at hv
        split at hv
        · exact h1 _ _ hv
        · cases hv
      · rw [Array.getElem?_extract] at hv
        rw [List.getElem?_take] at hx
        split at hv
        · split at hx
          · rw [List.getElem?_drop] at hx;exact hr _ _ _ hx hv
          · cases hx
        · cases hv
    · cases hy
theorem sField {c:Ctx} {P s f off g n} (hf:finfo P s f=some (off,g,n)) {x v} (hv:VRel c x v) {y} (hy:aField off g n x=some y) (w:World):∃ u,(Instr.field s v f).run P w=.ok u w∧VRel c y u:=by
  unfold finfo at hf
  split at hf
  · rename_i fs hs
    split at hf
    · rename_i fd hfd
      obtain ⟨⟨g',n'⟩,ht,he⟩:=Option.map_eq_some_iff.1 hf
      cases he
      unfold aField at hy
      split at hy
      · cases hv with
        | agg hl h1 hr =>
          obtain ⟨u,hu,hrel⟩:=sPart ht hl h1 hr hy w
          exact ⟨u,by simp [Instr.field,run_underlying hs,hfd,asAgg,hu],hrel⟩
      · cases hy
    · cases hf
  · cases hf
def aExtract (k:Nat):AV→Option AV
  | .tup vs=>vs[k]?
  | _=>none
theorem sExtract {c:Ctx} {P:Program} {k x v} (hv:VRel c x v) {y} (hy:aExtract k x=some y) (w:World):∃ u,(Instr.extract v k).run P w=.ok u w∧VRel c y u:=by
  unfold aExtract at hy
  split at hy
  · cases hv with
    | tup hl hr =>
      rename_i vs
      have hlt:k < vs.size:=by rw [← hl];exact (List.getElem?_eq_some_iff.1 hy).1
      exact ⟨vs[k],by simp [Instr.extract,hlt],hr k y _ hy (Array.getElem?_eq_getElem hlt)⟩
  · cases hy
def isSlice (P:Program) (t:TypeId):Option Nat :=
  match P.underlying t with
  | some (.slice e)=>(P.info? e).map (·.size)
  | _=>none
theorem isSlice_spec {P t n} (h:isSlice P t=some n):∃ e i,P.underlying t=some (.slice e)∧P.info? e=some i∧i.size=n:=by
  unfold isSlice at h
  split at h
  · rename_i e he
    obtain ⟨i,hi,rfl⟩:=Option.map_eq_some_iff.1 h
    exact ⟨e,i,he,hi,rfl⟩
  · cases h
def aIndexAddr (n:Nat) (x i:AV) (σ:AHeap):Option AV :=
  match i with
  | .val (.int _ i) =>
    match x with
    | .sl _ sz xs=>if 0≤i∧sz=n then (xs[i.toNat]?).map .ref else none
    | .own id len=>if 0≤i∧i < len then (elAt σ id i.toNat).bind fun el=>if el.length=n then some (.ptr id i.toNat 0) else none else none
    | .win id off sz len=>if 0≤i∧i < len∧sz=n then (elAt σ id (off+i.toNat)).bind fun el=>if el.length=n then some (.ptr id (off+i.toNat) 0) else none else none
    | _=>none
  | _=>none
theorem sIndexAddr {ρ σ w} (hs:Sim ρ σ w) {P t n} (ht:isSlice P t=some n) {x i v vi} (hv:VRel (ctx ρ σ w) x v) (hi:VRel (ctx ρ σ w) i vi) {y} (hy:aIndexAddr n x i σ=some y) :
    ∃ u,(Instr.indexAt t v vi).run P w=.ok u w∧VRel (ctx ρ σ w) y u:=by
  obtain ⟨e,inf,he,hinf,rfl⟩:=isSlice_spec ht
  unfold aIndexAddr at hy
  split at hy
  · rename_i k i
    rw [hi.val_inv]
    split at hy
    · rename_i clip sz xs
      split at hy
      · rename_i h0
        obtain ⟨h0,rfl⟩:=h0
        obtain ⟨el,hel,rfl⟩:=Option.map_eq_some_iff.1 hy
        cases hv with
        | sl f hl hn' hcap hclip hc hr =>
          obtain ⟨h1,b,o,rfl,h3,h4⟩:=hc _ _ hel
          have hlt:i < xs.length:=by have:=(List.getElem?_eq_some_iff.1 hel).1;omega
          subst hl
          refine ⟨.pointer (some ⟨b,o+i.toNat * inf.size,none⟩),?_,?_⟩
          · simp [Instr.indexAt,asIntOf,run_underlying he,h0,hlt,sizeOf,typeInfo,hinf,add_lit]
          · exact .ref (f i.toNat) h3 (fun j hj=>by have:=h4 j (by omega);rw [Nat.add_assoc] at this ⊢;exact this) (fun j x hx=>hr _ _ j x hel hx)
      · cases hy
    · rename_i id len
      split at hy
      · rename_i h0
        cases hel:elAt σ id i.toNat with
        | none=>rw [hel] at hy;cases hy
        | some el =>
          rw [hel] at hy
          simp only [Option.bind_some] at hy
          split at hy
          · rename_i hn
            cases hy
            rcases hv.own_inv with ⟨b,sz,cap,rfl,hp,_,_⟩ | ⟨rfl,_,_,_⟩
            · have hl:=(hs.cellsAt hel hp).1
              refine ⟨.pointer (some ⟨b,0+i.toNat * inf.size,none⟩),?_,?_⟩
              · simp [Instr.indexAt,asIntOf,run_underlying he,h0.1,h0.2,sizeOf,typeInfo,hinf,add_lit]
              · have:=VRel.ptr (c:=ctx ρ σ w) (i:=i.toNat) (o:=0) hp
                rw [Nat.zero_add,show inf.size=sz by omega]
                simpa using this
            · omega
          · cases hy
      · cases hy
    · rename_i id off sz0 len
      split at hy
      · rename_i h0
        cases hel:elAt σ id (off+i.toNat) with
        | none=>rw [hel] at hy;cases hy
        | some el =>
          rw [hel] at hy
          simp only [Option.bind_some] at hy
          split at hy
          · rename_i hn
            cases hy
            rcases hv.win_inv with ⟨b,sz,cap,rfl,hp,_⟩ | ⟨rfl,_,_,_⟩
            · have hl:=(hs.cellsAt hel hp).1
              have h2:=h0.2.2
              refine ⟨.pointer (some ⟨b,off * sz0+i.toNat * inf.size,none⟩),?_,?_⟩
              · simp [Instr.indexAt,asIntOf,run_underlying he,h0.1,h0.2.1,sizeOf,typeInfo,hinf,add_lit]
              · have:=VRel.ptr (c:=ctx ρ σ w) (i:=off+i.toNat) (o:=0) hp
                rw [show inf.size=sz by omega,show sz0=sz by omega,← Nat.add_mul]
                simpa using this
            · omega
          · cases hy
      · cases hy
    · cases hy
  · cases hy
def isStr (P:Program) (t:TypeId):Bool:=match P.underlying t with | some .string=>true | _=>false
theorem isStr_spec {P t} (h:isStr P t=true):P.underlying t=some .string:=by
  unfold isStr at h;split at h <;> simp_all
def aIndexStr (x i:AV):Option AV :=
  match x,i with
  | .val (.string s),.val (.int _ i)=>if 0≤i then (s[i.toNat]?).map fun b=>.val (.int .u8 b.toNat) else none
  | _,_=>none
theorem sIndexStr {c:Ctx} {P t} (ht:isStr P t=true) {x i v vi} (hv:VRel c x v) (hi:VRel c i vi) {y} (hy:aIndexStr x i=some y) (w:World):∃ u,(Instr.index t v vi).run P w=.ok u w∧VRel c y u:=by
  unfold aIndexStr at hy
  split at hy
  · rw [hv.val_inv,hi.val_inv]
    split at hy
    · rename_i h0
      obtain ⟨b,hb,rfl⟩:=Option.map_eq_some_iff.1 hy
      exact ⟨_,by simp [Instr.index,asIntOf,run_underlying (isStr_spec ht),h0,hb],.val _⟩
    · cases hy
  · cases hy
theorem foldl_set_splice (vs:List Value):∀ (k o:Nat) (cs:Array Value),o+k+vs.length≤cs.size →
    (vs.zipIdx k).foldl (fun cs (c,j)=>cs.setIfInBounds (o+j) c) cs=splice cs (o+k) vs.toArray:=by
  induction vs with
  | nil =>
    intro k o cs h
    simp [splice]
  | cons v vs ih =>
    intro k o cs h
    simp only [List.length_cons] at h
    rw [List.zipIdx_cons,List.foldl_cons,ih (k+1) o _ (by simp;omega)]
    apply Array.ext_getElem?
    intro j
    rw [splice_get (by simp;omega),splice_get (by simp;omega)]
    simp only [List.size_toArray,List.length_cons,List.getElem?_toArray]
    by_cases h1:o+k≤j∧j < o+k+(vs.length+1)
    · rw [if_pos h1]
      by_cases h2:j=o+k
      · subst h2
        rw [if_neg (by omega),Array.getElem?_setIfInBounds_self_of_lt (by omega)]
        simp
      · rw [if_pos (by omega)]
        rw [show j - (o+k)=(j - (o+(k+1)))+1 by omega,List.getElem?_cons_succ]
    · rw [if_neg h1,if_neg (by omega),Array.getElem?_setIfInBounds_ne (by omega)]
def aFill:List AV→List (Nat × Nat × AV)→Option (List AV)
  | cs,[]=>some cs
  | cs,(off,sz,x) :: r=>match acells x with
    | some vs=>if vs.length=sz∧off+sz≤cs.length then aFill (cs.take off ++ vs ++ cs.drop (off+sz)) r else none
    | none=>none
structure CRel (c:Ctx) (cs:List AV) (vs:Array Value):Prop where
  len:cs.length=vs.size
  one:∀ (i:Nat) (v:Value),vs[i]?=some v→v.oneCell'=true
  rel:∀ (i:Nat) (x:AV) (v:Value),cs[i]?=some x→vs[i]?=some v→VRel c x v
theorem CRel.splice {c:Ctx} {cs vs} (h:CRel c cs vs) {ds us} (k:CRel c ds us) {off:Nat} (hfit:off+ds.length≤cs.length):CRel c (cs.take off ++ ds ++ cs.drop (off+ds.length)) (splice vs off us):=by
  have hsp:off+us.size≤vs.size:=by rw [← h.len,← k.len];exact hfit
  refine ⟨by rw [splice_size hsp,← h.len];simp;omega,fun i v hv=>?_,fun i x v hx hv=>?_⟩
  · rw [splice_get hsp] at hv
    split at hv
    · exact k.one _ _ hv
    · exact h.one _ _ hv
  · rw [splice_get hsp] at hv
    by_cases h1:i < off
    · rw [if_neg (by omega)] at hv
      rw [List.append_assoc,List.getElem?_append_left (by simp;omega),List.getElem?_take,if_pos h1] at hx
      exact h.rel _ _ _ hx hv
    · by_cases h2:i < off+us.size
      · rw [if_pos ⟨by omega,h2⟩] at hv
        rw [List.getElem?_append_left (by simp [k.len];omega),List.getElem?_append_right (by simp;omega)] at hx
        refine k.rel (i - off) _ _ ?_ hv
        rw [← hx];congr 1;simp;omega
      · rw [if_neg (by omega)] at hv
        rw [List.getElem?_append_right (by simp [k.len];omega),List.getElem?_drop] at hx
        refine h.rel i _ _ ?_ hv
        rw [← hx];congr 1;simp [k.len];omega
theorem sFill {c:Ctx} (place:Nat→Option (Nat × Nat)):∀ (parts:List (Nat × Value)) (aparts:List (Nat × Nat × AV)) (cs:List AV) (vs:Array Value) (r:List AV),CRel c cs vs→parts.length=aparts.length →
    (∀ (k i:Nat) (v:Value) (off sz:Nat) (x:AV),parts[k]?=some (i,v)→aparts[k]?=some (off,sz,x)→place i=some (off,sz)∧VRel c x v)→aFill cs aparts=some r →
    ∃ us,Instr.fill place vs parts=some us∧CRel c r us
  | [],[],cs,vs,r,h,_,_,hf=>by simp only [aFill,Option.some.injEq] at hf;subst hf;exact ⟨vs,rfl,h⟩
  | [],_ :: _,_,_,_,_,hl,_,_=>by simp at hl
  | _ :: _,[],_,_,_,_,hl,_,_=>by simp at hl
  | (i,v) :: parts,(off,sz,x) :: aparts,cs,vs,r,h,hl,hp,hf=>by
    obtain ⟨h1,h2⟩:=hp 0 i v off sz x rfl rfl
    simp only [aFill] at hf
    cases hc:acells x with
    | none=>rw [hc] at hf;cases hf
    | some ds =>
      rw [hc] at hf
      simp only at hf
      split at hf
      · rename_i hfit
        obtain ⟨k1,k2,k3⟩:=sCells h2 hc
        have hcr:CRel c ds v.cells:=⟨k1.symm,k2,k3⟩
        have hlen:=h.len
        have:=h.splice hcr (off:=off) (by omega)
        rw [hfit.1] at this
        obtain ⟨us,e1,e2⟩:=sFill place parts aparts _ _ r this (by simpa using hl) (fun k i v off sz x ha hb=>hp (k+1) i v off sz x ha hb) hf
        refine ⟨us,?_,e2⟩
        have hsp:=foldl_set_splice v.cells.toList 0 off vs (by simp;omega)
        simp only [Nat.add_zero,Array.toArray_toList] at hsp
        rw [← e1,← hsp]
        simp only [Instr.fill,h1]
        rw [if_neg (by simp;omega)]
        congr 1
        rw [← Array.foldl_toList]
        simp
      · cases hf
def placesOf (P:Program) (t:TypeId):Option (Array (Nat × Nat)) :=
  match P.underlying t with
  | some (.struct fs)=>if fs.all fun f=>(P.info? f.type).isSome then some (fs.map fun f=>(f.offset,((P.info? f.type).map (·.size)).getD 0)) else none
  | _=>none
theorem run_mapM_list {α β:Type} {P:Program} (w:World) (g:α→Sem β) (h:α→β):∀ (l:List α),(∀ x ∈ l,(g x).run P w=.ok (h x) w)→(l.mapM g).run P w=.ok (l.map h) w
  | [],_=>by simp
  | x :: l,hl=>by
    have ih:=run_mapM_list w g h l (fun y hy=>hl y (by simp [hy]))
    simp [List.mapM_cons,hl x (by simp),ih]
theorem run_mapM {α β:Type} {P:Program} (w:World) (g:α→Sem β) (h:α→β) (l:Array α) (hl:∀ x ∈ l,(g x).run P w=.ok (h x) w):(l.mapM g).run P w=.ok (l.map h) w:=by
  rw [Array.mapM_eq_mapM_toList]
  have:=run_mapM_list (P:=P) w g h l.toList (fun x hx=>hl x (by simpa using hx))
  simp only [Sem.run_map,this,Result.andThen_ok]
  congr 1
  apply Array.ext';simp
theorem run_places {P:Program} (w:World) (fs:Array Field) (h:(fs.all fun f=>(P.info? f.type).isSome)=true) :
    (fs.mapM fun f=>do pure (f.offset,← sizeOf f.type):Sem _).run P w=.ok (fs.map fun f=>(f.offset,((P.info? f.type).map (·.size)).getD 0)) w:=by
  refine run_mapM w _ _ fs fun f hf=>?_
  obtain ⟨k,hk,rfl⟩:=Array.getElem_of_mem hf
  obtain ⟨i,hi⟩:=Option.isSome_iff_exists.1 (Array.all_eq_true.1 h k hk)
  simp [sizeOf,typeInfo,hi]
def partsOf (pl:Array (Nat × Nat)) (fr:AFrame):List (Nat × Operand)→Option (List (Nat × Nat × AV))
  | []=>some []
  | (i,x) :: r=>match pl[i]?,partsOf pl fr r with
    | some (o,s),some l=>some ((o,s,ev fr x) :: l)
    | _,_=>none
def aBuild (zs:List AV) (parts:List (Nat × Nat × AV)):Option AV:=(aFill zs parts).map .agg
theorem partsOf_spec {c:Ctx} {pl fr} {a:Act} (hf:FRel c fr a.tmps):∀ (parts:List (Nat × Operand)) l,partsOf pl fr parts=some l→(parts.map fun p=>(p.1,a.eval p.2)).length=l.length ∧
    ∀ (k i:Nat) (v:Value) (off sz:Nat) (x:AV),(parts.map fun p=>(p.1,a.eval p.2))[k]?=some (i,v)→l[k]?=some (off,sz,x)→pl[i]?=some (off,sz)∧VRel c x v
  | [],l,h=>by simp only [partsOf,Option.some.injEq] at h;subst h;simp
  | (i,x) :: r,l,h=>by
    simp only [partsOf] at h
    split at h
    · rename_i o s l' h1 h2
      cases h
      obtain ⟨k1,k2⟩:=partsOf_spec hf r l' h2
      refine ⟨by simpa using k1,fun k j v off sz y ha hb=>?_⟩
      cases k with
      | zero=>simp at ha hb;obtain ⟨rfl,rfl⟩:=ha;obtain ⟨rfl,rfl,rfl⟩:=hb;exact ⟨h1,hf.eval x⟩
      | succ k=>exact k2 k j v off sz y (by simpa using ha) (by simpa using hb)
    · cases h
theorem sBuild {c:Ctx} {P t zs pl} (hz:zeroOf P t=some zs) (hpl:placesOf P t=some pl) {fr} {a:Act} (hf:FRel c fr a.tmps) {parts:Array (Nat × Operand)} {l} (hl:partsOf pl fr parts.toList=some l) {y} (hy:aBuild zs l=some y) (w:World) :
    ∃ u,(Instr.build t (parts.map fun (i,x)=>(i,a.eval x))).run P w=.ok u w∧VRel c y u:=by
  obtain ⟨z,hr,h1,h2,h3⟩:=zeroOf_spec hz w
  unfold placesOf at hpl
  split at hpl
  · rename_i fs hs
    split at hpl
    · rename_i hall
      cases hpl
      obtain ⟨r,hfill,rfl⟩:=Option.map_eq_some_iff.1 hy
      obtain ⟨k1,k2⟩:=partsOf_spec hf parts.toList l hl
      obtain ⟨us,e1,e2⟩:=sFill _ _ l zs z.cells r ⟨h1.symm,h2,h3 c⟩ k1 k2 hfill
      refine ⟨.agg us,?_,.agg e2.len e2.one e2.rel⟩
      simp only [Instr.build,Sem.run_bind,hr,Result.andThen_ok,run_underlying hs,run_places w fs hall,Array.toList_map]
      rw [e1];rfl
    · cases hpl
  · cases hpl
end Go.Abs
