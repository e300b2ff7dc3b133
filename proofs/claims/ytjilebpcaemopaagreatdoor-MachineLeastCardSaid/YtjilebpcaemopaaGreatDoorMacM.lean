import Derived.Test.YtjilebpcaemopaaGreatDoorStackM
import Derived.Test.YtjilebpcaemopaaGreatDoorAtM
set_option linter.unusedVariables false
set_option linter.unusedSimpArgs false
namespace Go.Abs.Mac
open Go Go.Abs Go.Abs.Stk Go.Abs.At
structure V where
  kind:Int
  n:Int
  r:Int
  a:Int
  deriving DecidableEq
def V.av (v:V):List AV:=[u8 v.kind,int v.n,int v.r,int v.a]
def V.zero:V:=⟨0,0,0,0⟩
def num (n:Int):V:=⟨1,n,0,0⟩
structure Cl where
  kind:Int
  a:V
  b:V
  code:Int
def Cl.av (c:Cl):List AV:=u8 c.kind :: (c.a.av ++ c.b.av ++ [int c.code])
structure Nm where
  name:ByteArray
  v:V
  fn:Bool
structure En where
  names:List Nm
  rhos:List (Int × Int)
def En.nil:En:=⟨[],[]⟩
def En.find (e:En) (name:ByteArray):Option Nm:=e.names.find? fun n=>n.name=name
def En.with (e:En) (name:ByteArray) (v:V) (fn:Bool):En:=⟨⟨name,v,fn⟩ :: e.names,e.rhos⟩
def En.region (e:En) (rho:Int):Int × Bool :=
  match e.rhos.find? fun r=>r.1=rho with
  | some r=>(r.2,true)
  | none=>(0,decide (rho=0))
def En.opn (e:En) (rho region:Int):En:=⟨e.names,(rho,region) :: e.rhos⟩
structure Co where
  body:AT
  arg:ByteArray
  env:En
  rs:Option (List Int)
def Co.rsl (c:Co):List Int:=c.rs.getD []
structure Sa where
  store:SG Cl
  steps:Nat
  codes:List Co
inductive Re (α:Type) where
  | ok (x:α) (s:Sa)
  | over (s:Sa) (kind:Int)
def Re.bind {α β:Type}:Re α→(α→Sa→Re β)→Re β
  | .ok x s,f=>f x s
  | .over s k,_=>.over s k
def pushS (s:SG Cl):Option (Int × SG Cl):=if (s.live.length:Int) < s.R then some (s.L.length,s.more) else none
def popS (s:SG Cl):SG Cl :=
  if s.live.length < 2 then s else match s.live.getLast? with
    | some i=>s.less i
    | none=>s
def liveS (s:SG Cl) (r:Int):Bool:=(s.row r).isSome
def putS (s:SG Cl) (r:Int) (c:Cl):Option (V × SG Cl) :=
  match s.row r with
  | none=>none
  | some row=>if s.C≤s.cells then none else some (⟨2,0,r,row.length⟩,s.putC r.toNat row c)
def make (s:Sa) (e:En) (rho:Int) (c:Cl):Re V :=
  if (e.region rho).2=true∧liveS s.store (e.region rho).1=true then
    match putS s.store (e.region rho).1 c with
    | some (v,st)=>.ok v { s with store:=st }
    | none=>.over s 4
  else .over s 5
def cellAt (s:SG Cl) (v:V):Option Cl:=(s.row v.r).bind fun row=>row[v.a.toNat]?
def take (s:Sa) (v:V) (kind:Int):Re Cl :=
  if v.kind=2 then
    if s.store.find v.kind v.n v.r v.a=6 then .over s 5
    else if s.store.find v.kind v.n v.r v.a=0 then
      match cellAt s.store v with
      | some c=>if c.kind=kind then .ok c s else .over s 6
      | none=>.over s 6
    else .over s 6
  else .over s 6
def coded (s:Sa) (c:Co):Cl × Sa:=(⟨3,V.zero,V.zero,s.codes.length⟩,{ s with codes:=s.codes ++ [c] })
def code (s:Sa) (e:En) (rho:Int) (c:Co):Re V:=make (coded s c).2 e rho (coded s c).1
def setS (s:SG Cl) (v:V) (c:Cl):SG Cl :=
  match s.row v.r with
  | some row=>s.put v.r.toNat (row.set v.a.toNat c)
  | none=>s
def number (s:Sa) (v:V):Re Int:=if v.kind=1 then .ok v.n s else .over s 6
def opF (o a b:Int):Int :=
  if o=1 then IntKind.i64.wrap (a+b) else if o=2 then IntKind.i64.wrap (a - b) else if o=3 then IntKind.i64.wrap (a * b)
  else if o=4 then (if a < b then 1 else 0) else if o=5 then (if a=b then 1 else 0) else 0
def opens (e own:En):List Int→List Int→Option En
  | [],_=>some own
  | r :: rs,q :: qs=>if (e.region r).2=true then opens e (own.opn q (e.region r).1) rs qs else none
  | _ :: _,[]=>none
def inst (s:Sa) (t:AT) (e:En):Re V :=
  match e.find t.h.name with
  | none=>.over s 6
  | some n=>if n.fn=true then
      (take s n.v 3).bind fun c s=>match s.codes[c.code.toNat]? with
        | none=>.over s 0
        | some f=>if f.rsl.length=t.rhos.length then
            match opens e f.env t.rhos f.rsl with
            | none=>.over s 5
            | some own=>code s e t.rho ⟨f.body,f.arg,own,none⟩
          else .over s 6
    else .over s 6
def kidAt (t:AT) (i:Nat):AT:=(t.kids[i]?).getD t
def leaf (s:Sa) (t:AT) (e:En):Re V :=
  if t.h.kind=1 then .ok (num t.h.n) s
  else if t.h.kind=2 then
    match e.find t.h.name with
    | some n=>if n.fn=true then .over s 6 else .ok n.v s
    | none=>.over s 6
  else if t.h.kind=18 then inst s t e
  else code s e t.rho ⟨kidAt t 0,t.h.arg,e,none⟩
def isLeaf (k:Int):Prop:=k=1∨k=2∨k=18∨k=11
instance (k:Int):Decidable (isLeaf k):=by unfold isLeaf;exact inferInstance
def patch (s:Sa) (e:En):Sa :=
  match s.codes.getLast? with
  | some c=>{ s with codes:=s.codes.dropLast ++ [{ c with env:=e }] }
  | none=>s
inductive Nx where
  | node (t:AT) (e:En)
  | val (v:V)
  | exn (n:Int) (x:ByteArray)
def at0 (vs:List V) (i:Nat):V:=(vs[i]?).getD V.zero
def rule (s:Sa) (t:AT) (e:En) (vs:List V):Re Nx :=
  if t.h.kind=3 then (make s e t.rho ⟨1,at0 vs 0,at0 vs 1,0⟩).bind fun v s=>.ok (.val v) s
  else if t.h.kind=4 then (take s (at0 vs 0) 1).bind fun c s=>.ok (.val c.a) s
  else if t.h.kind=5 then (take s (at0 vs 0) 1).bind fun c s=>.ok (.val c.b) s
  else if t.h.kind=6 then (make s e t.rho ⟨2,at0 vs 0,V.zero,0⟩).bind fun v s=>.ok (.val v) s
  else if t.h.kind=7 then (take s (at0 vs 0) 2).bind fun c s=>.ok (.val c.a) s
  else if t.h.kind=8 then (take s (at0 vs 0) 2).bind fun c s=>.ok (.val (num 0)) { s with store:=setS s.store (at0 vs 0) ⟨2,at0 vs 1,V.zero,0⟩ }
  else if t.h.kind=9 then (number s (at0 vs 0)).bind fun a s=>(number s (at0 vs 1)).bind fun b s=>.ok (.val (num (opF t.h.op a b))) s
  else if t.h.kind=15 then (number s (at0 vs 0)).bind fun a s=>.ok (.exn a t.h.exn) s
  else (take s (at0 vs 0) 3).bind fun c s=>match s.codes[c.code.toNat]? with
    | none=>.over s 0
    | some f=>.ok (.node f.body (f.env.with f.arg (at0 vs 1) false)) s
structure Fr where
  t:AT
  e:En
  vals:List V
structure M where
  x:Nx
  s:Sa
  k:List Fr
inductive Go where
  | on (m:M)
  | end_ (s:Sa) (kind:Int) (isInt:Bool) (n:Int) (exn:ByteArray)
def Re.go (k:List Fr):Re Nx→Go
  | .ok x s=>.on ⟨x,s,k⟩
  | .over s kind=>.end_ s kind false 0 ByteArray.empty
def tick (s:Sa):Sa:={ s with steps:=s.steps+1 }
def enter (fuel:Nat) (s:Sa) (k:List Fr) (t:AT) (e:En):Go :=
  if t.h.kind=17 then
    match pushS s.store with
    | none=>.end_ s 4 false 0 ByteArray.empty
    | some (r,st)=>.on ⟨.node (kidAt t 0) (e.opn t.rho r),{ s with store:=st },⟨t,e,[]⟩ :: k⟩
  else if fuel≤s.steps then .end_ s 3 false 0 ByteArray.empty
  else if isLeaf t.h.kind then ((leaf (tick s) t e).bind fun v s=>.ok (.val v) s).go k
  else if t.h.kind=13 then
    ((code (tick s) e t.rho ⟨kidAt t 0,t.h.arg,e,some t.rhos⟩).bind fun v s =>
      .ok (.node (kidAt t 1) (e.with t.h.name v true)) (patch s (e.with t.h.name v true))).go k
  else .on ⟨.node (kidAt t 0) e,tick s,⟨t,e,[]⟩ :: k⟩
def give (s:Sa) (k:List Fr) (f:Fr) (v:V):Go :=
  if f.t.h.kind=17 then .on ⟨.val v,{ s with store:=popS s.store },k⟩
  else if f.t.h.kind=16 then .on ⟨.val v,s,k⟩
  else if f.t.h.kind=12 then .on ⟨.node (kidAt f.t 1) (f.e.with f.t.h.name v false),s,k⟩
  else if f.t.h.kind=14 then
    ((number s v).bind fun n s=>.ok (.node (kidAt f.t (if n ≠ 0 then 1 else 2)) f.e) s).go k
  else if f.vals.length+1 < f.t.kids.length then .on ⟨.node (kidAt f.t (f.vals.length+1)) f.e,s,⟨f.t,f.e,f.vals ++ [v]⟩ :: k⟩
  else (rule s f.t f.e (f.vals ++ [v])).go k
def raise (s:Sa) (n:Int) (x:ByteArray):List Fr→Go
  | []=>.end_ s 2 false n x
  | f :: k =>
    let s':Sa:=if f.t.h.kind=17 then { s with store:=popS s.store } else s
    if f.t.h.kind=16∧f.t.h.exn=x then .on ⟨.node (kidAt f.t 1) (f.e.with f.t.h.arg (num n) false),s',k⟩ else raise s' n x k
def step (fuel:Nat) (m:M):Go :=
  match m.x with
  | .node t e=>enter fuel m.s m.k t e
  | .exn n x=>raise m.s n x m.k
  | .val v=>match m.k with
    | []=>if v.kind=1 then .end_ m.s 1 true v.n ByteArray.empty else .end_ m.s 1 false 0 ByteArray.empty
    | f :: k=>give m.s k f v
inductive Runs (fuel:Nat):M→Nat→Sa→Int→Bool→Int→ByteArray→Prop
  | end_ {m s kind b n x} (h:step fuel m=.end_ s kind b n x):Runs fuel m 0 s kind b n x
  | on {m m' j s kind b n x} (h:step fuel m=.on m') (h':Runs fuel m' j s kind b n x):Runs fuel m (j+1) s kind b n x
inductive Out where
  | val (v:V)
  | exn (n:Int) (x:ByteArray)
  | over (kind:Int)
def popO (o:Out) (s:Sa):Sa :=
  match o with
  | .over _=>s
  | _=>{ s with store:=popS s.store }
def Out.isVal:Out→Prop
  | .val _=>True
  | _=>False
inductive Rend:Re Nx→Sa→Out→Prop
  | val {v s}:Rend (.ok (.val v) s) s (.val v)
  | exn {n x s}:Rend (.ok (.exn n x) s) s (.exn n x)
  | over {s k}:Rend (.over s k) s (.over k)
inductive Big (fuel:Nat):Sa→AT→En→Sa→Out→Prop
  | full {s t e} (hk:t.h.kind=17) (h:pushS s.store=none):Big fuel s t e s (.over 4)
  | region {s t e r st s' o} (hk:t.h.kind=17) (h:pushS s.store=some (r,st)) (h':Big fuel { s with store:=st } (kidAt t 0) (e.opn t.rho r) s' o):Big fuel s t e (popO o s') o
  | fuel {s t e} (hk:t.h.kind ≠ 17) (h:fuel≤s.steps):Big fuel s t e s (.over 3)
  | leaf {s t e s' v} (hf:s.steps < fuel) (hk:isLeaf t.h.kind) (h:leaf (tick s) t e=.ok v s'):Big fuel s t e s' (.val v)
  | leafOver {s t e s' k} (hf:s.steps < fuel) (hk:isLeaf t.h.kind) (h:leaf (tick s) t e=.over s' k):Big fuel s t e s' (.over k)
  | letStop {s t e s' o} (hf:s.steps < fuel) (hk:t.h.kind=12) (h:Big fuel (tick s) (kidAt t 0) e s' o) (ho:¬ o.isVal):Big fuel s t e s' o
  | let_ {s t e s' v s'' o} (hf:s.steps < fuel) (hk:t.h.kind=12) (h:Big fuel (tick s) (kidAt t 0) e s' (.val v)) (h':Big fuel s' (kidAt t 1) (e.with t.h.name v false) s'' o):Big fuel s t e s'' o
  | letrecOver {s t e s' k} (hf:s.steps < fuel) (hk:t.h.kind=13) (h:code (tick s) e t.rho ⟨kidAt t 0,t.h.arg,e,some t.rhos⟩=.over s' k):Big fuel s t e s' (.over k)
  | letrec {s t e s' v s'' o} (hf:s.steps < fuel) (hk:t.h.kind=13) (h:code (tick s) e t.rho ⟨kidAt t 0,t.h.arg,e,some t.rhos⟩=.ok v s')
      (h':Big fuel (patch s' (e.with t.h.name v true)) (kidAt t 1) (e.with t.h.name v true) s'' o):Big fuel s t e s'' o
  | ifStop {s t e s' o} (hf:s.steps < fuel) (hk:t.h.kind=14) (h:Big fuel (tick s) (kidAt t 0) e s' o) (ho:¬ o.isVal):Big fuel s t e s' o
  | ifStuck {s t e s' v} (hf:s.steps < fuel) (hk:t.h.kind=14) (h:Big fuel (tick s) (kidAt t 0) e s' (.val v)) (hv:v.kind ≠ 1):Big fuel s t e s' (.over 6)
  | if_ {s t e s' v s'' o} (hf:s.steps < fuel) (hk:t.h.kind=14) (h:Big fuel (tick s) (kidAt t 0) e s' (.val v)) (hv:v.kind=1) (h':Big fuel s' (kidAt t (if v.n ≠ 0 then 1 else 2)) e s'' o):Big fuel s t e s'' o
  | try_ {s t e s' o} (hf:s.steps < fuel) (hk:t.h.kind=16) (h:Big fuel (tick s) (kidAt t 0) e s' o) (ho:∀ n,o ≠ .exn n t.h.exn):Big fuel s t e s' o
  | catch_ {s t e s' n s'' o} (hf:s.steps < fuel) (hk:t.h.kind=16) (h:Big fuel (tick s) (kidAt t 0) e s' (.exn n t.h.exn)) (h':Big fuel s' (kidAt t 1) (e.with t.h.arg (num n) false) s'' o):Big fuel s t e s'' o
  | stop1 {s t e s' o} (hf:s.steps < fuel) (hk:3≤t.h.kind∧t.h.kind≤10∨t.h.kind=15) (h:Big fuel (tick s) (kidAt t 0) e s' o) (ho:¬ o.isVal):Big fuel s t e s' o
  | stop2 {s t e s' v s'' o} (hf:s.steps < fuel) (hk:3≤t.h.kind∧t.h.kind≤10∨t.h.kind=15) (hl:t.kids.length=2) (h:Big fuel (tick s) (kidAt t 0) e s' (.val v)) (h':Big fuel s' (kidAt t 1) e s'' o) (ho:¬ o.isVal):Big fuel s t e s'' o
  | rule1 {s t e s₁ v s₂ o} (hf:s.steps < fuel) (hk:3≤t.h.kind∧t.h.kind≤10∨t.h.kind=15) (hl:t.kids.length=1) (h:Big fuel (tick s) (kidAt t 0) e s₁ (.val v)) (h':Rend (rule s₁ t e [v]) s₂ o):Big fuel s t e s₂ o
  | rule2 {s t e s₁ v s₂ w s₃ o} (hf:s.steps < fuel) (hk:3≤t.h.kind∧t.h.kind≤10∨t.h.kind=15) (hl:t.kids.length=2) (h:Big fuel (tick s) (kidAt t 0) e s₁ (.val v)) (h':Big fuel s₁ (kidAt t 1) e s₂ (.val w)) (h₂:Rend (rule s₂ t e [v,w]) s₃ o):Big fuel s t e s₃ o
  | call {s t e s₁ v s₂ w s₃ b e' s₄ o} (hf:s.steps < fuel) (hk:3≤t.h.kind∧t.h.kind≤10∨t.h.kind=15) (hl:t.kids.length=2) (h:Big fuel (tick s) (kidAt t 0) e s₁ (.val v)) (h':Big fuel s₁ (kidAt t 1) e s₂ (.val w)) (h₂:rule s₂ t e [v,w]=.ok (.node b e') s₃) (h₃:Big fuel s₃ b e' s₄ o):Big fuel s t e s₄ o
end Go.Abs.Mac
namespace Go.Abs.Mac
open Go Go.Abs Go.Abs.Stk Go.Abs.At
def nk (k:Int):Nat :=
  if k=3∨k=8∨k=9∨k=10∨k=12∨k=13∨k=16 then 2
  else if k=4∨k=5∨k=6∨k=7∨k=11∨k=15∨k=17 then 1
  else if k=14 then 3 else 0
inductive Wf:AT→Prop
  | mk {t:AT} (h1:1≤t.h.kind∧t.h.kind≤18) (h2:t.kids.length=nk t.h.kind) (h3:∀ c ∈ t.kids,Wf c) (h4:t.rhos.length≤1000000):Wf t
theorem Wf.kind {t:AT} (h:Wf t):1≤t.h.kind∧t.h.kind≤18:=by cases h;assumption
theorem Wf.len {t:AT} (h:Wf t):t.kids.length=nk t.h.kind:=by cases h;assumption
theorem Wf.kids {t:AT} (h:Wf t):∀ c ∈ t.kids,Wf c:=by cases h;assumption
theorem Wf.rhos {t:AT} (h:Wf t):t.rhos.length≤1000000:=by cases h;assumption
theorem kidAt_mem {t:AT} {i:Nat} (h:i < t.kids.length):kidAt t i ∈ t.kids:=by
  unfold kidAt
  rw [List.getElem?_eq_getElem h]
  exact List.getElem_mem h
theorem kid_lt {t c:AT} (h:c ∈ t.kids):c.size < t.size:=by
  obtain ⟨_,_,_,_,_,_,ks⟩:=t
  have:=AT.sizes_mem (show c ∈ ks from h)
  simp [AT.size];omega
theorem Wf.kid {t:AT} (h:Wf t) {i:Nat} (hi:i < nk t.h.kind):Wf (kidAt t i):=h.kids _ (kidAt_mem (by rw [h.len];exact hi))
theorem Wf.kid_lt {t:AT} (h:Wf t) {i:Nat} (hi:i < nk t.h.kind):(kidAt t i).size < t.size:=Mac.kid_lt (kidAt_mem (by rw [h.len];exact hi))
theorem nk_pos {k:Int} (h:k=17∨k=12∨k=13∨k=14∨k=16∨3≤k∧k≤10∨k=15∨k=11):0 < nk k:=by
  unfold nk;split
  · omega
  · split
    · omega
    · split <;> omega
theorem nk_two {k:Int} (h:k=12∨k=13∨k=14∨k=16):1 < nk k:=by
  unfold nk;split
  · omega
  · split
    · omega
    · split <;> omega
theorem nk_12 {k:Int} (h:3≤k∧k≤10∨k=15):nk k=1∨nk k=2:=by
  unfold nk;split
  · omega
  · split
    · omega
    · split <;> omega
theorem nk_if {k n:Int} (h:k=14):(if n ≠ 0 then 1 else 2) < nk k:=by
  subst h;unfold nk;simp;split <;> omega
structure Inv0 (I:Sa→Prop) (T:AT→Prop):Prop where
  kid:∀ {t i},T t→i < t.kids.length→T (kidAt t i)
  wf:∀ {t},T t→Wf t
  put:∀ {s r c v st},I s→c.kind ≠ 3→putS s.store r c=some (v,st)→I { s with store:=st }
  code:∀ {s c},I s→T c.body→I (coded s c).2
  codePut:∀ {s c r v st},I s→T c.body→putS s.store r (coded s c).1=some (v,st)→I { (coded s c).2 with store:=st }
  set:∀ {s v c},I s→c.kind=2→I { s with store:=setS s.store v c }
  body:∀ {s:Sa} {i:Nat} {f:Co},I s→s.codes[i]?=some f→T f.body
structure Inv (I:Sa→Prop) (T:AT→Prop):Prop extends Inv0 I T where
  tick:∀ {s},I s→I (tick s)
  push:∀ {s r st},I s→pushS s.store=some (r,st)→I { s with store:=st }
  pop:∀ {s},I s→I { s with store:=popS s.store }
  patch:∀ {s e},I s→I (patch s e)
def Re.all {α:Type} (p:Sa→Prop):Re α→Prop
  | .ok _ s=>p s
  | .over s _=>p s
theorem Re.all_bind {α β:Type} {p:Sa→Prop} {r:Re α} {f:α→Sa→Re β} (h:r.all p) (hf:∀ x s,r=.ok x s→p s→(f x s).all p):(r.bind f).all p:=by
  cases r with
  | ok x s=>exact hf x s rfl h
  | over s k=>exact h
theorem take_same {s v k} {p:Sa→Prop} (h:p s):(take s v k).all p:=by
  unfold take
  repeat' split
  all_goals exact h
theorem take_ok {s v k c s'} (h:take s v k=.ok c s'):s'=s∧c.kind=k∧cellAt s.store v=some c∧s.store.find v.kind v.n v.r v.a=0:=by
  unfold take at h
  split at h
  · split at h
    · cases h
    · split at h
      · rename_i h0
        split at h
        · split at h
          · rename_i hc hk;cases h;exact ⟨rfl,hk,hc,h0⟩
          · cases h
        · cases h
      · cases h
  · cases h
theorem number_same {s v} {p:Sa→Prop} (h:p s):(number s v).all p:=by
  unfold number;split <;> exact h
variable {I:Sa→Prop} {T:AT→Prop}
theorem Inv0.make (H:Inv0 I T) {s e rho c} (h:I s) (hc:c.kind ≠ 3):(make s e rho c).all I:=by
  unfold Mac.make
  split
  · split
    · rename_i hp;exact H.put h hc hp
    · exact h
  · exact h
theorem Inv0.codeR (H:Inv0 I T) {s e rho c} (h:I s) (hT:T c.body):(Mac.code s e rho c).all I:=by
  unfold Mac.code Mac.make
  split
  · split
    · rename_i hp;exact H.codePut h hT hp
    · exact H.code h hT
  · exact H.code h hT
theorem Inv0.instR (H:Inv0 I T) {s t e} (h:I s):(inst s t e).all I:=by
  unfold inst
  split
  · exact h
  · split
    · refine Re.all_bind (take_same h) fun c s' hr hs=>?_
      split
      · exact hs
      · rename_i f hf
        split
        · split
          · exact hs
          · exact H.codeR hs (H.body (f:=f) hs hf)
        · exact hs
    · exact h
theorem Inv0.leafR (H:Inv0 I T) {s t e} (h:I s) (hT:T t) (hk:isLeaf t.h.kind):(leaf s t e).all I:=by
  unfold leaf
  split
  · exact h
  · split
    · split
      · split <;> exact h
      · exact h
    · split
      · exact H.instR h
      · refine H.codeR h (H.kid hT ?_)
        rw [(H.wf hT).len]
        unfold isLeaf at hk
        exact nk_pos (by omega)
theorem Inv0.ruleR (H:Inv0 I T) {s t e vs} (h:I s):(rule s t e vs).all I:=by
  unfold rule
  split
  · exact Re.all_bind (H.make h (by simp)) fun _ _ _ hs=>hs
  split
  · exact Re.all_bind (take_same h) fun _ _ _ hs=>hs
  split
  · exact Re.all_bind (take_same h) fun _ _ _ hs=>hs
  split
  · exact Re.all_bind (H.make h (by simp)) fun _ _ _ hs=>hs
  split
  · exact Re.all_bind (take_same h) fun _ _ _ hs=>hs
  split
  · exact Re.all_bind (take_same h) fun _ _ _ hs=>H.set hs rfl
  split
  · exact Re.all_bind (number_same h) fun _ _ _ hs=>Re.all_bind (number_same hs) fun _ _ _ hs=>hs
  split
  · exact Re.all_bind (number_same h) fun _ _ _ hs=>hs
  · refine Re.all_bind (take_same h) fun _ _ _ hs=>?_
    split <;> exact hs
theorem rule_node {s t e vs b e' s'} (h:rule s t e vs=.ok (.node b e') s'):s'=s∧∃ c f,take s (at0 vs 0) 3=.ok c s∧s.codes[c.code.toNat]?=some f∧b=f.body∧e'=f.env.with f.arg (at0 vs 1) false∧¬ (3≤t.h.kind∧t.h.kind≤9∨t.h.kind=15):=by
  unfold rule at h
  split at h
  · cases hm:make s e t.rho ⟨1,at0 vs 0,at0 vs 1,0⟩ <;> rw [hm] at h <;> cases h
  split at h
  · cases hm:take s (at0 vs 0) 1 <;> rw [hm] at h <;> cases h
  split at h
  · cases hm:take s (at0 vs 0) 1 <;> rw [hm] at h <;> cases h
  split at h
  · cases hm:make s e t.rho ⟨2,at0 vs 0,V.zero,0⟩ <;> rw [hm] at h <;> cases h
  split at h
  · cases hm:take s (at0 vs 0) 2 <;> rw [hm] at h <;> cases h
  split at h
  · cases hm:take s (at0 vs 0) 2 <;> rw [hm] at h <;> cases h
  split at h
  · cases hm:number s (at0 vs 0) with
    | over=>rw [hm] at h;cases h
    | ok a s1 =>
      rw [hm] at h
      simp only [Re.bind] at h
      cases hn:number s1 (at0 vs 1) <;> rw [hn] at h <;> cases h
  split at h
  · cases hm:number s (at0 vs 0) <;> rw [hm] at h <;> cases h
  · cases hm:take s (at0 vs 0) 3 with
    | over=>rw [hm] at h;cases h
    | ok c s1 =>
      obtain ⟨rfl,_⟩:=take_ok hm
      rw [hm] at h
      simp only [Re.bind] at h
      split at h
      · cases h
      · rename_i f hf
        cases h
        exact ⟨rfl,c,f,rfl,hf,rfl,rfl,by omega⟩
theorem Rend.all {p:Sa→Prop} {r:Re Nx} {s o} (h:Rend r s o) (hr:r.all p):p s:=by cases h <;> exact hr
theorem Big.inv {fuel} (H:Inv I T) {s t e s' o} (h:Big fuel s t e s' o):I s→T t→I s':=by
  induction h with
  | full hk h=>exact fun h _=>h
  | @region s t e r st s' o hk h h' ih =>
    intro hs ht
    have:=ih (H.push hs h) (H.kid ht (by rw [(H.wf ht).len];exact nk_pos (by omega)))
    cases o <;> first | exact H.pop this | exact this
  | fuel hk h=>exact fun h _=>h
  | @leaf s t e s' v hf hk h =>
    intro hs ht
    have:=H.leafR (e:=e) (H.tick hs) ht hk
    rw [h] at this;exact this
  | @leafOver s t e s' k hf hk h =>
    intro hs ht
    have:=H.leafR (e:=e) (H.tick hs) ht hk
    rw [h] at this;exact this
  | letStop hf hk h ho ih=>exact fun hs ht=>ih (H.tick hs) (H.kid ht (by rw [(H.wf ht).len];exact nk_pos (by omega)))
  | let_ hf hk h h' ih ih' =>
    exact fun hs ht=>ih' (ih (H.tick hs) (H.kid ht (by rw [(H.wf ht).len];exact nk_pos (by omega)))) (H.kid ht (by rw [(H.wf ht).len];exact nk_two (by omega)))
  | @letrecOver s t e s' k hf hk h =>
    intro hs ht
    have:=H.codeR (e:=e) (rho:=t.rho) (H.tick hs) (c:=⟨kidAt t 0,t.h.arg,e,some t.rhos⟩) (H.kid ht (i:=0) (by rw [(H.wf ht).len];exact nk_pos (by omega)))
    rw [h] at this;exact this
  | @letrec s t e s' v s'' o hf hk h h' ih =>
    intro hs ht
    have:=H.codeR (e:=e) (rho:=t.rho) (H.tick hs) (c:=⟨kidAt t 0,t.h.arg,e,some t.rhos⟩) (H.kid ht (i:=0) (by rw [(H.wf ht).len];exact nk_pos (by omega)))
    rw [h] at this
    exact ih (H.patch this) (H.kid ht (by rw [(H.wf ht).len];exact nk_two (by omega)))
  | ifStop hf hk h ho ih=>exact fun hs ht=>ih (H.tick hs) (H.kid ht (by rw [(H.wf ht).len];exact nk_pos (by omega)))
  | ifStuck hf hk h hv ih=>exact fun hs ht=>ih (H.tick hs) (H.kid ht (by rw [(H.wf ht).len];exact nk_pos (by omega)))
  | if_ hf hk h hv h' ih ih' =>
    exact fun hs ht=>ih' (ih (H.tick hs) (H.kid ht (by rw [(H.wf ht).len];exact nk_pos (by omega)))) (H.kid ht (by rw [(H.wf ht).len];exact nk_if hk))
  | try_ hf hk h ho ih=>exact fun hs ht=>ih (H.tick hs) (H.kid ht (by rw [(H.wf ht).len];exact nk_pos (by omega)))
  | catch_ hf hk h h' ih ih' =>
    exact fun hs ht=>ih' (ih (H.tick hs) (H.kid ht (by rw [(H.wf ht).len];exact nk_pos (by omega)))) (H.kid ht (by rw [(H.wf ht).len];exact nk_two (by omega)))
  | stop1 hf hk h ho ih=>exact fun hs ht=>ih (H.tick hs) (H.kid ht (by rw [(H.wf ht).len];exact nk_pos (by omega)))
  | stop2 hf hk hl h h' ho ih ih'=>exact fun hs ht=>ih' (ih (H.tick hs) (H.kid ht (by omega))) (H.kid ht (by omega))
  | rule1 hf hk hl h h' ih=>exact fun hs ht=>h'.all (H.ruleR (ih (H.tick hs) (H.kid ht (by omega))))
  | rule2 hf hk hl h h' h2 ih ih'=>exact fun hs ht=>h2.all (H.ruleR (ih' (ih (H.tick hs) (H.kid ht (by omega))) (H.kid ht (by omega))))
  | call hf hk hl h h' h2 h3 ih ih' ih3 =>
    intro hs ht
    have h2':=ih' (ih (H.tick hs) (H.kid ht (by omega))) (H.kid ht (by omega))
    obtain ⟨rfl,c,f,_,hf',rfl,rfl,_⟩:=rule_node h2
    exact ih3 h2' (H.body h2' hf')
def CW (T:AT→Prop) (s:Sa):Prop:=∀ c ∈ s.codes,T c.body
theorem cw_inv (T:AT→Prop) (hk:∀ {t i},T t→i < t.kids.length→T (kidAt t i)) (hw:∀ {t},T t→Wf t):Inv (CW T) T where
  kid:=hk
  wf:=hw
  tick:=fun h=>h
  push:=fun h _=>h
  pop:=fun h=>h
  put:=fun h _ _=>h
  code:=@fun s c h hc x hx=>by
    have hx:=List.mem_append.1 (show x ∈ s.codes ++ [c] from hx)
    rw [List.mem_singleton] at hx
    rcases hx with hx | rfl
    · exact h x hx
    · exact hc
  codePut:=@fun s c r v st h hc _ x hx=>by
    have hx:=List.mem_append.1 (show x ∈ s.codes ++ [c] from hx)
    rw [List.mem_singleton] at hx
    rcases hx with hx | rfl
    · exact h x hx
    · exact hc
  set:=fun h _=>h
  patch:=fun {s e} h x hx=>by
    unfold Mac.patch at hx
    split at hx
    · rename_i c hc
      simp only [List.mem_append,List.mem_singleton] at hx
      rcases hx with hx | rfl
      · exact h x (List.dropLast_subset _ hx)
      · exact h c (List.mem_of_getLast? hc)
    · exact h x hx
  body:=fun h hi=>h _ (List.mem_of_getElem? hi)
def TN (N:Nat) (t:AT):Prop:=Wf t∧t.size≤N
theorem cwn_inv (N:Nat):Inv (CW (TN N)) (TN N) :=
  cw_inv (TN N) (fun h hi=>⟨h.1.kids _ (kidAt_mem hi),Nat.le_trans (Nat.le_of_lt (kid_lt (kidAt_mem hi))) h.2⟩) (fun h=>h.1)
theorem steps_inv (n:Nat) (N:Nat):Inv (fun s=>n≤s.steps∧CW (TN N) s) (TN N) where
  kid:=(cwn_inv N).kid
  wf:=(cwn_inv N).wf
  tick:=fun h=>⟨Nat.le_succ_of_le h.1,h.2⟩
  push:=fun h _=>h
  pop:=fun h=>h
  put:=fun h _ _=>h
  code:=fun h hc=>⟨h.1,(cwn_inv N).code h.2 hc⟩
  codePut:=fun h hc hp=>⟨h.1,(cwn_inv N).codePut h.2 hc hp⟩
  set:=fun h _=>h
  patch:=fun {s e} h=>⟨by unfold Mac.patch;split <;> exact h.1,(cwn_inv N).patch h.2⟩
  body:=fun h hi=>(cwn_inv N).body h.2 hi
theorem Big.steps_le {fuel N s t e s' o} (h:Big fuel s t e s' o) (hs:CW (TN N) s) (ht:TN N t):s.steps≤s'.steps∧CW (TN N) s' :=
  h.inv (steps_inv s.steps N) ⟨Nat.le_refl _,hs⟩ ht
theorem kinds {k:Int} (h:1≤k∧k≤18) (h17:k ≠ 17):isLeaf k∨k=12∨k=13∨k=14∨k=16∨(3≤k∧k≤10∨k=15):=by
  unfold isLeaf;omega
theorem code_pres {N s e rho c} (h:CW (TN N) s) (hT:TN N c.body):(Mac.code s e rho c).all (fun s'=>s'.steps=s.steps∧CW (TN N) s'):=by
  unfold Mac.code Mac.make
  split
  · split
    · rename_i hp;exact ⟨rfl,(cwn_inv N).codePut h hT hp⟩
    · exact ⟨rfl,(cwn_inv N).code h hT⟩
  · exact ⟨rfl,(cwn_inv N).code h hT⟩
theorem patch_steps (s e):(patch s e).steps=s.steps:=by unfold patch;split <;> rfl
theorem rend_or {r:Re Nx}:(∃ s o,Rend r s o)∨∃ b e s,r=.ok (.node b e) s:=by
  cases r with
  | ok x s=>cases x with
    | node b e=>exact .inr ⟨b,e,s,rfl⟩
    | val v=>exact .inl ⟨_,_,.val⟩
    | exn n x=>exact .inl ⟨_,_,.exn⟩
  | over s k=>exact .inl ⟨_,_,.over⟩
theorem total (fuel N:Nat):∀ (d m:Nat) s t e,fuel≤s.steps+d→t.size≤m→TN N t→CW (TN N) s→∃ s' o,Big fuel s t e s' o:=by
  intro d
  induction d with
  | zero =>
    intro m
    induction m with
    | zero=>intro s t e hd hm;have:=t.size_pos;omega
    | succ m ihm =>
      intro s t e hd hm ht hs
      by_cases h17:t.h.kind=17
      · cases hp:pushS s.store with
        | none=>exact ⟨_,_,.full h17 hp⟩
        | some p =>
          obtain ⟨r,st⟩:=p
          have h0:0 < nk t.h.kind:=nk_pos (by omega)
          obtain ⟨s',o,h⟩:=ihm { s with store:=st } (kidAt t 0) (e.opn t.rho r) hd (by have:=ht.1.kid_lt h0;omega) ((cwn_inv N).kid ht (by rw [ht.1.len];exact h0)) hs
          exact ⟨_,_,.region h17 hp h⟩
      · exact ⟨_,_,.fuel h17 (by omega)⟩
  | succ d ihd =>
    intro m
    induction m with
    | zero=>intro s t e hd hm;have:=t.size_pos;omega
    | succ m ihm =>
      intro s t e hd hm ht hs
      have K:=fun {i:Nat} (hi:i < nk t.h.kind)=>(cwn_inv N).kid (i:=i) ht (by rw [ht.1.len];exact hi)
      by_cases h17:t.h.kind=17
      · cases hp:pushS s.store with
        | none=>exact ⟨_,_,.full h17 hp⟩
        | some p =>
          obtain ⟨r,st⟩:=p
          have h0:0 < nk t.h.kind:=nk_pos (by omega)
          obtain ⟨s',o,h⟩:=ihm { s with store:=st } (kidAt t 0) (e.opn t.rho r) hd (by have:=ht.1.kid_lt h0;omega) (K h0) hs
          exact ⟨_,_,.region h17 hp h⟩
      by_cases hf:s.steps < fuel
      case neg=>exact ⟨_,_,.fuel h17 (by omega)⟩
      have ih:∀ s₁ t₁ e₁,s.steps+1≤s₁.steps→TN N t₁→CW (TN N) s₁→∃ s' o,Big fuel s₁ t₁ e₁ s' o∧s.steps+1≤s'.steps∧CW (TN N) s':=by
        intro s₁ t₁ e₁ h1 h2 h3
        obtain ⟨s',o,h⟩:=ihd t₁.size s₁ t₁ e₁ (by omega) (Nat.le_refl _) h2 h3
        have:=h.steps_le h3 h2
        exact ⟨s',o,h,by omega,this.2⟩
      have hst:CW (TN N) (tick s):=hs
      have hti:s.steps+1≤(tick s).steps:=Nat.le_refl _
      rcases kinds ht.1.kind h17 with hk | hk | hk | hk | hk | hk
      · cases hl:leaf (tick s) t e with
        | ok v s'=>exact ⟨_,_,.leaf hf hk hl⟩
        | over s' k=>exact ⟨_,_,.leafOver hf hk hl⟩
      · obtain ⟨s₁,o,h,h1,h2⟩:=ih (tick s) (kidAt t 0) e hti (K (nk_pos (by omega))) hst
        cases o with
        | val v =>
          obtain ⟨s₂,o,h',_,_⟩:=ih s₁ (kidAt t 1) (e.with t.h.name v false) h1 (K (nk_two (by omega))) h2
          exact ⟨_,_,.let_ hf hk h h'⟩
        | exn n x=>exact ⟨_,_,.letStop hf hk h (by simp [Out.isVal])⟩
        | over k=>exact ⟨_,_,.letStop hf hk h (by simp [Out.isVal])⟩
      · have:=code_pres (e:=e) (rho:=t.rho) (c:=⟨kidAt t 0,t.h.arg,e,some t.rhos⟩) hst (K (nk_pos (by omega)))
        cases hl:code (tick s) e t.rho ⟨kidAt t 0,t.h.arg,e,some t.rhos⟩ with
        | ok v s' =>
          rw [hl] at this
          obtain ⟨s₂,o,h',_,_⟩:=ih (patch s' (e.with t.h.name v true)) (kidAt t 1) (e.with t.h.name v true) (by rw [patch_steps,this.1];exact hti) (K (nk_two (by omega))) ((cwn_inv N).patch this.2)
          exact ⟨_,_,.letrec hf hk hl h'⟩
        | over s' k=>exact ⟨_,_,.letrecOver hf hk hl⟩
      · obtain ⟨s₁,o,h,h1,h2⟩:=ih (tick s) (kidAt t 0) e hti (K (nk_pos (by omega))) hst
        cases o with
        | val v =>
          by_cases hv:v.kind=1
          · obtain ⟨s₂,o,h',_,_⟩:=ih s₁ (kidAt t (if v.n ≠ 0 then 1 else 2)) e h1 (K (nk_if hk)) h2
            exact ⟨_,_,.if_ hf hk h hv h'⟩
          · exact ⟨_,_,.ifStuck hf hk h hv⟩
        | exn n x=>exact ⟨_,_,.ifStop hf hk h (by simp [Out.isVal])⟩
        | over k=>exact ⟨_,_,.ifStop hf hk h (by simp [Out.isVal])⟩
      · obtain ⟨s₁,o,h,h1,h2⟩:=ih (tick s) (kidAt t 0) e hti (K (nk_pos (by omega))) hst
        by_cases ho:∃ n,o=.exn n t.h.exn
        · obtain ⟨n,rfl⟩:=ho
          obtain ⟨s₂,o,h',_,_⟩:=ih s₁ (kidAt t 1) (e.with t.h.arg (num n) false) h1 (K (nk_two (by omega))) h2
          exact ⟨_,_,.catch_ hf hk h h'⟩
        · exact ⟨_,_,.try_ hf hk h (fun n e=>ho ⟨n,e⟩)⟩
      · obtain ⟨s₁,o,h,h1,h2⟩:=ih (tick s) (kidAt t 0) e hti (K (nk_pos (by omega))) hst
        cases o with
        | val v =>
          rcases nk_12 hk with hn | hn
          · have hl:t.kids.length=1:=by rw [ht.1.len,hn]
            rcases rend_or (r:=rule s₁ t e [v]) with ⟨s',o,h'⟩ | ⟨b,e',s',h'⟩
            · exact ⟨_,_,.rule1 hf hk hl h h'⟩
            · exfalso
              have h10:t.h.kind ≠ 10:=by intro e;rw [e] at hn;simp [nk] at hn
              obtain ⟨_,_,_,_,_,_,_,hno⟩:=rule_node h'
              omega
          · have hl:t.kids.length=2:=by rw [ht.1.len,hn]
            obtain ⟨s₂,o,h',h3,h4⟩:=ih s₁ (kidAt t 1) e h1 (K (by omega)) h2
            cases o with
            | val w =>
              rcases rend_or (r:=rule s₂ t e [v,w]) with ⟨s',o,h'2⟩ | ⟨b,e',s',h'2⟩
              · exact ⟨_,_,.rule2 hf hk hl h h' h'2⟩
              · obtain ⟨rfl,c,f,_,hf',rfl,rfl,_⟩:=rule_node h'2
                obtain ⟨s₃,o,h5,_,_⟩:=ih s' f.body (f.env.with f.arg (at0 [v,w] 1) false) h3 ((cwn_inv N).body h4 hf') h4
                exact ⟨_,_,.call hf hk hl h h' h'2 h5⟩
            | exn n x=>exact ⟨_,_,.stop2 hf hk hl h h' (by simp [Out.isVal])⟩
            | over k=>exact ⟨_,_,.stop2 hf hk hl h h' (by simp [Out.isVal])⟩
        | exn n x=>exact ⟨_,_,.stop1 hf hk h (by simp [Out.isVal])⟩
        | over k=>exact ⟨_,_,.stop1 hf hk h (by simp [Out.isVal])⟩
theorem popS_len (s:SG Cl):(popS s).L.length=s.L.length:=by
  unfold popS
  split
  · rfl
  · split
    · simp [SG.less]
    · rfl
theorem putS_len {s:SG Cl} {r c v st} (h:putS s r c=some (v,st)):st.L.length=s.L.length:=by
  unfold putS at h
  split at h
  · cases h
  · split at h
    · cases h
    · cases h;simp [SG.putC]
theorem setS_len (s:SG Cl) (v c):(setS s v c).L.length=s.L.length:=by
  unfold setS
  split
  · simp [SG.put]
  · rfl
theorem pushS_len {s:SG Cl} {r st} (h:pushS s=some (r,st)):st.L.length=s.L.length+1:=by
  unfold pushS at h
  split at h
  · cases h;simp [SG.more]
  · cases h
theorem same_inv (N n m:Nat):Inv0 (fun s=>s.store.L.length=n∧s.steps=m∧CW (TN N) s) (TN N) where
  kid:=(cwn_inv N).kid
  wf:=(cwn_inv N).wf
  put:=fun h _ hp=>⟨(putS_len hp).trans h.1,h.2⟩
  code:=fun h hc=>⟨h.1,h.2.1,(cwn_inv N).code h.2.2 hc⟩
  codePut:=fun h hc hp=>⟨(putS_len hp).trans h.1,h.2.1,(cwn_inv N).codePut h.2.2 hc hp⟩
  set:=fun h _=>⟨(setS_len _ _ _).trans h.1,h.2⟩
  body:=fun h hi=>(cwn_inv N).body h.2.2 hi
theorem popO_same (o:Out) (s:Sa):(popO o s).store.L.length=s.store.L.length∧(popO o s).steps=s.steps∧(popO o s).codes=s.codes:=by
  cases o <;> simp [popO,popS_len]
theorem patch_store (s e):(patch s e).store=s.store:=by unfold patch;split <;> rfl
theorem TN.kidN {N t i} (h:TN N t) (hi:i < nk t.h.kind):TN N (kidAt t i)∧(kidAt t i).size≤N :=
  have:=(cwn_inv N).kid h (by rw [h.1.len];exact hi)
  ⟨this,this.2⟩
theorem arith {a b c d e:Nat} (h:a+1≤b) (h':c≤d+e * 3+3 * e * (b - (a+1))):c≤d+3 * e * (b - a):=by
  have:b - a=(b - (a+1))+1:=by omega
  rw [this,Nat.mul_add];omega
theorem step3 {N a b c d x y:Nat} (h1:x≤a+N+3 * N * (c - b)) (h2:y≤x+N+3 * N * (d - c)) (hbc:b≤c) (hcd:c≤d):y≤a+N+N+3 * N * (d - b):=by
  have:d - b=(c - b)+(d - c):=by omega
  rw [this,Nat.mul_add];omega
theorem Big.regions {fuel N s t e s' o} (h:Big fuel s t e s' o):CW (TN N) s→TN N t→s'.store.L.length≤s.store.L.length+t.size+3 * N * (s'.steps - s.steps)∧s.steps≤s'.steps∧CW (TN N) s'∧(t.h.kind ≠ 17→s'.store.L.length≤s.store.L.length+3 * N * (s'.steps - s.steps)):=by
  induction h with
  | full hk h=>exact fun hs ht=>⟨by omega,Nat.le_refl _,hs,fun h=>absurd hk h⟩
  | @region s t e r st s' o hk h h' ih =>
    intro hs ht
    have h0:0 < nk t.h.kind:=nk_pos (by omega)
    have hp:=pushS_len h
    have hlt:=ht.1.kid_lt h0
    obtain ⟨h1,h2,h3,_⟩:=ih hs (ht.kidN h0).1
    obtain ⟨p1,p2,p3⟩:=popO_same o s'
    simp only at h1 h2
    refine ⟨?_,by rw [p2];exact h2,by unfold CW;rw [p3];exact h3,fun h=>absurd hk h⟩
    rw [p1,p2];omega
  | fuel hk h=>exact fun hs ht=>⟨by omega,Nat.le_refl _,hs,fun _=>by omega⟩
  | @leaf s t e s' v hf hk h =>
    intro hs ht
    have:=(same_inv N s.store.L.length (s.steps+1)).leafR (s:=tick s) (e:=e) ⟨rfl,rfl,hs⟩ ht hk
    rw [h] at this
    obtain ⟨h1,h2,h3⟩:=this
    exact ⟨by omega,by omega,h3,fun _=>by omega⟩
  | @leafOver s t e s' k hf hk h =>
    intro hs ht
    have:=(same_inv N s.store.L.length (s.steps+1)).leafR (s:=tick s) (e:=e) ⟨rfl,rfl,hs⟩ ht hk
    rw [h] at this
    obtain ⟨h1,h2,h3⟩:=this
    exact ⟨by omega,by omega,h3,fun _=>by omega⟩
  | @letStop s t e s' o hf hk h ho ih =>
    intro hs ht
    obtain ⟨k0,z0⟩:=ht.kidN (i:=0) (nk_pos (by omega))
    obtain ⟨h1,h2,h3,_⟩:=ih hs k0
    have h2':s.steps+1≤s'.steps:=h2
    have:=arith (e:=N) h2' (show s'.store.L.length≤s.store.L.length+N * 3+_ from by have:s'.store.L.length≤s.store.L.length+(kidAt t 0).size+3 * N * (s'.steps - (s.steps+1)):=h1;omega)
    exact ⟨by omega,by omega,h3,fun _=>this⟩
  | @let_ s t e s' v s'' o hf hk h h' ih ih' =>
    intro hs ht
    obtain ⟨k0,z0⟩:=ht.kidN (i:=0) (nk_pos (by omega))
    obtain ⟨h1,h2,h3,_⟩:=ih hs k0
    have h2':s.steps+1≤s'.steps:=h2
    have h1':s'.store.L.length≤s.store.L.length+(kidAt t 0).size+3 * N * (s'.steps - (s.steps+1)):=h1
    obtain ⟨k1,z1⟩:=ht.kidN (i:=1) (nk_two (by omega))
    obtain ⟨g1,g2,g3,_⟩:=ih' h3 k1
    have f:=step3 (N:=N) (show s'.store.L.length≤s.store.L.length+N+3 * N * (s'.steps - (s.steps+1)) from by omega) (show s''.store.L.length≤s'.store.L.length+N+3 * N * (s''.steps - s'.steps) from by omega) h2' g2
    have:=arith (e:=N) (Nat.le_trans h2' g2) (show s''.store.L.length≤s.store.L.length+N * 3+_ from by omega)
    exact ⟨by omega,by omega,g3,fun _=>this⟩
  | @letrecOver s t e s' k hf hk h =>
    intro hs ht
    have:=(same_inv N s.store.L.length (s.steps+1)).codeR (s:=tick s) (e:=e) (rho:=t.rho) (c:=⟨kidAt t 0,t.h.arg,e,some t.rhos⟩) ⟨rfl,rfl,hs⟩ (ht.kidN (i:=0) (nk_pos (by omega))).1
    rw [h] at this
    obtain ⟨h1,h2,h3⟩:=this
    exact ⟨by omega,by omega,h3,fun _=>by omega⟩
  | @letrec s t e s' v s'' o hf hk h h' ih =>
    intro hs ht
    have:=(same_inv N s.store.L.length (s.steps+1)).codeR (s:=tick s) (e:=e) (rho:=t.rho) (c:=⟨kidAt t 0,t.h.arg,e,some t.rhos⟩) ⟨rfl,rfl,hs⟩ (ht.kidN (i:=0) (nk_pos (by omega))).1
    rw [h] at this
    obtain ⟨h1,h2,h3⟩:=this
    obtain ⟨k1,z1⟩:=ht.kidN (i:=1) (nk_two (by omega))
    obtain ⟨g1,g2,g3,_⟩:=ih ((cwn_inv N).patch h3) k1
    rw [patch_store,patch_steps] at g1
    rw [patch_steps] at g2
    have:=arith (a:=s.steps) (e:=N) (by omega) (show s''.store.L.length≤s.store.L.length+N * 3+3 * N * (s''.steps - (s.steps+1)) from by rw [h1,h2] at g1;omega)
    exact ⟨by omega,by omega,g3,fun _=>this⟩
  | @ifStop s t e s' o hf hk h ho ih =>
    intro hs ht
    obtain ⟨k0,z0⟩:=ht.kidN (i:=0) (nk_pos (by omega))
    obtain ⟨h1,h2,h3,_⟩:=ih hs k0
    have h2':s.steps+1≤s'.steps:=h2
    have h1':s'.store.L.length≤s.store.L.length+(kidAt t 0).size+3 * N * (s'.steps - (s.steps+1)):=h1
    have:=arith (e:=N) h2' (show s'.store.L.length≤s.store.L.length+N * 3+_ from by omega)
    exact ⟨by omega,by omega,h3,fun _=>this⟩
  | @ifStuck s t e s' v hf hk h hv ih =>
    intro hs ht
    obtain ⟨k0,z0⟩:=ht.kidN (i:=0) (nk_pos (by omega))
    obtain ⟨h1,h2,h3,_⟩:=ih hs k0
    have h2':s.steps+1≤s'.steps:=h2
    have h1':s'.store.L.length≤s.store.L.length+(kidAt t 0).size+3 * N * (s'.steps - (s.steps+1)):=h1
    have:=arith (e:=N) h2' (show s'.store.L.length≤s.store.L.length+N * 3+_ from by omega)
    exact ⟨by omega,by omega,h3,fun _=>this⟩
  | @if_ s t e s' v s'' o hf hk h hv h' ih ih' =>
    intro hs ht
    obtain ⟨k0,z0⟩:=ht.kidN (i:=0) (nk_pos (by omega))
    obtain ⟨h1,h2,h3,_⟩:=ih hs k0
    have h2':s.steps+1≤s'.steps:=h2
    have h1':s'.store.L.length≤s.store.L.length+(kidAt t 0).size+3 * N * (s'.steps - (s.steps+1)):=h1
    obtain ⟨k1,z1⟩:=ht.kidN (i:=if v.n ≠ 0 then 1 else 2) (nk_if hk)
    obtain ⟨g1,g2,g3,_⟩:=ih' h3 k1
    have f:=step3 (N:=N) (show s'.store.L.length≤s.store.L.length+N+3 * N * (s'.steps - (s.steps+1)) from by omega) (show s''.store.L.length≤s'.store.L.length+N+3 * N * (s''.steps - s'.steps) from by omega) h2' g2
    have:=arith (e:=N) (Nat.le_trans h2' g2) (show s''.store.L.length≤s.store.L.length+N * 3+_ from by omega)
    exact ⟨by omega,by omega,g3,fun _=>this⟩
  | @try_ s t e s' o hf hk h ho ih =>
    intro hs ht
    obtain ⟨k0,z0⟩:=ht.kidN (i:=0) (nk_pos (by omega))
    obtain ⟨h1,h2,h3,_⟩:=ih hs k0
    have h2':s.steps+1≤s'.steps:=h2
    have h1':s'.store.L.length≤s.store.L.length+(kidAt t 0).size+3 * N * (s'.steps - (s.steps+1)):=h1
    have:=arith (e:=N) h2' (show s'.store.L.length≤s.store.L.length+N * 3+_ from by omega)
    exact ⟨by omega,by omega,h3,fun _=>this⟩
  | @catch_ s t e s' n s'' o hf hk h h' ih ih' =>
    intro hs ht
    obtain ⟨k0,z0⟩:=ht.kidN (i:=0) (nk_pos (by omega))
    obtain ⟨h1,h2,h3,_⟩:=ih hs k0
    have h2':s.steps+1≤s'.steps:=h2
    have h1':s'.store.L.length≤s.store.L.length+(kidAt t 0).size+3 * N * (s'.steps - (s.steps+1)):=h1
    obtain ⟨k1,z1⟩:=ht.kidN (i:=1) (nk_two (by omega))
    obtain ⟨g1,g2,g3,_⟩:=ih' h3 k1
    have f:=step3 (N:=N) (show s'.store.L.length≤s.store.L.length+N+3 * N * (s'.steps - (s.steps+1)) from by omega) (show s''.store.L.length≤s'.store.L.length+N+3 * N * (s''.steps - s'.steps) from by omega) h2' g2
    have:=arith (e:=N) (Nat.le_trans h2' g2) (show s''.store.L.length≤s.store.L.length+N * 3+_ from by omega)
    exact ⟨by omega,by omega,g3,fun _=>this⟩
  | @stop1 s t e s' o hf hk h ho ih =>
    intro hs ht
    obtain ⟨k0,z0⟩:=ht.kidN (i:=0) (nk_pos (by omega))
    obtain ⟨h1,h2,h3,_⟩:=ih hs k0
    have h2':s.steps+1≤s'.steps:=h2
    have h1':s'.store.L.length≤s.store.L.length+(kidAt t 0).size+3 * N * (s'.steps - (s.steps+1)):=h1
    have:=arith (e:=N) h2' (show s'.store.L.length≤s.store.L.length+N * 3+_ from by omega)
    exact ⟨by omega,by omega,h3,fun _=>this⟩
  | @stop2 s t e s' v s'' o hf hk hl h h' ho ih ih' =>
    intro hs ht
    obtain ⟨k0,z0⟩:=ht.kidN (i:=0) (nk_pos (by omega))
    obtain ⟨h1,h2,h3,_⟩:=ih hs k0
    have h2':s.steps+1≤s'.steps:=h2
    have h1':s'.store.L.length≤s.store.L.length+(kidAt t 0).size+3 * N * (s'.steps - (s.steps+1)):=h1
    obtain ⟨k1,z1⟩:=ht.kidN (i:=1) (by rw [← ht.1.len];omega)
    obtain ⟨g1,g2,g3,_⟩:=ih' h3 k1
    have f:=step3 (N:=N) (show s'.store.L.length≤s.store.L.length+N+3 * N * (s'.steps - (s.steps+1)) from by omega) (show s''.store.L.length≤s'.store.L.length+N+3 * N * (s''.steps - s'.steps) from by omega) h2' g2
    have:=arith (e:=N) (Nat.le_trans h2' g2) (show s''.store.L.length≤s.store.L.length+N * 3+_ from by omega)
    exact ⟨by omega,by omega,g3,fun _=>this⟩
  | @rule1 s t e s' v s₂ o hf hk hl h h' ih =>
    intro hs ht
    obtain ⟨k0,z0⟩:=ht.kidN (i:=0) (nk_pos (by omega))
    obtain ⟨h1,h2,h3,_⟩:=ih hs k0
    have h2':s.steps+1≤s'.steps:=h2
    have h1':s'.store.L.length≤s.store.L.length+(kidAt t 0).size+3 * N * (s'.steps - (s.steps+1)):=h1
    have hr:=(same_inv N s'.store.L.length s'.steps).ruleR (s:=s') (t:=t) (e:=e) (vs:=[v]) ⟨rfl,rfl,h3⟩
    obtain ⟨r1,r2,r3⟩:=h'.all hr
    have:=arith (e:=N) h2' (show s'.store.L.length≤s.store.L.length+N * 3+_ from by omega)
    exact ⟨by rw [r1,r2];omega,by omega,r3,fun _=>by rw [r1,r2];exact this⟩
  | @rule2 s t e s' v s'' w s₃ o hf hk hl h h' h₂ ih ih' =>
    intro hs ht
    obtain ⟨k0,z0⟩:=ht.kidN (i:=0) (nk_pos (by omega))
    obtain ⟨h1,h2,h3,_⟩:=ih hs k0
    have h2':s.steps+1≤s'.steps:=h2
    have h1':s'.store.L.length≤s.store.L.length+(kidAt t 0).size+3 * N * (s'.steps - (s.steps+1)):=h1
    obtain ⟨k1,z1⟩:=ht.kidN (i:=1) (by rw [← ht.1.len];omega)
    obtain ⟨g1,g2,g3,_⟩:=ih' h3 k1
    have f:=step3 (N:=N) (show s'.store.L.length≤s.store.L.length+N+3 * N * (s'.steps - (s.steps+1)) from by omega) (show s''.store.L.length≤s'.store.L.length+N+3 * N * (s''.steps - s'.steps) from by omega) h2' g2
    have hr:=(same_inv N s''.store.L.length s''.steps).ruleR (s:=s'') (t:=t) (e:=e) (vs:=[v,w]) ⟨rfl,rfl,g3⟩
    obtain ⟨r1,r2,r3⟩:=h₂.all hr
    have:=arith (e:=N) (Nat.le_trans h2' g2) (show s''.store.L.length≤s.store.L.length+N * 3+_ from by omega)
    exact ⟨by rw [r1,r2];omega,by omega,r3,fun _=>by rw [r1,r2];exact this⟩
  | @call s t e s' v s'' w s₃ b e' s₄ o hf hk hl h h' h₂ h₃ ih ih' ih₃ =>
    intro hs ht
    obtain ⟨k0,z0⟩:=ht.kidN (i:=0) (nk_pos (by omega))
    obtain ⟨h1,h2,h3,_⟩:=ih hs k0
    have h2':s.steps+1≤s'.steps:=h2
    have h1':s'.store.L.length≤s.store.L.length+(kidAt t 0).size+3 * N * (s'.steps - (s.steps+1)):=h1
    obtain ⟨k1,z1⟩:=ht.kidN (i:=1) (by rw [← ht.1.len];omega)
    obtain ⟨g1,g2,g3,_⟩:=ih' h3 k1
    have f:=step3 (N:=N) (show s'.store.L.length≤s.store.L.length+N+3 * N * (s'.steps - (s.steps+1)) from by omega) (show s''.store.L.length≤s'.store.L.length+N+3 * N * (s''.steps - s'.steps) from by omega) h2' g2
    obtain ⟨rfl,c,fn,_,hf',rfl,rfl,_⟩:=rule_node h₂
    have tb:=(cwn_inv N).body g3 hf'
    obtain ⟨i1,i2,i3,_⟩:=ih₃ g3 tb
    have zb:=tb.2
    have f':=step3 (N:=N) (a:=s.store.L.length+N) (b:=s.steps+1) (c:=s₃.steps) (d:=s₄.steps) (x:=s₃.store.L.length) (y:=s₄.store.L.length) (by omega) (by omega) (Nat.le_trans h2' g2) i2
    have:=arith (e:=N) (Nat.le_trans (Nat.le_trans h2' g2) i2) (show s₄.store.L.length≤s.store.L.length+N * 3+_ from by omega)
    exact ⟨by omega,by omega,i3,fun _=>this⟩
end Go.Abs.Mac
namespace Go.Abs.Mac
open Go Go.Abs Go.Abs.Stk Go.Abs.At
structure SOk (s:SG Cl):Prop where
  R:1≤s.R∧s.R≤1048576
  C:0≤s.C∧s.C≤4194304
  live:s.live.length≤s.R
  cells:s.cells≤s.C
  most:s.cells≤s.most∧s.most≤s.C
theorem pushS_ok {s:SG Cl} {r st} (h:pushS s=some (r,st)):(s.live.length:Int) < s.R∧r=s.L.length∧st=s.more:=by
  unfold pushS at h
  split at h
  · cases h;exact ⟨by assumption,rfl,rfl⟩
  · cases h
theorem SOk.push {s:SG Cl} (h:SOk s) {r st} (hp:pushS s=some (r,st)):SOk st:=by
  obtain ⟨h1,rfl,rfl⟩:=pushS_ok hp
  refine ⟨h.R,h.C,?_,?_,?_⟩
  · rw [SG.live_more];simp;exact h1
  · rw [SG.cells_more];exact h.cells
  · rw [SG.cells_more];exact h.most
theorem SOk.pop {s:SG Cl} (h:SOk s):SOk (popS s):=by
  unfold popS
  split
  · exact h
  · split
    · rename_i i hi
      obtain ⟨c,hc⟩:=SG.last_mem hi
      have h1:=SG.cells_less hc
      have h2:=h.live
      have h3:=h.cells
      have h4:=h.most
      refine ⟨h.R,h.C,?_,?_,?_⟩
      · rw [SG.live_less hi,List.length_dropLast];show ((s.live.length - 1:Nat):Int)≤s.R;omega
      · show ((s.less i).cells:Int)≤s.C;omega
      · show ((s.less i).cells:Int)≤s.most∧s.most≤s.C;omega
    · exact h
theorem putS_some {s:SG Cl} {r c v st} (h:putS s r c=some (v,st)):∃ (i:Nat) (row:List Cl),r=i∧s.L[i]?=some (true,row)∧(s.cells:Int) < s.C∧v=⟨2,0,r,row.length⟩∧st=s.putC i row c:=by
  unfold putS at h
  split at h
  · cases h
  · rename_i row hr
    obtain ⟨i,rfl,h1,h2⟩:=SG.row_nat hr
    split at h
    · cases h
    · cases h
      exact ⟨i,row,rfl,h1,by omega,rfl,rfl⟩
theorem SG.putC_cells {α} {s:SG α} {i:Nat} {row:List α} (h:s.L[i]?=some (true,row)) (c:α):(s.putC i row c).cells=s.cells+1:=by
  have:=SG.cells_put (c':=row ++ [c]) h
  have e:(s.putC i row c).cells=(s.put i (row ++ [c])).cells:=rfl
  rw [e];simp at this;omega
theorem SG.putC_live {α} {s:SG α} {i:Nat} {row:List α} (h:s.L[i]?=some (true,row)) (c:α):(s.putC i row c).live=s.live:=idx_set h
theorem SOk.put {s:SG Cl} (h:SOk s) {r c v st} (hp:putS s r c=some (v,st)):SOk st:=by
  obtain ⟨i,row,rfl,h1,h2,_,rfl⟩:=putS_some hp
  have h3:=h.most
  refine ⟨h.R,h.C,?_,?_,?_⟩
  · rw [SG.putC_live h1];exact h.live
  · rw [SG.putC_cells h1];show ((s.cells+1:Nat):Int)≤s.C;omega
  · rw [SG.putC_cells h1]
    show ((s.cells+1:Nat):Int)≤(if s.most < s.cells+1 then (s.cells:Int)+1 else s.most)∧(if s.most < s.cells+1 then (s.cells:Int)+1 else s.most)≤s.C
    split <;> omega
theorem setS_live (s:SG Cl) (v c):(setS s v c).live=s.live∧(setS s v c).cells=s.cells∧(setS s v c).R=s.R∧(setS s v c).C=s.C∧(setS s v c).most=s.most:=by
  unfold setS
  split
  · rename_i row hr
    obtain ⟨i,e,h1,h2⟩:=SG.row_nat hr
    rw [e]
    have hc:=SG.cells_put (c':=row.set v.a.toNat c) h1
    simp at hc
    exact ⟨SG.live_put h1,by simpa using hc,rfl,rfl,rfl⟩
  · exact ⟨rfl,rfl,rfl,rfl,rfl⟩
theorem SOk.set {s:SG Cl} (h:SOk s) (v c):SOk (setS s v c):=by
  obtain ⟨h1,h2,h3,h4,h5⟩:=setS_live s v c
  exact ⟨by rw [h3];exact h.R,by rw [h4];exact h.C,by rw [h1,h3];exact h.live,by rw [h2,h4];exact h.cells,by rw [h2,h5,h4];exact h.most⟩
def IdxOk (s:Sa):Prop:=∀ (i:Nat) (row:List Cl) (c:Cl),s.store.L[i]?=some (true,row)→c ∈ row→c.kind=3→0≤c.code∧c.code < s.codes.length
theorem IdxOk.mono {s s':Sa} (h:IdxOk s) (hL:∀ (i:Nat) (row:List Cl) (c:Cl),s'.store.L[i]?=some (true,row)→c ∈ row→c.kind=3→(∃ row',s.store.L[i]?=some (true,row')∧c ∈ row')∨(0≤c.code∧c.code < s'.codes.length)) (hc:s.codes.length≤s'.codes.length):IdxOk s':=by
  intro i row c h1 h2 h3
  rcases hL i row c h1 h2 h3 with ⟨row',h4,h5⟩ | h4
  · have:=h i row' c h4 h5 h3;omega
  · exact h4
theorem more_get {s:SG Cl} {i:Nat} {row:List Cl} (h:(s.more).L[i]?=some (true,row)):s.L[i]?=some (true,row)∨row=[]:=by
  have h:(s.L ++ [(true,[])])[i]?=some (true,row):=h
  by_cases hi:i < s.L.length
  · rw [List.getElem?_append_left hi] at h;exact .inl h
  · rw [List.getElem?_append_right (by omega)] at h
    cases hh:i - s.L.length with
    | zero=>rw [hh] at h;simp at h;exact .inr h
    | succ n=>rw [hh] at h;simp at h
theorem set_get {l:List (Bool × List Cl)} {i j:Nat} {x:Bool × List Cl} {row:List Cl} (h:(l.set j x)[i]?=some (true,row)):(i ≠ j∧l[i]?=some (true,row))∨(i=j∧x=(true,row)):=by
  by_cases e:i=j
  · subst e
    have hl:i < l.length:=by have:=(List.getElem?_eq_some_iff.1 h).1;simpa using this
    rw [List.getElem?_set_self hl] at h
    exact .inr ⟨rfl,by simpa using h⟩
  · rw [List.getElem?_set_ne (Ne.symm e)] at h
    exact .inl ⟨e,h⟩
theorem pop_get {s:SG Cl} {i:Nat} {row:List Cl} (h:(popS s).L[i]?=some (true,row)):s.L[i]?=some (true,row):=by
  unfold popS at h
  split at h
  · exact h
  · split at h
    · rcases set_get h with h | ⟨_,h⟩
      · exact h.2
      · cases h
    · exact h
theorem put_get {s:SG Cl} {r:Int} {c:Cl} {v:V} {st:SG Cl} {i:Nat} {row:List Cl} (hp:putS s r c=some (v,st)) (h:st.L[i]?=some (true,row)):∀ x ∈ row,x=c∨∃ row',s.L[i]?=some (true,row')∧x ∈ row':=by
  obtain ⟨j,row0,rfl,h1,h2,_,rfl⟩:=putS_some hp
  intro x hx
  have h:(s.L.set j (true,row0 ++ [c]))[i]?=some (true,row):=h
  rcases set_get h with h | ⟨ij,e⟩
  · exact .inr ⟨row,h.2,hx⟩
  · have e:=(Prod.mk.injEq .. ▸ e).2
    subst e
    rcases List.mem_append.1 hx with hx | hx
    · exact .inr ⟨row0,ij ▸ h1,hx⟩
    · exact .inl (by simpa using hx)
theorem sset_get {s:SG Cl} {v:V} {c:Cl} {i:Nat} {row:List Cl} (h:(setS s v c).L[i]?=some (true,row)):∀ x ∈ row,x=c∨∃ row',s.L[i]?=some (true,row')∧x ∈ row':=by
  intro x hx
  unfold setS at h
  split at h
  · rename_i row0 hr
    obtain ⟨j,e,h1,h2⟩:=SG.row_nat hr
    rw [e] at h
    have h:(s.L.set j (true,row0.set v.a.toNat c))[i]?=some (true,row):=h
    rcases set_get h with h | ⟨ij,e⟩
    · exact .inr ⟨row,h.2,hx⟩
    · have e:=(Prod.mk.injEq .. ▸ e).2
      subst e
      rcases List.mem_or_eq_of_mem_set hx with hx | hx
      · exact .inr ⟨row0,ij ▸ h1,hx⟩
      · exact .inl hx
  · exact .inr ⟨row,h,hx⟩
structure Good (N a b c:Nat) (s:Sa):Prop where
  cw:CW (TN N) s
  ok:SOk s.store
  idx:IdxOk s
  steps:a≤s.steps
  len:b≤s.store.L.length
  codes:c≤s.codes.length
theorem patch_len (s e):(patch s e).codes.length=s.codes.length:=by
  unfold patch
  split
  · rename_i c hc
    have:s.codes ≠ []:=by intro h;rw [h] at hc;simp at hc
    have:0 < s.codes.length:=List.length_pos_iff.2 this
    simp;omega
  · rfl
theorem good_inv (N a b c:Nat):Inv (Good N a b c) (TN N) where
  kid:=(cwn_inv N).kid
  wf:=(cwn_inv N).wf
  put:=fun h hk hp=>⟨(cwn_inv N).put h.cw hk hp,h.ok.put hp,h.idx.mono (fun i row x h1 h2 h3=>by
      rcases put_get hp h1 x h2 with rfl | h4
      · exact absurd h3 hk
      · exact .inl h4) (Nat.le_refl _),h.steps,by rw [putS_len hp];exact h.len,h.codes⟩
  code:=@fun s co h hc=>⟨(cwn_inv N).code h.cw hc,h.ok,h.idx.mono (fun i row x h1 h2 h3=>.inl ⟨row,h1,h2⟩) (by show s.codes.length≤(s.codes ++ [co]).length;simp),h.steps,h.len,by have:=h.codes;show c≤(s.codes ++ [co]).length;simp;omega⟩
  codePut:=@fun s co r v st h hc hp=>⟨(cwn_inv N).codePut h.cw hc hp,h.ok.put hp,h.idx.mono (fun i row x h1 h2 h3=>by
      rcases put_get hp h1 x h2 with rfl | h4
      · refine .inr ?_
        show (0:Int)≤(s.codes.length:Int)∧(s.codes.length:Int) < ((s.codes ++ [co]).length:Int)
        simp;omega
      · exact .inl h4) (by show s.codes.length≤(s.codes ++ [co]).length;simp),h.steps,by rw [putS_len hp];exact h.len,by have:=h.codes;show c≤(s.codes ++ [co]).length;simp;omega⟩
  set:=@fun s v co h hk=>⟨(cwn_inv N).set (v:=v) h.cw hk,h.ok.set _ _,h.idx.mono (fun i row x h1 h2 h3=>by
      rcases sset_get h1 x h2 with rfl | h4
      · omega
      · exact .inl h4) (Nat.le_refl _),h.steps,by rw [setS_len];exact h.len,h.codes⟩
  body:=fun h hi=>(cwn_inv N).body h.cw hi
  tick:=fun h=>⟨h.cw,h.ok,h.idx,Nat.le_succ_of_le h.steps,h.len,h.codes⟩
  push:=@fun s r st h hp=>⟨h.cw,h.ok.push hp,h.idx.mono (fun i row x h1 h2 h3=>by
      obtain ⟨_,_,rfl⟩:=pushS_ok hp
      rcases more_get h1 with h4 | rfl
      · exact .inl ⟨row,h4,h2⟩
      · simp at h2) (Nat.le_refl _),h.steps,by rw [pushS_len hp];exact Nat.le_succ_of_le h.len,h.codes⟩
  pop:=@fun s h=>⟨h.cw,h.ok.pop,h.idx.mono (fun i row x h1 h2 h3=>.inl ⟨row,pop_get h1,h2⟩) (Nat.le_refl _),h.steps,by rw [popS_len];exact h.len,h.codes⟩
  patch:=@fun s e h=>⟨(cwn_inv N).patch h.cw,by rw [patch_store];exact h.ok,h.idx.mono (fun i row x h1 h2 h3=>.inl ⟨row,by rw [← patch_store s e];exact h1,h2⟩) (by rw [patch_len];exact Nat.le_refl _),by rw [patch_steps];exact h.steps,by rw [patch_store];exact h.len,by rw [patch_len];exact h.codes⟩
theorem Good.self {N a b c s} (h:Good N a b c s):Good N s.steps s.store.L.length s.codes.length s:=⟨h.cw,h.ok,h.idx,Nat.le_refl _,Nat.le_refl _,Nat.le_refl _⟩
theorem Good.less {N a b c a' b' c' s} (h:Good N a b c s) (h1:a'≤a) (h2:b'≤b) (h3:c'≤c):Good N a' b' c' s:=⟨h.cw,h.ok,h.idx,Nat.le_trans h1 h.steps,Nat.le_trans h2 h.len,Nat.le_trans h3 h.codes⟩
theorem Big.good {fuel N s t e s' o} (h:Big fuel s t e s' o) (hs:Good N 0 0 0 s) (ht:TN N t):Good N s.steps s.store.L.length s.codes.length s':=h.inv (good_inv N _ _ _) hs.self ht
structure FrOk (f:Fr):Prop where
  wf:Wf f.t
  vals:f.vals.length < f.t.kids.length
structure Fits (N B:Nat) (m:M):Prop where
  good:Good N 0 0 0 m.s
  len:m.s.store.L.length≤B
  codes:m.s.codes.length≤B
  k:m.k.length≤B
  fr:∀ f ∈ m.k,FrOk f
  node:∀ t e,m.x=.node t e→Wf t
structure Res where
  s:Sa
  kind:Int
  isInt:Bool
  n:Int
  exn:ByteArray
inductive Runs' (fuel N B:Nat):M→Nat→Res→Prop
  | end_ {m s kind b n x} (hf:Fits N B m) (h:step fuel m=.end_ s kind b n x):Runs' fuel N B m 0 ⟨s,kind,b,n,x⟩
  | on {m m' j r} (hf:Fits N B m) (h:step fuel m=.on m') (h':Runs' fuel N B m' j r):Runs' fuel N B m (j+1) r
def Ends (fuel N B:Nat) (m:M) (r:Res):Prop:=∃ j,Runs' fuel N B m j r
theorem Ends.on {fuel N B m m' r} (hf:Fits N B m) (h:step fuel m=.on m') (h':Ends fuel N B m' r):Ends fuel N B m r:=let ⟨j,h'⟩:=h';⟨j+1,.on hf h h'⟩
theorem Ends.end_ {fuel N B m s kind b n x} (hf:Fits N B m) (h:step fuel m=.end_ s kind b n x):Ends fuel N B m ⟨s,kind,b,n,x⟩:=⟨0,.end_ hf h⟩
def Then (fuel N B:Nat) (s:Sa) (k:List Fr) (r:Res):Out→Prop
  | .val v=>Ends fuel N B ⟨.val v,s,k⟩ r
  | .exn n x=>Ends fuel N B ⟨.exn n x,s,k⟩ r
  | .over kind=>r=⟨s,kind,false,0,ByteArray.empty⟩
end Go.Abs.Mac
namespace Go.Abs.Mac
open Go Go.Abs Go.Abs.Stk Go.Abs.At
def Bd (B:Nat) (s:Sa):Prop:=s.steps+s.store.L.length≤B∧s.codes.length≤B
theorem Good.bd {N B s s'} (h:Good N s.steps s.store.L.length s.codes.length s') (hb:Bd B s'):Bd B s:=⟨by have:=h.steps;have:=h.len;have:=hb.1;omega,by have:=h.codes;have:=hb.2;omega⟩
structure Ks (s:Sa) (k:List Fr):Prop where
  fr:∀ f ∈ k,FrOk f
  len:k.length≤s.steps+s.store.L.length
theorem Ks.later {N s s' k} (h:Ks s k) (hg:Good N s.steps s.store.L.length s.codes.length s'):Ks s' k:=⟨h.fr,by have:=h.len;have:=hg.steps;have:=hg.len;omega⟩
theorem fits {N B s k x} (hg:Good N 0 0 0 s) (hb:Bd B s) (hk:Ks s k) (hx:∀ t e,x=Nx.node t e→Wf t):Fits N B ⟨x,s,k⟩ :=
  ⟨hg,by have:=hb.1;show s.store.L.length≤B;omega,hb.2,by have:=hb.1;have:=hk.len;show k.length≤B;omega,hk.fr,hx⟩
theorem fitsV {N B s k v} (hg:Good N 0 0 0 s) (hb:Bd B s) (hk:Ks s k):Fits N B ⟨.val v,s,k⟩:=fits hg hb hk (by simp)
theorem fitsE {N B s k n x} (hg:Good N 0 0 0 s) (hb:Bd B s) (hk:Ks s k):Fits N B ⟨.exn n x,s,k⟩:=fits hg hb hk (by simp)
theorem Ends.pass {fuel N B m m' r} (hf:Fits N B m) (h:step fuel m=step fuel m') (h':Ends fuel N B m' r):Ends fuel N B m r:=by
  obtain ⟨j,h'⟩:=h'
  cases h' with
  | end_ _ h2=>exact .end_ hf (h.trans h2)
  | on _ h2 h3=>exact .on hf (h.trans h2) ⟨_,h3⟩
theorem Ks.cons {s s':Sa} {k} {t:AT} {e:En} {vs:List V} (h:Ks s k) (hw:Wf t) (hv:vs.length < t.kids.length) (hs:s.steps+s.store.L.length < s'.steps+s'.store.L.length):Ks s' (⟨t,e,vs⟩ :: k) :=
  ⟨fun f hf => by rcases List.mem_cons.1 hf with rfl | hf
                  · exact ⟨hw,hv⟩
                  · exact h.fr f hf,by have:=h.len;simp;omega⟩
theorem then_pass {fuel N B s f k r o} (hg:Good N 0 0 0 s) (hb:Bd B s) (hk:Ks s (f :: k)) (h17:f.t.h.kind ≠ 17) (ho:¬ o.isVal) (hx:f.t.h.kind=16→∀ n,o ≠ .exn n f.t.h.exn) (h:Then fuel N B s k r o):Then fuel N B s (f :: k) r o:=by
  cases o with
  | val v=>exact absurd trivial ho
  | over kind=>exact h
  | exn n x =>
    refine Ends.pass (m':=⟨.exn n x,s,k⟩) (fitsE hg hb hk) ?_ h
    have:¬ (f.t.h.kind=16∧f.t.h.exn=x):=fun ⟨a,b⟩=>hx a n (by rw [b])
    simp [step,raise,h17,this]
theorem kinds12 {k:Int} (h:3≤k∧k≤10∨k=15):k ≠ 17∧¬ isLeaf k∧k ≠ 13∧k ≠ 16∧k ≠ 12∧k ≠ 14:=by unfold isLeaf;omega
theorem step_wait {fuel s k t e} (hf:s.steps < fuel) (h17:t.h.kind ≠ 17) (hl:¬ isLeaf t.h.kind) (h13:t.h.kind ≠ 13):step fuel ⟨.node t e,s,k⟩=.on ⟨.node (kidAt t 0) e,tick s,⟨t,e,[]⟩ :: k⟩:=by
  simp [step,enter,h17,hl,h13,Nat.not_le.2 hf]
theorem kidT {N t i} (ht:TN N t) (hi:i < nk t.h.kind):TN N (kidAt t i):=(ht.kidN hi).1
theorem good_tick {N s} (h:Good N 0 0 0 s):Good N 0 0 0 (tick s):=(good_inv N 0 0 0).tick h
theorem Good.zero {N a b c s} (h:Good N a b c s):Good N 0 0 0 s:=h.less (Nat.zero_le _) (Nat.zero_le _) (Nat.zero_le _)
theorem Ks.tick {s k} (h:Ks s k):Ks (tick s) k:=⟨h.fr,by have:=h.len;simp [Mac.tick];omega⟩
theorem wait {fuel N B s t e s' o k r} (hf:s.steps < fuel) (h17:t.h.kind ≠ 17) (hl:¬ isLeaf t.h.kind) (h13:t.h.kind ≠ 13) (h0:0 < nk t.h.kind) (h:Big fuel (tick s) (kidAt t 0) e s' o)
    (ih:Good N 0 0 0 (tick s)→TN N (kidAt t 0)→Bd B s'→∀ k r,Ks (tick s) k→Then fuel N B s' k r o→Ends fuel N B ⟨.node (kidAt t 0) e,tick s,k⟩ r)
    (hg:Good N 0 0 0 s) (ht:TN N t) (hb:Bd B s') (hk:Ks s k) (hr:Ks s' (⟨t,e,[]⟩ :: k)→Good N 0 0 0 s'→Then fuel N B s' (⟨t,e,[]⟩ :: k) r o):Ends fuel N B ⟨.node t e,s,k⟩ r:=by
  have hg1:=h.good (good_tick hg) (kidT ht h0)
  have hbs:=hg1.bd hb
  have hK:Ks (tick s) (⟨t,e,[]⟩ :: k):=hk.cons ht.1 (by rw [ht.1.len];exact h0) (by simp [tick])
  refine .on (fits hg ⟨by have:=hbs.1;simp [tick] at this;omega,hbs.2⟩ hk (by rintro _ _ ⟨⟩;exact ht.1)) (step_wait hf h17 hl h13) ?_
  exact ih (good_tick hg) (kidT ht h0) hb _ _ hK (hr (hK.later hg1) hg1.zero)
theorem rend_then {fuel N B m k r s o} {x:Re Nx} (hf:Fits N B m) (h:step fuel m=x.go k) (hx:Rend x s o) (hr:Then fuel N B s k r o):Ends fuel N B m r:=by
  cases hx with
  | val=>exact .on hf h hr
  | exn=>exact .on hf h hr
  | over =>
    have hr:r=_:=hr
    subst hr
    exact .end_ hf h
theorem big_runs {fuel N B s t e s' o} (h:Big fuel s t e s' o):Good N 0 0 0 s→TN N t→Bd B s'→∀ k r,Ks s k→Then fuel N B s' k r o→Ends fuel N B ⟨.node t e,s,k⟩ r:=by
  induction h with
  | @full s t e hk h =>
    intro hg ht hb k r hk' hr
    have hr:r=_:=hr
    subst hr
    exact .end_ (fits hg hb hk' (by rintro _ _ ⟨⟩;exact ht.1)) (by simp [step,enter,hk,h])
  | @region s t e rg st s' o hk h h' ih =>
    intro hg ht hb k r hk' hr
    have h0:0 < nk t.h.kind:=nk_pos (by omega)
    have hg1:Good N 0 0 0 { s with store:=st }:=(good_inv N 0 0 0).push hg h
    have hg2:=h'.good hg1 (kidT ht h0)
    obtain ⟨p1,p2,p3⟩:=popO_same o s'
    have hb':Bd B s':=⟨by rw [← p1,← p2];exact hb.1,by rw [← p3];exact hb.2⟩
    have hb1:=hg2.bd hb'
    have hlen:=pushS_len h
    have hbs:Bd B s:=⟨by have:=hb1.1;simp only at this;omega,hb1.2⟩
    have hK:Ks { s with store:=st } (⟨t,e,[]⟩ :: k):=hk'.cons ht.1 (by rw [ht.1.len];exact h0) (by simp only;omega)
    have hg2':=hg2.less (a':=0) (b':=0) (c':=0) (Nat.zero_le _) (Nat.zero_le _) (Nat.zero_le _)
    refine .on (fits hg hbs hk' (by rintro _ _ ⟨⟩;exact ht.1)) (m':=⟨.node (kidAt t 0) (e.opn t.rho rg),{ s with store:=st },⟨t,e,[]⟩ :: k⟩) (by simp [step,enter,hk,h]) ?_
    refine ih hg1 (kidT ht h0) hb' _ _ hK ?_
    cases o with
    | val v=>exact .on (fitsV hg2' hb' (hK.later hg2)) (by simp [step,give,hk];rfl) hr
    | exn n x=>exact .pass (m':=⟨.exn n x,_,k⟩) (fitsE hg2' hb' (hK.later hg2)) (by simp [step,raise,hk];rfl) hr
    | over kd=>exact hr
  | @fuel s t e hk h =>
    intro hg ht hb k r hk' hr
    have hr:r=_:=hr
    subst hr
    exact .end_ (fits hg hb hk' (by rintro _ _ ⟨⟩;exact ht.1)) (by simp [step,enter,hk,h])
  | @leaf s t e s' v hf hk h =>
    intro hg ht hb k r hk' hr
    have:=(good_inv N (s.steps) s.store.L.length s.codes.length).leafR (s:=tick s) (e:=e) ((good_inv N _ _ _).tick hg.self) ht hk
    rw [h] at this
    have h17:t.h.kind ≠ 17:=by unfold isLeaf at hk;omega
    exact .on (fits hg (Good.bd this hb) hk' (by rintro _ _ ⟨⟩;exact ht.1)) (by simp [step,enter,h17,hk,Nat.not_le.2 hf,h,Re.bind,Re.go]) hr
  | @leafOver s t e s' kd hf hk h =>
    intro hg ht hb k r hk' hr
    have:=(good_inv N (s.steps) s.store.L.length s.codes.length).leafR (s:=tick s) (e:=e) ((good_inv N _ _ _).tick hg.self) ht hk
    rw [h] at this
    have h17:t.h.kind ≠ 17:=by unfold isLeaf at hk;omega
    have hr:r=_:=hr
    subst hr
    exact .end_ (fits hg (Good.bd this hb) hk' (by rintro _ _ ⟨⟩;exact ht.1)) (by simp [step,enter,h17,hk,Nat.not_le.2 hf,h,Re.bind,Re.go])
  | @letStop s t e s' o hf hk h ho ih =>
    intro hg ht hb k r hk' hr
    exact wait hf (by omega) (by unfold isLeaf;omega) (by omega) (nk_pos (by omega)) h ih hg ht hb hk' fun hK hG=>then_pass hG hb hK (by simp;omega) ho (fun h=>by simp at h;omega) hr
  | @let_ s t e s' v s'' o hf hk h h' ih ih' =>
    intro hg ht hb k r hk' hr
    have k1:=kidT ht (i:=1) (nk_two (by omega))
    have hG:=(h.good (good_tick hg) (kidT ht (nk_pos (by omega)))).zero
    have hb':=(h'.good hG k1).bd hb
    refine wait hf (by omega) (by unfold isLeaf;omega) (by omega) (nk_pos (by omega)) h ih hg ht hb' hk' fun hK hG=>?_
    exact .on (fitsV hG hb' hK) (m':=⟨.node (kidAt t 1) (e.with t.h.name v false),s',k⟩) (by simp [step,give,hk]) (ih' hG k1 hb k r (hk'.tick.later (h.good (good_tick hg) (kidT ht (nk_pos (by omega))))) hr)
  | @letrecOver s t e s' kd hf hk h =>
    intro hg ht hb k r hk' hr
    have:=(good_inv N (s.steps) s.store.L.length s.codes.length).codeR (s:=tick s) (e:=e) (rho:=t.rho) (c:=⟨kidAt t 0,t.h.arg,e,some t.rhos⟩) ((good_inv N _ _ _).tick hg.self) (kidT ht (nk_pos (by omega)))
    rw [h] at this
    have h17:t.h.kind ≠ 17:=by omega
    have hnl:¬ isLeaf t.h.kind:=by unfold isLeaf;omega
    have hr:r=_:=hr
    subst hr
    exact .end_ (fits hg (Good.bd this hb) hk' (by rintro _ _ ⟨⟩;exact ht.1)) (by simp [step,enter,show ¬ isLeaf 13 by unfold isLeaf;omega,hk,Nat.not_le.2 hf,h,Re.bind,Re.go])
  | @letrec s t e s' v s'' o hf hk h h' ih =>
    intro hg ht hb k r hk' hr
    have:=(good_inv N (s.steps) s.store.L.length s.codes.length).codeR (s:=tick s) (e:=e) (rho:=t.rho) (c:=⟨kidAt t 0,t.h.arg,e,some t.rhos⟩) ((good_inv N _ _ _).tick hg.self) (kidT ht (nk_pos (by omega)))
    rw [h] at this
    have this:Good N s.steps s.store.L.length s.codes.length s':=this
    have hp:=(good_inv N _ _ _).patch (e:=e.with t.h.name v true) this
    have k1:=kidT ht (i:=1) (nk_two (by omega))
    have hg2:=h'.good hp.zero k1
    have h17:t.h.kind ≠ 17:=by omega
    have hnl:¬ isLeaf t.h.kind:=by unfold isLeaf;omega
    refine .on (fits hg (hp.bd (hg2.bd hb)) hk' (by rintro _ _ ⟨⟩;exact ht.1)) (m':=⟨.node (kidAt t 1) (e.with t.h.name v true),patch s' (e.with t.h.name v true),k⟩) (by simp [step,enter,show ¬ isLeaf 13 by unfold isLeaf;omega,hk,Nat.not_le.2 hf,h,Re.bind,Re.go]) ?_
    exact ih hp.zero k1 hb k r (hk'.later hp) hr
  | @ifStop s t e s' o hf hk h ho ih =>
    intro hg ht hb k r hk' hr
    exact wait hf (by omega) (by unfold isLeaf;omega) (by omega) (nk_pos (by omega)) h ih hg ht hb hk' fun hK hG=>then_pass hG hb hK (by simp;omega) ho (fun h=>by simp at h;omega) hr
  | @ifStuck s t e s' v hf hk h hv ih =>
    intro hg ht hb k r hk' hr
    refine wait hf (by omega) (by unfold isLeaf;omega) (by omega) (nk_pos (by omega)) h ih hg ht hb hk' fun hK hG=>?_
    have hr:r=_:=hr
    subst hr
    exact .end_ (fitsV hG hb hK) (by simp [step,give,hk,number,hv,Re.bind,Re.go])
  | @if_ s t e s' v s'' o hf hk h hv h' ih ih' =>
    intro hg ht hb k r hk' hr
    have k1:=kidT ht (i:=if v.n ≠ 0 then 1 else 2) (nk_if hk)
    have hG:=(h.good (good_tick hg) (kidT ht (nk_pos (by omega)))).zero
    have hb':=(h'.good hG k1).bd hb
    refine wait hf (by omega) (by unfold isLeaf;omega) (by omega) (nk_pos (by omega)) h ih hg ht hb' hk' fun hK hG=>?_
    exact .on (fitsV hG hb' hK) (m':=⟨.node (kidAt t (if v.n ≠ 0 then 1 else 2)) e,s',k⟩) (by simp [step,give,hk,number,hv,Re.bind,Re.go]) (ih' hG k1 hb k r (hk'.tick.later (h.good (good_tick hg) (kidT ht (nk_pos (by omega))))) hr)
  | @try_ s t e s' o hf hk h ho ih =>
    intro hg ht hb k r hk' hr
    refine wait hf (by omega) (by unfold isLeaf;omega) (by omega) (nk_pos (by omega)) h ih hg ht hb hk' fun hK hG=>?_
    by_cases hv:o.isVal
    · cases o with
      | val v=>exact .on (fitsV hG hb hK) (m':=⟨.val v,s',k⟩) (by simp [step,give,hk]) hr
      | exn n x=>exact hv.elim
      | over kd=>exact hv.elim
    · exact then_pass hG hb hK (by simp;omega) hv (fun _=>ho) hr
  | @catch_ s t e s' n s'' o hf hk h h' ih ih' =>
    intro hg ht hb k r hk' hr
    have k1:=kidT ht (i:=1) (nk_two (by omega))
    have hG:=(h.good (good_tick hg) (kidT ht (nk_pos (by omega)))).zero
    have hb':=(h'.good hG k1).bd hb
    refine wait hf (by omega) (by unfold isLeaf;omega) (by omega) (nk_pos (by omega)) h ih hg ht hb' hk' fun hK hG=>?_
    exact .on (fitsE hG hb' hK) (m':=⟨.node (kidAt t 1) (e.with t.h.arg (num n) false),s',k⟩) (by simp [step,raise,hk]) (ih' hG k1 hb k r (hk'.tick.later (h.good (good_tick hg) (kidT ht (nk_pos (by omega))))) hr)
  | @stop1 s t e s' o hf hk h ho ih =>
    intro hg ht hb k r hk' hr
    obtain ⟨q1,q2,q3,q4,q5,q6⟩:=kinds12 hk
    exact wait hf q1 q2 q3 (nk_pos (by omega)) h ih hg ht hb hk' fun hK hG=>then_pass hG hb hK q1 ho (fun h=>absurd h q4) hr
  | @stop2 s t e s' v s'' o hf hk hl h h' ho ih ih' =>
    intro hg ht hb k r hk' hr
    obtain ⟨q1,q2,q3,q4,q5,q6⟩:=kinds12 hk
    have k0:=kidT ht (i:=0) (nk_pos (by omega))
    have k1:=kidT ht (i:=1) (by rw [← ht.1.len];omega)
    have hG:=(h.good (good_tick hg) k0)
    have hg2:=h'.good hG.zero k1
    have hb':=hg2.bd hb
    refine wait hf q1 q2 q3 (nk_pos (by omega)) h ih hg ht hb' hk' fun hK _=>?_
    refine .on (fitsV hG.zero hb' hK) (m':=⟨.node (kidAt t 1) e,s',⟨t,e,[v]⟩ :: k⟩) (by simp [step,give,q1,q4,q5,q6,hl]) ?_
    have hK2:Ks s' (⟨t,e,[v]⟩ :: k):=(hk'.cons (s':=tick s) ht.1 (vs:=[v]) (by simp;omega) (by simp [tick])).later hG
    exact ih' hG.zero k1 hb _ r hK2 (then_pass hg2.zero hb (hK2.later hg2) q1 ho (fun h=>absurd h q4) hr)
  | @rule1 s t e s' v s₂ o hf hk hl h h' ih =>
    intro hg ht hb k r hk' hr
    obtain ⟨q1,q2,q3,q4,q5,q6⟩:=kinds12 hk
    have k0:=kidT ht (i:=0) (nk_pos (by omega))
    have hG:=(h.good (good_tick hg) k0)
    have hgr:=h'.all ((good_inv N s'.steps s'.store.L.length s'.codes.length).ruleR (s:=s') (t:=t) (e:=e) (vs:=[v]) hG.self)
    have hb':=hgr.bd hb
    refine wait hf q1 q2 q3 (nk_pos (by omega)) h ih hg ht hb' hk' fun hK _=>?_
    have e1:step fuel ⟨.val v,s',⟨t,e,[]⟩ :: k⟩=(rule s' t e [v]).go k:=by simp [step,give,q1,q4,q5,q6,hl]
    exact rend_then (fitsV hG.zero hb' hK) e1 h' hr
  | @rule2 s t e s' v s'' w s₃ o hf hk hl h h' h₂ ih ih' =>
    intro hg ht hb k r hk' hr
    obtain ⟨q1,q2,q3,q4,q5,q6⟩:=kinds12 hk
    have k0:=kidT ht (i:=0) (nk_pos (by omega))
    have k1:=kidT ht (i:=1) (by rw [← ht.1.len];omega)
    have hG:=(h.good (good_tick hg) k0)
    have hg2:=h'.good hG.zero k1
    have hgr:=h₂.all ((good_inv N s''.steps s''.store.L.length s''.codes.length).ruleR (s:=s'') (t:=t) (e:=e) (vs:=[v,w]) hg2.self)
    have hb'':=hgr.bd hb
    have hb':=hg2.bd hb''
    refine wait hf q1 q2 q3 (nk_pos (by omega)) h ih hg ht hb' hk' fun hK _=>?_
    refine .on (fitsV hG.zero hb' hK) (m':=⟨.node (kidAt t 1) e,s',⟨t,e,[v]⟩ :: k⟩) (by simp [step,give,q1,q4,q5,q6,hl]) ?_
    have hK2:Ks s' (⟨t,e,[v]⟩ :: k):=(hk'.cons (s':=tick s) ht.1 (vs:=[v]) (by simp;omega) (by simp [tick])).later hG
    refine ih' hG.zero k1 hb'' _ r hK2 ?_
    have e1:step fuel ⟨.val w,s'',⟨t,e,[v]⟩ :: k⟩=(rule s'' t e [v,w]).go k:=by simp [step,give,q1,q4,q5,q6,hl]
    exact rend_then (fitsV hg2.zero hb'' (hK2.later hg2)) e1 h₂ hr
  | @call s t e s' v s'' w s₃ b e' s₄ o hf hk hl h h' h₂ h₃ ih ih' ih₃ =>
    intro hg ht hb k r hk' hr
    obtain ⟨q1,q2,q3,q4,q5,q6⟩:=kinds12 hk
    have k0:=kidT ht (i:=0) (nk_pos (by omega))
    have k1:=kidT ht (i:=1) (by rw [← ht.1.len];omega)
    have hG:=(h.good (good_tick hg) k0)
    have hg2:=h'.good hG.zero k1
    have hrn:=rule_node h₂
    obtain ⟨rfl,c,fn,_,hf',rfl,rfl,_⟩:=hrn
    have tb:=(cwn_inv N).body hg2.cw hf'
    have hg3:=h₃.good hg2.zero tb
    have hb'':=hg3.bd hb
    have hb':=hg2.bd hb''
    refine wait hf q1 q2 q3 (nk_pos (by omega)) h ih hg ht hb' hk' fun hK _=>?_
    refine .on (fitsV hG.zero hb' hK) (m':=⟨.node (kidAt t 1) e,s',⟨t,e,[v]⟩ :: k⟩) (by simp [step,give,q1,q4,q5,q6,hl]) ?_
    have hK2:Ks s' (⟨t,e,[v]⟩ :: k):=(hk'.cons (s':=tick s) ht.1 (vs:=[v]) (by simp;omega) (by simp [tick])).later hG
    refine ih' hG.zero k1 hb'' _ r hK2 ?_
    have e1:step fuel ⟨.val w,s₃,⟨t,e,[v]⟩ :: k⟩=(rule s₃ t e [v,w]).go k:=by simp [step,give,q1,q4,q5,q6,hl]
    rw [h₂] at e1
    exact .on (fitsV hg2.zero hb'' (hK2.later hg2)) e1 (ih₃ hg2.zero tb hb k r ((hk'.tick.later hG).later hg2) hr)
end Go.Abs.Mac
namespace Go.Abs.Mac
open Go Go.Abs Go.Abs.Stk Go.Abs.At
theorem live_inv0 (N:Nat) (l:List Nat) (m:Nat):Inv0 (fun s=>s.store.live=l∧s.steps=m∧CW (TN N) s) (TN N) where
  kid:=(cwn_inv N).kid
  wf:=(cwn_inv N).wf
  put:=@fun s r c v st h _ hp=>by
    obtain ⟨i,row,rfl,h1,_,_,rfl⟩:=putS_some hp
    exact ⟨(SG.putC_live h1 _).trans h.1,h.2⟩
  code:=fun h hc=>⟨h.1,h.2.1,(cwn_inv N).code h.2.2 hc⟩
  codePut:=@fun s co r v st h hc hp=>by
    obtain ⟨i,row,rfl,h1,_,_,rfl⟩:=putS_some hp
    exact ⟨(SG.putC_live h1 _).trans h.1,h.2.1,(cwn_inv N).code h.2.2 hc⟩
  set:=@fun s v c h _=>⟨(setS_live _ _ _).1.trans h.1,h.2⟩
  body:=fun h hi=>(cwn_inv N).body h.2.2 hi
def Out.isOver:Out→Prop
  | .over _=>True
  | _=>False
structure Left (fuel N:Nat) (s s':Sa) (o:Out):Prop where
  steps:s'.steps≤fuel
  one:1≤s'.store.live.length
  same:¬ o.isOver→s'.store.live=s.store.live
  cw:CW (TN N) s'
theorem popS_live {s:SG Cl} {l:List Nat} {n:Nat} (h:s.live=l ++ [n]) (hl:1≤l.length):(popS s).live=l:=by
  unfold popS
  have h1:¬ s.live.length < 2:=by rw [h];simp;omega
  rw [if_neg h1]
  have h2:s.live.getLast?=some n:=by rw [h];simp
  rw [h2]
  simp only
  rw [SG.live_less h2,h];simp
theorem Left.of {fuel N s s'} {o:Out} (h:s'.store.live=s.store.live∧s'.steps=s.steps+1∧CW (TN N) s') (hs:s.steps < fuel) (h1:1≤s.store.live.length):Left fuel N s s' o:=⟨by omega,by rw [h.1];exact h1,fun _=>h.1,h.2.2⟩
theorem Big.left {fuel N s t e s' o} (h:Big fuel s t e s' o):CW (TN N) s→TN N t→1≤s.store.live.length→s.steps≤fuel→Left fuel N s s' o:=by
  induction h with
  | full hk h=>exact fun hs ht h1 hf=>⟨hf,h1,fun h=>(h trivial).elim,hs⟩
  | @region s t e r st s' o hk h h' ih =>
    intro hs ht h1 hf
    obtain ⟨_,rfl,rfl⟩:=pushS_ok h
    have hl:s.store.more.live=s.store.live ++ [s.store.L.length]:=SG.live_more _
    have:=ih hs (kidT ht (nk_pos (by omega))) (by show 1≤s.store.more.live.length;rw [hl];simp) hf
    obtain ⟨p1,p2,p3⟩:=popO_same o s'
    cases o with
    | over k=>exact ⟨this.steps,this.one,fun h=>(h trivial).elim,this.cw⟩
    | val v =>
      have e:(popS s'.store).live=s.store.live:=popS_live ((this.same (by simp [Out.isOver])).trans hl) h1
      exact ⟨this.steps,by show 1≤(popS s'.store).live.length;rw [e];exact h1,fun _=>e,this.cw⟩
    | exn n x =>
      have e:(popS s'.store).live=s.store.live:=popS_live ((this.same (by simp [Out.isOver])).trans hl) h1
      exact ⟨this.steps,by show 1≤(popS s'.store).live.length;rw [e];exact h1,fun _=>e,this.cw⟩
  | fuel hk h=>exact fun hs ht h1 hf=>⟨hf,h1,fun h=>(h trivial).elim,hs⟩
  | @leaf s t e s' v hf hk h =>
    intro hs ht h1 _
    have:=(live_inv0 N s.store.live (s.steps+1)).leafR (s:=tick s) (e:=e) ⟨rfl,rfl,hs⟩ ht hk
    rw [h] at this
    exact .of this hf h1
  | @leafOver s t e s' k hf hk h =>
    intro hs ht h1 _
    have:=(live_inv0 N s.store.live (s.steps+1)).leafR (s:=tick s) (e:=e) ⟨rfl,rfl,hs⟩ ht hk
    rw [h] at this
    exact .of this hf h1
  | @letStop s t e s' o hf hk h ho ih =>
    intro hs ht h1 _
    have a:=ih hs (kidT ht (nk_pos (by omega))) h1 hf
    exact ⟨a.steps,a.one,a.same,a.cw⟩
  | @let_ s t e s' v s'' o hf hk h h' ih ih' =>
    intro hs ht h1 _
    have a:=ih hs (kidT ht (nk_pos (by omega))) h1 hf
    have b:=ih' a.cw (kidT ht (nk_two (by omega))) a.one a.steps
    exact ⟨b.steps,b.one,fun h=>(b.same h).trans (a.same (by simp [Out.isOver])),b.cw⟩
  | @letrecOver s t e s' k hf hk h =>
    intro hs ht h1 _
    have:=(live_inv0 N s.store.live (s.steps+1)).codeR (s:=tick s) (e:=e) (rho:=t.rho) (c:=⟨kidAt t 0,t.h.arg,e,some t.rhos⟩) ⟨rfl,rfl,hs⟩ (kidT ht (nk_pos (by omega)))
    rw [h] at this
    exact .of this hf h1
  | @letrec s t e s' v s'' o hf hk h h' ih =>
    intro hs ht h1 _
    have:=(live_inv0 N s.store.live (s.steps+1)).codeR (s:=tick s) (e:=e) (rho:=t.rho) (c:=⟨kidAt t 0,t.h.arg,e,some t.rhos⟩) ⟨rfl,rfl,hs⟩ (kidT ht (nk_pos (by omega)))
    rw [h] at this
    obtain ⟨a1,a2,a3⟩:=this
    have b:=ih ((cwn_inv N).patch a3) (kidT ht (nk_two (by omega))) (by rw [patch_store,a1];exact h1) (by rw [patch_steps];omega)
    exact ⟨b.steps,b.one,fun h=>by rw [b.same h,patch_store,a1],b.cw⟩
  | @ifStop s t e s' o hf hk h ho ih =>
    intro hs ht h1 _
    have a:=ih hs (kidT ht (nk_pos (by omega))) h1 hf
    exact ⟨a.steps,a.one,a.same,a.cw⟩
  | @ifStuck s t e s' v hf hk h hv ih =>
    intro hs ht h1 _
    have a:=ih hs (kidT ht (nk_pos (by omega))) h1 hf
    exact ⟨a.steps,a.one,fun h=>(h trivial).elim,a.cw⟩
  | @if_ s t e s' v s'' o hf hk h hv h' ih ih' =>
    intro hs ht h1 _
    have a:=ih hs (kidT ht (nk_pos (by omega))) h1 hf
    have b:=ih' a.cw (kidT ht (nk_if hk)) a.one a.steps
    exact ⟨b.steps,b.one,fun h=>(b.same h).trans (a.same (by simp [Out.isOver])),b.cw⟩
  | @try_ s t e s' o hf hk h ho ih =>
    intro hs ht h1 _
    have a:=ih hs (kidT ht (nk_pos (by omega))) h1 hf
    exact ⟨a.steps,a.one,a.same,a.cw⟩
  | @catch_ s t e s' n s'' o hf hk h h' ih ih' =>
    intro hs ht h1 _
    have a:=ih hs (kidT ht (nk_pos (by omega))) h1 hf
    have b:=ih' a.cw (kidT ht (nk_two (by omega))) a.one a.steps
    exact ⟨b.steps,b.one,fun h=>(b.same h).trans (a.same (by simp [Out.isOver])),b.cw⟩
  | @stop1 s t e s' o hf hk h ho ih =>
    intro hs ht h1 _
    have a:=ih hs (kidT ht (nk_pos (by omega))) h1 hf
    exact ⟨a.steps,a.one,a.same,a.cw⟩
  | @stop2 s t e s' v s'' o hf hk hl h h' ho ih ih' =>
    intro hs ht h1 _
    have a:=ih hs (kidT ht (nk_pos (by omega))) h1 hf
    have b:=ih' a.cw (kidT ht (by rw [← ht.1.len];omega)) a.one a.steps
    exact ⟨b.steps,b.one,fun h=>(b.same h).trans (a.same (by simp [Out.isOver])),b.cw⟩
  | @rule1 s t e s' v s₂ o hf hk hl h h' ih =>
    intro hs ht h1 _
    have a:=ih hs (kidT ht (nk_pos (by omega))) h1 hf
    obtain ⟨r1,r2,r3⟩:=h'.all ((live_inv0 N s'.store.live s'.steps).ruleR (s:=s') (t:=t) (e:=e) (vs:=[v]) ⟨rfl,rfl,a.cw⟩)
    exact ⟨by rw [r2];exact a.steps,by rw [r1];exact a.one,fun _=>by rw [r1];exact a.same (by simp [Out.isOver]),r3⟩
  | @rule2 s t e s' v s'' w s₃ o hf hk hl h h' h₂ ih ih' =>
    intro hs ht h1 _
    have a:=ih hs (kidT ht (nk_pos (by omega))) h1 hf
    have b:=ih' a.cw (kidT ht (by rw [← ht.1.len];omega)) a.one a.steps
    obtain ⟨r1,r2,r3⟩:=h₂.all ((live_inv0 N s''.store.live s''.steps).ruleR (s:=s'') (t:=t) (e:=e) (vs:=[v,w]) ⟨rfl,rfl,b.cw⟩)
    exact ⟨by rw [r2];exact b.steps,by rw [r1];exact b.one,fun _=>by rw [r1,b.same (by simp [Out.isOver])];exact a.same (by simp [Out.isOver]),r3⟩
  | @call s t e s' v s'' w s₃ b e' s₄ o hf hk hl h h' h₂ h₃ ih ih' ih₃ =>
    intro hs ht h1 _
    have a:=ih hs (kidT ht (nk_pos (by omega))) h1 hf
    have b:=ih' a.cw (kidT ht (by rw [← ht.1.len];omega)) a.one a.steps
    obtain ⟨rfl,c,fn,_,hf',rfl,rfl,_⟩:=rule_node h₂
    have c:=ih₃ b.cw ((cwn_inv N).body b.cw hf') b.one b.steps
    exact ⟨c.steps,c.one,fun h=>by rw [c.same h,b.same (by simp [Out.isOver])];exact a.same (by simp [Out.isOver]),c.cw⟩
end Go.Abs.Mac
namespace Go.Abs.Mac
open Go Go.Abs Go.Abs.Stk Go.Abs.At
variable {R C:Int} {d:Nat}
structure Same (R C:Int) (d fuel fuel':Nat) (s:Sa) (o:Out):Prop where
  f:fuel+d≤fuel'
  hR:s.store.R≤R
  hC:s.store.C≤C
  f3:o=.over 3→fuel'=fuel+d
  f4:o=.over 4→R=s.store.R∧C=s.store.C
theorem Same.next {fuel fuel':Nat} {s s':Sa} {o o':Out} (h:Same R C d fuel fuel' s o) (hs:s'.store.R=s.store.R∧s'.store.C=s.store.C) (ho:o'=o∨¬ o'.isOver):Same R C d fuel fuel' s' o':=by
  refine ⟨h.f,by rw [hs.1];exact h.hR,by rw [hs.2];exact h.hC,fun e=>?_,fun e=>?_⟩
  · rcases ho with ho | ho
    · exact h.f3 (ho ▸ e)
    · rw [e] at ho;exact (ho trivial).elim
  · rw [hs.1,hs.2]
    rcases ho with ho | ho
    · exact h.f4 (ho ▸ e)
    · rw [e] at ho;exact (ho trivial).elim
end Go.Abs.Mac
namespace Go.Abs.Mac
open Go Go.Abs Go.Abs.Stk Go.Abs.At
theorem make_len {s:Sa} {e rho c} {n:Nat} (h:s.codes.length≤n):(make s e rho c).all (fun s'=>s'.codes.length≤n):=by
  unfold make
  repeat' split
  all_goals exact h
theorem code_len {s:Sa} {e rho c} {n:Nat} (h:s.codes.length+1≤n):(Mac.code s e rho c).all (fun s'=>s'.codes.length≤n) :=
  make_len (by show (s.codes ++ [c]).length≤n;simp;exact h)
theorem inst_len {s:Sa} {t e} {n:Nat} (h:s.codes.length+1≤n):(inst s t e).all (fun s'=>s'.codes.length≤n):=by
  have h0:s.codes.length≤n:=by omega
  unfold inst
  split
  · exact h0
  · split
    · refine Re.all_bind (p:=fun s'=>s'.codes.length≤n) (take_same h0) fun c s' hr _=>?_
      obtain ⟨rfl,_⟩:=take_ok hr
      split
      · exact h0
      · split
        · split
          · exact h0
          · exact code_len h
        · exact h0
    · exact h0
theorem leaf_len {s:Sa} {t e} {n:Nat} (h:s.codes.length+1≤n):(leaf s t e).all (fun s'=>s'.codes.length≤n):=by
  have h0:s.codes.length≤n:=by omega
  unfold leaf
  split
  · exact h0
  · split
    · split
      · split <;> exact h0
      · exact h0
    · split
      · exact inst_len h
      · exact code_len h
theorem rule_len {s:Sa} {t e vs} {n:Nat} (h:s.codes.length≤n):(rule s t e vs).all (fun s'=>s'.codes.length≤n):=by
  unfold rule
  split
  · exact Re.all_bind (make_len h) fun _ _ _ hs=>hs
  split
  · exact Re.all_bind (p:=fun s'=>s'.codes.length≤n) (take_same h) fun _ _ _ hs=>hs
  split
  · exact Re.all_bind (p:=fun s'=>s'.codes.length≤n) (take_same h) fun _ _ _ hs=>hs
  split
  · exact Re.all_bind (make_len h) fun _ _ _ hs=>hs
  split
  · exact Re.all_bind (p:=fun s'=>s'.codes.length≤n) (take_same h) fun _ _ _ hs=>hs
  split
  · exact Re.all_bind (p:=fun s'=>s'.codes.length≤n) (take_same h) fun _ _ _ hs=>hs
  split
  · exact Re.all_bind (p:=fun s'=>s'.codes.length≤n) (number_same h) fun _ _ _ hs=>Re.all_bind (p:=fun s'=>s'.codes.length≤n) (number_same hs) fun _ _ _ hs=>hs
  split
  · exact Re.all_bind (p:=fun s'=>s'.codes.length≤n) (number_same h) fun _ _ _ hs=>hs
  · refine Re.all_bind (p:=fun s'=>s'.codes.length≤n) (take_same h) fun _ _ _ hs=>?_
    split <;> exact hs
theorem Big.codes {fuel N s t e s' o} (h:Big fuel s t e s' o):CW (TN N) s→TN N t→s'.codes.length+s.steps≤s.codes.length+s'.steps∧s.steps≤s'.steps∧CW (TN N) s':=by
  induction h with
  | full hk h=>exact fun hs ht=>⟨Nat.le_refl _,Nat.le_refl _,hs⟩
  | @region s t e r st s' o hk h h' ih =>
    intro hs ht
    obtain ⟨h1,h2,h3⟩:=ih hs (kidT ht (nk_pos (by omega)))
    obtain ⟨p1,p2,p3⟩:=popO_same o s'
    simp only at h1 h2
    exact ⟨by rw [p2,p3];exact h1,by rw [p2];exact h2,by unfold CW;rw [p3];exact h3⟩
  | fuel hk h=>exact fun hs ht=>⟨Nat.le_refl _,Nat.le_refl _,hs⟩
  | @leaf s t e s' v hf hk h =>
    intro hs ht
    have:=(same_inv N s.store.L.length (s.steps+1)).leafR (s:=tick s) (e:=e) ⟨rfl,rfl,hs⟩ ht hk
    have l:=leaf_len (s:=tick s) (t:=t) (e:=e) (Nat.le_refl _)
    rw [h] at this l
    obtain ⟨h1,h2,h3⟩:=this
    have l:s'.codes.length≤s.codes.length+1:=l
    exact ⟨by omega,by omega,h3⟩
  | @leafOver s t e s' k hf hk h =>
    intro hs ht
    have:=(same_inv N s.store.L.length (s.steps+1)).leafR (s:=tick s) (e:=e) ⟨rfl,rfl,hs⟩ ht hk
    have l:=leaf_len (s:=tick s) (t:=t) (e:=e) (Nat.le_refl _)
    rw [h] at this l
    obtain ⟨h1,h2,h3⟩:=this
    have l:s'.codes.length≤s.codes.length+1:=l
    exact ⟨by omega,by omega,h3⟩
  | @letStop s t e s' o hf hk h ho ih =>
    intro hs ht
    obtain ⟨h1,h2,h3⟩:=ih hs (kidT ht (nk_pos (by omega)))
    simp only [tick] at h1 h2
    exact ⟨by omega,by omega,h3⟩
  | @let_ s t e s' v s'' o hf hk h h' ih ih' =>
    intro hs ht
    obtain ⟨h1,h2,h3⟩:=ih hs (kidT ht (nk_pos (by omega)))
    obtain ⟨g1,g2,g3⟩:=ih' h3 (kidT ht (nk_two (by omega)))
    simp only [tick] at h1 h2
    exact ⟨by omega,by omega,g3⟩
  | @letrecOver s t e s' k hf hk h =>
    intro hs ht
    have:=(same_inv N s.store.L.length (s.steps+1)).codeR (s:=tick s) (e:=e) (rho:=t.rho) (c:=⟨kidAt t 0,t.h.arg,e,some t.rhos⟩) ⟨rfl,rfl,hs⟩ (kidT ht (nk_pos (by omega)))
    have l:=code_len (s:=tick s) (e:=e) (rho:=t.rho) (c:=⟨kidAt t 0,t.h.arg,e,some t.rhos⟩) (Nat.le_refl _)
    rw [h] at this l
    obtain ⟨h1,h2,h3⟩:=this
    have l:s'.codes.length≤s.codes.length+1:=l
    exact ⟨by omega,by omega,h3⟩
  | @letrec s t e s' v s'' o hf hk h h' ih =>
    intro hs ht
    have:=(same_inv N s.store.L.length (s.steps+1)).codeR (s:=tick s) (e:=e) (rho:=t.rho) (c:=⟨kidAt t 0,t.h.arg,e,some t.rhos⟩) ⟨rfl,rfl,hs⟩ (kidT ht (nk_pos (by omega)))
    have l:=code_len (s:=tick s) (e:=e) (rho:=t.rho) (c:=⟨kidAt t 0,t.h.arg,e,some t.rhos⟩) (Nat.le_refl _)
    rw [h] at this l
    obtain ⟨a1,a2,a3⟩:=this
    have l:s'.codes.length≤s.codes.length+1:=l
    obtain ⟨b1,b2,b3⟩:=ih ((cwn_inv N).patch a3) (kidT ht (nk_two (by omega)))
    rw [patch_steps] at b1 b2
    rw [patch_len] at b1
    exact ⟨by omega,by omega,b3⟩
  | @ifStop s t e s' o hf hk h ho ih =>
    intro hs ht
    obtain ⟨h1,h2,h3⟩:=ih hs (kidT ht (nk_pos (by omega)))
    simp only [tick] at h1 h2
    exact ⟨by omega,by omega,h3⟩
  | @ifStuck s t e s' v hf hk h hv ih =>
    intro hs ht
    obtain ⟨h1,h2,h3⟩:=ih hs (kidT ht (nk_pos (by omega)))
    simp only [tick] at h1 h2
    exact ⟨by omega,by omega,h3⟩
  | @if_ s t e s' v s'' o hf hk h hv h' ih ih' =>
    intro hs ht
    obtain ⟨h1,h2,h3⟩:=ih hs (kidT ht (nk_pos (by omega)))
    obtain ⟨g1,g2,g3⟩:=ih' h3 (kidT ht (nk_if hk))
    simp only [tick] at h1 h2
    exact ⟨by omega,by omega,g3⟩
  | @try_ s t e s' o hf hk h ho ih =>
    intro hs ht
    obtain ⟨h1,h2,h3⟩:=ih hs (kidT ht (nk_pos (by omega)))
    simp only [tick] at h1 h2
    exact ⟨by omega,by omega,h3⟩
  | @catch_ s t e s' n s'' o hf hk h h' ih ih' =>
    intro hs ht
    obtain ⟨h1,h2,h3⟩:=ih hs (kidT ht (nk_pos (by omega)))
    obtain ⟨g1,g2,g3⟩:=ih' h3 (kidT ht (nk_two (by omega)))
    simp only [tick] at h1 h2
    exact ⟨by omega,by omega,g3⟩
  | @stop1 s t e s' o hf hk h ho ih =>
    intro hs ht
    obtain ⟨h1,h2,h3⟩:=ih hs (kidT ht (nk_pos (by omega)))
    simp only [tick] at h1 h2
    exact ⟨by omega,by omega,h3⟩
  | @stop2 s t e s' v s'' o hf hk hl h h' ho ih ih' =>
    intro hs ht
    obtain ⟨h1,h2,h3⟩:=ih hs (kidT ht (nk_pos (by omega)))
    obtain ⟨g1,g2,g3⟩:=ih' h3 (kidT ht (by rw [← ht.1.len];omega))
    simp only [tick] at h1 h2
    exact ⟨by omega,by omega,g3⟩
  | @rule1 s t e s' v s₂ o hf hk hl h h' ih =>
    intro hs ht
    obtain ⟨h1,h2,h3⟩:=ih hs (kidT ht (nk_pos (by omega)))
    simp only [tick] at h1 h2
    have:=h'.all ((same_inv N s'.store.L.length s'.steps).ruleR (s:=s') (t:=t) (e:=e) (vs:=[v]) ⟨rfl,rfl,h3⟩)
    have l:s₂.codes.length≤s'.codes.length:=h'.all (rule_len (Nat.le_refl _))
    exact ⟨by omega,by omega,this.2.2⟩
  | @rule2 s t e s' v s'' w s₃ o hf hk hl h h' h₂ ih ih' =>
    intro hs ht
    obtain ⟨h1,h2,h3⟩:=ih hs (kidT ht (nk_pos (by omega)))
    obtain ⟨g1,g2,g3⟩:=ih' h3 (kidT ht (by rw [← ht.1.len];omega))
    simp only [tick] at h1 h2
    have:=h₂.all ((same_inv N s''.store.L.length s''.steps).ruleR (s:=s'') (t:=t) (e:=e) (vs:=[v,w]) ⟨rfl,rfl,g3⟩)
    have l:s₃.codes.length≤s''.codes.length:=h₂.all (rule_len (Nat.le_refl _))
    exact ⟨by omega,by omega,this.2.2⟩
  | @call s t e s' v s'' w s₃ b e' s₄ o hf hk hl h h' h₂ h₃ ih ih' ih₃ =>
    intro hs ht
    obtain ⟨h1,h2,h3⟩:=ih hs (kidT ht (nk_pos (by omega)))
    obtain ⟨g1,g2,g3⟩:=ih' h3 (kidT ht (by rw [← ht.1.len];omega))
    obtain ⟨rfl,c,fn,_,hf',rfl,rfl,_⟩:=rule_node h₂
    obtain ⟨c1,c2,c3⟩:=ih₃ g3 ((cwn_inv N).body g3 hf')
    simp only [tick] at h1 h2
    exact ⟨by omega,by omega,c3⟩
def KO (k:Int):Prop:=k=0∨k=3∨k=4∨k=5∨k=6
def Re.ko {α:Type}:Re α→Prop
  | .ok _ _=>True
  | .over _ k=>KO k
theorem Re.ko_bind {α β:Type} {r:Re α} {f:α→Sa→Re β} (h:r.ko) (hf:∀ x s,r=.ok x s→(f x s).ko):(r.bind f).ko:=by
  cases r with
  | ok x s=>exact hf x s rfl
  | over s k=>exact h
theorem make_ko {s e rho c}:(make s e rho c).ko:=by
  unfold make
  split
  · split
    · trivial
    · show KO 4;simp [KO]
  · show KO 5;simp [KO]
theorem take_ko {s v k}:(take s v k).ko:=by
  unfold take
  split
  · split
    · show KO 5;simp [KO]
    · split
      · split
        · split
          · trivial
          · show KO 6;simp [KO]
        · show KO 6;simp [KO]
      · show KO 6;simp [KO]
  · show KO 6;simp [KO]
theorem number_ko {s v}:(number s v).ko:=by
  unfold number
  split
  · trivial
  · show KO 6;simp [KO]
theorem code_ko {s e rho c}:(Mac.code s e rho c).ko:=make_ko
theorem inst_ko {s t e}:(inst s t e).ko:=by
  unfold inst
  split
  · show KO 6;simp [KO]
  · split
    · refine Re.ko_bind take_ko fun c s' _=>?_
      split
      · show KO 0;simp [KO]
      · split
        · split
          · show KO 5;simp [KO]
          · exact code_ko
        · show KO 6;simp [KO]
    · show KO 6;simp [KO]
theorem leaf_ko {s t e}:(leaf s t e).ko:=by
  unfold leaf
  split
  · trivial
  · split
    · split
      · split
        · show KO 6;simp [KO]
        · trivial
      · show KO 6;simp [KO]
    · split
      · exact inst_ko
      · exact code_ko
theorem rule_ko {s t e vs}:(rule s t e vs).ko:=by
  unfold rule
  split
  · exact Re.ko_bind make_ko fun _ _ _=>trivial
  split
  · exact Re.ko_bind take_ko fun _ _ _=>trivial
  split
  · exact Re.ko_bind take_ko fun _ _ _=>trivial
  split
  · exact Re.ko_bind make_ko fun _ _ _=>trivial
  split
  · exact Re.ko_bind take_ko fun _ _ _=>trivial
  split
  · exact Re.ko_bind take_ko fun _ _ _=>trivial
  split
  · exact Re.ko_bind number_ko fun _ _ _=>Re.ko_bind number_ko fun _ _ _=>trivial
  split
  · exact Re.ko_bind number_ko fun _ _ _=>trivial
  · refine Re.ko_bind take_ko fun _ _ _=>?_
    split
    · show KO 0;simp [KO]
    · trivial
theorem Rend.ko {r:Re Nx} {s o} (h:Rend r s o) (hr:r.ko):∀ k,o=.over k→KO k:=by
  cases h with
  | val=>intro k h;cases h
  | exn=>intro k h;cases h
  | over=>intro k h;cases h;exact hr
theorem Big.ko {fuel s t e s' o} (h:Big fuel s t e s' o):∀ k,o=.over k→KO k:=by
  induction h with
  | full hk h=>intro k h;cases h;simp [KO]
  | region hk h h' ih=>exact ih
  | fuel hk h=>intro k h;cases h;simp [KO]
  | leaf hf hk h=>intro k h;cases h
  | @leafOver s t e s' k0 hf hk h=>intro k q;cases q;have:=leaf_ko (s:=tick s) (t:=t) (e:=e);rw [h] at this;exact this
  | letStop hf hk h ho ih=>exact ih
  | let_ hf hk h h' ih ih'=>exact ih'
  | @letrecOver s t e s' k0 hf hk h=>intro k q;cases q;have:=code_ko (s:=tick s) (e:=e) (rho:=t.rho) (c:=⟨kidAt t 0,t.h.arg,e,some t.rhos⟩);rw [h] at this;exact this
  | letrec hf hk h h' ih=>exact ih
  | ifStop hf hk h ho ih=>exact ih
  | ifStuck hf hk h hv ih=>intro k h;cases h;simp [KO]
  | if_ hf hk h hv h' ih ih'=>exact ih'
  | try_ hf hk h ho ih=>exact ih
  | catch_ hf hk h h' ih ih'=>exact ih'
  | stop1 hf hk h ho ih=>exact ih
  | stop2 hf hk hl h h' ho ih ih'=>exact ih'
  | rule1 hf hk hl h h' ih=>exact h'.ko rule_ko
  | rule2 hf hk hl h h' h₂ ih ih'=>exact h₂.ko rule_ko
  | call hf hk hl h h' h₂ h₃ ih ih' ih₃=>exact ih₃
def st0 (R C:Int):SG Cl:=⟨R,C,[(true,[])],0⟩
def s0 (R C:Int):Sa:=⟨st0 R C,0,[]⟩
def fin (s:Sa):Out→Res
  | .val v=>if v.kind=1 then ⟨s,1,true,v.n,ByteArray.empty⟩ else ⟨s,1,false,0,ByteArray.empty⟩
  | .exn n x=>⟨s,2,false,n,x⟩
  | .over k=>⟨s,k,false,0,ByteArray.empty⟩
def BB:Nat:=1000000000000
def Whole (fuel:Nat) (R C:Int) (t:AT) (r:Res):Prop:=Ends fuel t.size BB ⟨.node t En.nil,s0 R C,[]⟩ r
structure Lim (R C:Int):Prop where
  R:1≤R∧R≤1048576
  C:0≤C∧C≤4194304
theorem good0 {R C:Int} (h:Lim R C) (N:Nat):Good N 0 0 0 (s0 R C) where
  cw:=by intro c hc;simp [s0] at hc
  ok:=by
    refine ⟨h.R,h.C,?_,?_,?_⟩
    · show (1:Int)≤R;exact h.R.1
    · show (0:Int)≤C;exact h.C.1
    · show (0:Int)≤0∧(0:Int)≤C;exact ⟨Int.le_refl _,h.C.1⟩
  idx:=by
    intro i row c h1 h2 h3
    have h1:[(true,([]:List Cl))][i]?=some (true,row):=h1
    cases i with
    | zero=>simp at h1;subst h1;simp at h2
    | succ i=>simp at h1
  steps:=Nat.zero_le _
  len:=Nat.zero_le _
  codes:=Nat.zero_le _
theorem whole_total {fuel:Nat} {R C:Int} {t:AT} (hf:fuel≤3000) (ht:Wf t) (hs:t.size≤400) (hl:Lim R C):∃ s' o,Big fuel (s0 R C) t En.nil s' o:=by
  exact total fuel t.size fuel t.size (s0 R C) t En.nil (by show fuel≤0+fuel;omega) (Nat.le_refl _) ⟨ht,Nat.le_refl _⟩ (good0 hl _).cw
theorem whole_of {fuel:Nat} {R C:Int} {t:AT} (hf:fuel≤3000) (ht:Wf t) (hs:t.size≤400) (hl:Lim R C) {s' o} (h:Big fuel (s0 R C) t En.nil s' o):Whole fuel R C t (fin s' o):=by
  have hT:TN t.size t:=⟨ht,Nat.le_refl _⟩
  have hg:=good0 hl t.size
  have hL:=h.left hg.cw hT (by show 1≤[0].length;simp) (Nat.zero_le _)
  obtain ⟨h1,h2,h3,_⟩:=h.regions hg.cw hT
  obtain ⟨h4,_,_⟩:=h.codes hg.cw hT
  have hst:=hL.steps
  have e0:(s0 R C).store.L.length=1:=rfl
  have e1:(s0 R C).steps=0:=rfl
  have e2:(s0 R C).codes.length=0:=rfl
  rw [e0,e1] at h1
  rw [e1,e2] at h4
  have hm:3 * t.size * (s'.steps - 0)≤3 * 400 * 3000:=Nat.mul_le_mul (by omega) (by omega)
  have hb:Bd BB s':=⟨by show _≤1000000000000;omega,by show _≤1000000000000;omega⟩
  have hG:=h.good hg hT
  have hK:Ks (s0 R C) []:=⟨by simp,Nat.zero_le _⟩
  have hK':=hK.later hG
  refine big_runs h hg hT hb [] _ hK ?_
  cases o with
  | val v =>
    by_cases hv:v.kind=1
    · have e:fin s' (.val v)=⟨s',1,true,v.n,ByteArray.empty⟩:=by simp only [fin];rw [if_pos hv]
      rw [e]
      exact Ends.end_ (fitsV hG.zero hb hK') (by simp [step,hv])
    · have e:fin s' (.val v)=⟨s',1,false,0,ByteArray.empty⟩:=by simp only [fin];rw [if_neg hv]
      rw [e]
      exact Ends.end_ (fitsV hG.zero hb hK') (by simp [step,hv])
  | exn n x=>exact Ends.end_ (fitsE hG.zero hb hK') (by simp [step,raise])
  | over k=>rfl
theorem runs_det {fuel N B m j r} (h:Runs' fuel N B m j r):∀ {j' r'},Runs' fuel N B m j' r'→r'=r:=by
  induction h with
  | end_ hf h =>
    intro j' r' h'
    cases h' with
    | end_ _ h2=>rw [h] at h2;cases h2;rfl
    | on _ h2 _=>rw [h] at h2;cases h2
  | on hf h h' ih =>
    intro j' r' h'
    cases h' with
    | end_ _ h2=>rw [h] at h2;cases h2
    | on _ h2 h3=>rw [h] at h2;cases h2;exact ih h3
theorem whole_det {fuel R C t r r'} (h:Whole fuel R C t r) (h':Whole fuel R C t r'):r'=r:=by
  obtain ⟨j,h⟩:=h
  obtain ⟨j',h'⟩:=h'
  exact runs_det h h'
end Go.Abs.Mac
namespace Go.Abs.Mac
open Go Go.Abs Go.Abs.Stk Go.Abs.At
structure RunOk (fuel:Nat) (R C:Int) (t:AT):Prop where
  f:fuel≤3000
  wf:Wf t
  sz:t.size≤400
  lim:Lim R C
theorem whole_big {fuel R C t r} (h:RunOk fuel R C t) (hw:Whole fuel R C t r):∃ s' o,Big fuel (s0 R C) t En.nil s' o∧r=fin s' o:=by
  obtain ⟨s',o,hb⟩:=whole_total h.f h.wf h.sz h.lim
  exact ⟨s',o,hb,whole_det (whole_of h.f h.wf h.sz h.lim hb) hw⟩
theorem fin_s (s:Sa) (o:Out):(fin s o).s=s:=by
  cases o with
  | val v=>simp only [fin];split <;> rfl
  | exn n x=>rfl
  | over k=>rfl
structure SameEnd (r r':Res) (d:Nat):Prop where
  kind:r'.kind=r.kind
  isInt:r'.isInt=r.isInt
  n:r'.n=r.n
  exn:r'.exn=r.exn
  steps:r'.s.steps=r.s.steps+d
  live:r'.s.store.live.length=r.s.store.live.length
  cells:r'.s.store.cells=r.s.store.cells
  most:r'.s.store.most=r.s.store.most
end Go.Abs.Mac
