import Derived.Test.YtjilebpcaemopaaGreatDoorStackM
import Derived.Test.YtjilebpcaemopaaGreatDoorAtM
set_option linter.unusedVariables false
set_option linter.unusedSimpArgs false
namespace Go.Abs.Mac
open Go Go.Abs Go.Abs.Stk Go.Abs.At
structure V where
 kind:Int
 n:Int
 r:Int
 a:Int
 deriving DecidableEq
def V.av (v:V):List AV:=[u8 v.kind,int v.n,int v.r,int v.a]
def V.zero:V:=⟨0,0,0,0⟩
def num (n:Int):V:=⟨1,n,0,0⟩
structure Cl where
 kind:Int
 a:V
 b:V
 code:Int
def Cl.av (c:Cl):List AV:=u8 c.kind::(c.a.av++c.b.av++ [int c.code])
structure Nm where
 name:ByteArray
 v:V
 fn:Bool
structure En where
 names:List Nm
 aH:List (Int×Int)
def En.nil:En:=⟨[],[]⟩
def En.find (e:En) (name:ByteArray):Option Nm:=e.names.find? fun n=>n.name=name
def En.with (e:En) (name:ByteArray) (v:V) (fn:Bool):En:=⟨⟨name,v,fn⟩::e.names,e.aH⟩
def En.region (e:En) (rho:Int):Int×Bool:=
 match e.aH.find? fun r=>r.1=rho with
 | some r=>(r.2,true)
 | none=>(0,decide (rho=0))
def En.opn (e:En) (rho region:Int):En:=⟨e.names,(rho,region)::e.aH⟩
structure Co where
 body:AT
 arg:ByteArray
 env:En
 rs:Option (List Int)
def Co.rsl (c:Co):List Int:=c.rs.getD []
structure Sa where
 store:SG Cl
 steps:Nat
 aC:List Co
inductive Re (α:Type) where
 | ok (x:α) (s:Sa)
 | over (s:Sa) (kind:Int)
def Re.bind {α β:Type}:Re α→(α→Sa→Re β)→Re β
 | .ok x s,f=>f x s
 | .over s k,_=>.over s k
def dw (s:SG Cl):Option (Int×SG Cl):=if (s.live.length:Int)<s.R then some (s.L.length,s.more) else none
def cz (s:SG Cl):SG Cl:=
 if s.live.length<2 then s else match s.live.getLast? with
  | some i=>s.less i
  | none=>s
def dH (s:SG Cl) (r:Int):Bool:=(s.row r).isSome
def e8 (s:SG Cl) (r:Int) (c:Cl):Option (V×SG Cl):=
 match s.row r with
 | none=>none
 | some row=>if s.C≤s.cells then none else some (⟨2,0,r,row.length⟩,s.gU r.toNat row c)
def make (s:Sa) (e:En) (rho:Int) (c:Cl):Re V:=
 if (e.region rho).2=true∧dH s.store (e.region rho).1=true then
  match e8 s.store (e.region rho).1 c with
  | some (v,st)=>.ok v {s with store:=st}
  | none=>.over s 4
 else .over s 5
def cellAt (s:SG Cl) (v:V):Option Cl:=(s.row v.r).bind fun row=>row[v.a.toNat]?
def take (s:Sa) (v:V) (kind:Int):Re Cl:=
 if v.kind=2 then
  if s.store.find v.kind v.n v.r v.a=6 then .over s 5
  else if s.store.find v.kind v.n v.r v.a=0 then
   match cellAt s.store v with
   | some c=>if c.kind=kind then .ok c s else .over s 6
   | none=>.over s 6
  else .over s 6
 else .over s 6
def cM (s:Sa) (c:Co):Cl×Sa:=(⟨3,V.zero,V.zero,s.aC.length⟩,{s with aC:=s.aC++ [c]})
def code (s:Sa) (e:En) (rho:Int) (c:Co):Re V:=make (cM s c).2 e rho (cM s c).1
def eN (s:SG Cl) (v:V) (c:Cl):SG Cl:=
 match s.row v.r with
 | some row=>s.put v.r.toNat (row.set v.a.toNat c)
 | none=>s
def number (s:Sa) (v:V):Re Int:=if v.kind=1 then .ok v.n s else .over s 6
def opF (o a b:Int):Int:=
 if o=1 then IntKind.i64.wrap (a+b) else if o=2 then IntKind.i64.wrap (a - b) else if o=3 then IntKind.i64.wrap (a * b)
 else if o=4 then (if a<b then 1 else 0) else if o=5 then (if a=b then 1 else 0) else 0
def opens (e own:En):List Int→List Int→Option En
 | [],_=>some own
 | r::rs,q::qs=>if (e.region r).2=true then opens e (own.opn q (e.region r).1) rs qs else none
 | _::_,[]=>none
def inst (s:Sa) (t:AT) (e:En):Re V:=
 match e.find t.h.name with
 | none=>.over s 6
 | some n=>if n.fn=true then
  (take s n.v 3).bind fun c s=>match s.aC[c.code.toNat]? with
    | none=>.over s 0
    | some f=>if f.rsl.length=t.aH.length then
     match opens e f.env t.aH f.rsl with
     | none=>.over s 5
     | some own=>code s e t.rho ⟨f.body,f.arg,own,none⟩
     else .over s 6
  else .over s 6
def aB (t:AT) (i:Nat):AT:=(t.kids[i]?).getD t
def leaf (s:Sa) (t:AT) (e:En):Re V:=
 if t.h.kind=1 then .ok (num t.h.n) s
 else if t.h.kind=2 then
  match e.find t.h.name with
  | some n=>if n.fn=true then .over s 6 else .ok n.v s
  | none=>.over s 6
 else if t.h.kind=18 then inst s t e
 else code s e t.rho ⟨aB t 0,t.h.arg,e,none⟩
def bu (k:Int):Prop:=k=1∨k=2∨k=18∨k=11
instance (k:Int):Decidable (bu k):=by unfold bu;exact inferInstance
def patch (s:Sa) (e:En):Sa:=
 match s.aC.getLast? with
 | some c=>{s with aC:=s.aC.dropLast++ [{c with env:=e}]}
 | none=>s
inductive Nx where
 | node (t:AT) (e:En)
 | val (v:V)
 | exn (n:Int) (x:ByteArray)
def at0 (vs:List V) (i:Nat):V:=(vs[i]?).getD V.zero
def eJ (s:Sa) (t:AT) (e:En) (vs:List V):Re Nx:=
 if t.h.kind=3 then (make s e t.rho ⟨1,at0 vs 0,at0 vs 1,0⟩).bind fun v s=>.ok (.val v) s
 else if t.h.kind=4 then (take s (at0 vs 0) 1).bind fun c s=>.ok (.val c.a) s
 else if t.h.kind=5 then (take s (at0 vs 0) 1).bind fun c s=>.ok (.val c.b) s
 else if t.h.kind=6 then (make s e t.rho ⟨2,at0 vs 0,V.zero,0⟩).bind fun v s=>.ok (.val v) s
 else if t.h.kind=7 then (take s (at0 vs 0) 2).bind fun c s=>.ok (.val c.a) s
 else if t.h.kind=8 then (take s (at0 vs 0) 2).bind fun c s=>.ok (.val (num 0)) {s with store:=eN s.store (at0 vs 0) ⟨2,at0 vs 1,V.zero,0⟩}
 else if t.h.kind=9 then (number s (at0 vs 0)).bind fun a s=>(number s (at0 vs 1)).bind fun b s=>.ok (.val (num (opF t.h.op a b))) s
 else if t.h.kind=15 then (number s (at0 vs 0)).bind fun a s=>.ok (.exn a t.h.exn) s
 else (take s (at0 vs 0) 3).bind fun c s=>match s.aC[c.code.toNat]? with
  | none=>.over s 0
  | some f=>.ok (.node f.body (f.env.with f.arg (at0 vs 1) false)) s
structure Fr where
 t:AT
 e:En
 vals:List V
structure M where
 x:Nx
 s:Sa
 k:List Fr
inductive Go where
 | on (m:M)
 | end_ (s:Sa) (kind:Int) (isInt:Bool) (n:Int) (exn:ByteArray)
def Re.go (k:List Fr):Re Nx→Go
 | .ok x s=>.on ⟨x,s,k⟩
 | .over s kind=>.end_ s kind false 0 ByteArray.empty
def tick (s:Sa):Sa:={s with steps:=s.steps+1}
def enter (fuel:Nat) (s:Sa) (k:List Fr) (t:AT) (e:En):Go:=
 if t.h.kind=17 then
  match dw s.store with
  | none=>.end_ s 4 false 0 ByteArray.empty
  | some (r,st)=>.on ⟨.node (aB t 0) (e.opn t.rho r),{s with store:=st},⟨t,e,[]⟩::k⟩
 else if fuel≤s.steps then .end_ s 3 false 0 ByteArray.empty
 else if bu t.h.kind then ((leaf (tick s) t e).bind fun v s=>.ok (.val v) s).go k
 else if t.h.kind=13 then
  ((code (tick s) e t.rho ⟨aB t 0,t.h.arg,e,some t.aH⟩).bind fun v s=>
    .ok (.node (aB t 1) (e.with t.h.name v true)) (patch s (e.with t.h.name v true))).go k
 else .on ⟨.node (aB t 0) e,tick s,⟨t,e,[]⟩::k⟩
def je (s:Sa) (k:List Fr) (f:Fr) (v:V):Go:=
 if f.t.h.kind=17 then .on ⟨.val v,{s with store:=cz s.store},k⟩
 else if f.t.h.kind=16 then .on ⟨.val v,s,k⟩
 else if f.t.h.kind=12 then .on ⟨.node (aB f.t 1) (f.e.with f.t.h.name v false),s,k⟩
 else if f.t.h.kind=14 then
  ((number s v).bind fun n s=>.ok (.node (aB f.t (if n≠0 then 1 else 2)) f.e) s).go k
 else if f.vals.length+1<f.t.kids.length then .on ⟨.node (aB f.t (f.vals.length+1)) f.e,s,⟨f.t,f.e,f.vals++ [v]⟩::k⟩
 else (eJ s f.t f.e (f.vals++ [v])).go k
def raise (s:Sa) (n:Int) (x:ByteArray):List Fr→Go
 | []=>.end_ s 2 false n x
 | f::k=>
  let s':Sa:=if f.t.h.kind=17 then {s with store:=cz s.store} else s
  if f.t.h.kind=16∧f.t.h.exn=x then .on ⟨.node (aB f.t 1) (f.e.with f.t.h.arg (num n) false),s',k⟩ else raise s' n x k
def step (fuel:Nat) (m:M):Go:=
 match m.x with
 | .node t e=>enter fuel m.s m.k t e
 | .exn n x=>raise m.s n x m.k
 | .val v=>match m.k with
  | []=>if v.kind=1 then .end_ m.s 1 true v.n ByteArray.empty else .end_ m.s 1 false 0 ByteArray.empty
  | f::k=>je m.s k f v
inductive pF (fuel:Nat):M→Nat→Sa→Int→Bool→Int→ByteArray→Prop
 | end_ {m s kind b n x} (h:step fuel m= .end_ s kind b n x):pF fuel m 0 s kind b n x
 | on {m m' j s kind b n x} (h:step fuel m= .on m') (h':pF fuel m' j s kind b n x):pF fuel m (j+1) s kind b n x
inductive Out where
 | val (v:V)
 | exn (n:Int) (x:ByteArray)
 | over (kind:Int)
def ni (o:Out) (s:Sa):Sa:=
 match o with
 | .over _=>s
 | _=>{s with store:=cz s.store}
def Out.isVal:Out→Prop
 | .val _=>True
 | _=>False
inductive kj:Re Nx→Sa→Out→Prop
 | val {v s}:kj (.ok (.val v) s) s (.val v)
 | exn {n x s}:kj (.ok (.exn n x) s) s (.exn n x)
 | over {s k}:kj (.over s k) s (.over k)
inductive Big (fuel:Nat):Sa→AT→En→Sa→Out→Prop
 | full {s t e} (hk:t.h.kind=17) (h:dw s.store=none):Big fuel s t e s (.over 4)
 | region {s t e r st s' o} (hk:t.h.kind=17) (h:dw s.store=some (r,st)) (h':Big fuel {s with store:=st} (aB t 0) (e.opn t.rho r) s' o):Big fuel s t e (ni o s') o
 | fuel {s t e} (hk:t.h.kind≠17) (h:fuel≤s.steps):Big fuel s t e s (.over 3)
 | leaf {s t e s' v} (hf:s.steps<fuel) (hk:bu t.h.kind) (h:leaf (tick s) t e= .ok v s'):Big fuel s t e s' (.val v)
 | leafOver {s t e s' k} (hf:s.steps<fuel) (hk:bu t.h.kind) (h:leaf (tick s) t e= .over s' k):Big fuel s t e s' (.over k)
 | letStop {s t e s' o} (hf:s.steps<fuel) (hk:t.h.kind=12) (h:Big fuel (tick s) (aB t 0) e s' o) (ho:¬o.isVal):Big fuel s t e s' o
 | let_ {s t e s' v s'' o} (hf:s.steps<fuel) (hk:t.h.kind=12) (h:Big fuel (tick s) (aB t 0) e s' (.val v)) (h':Big fuel s' (aB t 1) (e.with t.h.name v false) s'' o):Big fuel s t e s'' o
 | letrecOver {s t e s' k} (hf:s.steps<fuel) (hk:t.h.kind=13) (h:code (tick s) e t.rho ⟨aB t 0,t.h.arg,e,some t.aH⟩= .over s' k):Big fuel s t e s' (.over k)
 | letrec {s t e s' v s'' o} (hf:s.steps<fuel) (hk:t.h.kind=13) (h:code (tick s) e t.rho ⟨aB t 0,t.h.arg,e,some t.aH⟩= .ok v s')
  (h':Big fuel (patch s' (e.with t.h.name v true)) (aB t 1) (e.with t.h.name v true) s'' o):Big fuel s t e s'' o
 | ifStop {s t e s' o} (hf:s.steps<fuel) (hk:t.h.kind=14) (h:Big fuel (tick s) (aB t 0) e s' o) (ho:¬o.isVal):Big fuel s t e s' o
 | ifStuck {s t e s' v} (hf:s.steps<fuel) (hk:t.h.kind=14) (h:Big fuel (tick s) (aB t 0) e s' (.val v)) (hv:v.kind≠1):Big fuel s t e s' (.over 6)
 | if_ {s t e s' v s'' o} (hf:s.steps<fuel) (hk:t.h.kind=14) (h:Big fuel (tick s) (aB t 0) e s' (.val v)) (hv:v.kind=1) (h':Big fuel s' (aB t (if v.n≠0 then 1 else 2)) e s'' o):Big fuel s t e s'' o
 | try_ {s t e s' o} (hf:s.steps<fuel) (hk:t.h.kind=16) (h:Big fuel (tick s) (aB t 0) e s' o) (ho:∀n,o≠ .exn n t.h.exn):Big fuel s t e s' o
 | catch_ {s t e s' n s'' o} (hf:s.steps<fuel) (hk:t.h.kind=16) (h:Big fuel (tick s) (aB t 0) e s' (.exn n t.h.exn)) (h':Big fuel s' (aB t 1) (e.with t.h.arg (num n) false) s'' o):Big fuel s t e s'' o
 | stop1 {s t e s' o} (hf:s.steps<fuel) (hk:3≤t.h.kind∧t.h.kind≤10∨t.h.kind=15) (h:Big fuel (tick s) (aB t 0) e s' o) (ho:¬o.isVal):Big fuel s t e s' o
 | stop2 {s t e s' v s'' o} (hf:s.steps<fuel) (hk:3≤t.h.kind∧t.h.kind≤10∨t.h.kind=15) (hl:t.kids.length=2) (h:Big fuel (tick s) (aB t 0) e s' (.val v)) (h':Big fuel s' (aB t 1) e s'' o) (ho:¬o.isVal):Big fuel s t e s'' o
 | rule1 {s t e s₁ v s₂ o} (hf:s.steps<fuel) (hk:3≤t.h.kind∧t.h.kind≤10∨t.h.kind=15) (hl:t.kids.length=1) (h:Big fuel (tick s) (aB t 0) e s₁ (.val v)) (h':kj (eJ s₁ t e [v]) s₂ o):Big fuel s t e s₂ o
 | rule2 {s t e s₁ v s₂ w s₃ o} (hf:s.steps<fuel) (hk:3≤t.h.kind∧t.h.kind≤10∨t.h.kind=15) (hl:t.kids.length=2) (h:Big fuel (tick s) (aB t 0) e s₁ (.val v)) (h':Big fuel s₁ (aB t 1) e s₂ (.val w)) (h₂:kj (eJ s₂ t e [v,w]) s₃ o):Big fuel s t e s₃ o
 | call {s t e s₁ v s₂ w s₃ b e' s₄ o} (hf:s.steps<fuel) (hk:3≤t.h.kind∧t.h.kind≤10∨t.h.kind=15) (hl:t.kids.length=2) (h:Big fuel (tick s) (aB t 0) e s₁ (.val v)) (h':Big fuel s₁ (aB t 1) e s₂ (.val w)) (h₂:eJ s₂ t e [v,w]= .ok (.node b e') s₃) (h₃:Big fuel s₃ b e' s₄ o):Big fuel s t e s₄ o
end Go.Abs.Mac
set_option linter.unusedVariables false
set_option linter.unusedSimpArgs false
namespace Go.Abs.Mac
open Go Go.Abs Go.Abs.Stk Go.Abs.At
def nk (k:Int):Nat:=
 if k=3∨k=8∨k=9∨k=10∨k=12∨k=13∨k=16 then 2
 else if k=4∨k=5∨k=6∨k=7∨k=11∨k=15∨k=17 then 1
 else if k=14 then 3 else 0
inductive Wf:AT→Prop
 | mk {t:AT} (h1:1≤t.h.kind∧t.h.kind≤18) (h2:t.kids.length=nk t.h.kind) (h3:∀c∈t.kids,Wf c) (h4:t.aH.length≤1000000):Wf t
theorem Wf.kind {t:AT} (h:Wf t):1≤t.h.kind∧t.h.kind≤18:=by cases h;assumption
theorem Wf.len {t:AT} (h:Wf t):t.kids.length=nk t.h.kind:=by cases h;assumption
theorem Wf.kids {t:AT} (h:Wf t):∀c∈t.kids,Wf c:=by cases h;assumption
theorem Wf.aH {t:AT} (h:Wf t):t.aH.length≤1000000:=by cases h;assumption
theorem jQ {t:AT} {i:Nat} (h:i<t.kids.length):aB t i∈t.kids:=by
 unfold aB
 rw[List.getElem?_eq_getElem h]
 exact List.getElem_mem h
theorem jC {t c:AT} (h:c∈t.kids):c.size<t.size:=by
 obtain⟨_,_,_,_,_,_,ks⟩:=t
 have:=AT.dW (show c∈ks from h)
 simp[AT.size];omega
theorem Wf.kid {t:AT} (h:Wf t) {i:Nat} (hi:i<nk t.h.kind):Wf (aB t i):=h.kids _ (jQ (by rw[h.len];exact hi))
theorem Wf.jC {t:AT} (h:Wf t) {i:Nat} (hi:i<nk t.h.kind):(aB t i).size<t.size:=Mac.jC (jQ (by rw[h.len];exact hi))
theorem aJ {k:Int} (h:k=17∨k=12∨k=13∨k=14∨k=16∨3≤k∧k≤10∨k=15∨k=11):0<nk k:=by
 unfold nk;split
 ·omega
 ·split
  ·omega
  ·split<;>omega
theorem cb {k:Int} (h:k=12∨k=13∨k=14∨k=16):1<nk k:=by
 unfold nk;split
 ·omega
 ·split
  ·omega
  ·split<;>omega
theorem nk_12 {k:Int} (h:3≤k∧k≤10∨k=15):nk k=1∨nk k=2:=by
 unfold nk;split
 ·omega
 ·split
  ·omega
  ·split<;>omega
theorem mQ {k n:Int} (h:k=14):(if n≠0 then 1 else 2)<nk k:=by
 subst h;unfold nk;simp;split<;>omega
structure lV (I:Sa→Prop) (T:AT→Prop):Prop where
 kid:∀ {t i},T t→i<t.kids.length→T (aB t i)
 wf:∀ {t},T t→Wf t
 put:∀ {s r c v st},I s→c.kind≠3→e8 s.store r c=some (v,st)→I {s with store:=st}
 code:∀ {s c},I s→T c.body→I (cM s c).2
 codePut:∀ {s c r v st},I s→T c.body→e8 s.store r (cM s c).1=some (v,st)→I {(cM s c).2 with store:=st}
 set:∀ {s v c},I s→c.kind=2→I {s with store:=eN s.store v c}
 body:∀ {s:Sa} {i:Nat} {f:Co},I s→s.aC[i]?=some f→T f.body
structure Inv (I:Sa→Prop) (T:AT→Prop):Prop extends lV I T where
 tick:∀ {s},I s→I (tick s)
 push:∀ {s r st},I s→dw s.store=some (r,st)→I {s with store:=st}
 pop:∀ {s},I s→I {s with store:=cz s.store}
 patch:∀ {s e},I s→I (patch s e)
def Re.all {α:Type} (p:Sa→Prop):Re α→Prop
 | .ok _ s=>p s
 | .over s _=>p s
theorem Re.all_bind {α β:Type} {p:Sa→Prop} {r:Re α} {f:α→Sa→Re β} (h:r.all p) (hf:∀x s,r= .ok x s→p s→(f x s).all p):(r.bind f).all p:=by
 cases r with
 | ok x s=>exact hf x s rfl h
 | over s k=>exact h
theorem bR {s v k} {p:Sa→Prop} (h:p s):(take s v k).all p:=by
 unfold take
 repeat' split
 all_goals exact h
theorem fQ {s v k c s'} (h:take s v k= .ok c s'):s'=s∧c.kind=k∧cellAt s.store v=some c∧s.store.find v.kind v.n v.r v.a=0:=by
 unfold take at h
 split at h
 ·split at h
  ·cases h
  ·split at h
   ·rename_i h0
    split at h
    ·split at h
     ·rename_i hc hk;cases h;exact⟨rfl,hk,hc,h0⟩
     ·cases h
    ·cases h
   ·cases h
 ·cases h
theorem dV {s v} {p:Sa→Prop} (h:p s):(number s v).all p:=by
 unfold number;split<;>exact h
variable {I:Sa→Prop} {T:AT→Prop}
theorem lV.make (H:lV I T) {s e rho c} (h:I s) (hc:c.kind≠3):(make s e rho c).all I:=by
 unfold Mac.make
 split
 ·split
  ·rename_i hp;exact H.put h hc hp
  ·exact h
 ·exact h
theorem lV.fY (H:lV I T) {s e rho c} (h:I s) (hT:T c.body):(Mac.code s e rho c).all I:=by
 unfold Mac.code Mac.make
 split
 ·split
  ·rename_i hp;exact H.codePut h hT hp
  ·exact H.code h hT
 ·exact H.code h hT
theorem lV.instR (H:lV I T) {s t e} (h:I s):(inst s t e).all I:=by
 unfold inst
 split
 ·exact h
 ·split
  ·refine Re.all_bind (bR h) fun c s' hr hs=> ?_
   split
   ·exact hs
   ·rename_i f hf
    split
    ·split
     ·exact hs
     ·exact H.fY hs (H.body (f:=f) hs hf)
    ·exact hs
  ·exact h
theorem lV.ka (H:lV I T) {s t e} (h:I s) (hT:T t) (hk:bu t.h.kind):(leaf s t e).all I:=by
 unfold leaf
 split
 ·exact h
 ·split
  ·split
   ·split<;>exact h
   ·exact h
  ·split
   ·exact H.instR h
   ·refine H.fY h (H.kid hT ?_)
    rw[(H.wf hT).len]
    unfold bu at hk
    exact aJ (by omega)
theorem lV.kc (H:lV I T) {s t e vs} (h:I s):(eJ s t e vs).all I:=by
 unfold eJ
 split
 ·exact Re.all_bind (H.make h (by simp)) fun _ _ _ hs=>hs
 split
 ·exact Re.all_bind (bR h) fun _ _ _ hs=>hs
 split
 ·exact Re.all_bind (bR h) fun _ _ _ hs=>hs
 split
 ·exact Re.all_bind (H.make h (by simp)) fun _ _ _ hs=>hs
 split
 ·exact Re.all_bind (bR h) fun _ _ _ hs=>hs
 split
 ·exact Re.all_bind (bR h) fun _ _ _ hs=>H.set hs rfl
 split
 ·exact Re.all_bind (dV h) fun _ _ _ hs=>Re.all_bind (dV hs) fun _ _ _ hs=>hs
 split
 ·exact Re.all_bind (dV h) fun _ _ _ hs=>hs
 ·refine Re.all_bind (bR h) fun _ _ _ hs=> ?_
  split<;>exact hs
theorem dG {s t e vs b e' s'} (h:eJ s t e vs= .ok (.node b e') s'):s'=s∧∃c f,take s (at0 vs 0) 3= .ok c s∧s.aC[c.code.toNat]?=some f∧b=f.body∧e'=f.env.with f.arg (at0 vs 1) false∧¬(3≤t.h.kind∧t.h.kind≤9∨t.h.kind=15):=by
 unfold eJ at h
 split at h
 ·cases hm:make s e t.rho ⟨1,at0 vs 0,at0 vs 1,0⟩<;>rw[hm]at h<;>cases h
 split at h
 ·cases hm:take s (at0 vs 0) 1<;>rw[hm]at h<;>cases h
 split at h
 ·cases hm:take s (at0 vs 0) 1<;>rw[hm]at h<;>cases h
 split at h
 ·cases hm:make s e t.rho ⟨2,at0 vs 0,V.zero,0⟩<;>rw[hm]at h<;>cases h
 split at h
 ·cases hm:take s (at0 vs 0) 2<;>rw[hm]at h<;>cases h
 split at h
 ·cases hm:take s (at0 vs 0) 2<;>rw[hm]at h<;>cases h
 split at h
 ·cases hm:number s (at0 vs 0) with
  | over=>rw[hm]at h;cases h
  | ok a s1=>
   rw[hm]at h
   simp only[Re.bind]at h
   cases hn:number s1 (at0 vs 1)<;>rw[hn]at h<;>cases h
 split at h
 ·cases hm:number s (at0 vs 0)<;>rw[hm]at h<;>cases h
 ·cases hm:take s (at0 vs 0) 3 with
  | over=>rw[hm]at h;cases h
  | ok c s1=>
   obtain⟨rfl,_⟩:=fQ hm
   rw[hm]at h
   simp only[Re.bind]at h
   split at h
   ·cases h
   ·rename_i f hf
    cases h
    exact⟨rfl,c,f,rfl,hf,rfl,rfl,by omega⟩
theorem kj.all {p:Sa→Prop} {r:Re Nx} {s o} (h:kj r s o) (hr:r.all p):p s:=by cases h<;>exact hr
theorem Big.inv {fuel} (H:Inv I T) {s t e s' o} (h:Big fuel s t e s' o):I s→T t→I s':=by
 induction h with
 | full hk h=>exact fun h _=>h
 | @region s t e r st s' o hk h h' ih=>
  intro hs ht
  have:=ih (H.push hs h) (H.kid ht (by rw[(H.wf ht).len];exact aJ (by omega)))
  cases o<;>first | exact H.pop this | exact this
 | fuel hk h=>exact fun h _=>h
 | @leaf s t e s' v hf hk h=>
  intro hs ht
  have:=H.ka (e:=e) (H.tick hs) ht hk
  rw[h]at this;exact this
 | @leafOver s t e s' k hf hk h=>
  intro hs ht
  have:=H.ka (e:=e) (H.tick hs) ht hk
  rw[h]at this;exact this
 | letStop hf hk h ho ih=>exact fun hs ht=>ih (H.tick hs) (H.kid ht (by rw[(H.wf ht).len];exact aJ (by omega)))
 | let_ hf hk h h' ih ih'=>
  exact fun hs ht=>ih' (ih (H.tick hs) (H.kid ht (by rw[(H.wf ht).len];exact aJ (by omega)))) (H.kid ht (by rw[(H.wf ht).len];exact cb (by omega)))
 | @letrecOver s t e s' k hf hk h=>
  intro hs ht
  have:=H.fY (e:=e) (rho:=t.rho) (H.tick hs) (c:=⟨aB t 0,t.h.arg,e,some t.aH⟩) (H.kid ht (i:=0) (by rw[(H.wf ht).len];exact aJ (by omega)))
  rw[h]at this;exact this
 | @letrec s t e s' v s'' o hf hk h h' ih=>
  intro hs ht
  have:=H.fY (e:=e) (rho:=t.rho) (H.tick hs) (c:=⟨aB t 0,t.h.arg,e,some t.aH⟩) (H.kid ht (i:=0) (by rw[(H.wf ht).len];exact aJ (by omega)))
  rw[h]at this
  exact ih (H.patch this) (H.kid ht (by rw[(H.wf ht).len];exact cb (by omega)))
 | ifStop hf hk h ho ih=>exact fun hs ht=>ih (H.tick hs) (H.kid ht (by rw[(H.wf ht).len];exact aJ (by omega)))
 | ifStuck hf hk h hv ih=>exact fun hs ht=>ih (H.tick hs) (H.kid ht (by rw[(H.wf ht).len];exact aJ (by omega)))
 | if_ hf hk h hv h' ih ih'=>
  exact fun hs ht=>ih' (ih (H.tick hs) (H.kid ht (by rw[(H.wf ht).len];exact aJ (by omega)))) (H.kid ht (by rw[(H.wf ht).len];exact mQ hk))
 | try_ hf hk h ho ih=>exact fun hs ht=>ih (H.tick hs) (H.kid ht (by rw[(H.wf ht).len];exact aJ (by omega)))
 | catch_ hf hk h h' ih ih'=>
  exact fun hs ht=>ih' (ih (H.tick hs) (H.kid ht (by rw[(H.wf ht).len];exact aJ (by omega)))) (H.kid ht (by rw[(H.wf ht).len];exact cb (by omega)))
 | stop1 hf hk h ho ih=>exact fun hs ht=>ih (H.tick hs) (H.kid ht (by rw[(H.wf ht).len];exact aJ (by omega)))
 | stop2 hf hk hl h h' ho ih ih'=>exact fun hs ht=>ih' (ih (H.tick hs) (H.kid ht (by omega))) (H.kid ht (by omega))
 | rule1 hf hk hl h h' ih=>exact fun hs ht=>h'.all (H.kc (ih (H.tick hs) (H.kid ht (by omega))))
 | rule2 hf hk hl h h' h2 ih ih'=>exact fun hs ht=>h2.all (H.kc (ih' (ih (H.tick hs) (H.kid ht (by omega))) (H.kid ht (by omega))))
 | call hf hk hl h h' h2 h3 ih ih' ih3=>
  intro hs ht
  have h2':=ih' (ih (H.tick hs) (H.kid ht (by omega))) (H.kid ht (by omega))
  obtain⟨rfl,c,f,_,hf',rfl,rfl,_⟩:=dG h2
  exact ih3 h2' (H.body h2' hf')
def CW (T:AT→Prop) (s:Sa):Prop:=∀c∈s.aC,T c.body
theorem yw (T:AT→Prop) (hk:∀ {t i},T t→i<t.kids.length→T (aB t i)) (hw:∀ {t},T t→Wf t):Inv (CW T) T where
 kid:=hk
 wf:=hw
 tick:=fun h=>h
 push:=fun h _=>h
 pop:=fun h=>h
 put:=fun h _ _=>h
 code:=@fun s c h hc x hx=>by
  have hx:=List.mem_append.1 (show x∈s.aC++ [c] from hx)
  rw[List.mem_singleton]at hx
  rcases hx with hx | rfl
  ·exact h x hx
  ·exact hc
 codePut:=@fun s c r v st h hc _ x hx=>by
  have hx:=List.mem_append.1 (show x∈s.aC++ [c] from hx)
  rw[List.mem_singleton]at hx
  rcases hx with hx | rfl
  ·exact h x hx
  ·exact hc
 set:=fun h _=>h
 patch:=fun {s e} h x hx=>by
  unfold Mac.patch at hx
  split at hx
  ·rename_i c hc
   simp only[List.mem_append,List.mem_singleton]at hx
   rcases hx with hx | rfl
   ·exact h x (List.dropLast_subset _ hx)
   ·exact h c (List.mem_of_getLast? hc)
  ·exact h x hx
 body:=fun h hi=>h _ (List.mem_of_getElem? hi)
def TN (N:Nat) (t:AT):Prop:=Wf t∧t.size≤N
theorem aZ (N:Nat):Inv (CW (TN N)) (TN N):=
 yw (TN N) (fun h hi=>⟨h.1.kids _ (jQ hi),Nat.le_trans (Nat.le_of_lt (jC (jQ hi))) h.2⟩) (fun h=>h.1)
theorem xE (n:Nat) (N:Nat):Inv (fun s=>n≤s.steps∧CW (TN N) s) (TN N) where
 kid:=(aZ N).kid
 wf:=(aZ N).wf
 tick:=fun h=>⟨Nat.le_succ_of_le h.1,h.2⟩
 push:=fun h _=>h
 pop:=fun h=>h
 put:=fun h _ _=>h
 code:=fun h hc=>⟨h.1,(aZ N).code h.2 hc⟩
 codePut:=fun h hc hp=>⟨h.1,(aZ N).codePut h.2 hc hp⟩
 set:=fun h _=>h
 patch:=fun {s e} h=>⟨by unfold Mac.patch;split<;>exact h.1,(aZ N).patch h.2⟩
 body:=fun h hi=>(aZ N).body h.2 hi
theorem Big.Ab {fuel N s t e s' o} (h:Big fuel s t e s' o) (hs:CW (TN N) s) (ht:TN N t):s.steps≤s'.steps∧CW (TN N) s':=
 h.inv (xE s.steps N) ⟨Nat.le_refl _,hs⟩ ht
theorem kinds {k:Int} (h:1≤k∧k≤18) (h17:k≠17):bu k∨k=12∨k=13∨k=14∨k=16∨(3≤k∧k≤10∨k=15):=by
 unfold bu;omega
theorem wQ {N s e rho c} (h:CW (TN N) s) (hT:TN N c.body):(Mac.code s e rho c).all (fun s'=>s'.steps=s.steps∧CW (TN N) s'):=by
 unfold Mac.code Mac.make
 split
 ·split
  ·rename_i hp;exact⟨rfl,(aZ N).codePut h hT hp⟩
  ·exact⟨rfl,(aZ N).code h hT⟩
 ·exact⟨rfl,(aZ N).code h hT⟩
theorem dv (s e):(patch s e).steps=s.steps:=by unfold patch;split<;>rfl
theorem we {r:Re Nx}:(∃s o,kj r s o)∨∃b e s,r= .ok (.node b e) s:=by
 cases r with
 | ok x s=>cases x with
  | node b e=>exact .inr ⟨b,e,s,rfl⟩
  | val v=>exact .inl ⟨_,_,.val⟩
  | exn n x=>exact .inl ⟨_,_,.exn⟩
 | over s k=>exact .inl ⟨_,_,.over⟩
theorem total (fuel N:Nat):∀(d m:Nat) s t e,fuel≤s.steps+d→t.size≤m→TN N t→CW (TN N) s→∃s' o,Big fuel s t e s' o:=by
 intro d
 induction d with
 | zero=>
  intro m
  induction m with
  | zero=>intro s t e hd hm;have:=t.size_pos;omega
  | succ m ihm=>
   intro s t e hd hm ht hs
   by_cases h17:t.h.kind=17
   ·cases hp:dw s.store with
    | none=>exact⟨_,_,.full h17 hp⟩
    | some p=>
     obtain⟨r,st⟩:=p
     have h0:0<nk t.h.kind:=aJ (by omega)
     obtain⟨s',o,h⟩:=ihm {s with store:=st} (aB t 0) (e.opn t.rho r) hd (by have:=ht.1.jC h0;omega) ((aZ N).kid ht (by rw[ht.1.len];exact h0)) hs
     exact⟨_,_,.region h17 hp h⟩
   ·exact⟨_,_,.fuel h17 (by omega)⟩
 | succ d ihd=>
  intro m
  induction m with
  | zero=>intro s t e hd hm;have:=t.size_pos;omega
  | succ m ihm=>
   intro s t e hd hm ht hs
   have K:=fun {i:Nat} (hi:i<nk t.h.kind)=>(aZ N).kid (i:=i) ht (by rw[ht.1.len];exact hi)
   by_cases h17:t.h.kind=17
   ·cases hp:dw s.store with
    | none=>exact⟨_,_,.full h17 hp⟩
    | some p=>
     obtain⟨r,st⟩:=p
     have h0:0<nk t.h.kind:=aJ (by omega)
     obtain⟨s',o,h⟩:=ihm {s with store:=st} (aB t 0) (e.opn t.rho r) hd (by have:=ht.1.jC h0;omega) (K h0) hs
     exact⟨_,_,.region h17 hp h⟩
   by_cases hf:s.steps<fuel
   case neg=>exact⟨_,_,.fuel h17 (by omega)⟩
   have ih:∀s₁ t₁ e₁,s.steps+1≤s₁.steps→TN N t₁→CW (TN N) s₁→∃s' o,Big fuel s₁ t₁ e₁ s' o∧s.steps+1≤s'.steps∧CW (TN N) s':=by
    intro s₁ t₁ e₁ h1 h2 h3
    obtain⟨s',o,h⟩:=ihd t₁.size s₁ t₁ e₁ (by omega) (Nat.le_refl _) h2 h3
    have:=h.Ab h3 h2
    exact⟨s',o,h,by omega,this.2⟩
   have hst:CW (TN N) (tick s):=hs
   have hti:s.steps+1≤(tick s).steps:=Nat.le_refl _
   rcases kinds ht.1.kind h17 with hk | hk | hk | hk | hk | hk
   ·cases hl:leaf (tick s) t e with
    | ok v s'=>exact⟨_,_,.leaf hf hk hl⟩
    | over s' k=>exact⟨_,_,.leafOver hf hk hl⟩
   ·obtain⟨s₁,o,h,h1,h2⟩:=ih (tick s) (aB t 0) e hti (K (aJ (by omega))) hst
    cases o with
    | val v=>
     obtain⟨s₂,o,h',_,_⟩:=ih s₁ (aB t 1) (e.with t.h.name v false) h1 (K (cb (by omega))) h2
     exact⟨_,_,.let_ hf hk h h'⟩
    | exn n x=>exact⟨_,_,.letStop hf hk h (by simp[Out.isVal])⟩
    | over k=>exact⟨_,_,.letStop hf hk h (by simp[Out.isVal])⟩
   ·have:=wQ (e:=e) (rho:=t.rho) (c:=⟨aB t 0,t.h.arg,e,some t.aH⟩) hst (K (aJ (by omega)))
    cases hl:code (tick s) e t.rho ⟨aB t 0,t.h.arg,e,some t.aH⟩ with
    | ok v s'=>
     rw[hl]at this
     obtain⟨s₂,o,h',_,_⟩:=ih (patch s' (e.with t.h.name v true)) (aB t 1) (e.with t.h.name v true) (by rw[dv,this.1];exact hti) (K (cb (by omega))) ((aZ N).patch this.2)
     exact⟨_,_,.letrec hf hk hl h'⟩
    | over s' k=>exact⟨_,_,.letrecOver hf hk hl⟩
   ·obtain⟨s₁,o,h,h1,h2⟩:=ih (tick s) (aB t 0) e hti (K (aJ (by omega))) hst
    cases o with
    | val v=>
     by_cases hv:v.kind=1
     ·obtain⟨s₂,o,h',_,_⟩:=ih s₁ (aB t (if v.n≠0 then 1 else 2)) e h1 (K (mQ hk)) h2
      exact⟨_,_,.if_ hf hk h hv h'⟩
     ·exact⟨_,_,.ifStuck hf hk h hv⟩
    | exn n x=>exact⟨_,_,.ifStop hf hk h (by simp[Out.isVal])⟩
    | over k=>exact⟨_,_,.ifStop hf hk h (by simp[Out.isVal])⟩
   ·obtain⟨s₁,o,h,h1,h2⟩:=ih (tick s) (aB t 0) e hti (K (aJ (by omega))) hst
    by_cases ho:∃n,o= .exn n t.h.exn
    ·obtain⟨n,rfl⟩:=ho
     obtain⟨s₂,o,h',_,_⟩:=ih s₁ (aB t 1) (e.with t.h.arg (num n) false) h1 (K (cb (by omega))) h2
     exact⟨_,_,.catch_ hf hk h h'⟩
    ·exact⟨_,_,.try_ hf hk h (fun n e=>ho ⟨n,e⟩)⟩
   ·obtain⟨s₁,o,h,h1,h2⟩:=ih (tick s) (aB t 0) e hti (K (aJ (by omega))) hst
    cases o with
    | val v=>
     rcases nk_12 hk with hn | hn
     ·have hl:t.kids.length=1:=by rw[ht.1.len,hn]
      rcases we (r:=eJ s₁ t e [v]) with ⟨s',o,h'⟩ | ⟨b,e',s',h'⟩
      ·exact⟨_,_,.rule1 hf hk hl h h'⟩
      ·exfalso
       have h10:t.h.kind≠10:=by intro e;rw[e]at hn;simp[nk]at hn
       obtain⟨_,_,_,_,_,_,_,hno⟩:=dG h'
       omega
     ·have hl:t.kids.length=2:=by rw[ht.1.len,hn]
      obtain⟨s₂,o,h',h3,h4⟩:=ih s₁ (aB t 1) e h1 (K (by omega)) h2
      cases o with
      | val w=>
       rcases we (r:=eJ s₂ t e [v,w]) with ⟨s',o,h'2⟩ | ⟨b,e',s',h'2⟩
       ·exact⟨_,_,.rule2 hf hk hl h h' h'2⟩
       ·obtain⟨rfl,c,f,_,hf',rfl,rfl,_⟩:=dG h'2
        obtain⟨s₃,o,h5,_,_⟩:=ih s' f.body (f.env.with f.arg (at0 [v,w] 1) false) h3 ((aZ N).body h4 hf') h4
        exact⟨_,_,.call hf hk hl h h' h'2 h5⟩
      | exn n x=>exact⟨_,_,.stop2 hf hk hl h h' (by simp[Out.isVal])⟩
      | over k=>exact⟨_,_,.stop2 hf hk hl h h' (by simp[Out.isVal])⟩
    | exn n x=>exact⟨_,_,.stop1 hf hk h (by simp[Out.isVal])⟩
    | over k=>exact⟨_,_,.stop1 hf hk h (by simp[Out.isVal])⟩
theorem oV (s:SG Cl):(cz s).L.length=s.L.length:=by
 unfold cz
 split
 ·rfl
 ·split
  ·simp[SG.less]
  ·rfl
theorem lH {s:SG Cl} {r c v st} (h:e8 s r c=some (v,st)):st.L.length=s.L.length:=by
 unfold e8 at h
 split at h
 ·cases h
 ·split at h
  ·cases h
  ·cases h;simp[SG.gU]
theorem tx (s:SG Cl) (v c):(eN s v c).L.length=s.L.length:=by
 unfold eN
 split
 ·simp[SG.put]
 ·rfl
theorem mw {s:SG Cl} {r st} (h:dw s=some (r,st)):st.L.length=s.L.length+1:=by
 unfold dw at h
 split at h
 ·cases h;simp[SG.more]
 ·cases h
theorem dg (N n m:Nat):lV (fun s=>s.store.L.length=n∧s.steps=m∧CW (TN N) s) (TN N) where
 kid:=(aZ N).kid
 wf:=(aZ N).wf
 put:=fun h _ hp=>⟨(lH hp).trans h.1,h.2⟩
 code:=fun h hc=>⟨h.1,h.2.1,(aZ N).code h.2.2 hc⟩
 codePut:=fun h hc hp=>⟨(lH hp).trans h.1,h.2.1,(aZ N).codePut h.2.2 hc hp⟩
 set:=fun h _=>⟨(tx _ _ _).trans h.1,h.2⟩
 body:=fun h hi=>(aZ N).body h.2.2 hi
theorem jV (o:Out) (s:Sa):(ni o s).store.L.length=s.store.L.length∧(ni o s).steps=s.steps∧(ni o s).aC=s.aC:=by
 cases o<;>simp[ni,oV]
theorem cK (s e):(patch s e).store=s.store:=by unfold patch;split<;>rfl
theorem TN.gh {N t i} (h:TN N t) (hi:i<nk t.h.kind):TN N (aB t i)∧(aB t i).size≤N:=
 have:=(aZ N).kid h (by rw[h.1.len];exact hi)
 ⟨this,this.2⟩
theorem arith {a b c d e:Nat} (h:a+1≤b) (h':c≤d+e * 3+3 * e * (b - (a+1))):c≤d+3 * e * (b - a):=by
 have:b - a=(b - (a+1))+1:=by omega
 rw[this,Nat.mul_add];omega
theorem pB {N a b c d x y:Nat} (h1:x≤a+N+3 * N * (c - b)) (h2:y≤x+N+3 * N * (d - c)) (hbc:b≤c) (hcd:c≤d):y≤a+N+N+3 * N * (d - b):=by
 have:d - b=(c - b)+(d - c):=by omega
 rw[this,Nat.mul_add];omega
theorem Big.regions {fuel N s t e s' o} (h:Big fuel s t e s' o):CW (TN N) s→TN N t→s'.store.L.length≤s.store.L.length+t.size+3 * N * (s'.steps - s.steps)∧s.steps≤s'.steps∧CW (TN N) s'∧(t.h.kind≠17→s'.store.L.length≤s.store.L.length+3 * N * (s'.steps - s.steps)):=by
 induction h with
 | full hk h=>exact fun hs ht=>⟨by omega,Nat.le_refl _,hs,fun h=>absurd hk h⟩
 | @region s t e r st s' o hk h h' ih=>
  intro hs ht
  have h0:0<nk t.h.kind:=aJ (by omega)
  have hp:=mw h
  have hlt:=ht.1.jC h0
  obtain⟨h1,h2,h3,_⟩:=ih hs (ht.gh h0).1
  obtain⟨p1,p2,p3⟩:=jV o s'
  simp only at h1 h2
  refine⟨?_,by rw[p2];exact h2,by unfold CW;rw[p3];exact h3,fun h=>absurd hk h⟩
  rw[p1,p2];omega
 | fuel hk h=>exact fun hs ht=>⟨by omega,Nat.le_refl _,hs,fun _=>by omega⟩
 | @leaf s t e s' v hf hk h=>
  intro hs ht
  have:=(dg N s.store.L.length (s.steps+1)).ka (s:=tick s) (e:=e) ⟨rfl,rfl,hs⟩ ht hk
  rw[h]at this
  obtain⟨h1,h2,h3⟩:=this
  exact⟨by omega,by omega,h3,fun _=>by omega⟩
 | @leafOver s t e s' k hf hk h=>
  intro hs ht
  have:=(dg N s.store.L.length (s.steps+1)).ka (s:=tick s) (e:=e) ⟨rfl,rfl,hs⟩ ht hk
  rw[h]at this
  obtain⟨h1,h2,h3⟩:=this
  exact⟨by omega,by omega,h3,fun _=>by omega⟩
 | @letStop s t e s' o hf hk h ho ih=>
  intro hs ht
  obtain⟨k0,z0⟩:=ht.gh (i:=0) (aJ (by omega))
  obtain⟨h1,h2,h3,_⟩:=ih hs k0
  have h2':s.steps+1≤s'.steps:=h2
  have:=arith (e:=N) h2' (show s'.store.L.length≤s.store.L.length+N * 3+_ from by have:s'.store.L.length≤s.store.L.length+(aB t 0).size+3 * N * (s'.steps - (s.steps+1)):=h1;omega)
  exact⟨by omega,by omega,h3,fun _=>this⟩
 | @let_ s t e s' v s'' o hf hk h h' ih ih'=>
  intro hs ht
  obtain⟨k0,z0⟩:=ht.gh (i:=0) (aJ (by omega))
  obtain⟨h1,h2,h3,_⟩:=ih hs k0
  have h2':s.steps+1≤s'.steps:=h2
  have h1':s'.store.L.length≤s.store.L.length+(aB t 0).size+3 * N * (s'.steps - (s.steps+1)):=h1
  obtain⟨k1,z1⟩:=ht.gh (i:=1) (cb (by omega))
  obtain⟨g1,g2,g3,_⟩:=ih' h3 k1
  have f:=pB (N:=N) (show s'.store.L.length≤s.store.L.length+N+3 * N * (s'.steps - (s.steps+1)) from by omega) (show s''.store.L.length≤s'.store.L.length+N+3 * N * (s''.steps - s'.steps) from by omega) h2' g2
  have:=arith (e:=N) (Nat.le_trans h2' g2) (show s''.store.L.length≤s.store.L.length+N * 3+_ from by omega)
  exact⟨by omega,by omega,g3,fun _=>this⟩
 | @letrecOver s t e s' k hf hk h=>
  intro hs ht
  have:=(dg N s.store.L.length (s.steps+1)).fY (s:=tick s) (e:=e) (rho:=t.rho) (c:=⟨aB t 0,t.h.arg,e,some t.aH⟩) ⟨rfl,rfl,hs⟩ (ht.gh (i:=0) (aJ (by omega))).1
  rw[h]at this
  obtain⟨h1,h2,h3⟩:=this
  exact⟨by omega,by omega,h3,fun _=>by omega⟩
 | @letrec s t e s' v s'' o hf hk h h' ih=>
  intro hs ht
  have:=(dg N s.store.L.length (s.steps+1)).fY (s:=tick s) (e:=e) (rho:=t.rho) (c:=⟨aB t 0,t.h.arg,e,some t.aH⟩) ⟨rfl,rfl,hs⟩ (ht.gh (i:=0) (aJ (by omega))).1
  rw[h]at this
  obtain⟨h1,h2,h3⟩:=this
  obtain⟨k1,z1⟩:=ht.gh (i:=1) (cb (by omega))
  obtain⟨g1,g2,g3,_⟩:=ih ((aZ N).patch h3) k1
  rw[cK,dv]at g1
  rw[dv]at g2
  have:=arith (a:=s.steps) (e:=N) (by omega) (show s''.store.L.length≤s.store.L.length+N * 3+3 * N * (s''.steps - (s.steps+1)) from by rw[h1,h2]at g1;omega)
  exact⟨by omega,by omega,g3,fun _=>this⟩
 | @ifStop s t e s' o hf hk h ho ih=>
  intro hs ht
  obtain⟨k0,z0⟩:=ht.gh (i:=0) (aJ (by omega))
  obtain⟨h1,h2,h3,_⟩:=ih hs k0
  have h2':s.steps+1≤s'.steps:=h2
  have h1':s'.store.L.length≤s.store.L.length+(aB t 0).size+3 * N * (s'.steps - (s.steps+1)):=h1
  have:=arith (e:=N) h2' (show s'.store.L.length≤s.store.L.length+N * 3+_ from by omega)
  exact⟨by omega,by omega,h3,fun _=>this⟩
 | @ifStuck s t e s' v hf hk h hv ih=>
  intro hs ht
  obtain⟨k0,z0⟩:=ht.gh (i:=0) (aJ (by omega))
  obtain⟨h1,h2,h3,_⟩:=ih hs k0
  have h2':s.steps+1≤s'.steps:=h2
  have h1':s'.store.L.length≤s.store.L.length+(aB t 0).size+3 * N * (s'.steps - (s.steps+1)):=h1
  have:=arith (e:=N) h2' (show s'.store.L.length≤s.store.L.length+N * 3+_ from by omega)
  exact⟨by omega,by omega,h3,fun _=>this⟩
 | @if_ s t e s' v s'' o hf hk h hv h' ih ih'=>
  intro hs ht
  obtain⟨k0,z0⟩:=ht.gh (i:=0) (aJ (by omega))
  obtain⟨h1,h2,h3,_⟩:=ih hs k0
  have h2':s.steps+1≤s'.steps:=h2
  have h1':s'.store.L.length≤s.store.L.length+(aB t 0).size+3 * N * (s'.steps - (s.steps+1)):=h1
  obtain⟨k1,z1⟩:=ht.gh (i:=if v.n≠0 then 1 else 2) (mQ hk)
  obtain⟨g1,g2,g3,_⟩:=ih' h3 k1
  have f:=pB (N:=N) (show s'.store.L.length≤s.store.L.length+N+3 * N * (s'.steps - (s.steps+1)) from by omega) (show s''.store.L.length≤s'.store.L.length+N+3 * N * (s''.steps - s'.steps) from by omega) h2' g2
  have:=arith (e:=N) (Nat.le_trans h2' g2) (show s''.store.L.length≤s.store.L.length+N * 3+_ from by omega)
  exact⟨by omega,by omega,g3,fun _=>this⟩
 | @try_ s t e s' o hf hk h ho ih=>
  intro hs ht
  obtain⟨k0,z0⟩:=ht.gh (i:=0) (aJ (by omega))
  obtain⟨h1,h2,h3,_⟩:=ih hs k0
  have h2':s.steps+1≤s'.steps:=h2
  have h1':s'.store.L.length≤s.store.L.length+(aB t 0).size+3 * N * (s'.steps - (s.steps+1)):=h1
  have:=arith (e:=N) h2' (show s'.store.L.length≤s.store.L.length+N * 3+_ from by omega)
  exact⟨by omega,by omega,h3,fun _=>this⟩
 | @catch_ s t e s' n s'' o hf hk h h' ih ih'=>
  intro hs ht
  obtain⟨k0,z0⟩:=ht.gh (i:=0) (aJ (by omega))
  obtain⟨h1,h2,h3,_⟩:=ih hs k0
  have h2':s.steps+1≤s'.steps:=h2
  have h1':s'.store.L.length≤s.store.L.length+(aB t 0).size+3 * N * (s'.steps - (s.steps+1)):=h1
  obtain⟨k1,z1⟩:=ht.gh (i:=1) (cb (by omega))
  obtain⟨g1,g2,g3,_⟩:=ih' h3 k1
  have f:=pB (N:=N) (show s'.store.L.length≤s.store.L.length+N+3 * N * (s'.steps - (s.steps+1)) from by omega) (show s''.store.L.length≤s'.store.L.length+N+3 * N * (s''.steps - s'.steps) from by omega) h2' g2
  have:=arith (e:=N) (Nat.le_trans h2' g2) (show s''.store.L.length≤s.store.L.length+N * 3+_ from by omega)
  exact⟨by omega,by omega,g3,fun _=>this⟩
 | @stop1 s t e s' o hf hk h ho ih=>
  intro hs ht
  obtain⟨k0,z0⟩:=ht.gh (i:=0) (aJ (by omega))
  obtain⟨h1,h2,h3,_⟩:=ih hs k0
  have h2':s.steps+1≤s'.steps:=h2
  have h1':s'.store.L.length≤s.store.L.length+(aB t 0).size+3 * N * (s'.steps - (s.steps+1)):=h1
  have:=arith (e:=N) h2' (show s'.store.L.length≤s.store.L.length+N * 3+_ from by omega)
  exact⟨by omega,by omega,h3,fun _=>this⟩
 | @stop2 s t e s' v s'' o hf hk hl h h' ho ih ih'=>
  intro hs ht
  obtain⟨k0,z0⟩:=ht.gh (i:=0) (aJ (by omega))
  obtain⟨h1,h2,h3,_⟩:=ih hs k0
  have h2':s.steps+1≤s'.steps:=h2
  have h1':s'.store.L.length≤s.store.L.length+(aB t 0).size+3 * N * (s'.steps - (s.steps+1)):=h1
  obtain⟨k1,z1⟩:=ht.gh (i:=1) (by rw[←ht.1.len];omega)
  obtain⟨g1,g2,g3,_⟩:=ih' h3 k1
  have f:=pB (N:=N) (show s'.store.L.length≤s.store.L.length+N+3 * N * (s'.steps - (s.steps+1)) from by omega) (show s''.store.L.length≤s'.store.L.length+N+3 * N * (s''.steps - s'.steps) from by omega) h2' g2
  have:=arith (e:=N) (Nat.le_trans h2' g2) (show s''.store.L.length≤s.store.L.length+N * 3+_ from by omega)
  exact⟨by omega,by omega,g3,fun _=>this⟩
 | @rule1 s t e s' v s₂ o hf hk hl h h' ih=>
  intro hs ht
  obtain⟨k0,z0⟩:=ht.gh (i:=0) (aJ (by omega))
  obtain⟨h1,h2,h3,_⟩:=ih hs k0
  have h2':s.steps+1≤s'.steps:=h2
  have h1':s'.store.L.length≤s.store.L.length+(aB t 0).size+3 * N * (s'.steps - (s.steps+1)):=h1
  have hr:=(dg N s'.store.L.length s'.steps).kc (s:=s') (t:=t) (e:=e) (vs:=[v]) ⟨rfl,rfl,h3⟩
  obtain⟨r1,r2,r3⟩:=h'.all hr
  have:=arith (e:=N) h2' (show s'.store.L.length≤s.store.L.length+N * 3+_ from by omega)
  exact⟨by rw[r1,r2];omega,by omega,r3,fun _=>by rw[r1,r2];exact this⟩
 | @rule2 s t e s' v s'' w s₃ o hf hk hl h h' h₂ ih ih'=>
  intro hs ht
  obtain⟨k0,z0⟩:=ht.gh (i:=0) (aJ (by omega))
  obtain⟨h1,h2,h3,_⟩:=ih hs k0
  have h2':s.steps+1≤s'.steps:=h2
  have h1':s'.store.L.length≤s.store.L.length+(aB t 0).size+3 * N * (s'.steps - (s.steps+1)):=h1
  obtain⟨k1,z1⟩:=ht.gh (i:=1) (by rw[←ht.1.len];omega)
  obtain⟨g1,g2,g3,_⟩:=ih' h3 k1
  have f:=pB (N:=N) (show s'.store.L.length≤s.store.L.length+N+3 * N * (s'.steps - (s.steps+1)) from by omega) (show s''.store.L.length≤s'.store.L.length+N+3 * N * (s''.steps - s'.steps) from by omega) h2' g2
  have hr:=(dg N s''.store.L.length s''.steps).kc (s:=s'') (t:=t) (e:=e) (vs:=[v,w]) ⟨rfl,rfl,g3⟩
  obtain⟨r1,r2,r3⟩:=h₂.all hr
  have:=arith (e:=N) (Nat.le_trans h2' g2) (show s''.store.L.length≤s.store.L.length+N * 3+_ from by omega)
  exact⟨by rw[r1,r2];omega,by omega,r3,fun _=>by rw[r1,r2];exact this⟩
 | @call s t e s' v s'' w s₃ b e' s₄ o hf hk hl h h' h₂ h₃ ih ih' ih₃=>
  intro hs ht
  obtain⟨k0,z0⟩:=ht.gh (i:=0) (aJ (by omega))
  obtain⟨h1,h2,h3,_⟩:=ih hs k0
  have h2':s.steps+1≤s'.steps:=h2
  have h1':s'.store.L.length≤s.store.L.length+(aB t 0).size+3 * N * (s'.steps - (s.steps+1)):=h1
  obtain⟨k1,z1⟩:=ht.gh (i:=1) (by rw[←ht.1.len];omega)
  obtain⟨g1,g2,g3,_⟩:=ih' h3 k1
  have f:=pB (N:=N) (show s'.store.L.length≤s.store.L.length+N+3 * N * (s'.steps - (s.steps+1)) from by omega) (show s''.store.L.length≤s'.store.L.length+N+3 * N * (s''.steps - s'.steps) from by omega) h2' g2
  obtain⟨rfl,c,fn,_,hf',rfl,rfl,_⟩:=dG h₂
  have tb:=(aZ N).body g3 hf'
  obtain⟨i1,i2,i3,_⟩:=ih₃ g3 tb
  have zb:=tb.2
  have f':=pB (N:=N) (a:=s.store.L.length+N) (b:=s.steps+1) (c:=s₃.steps) (d:=s₄.steps) (x:=s₃.store.L.length) (y:=s₄.store.L.length) (by omega) (by omega) (Nat.le_trans h2' g2) i2
  have:=arith (e:=N) (Nat.le_trans (Nat.le_trans h2' g2) i2) (show s₄.store.L.length≤s.store.L.length+N * 3+_ from by omega)
  exact⟨by omega,by omega,i3,fun _=>this⟩
end Go.Abs.Mac
