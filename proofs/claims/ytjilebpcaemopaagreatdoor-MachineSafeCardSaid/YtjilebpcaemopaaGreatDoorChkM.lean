import Derived.Test.YtjilebpcaemopaaGreatDoorAtS
import Derived.Test.YtjilebpcaemopaaGreatDoorAtN
import Derived.Test.YtjilebpcaemopaaGreatDoorAtNodesP
import Derived.Test.YtjilebpcaemopaaGreatDoorAtB
set_option linter.unusedVariables false
namespace Go.Abs.Chk
open Go Go.Abs Go.Abs.At
def eZ (a:Atom):List Atom→List Atom
 | []=>[a]
 | x::l=>if iM a x=true then a::x::l else x::eZ a l
def du (e:List Atom) (a:Atom):List Atom:=if bw a=true∧a∉e then eZ a e else e
def ofA (l:List Atom):List Atom:=l.foldl du []
def jI (n:Int):List Int→List Int
 | []=>[n]
 | x::l=>if n<x then n::x::l else x::jI n l
def dV (l:List Int) (n:Int):List Int:=if n∈l then l else jI n l
def cT (e:List Atom):List Int:=e.foldl (fun o a=>if bw a=true∧a.kind≠3 then dV o a.rho else o) []
def dY (n:Int):List Int→List Int→Int
 | [],_=>n
 | _::_,[]=>n
 | f::fs,t::ts=>if f=n then t else dY n fs ts
def dh (fr to:List Int) (a:Atom):Atom:=if a.kind=3 then a else {a with rho:=dY a.rho fr to}
def ft (fr to:List Int) (e:List Atom):List Atom:=e.foldl (fun o a=>if bw a=true then du o (dh fr to a) else o) []
def cU (e:List Atom) (rs:List Int):List Atom:=e.foldl (fun o a=>if a.kind=3∨a.rho∉rs then du o a else o) []
def dm (e:List Atom) (xs:List ByteArray):List Atom:=e.foldl (fun o a=>if a.kind=3∧(xs.any fun x=>decide (x=a.exn))=true then o else du o a) []
def eX (l rs:List Int):Bool:=l.all fun r=>decide (r∈rs)
mutual
def swapT (fr to:List Int):RT→RT
 | .mk k r e ks=>if k=1 then .mk k r e (cE fr to ks) else .mk k (dY r fr to) (ft fr to e) (cE fr to ks)
def cE (fr to:List Int):List RT→List RT
 | []=>[]
 | t::ts=>swapT fr to t::cE fr to ts
end
mutual
def fm (o:List Int):RT→List Int
 | .mk k r e ks=>cL (if k=1 then o else (cT e).foldl dV (dV o r)) ks
def cL (o:List Int):List RT→List Int
 | []=>o
 | t::ts=>cL (fm o t) ts
end
def bW:RT:=.mk 0 0 [] []
def one:RT:=.mk 1 0 [] []
structure Bd where
 name:ByteArray
 t:RT
 fn:Bool
 f:AT
structure Rr where
 t:RT
 e:List Atom
 pos:Int
 no:Int
def bad (t:AT) (no:Int):Rr:=⟨bW,[],t.h.pos,no⟩
def zeroH:Head:=⟨0,0,0,0,ByteArray.empty,ByteArray.empty,ByteArray.empty⟩
def ga:AT:=.mk zeroH 0 [] [] bW bW []
def gh (env:List Bd) (nm:ByteArray):Option Bd:=env.reverse.find? fun b=>b.name=nm
def bo (t:AT) (rs:List Int):Bool:=
 if t.h.kind≠17∧t.rho∉rs∨t.h.kind=18∧eX t.aG rs=false then false
 else
  let rs':=if t.h.kind=13 then rs++t.aG else rs
  eX (cT t.eff) rs'&&eX (cL [] [t.type,t.res]) rs'
def dz (r:Int):Atom:=⟨1,r,ByteArray.empty⟩
def putAt (r:Int):Atom:=⟨2,r,ByteArray.empty⟩
def lf (x:ByteArray):Atom:=⟨3,0,x⟩
def nS (env:List Bd) (t:AT):Rr:=
 match gh env t.h.name with
 | none=>bad t 4
 | some b=>
  if t.h.kind=2 then if b.fn=true then bad t 5 else ⟨b.t,[],0,0⟩
  else if b.fn=false∨b.f.aG.length≠t.aG.length then bad t 5
  else if bk (ft b.f.aG t.aG b.f.eff) t.eff=false then bad t 6
  else ⟨.mk 4 t.rho t.eff [swapT b.f.aG t.aG b.f.type,swapT b.f.aG t.aG b.f.res],ofA [dz b.f.rho,putAt t.rho],0,0⟩
def r0 (k:List Rr) (i:Nat):Rr:=(k[i]?).getD ⟨bW,[],0,0⟩
def aU (env:List Bd) (rs:List Int) (t:AT) (i:Nat) (k:List Rr):List Bd×List Int:=
 if t.h.kind=11 then (env++ [⟨t.h.arg,t.type,false,ga⟩],rs)
 else if t.h.kind=12 then if i=1 then (env++ [⟨t.h.name,(r0 k 0).t,false,ga⟩],rs) else (env,rs)
 else if t.h.kind=13 then
  if i=0 then ((env++ [⟨t.h.name,bW,true,t⟩])++ [⟨t.h.arg,t.type,false,ga⟩],rs++t.aG) else (env++ [⟨t.h.name,bW,true,t⟩],rs)
 else if t.h.kind=16 then if i=1 then (env++ [⟨t.h.arg,one,false,ga⟩],rs) else (env,rs)
 else if t.h.kind=17 then (env,rs++ [t.rho])
 else (env,rs)
def aO (t:RT) (i:Nat):RT:=(t.kids[i]?).getD bW
def dM (t:AT) (k:List Rr):Bool×Bool×RT×List Atom:=
 let e:=k.flatMap Rr.e
 let a:=(r0 k 0).t
 let b:=(r0 k 1).t
 if t.h.kind=3 then (true,true,.mk 2 t.rho [] [a,b],e++ [putAt t.rho])
 else if t.h.kind=4∨t.h.kind=5 then
  if a.kind=2 then (true,true,aO a (t.h.kind - 4).toNat,e++ [dz a.rho]) else (false,true,one,e)
 else if t.h.kind=6 then (true,true,.mk 3 t.rho [] [a],e++ [putAt t.rho])
 else if t.h.kind=7 then if a.kind=3 then (true,true,aO a 0,e++ [dz a.rho]) else (false,true,one,e)
 else if t.h.kind=8 then (decide (a.kind=3)&&RT.same (aO a 0) b,true,one,e++ [putAt a.rho])
 else if t.h.kind=9 then (decide (a.kind=1)&&decide (b.kind=1),true,one,e)
 else if t.h.kind=10 then
  if a.kind=4∧RT.same (aO a 0) b=true then (true,true,aO a 1,e++ [dz a.rho]++a.eff) else (false,true,one,e)
 else if t.h.kind=11 then (true,bk (r0 k 0).e t.eff,.mk 4 t.rho t.eff [t.type,a],[putAt t.rho])
 else if t.h.kind=12 then (true,true,b,e)
 else if t.h.kind=13 then (RT.same a t.res,bk (r0 k 0).e t.eff,b,putAt t.rho::(r0 k 1).e)
 else if t.h.kind=14 then (decide (a.kind=1)&&RT.same b (r0 k 2).t,true,b,e)
 else if t.h.kind=15 then (decide (a.kind=1),true,t.type,e++ [lf t.h.exn])
 else if t.h.kind=16 then (RT.same a b,true,a,dm (r0 k 0).e [t.h.exn]++(r0 k 1).e)
 else if t.h.kind=17 then (true,!decide (t.rho∈fm [] a),a,cU (r0 k 0).e [t.rho])
 else (true,true,one,e)
def kf (t:AT) (k:List Rr):Rr:=
 match dM t k with
 | (types,fine,out,e)=>if types=false then bad t 5 else if fine=false then bad t 6 else ⟨out,ofA e,0,0⟩
def bp (f:List Bd→List Int→AT→Rr) (env:List Bd) (rs:List Int) (t:AT):List AT→List Rr→Rr ⊕ List Rr
 | [],k=>.inr k
 | c::cs,k=>
  let p:=aU env rs t k.length k
  let r:=f p.1 p.2 c
  if r.no≠0 then .inl r else bp f env rs t cs (k++ [r])
def dk (f:List Bd→List Int→AT→Rr) (env:List Bd) (rs:List Int) (t:AT):Rr:=
 if bo t rs=false then bad t 4
 else if t.h.kind=2∨t.h.kind=18 then nS env t
 else match bp f env rs t t.kids [] with
  | .inl r=>r
  | .inr k=>kf t k
def jR (t:AT) (r:Rr):Rr:=if r.no=0∧500<r.t.size then bad t 3 else r
def fdM:Nat→List Bd→List Int→AT→Rr
 | 0,_,_,t=>bad t 3
 | d+1,env,rs,t=>jR t (dk (fdM d) env rs t)
def ef (t:AT):Rr:=
 if iO t=false then ⟨bW,[],0,1⟩
 else if (cX [] t.all).2=false then ⟨bW,[],(cX [] t.all).1,6⟩
 else fdM t.size [] [0] t
end Go.Abs.Chk
