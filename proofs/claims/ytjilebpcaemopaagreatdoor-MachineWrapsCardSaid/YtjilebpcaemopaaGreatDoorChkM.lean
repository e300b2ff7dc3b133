import Derived.Test.YtjilebpcaemopaaGreatDoorAtS
import Derived.Test.YtjilebpcaemopaaGreatDoorAtN
import Derived.Test.YtjilebpcaemopaaGreatDoorAtNodesP
import Derived.Test.YtjilebpcaemopaaGreatDoorAtB
set_option linter.unusedVariables false
namespace Go.Abs.Chk
open Go Go.Abs Go.Abs.At
def eE (a:Atom):List Atom→List Atom
 | []=>[a]
 | x::l=>if ig a x=true then a::x::l else x::eE a l
def dc (e:List Atom) (a:Atom):List Atom:=if bL a=true∧a∉e then eE a e else e
def ofA (l:List Atom):List Atom:=l.foldl dc []
def jf (n:Int):List Int→List Int
 | []=>[n]
 | x::l=>if n<x then n::x::l else x::jf n l
def dF (l:List Int) (n:Int):List Int:=if n∈l then l else jf n l
def cL (e:List Atom):List Int:=e.foldl (fun o a=>if bL a=true∧a.kind≠3 then dF o a.rho else o) []
def lQ (n:Int):List Int→List Int→Int
 | [],_=>n
 | _::_,[]=>n
 | f::fs,t::ts=>if f=n then t else lQ n fs ts
def gO (fr to:List Int) (a:Atom):Atom:=if a.kind=3 then a else {a with rho:=lQ a.rho fr to}
def gA (fr to:List Int) (e:List Atom):List Atom:=e.foldl (fun o a=>if bL a=true then dc o (gO fr to a) else o) []
def fo (e:List Atom) (rs:List Int):List Atom:=e.foldl (fun o a=>if a.kind=3∨a.rho∉rs then dc o a else o) []
def eC (e:List Atom) (xs:List ByteArray):List Atom:=e.foldl (fun o a=>if a.kind=3∧(xs.any fun x=>decide (x=a.exn))=true then o else dc o a) []
def eD (l rs:List Int):Bool:=l.all fun r=>decide (r∈rs)
mutual
def swapT (fr to:List Int):RT→RT
 | .mk k r e ks=>if k=1 then .mk k r e (cU fr to ks) else .mk k (lQ r fr to) (gA fr to e) (cU fr to ks)
def cU (fr to:List Int):List RT→List RT
 | []=>[]
 | t::ts=>swapT fr to t::cU fr to ts
end
mutual
def eI (o:List Int):RT→List Int
 | .mk k r e ks=>cE (if k=1 then o else (cL e).foldl dF (dF o r)) ks
def cE (o:List Int):List RT→List Int
 | []=>o
 | t::ts=>cE (eI o t) ts
end
def bU:RT:=.mk 0 0 [] []
def one:RT:=.mk 1 0 [] []
structure Bd where
 name:ByteArray
 t:RT
 fn:Bool
 f:AT
structure Rr where
 t:RT
 e:List Atom
 pos:Int
 no:Int
def bad (t:AT) (no:Int):Rr:=⟨bU,[],t.h.pos,no⟩
def zeroH:Head:=⟨0,0,0,0,ByteArray.empty,ByteArray.empty,ByteArray.empty⟩
def fE:AT:=.mk zeroH 0 [] [] bU bU []
def fH (env:List Bd) (nm:ByteArray):Option Bd:=env.reverse.find? fun b=>b.name=nm
def bt (t:AT) (rs:List Int):Bool:=
 if t.h.kind≠17∧t.rho∉rs∨t.h.kind=18∧eD t.aH rs=false then false
 else
  let rs':=if t.h.kind=13 then rs++t.aH else rs
  eD (cL t.eff) rs'&&eD (cE [] [t.type,t.res]) rs'
def fL (r:Int):Atom:=⟨1,r,ByteArray.empty⟩
def putAt (r:Int):Atom:=⟨2,r,ByteArray.empty⟩
def sq (x:ByteArray):Atom:=⟨3,0,x⟩
def nj (env:List Bd) (t:AT):Rr:=
 match fH env t.h.name with
 | none=>bad t 4
 | some b=>
  if t.h.kind=2 then if b.fn=true then bad t 5 else ⟨b.t,[],0,0⟩
  else if b.fn=false∨b.f.aH.length≠t.aH.length then bad t 5
  else if bx (gA b.f.aH t.aH b.f.eff) t.eff=false then bad t 6
  else ⟨.mk 4 t.rho t.eff [swapT b.f.aH t.aH b.f.type,swapT b.f.aH t.aH b.f.res],ofA [fL b.f.rho,putAt t.rho],0,0⟩
def r0 (k:List Rr) (i:Nat):Rr:=(k[i]?).getD ⟨bU,[],0,0⟩
def aU (env:List Bd) (rs:List Int) (t:AT) (i:Nat) (k:List Rr):List Bd×List Int:=
 if t.h.kind=11 then (env++ [⟨t.h.arg,t.type,false,fE⟩],rs)
 else if t.h.kind=12 then if i=1 then (env++ [⟨t.h.name,(r0 k 0).t,false,fE⟩],rs) else (env,rs)
 else if t.h.kind=13 then
  if i=0 then ((env++ [⟨t.h.name,bU,true,t⟩])++ [⟨t.h.arg,t.type,false,fE⟩],rs++t.aH) else (env++ [⟨t.h.name,bU,true,t⟩],rs)
 else if t.h.kind=16 then if i=1 then (env++ [⟨t.h.arg,one,false,fE⟩],rs) else (env,rs)
 else if t.h.kind=17 then (env,rs++ [t.rho])
 else (env,rs)
def aS (t:RT) (i:Nat):RT:=(t.kids[i]?).getD bU
def dy (t:AT) (k:List Rr):Bool×Bool×RT×List Atom:=
 let e:=k.flatMap Rr.e
 let a:=(r0 k 0).t
 let b:=(r0 k 1).t
 if t.h.kind=3 then (true,true,.mk 2 t.rho [] [a,b],e++ [putAt t.rho])
 else if t.h.kind=4∨t.h.kind=5 then
  if a.kind=2 then (true,true,aS a (t.h.kind - 4).toNat,e++ [fL a.rho]) else (false,true,one,e)
 else if t.h.kind=6 then (true,true,.mk 3 t.rho [] [a],e++ [putAt t.rho])
 else if t.h.kind=7 then if a.kind=3 then (true,true,aS a 0,e++ [fL a.rho]) else (false,true,one,e)
 else if t.h.kind=8 then (decide (a.kind=3)&&RT.same (aS a 0) b,true,one,e++ [putAt a.rho])
 else if t.h.kind=9 then (decide (a.kind=1)&&decide (b.kind=1),true,one,e)
 else if t.h.kind=10 then
  if a.kind=4∧RT.same (aS a 0) b=true then (true,true,aS a 1,e++ [fL a.rho]++a.eff) else (false,true,one,e)
 else if t.h.kind=11 then (true,bx (r0 k 0).e t.eff,.mk 4 t.rho t.eff [t.type,a],[putAt t.rho])
 else if t.h.kind=12 then (true,true,b,e)
 else if t.h.kind=13 then (RT.same a t.res,bx (r0 k 0).e t.eff,b,putAt t.rho::(r0 k 1).e)
 else if t.h.kind=14 then (decide (a.kind=1)&&RT.same b (r0 k 2).t,true,b,e)
 else if t.h.kind=15 then (decide (a.kind=1),true,t.type,e++ [sq t.h.exn])
 else if t.h.kind=16 then (RT.same a b,true,a,eC (r0 k 0).e [t.h.exn]++(r0 k 1).e)
 else if t.h.kind=17 then (true,!decide (t.rho∈eI [] a),a,fo (r0 k 0).e [t.rho])
 else (true,true,one,e)
def jJ (t:AT) (k:List Rr):Rr:=
 match dy t k with
 | (types,fine,out,e)=>if types=false then bad t 5 else if fine=false then bad t 6 else ⟨out,ofA e,0,0⟩
def bo (f:List Bd→List Int→AT→Rr) (env:List Bd) (rs:List Int) (t:AT):List AT→List Rr→Rr ⊕ List Rr
 | [],k=>.inr k
 | c::cs,k=>
  let p:=aU env rs t k.length k
  let r:=f p.1 p.2 c
  if r.no≠0 then .inl r else bo f env rs t cs (k++ [r])
def cY (f:List Bd→List Int→AT→Rr) (env:List Bd) (rs:List Int) (t:AT):Rr:=
 if bt t rs=false then bad t 4
 else if t.h.kind=2∨t.h.kind=18 then nj env t
 else match bo f env rs t t.kids [] with
  | .inl r=>r
  | .inr k=>jJ t k
def jt (t:AT) (r:Rr):Rr:=if r.no=0∧500<r.t.size then bad t 3 else r
def fdM:Nat→List Bd→List Int→AT→Rr
 | 0,_,_,t=>bad t 3
 | d+1,env,rs,t=>jt t (cY (fdM d) env rs t)
def fB (t:AT):Rr:=
 if fN t=false then ⟨bU,[],0,1⟩
 else if (cN [] t.all).2=false then ⟨bU,[],(cN [] t.all).1,6⟩
 else fdM t.size [] [0] t
end Go.Abs.Chk
