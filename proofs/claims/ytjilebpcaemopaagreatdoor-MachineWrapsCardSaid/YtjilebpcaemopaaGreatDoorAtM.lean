import Derived.Test.YtjilebpcaemopaaGreatDoorAbsO
set_option linter.unusedVariables false
set_option linter.unusedSimpArgs false
namespace Go.Abs.At
open Go Go.Abs
abbrev int (n:Int):AV:=.val (.int .i64 n)
abbrev u8 (n:Int):AV:=.val (.int .u8 n)
abbrev str (s:ByteArray):AV:=.val (.string s)
structure Head where
 kind:Int
 op:Int
 pos:Int
 n:Int
 name:ByteArray
 arg:ByteArray
 exn:ByteArray
 deriving DecidableEq
def Head.av (h:Head):List AV:=[u8 h.kind,u8 h.op,int h.pos,int h.n,str h.name,str h.arg,str h.exn]
structure Atom where
 kind:Int
 rho:Int
 exn:ByteArray
 deriving DecidableEq
def Atom.av (a:Atom):List AV:=[u8 a.kind,int a.rho,str a.exn]
def aT (e:List Atom):AV:=.sl false 3 (e.map Atom.av)
def aO (l:List Int):AV:=.sl false 1 (l.map fun r=>[int r])
inductive RT where
 | mk (kind rho:Int) (eff:List Atom) (kids:List RT)
inductive T where
 | mk (h:Head) (kids:List T)
inductive AT where
 | mk (h:Head) (rho:Int) (aH:List Int) (eff:List Atom) (type res:RT) (kids:List AT)
mutual
def RT.av:RT→List AV
 | .mk k r e ks=>[u8 k,int r,aT e,.sl false 4 (RT.avs ks)]
def RT.avs:List RT→List (List AV)
 | []=>[]
 | t::ts=>RT.av t::RT.avs ts
end
mutual
def T.av:T→List AV
 | .mk h ks=>h.av++ [.sl false 8 (T.avs ks)]
def T.avs:List T→List (List AV)
 | []=>[]
 | t::ts=>T.av t::T.avs ts
end
mutual
def AT.av:AT→List AV
 | .mk h r rs e t s ks=>h.av++ [int r,aO rs,aT e]++t.av++s.av++ [.sl false 19 (AT.avs ks)]
def AT.avs:List AT→List (List AV)
 | []=>[]
 | t::ts=>AT.av t::AT.avs ts
end
theorem RT.cu (l:List RT):RT.avs l=l.map RT.av:=by
 induction l with
 | nil=>rfl
 | cons t l ih=>simp[RT.avs,ih]
theorem T.cu (l:List T):T.avs l=l.map T.av:=by
 induction l with
 | nil=>rfl
 | cons t l ih=>simp[T.avs,ih]
theorem AT.cu (l:List AT):AT.avs l=l.map AT.av:=by
 induction l with
 | nil=>rfl
 | cons t l ih=>simp[AT.avs,ih]
@[simp] theorem Head.bT (h:Head):h.av.length=7:=rfl
@[simp] theorem RT.bT (t:RT):t.av.length=4:=by cases t;rfl
@[simp] theorem T.bT (t:T):t.av.length=8:=by cases t;rfl
@[simp] theorem AT.bT (t:AT):t.av.length=19:=by cases t;simp[AT.av]
def AT.h:AT→Head | .mk h _ _ _ _ _ _=>h
def AT.kids:AT→List AT | .mk _ _ _ _ _ _ ks=>ks
def T.h:T→Head | .mk h _=>h
def T.kids:T→List T | .mk _ ks=>ks
def RT.kids:RT→List RT | .mk _ _ _ ks=>ks
mutual
def AT.size:AT→Nat
 | .mk _ _ _ _ _ _ ks=>1+AT.aI ks
def AT.aI:List AT→Nat
 | []=>0
 | t::ts=>AT.size t+AT.aI ts
end
mutual
def T.size:T→Nat
 | .mk _ ks=>1+T.aI ks
def T.aI:List T→Nat
 | []=>0
 | t::ts=>T.size t+T.aI ts
end
mutual
def RT.size:RT→Nat
 | .mk _ _ _ ks=>1+RT.aI ks
def RT.aI:List RT→Nat
 | []=>0
 | t::ts=>RT.size t+RT.aI ts
end
theorem AT.dW {l:List AT} {t:AT} (h:t∈l):t.size≤AT.aI l:=by
 induction l with
 | nil=>simp at h
 | cons a l ih=>
  rcases List.mem_cons.1 h with rfl | h
  ·simp[AT.aI]
  ·have:=ih h;simp[AT.aI];omega
theorem RT.dW {l:List RT} {t:RT} (h:t∈l):t.size≤RT.aI l:=by
 induction l with
 | nil=>simp at h
 | cons a l ih=>
  rcases List.mem_cons.1 h with rfl | h
  ·simp[RT.aI]
  ·have:=ih h;simp[RT.aI];omega
theorem T.dW {l:List T} {t:T} (h:t∈l):t.size≤T.aI l:=by
 induction l with
 | nil=>simp at h
 | cons a l ih=>
  rcases List.mem_cons.1 h with rfl | h
  ·simp[T.aI]
  ·have:=ih h;simp[T.aI];omega
theorem AT.size_pos (t:AT):0<t.size:=by cases t;simp[AT.size];omega
theorem T.size_pos (t:T):0<t.size:=by cases t;simp[T.size];omega
theorem Head.dat (h:Head):∀x∈h.av,Dat x:=by
 intro x hx
 simp only[Head.av,List.mem_cons,List.not_mem_nil,or_false]at hx
 rcases hx with rfl | rfl | rfl | rfl | rfl | rfl | rfl<;>exact .val _
theorem gf (e:List Atom):Dat (aT e):=.sl fun el hel x hx=>by
 obtain⟨a,_,rfl⟩:=List.mem_map.1 hel
 simp only[Atom.av,List.mem_cons,List.not_mem_nil,or_false]at hx
 rcases hx with rfl | rfl | rfl<;>exact .val _
theorem fc (l:List Int):Dat (aO l):=.sl fun el hel x hx=>by
 obtain⟨a,_,rfl⟩:=List.mem_map.1 hel
 simp only[List.mem_cons,List.not_mem_nil,or_false]at hx
 subst hx;exact .val _
mutual
theorem RT.dat:∀(t:RT),∀x∈t.av,Dat x
 | .mk k r e ks,x,hx=>by
  simp only[RT.av,List.mem_cons,List.not_mem_nil,or_false]at hx
  rcases hx with rfl | rfl | rfl | rfl
  ·exact .val _
  ·exact .val _
  ·exact gf e
  ·exact .sl (RT.nb ks)
theorem RT.nb:∀(l:List RT),∀el∈RT.avs l,∀x∈el,Dat x
 | [],el,hel,x,hx=>by simp[RT.avs]at hel
 | t::ts,el,hel,x,hx=>by
  simp only[RT.avs,List.mem_cons]at hel
  rcases hel with rfl | hel
  ·exact RT.dat t x hx
  ·exact RT.nb ts el hel x hx
end
mutual
theorem T.dat:∀(t:T),∀x∈t.av,Dat x
 | .mk h ks,x,hx=>by
  simp only[T.av,List.mem_append,List.mem_cons,List.not_mem_nil,or_false]at hx
  rcases hx with hx | rfl
  ·exact h.dat x hx
  ·exact .sl (T.nb ks)
theorem T.nb:∀(l:List T),∀el∈T.avs l,∀x∈el,Dat x
 | [],el,hel,x,hx=>by simp[T.avs]at hel
 | t::ts,el,hel,x,hx=>by
  simp only[T.avs,List.mem_cons]at hel
  rcases hel with rfl | hel
  ·exact T.dat t x hx
  ·exact T.nb ts el hel x hx
end
mutual
theorem AT.dat:∀(t:AT),∀x∈t.av,Dat x
 | .mk h r rs e t s ks,x,hx=>by
  simp only[AT.av,List.mem_append,List.mem_cons,List.not_mem_nil,or_false]at hx
  rcases hx with (((hx | rfl | rfl | rfl) | hx) | hx) | rfl
  ·exact h.dat x hx
  ·exact .val _
  ·exact fc rs
  ·exact gf e
  ·exact t.dat x hx
  ·exact s.dat x hx
  ·exact .sl (AT.nb ks)
theorem AT.nb:∀(l:List AT),∀el∈AT.avs l,∀x∈el,Dat x
 | [],el,hel,x,hx=>by simp[AT.avs]at hel
 | t::ts,el,hel,x,hx=>by
  simp only[AT.avs,List.mem_cons]at hel
  rcases hel with rfl | hel
  ·exact AT.dat t x hx
  ·exact AT.nb ts el hel x hx
end
abbrev AT.v (t:AT):AV:=.agg t.av
abbrev T.v (t:T):AV:=.agg t.av
abbrev RT.v (t:RT):AV:=.agg t.av
abbrev AT.vs (l:List AT):AV:=.sl false 19 (AT.avs l)
abbrev T.vs (l:List T):AV:=.sl false 8 (T.avs l)
abbrev RT.vs (l:List RT):AV:=.sl false 4 (RT.avs l)
theorem AT.tD (t:AT):Dat t.v:=.agg t.dat
theorem T.tD (t:T):Dat t.v:=.agg t.dat
theorem RT.tD (t:RT):Dat t.v:=.agg t.dat
theorem AT.uZ (l:List AT):Dat (AT.vs l):=.sl (AT.nb l)
theorem T.uZ (l:List T):Dat (T.vs l):=.sl (T.nb l)
theorem RT.uZ (l:List RT):Dat (RT.vs l):=.sl (RT.nb l)
def AT.rho:AT→Int | .mk _ r _ _ _ _ _=>r
def AT.aH:AT→List Int | .mk _ _ r _ _ _ _=>r
def AT.eff:AT→List Atom | .mk _ _ _ e _ _ _=>e
def AT.type:AT→RT | .mk _ _ _ _ t _ _=>t
def AT.res:AT→RT | .mk _ _ _ _ _ t _=>t
def RT.kind:RT→Int | .mk k _ _ _=>k
def RT.rho:RT→Int | .mk _ r _ _=>r
def RT.eff:RT→List Atom | .mk _ _ e _=>e
theorem AT.df (t:AT):∃a b c d e f g h,t.type.av= [a,b,c,d]∧t.res.av= [e,f,g,h]∧
 t.av= [u8 t.h.kind,u8 t.h.op,int t.h.pos,int t.h.n,str t.h.name,str t.h.arg,str t.h.exn,int t.rho,aO t.aH,aT t.eff,a,b,c,d,e,f,g,h,AT.vs t.kids]:=by
 obtain⟨h,r,rs,e,ty,re,ks⟩:=t
 obtain⟨k1,r1,e1,ks1⟩:=ty
 obtain⟨k2,r2,e2,ks2⟩:=re
 exact⟨_,_,_,_,_,_,_,_,rfl,rfl,rfl⟩
theorem get_at {α:Type} {l l':List α} (h:l=l') (i:Nat) (hi:i<l.length) (hi':i<l'.length):l[i]=l'[i]:=by subst h;rfl
@[simp] theorem AT.DB (t:AT) (h:4<t.av.length):t.av[4]'h=str t.h.name:=by obtain⟨_,_,_,_,_,_,_,_,_,_,e⟩:=t.df;exact get_at e 4 h (by simp)
@[simp] theorem AT.DC (t:AT) (h:5<t.av.length):t.av[5]'h=str t.h.arg:=by obtain⟨_,_,_,_,_,_,_,_,_,_,e⟩:=t.df;exact get_at e 5 h (by simp)
@[simp] theorem AT.DD (t:AT) (h:6<t.av.length):t.av[6]'h=str t.h.exn:=by obtain⟨_,_,_,_,_,_,_,_,_,_,e⟩:=t.df;exact get_at e 6 h (by simp)
@[simp] theorem AT.yo (t:AT) (h:2<t.av.length):t.av[2]'h=int t.h.pos:=by obtain⟨_,_,_,_,_,_,_,_,_,_,e⟩:=t.df;exact get_at e 2 h (by simp)
@[simp] theorem AT.av_7' (t:AT) (h:7<t.av.length):t.av[7]'h=int t.rho:=by obtain⟨_,_,_,_,_,_,_,_,_,_,e⟩:=t.df;exact get_at e 7 h (by simp)
@[simp] theorem AT.av_8' (t:AT) (h:8<t.av.length):t.av[8]'h=aO t.aH:=by obtain⟨_,_,_,_,_,_,_,_,_,_,e⟩:=t.df;exact get_at e 8 h (by simp)
@[simp] theorem AT.av_9' (t:AT) (h:9<t.av.length):t.av[9]'h=aT t.eff:=by obtain⟨_,_,_,_,_,_,_,_,_,_,e⟩:=t.df;exact get_at e 9 h (by simp)
@[simp] theorem AT.av_type (t:AT):List.take 4 (List.drop 10 t.av)=t.type.av:=by obtain⟨_,_,_,_,_,_,_,_,e1,_,e⟩:=t.df;rw[e,e1];rfl
@[simp] theorem AT.av_res (t:AT):List.take 4 (List.drop 14 t.av)=t.res.av:=by obtain⟨_,_,_,_,_,_,_,_,_,e1,e⟩:=t.df;rw[e,e1];rfl
theorem RT.df (t:RT):t.av= [u8 t.kind,int t.rho,aT t.eff,RT.vs t.kids]:=by cases t;rfl
@[simp] theorem RT.ym (t:RT) (h:0<t.av.length):t.av[0]'h=u8 t.kind:=get_at t.df 0 h (by simp)
@[simp] theorem RT.yn (t:RT) (h:1<t.av.length):t.av[1]'h=int t.rho:=get_at t.df 1 h (by simp)
@[simp] theorem RT.yo (t:RT) (h:2<t.av.length):t.av[2]'h=aT t.eff:=get_at t.df 2 h (by simp)
@[simp] theorem RT.yp (t:RT) (h:3<t.av.length):t.av[3]'h=RT.vs t.kids:=get_at t.df 3 h (by simp)
@[simp] theorem RT.av_take4 (t:RT):t.av.take 4=t.av:=List.take_of_length_le (by simp)
@[simp] theorem RT.vz (l:List RT):(RT.avs l).length=l.length:=by simp[RT.cu]
theorem RT.cq {l:List RT} {i:Nat} {k:RT} (h:l[i]?=some k):(RT.avs l)[i]?=some k.av:=by rw[RT.cu];simp[h]
theorem T.cq {l:List T} {i:Nat} {k:T} (h:l[i]?=some k):(T.avs l)[i]?=some k.av:=by rw[T.cu];simp[h]
theorem RT.dk {t k:RT} (h:k∈t.kids):k.size<t.size:=by
 obtain⟨kd,r,e,ks⟩:=t
 have:=RT.dW (show k∈ks from h)
 simp[RT.size];omega
theorem T.dk {t k:T} (h:k∈t.kids):k.size<t.size:=by
 obtain⟨hd,ks⟩:=t
 have:=T.dW (show k∈ks from h)
 simp[T.size];omega
theorem RT.size_pos (t:RT):0<t.size:=by cases t;simp[RT.size];omega
theorem T.df (t:T):t.av= [u8 t.h.kind,u8 t.h.op,int t.h.pos,int t.h.n,str t.h.name,str t.h.arg,str t.h.exn,T.vs t.kids]:=by cases t;rfl
@[simp] theorem T.ym (t:T) (h:0<t.av.length):t.av[0]'h=u8 t.h.kind:=get_at t.df 0 h (by simp)
@[simp] theorem T.yn (t:T) (h:1<t.av.length):t.av[1]'h=u8 t.h.op:=get_at t.df 1 h (by simp)
@[simp] theorem T.yo (t:T) (h:2<t.av.length):t.av[2]'h=int t.h.pos:=get_at t.df 2 h (by simp)
@[simp] theorem T.yp (t:T) (h:3<t.av.length):t.av[3]'h=int t.h.n:=get_at t.df 3 h (by simp)
@[simp] theorem T.DB (t:T) (h:4<t.av.length):t.av[4]'h=str t.h.name:=get_at t.df 4 h (by simp)
@[simp] theorem T.DC (t:T) (h:5<t.av.length):t.av[5]'h=str t.h.arg:=get_at t.df 5 h (by simp)
@[simp] theorem T.DD (t:T) (h:6<t.av.length):t.av[6]'h=str t.h.exn:=get_at t.df 6 h (by simp)
@[simp] theorem T.av_7' (t:T) (h:7<t.av.length):t.av[7]'h=T.vs t.kids:=get_at t.df 7 h (by simp)
@[simp] theorem T.qR (t:T):t.av.head?=some (u8 t.h.kind):=by cases t;rfl
theorem T.ck (t:T):t.kids.length<t.size:=by
 obtain⟨hd,ks⟩:=t
 have:∀l:List T,l.length≤T.aI l:=by
  intro l
  induction l with
  | nil=>simp
  | cons a l ih=>have:=a.size_pos;simp[T.aI];omega
 have:=this ks
 simp[T.size,T.kids];omega
mutual
def T.all:T→List T
 | .mk h ks=>.mk h ks::T.bE ks
def T.bE:List T→List T
 | []=>[]
 | t::ts=>T.all t++T.bE ts
end
mutual
theorem T.eh:∀t:T,t.all.length=t.size
 | .mk h ks=>by simp[T.all,T.size,T.cj ks];omega
theorem T.cj:∀l:List T,(T.bE l).length=T.aI l
 | []=>rfl
 | t::ts=>by simp[T.bE,T.aI,T.eh t,T.cj ts]
end
theorem T.gF (l m:List T):T.bE (l++m)=T.bE l++T.bE m:=by
 induction l with
 | nil=>rfl
 | cons t l ih=>simp[T.bE,ih]
theorem T.eL (l m:List T):T.aI (l++m)=T.aI l+T.aI m:=by
 induction l with
 | nil=>simp[T.aI]
 | cons t l ih=>simp[T.aI,ih];omega
theorem T.fh (l:List T) (i:Nat):T.aI (l.take i)≤T.aI l:=by
 conv=>rhs;rw[←List.take_append_drop i l,T.eL]
 omega
theorem T.size_eq (t:T):t.size=1+T.aI t.kids:=by cases t;rfl
end Go.Abs.At
set_option linter.unusedVariables false
set_option linter.unusedSimpArgs false
namespace Go.Abs.At
open Go Go.Abs
mutual
def RT.fit:RT→Prop
 | .mk k r e ks=>e.length≤maxLen∧(∀a∈e,a.exn.size≤maxLen)∧ks.length≤maxLen∧RT.fits ks
def RT.fits:List RT→Prop
 | []=>True
 | t::ts=>RT.fit t∧RT.fits ts
end
mutual
def AT.fit:AT→Prop
 | .mk h r rs e t s ks=>(h.name.size≤maxLen∧h.arg.size≤maxLen∧h.exn.size≤maxLen)∧rs.length≤maxLen∧(e.length≤maxLen∧∀a∈e,a.exn.size≤maxLen)∧t.fit∧s.fit∧ks.length≤maxLen∧AT.fits ks
def AT.fits:List AT→Prop
 | []=>True
 | t::ts=>AT.fit t∧AT.fits ts
end
theorem AT.ov {l:List AT} (h:AT.fits l):∀t∈l,t.fit:=by
 induction l with
 | nil=>simp
 | cons a l ih=>
  intro t ht
  simp only[AT.fits]at h
  rcases List.mem_cons.1 ht with rfl | ht
  ·exact h.1
  ·exact ih h.2 t ht
theorem RT.ov {l:List RT} (h:RT.fits l):∀t∈l,t.fit:=by
 induction l with
 | nil=>simp
 | cons a l ih=>
  intro t ht
  simp only[RT.fits]at h
  rcases List.mem_cons.1 ht with rfl | ht
  ·exact h.1
  ·exact ih h.2 t ht
structure Tys (P:Program) (tU tI tH tAtom tRT tAT sI sAtom sRT sAT:TypeId):Prop where
 u:flat P 9 tU=some [.i .u8]
 i:flat P 9 tI=some [.i .i64]
 h:flat P 9 tH=some [.i .u8,.i .u8,.i .i64,.i .i64,.s,.s,.s]
 atom:flat P 9 tAtom=some [.i .u8,.i .i64,.s]
 uSI:P.underlying sI=some (.slice tI)
 cI:P.cellsOf tI=1
 uSAtom:P.underlying sAtom=some (.slice tAtom)
 cAtom:P.cellsOf tAtom=3
 rt:fieldsOf P tRT=some [(tU,0,1),(tI,1,1),(sAtom,2,1),(sRT,3,1)]
 uSRT:P.underlying sRT=some (.slice tRT)
 cRT:P.cellsOf tRT=4
 at':fieldsOf P tAT=some [(tH,0,7),(tI,7,1),(sI,8,1),(sAtom,9,1),(tRT,10,4),(tRT,14,4),(sAT,18,1)]
 uSAT:P.underlying sAT=some (.slice tAT)
 cAT:P.cellsOf tAT=19
variable {P:Program} {tU tI tH tAtom tRT tAT sI sAtom sRT sAT:TypeId}
theorem Tys.atoms (T:Tys P tU tI tH tAtom tRT tAT sI sAtom sRT sAT) {cs:List AV} (h:DV P sAtom cs):∃e:List Atom,cs= [aT e]∧e.length≤maxLen∧∀a∈e,a.exn.size≤maxLen:=by
 obtain⟨xs,rfl,hl,hx⟩:=h.iu T.uSAtom
 have:∃e:List Atom,xs=e.map Atom.av∧∀a∈e,a.exn.size≤maxLen:=by
  clear hl h
  induction xs with
  | nil=>exact⟨[],rfl,by simp⟩
  | cons el xs ih=>
   obtain⟨e,he,hs⟩:=ih (fun el' h'=>hx el' (by simp[h']))
   obtain⟨_,_,rfl,⟨k,rfl,_⟩,_,_,rfl,⟨r,rfl,_⟩,_,_,rfl,⟨s,rfl,hs'⟩,rfl⟩:=dC 9 tAtom _ _ T.atom (hx el (by simp)).1
   refine⟨⟨k,r,s⟩::e,by simp[Atom.av,he],fun a ha=> ?_⟩
   rcases List.mem_cons.1 ha with rfl | ha
   ·exact hs'
   ·exact hs a ha
 obtain⟨e,he,hs⟩:=this
 refine⟨e,by rw[T.cAtom,he];rfl,by rw[he]at hl;simpa using hl,hs⟩
theorem Tys.aH (T:Tys P tU tI tH tAtom tRT tAT sI sAtom sRT sAT) {cs:List AV} (h:DV P sI cs):∃l:List Int,cs= [aO l]∧l.length≤maxLen:=by
 obtain⟨xs,rfl,hl,hx⟩:=h.iu T.uSI
 have:∃l:List Int,xs=l.map fun r=>[int r]:=by
  clear hl h
  induction xs with
  | nil=>exact⟨[],rfl⟩
  | cons el xs ih=>
   obtain⟨e,he⟩:=ih (fun el' h'=>hx el' (by simp[h']))
   obtain⟨_,_,rfl,⟨r,rfl,_⟩,rfl⟩:=dC 9 tI _ _ T.i (hx el (by simp)).1
   exact⟨r::e,by simp[he]⟩
 obtain⟨l,rfl⟩:=this
 exact⟨l,by rw[T.cI];rfl,by simpa using hl⟩
theorem mW (n:Nat) (l:List AV):SizeOf.sizeOf (l.drop n)≤SizeOf.sizeOf l:=by
 induction l generalizing n with
 | nil=>simp
 | cons a l ih=>
  cases n with
  | zero=>simp
  | succ n=>have:=ih n;simp;omega
theorem mX (n:Nat) (l:List AV):SizeOf.sizeOf (l.take n)≤SizeOf.sizeOf l:=by
 induction l generalizing n with
 | nil=>simp
 | cons a l ih=>
  cases n with
  | zero=>simp;omega
  | succ n=>have:=ih n;simp;omega
theorem GN {α:Type} {l:List α} (h:l.length=4):l=(l.drop 0).take 1++(l.drop 1).take 1++(l.drop 2).take 1++(l.drop 3).take 1:=by
 match l,h with
 | [a,b,c,d],_=>rfl
theorem Dg {α:Type} {l:List α} (h:l.length=19):l=(l.drop 0).take 7++(l.drop 7).take 1++(l.drop 8).take 1++(l.drop 9).take 1++(l.drop 10).take 4++(l.drop 14).take 4++(l.drop 18).take 1:=by
 match l,h with
 | [a1,a2,a3,a4,a5,a6,a7,a8,a9,a10,a11,a12,a13,a14,a15,a16,a17,a18,a19],_=>rfl
theorem Tys.DW (T:Tys P tU tI tH tAtom tRT tAT sI sAtom sRT sAT):∀(n:Nat) (cs:List AV),SizeOf.sizeOf cs≤n→DV P tRT cs→∃t:RT,cs=t.av∧t.fit:=by
 intro n
 induction n with
 | zero=>intro cs h;cases cs<;>simp at h
 | succ n ih=>
  intro cs hn h
  have hl:=h.qy T.rt
  rw[T.cRT]at hl
  have hf:=h.fields T.rt
  obtain⟨_,_,e0,⟨k,rfl,_⟩,rfl⟩:=dC 9 tU _ _ T.u (hf (tU,0,1) (by simp))
  obtain⟨_,_,e1,⟨r,rfl,_⟩,rfl⟩:=dC 9 tI _ _ T.i (hf (tI,1,1) (by simp))
  obtain⟨e,e2,he1,he2⟩:=T.atoms (hf (sAtom,2,1) (by simp))
  obtain⟨xs,e3,hxl,hx⟩:=(hf (sRT,3,1) (by simp)).iu T.uSRT
  have hsz:∀el∈xs,SizeOf.sizeOf el≤n:=by
   intro el hel
   have h1:=List.sizeOf_lt_of_mem hel
   have h2:=mX 1 (cs.drop 3)
   have h3:=mW 3 cs
   simp only at e3
   rw[e3]at h2
   simp at h2
   omega
  have:∃l:List RT,xs=RT.avs l∧RT.fits l:=by
   clear e3 hxl
   induction xs with
   | nil=>exact⟨[],rfl,trivial⟩
   | cons el xs ih2=>
    obtain⟨l,h1,h2⟩:=ih2 (fun el' h'=>hx el' (by simp[h'])) (fun el' h'=>hsz el' (by simp[h']))
    obtain⟨t,h3,h4⟩:=ih el (hsz el (by simp)) (hx el (by simp)).1
    exact⟨t::l,by simp[RT.avs,h1,h3],h4,h2⟩
  obtain⟨l,rfl,hfit⟩:=this
  refine⟨.mk k r e l,?_,?_⟩
  ·rw[GN hl,e0,e1,e2,e3,T.cRT];rfl
  ·simp only[RT.fit]
   exact⟨he1,he2,by rw[RT.cu]at hxl;simpa using hxl,hfit⟩
theorem Tys.aterm (T:Tys P tU tI tH tAtom tRT tAT sI sAtom sRT sAT):∀(n:Nat) (cs:List AV),SizeOf.sizeOf cs≤n→DV P tAT cs→∃t:AT,cs=t.av∧t.fit:=by
 intro n
 induction n with
 | zero=>intro cs h;cases cs<;>simp at h
 | succ n ih=>
  intro cs hn h
  have hl:=h.qy T.at'
  rw[T.cAT]at hl
  have hf:=h.fields T.at'
  obtain⟨_,_,e0,⟨h1,rfl,_⟩,_,_,rfl,⟨h2,rfl,_⟩,_,_,rfl,⟨h3,rfl,_⟩,_,_,rfl,⟨h4,rfl,_⟩,_,_,rfl,⟨h5,rfl,l5⟩,_,_,rfl,⟨h6,rfl,l6⟩,_,_,rfl,⟨h7,rfl,l7⟩,rfl⟩:=dC 9 tH _ _ T.h (hf (tH,0,7) (by simp))
  obtain⟨_,_,e1,⟨r,rfl,_⟩,rfl⟩:=dC 9 tI _ _ T.i (hf (tI,7,1) (by simp))
  obtain⟨rs,e2,hrs⟩:=T.aH (hf (sI,8,1) (by simp))
  obtain⟨e,e3,he1,he2⟩:=T.atoms (hf (sAtom,9,1) (by simp))
  obtain⟨ty,e4,hty⟩:=T.DW _ _ (Nat.le_refl _) (hf (tRT,10,4) (by simp))
  obtain⟨re,e5,hre⟩:=T.DW _ _ (Nat.le_refl _) (hf (tRT,14,4) (by simp))
  obtain⟨xs,e6,hxl,hx⟩:=(hf (sAT,18,1) (by simp)).iu T.uSAT
  have hsz:∀el∈xs,SizeOf.sizeOf el≤n:=by
   intro el hel
   have h1:=List.sizeOf_lt_of_mem hel
   have h2:=mX 1 (cs.drop 18)
   have h3:=mW 18 cs
   simp only at e6
   rw[e6]at h2
   simp at h2
   omega
  have:∃l:List AT,xs=AT.avs l∧AT.fits l:=by
   clear e6 hxl
   induction xs with
   | nil=>exact⟨[],rfl,trivial⟩
   | cons el xs ih2=>
    obtain⟨l,h1,h2⟩:=ih2 (fun el' h'=>hx el' (by simp[h'])) (fun el' h'=>hsz el' (by simp[h']))
    obtain⟨t,h3,h4⟩:=ih el (hsz el (by simp)) (hx el (by simp)).1
    exact⟨t::l,by simp[AT.avs,h1,h3],h4,h2⟩
  obtain⟨l,rfl,hfit⟩:=this
  refine⟨.mk ⟨h1,h2,h3,h4,h5,h6,h7⟩ r rs e ty re l,?_,?_⟩
  ·rw[Dg hl,e0,e1,e2,e3,e4,e5,e6,T.cAT]
   simp[AT.av,Head.av]
  ·simp only[AT.fit]
   exact⟨⟨l5,l6,l7⟩,hrs,⟨he1,he2⟩,hty,hre,by rw[AT.cu]at hxl;simpa using hxl,hfit⟩
end Go.Abs.At
