import Derived.Test.YtjilebpcaemopaaGreatDoorAbsO
set_option linter.unusedVariables false
set_option linter.unusedSimpArgs false
namespace Go.Abs.At
open Go Go.Abs
abbrev int (n:Int):AV:=.val (.int .i64 n)
abbrev u8 (n:Int):AV:=.val (.int .u8 n)
abbrev str (s:ByteArray):AV:=.val (.string s)
structure Head where
  kind:Int
  op:Int
  pos:Int
  n:Int
  name:ByteArray
  arg:ByteArray
  exn:ByteArray
  deriving DecidableEq
def Head.av (h:Head):List AV:=[u8 h.kind,u8 h.op,int h.pos,int h.n,str h.name,str h.arg,str h.exn]
structure Atom where
  kind:Int
  rho:Int
  exn:ByteArray
  deriving DecidableEq
def Atom.av (a:Atom):List AV:=[u8 a.kind,int a.rho,str a.exn]
def effV (e:List Atom):AV:=.sl false 3 (e.map Atom.av)
def rhosV (l:List Int):AV:=.sl false 1 (l.map fun r=>[int r])
inductive RT where
  | mk (kind rho:Int) (eff:List Atom) (kids:List RT)
inductive T where
  | mk (h:Head) (kids:List T)
inductive AT where
  | mk (h:Head) (rho:Int) (rhos:List Int) (eff:List Atom) (type res:RT) (kids:List AT)
mutual
def RT.av:RT→List AV
  | .mk k r e ks=>[u8 k,int r,effV e,.sl false 4 (RT.avs ks)]
def RT.avs:List RT→List (List AV)
  | []=>[]
  | t :: ts=>RT.av t :: RT.avs ts
end
mutual
def T.av:T→List AV
  | .mk h ks=>h.av ++ [.sl false 8 (T.avs ks)]
def T.avs:List T→List (List AV)
  | []=>[]
  | t :: ts=>T.av t :: T.avs ts
end
mutual
def AT.av:AT→List AV
  | .mk h r rs e t s ks=>h.av ++ [int r,rhosV rs,effV e] ++ t.av ++ s.av ++ [.sl false 19 (AT.avs ks)]
def AT.avs:List AT→List (List AV)
  | []=>[]
  | t :: ts=>AT.av t :: AT.avs ts
end
theorem RT.avs_map (l:List RT):RT.avs l=l.map RT.av:=by
  induction l with
  | nil=>rfl
  | cons t l ih=>simp [RT.avs,ih]
theorem T.avs_map (l:List T):T.avs l=l.map T.av:=by
  induction l with
  | nil=>rfl
  | cons t l ih=>simp [T.avs,ih]
theorem AT.avs_map (l:List AT):AT.avs l=l.map AT.av:=by
  induction l with
  | nil=>rfl
  | cons t l ih=>simp [AT.avs,ih]
@[simp] theorem Head.av_len (h:Head):h.av.length=7:=rfl
@[simp] theorem RT.av_len (t:RT):t.av.length=4:=by cases t;rfl
@[simp] theorem T.av_len (t:T):t.av.length=8:=by cases t;rfl
@[simp] theorem AT.av_len (t:AT):t.av.length=19:=by cases t;simp [AT.av]
def AT.h:AT→Head | .mk h _ _ _ _ _ _=>h
def AT.kids:AT→List AT | .mk _ _ _ _ _ _ ks=>ks
def T.h:T→Head | .mk h _=>h
def T.kids:T→List T | .mk _ ks=>ks
def RT.kids:RT→List RT | .mk _ _ _ ks=>ks
mutual
def AT.size:AT→Nat
  | .mk _ _ _ _ _ _ ks=>1+AT.sizes ks
def AT.sizes:List AT→Nat
  | []=>0
  | t :: ts=>AT.size t+AT.sizes ts
end
mutual
def T.size:T→Nat
  | .mk _ ks=>1+T.sizes ks
def T.sizes:List T→Nat
  | []=>0
  | t :: ts=>T.size t+T.sizes ts
end
mutual
def RT.size:RT→Nat
  | .mk _ _ _ ks=>1+RT.sizes ks
def RT.sizes:List RT→Nat
  | []=>0
  | t :: ts=>RT.size t+RT.sizes ts
end
theorem AT.sizes_mem {l:List AT} {t:AT} (h:t ∈ l):t.size≤AT.sizes l:=by
  induction l with
  | nil=>simp at h
  | cons a l ih =>
    rcases List.mem_cons.1 h with rfl | h
    · simp [AT.sizes]
    · have:=ih h;simp [AT.sizes];omega
theorem RT.sizes_mem {l:List RT} {t:RT} (h:t ∈ l):t.size≤RT.sizes l:=by
  induction l with
  | nil=>simp at h
  | cons a l ih =>
    rcases List.mem_cons.1 h with rfl | h
    · simp [RT.sizes]
    · have:=ih h;simp [RT.sizes];omega
theorem T.sizes_mem {l:List T} {t:T} (h:t ∈ l):t.size≤T.sizes l:=by
  induction l with
  | nil=>simp at h
  | cons a l ih =>
    rcases List.mem_cons.1 h with rfl | h
    · simp [T.sizes]
    · have:=ih h;simp [T.sizes];omega
theorem AT.size_pos (t:AT):0 < t.size:=by cases t;simp [AT.size];omega
theorem T.size_pos (t:T):0 < t.size:=by cases t;simp [T.size];omega
theorem Head.dat (h:Head):∀ x ∈ h.av,Dat x:=by
  intro x hx
  simp only [Head.av,List.mem_cons,List.not_mem_nil,or_false] at hx
  rcases hx with rfl | rfl | rfl | rfl | rfl | rfl | rfl <;> exact .val _
theorem effV_dat (e:List Atom):Dat (effV e):=.sl fun el hel x hx=>by
  obtain ⟨a,_,rfl⟩:=List.mem_map.1 hel
  simp only [Atom.av,List.mem_cons,List.not_mem_nil,or_false] at hx
  rcases hx with rfl | rfl | rfl <;> exact .val _
theorem rhosV_dat (l:List Int):Dat (rhosV l):=.sl fun el hel x hx=>by
  obtain ⟨a,_,rfl⟩:=List.mem_map.1 hel
  simp only [List.mem_cons,List.not_mem_nil,or_false] at hx
  subst hx;exact .val _
mutual
theorem RT.dat:∀ (t:RT),∀ x ∈ t.av,Dat x
  | .mk k r e ks,x,hx=>by
    simp only [RT.av,List.mem_cons,List.not_mem_nil,or_false] at hx
    rcases hx with rfl | rfl | rfl | rfl
    · exact .val _
    · exact .val _
    · exact effV_dat e
    · exact .sl (RT.dats ks)
theorem RT.dats:∀ (l:List RT),∀ el ∈ RT.avs l,∀ x ∈ el,Dat x
  | [],el,hel,x,hx=>by simp [RT.avs] at hel
  | t :: ts,el,hel,x,hx=>by
    simp only [RT.avs,List.mem_cons] at hel
    rcases hel with rfl | hel
    · exact RT.dat t x hx
    · exact RT.dats ts el hel x hx
end
mutual
theorem T.dat:∀ (t:T),∀ x ∈ t.av,Dat x
  | .mk h ks,x,hx=>by
    simp only [T.av,List.mem_append,List.mem_cons,List.not_mem_nil,or_false] at hx
    rcases hx with hx | rfl
    · exact h.dat x hx
    · exact .sl (T.dats ks)
theorem T.dats:∀ (l:List T),∀ el ∈ T.avs l,∀ x ∈ el,Dat x
  | [],el,hel,x,hx=>by simp [T.avs] at hel
  | t :: ts,el,hel,x,hx=>by
    simp only [T.avs,List.mem_cons] at hel
    rcases hel with rfl | hel
    · exact T.dat t x hx
    · exact T.dats ts el hel x hx
end
mutual
theorem AT.dat:∀ (t:AT),∀ x ∈ t.av,Dat x
  | .mk h r rs e t s ks,x,hx=>by
    simp only [AT.av,List.mem_append,List.mem_cons,List.not_mem_nil,or_false] at hx
    rcases hx with (((hx | rfl | rfl | rfl) | hx) | hx) | rfl
    · exact h.dat x hx
    · exact .val _
    · exact rhosV_dat rs
    · exact effV_dat e
    · exact t.dat x hx
    · exact s.dat x hx
    · exact .sl (AT.dats ks)
theorem AT.dats:∀ (l:List AT),∀ el ∈ AT.avs l,∀ x ∈ el,Dat x
  | [],el,hel,x,hx=>by simp [AT.avs] at hel
  | t :: ts,el,hel,x,hx=>by
    simp only [AT.avs,List.mem_cons] at hel
    rcases hel with rfl | hel
    · exact AT.dat t x hx
    · exact AT.dats ts el hel x hx
end
abbrev AT.v (t:AT):AV:=.agg t.av
abbrev T.v (t:T):AV:=.agg t.av
abbrev RT.v (t:RT):AV:=.agg t.av
abbrev AT.vs (l:List AT):AV:=.sl false 19 (AT.avs l)
abbrev T.vs (l:List T):AV:=.sl false 8 (T.avs l)
abbrev RT.vs (l:List RT):AV:=.sl false 4 (RT.avs l)
def AT.rho:AT→Int | .mk _ r _ _ _ _ _=>r
def AT.rhos:AT→List Int | .mk _ _ r _ _ _ _=>r
def AT.eff:AT→List Atom | .mk _ _ _ e _ _ _=>e
def AT.type:AT→RT | .mk _ _ _ _ t _ _=>t
def AT.res:AT→RT | .mk _ _ _ _ _ t _=>t
def RT.kind:RT→Int | .mk k _ _ _=>k
def RT.rho:RT→Int | .mk _ r _ _=>r
def RT.eff:RT→List Atom | .mk _ _ e _=>e
theorem AT.av_eq (t:AT):∃ a b c d e f g h,t.type.av=[a,b,c,d]∧t.res.av=[e,f,g,h] ∧
    t.av=[u8 t.h.kind,u8 t.h.op,int t.h.pos,int t.h.n,str t.h.name,str t.h.arg,str t.h.exn,int t.rho,rhosV t.rhos,effV t.eff,a,b,c,d,e,f,g,h,AT.vs t.kids]:=by
  obtain ⟨h,r,rs,e,ty,re,ks⟩:=t
  obtain ⟨k1,r1,e1,ks1⟩:=ty
  obtain ⟨k2,r2,e2,ks2⟩:=re
  exact ⟨_,_,_,_,_,_,_,_,rfl,rfl,rfl⟩
theorem get_at {α:Type} {l l':List α} (h:l=l') (i:Nat) (hi:i < l.length) (hi':i < l'.length):l[i]=l'[i]:=by subst h;rfl
@[simp] theorem AT.av_4' (t:AT) (h:4 < t.av.length):t.av[4]'h=str t.h.name:=by obtain ⟨_,_,_,_,_,_,_,_,_,_,e⟩:=t.av_eq;exact get_at e 4 h (by simp)
@[simp] theorem AT.av_5' (t:AT) (h:5 < t.av.length):t.av[5]'h=str t.h.arg:=by obtain ⟨_,_,_,_,_,_,_,_,_,_,e⟩:=t.av_eq;exact get_at e 5 h (by simp)
@[simp] theorem AT.av_6' (t:AT) (h:6 < t.av.length):t.av[6]'h=str t.h.exn:=by obtain ⟨_,_,_,_,_,_,_,_,_,_,e⟩:=t.av_eq;exact get_at e 6 h (by simp)
@[simp] theorem AT.av_2' (t:AT) (h:2 < t.av.length):t.av[2]'h=int t.h.pos:=by obtain ⟨_,_,_,_,_,_,_,_,_,_,e⟩:=t.av_eq;exact get_at e 2 h (by simp)
@[simp] theorem AT.av_7' (t:AT) (h:7 < t.av.length):t.av[7]'h=int t.rho:=by obtain ⟨_,_,_,_,_,_,_,_,_,_,e⟩:=t.av_eq;exact get_at e 7 h (by simp)
@[simp] theorem AT.av_8' (t:AT) (h:8 < t.av.length):t.av[8]'h=rhosV t.rhos:=by obtain ⟨_,_,_,_,_,_,_,_,_,_,e⟩:=t.av_eq;exact get_at e 8 h (by simp)
@[simp] theorem AT.av_9' (t:AT) (h:9 < t.av.length):t.av[9]'h=effV t.eff:=by obtain ⟨_,_,_,_,_,_,_,_,_,_,e⟩:=t.av_eq;exact get_at e 9 h (by simp)
@[simp] theorem AT.av_type (t:AT):List.take 4 (List.drop 10 t.av)=t.type.av:=by obtain ⟨_,_,_,_,_,_,_,_,e1,_,e⟩:=t.av_eq;rw [e,e1];rfl
@[simp] theorem AT.av_res (t:AT):List.take 4 (List.drop 14 t.av)=t.res.av:=by obtain ⟨_,_,_,_,_,_,_,_,_,e1,e⟩:=t.av_eq;rw [e,e1];rfl
theorem RT.av_eq (t:RT):t.av=[u8 t.kind,int t.rho,effV t.eff,RT.vs t.kids]:=by cases t;rfl
@[simp] theorem RT.av_0' (t:RT) (h:0 < t.av.length):t.av[0]'h=u8 t.kind:=get_at t.av_eq 0 h (by simp)
@[simp] theorem RT.av_1' (t:RT) (h:1 < t.av.length):t.av[1]'h=int t.rho:=get_at t.av_eq 1 h (by simp)
@[simp] theorem RT.av_2' (t:RT) (h:2 < t.av.length):t.av[2]'h=effV t.eff:=get_at t.av_eq 2 h (by simp)
@[simp] theorem RT.av_3' (t:RT) (h:3 < t.av.length):t.av[3]'h=RT.vs t.kids:=get_at t.av_eq 3 h (by simp)
@[simp] theorem RT.av_take4 (t:RT):t.av.take 4=t.av:=List.take_of_length_le (by simp)
@[simp] theorem RT.avs_len (l:List RT):(RT.avs l).length=l.length:=by simp [RT.avs_map]
theorem RT.avs_get {l:List RT} {i:Nat} {k:RT} (h:l[i]?=some k):(RT.avs l)[i]?=some k.av:=by rw [RT.avs_map];simp [h]
theorem T.avs_get {l:List T} {i:Nat} {k:T} (h:l[i]?=some k):(T.avs l)[i]?=some k.av:=by rw [T.avs_map];simp [h]
theorem RT.kids_lt {t k:RT} (h:k ∈ t.kids):k.size < t.size:=by
  obtain ⟨kd,r,e,ks⟩:=t
  have:=RT.sizes_mem (show k ∈ ks from h)
  simp [RT.size];omega
theorem T.kids_lt {t k:T} (h:k ∈ t.kids):k.size < t.size:=by
  obtain ⟨hd,ks⟩:=t
  have:=T.sizes_mem (show k ∈ ks from h)
  simp [T.size];omega
theorem RT.size_pos (t:RT):0 < t.size:=by cases t;simp [RT.size];omega
theorem T.av_eq (t:T):t.av=[u8 t.h.kind,u8 t.h.op,int t.h.pos,int t.h.n,str t.h.name,str t.h.arg,str t.h.exn,T.vs t.kids]:=by cases t;rfl
@[simp] theorem T.av_0' (t:T) (h:0 < t.av.length):t.av[0]'h=u8 t.h.kind:=get_at t.av_eq 0 h (by simp)
@[simp] theorem T.av_1' (t:T) (h:1 < t.av.length):t.av[1]'h=u8 t.h.op:=get_at t.av_eq 1 h (by simp)
@[simp] theorem T.av_2' (t:T) (h:2 < t.av.length):t.av[2]'h=int t.h.pos:=get_at t.av_eq 2 h (by simp)
@[simp] theorem T.av_3' (t:T) (h:3 < t.av.length):t.av[3]'h=int t.h.n:=get_at t.av_eq 3 h (by simp)
@[simp] theorem T.av_4' (t:T) (h:4 < t.av.length):t.av[4]'h=str t.h.name:=get_at t.av_eq 4 h (by simp)
@[simp] theorem T.av_5' (t:T) (h:5 < t.av.length):t.av[5]'h=str t.h.arg:=get_at t.av_eq 5 h (by simp)
@[simp] theorem T.av_6' (t:T) (h:6 < t.av.length):t.av[6]'h=str t.h.exn:=get_at t.av_eq 6 h (by simp)
@[simp] theorem T.av_7' (t:T) (h:7 < t.av.length):t.av[7]'h=T.vs t.kids:=get_at t.av_eq 7 h (by simp)
@[simp] theorem T.av_head (t:T):t.av.head?=some (u8 t.h.kind):=by cases t;rfl
theorem T.kids_len (t:T):t.kids.length < t.size:=by
  obtain ⟨hd,ks⟩:=t
  have:∀ l:List T,l.length≤T.sizes l:=by
    intro l
    induction l with
    | nil=>simp
    | cons a l ih=>have:=a.size_pos;simp [T.sizes];omega
  have:=this ks
  simp [T.size,T.kids];omega
mutual
def T.all:T→List T
  | .mk h ks=>.mk h ks :: T.alls ks
def T.alls:List T→List T
  | []=>[]
  | t :: ts=>T.all t ++ T.alls ts
end
mutual
theorem T.all_len:∀ t:T,t.all.length=t.size
  | .mk h ks=>by simp [T.all,T.size,T.alls_len ks];omega
theorem T.alls_len:∀ l:List T,(T.alls l).length=T.sizes l
  | []=>rfl
  | t :: ts=>by simp [T.alls,T.sizes,T.all_len t,T.alls_len ts]
end
theorem T.alls_append (l m:List T):T.alls (l ++ m)=T.alls l ++ T.alls m:=by
  induction l with
  | nil=>rfl
  | cons t l ih=>simp [T.alls,ih]
theorem T.sizes_append (l m:List T):T.sizes (l ++ m)=T.sizes l+T.sizes m:=by
  induction l with
  | nil=>simp [T.sizes]
  | cons t l ih=>simp [T.sizes,ih];omega
theorem T.sizes_take (l:List T) (i:Nat):T.sizes (l.take i)≤T.sizes l:=by
  conv=>rhs;rw [← List.take_append_drop i l,T.sizes_append]
  omega
theorem T.size_eq (t:T):t.size=1+T.sizes t.kids:=by cases t;rfl
end Go.Abs.At
namespace Go.Abs.At
open Go Go.Abs
mutual
def RT.fit:RT→Prop
  | .mk k r e ks=>e.length≤maxLen∧(∀ a ∈ e,a.exn.size≤maxLen)∧ks.length≤maxLen∧RT.fits ks
def RT.fits:List RT→Prop
  | []=>True
  | t :: ts=>RT.fit t∧RT.fits ts
end
mutual
def AT.fit:AT→Prop
  | .mk h r rs e t s ks=>(h.name.size≤maxLen∧h.arg.size≤maxLen∧h.exn.size≤maxLen)∧rs.length≤maxLen∧(e.length≤maxLen∧∀ a ∈ e,a.exn.size≤maxLen)∧t.fit∧s.fit∧ks.length≤maxLen∧AT.fits ks
def AT.fits:List AT→Prop
  | []=>True
  | t :: ts=>AT.fit t∧AT.fits ts
end
theorem AT.fits_mem {l:List AT} (h:AT.fits l):∀ t ∈ l,t.fit:=by
  induction l with
  | nil=>simp
  | cons a l ih =>
    intro t ht
    simp only [AT.fits] at h
    rcases List.mem_cons.1 ht with rfl | ht
    · exact h.1
    · exact ih h.2 t ht
theorem RT.fits_mem {l:List RT} (h:RT.fits l):∀ t ∈ l,t.fit:=by
  induction l with
  | nil=>simp
  | cons a l ih =>
    intro t ht
    simp only [RT.fits] at h
    rcases List.mem_cons.1 ht with rfl | ht
    · exact h.1
    · exact ih h.2 t ht
structure Tys (P:Program) (tU tI tH tAtom tRT tAT sI sAtom sRT sAT:TypeId):Prop where
  u:flat P 9 tU=some [.i .u8]
  i:flat P 9 tI=some [.i .i64]
  h:flat P 9 tH=some [.i .u8,.i .u8,.i .i64,.i .i64,.s,.s,.s]
  atom:flat P 9 tAtom=some [.i .u8,.i .i64,.s]
  uSI:P.underlying sI=some (.slice tI)
  cI:P.cellsOf tI=1
  uSAtom:P.underlying sAtom=some (.slice tAtom)
  cAtom:P.cellsOf tAtom=3
  rt:fieldsOf P tRT=some [(tU,0,1),(tI,1,1),(sAtom,2,1),(sRT,3,1)]
  uSRT:P.underlying sRT=some (.slice tRT)
  cRT:P.cellsOf tRT=4
  at':fieldsOf P tAT=some [(tH,0,7),(tI,7,1),(sI,8,1),(sAtom,9,1),(tRT,10,4),(tRT,14,4),(sAT,18,1)]
  uSAT:P.underlying sAT=some (.slice tAT)
  cAT:P.cellsOf tAT=19
variable {P:Program} {tU tI tH tAtom tRT tAT sI sAtom sRT sAT:TypeId}
theorem Tys.atoms (T:Tys P tU tI tH tAtom tRT tAT sI sAtom sRT sAT) {cs:List AV} (h:DV P sAtom cs):∃ e:List Atom,cs=[effV e]∧e.length≤maxLen∧∀ a ∈ e,a.exn.size≤maxLen:=by
  obtain ⟨xs,rfl,hl,hx⟩:=h.slice_inv T.uSAtom
  have:∃ e:List Atom,xs=e.map Atom.av∧∀ a ∈ e,a.exn.size≤maxLen:=by
    clear hl h
    induction xs with
    | nil=>exact ⟨[],rfl,by simp⟩
    | cons el xs ih =>
      obtain ⟨e,he,hs⟩:=ih (fun el' h'=>hx el' (by simp [h']))
      obtain ⟨_,_,rfl,⟨k,rfl,_⟩,_,_,rfl,⟨r,rfl,_⟩,_,_,rfl,⟨s,rfl,hs'⟩,rfl⟩:=flat_spec 9 tAtom _ _ T.atom (hx el (by simp)).1
      refine ⟨⟨k,r,s⟩ :: e,by simp [Atom.av,he],fun a ha=>?_⟩
      rcases List.mem_cons.1 ha with rfl | ha
      · exact hs'
      · exact hs a ha
  obtain ⟨e,he,hs⟩:=this
  refine ⟨e,by rw [T.cAtom,he];rfl,by rw [he] at hl;simpa using hl,hs⟩
theorem Tys.rhos (T:Tys P tU tI tH tAtom tRT tAT sI sAtom sRT sAT) {cs:List AV} (h:DV P sI cs):∃ l:List Int,cs=[rhosV l]∧l.length≤maxLen:=by
  obtain ⟨xs,rfl,hl,hx⟩:=h.slice_inv T.uSI
  have:∃ l:List Int,xs=l.map fun r=>[int r]:=by
    clear hl h
    induction xs with
    | nil=>exact ⟨[],rfl⟩
    | cons el xs ih =>
      obtain ⟨e,he⟩:=ih (fun el' h'=>hx el' (by simp [h']))
      obtain ⟨_,_,rfl,⟨r,rfl,_⟩,rfl⟩:=flat_spec 9 tI _ _ T.i (hx el (by simp)).1
      exact ⟨r :: e,by simp [he]⟩
  obtain ⟨l,rfl⟩:=this
  exact ⟨l,by rw [T.cI];rfl,by simpa using hl⟩
theorem sizeOf_drop (n:Nat) (l:List AV):SizeOf.sizeOf (l.drop n)≤SizeOf.sizeOf l:=by
  induction l generalizing n with
  | nil=>simp
  | cons a l ih =>
    cases n with
    | zero=>simp
    | succ n=>have:=ih n;simp;omega
theorem sizeOf_take (n:Nat) (l:List AV):SizeOf.sizeOf (l.take n)≤SizeOf.sizeOf l:=by
  induction l generalizing n with
  | nil=>simp
  | cons a l ih =>
    cases n with
    | zero=>simp;omega
    | succ n=>have:=ih n;simp;omega
theorem split4 {α:Type} {l:List α} (h:l.length=4):l=(l.drop 0).take 1 ++ (l.drop 1).take 1 ++ (l.drop 2).take 1 ++ (l.drop 3).take 1:=by
  match l,h with
  | [a,b,c,d],_=>rfl
theorem split19 {α:Type} {l:List α} (h:l.length=19):l=(l.drop 0).take 7 ++ (l.drop 7).take 1 ++ (l.drop 8).take 1 ++ (l.drop 9).take 1 ++ (l.drop 10).take 4 ++ (l.drop 14).take 4 ++ (l.drop 18).take 1:=by
  match l,h with
  | [a1,a2,a3,a4,a5,a6,a7,a8,a9,a10,a11,a12,a13,a14,a15,a16,a17,a18,a19],_=>rfl
theorem Tys.rtype (T:Tys P tU tI tH tAtom tRT tAT sI sAtom sRT sAT):∀ (n:Nat) (cs:List AV),SizeOf.sizeOf cs≤n→DV P tRT cs→∃ t:RT,cs=t.av∧t.fit:=by
  intro n
  induction n with
  | zero=>intro cs h;cases cs <;> simp at h
  | succ n ih =>
    intro cs hn h
    have hl:=h.structLen T.rt
    rw [T.cRT] at hl
    have hf:=h.fields T.rt
    obtain ⟨_,_,e0,⟨k,rfl,_⟩,rfl⟩:=flat_spec 9 tU _ _ T.u (hf (tU,0,1) (by simp))
    obtain ⟨_,_,e1,⟨r,rfl,_⟩,rfl⟩:=flat_spec 9 tI _ _ T.i (hf (tI,1,1) (by simp))
    obtain ⟨e,e2,he1,he2⟩:=T.atoms (hf (sAtom,2,1) (by simp))
    obtain ⟨xs,e3,hxl,hx⟩:=(hf (sRT,3,1) (by simp)).slice_inv T.uSRT
    have hsz:∀ el ∈ xs,SizeOf.sizeOf el≤n:=by
      intro el hel
      have h1:=List.sizeOf_lt_of_mem hel
      have h2:=sizeOf_take 1 (cs.drop 3)
      have h3:=sizeOf_drop 3 cs
      simp only at e3
      rw [e3] at h2
      simp at h2
      omega
    have:∃ l:List RT,xs=RT.avs l∧RT.fits l:=by
      clear e3 hxl
      induction xs with
      | nil=>exact ⟨[],rfl,trivial⟩
      | cons el xs ih2 =>
        obtain ⟨l,h1,h2⟩:=ih2 (fun el' h'=>hx el' (by simp [h'])) (fun el' h'=>hsz el' (by simp [h']))
        obtain ⟨t,h3,h4⟩:=ih el (hsz el (by simp)) (hx el (by simp)).1
        exact ⟨t :: l,by simp [RT.avs,h1,h3],h4,h2⟩
    obtain ⟨l,rfl,hfit⟩:=this
    refine ⟨.mk k r e l,?_,?_⟩
    · rw [split4 hl,e0,e1,e2,e3,T.cRT];rfl
    · simp only [RT.fit]
      exact ⟨he1,he2,by rw [RT.avs_map] at hxl;simpa using hxl,hfit⟩
theorem Tys.aterm (T:Tys P tU tI tH tAtom tRT tAT sI sAtom sRT sAT):∀ (n:Nat) (cs:List AV),SizeOf.sizeOf cs≤n→DV P tAT cs→∃ t:AT,cs=t.av∧t.fit:=by
  intro n
  induction n with
  | zero=>intro cs h;cases cs <;> simp at h
  | succ n ih =>
    intro cs hn h
    have hl:=h.structLen T.at'
    rw [T.cAT] at hl
    have hf:=h.fields T.at'
    obtain ⟨_,_,e0,⟨h1,rfl,_⟩,_,_,rfl,⟨h2,rfl,_⟩,_,_,rfl,⟨h3,rfl,_⟩,_,_,rfl,⟨h4,rfl,_⟩,_,_,rfl,⟨h5,rfl,l5⟩,_,_,rfl,⟨h6,rfl,l6⟩,_,_,rfl,⟨h7,rfl,l7⟩,rfl⟩:=flat_spec 9 tH _ _ T.h (hf (tH,0,7) (by simp))
    obtain ⟨_,_,e1,⟨r,rfl,_⟩,rfl⟩:=flat_spec 9 tI _ _ T.i (hf (tI,7,1) (by simp))
    obtain ⟨rs,e2,hrs⟩:=T.rhos (hf (sI,8,1) (by simp))
    obtain ⟨e,e3,he1,he2⟩:=T.atoms (hf (sAtom,9,1) (by simp))
    obtain ⟨ty,e4,hty⟩:=T.rtype _ _ (Nat.le_refl _) (hf (tRT,10,4) (by simp))
    obtain ⟨re,e5,hre⟩:=T.rtype _ _ (Nat.le_refl _) (hf (tRT,14,4) (by simp))
    obtain ⟨xs,e6,hxl,hx⟩:=(hf (sAT,18,1) (by simp)).slice_inv T.uSAT
    have hsz:∀ el ∈ xs,SizeOf.sizeOf el≤n:=by
      intro el hel
      have h1:=List.sizeOf_lt_of_mem hel
      have h2:=sizeOf_take 1 (cs.drop 18)
      have h3:=sizeOf_drop 18 cs
      simp only at e6
      rw [e6] at h2
      simp at h2
      omega
    have:∃ l:List AT,xs=AT.avs l∧AT.fits l:=by
      clear e6 hxl
      induction xs with
      | nil=>exact ⟨[],rfl,trivial⟩
      | cons el xs ih2 =>
        obtain ⟨l,h1,h2⟩:=ih2 (fun el' h'=>hx el' (by simp [h'])) (fun el' h'=>hsz el' (by simp [h']))
        obtain ⟨t,h3,h4⟩:=ih el (hsz el (by simp)) (hx el (by simp)).1
        exact ⟨t :: l,by simp [AT.avs,h1,h3],h4,h2⟩
    obtain ⟨l,rfl,hfit⟩:=this
    refine ⟨.mk ⟨h1,h2,h3,h4,h5,h6,h7⟩ r rs e ty re l,?_,?_⟩
    · rw [split19 hl,e0,e1,e2,e3,e4,e5,e6,T.cAT]
      simp [AT.av,Head.av]
    · simp only [AT.fit]
      exact ⟨⟨l5,l6,l7⟩,hrs,⟨he1,he2⟩,hty,hre,by rw [AT.avs_map] at hxl;simpa using hxl,hfit⟩
end Go.Abs.At
