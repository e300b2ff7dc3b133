import Derived.Test.YtjilebpcaemopaaGreatDoorAbsK
set_option linter.unusedVariables false
set_option linter.unusedSimpArgs false
set_option linter.deprecated false
namespace Go.Abs.Stk
open Go Go.Abs
abbrev Row:=List (List AV)
variable {α:Type}
structure SG (α:Type) where
 R:Int
 C:Int
 L:List (Bool×List α)
 most:Int
def idx:List (Bool×List α)→Nat→List Nat
 | [],_=>[]
 | (b,_)::r,i=>bif b then i::idx r (i+1) else idx r (i+1)
def tot:List (Bool×List α)→Nat
 | []=>0
 | (b,c)::r=>(bif b then c.length else 0)+tot r
def rowAt (l:List (Bool×List α)) (i:Nat):Option (List α):=
 match l[i]? with
 | some (true,c)=>some c
 | _=>none
def at' (l:List (Bool×List α)) (r:Int):Option (List α):=if 0≤r then rowAt l r.toNat else none
theorem uu (l m:List (Bool×List α)):∀i,idx (l++m) i=idx l i++idx m (i+l.length):=by
 induction l with
 | nil=>intro i;simp[idx]
 | cons p l ih=>
  intro i
  obtain⟨b,c⟩:=p
  cases b<;>simp[idx,ih,Nat.add_assoc,Nat.add_comm 1]
theorem uX (l m:List (Bool×List α)):tot (l++m)=tot l+tot m:=by
 induction l with
 | nil=>simp[tot]
 | cons p l ih=>obtain⟨b,c⟩:=p;simp[tot,ih];omega
theorem jS {l:List (Bool×List α)}:∀ {i k:Nat},k∈idx l i↔∃j c,k=i+j∧l[j]?=some (true,c):=by
 induction l with
 | nil=>intro i k;simp[idx]
 | cons p l ih=>
  intro i k
  obtain⟨b,c⟩:=p
  constructor
  ·intro h
   cases b
   ·simp only[idx,cond_false]at h
    obtain⟨j,c',e,h'⟩:=ih.1 h
    exact⟨j+1,c',by omega,by simpa using h'⟩
   ·simp only[idx,cond_true,List.mem_cons]at h
    rcases h with rfl | h
    ·exact⟨0,c,by omega,rfl⟩
    ·obtain⟨j,c',e,h'⟩:=ih.1 h
     exact⟨j+1,c',by omega,by simpa using h'⟩
  ·rintro⟨j,c',e,h'⟩
   cases j with
   | zero=>
    simp at h'
    obtain⟨rfl,rfl⟩:=h'
    simp[idx,e]
   | succ j=>
    have:k∈idx l (i+1):=ih.2 ⟨j,c',by omega,by simpa using h'⟩
    cases b<;>simp[idx,this]
theorem qY (l:List (Bool×List α)):∀i,(idx l i).Pairwise (· < ·):=by
 induction l with
 | nil=>intro i;simp[idx]
 | cons p l ih=>
  intro i
  obtain⟨b,c⟩:=p
  cases b
  ·simpa [idx] using ih (i+1)
  ·simp only[idx,cond_true,List.pairwise_cons]
   refine⟨fun k hk=> ?_,ih (i+1)⟩
   obtain⟨j,c',e,_⟩:=jS.1 hk
   omega
theorem nC {l:List (Bool×List α)}:∀ {i j:Nat} {c c':List α},l[j]?=some (true,c)→idx (l.set j (true,c')) i=idx l i:=by
 induction l with
 | nil=>intro i j c c' h;simp at h
 | cons p l ih=>
  intro i j c c' h
  obtain⟨b,d⟩:=p
  cases j with
  | zero=>simp at h;obtain⟨rfl,rfl⟩:=h;simp[idx]
  | succ j=>simp at h;cases b<;>simp[idx,ih h]
theorem Dm {l:List (Bool×List α)}:∀ {j:Nat} {c c':List α},l[j]?=some (true,c)→tot (l.set j (true,c'))+c.length=tot l+c'.length:=by
 induction l with
 | nil=>intro j c c' h;simp at h
 | cons p l ih=>
  intro j c c' h
  obtain⟨b,d⟩:=p
  cases j with
  | zero=>simp at h;obtain⟨rfl,rfl⟩:=h;simp[tot];omega
  | succ j=>simp at h;have:=ih (c':=c') h;cases b<;>simp[tot]<;>omega
theorem tA {l:List (Bool×List α)}:∀ {j:Nat} {c:List α},l[j]?=some (true,c)→tot (l.set j (false,[]))+c.length=tot l:=by
 induction l with
 | nil=>intro j c h;simp at h
 | cons p l ih=>
  intro j c h
  obtain⟨b,d⟩:=p
  cases j with
  | zero=>simp at h;obtain⟨rfl,rfl⟩:=h;simp[tot];omega
  | succ j=>simp at h;have:=ih h;cases b<;>simp[tot]<;>omega
theorem yQ {l:List (Bool×List α)}:∀ {i j:Nat} {c:List α},l[j]?=some (true,c)→idx (l.set j (false,[])) i=(idx l i).filter (· ≠i+j):=by
 induction l with
 | nil=>intro i j c h;simp at h
 | cons p l ih=>
  intro i j c h
  obtain⟨b,d⟩:=p
  have hne:∀k∈idx l (i+1),k≠i:=by
   intro k hk
   obtain⟨q,_,e,_⟩:=jS.1 hk
   omega
  cases j with
  | zero=>
   simp at h;obtain⟨rfl,rfl⟩:=h
   simp only[List.set_cons_zero,idx,cond_false,cond_true,Nat.add_zero]
   rw[List.filter_cons,if_neg (by simp)]
   exact(List.filter_eq_self.2 fun k hk=>by simpa using hne k hk).symm
  | succ j=>
   simp at h
   have:=ih (i:=i+1) h
   have e:i+1+j=i+(j+1):=by omega
   rw[e]at this
   cases b
   ·simpa [idx] using this
   ·simp only[List.set_cons_succ,idx,cond_true,this]
    rw[List.filter_cons,if_pos (by simp)]
theorem Dl {l:List (Bool×List α)} {j:Nat} {c:List α} (h:l[j]?=some (true,c)):c.length≤tot l:=by
 have:=tA h;omega
theorem iN {l:List (Bool×List α)} {i:Nat} {c:List α}:rowAt l i=some c↔l[i]?=some (true,c):=by
 unfold rowAt
 split
 ·rename_i d h;rw[h];simp
 ·rename_i h
  constructor
  ·intro h';cases h'
  ·intro h';exact absurd h' (h c)
theorem qQ {l:List (Bool×List α)} {r:Int} {c:List α} (h:at' l r=some c):0≤r∧l[r.toNat]?=some (true,c):=by
 unfold at' at h
 split at h
 ·exact⟨by assumption,iN.1 h⟩
 ·cases h
theorem yh {l:List (Bool×List α)} {i:Nat} {c:List α} (h:l[i]?=some (true,c)):at' l i=some c:=by
 simp[at',iN.2 h]
theorem FP (l:List (Bool×List α)) (i:Nat):at' l i=rowAt l i:=by simp[at']
theorem sv {l:List Nat} (h:l.Pairwise (· < ·)) {k:Nat} (hk:l.getLast?=some k):l.filter (· ≠k)=l.dropLast:=by
 obtain⟨m,rfl⟩:∃m,l=m++ [k]:=by
  obtain⟨m,e⟩:=List.getLast?_eq_some_iff.1 hk
  exact⟨m,e⟩
 rw[List.pairwise_append]at h
 rw[List.filter_append,List.filter_eq_self.2 (fun a ha=>by simpa using Nat.ne_of_lt (h.2.2 a ha k (by simp)))]
 simp
namespace SG
def live (s:SG α):List Nat:=idx s.L 0
def cells (s:SG α):Nat:=tot s.L
def row (s:SG α) (r:Int):Option (List α):=at' s.L r
def more (s:SG α):SG α:={s with L:=s.L++ [(true,[])]}
def less (s:SG α) (i:Nat):SG α:={s with L:=s.L.set i (false,[])}
def put (s:SG α) (i:Nat) (c:List α):SG α:={s with L:=s.L.set i (true,c)}
theorem ik (s:SG α):s.more.live=s.live++ [s.L.length]:=by simp[more,live,uu,idx]
theorem ku (s:SG α):s.more.cells=s.cells:=by simp[more,cells,uX,tot]
theorem ph (s:SG α) (r:Int):s.more.row r=if r=s.L.length then some [] else s.row r:=by
 unfold SG.row more at' rowAt
 by_cases h:0≤r
 ·obtain⟨n,rfl⟩:=Int.eq_ofNat_of_zero_le h
  simp only[Int.natCast_nonneg,if_true,Int.toNat_natCast,Int.natCast_inj]
  by_cases e:n=s.L.length
  ·subst e;simp
  ·rw[if_neg e]
   by_cases l:n<s.L.length
   ·rw[List.getElem?_append_left l]
   ·rw[List.getElem?_append_right (by omega),List.getElem?_eq_none (by simp;omega),List.getElem?_eq_none (by omega)]
 ·rw[if_neg h,if_neg h,if_neg (by omega)]
theorem rz (s:SG α) (i:Nat) (hi:i<s.L.length) (x:Bool×List α) (r:Int):at' (s.L.set i x) r=if r=i then (match x with | (true,c)=>some c | _=>none) else s.row r:=by
 unfold SG.row at' rowAt
 by_cases h:0≤r
 ·obtain⟨n,rfl⟩:=Int.eq_ofNat_of_zero_le h
  simp only[Int.natCast_nonneg,if_true,Int.toNat_natCast,Int.natCast_inj]
  by_cases e:n=i
  ·subst e
   rw[if_pos rfl,List.getElem?_set_self hi]
   obtain⟨b,c⟩:=x
   cases b<;>rfl
  ·rw[if_neg e,List.getElem?_set_ne (Ne.symm e)]
 ·rw[if_neg h,if_neg h,if_neg (by omega)]
theorem lq {s:SG α} {i:Nat} (h:s.live.getLast?=some i):∃c,s.L[i]?=some (true,c):=by
 obtain⟨j,c,e,h'⟩:=jS.1 (List.mem_of_getLast? h)
 have:i=j:=by omega
 subst this
 exact⟨c,h'⟩
theorem jR {s:SG α} {i:Nat} (h:s.live.getLast?=some i):(s.less i).live=s.live.dropLast:=by
 obtain⟨c,hc⟩:=lq h
 show idx (s.L.set i (false,[])) 0=_
 rw[yQ hc,Nat.zero_add]
 exact sv (qY _ _) h
theorem nZ {s:SG α} {i:Nat} {c:List α} (h:s.L[i]?=some (true,c)):(s.less i).cells+c.length=s.cells:=tA h
theorem pf {s:SG α} {i:Nat} (hi:i<s.L.length) (r:Int):(s.less i).row r=if r=i then none else s.row r:=rz s i hi _ r
theorem oJ {s:SG α} {i:Nat} {c c':List α} (h:s.L[i]?=some (true,c)):(s.put i c').live=s.live:=nC h
theorem jO {s:SG α} {i:Nat} {c c':List α} (h:s.L[i]?=some (true,c)):(s.put i c').cells+c.length=s.cells+c'.length:=Dm h
theorem lJ {s:SG α} {i:Nat} (hi:i<s.L.length) (c':List α) (r:Int):(s.put i c').row r=if r=i then some c' else s.row r:=rz s i hi _ r
theorem iO {s:SG α} {r:Int} {c:List α} (h:s.row r=some c):∃i:Nat,r=i∧s.L[i]?=some (true,c)∧i<s.L.length:=by
 obtain⟨h0,h1⟩:=qQ h
 exact⟨r.toNat,by omega,h1,(List.getElem?_eq_some_iff.1 h1).1⟩
end SG
namespace SG
variable {α:Type}
def gU (s:SG α) (i:Nat) (row:List α) (c:α):SG α:={s with L:=s.L.set i (true,row++ [c]),most:=if s.most<s.cells+1 then s.cells+1 else s.most}
def find (s:SG α) (kd n r a:Int):Int:=
 if kd≠2∨n≠0 then 1 else match s.row r with
  | none=>6
  | some row=>if a<0∨row.length≤a then 1 else 0
end SG
abbrev S:=SG (List AV)
end Go.Abs.Stk
