import Derived.Test.YtjilebpcaemopaaGreatDoorChkM
import Derived.Test.YtjilebpcaemopaaGreatDoorMacH
set_option linter.unusedVariables false
set_option linter.unusedSimpArgs false
namespace Go.Abs.Safe
open Go Go.Abs Go.Abs.Stk Go.Abs.At Go.Abs.Mac Go.Abs.Chk
theorem zl {a b:Atom} {l:List Atom}:b∈eZ a l↔b=a∨b∈l:=by
 induction l with
 | nil=>simp[eZ]
 | cons x l ih=>
  simp only[eZ]
  split
  ·simp
  ·simp[ih]
   constructor
   ·rintro(h | h | h)<;>simp[h]
   ·rintro(h | h | h)<;>simp[h]
theorem zn {e:List Atom} {a b:Atom}:b∈du e a↔b∈e∨(b=a∧bw a=true):=by
 unfold du
 split
 ·rename_i h;rw[zl];simp[h.1,or_comm]
 ·rename_i h
  constructor
  ·exact .inl
  ·rintro(h' | ⟨rfl,h'⟩)
   ·exact h'
   ·by_cases hb:b∈e
    ·exact hb
    ·exact absurd ⟨h',hb⟩ h
theorem j8 (p:Atom→Prop) [DecidablePred p] (f:Atom→Atom) {l:List Atom}:∀ {acc:List Atom} {b:Atom},b∈l.foldl (fun o a=>if p a then du o (f a) else o) acc↔b∈acc∨∃a∈l,p a∧f a=b∧bw b=true:=by
 induction l with
 | nil=>intro acc b;simp
 | cons x l ih=>
  intro acc b
  simp only[List.foldl_cons]
  rw[ih]
  by_cases h:p x
  ·rw[if_pos h,zn]
   constructor
   ·rintro((h1 | ⟨rfl,h1⟩) | ⟨a,h1,h2⟩)
    ·exact .inl h1
    ·exact .inr ⟨x,by simp,h,rfl,h1⟩
    ·exact .inr ⟨a,by simp[h1],h2⟩
   ·rintro(h1 | ⟨a,h1,h2,rfl,h4⟩)
    ·exact .inl (.inl h1)
    ·rcases List.mem_cons.1 h1 with rfl | h1
     ·exact .inl (.inr ⟨rfl,h4⟩)
     ·exact .inr ⟨a,h1,h2,rfl,h4⟩
  ·rw[if_neg h]
   constructor
   ·rintro(h1 | ⟨a,h1,h2⟩)
    ·exact .inl h1
    ·exact .inr ⟨a,by simp[h1],h2⟩
   ·rintro(h1 | ⟨a,h1,h2,h3⟩)
    ·exact .inl h1
    ·rcases List.mem_cons.1 h1 with rfl | h1
     ·exact absurd h2 h
     ·exact .inr ⟨a,h1,h2,h3⟩
def Has (e:List Atom) (b:Atom):Prop:=b∈e∧bw b=true
theorem b8 {l:List Atom} {b:Atom}:Has (ofA l) b↔Has l b:=by
 have h:=j8 (fun _=>True) id (l:=l) (acc:=[]) (b:=b)
 simp only[if_true,id]at h
 unfold Has ofA
 rw[h]
 simp
 intro hb
 exact⟨fun⟨a,h1,h2,_⟩=>h2▸h1,fun h=>⟨b,h,rfl,hb⟩⟩
theorem ny {l:List Atom} {rs:List Int} {b:Atom}:Has (cU l rs) b↔Has l b∧(b.kind=3∨b.rho∉rs):=by
 have h:=j8 (fun a=>a.kind=3∨a.rho∉rs) id (l:=l) (acc:=[]) (b:=b)
 simp only[id]at h
 unfold Has cU
 rw[h]
 simp
 constructor
 ·rintro⟨⟨a,h1,h2,rfl,h3⟩,_⟩;exact⟨⟨h1,h3⟩,h2⟩
 ·rintro⟨⟨h1,h2⟩,h3⟩;exact⟨⟨b,h1,h3,rfl,h2⟩,h2⟩
theorem eJ {l:List Atom} {x:ByteArray} {b:Atom}:Has (dm l [x]) b↔Has l b∧¬(b.kind=3∧b.exn=x):=by
 have h:=j8 (fun a=>¬(a.kind=3∧([x].any fun y=>decide (y=a.exn))=true)) id (l:=l) (acc:=[]) (b:=b)
 simp only[id,ite_not]at h
 unfold Has dm
 rw[h]
 simp
 constructor
 ·rintro⟨⟨a,h1,h2,rfl,h3⟩,_⟩;exact⟨⟨h1,h3⟩,fun h4 h5=>h2 h4 h5.symm⟩
 ·rintro⟨⟨h1,h2⟩,h3⟩;exact⟨⟨b,h1,fun h4 h5=>h3 h4 h5.symm,rfl,h2⟩,h2⟩
theorem o5 {l:List Atom} {fr to:List Int} {b:Atom}:Has (ft fr to l) b↔∃c,Has l c∧b=dh fr to c∧bw b=true:=by
 have h:=j8 (fun a=>bw a=true) (dh fr to) (l:=l) (acc:=[]) (b:=b)
 unfold Has ft
 rw[h]
 simp
 constructor
 ·rintro⟨⟨a,h1,h2,rfl,h3⟩,_⟩;exact⟨a,⟨h1,h2⟩,rfl,h3⟩
 ·rintro⟨a,⟨h1,h2⟩,rfl,h3⟩;exact⟨⟨a,h1,h2,rfl,h3⟩,h3⟩
theorem bz {l m:List Atom} {b:Atom}:Has (l++m) b↔Has l b∨Has m b:=by
 unfold Has;simp[or_and_right]
theorem fP {a b:Atom}:Has [a] b↔b=a∧bw a=true:=by
 unfold Has
 rw[List.mem_singleton]
 constructor
 ·rintro⟨rfl,h⟩;exact⟨rfl,h⟩
 ·rintro⟨rfl,h⟩;exact⟨rfl,h⟩
theorem oZ {a b:Atom} {l:List Atom}:Has (a::l) b↔(b=a∧bw a=true)∨Has l b:=by
 have:=bz (l:=[a]) (m:=l) (b:=b)
 rw[fP]at this;exact this
theorem ib {a b:List Atom} (h:bk a b=true) {x:Atom} (hx:Has a x):Has b x:=by
 unfold bk at h
 have:=List.all_eq_true.1 h x hx.1
 rw[hx.2]at this
 simp at this
 exact⟨this,hx.2⟩
theorem lU {r:Int} (h:0≤r):bw (dz r)=true:=by simp[bw,dz,h]
theorem fI {r:Int} (h:0≤r):bw (putAt r)=true:=by simp[bw,putAt,h]
def InE (P:Int→Prop) (e:List Atom):Prop:=∀a,Has e a→a.kind≠3→P a.rho
mutual
def InT (P:Int→Prop):RT→Prop
 | .mk k r e ks=>k≠1→P r∧InE P e∧jF P ks
def jF (P:Int→Prop):List RT→Prop
 | []=>True
 | t::ts=>InT P t∧jF P ts
end
theorem yf {P:Int→Prop} {l:List RT}:jF P l↔∀t∈l,InT P t:=by
 induction l with
 | nil=>simp[jF]
 | cons t l ih=>simp[jF,ih]
mutual
theorem InT.and {P Q R:Int→Prop} (h:∀x,P x→Q x→R x):∀ {t:RT},InT P t→InT Q t→InT R t
 | .mk k r e ks,h1,h2=>fun hk=>⟨h _ (h1 hk).1 (h2 hk).1,fun a ha h3=>h _ ((h1 hk).2.1 a ha h3) ((h2 hk).2.1 a ha h3),jF.and h (h1 hk).2.2 (h2 hk).2.2⟩
theorem jF.and {P Q R:Int→Prop} (h:∀x,P x→Q x→R x):∀ {l:List RT},jF P l→jF Q l→jF R l
 | [],_,_=>trivial
 | t::ts,h1,h2=>⟨InT.and h h1.1 h2.1,jF.and h h1.2 h2.2⟩
end
theorem InT.mono {P R:Int→Prop} (h:∀x,P x→R x) {t:RT} (h1:InT P t):InT R t:=InT.and (fun x hx _=>h x hx) h1 h1
theorem InE.mono {P R:Int→Prop} (h:∀x,P x→R x) {e:List Atom} (h1:InE P e):InE R e:=fun a ha h3=>h _ (h1 a ha h3)
theorem pw (P:Int→Prop):InT P one:=fun h=>(h rfl).elim
theorem InT.kid {P:Int→Prop} {t:RT} (h:InT P t) (hk:t.kind≠1) (i:Nat) (hi:i<t.kids.length):InT P (Chk.aO t i):=by
 obtain⟨k,r,e,ks⟩:=t
 refine yf.1 (h hk).2.2 _ ?_
 unfold Chk.aO
 simp only[RT.kids]at hi⊢
 rw[List.getElem?_eq_getElem hi]
 exact List.getElem_mem hi
theorem InT.rho {P:Int→Prop} {t:RT} (h:InT P t) (hk:t.kind≠1):P t.rho:=by obtain⟨k,r,e,ks⟩:=t;exact(h hk).1
theorem InT.eff {P:Int→Prop} {t:RT} (h:InT P t) (hk:t.kind≠1):InE P t.eff:=by obtain⟨k,r,e,ks⟩:=t;exact(h hk).2.1
theorem zm {n m:Int} {l:List Int}:m∈jI n l↔m=n∨m∈l:=by
 induction l with
 | nil=>simp[jI]
 | cons x l ih=>
  simp only[jI]
  split
  ·simp
  ·simp[ih]
   constructor
   ·rintro(h | h | h)<;>simp[h]
   ·rintro(h | h | h)<;>simp[h]
theorem mf {l:List Int} {n m:Int}:m∈dV l n↔m=n∨m∈l:=by
 unfold dV
 split
 ·rename_i h
  constructor
  ·exact .inr
  ·rintro(rfl | h')
   ·exact h
   ·exact h'
 ·exact zm
theorem mT {l:List Int}:∀ {o:List Int} {m:Int},m∈l.foldl dV o↔m∈l∨m∈o:=by
 induction l with
 | nil=>intro o m;simp
 | cons x l ih=>
  intro o m
  simp only[List.foldl_cons,ih,mf,List.mem_cons]
  constructor
  ·rintro(h | h | h)<;>simp[h]
  ·rintro((h | h) | h)<;>simp[h]
theorem qL {e:List Atom} {m:Int}:m∈cT e↔∃a,Has e a∧a.kind≠3∧a.rho=m:=by
 have:∀(e:List Atom) (o:List Int),m∈e.foldl (fun o a=>if bw a=true∧a.kind≠3 then dV o a.rho else o) o↔m∈o∨∃a,Has e a∧a.kind≠3∧a.rho=m:=by
  intro e
  induction e with
  | nil=>intro o;simp[Has]
  | cons x e ih=>
   intro o
   simp only[List.foldl_cons,ih]
   by_cases h:bw x=true∧x.kind≠3
   ·rw[if_pos h,mf]
    constructor
    ·rintro((h1 | h1) | ⟨a,h1,h2⟩)
     ·exact .inr ⟨x,⟨by simp,h.1⟩,h.2,h1.symm⟩
     ·exact .inl h1
     ·exact .inr ⟨a,⟨by simp[h1.1],h1.2⟩,h2⟩
    ·rintro(h1 | ⟨a,⟨h1,h1'⟩,h2,h3⟩)
     ·exact .inl (.inr h1)
     ·rcases List.mem_cons.1 h1 with rfl | h1
      ·exact .inl (.inl h3.symm)
      ·exact .inr ⟨a,⟨h1,h1'⟩,h2,h3⟩
   ·rw[if_neg h]
    constructor
    ·rintro(h1 | ⟨a,h1,h2⟩)
     ·exact .inl h1
     ·exact .inr ⟨a,⟨by simp[h1.1],h1.2⟩,h2⟩
    ·rintro(h1 | ⟨a,⟨h1,h1'⟩,h2,h3⟩)
     ·exact .inl h1
     ·rcases List.mem_cons.1 h1 with rfl | h1
      ·exact absurd ⟨h1',h2⟩ h
      ·exact .inr ⟨a,⟨h1,h1'⟩,h2,h3⟩
 have:=this e []
 unfold cT
 rw[this];simp
mutual
theorem xH:∀(t:RT) (o:List Int) (x:Int),x∈o→x∈fm o t
 | .mk k r e ks,o,x,h=>by
  simp only[fm]
  refine hZ ks _ x ?_
  split
  ·exact h
  ·exact mT.2 (.inr (mf.2 (.inr h)))
theorem hZ:∀(l:List RT) (o:List Int) (x:Int),x∈o→x∈cL o l
 | [],o,x,h=>h
 | t::ts,o,x,h=>by simp only[cL];exact hZ ts _ x (xH t o x h)
end
mutual
theorem s5:∀(t:RT) (o:List Int),InT (· ∈fm o t) t
 | .mk k r e ks,o=>fun hk=>by
  simp only[fm,if_neg hk]
  refine⟨hZ _ _ _ (mT.2 (.inr (mf.2 (.inl rfl)))),fun a ha h3=>hZ _ _ _ (mT.2 (.inl (qL.2 ⟨a,ha,h3,rfl⟩))),mN ks _⟩
theorem mN:∀(l:List RT) (o:List Int),jF (· ∈cL o l) l
 | [],o=>trivial
 | t::ts,o=>⟨by
  simp only[cL]
  exact(s5 t o).mono fun x hx=>hZ ts _ x hx,by simp only[cL];exact mN ts _⟩
end
theorem ky {l rs:List Int} (h:eX l rs=true) {x:Int} (hx:x∈l):x∈rs:=by simpa using List.all_eq_true.1 h x hx
abbrev fR (nm:ByteArray) (t:RT):Bd:=⟨nm,t,false,ga⟩
abbrev jD (t:AT):Bd:=⟨t.h.name,bW,true,t⟩
inductive Ty:List Bd→List Int→AT→RT→List Atom→Prop
 | num {Γ rs t} (hr:bo t rs=true) (hk:t.h.kind=1):Ty Γ rs t one []
 | var {Γ rs t b} (hr:bo t rs=true) (hk:t.h.kind=2) (hf:gh Γ t.h.name=some b) (hb:b.fn=false):Ty Γ rs t b.t []
 | inst {Γ rs t b} (hr:bo t rs=true) (hk:t.h.kind=18) (hf:gh Γ t.h.name=some b) (hb:b.fn=true) (hl:b.f.aG.length=t.aG.length) (hw:bk (ft b.f.aG t.aG b.f.eff) t.eff=true):
  Ty Γ rs t (.mk 4 t.rho t.eff [swapT b.f.aG t.aG b.f.type,swapT b.f.aG t.aG b.f.res]) (ofA [dz b.f.rho,putAt t.rho])
 | pair {Γ rs t a e0 b e1} (hr:bo t rs=true) (hk:t.h.kind=3) (h0:Ty Γ rs (aA t 0) a e0) (h1:Ty Γ rs (aA t 1) b e1):Ty Γ rs t (.mk 2 t.rho [] [a,b]) (ofA (e0++e1++ [putAt t.rho]))
 | proj {Γ rs t a e0} (hr:bo t rs=true) (hk:t.h.kind=4∨t.h.kind=5) (h0:Ty Γ rs (aA t 0) a e0) (ha:a.kind=2):Ty Γ rs t (Chk.aO a (t.h.kind - 4).toNat) (ofA (e0++ [dz a.rho]))
 | ref {Γ rs t a e0} (hr:bo t rs=true) (hk:t.h.kind=6) (h0:Ty Γ rs (aA t 0) a e0):Ty Γ rs t (.mk 3 t.rho [] [a]) (ofA (e0++ [putAt t.rho]))
 | get {Γ rs t a e0} (hr:bo t rs=true) (hk:t.h.kind=7) (h0:Ty Γ rs (aA t 0) a e0) (ha:a.kind=3):Ty Γ rs t (Chk.aO a 0) (ofA (e0++ [dz a.rho]))
 | set {Γ rs t a e0 b e1} (hr:bo t rs=true) (hk:t.h.kind=8) (h0:Ty Γ rs (aA t 0) a e0) (h1:Ty Γ rs (aA t 1) b e1) (ha:a.kind=3) (hs:RT.same (Chk.aO a 0) b=true):Ty Γ rs t one (ofA (e0++e1++ [putAt a.rho]))
 | op {Γ rs t a e0 b e1} (hr:bo t rs=true) (hk:t.h.kind=9) (h0:Ty Γ rs (aA t 0) a e0) (h1:Ty Γ rs (aA t 1) b e1) (ha:a.kind=1) (hb:b.kind=1):Ty Γ rs t one (ofA (e0++e1))
 | app {Γ rs t a e0 b e1} (hr:bo t rs=true) (hk:t.h.kind=10) (h0:Ty Γ rs (aA t 0) a e0) (h1:Ty Γ rs (aA t 1) b e1) (ha:a.kind=4) (hs:RT.same (Chk.aO a 0) b=true):Ty Γ rs t (Chk.aO a 1) (ofA (e0++e1++ [dz a.rho]++a.eff))
 | fn {Γ rs t a e0} (hr:bo t rs=true) (hk:t.h.kind=11) (h0:Ty (Γ++ [fR t.h.arg t.type]) rs (aA t 0) a e0) (hw:bk e0 t.eff=true):Ty Γ rs t (.mk 4 t.rho t.eff [t.type,a]) (ofA [putAt t.rho])
 | let_ {Γ rs t a e0 b e1} (hr:bo t rs=true) (hk:t.h.kind=12) (h0:Ty Γ rs (aA t 0) a e0) (h1:Ty (Γ++ [fR t.h.name a]) rs (aA t 1) b e1):Ty Γ rs t b (ofA (e0++e1))
 | letrec {Γ rs t a e0 b e1} (hr:bo t rs=true) (hk:t.h.kind=13) (h0:Ty ((Γ++ [jD t])++ [fR t.h.arg t.type]) (rs++t.aG) (aA t 0) a e0) (hs:RT.same a t.res=true) (hw:bk e0 t.eff=true)
  (h1:Ty (Γ++ [jD t]) rs (aA t 1) b e1):Ty Γ rs t b (ofA (putAt t.rho::e1))
 | if_ {Γ rs t a e0 b e1 c e2} (hr:bo t rs=true) (hk:t.h.kind=14) (h0:Ty Γ rs (aA t 0) a e0) (h1:Ty Γ rs (aA t 1) b e1) (h2:Ty Γ rs (aA t 2) c e2) (ha:a.kind=1) (hs:RT.same b c=true):Ty Γ rs t b (ofA (e0++e1++e2))
 | raise {Γ rs t a e0} (hr:bo t rs=true) (hk:t.h.kind=15) (h0:Ty Γ rs (aA t 0) a e0) (ha:a.kind=1):Ty Γ rs t t.type (ofA (e0++ [lf t.h.exn]))
 | try_ {Γ rs t a e0 b e1} (hr:bo t rs=true) (hk:t.h.kind=16) (h0:Ty Γ rs (aA t 0) a e0) (h1:Ty (Γ++ [fR t.h.arg one]) rs (aA t 1) b e1) (hs:RT.same a b=true):Ty Γ rs t a (ofA (dm e0 [t.h.exn]++e1))
 | region {Γ rs t a e0} (hr:bo t rs=true) (hk:t.h.kind=17) (h0:Ty Γ (rs++ [t.rho]) (aA t 0) a e0) (hn:t.rho∉fm [] a):Ty Γ rs t a (ofA (cU e0 [t.rho]))
theorem eH {f:List Bd→List Int→AT→Rr} {Γ:List Bd} {rs:List Int} {t c:AT} {cs:List AT} {k r:List Rr} (h:Chk.bp f Γ rs t (c::cs) k= .inr r):
 (f (aU Γ rs t k.length k).1 (aU Γ rs t k.length k).2 c).no=0∧Chk.bp f Γ rs t cs (k++ [f (aU Γ rs t k.length k).1 (aU Γ rs t k.length k).2 c])= .inr r:=by
 simp only[Chk.bp]at h
 split at h
 ·cases h
 ·rename_i h0;exact⟨by simpa using h0,h⟩
theorem tN {t:AT} {k:List Rr} (h:(kf t k).no=0):(dM t k).1=true∧(dM t k).2.1=true∧(kf t k).t=(dM t k).2.2.1∧(kf t k).e=ofA (dM t k).2.2.2:=by
 unfold kf at h⊢
 generalize dM t k=q at h⊢
 obtain⟨a,b,c,d⟩:=q
 cases a
 ·simp[bad]at h
 ·cases b
  ·simp[bad]at h
  ·simp
theorem zf {t:AT} (h:t.kids.length=1):t.kids= [aA t 0]:=by
 obtain⟨a,ha⟩:=List.length_eq_one_iff.1 h
 simp[aA,ha]
theorem zg {t:AT} (h:t.kids.length=2):t.kids= [aA t 0,aA t 1]:=by
 unfold aA
 generalize t.kids=l at h⊢
 match l,h with
 | [a,b],_=>rfl
theorem zh {t:AT} (h:t.kids.length=3):t.kids= [aA t 0,aA t 1,aA t 2]:=by
 unfold aA
 generalize t.kids=l at h⊢
 match l,h with
 | [a,b,c],_=>rfl
theorem mV {k:Int} (h:1≤k∧k≤18):(nk k=0∧(k=1∨k=2∨k=18))∨(nk k=1∧(k=4∨k=5∨k=6∨k=7∨k=11∨k=15∨k=17))∨(nk k=2∧(k=3∨k=8∨k=9∨k=10∨k=12∨k=13∨k=16))∨(nk k=3∧k=14):=by
 unfold nk
 split
 ·omega
 ·split
  ·omega
  ·split<;>omega
theorem Gc {t:AT} {r:Rr} (h:(jR t r).no=0):jR t r=r:=by
 unfold jR at h⊢
 split
 ·rename_i h1;rw[if_pos h1]at h;simp[bad]at h
 ·rfl
theorem yV (d:Nat) (ih:∀Γ rs t,Wf t→(fdM d Γ rs t).no=0→Ty Γ rs t (fdM d Γ rs t).t (fdM d Γ rs t).e) {Γ:List Bd} {rs:List Int} {t:AT} (hw:Wf t) (h:(dk (fdM d) Γ rs t).no=0):Ty Γ rs t (dk (fdM d) Γ rs t).t (dk (fdM d) Γ rs t).e:=by
 unfold dk at h⊢
 cases hr:bo t rs with
 | false=>rw[hr,if_pos rfl]at h;simp[bad]at h
 | true=>
  rw[hr]at h
  simp only[Bool.true_eq_false,if_false]at h⊢
  by_cases c2:t.h.kind=2∨t.h.kind=18
  ·rw[if_pos c2]at h⊢
   unfold nS at h⊢
   cases hf:gh Γ t.h.name with
   | none=>rw[hf]at h;simp[bad]at h
   | some b=>
    rw[hf]at h
    simp only at h⊢
    by_cases c:t.h.kind=2
    ·rw[if_pos c]at h⊢
     cases hb:b.fn with
     | true=>rw[hb]at h;simp[bad]at h
     | false=>simp only[hb,Bool.false_eq_true,if_false];exact .var hr c hf hb
    ·rw[if_neg c]at h⊢
     by_cases c3:b.fn=false∨b.f.aG.length≠t.aG.length
     ·rw[if_pos c3]at h;simp[bad]at h
     ·rw[if_neg c3]at h⊢
      cases hww:bk (ft b.f.aG t.aG b.f.eff) t.eff with
      | false=>rw[hww,if_pos rfl]at h;simp[bad]at h
      | true=>
       simp only[Bool.true_eq_false,if_false]
       refine .inst hr (by omega) hf ?_ (by omega) hww
       cases hb:b.fn
       ·exact absurd (.inl hb) c3
       ·rfl
  ·rw[if_neg c2]at h⊢
   cases hk:Chk.bp (fdM d) Γ rs t t.kids [] with
   | inl r=>
    rw[hk]at h
    simp only at h
    have:∀cs k,Chk.bp (fdM d) Γ rs t cs k= .inl r→r.no≠0:=by
     intro cs
     induction cs with
     | nil=>intro k h;simp[Chk.bp]at h
     | cons c cs ih=>
      intro k h
      simp only[Chk.bp]at h
      split at h
      ·rename_i h1;cases h;exact h1
      ·exact ih _ h
    exact absurd h (this _ _ hk)
   | inr k=>
    rw[hk]at h
    simp only at h⊢
    obtain⟨r1,r2,r3,r4⟩:=tN h
    rw[r3,r4]
    have hlen:=hw.len
    have hwk:∀i,i<nk t.h.kind→Wf (aA t i):=fun i hi=>hw.kid hi
    have hkd:=hw.kind
    by_cases n0:nk t.h.kind=0
    ·rw[n0]at hlen
     have hk0:=List.length_eq_zero_iff.1 hlen
     rw[hk0]at hk
     simp[Chk.bp]at hk
     subst hk
     have c1:t.h.kind=1:=by have:=mV hkd;omega
     have e:dM t []=(true,true,one,[]):=by unfold dM;simp[c1]
     rw[e]
     exact .num hr c1
    by_cases n1:nk t.h.kind=1
    ·rw[n1]at hlen hwk
     rw[zf hlen]at hk
     obtain⟨k1,hk⟩:=eH hk
     simp only[Chk.bp,List.nil_append,Sum.inr.injEq,List.length_nil]at hk k1
     have T0:=ih _ _ _ (hwk 0 (by omega)) k1
     rw[←hk]at r1 r2⊢
     generalize fdM d (aU Γ rs t 0 []).1 (aU Γ rs t 0 []).2 (aA t 0)=R at r1 r2 T0⊢
     have hE:[R].flatMap Rr.e=R.e:=by simp
     have hR:r0 [R] 0=R:=rfl
     unfold dM at r1 r2⊢
     rw[hE,hR]at r1 r2⊢
     have cs:t.h.kind=4∨t.h.kind=5∨t.h.kind=6∨t.h.kind=7∨t.h.kind=11∨t.h.kind=15∨t.h.kind=17:=by have:=mV hkd;omega
     rcases cs with c | c | c | c | c | c | c
     ·have ei:aU Γ rs t 0 []=(Γ,rs):=by unfold aU;simp[c]
      rw[ei]at T0
      simp only[c]at r1 r2⊢
      by_cases ca:R.t.kind=2
      ·simp[ca];have:=Ty.proj hr (.inl c) T0 ca;rw[c]at this;exact this
      ·simp[ca]at r1
     ·have ei:aU Γ rs t 0 []=(Γ,rs):=by unfold aU;simp[c]
      rw[ei]at T0
      simp only[c]at r1 r2⊢
      by_cases ca:R.t.kind=2
      ·simp[ca];have:=Ty.proj hr (.inr c) T0 ca;rw[c]at this;exact this
      ·simp[ca]at r1
     ·have ei:aU Γ rs t 0 []=(Γ,rs):=by unfold aU;simp[c]
      rw[ei]at T0
      simp[c]
      exact .ref hr c T0
     ·have ei:aU Γ rs t 0 []=(Γ,rs):=by unfold aU;simp[c]
      rw[ei]at T0
      simp only[c]at r1 r2⊢
      by_cases ca:R.t.kind=3
      ·simp[ca];exact .get hr c T0 ca
      ·simp[ca]at r1
     ·have ei:aU Γ rs t 0 []=(Γ++ [fR t.h.arg t.type],rs):=by unfold aU;simp[c]
      rw[ei]at T0
      simp[c]at r2⊢
      exact .fn hr c T0 r2
     ·have ei:aU Γ rs t 0 []=(Γ,rs):=by unfold aU;simp[c]
      rw[ei]at T0
      simp[c]at r1⊢
      exact .raise hr c T0 r1
     ·have ei:aU Γ rs t 0 []=(Γ,rs++ [t.rho]):=by unfold aU;simp[c]
      rw[ei]at T0
      simp[c]at r2⊢
      exact .region hr c T0 r2
    by_cases n2:nk t.h.kind=2
    ·rw[n2]at hlen hwk
     rw[zg hlen]at hk
     obtain⟨k1,hk⟩:=eH hk
     obtain⟨k2,hk⟩:=eH hk
     simp only[Chk.bp,List.nil_append,Sum.inr.injEq,List.length_nil,List.length_cons,List.cons_append]at hk k1 k2
     have T0:=ih _ _ _ (hwk 0 (by omega)) k1
     have T1:=ih _ _ _ (hwk 1 (by omega)) k2
     rw[←hk]at r1 r2⊢
     generalize fdM d (aU Γ rs t 0 []).1 (aU Γ rs t 0 []).2 (aA t 0)=R at r1 r2 T0 T1⊢
     generalize fdM d (aU Γ rs t (0+1) [R]).1 (aU Γ rs t (0+1) [R]).2 (aA t 1)=Q at r1 r2 T1⊢
     have hE:[R,Q].flatMap Rr.e=R.e++Q.e:=by simp
     have hR:r0 [R,Q] 0=R:=rfl
     have hQ:r0 [R,Q] 1=Q:=rfl
     have hR1:r0 [R] 0=R:=rfl
     unfold dM at r1 r2⊢
     rw[hE,hR,hQ]at r1 r2⊢
     have cs:t.h.kind=3∨t.h.kind=8∨t.h.kind=9∨t.h.kind=10∨t.h.kind=12∨t.h.kind=13∨t.h.kind=16:=by have:=mV hkd;omega
     have en:(t.h.kind=3∨t.h.kind=8∨t.h.kind=9∨t.h.kind=10)→aU Γ rs t 0 []=(Γ,rs)∧aU Γ rs t (0+1) [R]=(Γ,rs):=fun c=>by
      unfold aU
      rcases c with c | c | c | c<;>simp[c]
     rcases cs with c | c | c | c | c | c | c
     ·obtain⟨ei,ej⟩:=en (by omega)
      rw[ei]at T0;rw[ej]at T1
      simp[c]
      have:=Ty.pair hr c T0 T1
      simpa using this
     ·obtain⟨ei,ej⟩:=en (by omega)
      rw[ei]at T0;rw[ej]at T1
      simp[c]at r1⊢
      have:=Ty.set hr c T0 T1 r1.1 r1.2
      simpa using this
     ·obtain⟨ei,ej⟩:=en (by omega)
      rw[ei]at T0;rw[ej]at T1
      simp[c]at r1⊢
      exact .op hr c T0 T1 r1.1 r1.2
     ·obtain⟨ei,ej⟩:=en (by omega)
      rw[ei]at T0;rw[ej]at T1
      simp only[c]at r1 r2⊢
      by_cases ca:R.t.kind=4∧RT.same (Chk.aO R.t 0) Q.t=true
      ·simp[ca]
       have:=Ty.app hr c T0 T1 ca.1 ca.2
       simpa using this
      ·simp[ca]at r1
     ·have ei:aU Γ rs t 0 []=(Γ,rs):=by unfold aU;simp[c]
      have ej:aU Γ rs t (0+1) [R]=(Γ++ [fR t.h.name R.t],rs):=by unfold aU;simp[c,hR1]
      rw[ei]at T0;rw[ej]at T1
      simp[c]
      exact .let_ hr c T0 T1
     ·have ei:aU Γ rs t 0 []=((Γ++ [jD t])++ [fR t.h.arg t.type],rs++t.aG):=by unfold aU;simp[c]
      have ej:aU Γ rs t (0+1) [R]=(Γ++ [jD t],rs):=by unfold aU;simp[c]
      rw[ei]at T0;rw[ej]at T1
      simp[c]at r1 r2⊢
      exact .letrec hr c T0 r1 r2 T1
     ·have ei:aU Γ rs t 0 []=(Γ,rs):=by unfold aU;simp[c]
      have ej:aU Γ rs t (0+1) [R]=(Γ++ [fR t.h.arg one],rs):=by unfold aU;simp[c]
      rw[ei]at T0;rw[ej]at T1
      simp[c]at r1⊢
      exact .try_ hr c T0 T1 r1
    have n3:t.h.kind=14:=by have:=mV hkd;omega
    have e3:nk t.h.kind=3:=by rw[n3];rfl
    rw[e3]at hlen hwk
    rw[zh hlen]at hk
    obtain⟨k1,hk⟩:=eH hk
    obtain⟨k2,hk⟩:=eH hk
    obtain⟨k3,hk⟩:=eH hk
    have en:∀i k,aU Γ rs t i k=(Γ,rs):=fun i k=>by unfold aU;simp[n3]
    simp only[Chk.bp,List.nil_append,Sum.inr.injEq,List.length_nil,List.length_cons,List.cons_append,en]at hk k1 k2 k3
    have T0:=ih _ _ _ (hwk 0 (by omega)) k1
    have T1:=ih _ _ _ (hwk 1 (by omega)) k2
    have T2:=ih _ _ _ (hwk 2 (by omega)) k3
    rw[←hk]at r1 r2⊢
    generalize fdM d Γ rs (aA t 0)=R at r1 r2 T0⊢
    generalize fdM d Γ rs (aA t 1)=Q at r1 r2 T1⊢
    generalize fdM d Γ rs (aA t 2)=P at r1 r2 T2⊢
    have hE:[R,Q,P].flatMap Rr.e=R.e++Q.e++P.e:=by simp
    have hR:r0 [R,Q,P] 0=R:=rfl
    have hQ:r0 [R,Q,P] 1=Q:=rfl
    have hP:r0 [R,Q,P] 2=P:=rfl
    unfold dM at r1 r2⊢
    rw[hE,hR,hQ,hP]at r1 r2⊢
    simp[n3]at r1⊢
    have:=Ty.if_ hr n3 T0 T1 T2 r1.1 r1.2
    simpa using this
theorem yR:∀(d:Nat) Γ rs t,Wf t→(fdM d Γ rs t).no=0→Ty Γ rs t (fdM d Γ rs t).t (fdM d Γ rs t).e
 | 0,Γ,rs,t,hw,h=>by simp[fdM,bad]at h
 | d+1,Γ,rs,t,hw,h=>by
  simp only[fdM]at h⊢
  have e:=Gc h
  rw[e]at h⊢
  exact yV d (yR d) hw h
end Go.Abs.Safe
set_option linter.unusedVariables false
set_option linter.unusedSimpArgs false
namespace Go.Abs.Safe
open Go Go.Abs Go.Abs.Stk Go.Abs.At Go.Abs.Mac Go.Abs.Chk
inductive ST where
 | int
 | pair (r:Int) (a b:ST)
 | ref (r:Int) (a:ST)
 | fn (r:Int) (φ:Atom→Prop) (a b:ST)
 | bad
def eB (g:Int→Int) (a:Atom):Atom:=if a.kind=3 then a else {a with rho:=g a.rho}
def bG (g:Int→Int) (e:List Atom):Atom→Prop:=fun x=>∃b,Has e b∧x=eB g b
def uZ (k r:Int) (φ:Atom→Prop) (l:List ST):ST:=
 if k=1 then .int else match l with
  | [a]=>if k=3 then .ref r a else .bad
  | [a,b]=>if k=2 then .pair r a b else if k=4 then .fn r φ a b else .bad
  | _=>.bad
mutual
def cb (g:Int→Int):RT→ST
 | .mk k r e ks=>uZ k (g r) (bG g e) (eN g ks)
def eN (g:Int→Int):List RT→List ST
 | []=>[]
 | t::ts=>cb g t::eN g ts
end
theorem pF {g h:Int→Int} {a:Atom} (he:a.kind≠3→g a.rho=h a.rho):eB g a=eB h a:=by
 unfold eB
 split
 ·rfl
 ·rename_i h3;rw[he h3]
theorem pG {P:Int→Prop} {g h:Int→Int} {e:List Atom} (hi:InE P e) (he:∀x,P x→g x=h x):bG g e=bG h e:=by
 funext x
 refine propext ⟨?_,?_⟩
 ·rintro⟨b,hb,rfl⟩;exact⟨b,hb,pF fun h3=>he _ (hi b hb h3)⟩
 ·rintro⟨b,hb,rfl⟩;exact⟨b,hb,pF fun h3=>(he _ (hi b hb h3)).symm⟩
mutual
theorem gZ {P:Int→Prop} {g h:Int→Int} (he:∀x,P x→g x=h x):∀ {t:RT},InT P t→cb g t=cb h t
 | .mk k r e ks,hi=>by
  by_cases hk:k=1
  ·simp[cb,uZ,hk]
  ·have:=hi hk
   simp only[cb]
   rw[he _ this.1,pG this.2.1 he,nB he this.2.2]
theorem nB {P:Int→Prop} {g h:Int→Int} (he:∀x,P x→g x=h x):∀ {l:List RT},jF P l→eN g l=eN h l
 | [],_=>rfl
 | t::ts,hi=>by simp only[eN];rw[gZ he hi.1,nB he hi.2]
end
theorem xG {g:Int→Int} {e f:List Atom} (h1:bk e f=true) (h2:bk f e=true):bG g e=bG g f:=by
 funext x
 refine propext ⟨?_,?_⟩
 ·rintro⟨b,hb,rfl⟩;exact⟨b,ib h1 hb,rfl⟩
 ·rintro⟨b,hb,rfl⟩;exact⟨b,ib h2 hb,rfl⟩
mutual
theorem gG {g:Int→Int}:∀ {a b:RT},RT.same a b=true→cb g a=cb g b
 | .mk k r e ks,.mk k' r' e' ks',h=>by
  simp only[RT.same,Bool.and_eq_true,decide_eq_true_eq]at h
  obtain⟨⟨⟨rfl,rfl⟩,h1,h2⟩,h3⟩:=h
  simp only[cb]
  rw[xG h1 h2,pI h3]
theorem pI {g:Int→Int}:∀ {l m:List RT},RT.dg l m=true→eN g l=eN g m
 | [],[],_=>rfl
 | a::l,b::m,h=>by
  simp only[RT.dg,Bool.and_eq_true]at h
  simp only[eN]
  rw[gG h.1,pI h.2]
 | [],_::_,h=>by simp[RT.dg]at h
 | _::_,[],h=>by simp[RT.dg]at h
end
theorem ua:∀ {fr to:List Int} {x:Int},dY x fr to=x∨dY x fr to∈to
 | [],to,x=>.inl rfl
 | _::_,[],x=>.inl rfl
 | f::fr,t::to,x=>by
  simp only[dY]
  split
  ·exact .inr (by simp)
  ·rcases ua (fr:=fr) (to:=to) (x:=x) with h | h
   ·exact .inl h
   ·exact .inr (by simp[h])
theorem p7:∀ {fr to:List Int} {x:Int},x∉fr→dY x fr to=x
 | [],to,x,_=>rfl
 | _::_,[],x,_=>rfl
 | f::fr,t::to,x,h=>by
  simp only[dY]
  rw[if_neg (by intro e;exact h (by simp[e]))]
  exact p7 (by intro h';exact h (by simp[h']))
theorem wK:∀ {fr to:List Int} {x:Int},x∈fr→fr.length=to.length→dY x fr to∈to
 | [],to,x,h,_=>by simp at h
 | f::fr,[],x,_,h=>by simp at h
 | f::fr,t::to,x,h,hl=>by
  simp only[dY]
  split
  ·simp
  ·rename_i hn
   have:x∈fr:=by
    rcases List.mem_cons.1 h with h | h
    ·exact absurd h.symm hn
    ·exact h
   exact List.mem_cons_of_mem _ (wK this (by simpa using hl))
theorem xV {fr to:List Int} (hto:∀x∈to,0≤x) {a:Atom} (h:bw a=true):bw (dh fr to a)=true:=by
 unfold dh
 by_cases h3:a.kind=3
 ·rw[if_pos h3];exact h
 ·rw[if_neg h3]
  simp only[bw,h3,if_false,Bool.and_eq_true,Bool.or_eq_true,decide_eq_true_eq]at h⊢
  refine⟨⟨h.1.1,?_⟩,h.2⟩
  rcases ua (fr:=fr) (to:=to) (x:=a.rho) with e | e
  ·rw[e];exact h.1.2
  ·exact hto _ e
theorem p6 (fr to:List Int) (a:Atom):(dh fr to a).kind=a.kind:=by unfold dh;split<;>rfl
theorem qU {g:Int→Int} {fr to:List Int} (hto:∀x∈to,0≤x) {e:List Atom}:bG g (ft fr to e)=bG (fun x=>g (dY x fr to)) e:=by
 have key:∀c,eB g (dh fr to c)=eB (fun x=>g (dY x fr to)) c:=by
  intro c
  unfold eB
  rw[p6]
  split
  ·rename_i h;simp[dh,h]
  ·rename_i h;simp[dh,h]
 funext x
 refine propext ⟨?_,?_⟩
 ·rintro⟨b,hb,rfl⟩
  obtain⟨c,hc,rfl,_⟩:=o5.1 hb
  exact⟨c,hc,key c⟩
 ·rintro⟨c,hc,rfl⟩
  exact⟨dh fr to c,o5.2 ⟨c,hc,rfl,xV hto hc.2⟩,(key c).symm⟩
mutual
theorem m9 {g:Int→Int} {fr to:List Int} (hto:∀x∈to,0≤x):∀ {t:RT},cb g (swapT fr to t)=cb (fun x=>g (dY x fr to)) t
 | .mk k r e ks=>by
  by_cases hk:k=1
  ·simp[swapT,cb,uZ,hk]
  ·simp only[swapT,if_neg hk,cb]
   rw[qU hto,pJ hto]
theorem pJ {g:Int→Int} {fr to:List Int} (hto:∀x∈to,0≤x):∀ {l:List RT},eN g (cE fr to l)=eN (fun x=>g (dY x fr to)) l
 | []=>rfl
 | t::ts=>by simp only[cE,eN];rw[m9 hto,pJ hto]
end
theorem InE.swap {P Q:Int→Prop} {fr to:List Int} (h:∀x,P x→Q (dY x fr to)) {e:List Atom} (hi:InE P e):InE Q (ft fr to e):=by
 intro b hb h3
 obtain⟨c,hc,rfl,_⟩:=o5.1 hb
 rw[p6]at h3
 have:(dh fr to c).rho=dY c.rho fr to:=by unfold dh;rw[if_neg h3]
 rw[this]
 exact h _ (hi c hc h3)
mutual
theorem InT.swap {P Q:Int→Prop} {fr to:List Int} (h:∀x,P x→Q (dY x fr to)):∀ {t:RT},InT P t→InT Q (swapT fr to t)
 | .mk k r e ks,hi=>by
  by_cases hk:k=1
  ·simp only[swapT,if_pos hk];exact fun h=>(h hk).elim
  ·have:=hi hk
   simp only[swapT,if_neg hk]
   exact fun _=>⟨h _ this.1,InE.swap h this.2.1,jF.swap h this.2.2⟩
theorem jF.swap {P Q:Int→Prop} {fr to:List Int} (h:∀x,P x→Q (dY x fr to)):∀ {l:List RT},jF P l→jF Q (cE fr to l)
 | [],_=>trivial
 | t::ts,hi=>⟨InT.swap h hi.1,jF.swap h hi.2⟩
end
theorem dL {g:Int→Int} {e f:List Atom} (h:∀b,Has e b→Has f b) {x:Atom} (hx:bG g e x):bG g f x:=by
 obtain⟨b,hb,rfl⟩:=hx;exact⟨b,h b hb,rfl⟩
theorem InE.has {P:Int→Prop} {e f:List Atom} (h:∀b,Has e b→Has f b) (hf:InE P f):InE P e:=fun a ha h3=>hf a (h a ha) h3
theorem cB {t:AT} {rs:List Int} (h:bo t rs=true):(t.h.kind≠17→t.rho∈rs)∧(t.h.kind=18→∀x∈t.aG,x∈rs)∧
 InE (· ∈rs++if t.h.kind=13 then t.aG else []) t.eff∧InT (· ∈rs++if t.h.kind=13 then t.aG else []) t.type∧InT (· ∈rs++if t.h.kind=13 then t.aG else []) t.res:=by
 have e1:(rs++if t.h.kind=13 then t.aG else [])=(if t.h.kind=13 then rs++t.aG else rs):=by split<;>simp
 rw[e1]
 unfold bo at h
 split at h
 ·cases h
 ·rename_i hn
  simp only[Bool.and_eq_true]at h
  have hn1:¬(t.h.kind≠17∧t.rho∉rs):=fun h=>hn (.inl h)
  have hn2:¬(t.h.kind=18∧eX t.aG rs=false):=fun h=>hn (.inr h)
  have hT:=mN [t.type,t.res] []
  refine⟨fun hk=>Classical.byContradiction fun hr=>hn1 ⟨hk,hr⟩,fun hk x hx=> ?_,fun a ha h3=>ky h.1 (qL.2 ⟨a,ha,h3,rfl⟩),hT.1.mono fun x hx=>ky h.2 hx,hT.2.1.mono fun x hx=>ky h.2 hx⟩
  cases hi:eX t.aG rs with
  | true=>exact ky hi hx
  | false=>exact absurd ⟨hk,hi⟩ hn2
structure FQ (rs:List Int):Prop where
 zero:(0:Int)∈rs
 pos:∀x∈rs,(0:Int)≤x
def BIn (rs:List Int) (b:Bd):Prop:=
 (b.fn=false→InT (· ∈rs) b.t)∧(b.fn=true→b.f.rho∈rs∧InT (· ∈rs++b.f.aG) b.f.type∧InT (· ∈rs++b.f.aG) b.f.res∧InE (· ∈rs++b.f.aG) b.f.eff)
def GIn (rs:List Int) (Γ:List Bd):Prop:=∀b∈Γ,BIn rs b
theorem jX {env:List Bd} {nm:ByteArray} {b:Bd} (h:gh env nm=some b):b∈env:=List.mem_reverse.1 (List.mem_of_find?_eq_some h)
theorem GIn.add {rs:List Int} {Γ:List Bd} (h:GIn rs Γ) {b:Bd} (hb:BIn rs b):GIn rs (Γ++ [b]):=fun x hx=>by
 rcases List.mem_append.1 hx with hx | hx
 ·exact h x hx
 ·rw[List.mem_singleton.1 hx];exact hb
theorem BIn.mono {rs rs':List Int} {b:Bd} (h:BIn rs b) (hs:∀x∈rs,x∈rs'):BIn rs' b:=
 ⟨fun hb=>(h.1 hb).mono hs,fun hb=>by
  obtain⟨h1,h2,h3,h4⟩:=h.2 hb
  have:∀x,x∈rs++b.f.aG→x∈rs'++b.f.aG:=fun x hx=>by
   rcases List.mem_append.1 hx with hx | hx
   ·exact List.mem_append_left _ (hs x hx)
   ·exact List.mem_append_right _ hx
  exact⟨hs _ h1,h2.mono this,h3.mono this,h4.mono this⟩⟩
theorem GIn.mono {rs rs':List Int} {Γ:List Bd} (h:GIn rs Γ) (hs:∀x∈rs,x∈rs'):GIn rs' Γ:=fun b hb=>(h b hb).mono hs
theorem Av {P:Int→Prop} (h:P 0):InT P bW:=fun _=>⟨h,fun a ha=>by simp[Has]at ha,trivial⟩
theorem InT.aO {P:Int→Prop} {t:RT} (h:InT P t) (h0:P 0) (hk:t.kind≠1) (i:Nat):InT P (Chk.aO t i):=by
 by_cases hi:i<t.kids.length
 ·exact h.kid hk i hi
 ·unfold Chk.aO
  rw[List.getElem?_eq_none (by omega)]
  exact Av h0
theorem uB {rs:List Int} {nm:ByteArray} {t:RT} (h:InT (· ∈rs) t):BIn rs (fR nm t):=⟨fun _=>h,fun h=>by simp at h⟩
theorem GH {rs:List Int} {t:AT} (hr:bo t rs=true) (hk:t.h.kind=13):BIn rs (jD t):=by
 obtain⟨h1,_,h2,h3,h4⟩:=cB hr
 rw[if_pos hk]at h2 h3 h4
 exact⟨fun h=>by simp at h,fun _=>⟨h1 (by omega),h3,h4,h2⟩⟩
theorem eG {P:Int→Prop} {e:List Atom} (h:InE P e):InE P (ofA e):=h.has fun b hb=>b8.1 hb
theorem cH {P:Int→Prop} {e f:List Atom} (h:InE P e) (h':InE P f):InE P (e++f):=fun a ha h3=>by
 rcases bz.1 ha with ha | ha
 ·exact h a ha h3
 ·exact h' a ha h3
theorem eY {P:Int→Prop} {a:Atom} (h:a.kind≠3→P a.rho):InE P [a]:=fun b hb h3=>by obtain⟨rfl,_⟩:=fP.1 hb;exact h h3
theorem Ty.s8 {Γ rs t T E} (h:Ty Γ rs t T E):GIn rs Γ→(0:Int)∈rs→InT (· ∈rs) T∧InE (· ∈rs) E:=by
 induction h with
 | num hr hk=>exact fun _ _=>⟨pw _,fun a ha=>by simp[Has]at ha⟩
 | var hr hk hf hb=>exact fun hG _=>⟨(hG _ (jX hf)).1 hb,fun a ha=>by simp[Has]at ha⟩
 | @inst Γ rs t b hr hk hf hb hl hw=>
  intro hG hR
  obtain⟨h1,h2,h3,_⟩:=cB hr
  rw[if_neg (by omega),List.append_nil]at h3
  obtain⟨g1,g2,g3,g4⟩:=(hG _ (jX hf)).2 hb
  have key:∀x,x∈rs++b.f.aG→dY x b.f.aG t.aG∈rs:=fun x hx=>by
   by_cases hxf:x∈b.f.aG
   ·exact h2 hk _ (wK hxf hl)
   ·rw[p7 hxf]
    rcases List.mem_append.1 hx with hx | hx
    ·exact hx
    ·exact absurd hx hxf
  refine⟨fun _=>⟨h1 (by omega),h3,g2.swap key,g3.swap key,trivial⟩,eG ?_⟩
  exact cH (e:=[_]) (eY fun _=>g1) (eY fun _=>h1 (by omega))
 | @pair Γ rs t a e0 b e1 hr hk h0 h1 ih0 ih1=>
  intro hG hR
  have i0:=ih0 hG hR
  have i1:=ih1 hG hR
  have:=(cB hr).1 (by omega)
  exact⟨fun _=>⟨this,fun a ha=>by simp[Has]at ha,i0.1,i1.1,trivial⟩,eG (cH (cH i0.2 i1.2) (eY fun _=>this))⟩
 | @proj Γ rs t a e0 hr hk h0 ha ih0=>
  intro hG hR
  have i0:=ih0 hG hR
  exact⟨i0.1.aO hR (by omega) _,eG (cH i0.2 (eY fun _=>i0.1.rho (by omega)))⟩
 | @ref Γ rs t a e0 hr hk h0 ih0=>
  intro hG hR
  have i0:=ih0 hG hR
  have:=(cB hr).1 (by omega)
  exact⟨fun _=>⟨this,fun a ha=>by simp[Has]at ha,i0.1,trivial⟩,eG (cH i0.2 (eY fun _=>this))⟩
 | @get Γ rs t a e0 hr hk h0 ha ih0=>
  intro hG hR
  have i0:=ih0 hG hR
  exact⟨i0.1.aO hR (by omega) _,eG (cH i0.2 (eY fun _=>i0.1.rho (by omega)))⟩
 | @set Γ rs t a e0 b e1 hr hk h0 h1 ha hsm ih0 ih1=>
  intro hG hR
  have i0:=ih0 hG hR
  have i1:=ih1 hG hR
  exact⟨pw _,eG (cH (cH i0.2 i1.2) (eY fun _=>i0.1.rho (by omega)))⟩
 | @op Γ rs t a e0 b e1 hr hk h0 h1 ha hb ih0 ih1=>exact fun hG hR=>⟨pw _,eG (cH (ih0 hG hR).2 (ih1 hG hR).2)⟩
 | @app Γ rs t a e0 b e1 hr hk h0 h1 ha hsm ih0 ih1=>
  intro hG hR
  have i0:=ih0 hG hR
  have i1:=ih1 hG hR
  exact⟨i0.1.aO hR (by omega) _,eG (cH (cH (cH i0.2 i1.2) (eY fun _=>i0.1.rho (by omega))) (i0.1.eff (by omega)))⟩
 | @fn Γ rs t a e0 hr hk h0 hw ih0=>
  intro hG hR
  obtain⟨h1,_,h2,h3,_⟩:=cB hr
  rw[if_neg (by omega),List.append_nil]at h2 h3
  have i0:=ih0 (hG.add (uB h3)) hR
  exact⟨fun _=>⟨h1 (by omega),h2,h3,i0.1,trivial⟩,eG (eY fun _=>h1 (by omega))⟩
 | @let_ Γ rs t a e0 b e1 hr hk h0 h1 ih0 ih1=>
  intro hG hR
  have i0:=ih0 hG hR
  have i1:=ih1 (hG.add (uB i0.1)) hR
  exact⟨i1.1,eG (cH i0.2 i1.2)⟩
 | @letrec Γ rs t a e0 b e1 hr hk h0 hsm hw h1 ih0 ih1=>
  intro hG hR
  have i1:=ih1 (hG.add (GH hr hk)) hR
  exact⟨i1.1,eG (cH (e:=[_]) (eY fun _=>(cB hr).1 (by omega)) i1.2)⟩
 | @if_ Γ rs t a e0 b e1 c e2 hr hk h0 h1 h2 ha hsm ih0 ih1 ih2=>
  exact fun hG hR=>⟨(ih1 hG hR).1,eG (cH (cH (ih0 hG hR).2 (ih1 hG hR).2) (ih2 hG hR).2)⟩
 | @raise Γ rs t a e0 hr hk h0 ha ih0=>
  intro hG hR
  have h3:=(cB hr).2.2.2.1
  rw[if_neg (by omega),List.append_nil]at h3
  exact⟨h3,eG (cH (ih0 hG hR).2 (eY fun h=>absurd rfl h))⟩
 | @try_ Γ rs t a e0 b e1 hr hk h0 h1 hsm ih0 ih1=>
  intro hG hR
  exact⟨(ih0 hG hR).1,eG (cH ((ih0 hG hR).2.has fun b hb=>(eJ.1 hb).1) (ih1 (hG.add (uB (pw _))) hR).2)⟩
 | @region Γ rs t a e0 hr hk h0 hn ih0=>
  intro hG hR
  have i0:=ih0 (hG.mono fun x hx=>by simp[hx]) (by simp[hR])
  have:∀x,x∈rs++ [t.rho]→x≠t.rho→x∈rs:=fun x hx hne=>by
   rcases List.mem_append.1 hx with hx | hx
   ·exact hx
   ·exact absurd (List.mem_singleton.1 hx) hne
  refine⟨InT.and (fun x hx hx'=>this x hx fun e=>hn (by rw[←e];exact hx')) i0.1 (s5 a []),eG fun b hb h3=> ?_⟩
  obtain⟨hb,hb'⟩:=ny.1 hb
  refine this _ (i0.2 b hb h3) fun e=> ?_
  rcases hb' with hb' | hb'
  ·exact h3 hb'
  ·exact hb' (by simp[e])
end Go.Abs.Safe
