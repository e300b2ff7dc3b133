import Derived.Test.YtjilebpcaemopaaGreatDoorChkM
import Derived.Test.YtjilebpcaemopaaGreatDoorMacH
set_option linter.unusedVariables false
set_option linter.unusedSimpArgs false
namespace Go.Abs.Safe
open Go Go.Abs Go.Abs.Stk Go.Abs.At Go.Abs.Mac Go.Abs.Chk
theorem y8 {a b:Atom} {l:List Atom}:b∈eE a l↔b=a∨b∈l:=by
 induction l with
 | nil=>simp[eE]
 | cons x l ih=>
  simp only[eE]
  split
  ·simp
  ·simp[ih]
   constructor
   ·rintro(h | h | h)<;>simp[h]
   ·rintro(h | h | h)<;>simp[h]
theorem za {e:List Atom} {a b:Atom}:b∈dc e a↔b∈e∨(b=a∧bL a=true):=by
 unfold dc
 split
 ·rename_i h;rw[y8];simp[h.1,or_comm]
 ·rename_i h
  constructor
  ·exact .inl
  ·rintro(h' | ⟨rfl,h'⟩)
   ·exact h'
   ·by_cases hb:b∈e
    ·exact hb
    ·exact absurd ⟨h',hb⟩ h
theorem y7 (p:Atom→Prop) [DecidablePred p] (f:Atom→Atom) {l:List Atom}:∀ {acc:List Atom} {b:Atom},b∈l.foldl (fun o a=>if p a then dc o (f a) else o) acc↔b∈acc∨∃a∈l,p a∧f a=b∧bL b=true:=by
 induction l with
 | nil=>intro acc b;simp
 | cons x l ih=>
  intro acc b
  simp only[List.foldl_cons]
  rw[ih]
  by_cases h:p x
  ·rw[if_pos h,za]
   constructor
   ·rintro((h1 | ⟨rfl,h1⟩) | ⟨a,h1,h2⟩)
    ·exact .inl h1
    ·exact .inr ⟨x,by simp,h,rfl,h1⟩
    ·exact .inr ⟨a,by simp[h1],h2⟩
   ·rintro(h1 | ⟨a,h1,h2,rfl,h4⟩)
    ·exact .inl (.inl h1)
    ·rcases List.mem_cons.1 h1 with rfl | h1
     ·exact .inl (.inr ⟨rfl,h4⟩)
     ·exact .inr ⟨a,h1,h2,rfl,h4⟩
  ·rw[if_neg h]
   constructor
   ·rintro(h1 | ⟨a,h1,h2⟩)
    ·exact .inl h1
    ·exact .inr ⟨a,by simp[h1],h2⟩
   ·rintro(h1 | ⟨a,h1,h2,h3⟩)
    ·exact .inl h1
    ·rcases List.mem_cons.1 h1 with rfl | h1
     ·exact absurd h2 h
     ·exact .inr ⟨a,h1,h2,h3⟩
def Has (e:List Atom) (b:Atom):Prop:=b∈e∧bL b=true
def InE (P:Int→Prop) (e:List Atom):Prop:=∀a,Has e a→a.kind≠3→P a.rho
mutual
def InT (P:Int→Prop):RT→Prop
 | .mk k r e ks=>k≠1→P r∧InE P e∧lU P ks
def lU (P:Int→Prop):List RT→Prop
 | []=>True
 | t::ts=>InT P t∧lU P ts
end
theorem xX {P:Int→Prop} {l:List RT}:lU P l↔∀t∈l,InT P t:=by
 induction l with
 | nil=>simp[lU]
 | cons t l ih=>simp[lU,ih]
mutual
theorem InT.and {P Q R:Int→Prop} (h:∀x,P x→Q x→R x):∀ {t:RT},InT P t→InT Q t→InT R t
 | .mk k r e ks,h1,h2=>fun hk=>⟨h _ (h1 hk).1 (h2 hk).1,fun a ha h3=>h _ ((h1 hk).2.1 a ha h3) ((h2 hk).2.1 a ha h3),lU.and h (h1 hk).2.2 (h2 hk).2.2⟩
theorem lU.and {P Q R:Int→Prop} (h:∀x,P x→Q x→R x):∀ {l:List RT},lU P l→lU Q l→lU R l
 | [],_,_=>trivial
 | t::ts,h1,h2=>⟨InT.and h h1.1 h2.1,lU.and h h1.2 h2.2⟩
end
theorem InT.mono {P R:Int→Prop} (h:∀x,P x→R x) {t:RT} (h1:InT P t):InT R t:=InT.and (fun x hx _=>h x hx) h1 h1
theorem InE.mono {P R:Int→Prop} (h:∀x,P x→R x) {e:List Atom} (h1:InE P e):InE R e:=fun a ha h3=>h _ (h1 a ha h3)
theorem InT.kid {P:Int→Prop} {t:RT} (h:InT P t) (hk:t.kind≠1) (i:Nat) (hi:i<t.kids.length):InT P (Chk.aS t i):=by
 obtain⟨k,r,e,ks⟩:=t
 refine xX.1 (h hk).2.2 _ ?_
 unfold Chk.aS
 simp only[RT.kids]at hi⊢
 rw[List.getElem?_eq_getElem hi]
 exact List.getElem_mem hi
theorem InT.rho {P:Int→Prop} {t:RT} (h:InT P t) (hk:t.kind≠1):P t.rho:=by obtain⟨k,r,e,ks⟩:=t;exact(h hk).1
theorem InT.eff {P:Int→Prop} {t:RT} (h:InT P t) (hk:t.kind≠1):InE P t.eff:=by obtain⟨k,r,e,ks⟩:=t;exact(h hk).2.1
theorem y9 {n m:Int} {l:List Int}:m∈jf n l↔m=n∨m∈l:=by
 induction l with
 | nil=>simp[jf]
 | cons x l ih=>
  simp only[jf]
  split
  ·simp
  ·simp[ih]
   constructor
   ·rintro(h | h | h)<;>simp[h]
   ·rintro(h | h | h)<;>simp[h]
theorem lz {l:List Int} {n m:Int}:m∈dF l n↔m=n∨m∈l:=by
 unfold dF
 split
 ·rename_i h
  constructor
  ·exact .inr
  ·rintro(rfl | h')
   ·exact h
   ·exact h'
 ·exact y9
theorem mi {l:List Int}:∀ {o:List Int} {m:Int},m∈l.foldl dF o↔m∈l∨m∈o:=by
 induction l with
 | nil=>intro o m;simp
 | cons x l ih=>
  intro o m
  simp only[List.foldl_cons,ih,lz,List.mem_cons]
  constructor
  ·rintro(h | h | h)<;>simp[h]
  ·rintro((h | h) | h)<;>simp[h]
theorem qc {e:List Atom} {m:Int}:m∈cL e↔∃a,Has e a∧a.kind≠3∧a.rho=m:=by
 have:∀(e:List Atom) (o:List Int),m∈e.foldl (fun o a=>if bL a=true∧a.kind≠3 then dF o a.rho else o) o↔m∈o∨∃a,Has e a∧a.kind≠3∧a.rho=m:=by
  intro e
  induction e with
  | nil=>intro o;simp[Has]
  | cons x e ih=>
   intro o
   simp only[List.foldl_cons,ih]
   by_cases h:bL x=true∧x.kind≠3
   ·rw[if_pos h,lz]
    constructor
    ·rintro((h1 | h1) | ⟨a,h1,h2⟩)
     ·exact .inr ⟨x,⟨by simp,h.1⟩,h.2,h1.symm⟩
     ·exact .inl h1
     ·exact .inr ⟨a,⟨by simp[h1.1],h1.2⟩,h2⟩
    ·rintro(h1 | ⟨a,⟨h1,h1'⟩,h2,h3⟩)
     ·exact .inl (.inr h1)
     ·rcases List.mem_cons.1 h1 with rfl | h1
      ·exact .inl (.inl h3.symm)
      ·exact .inr ⟨a,⟨h1,h1'⟩,h2,h3⟩
   ·rw[if_neg h]
    constructor
    ·rintro(h1 | ⟨a,h1,h2⟩)
     ·exact .inl h1
     ·exact .inr ⟨a,⟨by simp[h1.1],h1.2⟩,h2⟩
    ·rintro(h1 | ⟨a,⟨h1,h1'⟩,h2,h3⟩)
     ·exact .inl h1
     ·rcases List.mem_cons.1 h1 with rfl | h1
      ·exact absurd ⟨h1',h2⟩ h
      ·exact .inr ⟨a,⟨h1,h1'⟩,h2,h3⟩
 have:=this e []
 unfold cL
 rw[this];simp
mutual
theorem xu:∀(t:RT) (o:List Int) (x:Int),x∈o→x∈eI o t
 | .mk k r e ks,o,x,h=>by
  simp only[eI]
  refine gw ks _ x ?_
  split
  ·exact h
  ·exact mi.2 (.inr (lz.2 (.inr h)))
theorem gw:∀(l:List RT) (o:List Int) (x:Int),x∈o→x∈cE o l
 | [],o,x,h=>h
 | t::ts,o,x,h=>by simp only[cE];exact gw ts _ x (xu t o x h)
end
mutual
theorem yR:∀(t:RT) (o:List Int),InT (· ∈eI o t) t
 | .mk k r e ks,o=>fun hk=>by
  simp only[eI,if_neg hk]
  refine⟨gw _ _ _ (mi.2 (.inr (lz.2 (.inl rfl)))),fun a ha h3=>gw _ _ _ (mi.2 (.inl (qc.2 ⟨a,ha,h3,rfl⟩))),mb ks _⟩
theorem mb:∀(l:List RT) (o:List Int),lU (· ∈cE o l) l
 | [],o=>trivial
 | t::ts,o=>⟨by
  simp only[cE]
  exact(yR t o).mono fun x hx=>gw ts _ x hx,by simp only[cE];exact mb ts _⟩
end
theorem jP {l rs:List Int} (h:eD l rs=true) {x:Int} (hx:x∈l):x∈rs:=by simpa using List.all_eq_true.1 h x hx
abbrev jF (nm:ByteArray) (t:RT):Bd:=⟨nm,t,false,fE⟩
abbrev sX (t:AT):Bd:=⟨t.h.name,bU,true,t⟩
inductive Ty:List Bd→List Int→AT→RT→List Atom→Prop
 | num {Γ rs t} (hr:bt t rs=true) (hk:t.h.kind=1):Ty Γ rs t one []
 | var {Γ rs t b} (hr:bt t rs=true) (hk:t.h.kind=2) (hf:fH Γ t.h.name=some b) (hb:b.fn=false):Ty Γ rs t b.t []
 | inst {Γ rs t b} (hr:bt t rs=true) (hk:t.h.kind=18) (hf:fH Γ t.h.name=some b) (hb:b.fn=true) (hl:b.f.aH.length=t.aH.length) (hw:bx (gA b.f.aH t.aH b.f.eff) t.eff=true):
  Ty Γ rs t (.mk 4 t.rho t.eff [swapT b.f.aH t.aH b.f.type,swapT b.f.aH t.aH b.f.res]) (ofA [fL b.f.rho,putAt t.rho])
 | pair {Γ rs t a e0 b e1} (hr:bt t rs=true) (hk:t.h.kind=3) (h0:Ty Γ rs (aB t 0) a e0) (h1:Ty Γ rs (aB t 1) b e1):Ty Γ rs t (.mk 2 t.rho [] [a,b]) (ofA (e0++e1++ [putAt t.rho]))
 | proj {Γ rs t a e0} (hr:bt t rs=true) (hk:t.h.kind=4∨t.h.kind=5) (h0:Ty Γ rs (aB t 0) a e0) (ha:a.kind=2):Ty Γ rs t (Chk.aS a (t.h.kind - 4).toNat) (ofA (e0++ [fL a.rho]))
 | ref {Γ rs t a e0} (hr:bt t rs=true) (hk:t.h.kind=6) (h0:Ty Γ rs (aB t 0) a e0):Ty Γ rs t (.mk 3 t.rho [] [a]) (ofA (e0++ [putAt t.rho]))
 | get {Γ rs t a e0} (hr:bt t rs=true) (hk:t.h.kind=7) (h0:Ty Γ rs (aB t 0) a e0) (ha:a.kind=3):Ty Γ rs t (Chk.aS a 0) (ofA (e0++ [fL a.rho]))
 | set {Γ rs t a e0 b e1} (hr:bt t rs=true) (hk:t.h.kind=8) (h0:Ty Γ rs (aB t 0) a e0) (h1:Ty Γ rs (aB t 1) b e1) (ha:a.kind=3) (hs:RT.same (Chk.aS a 0) b=true):Ty Γ rs t one (ofA (e0++e1++ [putAt a.rho]))
 | op {Γ rs t a e0 b e1} (hr:bt t rs=true) (hk:t.h.kind=9) (h0:Ty Γ rs (aB t 0) a e0) (h1:Ty Γ rs (aB t 1) b e1) (ha:a.kind=1) (hb:b.kind=1):Ty Γ rs t one (ofA (e0++e1))
 | app {Γ rs t a e0 b e1} (hr:bt t rs=true) (hk:t.h.kind=10) (h0:Ty Γ rs (aB t 0) a e0) (h1:Ty Γ rs (aB t 1) b e1) (ha:a.kind=4) (hs:RT.same (Chk.aS a 0) b=true):Ty Γ rs t (Chk.aS a 1) (ofA (e0++e1++ [fL a.rho]++a.eff))
 | fn {Γ rs t a e0} (hr:bt t rs=true) (hk:t.h.kind=11) (h0:Ty (Γ++ [jF t.h.arg t.type]) rs (aB t 0) a e0) (hw:bx e0 t.eff=true):Ty Γ rs t (.mk 4 t.rho t.eff [t.type,a]) (ofA [putAt t.rho])
 | let_ {Γ rs t a e0 b e1} (hr:bt t rs=true) (hk:t.h.kind=12) (h0:Ty Γ rs (aB t 0) a e0) (h1:Ty (Γ++ [jF t.h.name a]) rs (aB t 1) b e1):Ty Γ rs t b (ofA (e0++e1))
 | letrec {Γ rs t a e0 b e1} (hr:bt t rs=true) (hk:t.h.kind=13) (h0:Ty ((Γ++ [sX t])++ [jF t.h.arg t.type]) (rs++t.aH) (aB t 0) a e0) (hs:RT.same a t.res=true) (hw:bx e0 t.eff=true)
  (h1:Ty (Γ++ [sX t]) rs (aB t 1) b e1):Ty Γ rs t b (ofA (putAt t.rho::e1))
 | if_ {Γ rs t a e0 b e1 c e2} (hr:bt t rs=true) (hk:t.h.kind=14) (h0:Ty Γ rs (aB t 0) a e0) (h1:Ty Γ rs (aB t 1) b e1) (h2:Ty Γ rs (aB t 2) c e2) (ha:a.kind=1) (hs:RT.same b c=true):Ty Γ rs t b (ofA (e0++e1++e2))
 | raise {Γ rs t a e0} (hr:bt t rs=true) (hk:t.h.kind=15) (h0:Ty Γ rs (aB t 0) a e0) (ha:a.kind=1):Ty Γ rs t t.type (ofA (e0++ [sq t.h.exn]))
 | try_ {Γ rs t a e0 b e1} (hr:bt t rs=true) (hk:t.h.kind=16) (h0:Ty Γ rs (aB t 0) a e0) (h1:Ty (Γ++ [jF t.h.arg one]) rs (aB t 1) b e1) (hs:RT.same a b=true):Ty Γ rs t a (ofA (eC e0 [t.h.exn]++e1))
 | region {Γ rs t a e0} (hr:bt t rs=true) (hk:t.h.kind=17) (h0:Ty Γ (rs++ [t.rho]) (aB t 0) a e0) (hn:t.rho∉eI [] a):Ty Γ rs t a (ofA (fo e0 [t.rho]))
theorem dQ {f:List Bd→List Int→AT→Rr} {Γ:List Bd} {rs:List Int} {t c:AT} {cs:List AT} {k r:List Rr} (h:Chk.bo f Γ rs t (c::cs) k= .inr r):
 (f (aU Γ rs t k.length k).1 (aU Γ rs t k.length k).2 c).no=0∧Chk.bo f Γ rs t cs (k++ [f (aU Γ rs t k.length k).1 (aU Γ rs t k.length k).2 c])= .inr r:=by
 simp only[Chk.bo]at h
 split at h
 ·cases h
 ·rename_i h0;exact⟨by simpa using h0,h⟩
theorem ti {t:AT} {k:List Rr} (h:(jJ t k).no=0):(dy t k).1=true∧(dy t k).2.1=true∧(jJ t k).t=(dy t k).2.2.1∧(jJ t k).e=ofA (dy t k).2.2.2:=by
 unfold jJ at h⊢
 generalize dy t k=q at h⊢
 obtain⟨a,b,c,d⟩:=q
 cases a
 ·simp[bad]at h
 ·cases b
  ·simp[bad]at h
  ·simp
theorem yY {t:AT} (h:t.kids.length=1):t.kids= [aB t 0]:=by
 obtain⟨a,ha⟩:=List.length_eq_one_iff.1 h
 simp[aB,ha]
theorem yZ {t:AT} (h:t.kids.length=2):t.kids= [aB t 0,aB t 1]:=by
 unfold aB
 generalize t.kids=l at h⊢
 match l,h with
 | [a,b],_=>rfl
theorem y3 {t:AT} (h:t.kids.length=3):t.kids= [aB t 0,aB t 1,aB t 2]:=by
 unfold aB
 generalize t.kids=l at h⊢
 match l,h with
 | [a,b,c],_=>rfl
theorem ml {k:Int} (h:1≤k∧k≤18):(nk k=0∧(k=1∨k=2∨k=18))∨(nk k=1∧(k=4∨k=5∨k=6∨k=7∨k=11∨k=15∨k=17))∨(nk k=2∧(k=3∨k=8∨k=9∨k=10∨k=12∨k=13∨k=16))∨(nk k=3∧k=14):=by
 unfold nk
 split
 ·omega
 ·split
  ·omega
  ·split<;>omega
theorem FW {t:AT} {r:Rr} (h:(jt t r).no=0):jt t r=r:=by
 unfold jt at h⊢
 split
 ·rename_i h1;rw[if_pos h1]at h;simp[bad]at h
 ·rfl
theorem yJ (d:Nat) (ih:∀Γ rs t,Wf t→(fdM d Γ rs t).no=0→Ty Γ rs t (fdM d Γ rs t).t (fdM d Γ rs t).e) {Γ:List Bd} {rs:List Int} {t:AT} (hw:Wf t) (h:(cY (fdM d) Γ rs t).no=0):Ty Γ rs t (cY (fdM d) Γ rs t).t (cY (fdM d) Γ rs t).e:=by
 unfold cY at h⊢
 cases hr:bt t rs with
 | false=>rw[hr,if_pos rfl]at h;simp[bad]at h
 | true=>
  rw[hr]at h
  simp only[Bool.true_eq_false,if_false]at h⊢
  by_cases c2:t.h.kind=2∨t.h.kind=18
  ·rw[if_pos c2]at h⊢
   unfold nj at h⊢
   cases hf:fH Γ t.h.name with
   | none=>rw[hf]at h;simp[bad]at h
   | some b=>
    rw[hf]at h
    simp only at h⊢
    by_cases c:t.h.kind=2
    ·rw[if_pos c]at h⊢
     cases hb:b.fn with
     | true=>rw[hb]at h;simp[bad]at h
     | false=>simp only[hb,Bool.false_eq_true,if_false];exact .var hr c hf hb
    ·rw[if_neg c]at h⊢
     by_cases c3:b.fn=false∨b.f.aH.length≠t.aH.length
     ·rw[if_pos c3]at h;simp[bad]at h
     ·rw[if_neg c3]at h⊢
      cases hww:bx (gA b.f.aH t.aH b.f.eff) t.eff with
      | false=>rw[hww,if_pos rfl]at h;simp[bad]at h
      | true=>
       simp only[Bool.true_eq_false,if_false]
       refine .inst hr (by omega) hf ?_ (by omega) hww
       cases hb:b.fn
       ·exact absurd (.inl hb) c3
       ·rfl
  ·rw[if_neg c2]at h⊢
   cases hk:Chk.bo (fdM d) Γ rs t t.kids [] with
   | inl r=>
    rw[hk]at h
    simp only at h
    have:∀cs k,Chk.bo (fdM d) Γ rs t cs k= .inl r→r.no≠0:=by
     intro cs
     induction cs with
     | nil=>intro k h;simp[Chk.bo]at h
     | cons c cs ih=>
      intro k h
      simp only[Chk.bo]at h
      split at h
      ·rename_i h1;cases h;exact h1
      ·exact ih _ h
    exact absurd h (this _ _ hk)
   | inr k=>
    rw[hk]at h
    simp only at h⊢
    obtain⟨r1,r2,r3,r4⟩:=ti h
    rw[r3,r4]
    have hlen:=hw.len
    have hwk:∀i,i<nk t.h.kind→Wf (aB t i):=fun i hi=>hw.kid hi
    have hkd:=hw.kind
    by_cases n0:nk t.h.kind=0
    ·rw[n0]at hlen
     have hk0:=List.length_eq_zero_iff.1 hlen
     rw[hk0]at hk
     simp[Chk.bo]at hk
     subst hk
     have c1:t.h.kind=1:=by have:=ml hkd;omega
     have e:dy t []=(true,true,one,[]):=by unfold dy;simp[c1]
     rw[e]
     exact .num hr c1
    by_cases n1:nk t.h.kind=1
    ·rw[n1]at hlen hwk
     rw[yY hlen]at hk
     obtain⟨k1,hk⟩:=dQ hk
     simp only[Chk.bo,List.nil_append,Sum.inr.injEq,List.length_nil]at hk k1
     have T0:=ih _ _ _ (hwk 0 (by omega)) k1
     rw[←hk]at r1 r2⊢
     generalize fdM d (aU Γ rs t 0 []).1 (aU Γ rs t 0 []).2 (aB t 0)=R at r1 r2 T0⊢
     have hE:[R].flatMap Rr.e=R.e:=by simp
     have hR:r0 [R] 0=R:=rfl
     unfold dy at r1 r2⊢
     rw[hE,hR]at r1 r2⊢
     have cs:t.h.kind=4∨t.h.kind=5∨t.h.kind=6∨t.h.kind=7∨t.h.kind=11∨t.h.kind=15∨t.h.kind=17:=by have:=ml hkd;omega
     rcases cs with c | c | c | c | c | c | c
     ·have ei:aU Γ rs t 0 []=(Γ,rs):=by unfold aU;simp[c]
      rw[ei]at T0
      simp only[c]at r1 r2⊢
      by_cases ca:R.t.kind=2
      ·simp[ca];have:=Ty.proj hr (.inl c) T0 ca;rw[c]at this;exact this
      ·simp[ca]at r1
     ·have ei:aU Γ rs t 0 []=(Γ,rs):=by unfold aU;simp[c]
      rw[ei]at T0
      simp only[c]at r1 r2⊢
      by_cases ca:R.t.kind=2
      ·simp[ca];have:=Ty.proj hr (.inr c) T0 ca;rw[c]at this;exact this
      ·simp[ca]at r1
     ·have ei:aU Γ rs t 0 []=(Γ,rs):=by unfold aU;simp[c]
      rw[ei]at T0
      simp[c]
      exact .ref hr c T0
     ·have ei:aU Γ rs t 0 []=(Γ,rs):=by unfold aU;simp[c]
      rw[ei]at T0
      simp only[c]at r1 r2⊢
      by_cases ca:R.t.kind=3
      ·simp[ca];exact .get hr c T0 ca
      ·simp[ca]at r1
     ·have ei:aU Γ rs t 0 []=(Γ++ [jF t.h.arg t.type],rs):=by unfold aU;simp[c]
      rw[ei]at T0
      simp[c]at r2⊢
      exact .fn hr c T0 r2
     ·have ei:aU Γ rs t 0 []=(Γ,rs):=by unfold aU;simp[c]
      rw[ei]at T0
      simp[c]at r1⊢
      exact .raise hr c T0 r1
     ·have ei:aU Γ rs t 0 []=(Γ,rs++ [t.rho]):=by unfold aU;simp[c]
      rw[ei]at T0
      simp[c]at r2⊢
      exact .region hr c T0 r2
    by_cases n2:nk t.h.kind=2
    ·rw[n2]at hlen hwk
     rw[yZ hlen]at hk
     obtain⟨k1,hk⟩:=dQ hk
     obtain⟨k2,hk⟩:=dQ hk
     simp only[Chk.bo,List.nil_append,Sum.inr.injEq,List.length_nil,List.length_cons,List.cons_append]at hk k1 k2
     have T0:=ih _ _ _ (hwk 0 (by omega)) k1
     have T1:=ih _ _ _ (hwk 1 (by omega)) k2
     rw[←hk]at r1 r2⊢
     generalize fdM d (aU Γ rs t 0 []).1 (aU Γ rs t 0 []).2 (aB t 0)=R at r1 r2 T0 T1⊢
     generalize fdM d (aU Γ rs t (0+1) [R]).1 (aU Γ rs t (0+1) [R]).2 (aB t 1)=Q at r1 r2 T1⊢
     have hE:[R,Q].flatMap Rr.e=R.e++Q.e:=by simp
     have hR:r0 [R,Q] 0=R:=rfl
     have hQ:r0 [R,Q] 1=Q:=rfl
     have hR1:r0 [R] 0=R:=rfl
     unfold dy at r1 r2⊢
     rw[hE,hR,hQ]at r1 r2⊢
     have cs:t.h.kind=3∨t.h.kind=8∨t.h.kind=9∨t.h.kind=10∨t.h.kind=12∨t.h.kind=13∨t.h.kind=16:=by have:=ml hkd;omega
     have en:(t.h.kind=3∨t.h.kind=8∨t.h.kind=9∨t.h.kind=10)→aU Γ rs t 0 []=(Γ,rs)∧aU Γ rs t (0+1) [R]=(Γ,rs):=fun c=>by
      unfold aU
      rcases c with c | c | c | c<;>simp[c]
     rcases cs with c | c | c | c | c | c | c
     ·obtain⟨ei,ej⟩:=en (by omega)
      rw[ei]at T0;rw[ej]at T1
      simp[c]
      have:=Ty.pair hr c T0 T1
      simpa using this
     ·obtain⟨ei,ej⟩:=en (by omega)
      rw[ei]at T0;rw[ej]at T1
      simp[c]at r1⊢
      have:=Ty.set hr c T0 T1 r1.1 r1.2
      simpa using this
     ·obtain⟨ei,ej⟩:=en (by omega)
      rw[ei]at T0;rw[ej]at T1
      simp[c]at r1⊢
      exact .op hr c T0 T1 r1.1 r1.2
     ·obtain⟨ei,ej⟩:=en (by omega)
      rw[ei]at T0;rw[ej]at T1
      simp only[c]at r1 r2⊢
      by_cases ca:R.t.kind=4∧RT.same (Chk.aS R.t 0) Q.t=true
      ·simp[ca]
       have:=Ty.app hr c T0 T1 ca.1 ca.2
       simpa using this
      ·simp[ca]at r1
     ·have ei:aU Γ rs t 0 []=(Γ,rs):=by unfold aU;simp[c]
      have ej:aU Γ rs t (0+1) [R]=(Γ++ [jF t.h.name R.t],rs):=by unfold aU;simp[c,hR1]
      rw[ei]at T0;rw[ej]at T1
      simp[c]
      exact .let_ hr c T0 T1
     ·have ei:aU Γ rs t 0 []=((Γ++ [sX t])++ [jF t.h.arg t.type],rs++t.aH):=by unfold aU;simp[c]
      have ej:aU Γ rs t (0+1) [R]=(Γ++ [sX t],rs):=by unfold aU;simp[c]
      rw[ei]at T0;rw[ej]at T1
      simp[c]at r1 r2⊢
      exact .letrec hr c T0 r1 r2 T1
     ·have ei:aU Γ rs t 0 []=(Γ,rs):=by unfold aU;simp[c]
      have ej:aU Γ rs t (0+1) [R]=(Γ++ [jF t.h.arg one],rs):=by unfold aU;simp[c]
      rw[ei]at T0;rw[ej]at T1
      simp[c]at r1⊢
      exact .try_ hr c T0 T1 r1
    have n3:t.h.kind=14:=by have:=ml hkd;omega
    have e3:nk t.h.kind=3:=by rw[n3];rfl
    rw[e3]at hlen hwk
    rw[y3 hlen]at hk
    obtain⟨k1,hk⟩:=dQ hk
    obtain⟨k2,hk⟩:=dQ hk
    obtain⟨k3,hk⟩:=dQ hk
    have en:∀i k,aU Γ rs t i k=(Γ,rs):=fun i k=>by unfold aU;simp[n3]
    simp only[Chk.bo,List.nil_append,Sum.inr.injEq,List.length_nil,List.length_cons,List.cons_append,en]at hk k1 k2 k3
    have T0:=ih _ _ _ (hwk 0 (by omega)) k1
    have T1:=ih _ _ _ (hwk 1 (by omega)) k2
    have T2:=ih _ _ _ (hwk 2 (by omega)) k3
    rw[←hk]at r1 r2⊢
    generalize fdM d Γ rs (aB t 0)=R at r1 r2 T0⊢
    generalize fdM d Γ rs (aB t 1)=Q at r1 r2 T1⊢
    generalize fdM d Γ rs (aB t 2)=P at r1 r2 T2⊢
    have hE:[R,Q,P].flatMap Rr.e=R.e++Q.e++P.e:=by simp
    have hR:r0 [R,Q,P] 0=R:=rfl
    have hQ:r0 [R,Q,P] 1=Q:=rfl
    have hP:r0 [R,Q,P] 2=P:=rfl
    unfold dy at r1 r2⊢
    rw[hE,hR,hQ,hP]at r1 r2⊢
    simp[n3]at r1⊢
    have:=Ty.if_ hr n3 T0 T1 T2 r1.1 r1.2
    simpa using this
theorem yF:∀(d:Nat) Γ rs t,Wf t→(fdM d Γ rs t).no=0→Ty Γ rs t (fdM d Γ rs t).t (fdM d Γ rs t).e
 | 0,Γ,rs,t,hw,h=>by simp[fdM,bad]at h
 | d+1,Γ,rs,t,hw,h=>by
  simp only[fdM]at h⊢
  have e:=FW h
  rw[e]at h⊢
  exact yJ d (yF d) hw h
end Go.Abs.Safe
set_option linter.unusedVariables false
set_option linter.unusedSimpArgs false
namespace Go.Abs.Safe
open Go Go.Abs Go.Abs.Stk Go.Abs.At Go.Abs.Mac Go.Abs.Chk
inductive ST where
 | int
 | pair (r:Int) (a b:ST)
 | ref (r:Int) (a:ST)
 | fn (r:Int) (φ:Atom→Prop) (a b:ST)
 | bad
def C4 (g:Int→Int) (a:Atom):Atom:=if a.kind=3 then a else {a with rho:=g a.rho}
def s8 (g:Int→Int) (e:List Atom):Atom→Prop:=fun x=>∃b,Has e b∧x=C4 g b
def mkST (k r:Int) (φ:Atom→Prop) (l:List ST):ST:=
 if k=1 then .int else match l with
  | [a]=>if k=3 then .ref r a else .bad
  | [a,b]=>if k=2 then .pair r a b else if k=4 then .fn r φ a b else .bad
  | _=>.bad
mutual
def o7 (g:Int→Int):RT→ST
 | .mk k r e ks=>mkST k (g r) (s8 g e) (s9 g ks)
def s9 (g:Int→Int):List RT→List ST
 | []=>[]
 | t::ts=>o7 g t::s9 g ts
end
theorem o5 {g h:Int→Int} {a:Atom} (he:a.kind≠3→g a.rho=h a.rho):C4 g a=C4 h a:=by
 unfold C4
 split
 ·rfl
 ·rename_i h3;rw[he h3]
theorem uG {P:Int→Prop} {g h:Int→Int} {e:List Atom} (hi:InE P e) (he:∀x,P x→g x=h x):s8 g e=s8 h e:=by
 funext x
 refine propext ⟨?_,?_⟩
 ·rintro⟨b,hb,rfl⟩;exact⟨b,hb,o5 fun h3=>he _ (hi b hb h3)⟩
 ·rintro⟨b,hb,rfl⟩;exact⟨b,hb,o5 fun h3=>(he _ (hi b hb h3)).symm⟩
mutual
theorem o8 {P:Int→Prop} {g h:Int→Int} (he:∀x,P x→g x=h x):∀ {t:RT},InT P t→o7 g t=o7 h t
 | .mk k r e ks,hi=>by
  by_cases hk:k=1
  ·simp[o7,mkST,hk]
  ·have:=hi hk
   simp only[o7]
   rw[he _ this.1,uG this.2.1 he,mT he this.2.2]
theorem mT {P:Int→Prop} {g h:Int→Int} (he:∀x,P x→g x=h x):∀ {l:List RT},lU P l→s9 g l=s9 h l
 | [],_=>rfl
 | t::ts,hi=>by simp only[s9];rw[o8 he hi.1,mT he hi.2]
end
theorem InE.has {P:Int→Prop} {e f:List Atom} (h:∀b,Has e b→Has f b) (hf:InE P f):InE P e:=fun a ha h3=>hf a (h a ha) h3
theorem uF {t:AT} {rs:List Int} (h:bt t rs=true):(t.h.kind≠17→t.rho∈rs)∧(t.h.kind=18→∀x∈t.aH,x∈rs)∧
 InE (· ∈rs++if t.h.kind=13 then t.aH else []) t.eff∧InT (· ∈rs++if t.h.kind=13 then t.aH else []) t.type∧InT (· ∈rs++if t.h.kind=13 then t.aH else []) t.res:=by
 have e1:(rs++if t.h.kind=13 then t.aH else [])=(if t.h.kind=13 then rs++t.aH else rs):=by split<;>simp
 rw[e1]
 unfold bt at h
 split at h
 ·cases h
 ·rename_i hn
  simp only[Bool.and_eq_true]at h
  have hn1:¬(t.h.kind≠17∧t.rho∉rs):=fun h=>hn (.inl h)
  have hn2:¬(t.h.kind=18∧eD t.aH rs=false):=fun h=>hn (.inr h)
  have hT:=mb [t.type,t.res] []
  refine⟨fun hk=>Classical.byContradiction fun hr=>hn1 ⟨hk,hr⟩,fun hk x hx=> ?_,fun a ha h3=>jP h.1 (qc.2 ⟨a,ha,h3,rfl⟩),hT.1.mono fun x hx=>jP h.2 hx,hT.2.1.mono fun x hx=>jP h.2 hx⟩
  cases hi:eD t.aH rs with
  | true=>exact jP hi hx
  | false=>exact absurd ⟨hk,hi⟩ hn2
structure RsOk (rs:List Int):Prop where
 zero:(0:Int)∈rs
 pos:∀x∈rs,(0:Int)≤x
def BIn (rs:List Int) (b:Bd):Prop:=
 (b.fn=false→InT (· ∈rs) b.t)∧(b.fn=true→b.f.rho∈rs∧InT (· ∈rs++b.f.aH) b.f.type∧InT (· ∈rs++b.f.aH) b.f.res∧InE (· ∈rs++b.f.aH) b.f.eff)
def GIn (rs:List Int) (Γ:List Bd):Prop:=∀b∈Γ,BIn rs b
theorem ou {env:List Bd} {nm:ByteArray} {b:Bd} (h:fH env nm=some b):b∈env:=List.mem_reverse.1 (List.mem_of_find?_eq_some h)
theorem GIn.add {rs:List Int} {Γ:List Bd} (h:GIn rs Γ) {b:Bd} (hb:BIn rs b):GIn rs (Γ++ [b]):=fun x hx=>by
 rcases List.mem_append.1 hx with hx | hx
 ·exact h x hx
 ·rw[List.mem_singleton.1 hx];exact hb
theorem BIn.mono {rs rs':List Int} {b:Bd} (h:BIn rs b) (hs:∀x∈rs,x∈rs'):BIn rs' b:=
 ⟨fun hb=>(h.1 hb).mono hs,fun hb=>by
  obtain⟨h1,h2,h3,h4⟩:=h.2 hb
  have:∀x,x∈rs++b.f.aH→x∈rs'++b.f.aH:=fun x hx=>by
   rcases List.mem_append.1 hx with hx | hx
   ·exact List.mem_append_left _ (hs x hx)
   ·exact List.mem_append_right _ hx
  exact⟨hs _ h1,h2.mono this,h3.mono this,h4.mono this⟩⟩
theorem GIn.mono {rs rs':List Int} {Γ:List Bd} (h:GIn rs Γ) (hs:∀x∈rs,x∈rs'):GIn rs' Γ:=fun b hb=>(h b hb).mono hs
theorem Ai {P:Int→Prop} (h:P 0):InT P bU:=fun _=>⟨h,fun a ha=>by simp[Has]at ha,trivial⟩
theorem InT.aS {P:Int→Prop} {t:RT} (h:InT P t) (h0:P 0) (hk:t.kind≠1) (i:Nat):InT P (Chk.aS t i):=by
 by_cases hi:i<t.kids.length
 ·exact h.kid hk i hi
 ·unfold Chk.aS
  rw[List.getElem?_eq_none (by omega)]
  exact Ai h0
end Go.Abs.Safe
set_option linter.unusedVariables false
set_option linter.unusedSimpArgs false
namespace Go.Abs.Safe
open Go Go.Abs Go.Abs.Stk Go.Abs.At Go.Abs.Mac Go.Abs.Chk
def gOf (e:En) (x:Int):Int:=(e.region x).1
inductive CT where
 | pair (a b:ST)
 | ref (a:ST)
 | fn (φ:Atom→Prop) (a b:ST)
 | poly (f:AT) (L:List Int) (g:Int→Int)
abbrev Sg:=Int→Int→Option CT
def Sg.le (S S':Sg):Prop:=∀r a c,S r a=some c→S' r a=some c
theorem Sg.le.refl (S:Sg):S.le S:=fun _ _ _ h=>h
theorem Sg.le.trans {A B C:Sg} (h:A.le B) (k:B.le C):A.le C:=fun r a c x=>k r a c (h r a c x)
def VT (S:Sg) (v:V):ST→Prop
 | .int=>v.kind=1
 | .pair r a b=>v.kind=2∧v.n=0∧v.r=r∧S r v.a=some (.pair a b)
 | .ref r a=>v.kind=2∧v.n=0∧v.r=r∧S r v.a=some (.ref a)
 | .fn r φ a b=>v.kind=2∧v.n=0∧v.r=r∧S r v.a=some (.fn φ a b)
 | .bad=>False
theorem VT.mono {S S':Sg} (h:S.le S') {v:V} {T:ST} (hv:VT S v T):VT S' v T:=by
 cases T with
 | int=>exact hv
 | pair r a b=>exact⟨hv.1,hv.2.1,hv.2.2.1,h _ _ _ hv.2.2.2⟩
 | ref r a=>exact⟨hv.1,hv.2.1,hv.2.2.1,h _ _ _ hv.2.2.2⟩
 | fn r φ a b=>exact⟨hv.1,hv.2.1,hv.2.2.1,h _ _ _ hv.2.2.2⟩
 | bad=>exact hv
structure PT (S:Sg) (e:En) (rs:List Int) (v:V) (f:AT) (L:List Int) (g:Int→Int):Prop where
 kind:v.kind=2
 n:v.n=0
 at_:S v.r v.a=some (.poly f L g)
 r:v.r=gOf e f.rho
 same:∀x∈L,x∈rs∧gOf e x=g x
 rho:f.rho∈L
 type:InT (· ∈L++f.aH) f.type
 res:InT (· ∈L++f.aH) f.res
 eff:InE (· ∈L++f.aH) f.eff
structure NOK (S:Sg) (e:En) (rs:List Int) (n:Nm) (b:Bd):Prop where
 name:n.name=b.name
 fn:n.fn=b.fn
 val:b.fn=false→InT (· ∈rs) b.t∧VT S n.v (o7 (gOf e) b.t)
 rec_:b.fn=true→∃L g,PT S e rs n.v b.f L g
inductive na (S:Sg) (e:En) (rs:List Int):List Nm→List Bd→Prop
 | nil:na S e rs [] []
 | cons {n b ns bs} (h:NOK S e rs n b) (t:na S e rs ns bs):na S e rs (n::ns) (b::bs)
structure fF (S:Sg) (e:En) (Γ:List Bd) (rs:List Int):Prop where
 names:na S e rs e.names Γ.reverse
 regs:∀x∈rs,(e.region x).2=true
theorem na.find {S:Sg} {e:En} {rs:List Int} {nm:ByteArray} {ns:List Nm} {bs:List Bd} (h:na S e rs ns bs) {b:Bd} (hb:bs.find? (fun b=>decide (b.name=nm))=some b):∃n,ns.find? (fun n=>decide (n.name=nm))=some n∧NOK S e rs n b:=by
 induction h with
 | nil=>simp at hb
 | @cons n b' ns bs h t ih=>
  simp only[List.find?_cons]at hb⊢
  rw[h.name]
  by_cases hn:b'.name=nm
  ·simp only[hn,decide_true]at hb⊢
   cases hb
   exact⟨n,rfl,h⟩
  ·simp only[hn,decide_false]at hb⊢
   exact ih hb
theorem fF.find {S:Sg} {e:En} {Γ:List Bd} {rs:List Int} (h:fF S e Γ rs) {nm:ByteArray} {b:Bd} (hb:fH Γ nm=some b):∃n,e.find nm=some n∧NOK S e rs n b:=h.names.find hb
theorem NOK.mono {S S':Sg} (hS:S.le S') {e rs n b} (h:NOK S e rs n b):NOK S' e rs n b:=
 ⟨h.name,h.fn,fun hb=>⟨(h.val hb).1,(h.val hb).2.mono hS⟩,fun hb=>by
  obtain⟨L,g,p⟩:=h.rec_ hb
  exact⟨L,g,p.kind,p.n,hS _ _ _ p.at_,p.r,p.same,p.rho,p.type,p.res,p.eff⟩⟩
theorem na.mono {S S':Sg} (hS:S.le S') {e rs ns bs} (h:na S e rs ns bs):na S' e rs ns bs:=by
 induction h with
 | nil=>exact .nil
 | cons h _ ih=>exact .cons (h.mono hS) ih
theorem fF.mono {S S':Sg} (hS:S.le S') {e Γ rs} (h:fF S e Γ rs):fF S' e Γ rs:=⟨h.names.mono hS,h.regs⟩
theorem NOK.more {S:Sg} {e e' rs rs' n b} (h:NOK S e rs n b) (h1:∀x∈rs,gOf e' x=gOf e x) (h2:∀x∈rs,x∈rs'):NOK S e' rs' n b:=
 ⟨h.name,h.fn,fun hb=>⟨(h.val hb).1.mono h2,by rw[o8 h1 (h.val hb).1];exact(h.val hb).2⟩,fun hb=>by
  obtain⟨L,g,p⟩:=h.rec_ hb
  exact⟨L,g,p.kind,p.n,p.at_,by rw[h1 _ (p.same _ p.rho).1];exact p.r,fun x hx=>⟨h2 _ (p.same x hx).1,by rw[h1 _ (p.same x hx).1];exact(p.same x hx).2⟩,p.rho,p.type,p.res,p.eff⟩⟩
theorem na.more {S:Sg} {e e' rs rs' ns bs} (h:na S e rs ns bs) (h1:∀x∈rs,gOf e' x=gOf e x) (h2:∀x∈rs,x∈rs'):na S e' rs' ns bs:=by
 induction h with
 | nil=>exact .nil
 | cons h _ ih=>exact .cons (h.more h1 h2) ih
theorem fF.more {S:Sg} {e e' Γ rs rs'} (h:fF S e Γ rs) (hn:e'.names=e.names) (h1:∀x∈rs,gOf e' x=gOf e x) (h2:∀x∈rs,x∈rs') (h3:∀x∈rs',(e'.region x).2=true):fF S e' Γ rs':=⟨by rw[hn];exact h.names.more h1 h2,h3⟩
theorem oY {e:En} {rho r x:Int}:(e.opn rho r).region x=if x=rho then (r,true) else e.region x:=by
 unfold En.region En.opn
 simp only[List.find?_cons]
 by_cases h:x=rho
 ·simp[h]
 ·have:¬rho=x:=fun h'=>h h'.symm
  simp[h,this]
theorem fF.opn {S:Sg} {e Γ rs} (h:fF S e Γ rs) {rho:Int} (r:Int) (hn:rho∉rs):fF S (e.opn rho r) Γ (rs++ [rho]):=by
 refine h.more rfl (fun x hx=> ?_) (fun x hx=>by simp[hx]) (fun x hx=> ?_)
 ·unfold gOf
  rw[oY,if_neg (by intro e;exact hn (by rw[←e];exact hx))]
 ·rw[oY]
  rcases List.mem_append.1 hx with hx | hx
  ·split
   ·rfl
   ·exact h.regs x hx
  ·rw[if_pos (List.mem_singleton.1 hx)]
structure Bnd (rs:List Int) (t:AT):Prop where
 dis:∀x∈bg t.all,x∉rs
 nodup:(bg t.all).Nodup
 may:∀n∈t.all,bN n=true
 rs:RsOk rs
theorem all_cons (t:AT):t.all=t::AT.bE t.kids:=by obtain⟨h,r,rs,e,a,b,ks⟩:=t;rfl
theorem lM (t:AT):t∈t.all:=by rw[all_cons];simp
theorem lY (l:List AT):AT.bE l=l.flatMap AT.all:=by
 induction l with
 | nil=>rfl
 | cons t l ih=>simp[AT.bE,ih]
theorem vX {t:AT} (h:bN t=true):∀x∈own t,(0:Int)≤x∧x≠0:=by
 intro x hx
 unfold bN at h
 simp only[Bool.and_eq_true,Bool.not_eq_true',decide_eq_true_eq,Bool.and_eq_false_iff]at h
 unfold own at hx
 split at hx
 ·rename_i h17
  rw[List.mem_singleton.1 hx]
  have h2:=h.1.1.1.1.1.1.2
  have h1:=h.1.1.1.1.1.1.1.2
  refine⟨h1,?_⟩
  rcases h2 with h2 | h2
  ·simp[h17]at h2
  ·simpa using h2
 ·split at hx
  ·rename_i h13
   have hr:=h.1.1.1.2
   unfold dN at hr
   obtain⟨i,hi,rfl⟩:=List.mem_iff_getElem.1 hx
   have:=List.all_eq_true.1 hr i (List.mem_range.2 hi)
   unfold eP at this
   rw[List.getElem?_eq_getElem hi]at this
   simp[h13]at this
   exact⟨this.1,this.2.1⟩
  ·simp at hx
theorem CV {rs:List Int} {t:AT} (h:Bnd rs t) {l:List Int} (hl:∀x∈l,x∈own t):RsOk (rs++l):=by
 refine⟨by simp[h.rs.zero],fun x hx=> ?_⟩
 rcases List.mem_append.1 hx with hx | hx
 ·exact h.rs.pos x hx
 ·exact(vX (h.may t (lM t)) x (hl x hx)).1
theorem q9 {t:AT} {i:Nat} (hi:i<t.kids.length):∃l m,AT.bE t.kids=l++(aB t i).all++m:=by
 have:t.kids=t.kids.take i++aB t i::t.kids.drop (i+1):=by
  have h1:aB t i=t.kids[i]:=by unfold aB;rw[List.getElem?_eq_getElem hi];rfl
  rw[h1,←List.drop_eq_getElem_cons hi,List.take_append_drop]
 rw[this,lY]
 simp only[List.flatMap_append,List.flatMap_cons]
 exact⟨_,_,(List.append_assoc _ _ _).symm⟩
theorem Bnd.kid {rs:List Int} {t:AT} (h:Bnd rs t) {i:Nat} (hi:i<t.kids.length) {l:List Int} (hl:∀x∈l,x∈own t):Bnd (rs++l) (aB t i):=by
 obtain⟨p,q,he⟩:=q9 hi
 have e:t.all=(t::p)++(aB t i).all++q:=by rw[all_cons,he];simp
 have e2:bg t.all=(own t++bg p)++bg (aB t i).all++bg q:=by
  rw[e,gS,gS];simp[bg]
 refine⟨fun x hx hm=> ?_,?_,fun n hn=>h.may n (by rw[e];simp[hn]),CV h hl⟩
 ·rcases List.mem_append.1 hm with hm | hm
  ·exact h.dis x (by rw[e2];simp[hx]) hm
  ·have:=h.nodup
   rw[e2,List.append_assoc,List.append_assoc,List.nodup_append]at this
   exact this.2.2 x (hl x hm) x (by simp[hx]) rfl
 ·have:=h.nodup
  rw[e2]at this
  exact((List.nodup_append.1 (List.nodup_append.1 this).1).2.1)
def BZ (S:Sg) (co:Co) (φ:Atom→Prop) (a b:ST):Prop:=
 ∃Γ rs A T E,fF S co.env Γ rs∧Bnd rs co.body∧InT (· ∈rs) A∧Ty (Γ++ [jF co.arg A]) rs co.body T E∧o7 (gOf co.env) A=a∧o7 (gOf co.env) T=b∧∀x,s8 (gOf co.env) E x→φ x
def qH (S:Sg) (co:Co) (f:AT) (L:List Int) (g:Int→Int):Prop:=
 co.arg=f.h.arg∧co.rsl=f.aH∧(∀x∈L,gOf co.env x=g x)∧f.aH.Nodup∧(∀x∈f.aH,x∉L)∧
 ∃Γ T E,fF S co.env Γ L∧Bnd (L++f.aH) co.body∧Ty (Γ++ [jF f.h.arg f.type]) (L++f.aH) co.body T E∧RT.same T f.res=true∧bx E f.eff=true
theorem BZ.mono {S S':Sg} (hS:S.le S') {co φ a b} (h:BZ S co φ a b):BZ S' co φ a b:=by
 obtain⟨Γ,rs,A,T,E,h1,h2⟩:=h
 exact⟨Γ,rs,A,T,E,h1.mono hS,h2⟩
theorem qH.mono {S S':Sg} (hS:S.le S') {co f L g} (h:qH S co f L g):qH S' co f L g:=by
 obtain⟨h1,h2,h3,h4,h5,Γ,T,E,h6,h7⟩:=h
 exact⟨h1,h2,h3,h4,h5,Γ,T,E,h6.mono hS,h7⟩
def jh (S:Sg) (aC:List Co):CT→Cl→Prop
 | .pair a b,x=>x.kind=1∧VT S x.a a∧VT S x.b b
 | .ref a,x=>x.kind=2∧VT S x.a a
 | .fn φ a b,x=>x.kind=3∧∃co,aC[x.code.toNat]?=some co∧BZ S co φ a b
 | .poly f L g,x=>x.kind=3∧∃co,aC[x.code.toNat]?=some co∧qH S co f L g
def u7 (c c':List Co):Prop:=∀(i:Nat) x,c[i]?=some x→c'[i]?=some x
theorem jh.mono {S S':Sg} (hS:S.le S') {c c':List Co} (hc:u7 c c') {ct:CT} {x:Cl} (h:jh S c ct x):jh S' c' ct x:=by
 cases ct with
 | pair a b=>exact⟨h.1,h.2.1.mono hS,h.2.2.mono hS⟩
 | ref a=>exact⟨h.1,h.2.mono hS⟩
 | fn φ a b=>obtain⟨h1,co,h2,h3⟩:=h;exact⟨h1,co,hc _ _ h2,h3.mono hS⟩
 | poly f L g=>obtain⟨h1,co,h2,h3⟩:=h;exact⟨h1,co,hc _ _ h2,h3.mono hS⟩
structure SOK (S:Sg) (s:Sa):Prop where
 len:∀r a c,S r a=some c→r<s.store.L.length∧0≤a
 cell:∀r a c row,S r a=some c→s.store.row r=some row→∃x,row[a.toNat]?=some x∧jh S s.aC c x
theorem SOK.tick {S s} (h:SOK S s):SOK S (tick s):=⟨h.len,h.cell⟩
theorem SOK.push {S:Sg} {s:Sa} (h:SOK S s) {r st} (hp:dw s.store=some (r,st)):SOK S {s with store:=st}:=by
 obtain⟨_,rfl,rfl⟩:=gu hp
 refine⟨fun r a c hc=>⟨?_,(h.len r a c hc).2⟩,fun r a c row hc hr=> ?_⟩
 ·have:=(h.len r a c hc).1
  simp[SG.more];omega
 ·have:=(h.len r a c hc).1
  change s.store.more.row r=some row at hr
  rw[SG.ph,if_neg (by omega)]at hr
  exact h.cell r a c row hc hr
theorem SOK.pop {S:Sg} {s:Sa} (h:SOK S s):SOK S {s with store:=cz s.store}:=by
 unfold cz
 split
 ·exact h
 ·split
  ·rename_i i hi
   obtain⟨c0,hc0⟩:=SG.lq hi
   have hlt:=(List.getElem?_eq_some_iff.1 hc0).1
   refine⟨fun r a c hc=>⟨?_,(h.len r a c hc).2⟩,fun r a c row hc hr=> ?_⟩
   ·have:=(h.len r a c hc).1
    simp[SG.less];omega
   ·change (s.store.less i).row r=some row at hr
    rw[SG.pf hlt]at hr
    split at hr
    ·cases hr
    ·exact h.cell r a c row hc hr
  ·exact h
def Sg.upd (S:Sg) (r a:Int) (c:CT):Sg:=fun r' a'=>if r'=r∧a'=a then some c else S r' a'
theorem SG.tf {s:SG Cl} {i:Nat} {row:List Cl} (hi:i<s.L.length) (c:Cl) (r:Int):(s.gU i row c).row r=if r=i then some (row++ [c]) else s.row r:=SG.rz s i hi _ r
theorem GV {S:Sg} {r a:Int} {c:CT} (h:S r a=none):S.le (S.upd r a c):=fun r' a' c' hc=>by
 unfold Sg.upd
 split
 ·rename_i e;rw[e.1,e.2,h]at hc;cases hc
 ·exact hc
theorem SOK.put {S:Sg} {s:Sa} (h:SOK S s) {r c v st} (hp:e8 s.store r c=some (v,st)) (codes':List Co) (hc:u7 s.aC codes') (ct:CT) (hcell:S.le (S.upd r v.a ct)→jh (S.upd r v.a ct) codes' ct c):
 v.kind=2∧v.n=0∧v.r=r∧S.le (S.upd r v.a ct)∧SOK (S.upd r v.a ct) ⟨st,s.steps,codes'⟩∧
 (∀r',r'≠r→st.row r'=s.store.row r'):=by
 obtain⟨i,row,rfl,h1,_,rfl,rfl⟩:=e9 hp
 have hlt:=(List.getElem?_eq_some_iff.1 h1).1
 have hrow:s.store.row i=some row:=yh h1
 have hnone:S i row.length=none:=by
  cases hS:S i row.length with
  | none=>rfl
  | some c0=>
   obtain⟨x,hx,_⟩:=h.cell _ _ _ _ hS hrow
   simp at hx
 have hle:=GV (c:=ct) hnone
 refine⟨rfl,rfl,rfl,hle,⟨fun r a c' hc'=> ?_,fun r a c' row' hc' hr=> ?_⟩,fun r' hr'=>by rw[SG.tf hlt,if_neg hr']⟩
 ·unfold Sg.upd at hc'
  split at hc'
  ·rename_i e;rw[e.1,e.2];simp[SG.gU];omega
  ·have:=h.len r a c' hc'
   simp[SG.gU];exact this
 ·rw[SG.tf hlt]at hr
  unfold Sg.upd at hc'
  split at hc'
  ·rename_i e
   obtain⟨rfl,rfl⟩:=e
   cases hc'
   rw[if_pos rfl]at hr
   cases hr
   exact⟨c,by simp,hcell hle⟩
  ·rename_i e
   by_cases hri:r=i
   ·rw[if_pos hri]at hr
    cases hr
    subst hri
    obtain⟨x,hx,hok⟩:=h.cell _ _ _ _ hc' hrow
    have hl:=(List.getElem?_eq_some_iff.1 hx).1
    exact⟨x,by rw[List.getElem?_append_left hl];exact hx,hok.mono hle hc⟩
   ·rw[if_neg hri]at hr
    obtain⟨x,hx,hok⟩:=h.cell _ _ _ _ hc' hr
    exact⟨x,hx,hok.mono hle hc⟩
theorem SOK.set {S:Sg} {s:Sa} (h:SOK S s) {v:V} {a:ST} (hv:S v.r v.a=some (.ref a)) {c:Cl} (hc:jh S s.aC (.ref a) c):SOK S {s with store:=eN s.store v c}∧
 ∀r row,s.store.row r=some row→∃row',(eN s.store v c).row r=some row'∧row'.length=row.length:=by
 unfold eN
 cases hr:s.store.row v.r with
 | none=>exact⟨h,fun r row hr=>⟨row,hr,rfl⟩⟩
 | some row=>
  obtain⟨i,he,h1,hlt⟩:=SG.iO hr
  have hrow:∀r,(s.store.put v.r.toNat (row.set v.a.toNat c)).row r=if r=v.r then some (row.set v.a.toNat c) else s.store.row r:=fun r=>by
   have:v.r.toNat<s.store.L.length:=by omega
   rw[SG.lJ this]
   have e2:((v.r.toNat:Nat):Int)=v.r:=by omega
   rw[e2]
  refine⟨⟨fun r a c hc=> ?_,fun r a c' row' hc' hr'=> ?_⟩,fun r row' hr'=> ?_⟩
  ·have:=h.len r a c hc
   simp[SG.put];exact this
  ·change (s.store.put v.r.toNat (row.set v.a.toNat c)).row r=some row' at hr'
   rw[hrow]at hr'
   split at hr'
   ·rename_i e
    cases hr'
    subst e
    obtain⟨x,hx,hok⟩:=h.cell _ _ _ _ hc' hr
    have ha:=(h.len _ _ _ hc').2
    have ha':=(h.len _ _ _ hv).2
    by_cases e:a=v.a
    ·subst e
     rw[hv]at hc';cases hc'
     exact⟨c,by rw[List.getElem?_set_self (List.getElem?_eq_some_iff.1 hx).1],hc⟩
    ·exact⟨x,by rw[List.getElem?_set_ne (by omega)];exact hx,hok⟩
   ·exact h.cell _ _ _ _ hc' hr'
  ·change ∃row'',(s.store.put v.r.toNat (row.set v.a.toNat c)).row r=some row''∧_
   rw[hrow]
   split
   ·rename_i e
    rw[e,hr]at hr'
    cases hr'
    exact⟨_,rfl,by simp⟩
   ·exact⟨row',hr',rfl⟩
theorem SOK.take {S:Sg} {s:Sa} (h:SOK S s) {v:V} {ct:CT} {k:Int} (hv:S v.r v.a=some ct) (h1:v.kind=2) (h2:v.n=0) (hl:dH s.store v.r=true) (hk:∀x,jh S s.aC ct x→x.kind=k):∃c,take s v k= .ok c s∧jh S s.aC ct c:=by
 unfold dH at hl
 cases hr:s.store.row v.r with
 | none=>rw[hr]at hl;simp at hl
 | some row=>
  obtain⟨x,hx,hok⟩:=h.cell _ _ _ _ hv hr
  have ha:=(h.len _ _ _ hv).2
  have hlt:=(List.getElem?_eq_some_iff.1 hx).1
  refine⟨x,?_,hok⟩
  have hfind:s.store.find v.kind v.n v.r v.a=0:=by
   unfold SG.find
   rw[if_neg (by omega),hr]
   simp only
   rw[if_neg (by omega)]
  unfold Mac.take
  rw[if_pos h1,hfind]
  have hc:cellAt s.store v=some x:=by unfold cellAt;rw[hr];exact hx
  simp[hc,hk x hok]
theorem xe {s s':SG Cl} (h:s'.live=s.live) (r:Int):dH s' r=dH s r:=by
 have key:∀s:SG Cl,dH s r=true↔0≤r∧r.toNat∈s.live:=by
  intro s
  unfold dH SG.row at'
  by_cases h0:0≤r
  ·rw[if_pos h0]
   constructor
   ·intro hs
    obtain⟨row,hr⟩:=Option.isSome_iff_exists.1 hs
    exact⟨h0,jS.2 ⟨r.toNat,row,by omega,iN.1 hr⟩⟩
   ·rintro⟨_,hm⟩
    obtain⟨j,c,e,hj⟩:=jS.1 hm
    have:r.toNat=j:=by omega
    rw[this,iN.2 hj];rfl
  ·rw[if_neg h0]
   simp[h0]
 have h1:=key s
 have h2:=key s'
 rw[h]at h2
 cases e1:dH s r<;>cases e2:dH s' r<;>simp_all
end Go.Abs.Safe
set_option linter.unusedVariables false
set_option linter.unusedSimpArgs false
namespace Go.Abs.Safe
open Go Go.Abs Go.Abs.Stk Go.Abs.At Go.Abs.Mac Go.Abs.Chk
def ba (s s':SG Cl) (φ:Atom→Prop):Prop:=∀r row,s.row r=some row→¬φ (putAt r)→∃row',s'.row r=some row'∧row'.length=row.length
theorem ba.refl (s φ):ba s s φ:=fun r row h _=>⟨row,h,rfl⟩
theorem ba.trans {s s' s'' φ} (h:ba s s' φ) (k:ba s' s'' φ):ba s s'' φ:=fun r row hr hn=>by
 obtain⟨row',h1,h2⟩:=h r row hr hn
 obtain⟨row'',h3,h4⟩:=k r row' h1 hn
 exact⟨row'',h3,h4.trans h2⟩
theorem ba.mono {s s' φ ψ} (h:ba s s' φ) (hi:∀x,φ x→ψ x):ba s s' ψ:=fun r row hr hn=>h r row hr fun hp=>hn (hi _ hp)
def pS (s:Sa) (φ:Atom→Prop):Prop:=∀x,φ x→x.kind≠3→dH s.store x.rho=true
theorem pS.sub {s:Sa} {φ ψ:Atom→Prop} (h:pS s ψ) (hi:∀x,φ x→ψ x):pS s φ:=fun x hx h3=>h x (hi x hx) h3
theorem pS.same {s s':Sa} {φ:Atom→Prop} (h:pS s φ) (hs:s'.store.live=s.store.live):pS s' φ:=fun x hx h3=>by rw[xe hs];exact h x hx h3
structure Made (S:Sg) (s:SG Cl) (steps:Nat) (aC:List Co) (r:Int) (ct:CT) (v:V) (st:SG Cl):Prop where
 kind:v.kind=2
 n:v.n=0
 rg:v.r=r
 le:S.le (S.upd r v.a ct)
 ok:SOK (S.upd r v.a ct) ⟨st,steps,aC⟩
 live:st.live=s.live
 other:∀r',r'≠r→st.row r'=s.row r'
theorem Made.at_ {S s steps aC r ct v st} (h:Made S s steps aC r ct v st):(S.upd r v.a ct) v.r v.a=some ct:=by
 unfold Sg.upd;rw[if_pos ⟨h.rg,rfl⟩]
theorem Made.keep {S s steps aC r ct v st} (h:Made S s steps aC r ct v st) {φ:Atom→Prop} (hp:φ (putAt r)):ba s st φ:=fun r' row hr hn=>by
 by_cases e:r'=r
 ·rw[e]at hn;exact absurd hp hn
 ·exact⟨row,by rw[h.other _ e];exact hr,rfl⟩
inductive rL (t:AT):List RT→RT→List Atom→Prop
 | pair {a b} (hk:t.h.kind=3):rL t [a,b] (.mk 2 t.rho [] [a,b]) [putAt t.rho]
 | proj {a} (hk:t.h.kind=4∨t.h.kind=5) (ha:a.kind=2):rL t [a] (Chk.aS a (t.h.kind - 4).toNat) [fL a.rho]
 | ref {a} (hk:t.h.kind=6):rL t [a] (.mk 3 t.rho [] [a]) [putAt t.rho]
 | get {a} (hk:t.h.kind=7) (ha:a.kind=3):rL t [a] (Chk.aS a 0) [fL a.rho]
 | set {a b} (hk:t.h.kind=8) (ha:a.kind=3) (hs:RT.same (Chk.aS a 0) b=true):rL t [a,b] one [putAt a.rho]
 | op {a b} (hk:t.h.kind=9) (ha:a.kind=1) (hb:b.kind=1):rL t [a,b] one []
 | app {a b} (hk:t.h.kind=10) (ha:a.kind=4) (hs:RT.same (Chk.aS a 0) b=true):rL t [a,b] (Chk.aS a 1) ([fL a.rho]++a.eff)
 | raise {a} (hk:t.h.kind=15) (ha:a.kind=1):rL t [a] t.type [sq t.h.exn]
inductive np (S:Sg) (s:Sa) (e:En) (T:RT) (R:List Atom):Re Nx→Prop
 | full {s':Sa}:np S s e T R (.over s' 4)
 | val {v s' S'} (h1:S.le S') (h2:SOK S' s') (h3:VT S' v (o7 (gOf e) T)) (h4:s'.store.live=s.store.live) (h5:ba s.store s'.store (s8 (gOf e) R)):np S s e T R (.ok (.val v) s')
 | exn {n x} (h:s8 (gOf e) R (sq x)):np S s e T R (.ok (.exn n x) s)
 | node {b e' Γ rs T' E'} (h1:fF S e' Γ rs) (h2:Bnd rs b) (h3:Ty Γ rs b T' E') (h4:o7 (gOf e') T'=o7 (gOf e) T) (h5:∀x,s8 (gOf e') E' x→s8 (gOf e) R x):np S s e T R (.ok (.node b e') s)
end Go.Abs.Safe
set_option linter.unusedVariables false
set_option linter.unusedSimpArgs false
namespace Go.Abs.Safe
open Go Go.Abs Go.Abs.Stk Go.Abs.At Go.Abs.Mac Go.Abs.Chk
def OutOK (S:Sg) (T:ST) (φ:Atom→Prop):Out→Prop
 | .val v=>VT S v T
 | .exn n x=>φ (sq x)
 | .over k=>k=3∨k=4
def iy (S:Sg) (s s':Sa) (T:ST) (φ:Atom→Prop) (o:Out):Prop:=
 ∃S',S.le S'∧OutOK S' T φ o∧(¬o.cB→SOK S' s'∧ba s.store s'.store φ)
theorem iy.seq {S S1 s s1 s' T φ1 φ} {o:Out} (hS:S.le S1) (hk:ba s.store s1.store φ) (h:iy S1 s1 s' T φ1 o) (hi:∀x,φ1 x→φ x):iy S s s' T φ o:=by
 obtain⟨S',h1,h2,h3⟩:=h
 refine⟨S',hS.trans h1,?_,fun h=>⟨(h3 h).1,hk.trans ((h3 h).2.mono hi)⟩⟩
 cases o with
 | val v=>exact h2
 | exn n x=>exact hi _ h2
 | over k=>exact h2
theorem iy.val {S s s' T φ v} (h:iy S s s' T φ (.val v)):∃S',S.le S'∧VT S' v T∧SOK S' s'∧ba s.store s'.store φ:=by
 obtain⟨S',h1,h2,h3⟩:=h
 exact⟨S',h1,h2,h3 (by simp[Out.cB])⟩
theorem iy.over {S s s' T φ} {k:Int} (h:k=3∨k=4):iy S s s' T φ (.over k):=⟨S,Sg.le.refl _,h,fun h=>(h trivial).elim⟩
structure Mid (N fuel:Nat) (S1:Sg) (s s1:Sa) (e:En) (Γ:List Bd) (rs:List Int):Prop where
 cw:CW (TN N) s1
 one:1≤s1.store.live.length
 steps:s1.steps≤fuel
 live:s1.store.live=s.store.live
 env:fF S1 e Γ rs
theorem mid {fuel N s t e s1 v S S1 Γ rs} (h:Big fuel s t e s1 (.val v)) (hc:CW (TN N) s) (ht:TN N t) (h1:1≤s.store.live.length) (hf:s.steps≤fuel) (he:fF S e Γ rs) (hS:S.le S1):Mid N fuel S1 s s1 e Γ rs:=by
 have hL:=h.left hc ht h1 hf
 exact⟨hL.cw,hL.one,hL.steps,hL.same (by simp[Out.cB]),he.mono hS⟩
end Go.Abs.Safe
