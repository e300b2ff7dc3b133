import Derived.Test.YtjilebpcaemopaaGreatDoorMStkC
import Derived.Test.YtjilebpcaemopaaGreatDoorMacM
import Derived.Test.YtjilebpcaemopaaGreatDoorAbsO
set_option linter.unusedVariables false
set_option linter.unusedSimpArgs false
set_option linter.deprecated false
namespace Go.Abs.Mac
open Go Go.Abs Go.Abs.Stk Go.Abs.At Go.Proofs.MacD
noncomputable abbrev PR:=Go.Proofs.Tryz.prog
abbrev int (n:Int):AV:=.val (.int .i64 n)
abbrev u8 (n:Int):AV:=.val (.int .u8 n)
abbrev str (s:ByteArray):AV:=.val (.string s)
abbrev bool (b:Bool):AV:=.val (.bool b)
abbrev fq:AV:=.val (.pointer none)
abbrev bf:AV:=.val (.slice none 0 0)
def bO:List Nm→AV
 | []=>fq
 | n::l=>.ref [str n.name,u8 n.v.kind,int n.v.n,int n.v.r,int n.v.a,bool n.fn,bO l]
def fD:List (Int×Int)→AV
 | []=>fq
 | (a,b)::l=>.ref [int a,int b,fD l]
def bH (e:En):List AV:=[bO e.names,fD e.aH]
abbrev dt (e:En):AV:=.agg (bH e)
abbrev vV (v:V):AV:=.agg v.av
theorem iM:∀l:List Nm,Dat (bO l)
 | []=>.val _
 | n::l=>by
  refine Dat.ref fun x hx=> ?_
  simp only[List.mem_cons,List.not_mem_nil,or_false]at hx
  rcases hx with rfl | rfl | rfl | rfl | rfl | rfl | rfl
  ·exact .val _
  ·exact .val _
  ·exact .val _
  ·exact .val _
  ·exact .val _
  ·exact .val _
  ·exact iM l
theorem pc:∀l:List (Int×Int),Dat (fD l)
 | []=>.val _
 | (a,b)::l=>by
  refine Dat.ref fun x hx=> ?_
  simp only[List.mem_cons,List.not_mem_nil,or_false]at hx
  rcases hx with rfl | rfl | rfl
  ·exact .val _
  ·exact .val _
  ·exact pc l
@[simp] theorem CQ (l:List Nm):br (bO l)=some [bO l]:=by cases l<;>rfl
@[simp] theorem Gs (l:List (Int×Int)):br (fD l)=some [fD l]:=by cases l<;>rfl
variable {σ:ah} {k kp:AV→ah→Prop}
theorem cy {b:Bool} {kd:Int} (hk:b=true→k (.tup []) σ) (hp:b=false→kp (.iface 102 (.agg [u8 kd])) σ):Ev PR 79 [bool b,u8 kd] σ k kp:=by
 apply E7;unfold F79
 cases b with
 | true=>simpa using hk rfl
 | false=>simpa [oT] using hp rfl
theorem rr {n:Int} (hk:k (vV (num n)) σ):Ev PR 83 [int n] σ k kp:=by
 apply Ev.pure;apply Fb;unfold F83
 simp[num,V.av]
 exact⟨(aq.new _ _).set (Nat.le_refl _) _,_,.low ((Dat.agg (by simp[Dat.val])).low _),hk⟩
def nxV (t n r:AV) (v:V) (b:Bool) (x:ByteArray):AV:=.agg [t,n,r,u8 v.kind,int v.n,int v.r,int v.a,bool b,str x]
def Nx.av:Nx→AV
 | .node t e=>nxV (.ref t.av) (bO e.names) (fD e.aH) V.zero false ByteArray.empty
 | .val v=>nxV fq fq fq v false ByteArray.empty
 | .exn n x=>nxV fq fq fq (num n) true x
theorem dB {v:V} (hk:k (Nx.av (.val v)) σ):Ev PR 82 [vV v] σ k kp:=by
 apply Ev.pure;apply Fa;unfold F82
 simp[V.av,Nx.av,nxV,an,au]at hk⊢
 exact⟨((aq.new _ _).trans (aq.new _ _)).set (by simp) _,_,.low ((Dat.agg (by simp[Dat.val])).low _),hk⟩
theorem nJ {e:En} {nm:ByteArray} {v:V} {b:Bool} (hk:k (dt (e.with nm v b)) σ):Ev PR 88 [dt e,str nm,vV v,bool b] σ k kp:=by
 apply Ev.pure;apply Fh;unfold F88
 simp[V.av,bH,an,au,Nat.add_assoc]
 refine⟨((((((aq.new _ _).trans (aq.new _ _)).trans (aq.new _ _)).trans (aq.new _ _)).set (by simp) _).set (by simp) _),dt (e.with nm v b),?_,hk⟩
 refine dY.agg (.cons ?_ (.cons (.low ((pc _).low _)) .nil))
 refine .ptr (el:=[str nm,u8 v.kind,int v.n,int v.r,int v.a,bool b,bO e.names]) (by omega) (by simp[au,an]) rfl fun j x y h1 h2=> ?_
 have:x=y:=Option.some.inj (h1.symm.trans (by simpa [En.with] using h2))
 subst this
 refine .low (Dat.low ?_ _)
 have hx:=List.mem_of_getElem? h2
 simp only[List.mem_cons,List.not_mem_nil,or_false]at hx
 rcases hx with rfl | rfl | rfl | rfl | rfl | rfl | rfl
 ·exact .val _
 ·exact .val _
 ·exact .val _
 ·exact .val _
 ·exact .val _
 ·exact .val _
 ·exact iM _
theorem vT {e:En} {a b:Int} (hk:k (dt (e.opn a b)) σ):Ev PR 80 [dt e,int a,int b] σ k kp:=by
 apply Ev.pure;apply E8;unfold F80
 simp[bH,an,au,Nat.add_assoc]
 refine⟨(((((aq.new _ _).trans (aq.new _ _)).trans (aq.new _ _)).set (by simp) _).set (by simp) _),dt (e.opn a b),?_,hk⟩
 refine dY.agg (.cons (.low ((iM _).low _)) (.cons ?_ .nil))
 refine .ptr (el:=[int a,int b,fD e.aH]) (by omega) (by simp[au,an]) rfl fun j x y h1 h2=> ?_
 have:x=y:=Option.some.inj (h1.symm.trans (by simpa [En.opn] using h2))
 subst this
 refine .low (Dat.low ?_ _)
 have hx:=List.mem_of_getElem? h2
 simp only[List.mem_cons,List.not_mem_nil,or_false]at hx
 rcases hx with rfl | rfl | rfl
 ·exact .val _
 ·exact .val _
 ·exact pc _
def depth:AV→Nat
 | .ref cs=>depths cs+1
 | _=>0
where depths:List AV→Nat
 | []=>0
 | x::xs=>depth x+depths xs
theorem vG {e:En} {nm:ByteArray} (h0:e.find nm=none→k fq σ) (h1:∀n l,e.find nm=some n→k (bO (n::l)) σ):Ev PR 84 [dt e,str nm] σ k kp:=by
 apply Ev.jc;apply Fc;unfold F84
 simp[bH,an,au,Nat.add_assoc]
 refine aM ?_
 simp[an]
 have hg:aq σ (σ.new (.cells 2 [[bO e.names,fD e.aH]])):=aq.new _ _
 generalize hτ:σ.new (.cells 2 [[bO e.names,fD e.aH]])=τ at hg
 refine aX (fun l:List Nm=>[(1,str nm),(5,bO l)]) (fun l τ'=>τ'=τ∧e.find nm=l.find? fun n=>n.name=nm) (fun fr _=>depth (aa fr 5)) e.names rfl ⟨rfl,rfl⟩ ?_
 rintro l τ' ⟨rfl,hf⟩
 cases l with
 | nil=>
  simp[bO]
  exact⟨hg,(Dat.val _).low _,h0 hf⟩
 | cons n l=>
  simp[bO]
  by_cases hn:n.name=nm
  ·simp[hn]
   refine⟨hg,(iM (n::l)).low _ |> fun h=>by simpa [bO,hn] using h,?_⟩
   have:=h1 n l (by rw[hf];simp[hn])
   simpa [bO,hn] using this
  ·simp[hn]
   exact⟨⟨l,rfl,by rw[hf];simp[hn]⟩,by simp[depth,depth.depths]⟩
theorem qk {e:En} {r:Int} (hk:k (.tup [int (e.region r).1,bool (e.region r).2]) σ):Ev PR 124 [dt e,int r] σ k kp:=by
 apply Ev.jc;apply AG;unfold F124
 simp[bH,an,au,Nat.add_assoc]
 refine aM ?_
 simp[an]
 have hg:aq σ (σ.new (.cells 2 [[bO e.names,fD e.aH]])):=aq.new _ _
 generalize hτ:σ.new (.cells 2 [[bO e.names,fD e.aH]])=τ at hg
 have hlow:∀(a:Int) (b:Bool),Low σ.next (.tup [int a,bool b]):=fun a b=>(Dat.tup (by simp[Dat.val])).low _
 refine aX (fun l:List (Int×Int)=>[(1,int r),(6,fD l)]) (fun l τ'=>τ'=τ∧e.aH.find? (fun q=>q.1=r)=l.find? fun q=>q.1=r) (fun fr _=>depth (aa fr 6)) e.aH rfl ⟨rfl,rfl⟩ ?_
 rintro l τ' ⟨rfl,hf⟩
 cases l with
 | nil=>
  have e1:e.region r=(0,decide (r=0)):=by unfold En.region;rw[hf];rfl
  rw[e1]at hk
  simp[fD]
  exact⟨hg,hlow _ _,hk⟩
 | cons q l=>
  obtain⟨a,b⟩:=q
  simp[fD]
  by_cases hn:a=r
  ·have e1:e.region r=(b,true):=by unfold En.region;rw[hf];simp[hn]
   rw[e1]at hk
   simp[hn]
   exact⟨hg,hlow _ _,hk⟩
  ·simp[hn]
   exact⟨⟨l,rfl,by rw[hf];simp[hn]⟩,by simp[depth,depth.depths]⟩
theorem op_ev {o a b:Int} (hk:k (int (opF o a b)) σ):Ev PR 128 [u8 o,int a,int b] σ k kp:=by
 apply AL;unfold F128
 refine aM ?_
 unfold opF at hk
 by_cases h1:o=1
 ·subst h1;simpa using hk
 by_cases h2:o=2
 ·subst h2;simpa using hk
 by_cases h3:o=3
 ·subst h3;simpa using hk
 by_cases h4:o=4
 ·subst h4
  by_cases h:a<b
  ·simpa [h] using hk
  ·simpa [h] using hk
 by_cases h5:o=5
 ·subst h5
  by_cases h:a=b
  ·simpa [h] using hk
  ·simpa [h] using hk
 simpa [h1,h2,h3,h4,h5] using hk
def nc (kind:Int) (i:Bool) (n:Int) (x:ByteArray):AV:=.agg [u8 kind,bool i,int n,str x]
theorem om {kd i n x}:Dat (nc kd i n x):=Dat.agg (by simp[Dat.val])
theorem tC {x:ByteArray} {n:Int} (hk:k (nc 2 false n x) σ):Ev PR 45 [str x,int n] σ k kp:=by
 apply Ev.jc;apply EK;unfold F45
 simp
 exact⟨(aq.new _ _).set (Nat.le_refl _) _,om.low _,hk⟩
theorem wR {n:Int} (hk:k (nc 1 true n ByteArray.empty) σ):Ev PR 46 [int n] σ k kp:=by
 apply Ev.jc;apply EL;unfold F46
 simp
 exact⟨(aq.new _ _).set (Nat.le_refl _) _,om.low _,hk⟩
theorem zl (hk:k (nc 1 false 0 ByteArray.empty) σ):Ev PR 47 [] σ k kp:=by
 apply Ev.jc;apply EM;unfold F47
 simp
 exact⟨(aq.new _ _).set (Nat.le_refl _) _,om.low _,hk⟩
theorem jU {v:V} (hk:v.kind=1→∀τ,aq σ τ→k (int v.n) τ) (hp:v.kind≠1→∀τ,aq σ τ→kp (.iface 102 (.agg [u8 6])) τ):Ev PR 93 [vV v] σ k kp:=by
 apply Fm;unfold F93
 simp[V.av,an]
 refine cy (fun h=> ?_) (fun h=> ?_)
 ·simp[an]
  exact hk (by simpa using h) _ (aq.new _ _)
 ·exact hp (by simpa using h) _ (aq.new _ _)
end Go.Abs.Mac
