import Derived.Test.YtjilebpcaemopaaGreatDoorMStkC
import Derived.Test.YtjilebpcaemopaaGreatDoorMacM
import Derived.Test.YtjilebpcaemopaaGreatDoorAbsO
set_option linter.unusedVariables false
set_option linter.unusedSimpArgs false
set_option linter.deprecated false
namespace Go.Abs.Mac
open Go Go.Abs Go.Abs.Stk Go.Abs.At Go.Proofs.MacD
noncomputable abbrev PR:=Go.Proofs.Tryz.prog
abbrev int (n:Int):AV:=.val (.int .i64 n)
abbrev u8 (n:Int):AV:=.val (.int .u8 n)
abbrev str (s:ByteArray):AV:=.val (.string s)
abbrev bool (b:Bool):AV:=.val (.bool b)
abbrev fQ:AV:=.val (.pointer none)
abbrev bg:AV:=.val (.slice none 0 0)
def bQ:List Nm→AV
 | []=>fQ
 | n::l=>.ref [str n.name,u8 n.v.kind,int n.v.n,int n.v.r,int n.v.a,bool n.fn,bQ l]
def fZ:List (Int×Int)→AV
 | []=>fQ
 | (a,b)::l=>.ref [int a,int b,fZ l]
def bK (e:En):List AV:=[bQ e.names,fZ e.aG]
abbrev dI (e:En):AV:=.agg (bK e)
abbrev vV (v:V):AV:=.agg v.av
theorem jq:∀l:List Nm,Dat (bQ l)
 | []=>.val _
 | n::l=>by
  refine Dat.ref fun x hx=> ?_
  simp only[List.mem_cons,List.not_mem_nil,or_false]at hx
  rcases hx with rfl | rfl | rfl | rfl | rfl | rfl | rfl
  ·exact .val _
  ·exact .val _
  ·exact .val _
  ·exact .val _
  ·exact .val _
  ·exact .val _
  ·exact jq l
theorem pL:∀l:List (Int×Int),Dat (fZ l)
 | []=>.val _
 | (a,b)::l=>by
  refine Dat.ref fun x hx=> ?_
  simp only[List.mem_cons,List.not_mem_nil,or_false]at hx
  rcases hx with rfl | rfl | rfl
  ·exact .val _
  ·exact .val _
  ·exact pL l
@[simp] theorem Da (l:List Nm):bq (bQ l)=some [bQ l]:=by cases l<;>rfl
@[simp] theorem GI (l:List (Int×Int)):bq (fZ l)=some [fZ l]:=by cases l<;>rfl
variable {σ:ah} {k kp:AV→ah→Prop}
theorem cJ {b:Bool} {kd:Int} (hk:b=true→k (.tup []) σ) (hp:b=false→kp (.iface 102 (.agg [u8 kd])) σ):Ev PR 79 [bool b,u8 kd] σ k kp:=by
 apply Fo;unfold F79
 cases b with
 | true=>simpa using hk rfl
 | false=>simpa [pz] using hp rfl
theorem rZ {n:Int} (hk:k (vV (num n)) σ):Ev PR 83 [int n] σ k kp:=by
 apply Ev.pure;apply Ft;unfold F83
 simp[num,V.av]
 exact⟨(aq.new _ _).set (Nat.le_refl _) _,_,.low ((Dat.agg (by simp[Dat.val])).low _),hk⟩
def nxV (t n r:AV) (v:V) (b:Bool) (x:ByteArray):AV:=.agg [t,n,r,u8 v.kind,int v.n,int v.r,int v.a,bool b,str x]
def Nx.av:Nx→AV
 | .node t e=>nxV (.ref t.av) (bQ e.names) (fZ e.aG) V.zero false ByteArray.empty
 | .val v=>nxV fQ fQ fQ v false ByteArray.empty
 | .exn n x=>nxV fQ fQ fQ (num n) true x
theorem dQ {v:V} (hk:k (Nx.av (.val v)) σ):Ev PR 82 [vV v] σ k kp:=by
 apply Ev.pure;apply Fs;unfold F82
 simp[V.av,Nx.av,nxV,an,au]at hk⊢
 exact⟨((aq.new _ _).trans (aq.new _ _)).set (by simp) _,_,.low ((Dat.agg (by simp[Dat.val])).low _),hk⟩
theorem oo {e:En} {nm:ByteArray} {v:V} {b:Bool} (hk:k (dI (e.with nm v b)) σ):Ev PR 88 [dI e,str nm,vV v,bool b] σ k kp:=by
 apply Ev.pure;apply Fy;unfold F88
 simp[V.av,bK,an,au,Nat.add_assoc]
 refine⟨((((((aq.new _ _).trans (aq.new _ _)).trans (aq.new _ _)).trans (aq.new _ _)).set (by simp) _).set (by simp) _),dI (e.with nm v b),?_,hk⟩
 refine eQ.agg (.cons ?_ (.cons (.low ((pL _).low _)) .nil))
 refine .ptr (el:=[str nm,u8 v.kind,int v.n,int v.r,int v.a,bool b,bQ e.names]) (by omega) (by simp[au,an]) rfl fun j x y h1 h2=> ?_
 have:x=y:=Option.some.inj (h1.symm.trans (by simpa [En.with] using h2))
 subst this
 refine .low (Dat.low ?_ _)
 have hx:=List.mem_of_getElem? h2
 simp only[List.mem_cons,List.not_mem_nil,or_false]at hx
 rcases hx with rfl | rfl | rfl | rfl | rfl | rfl | rfl
 ·exact .val _
 ·exact .val _
 ·exact .val _
 ·exact .val _
 ·exact .val _
 ·exact .val _
 ·exact jq _
theorem wm {e:En} {a b:Int} (hk:k (dI (e.opn a b)) σ):Ev PR 80 [dI e,int a,int b] σ k kp:=by
 apply Ev.pure;apply Fp;unfold F80
 simp[bK,an,au,Nat.add_assoc]
 refine⟨(((((aq.new _ _).trans (aq.new _ _)).trans (aq.new _ _)).set (by simp) _).set (by simp) _),dI (e.opn a b),?_,hk⟩
 refine eQ.agg (.cons (.low ((jq _).low _)) (.cons ?_ .nil))
 refine .ptr (el:=[int a,int b,fZ e.aG]) (by omega) (by simp[au,an]) rfl fun j x y h1 h2=> ?_
 have:x=y:=Option.some.inj (h1.symm.trans (by simpa [En.opn] using h2))
 subst this
 refine .low (Dat.low ?_ _)
 have hx:=List.mem_of_getElem? h2
 simp only[List.mem_cons,List.not_mem_nil,or_false]at hx
 rcases hx with rfl | rfl | rfl
 ·exact .val _
 ·exact .val _
 ·exact pL _
def depth:AV→Nat
 | .ref cs=>depths cs+1
 | _=>0
where depths:List AV→Nat
 | []=>0
 | x::xs=>depth x+depths xs
theorem vZ {e:En} {nm:ByteArray} (h0:e.find nm=none→k fQ σ) (h1:∀n l,e.find nm=some n→k (bQ (n::l)) σ):Ev PR 84 [dI e,str nm] σ k kp:=by
 apply Ev.jE;apply Fu;unfold F84
 simp[bK,an,au,Nat.add_assoc]
 refine aL ?_
 simp[an]
 have hg:aq σ (σ.new (.cells 2 [[bQ e.names,fZ e.aG]])):=aq.new _ _
 generalize hτ:σ.new (.cells 2 [[bQ e.names,fZ e.aG]])=τ at hg
 refine ba (fun l:List Nm=>[(1,str nm),(5,bQ l)]) (fun l τ'=>τ'=τ∧e.find nm=l.find? fun n=>n.name=nm) (fun fr _=>depth (aa fr 5)) e.names rfl ⟨rfl,rfl⟩ ?_
 rintro l τ' ⟨rfl,hf⟩
 cases l with
 | nil=>
  simp[bQ]
  exact⟨hg,(Dat.val _).low _,h0 hf⟩
 | cons n l=>
  simp[bQ]
  by_cases hn:n.name=nm
  ·simp[hn]
   refine⟨hg,(jq (n::l)).low _ |> fun h=>by simpa [bQ,hn] using h,?_⟩
   have:=h1 n l (by rw[hf];simp[hn])
   simpa [bQ,hn] using this
  ·simp[hn]
   exact⟨⟨l,rfl,by rw[hf];simp[hn]⟩,by simp[depth,depth.depths]⟩
theorem qS {e:En} {r:Int} (hk:k (.tup [int (e.region r).1,bool (e.region r).2]) σ):Ev PR 124 [dI e,int r] σ k kp:=by
 apply Ev.jE;apply AW;unfold F124
 simp[bK,an,au,Nat.add_assoc]
 refine aL ?_
 simp[an]
 have hg:aq σ (σ.new (.cells 2 [[bQ e.names,fZ e.aG]])):=aq.new _ _
 generalize hτ:σ.new (.cells 2 [[bQ e.names,fZ e.aG]])=τ at hg
 have hlow:∀(a:Int) (b:Bool),Low σ.next (.tup [int a,bool b]):=fun a b=>(Dat.tup (by simp[Dat.val])).low _
 refine ba (fun l:List (Int×Int)=>[(1,int r),(6,fZ l)]) (fun l τ'=>τ'=τ∧e.aG.find? (fun q=>q.1=r)=l.find? fun q=>q.1=r) (fun fr _=>depth (aa fr 6)) e.aG rfl ⟨rfl,rfl⟩ ?_
 rintro l τ' ⟨rfl,hf⟩
 cases l with
 | nil=>
  have e1:e.region r=(0,decide (r=0)):=by unfold En.region;rw[hf];rfl
  rw[e1]at hk
  simp[fZ]
  exact⟨hg,hlow _ _,hk⟩
 | cons q l=>
  obtain⟨a,b⟩:=q
  simp[fZ]
  by_cases hn:a=r
  ·have e1:e.region r=(b,true):=by unfold En.region;rw[hf];simp[hn]
   rw[e1]at hk
   simp[hn]
   exact⟨hg,hlow _ _,hk⟩
  ·simp[hn]
   exact⟨⟨l,rfl,by rw[hf];simp[hn]⟩,by simp[depth,depth.depths]⟩
theorem op_ev {o a b:Int} (hk:k (int (opF o a b)) σ):Ev PR 128 [u8 o,int a,int b] σ k kp:=by
 apply A3;unfold F128
 refine aL ?_
 unfold opF at hk
 by_cases h1:o=1
 ·subst h1;simpa using hk
 by_cases h2:o=2
 ·subst h2;simpa using hk
 by_cases h3:o=3
 ·subst h3;simpa using hk
 by_cases h4:o=4
 ·subst h4
  by_cases h:a<b
  ·simpa [h] using hk
  ·simpa [h] using hk
 by_cases h5:o=5
 ·subst h5
  by_cases h:a=b
  ·simpa [h] using hk
  ·simpa [h] using hk
 simpa [h1,h2,h3,h4,h5] using hk
def nN (kind:Int) (i:Bool) (n:Int) (x:ByteArray):AV:=.agg [u8 kind,bool i,int n,str x]
theorem oR {kd i n x}:Dat (nN kd i n x):=Dat.agg (by simp[Dat.val])
theorem uc {x:ByteArray} {n:Int} (hk:k (nN 2 false n x) σ):Ev PR 45 [str x,int n] σ k kp:=by
 apply Ev.jE;apply E1;unfold F45
 simp
 exact⟨(aq.new _ _).set (Nat.le_refl _) _,oR.low _,hk⟩
theorem w9 {n:Int} (hk:k (nN 1 true n ByteArray.empty) σ):Ev PR 46 [int n] σ k kp:=by
 apply Ev.jE;apply E2;unfold F46
 simp
 exact⟨(aq.new _ _).set (Nat.le_refl _) _,oR.low _,hk⟩
theorem zy (hk:k (nN 1 false 0 ByteArray.empty) σ):Ev PR 47 [] σ k kp:=by
 apply Ev.jE;apply E3;unfold F47
 simp
 exact⟨(aq.new _ _).set (Nat.le_refl _) _,oR.low _,hk⟩
theorem kD {v:V} (hk:v.kind=1→∀τ,aq σ τ→k (int v.n) τ) (hp:v.kind≠1→∀τ,aq σ τ→kp (.iface 102 (.agg [u8 6])) τ):Ev PR 93 [vV v] σ k kp:=by
 apply FE;unfold F93
 simp[V.av,an]
 refine cJ (fun h=> ?_) (fun h=> ?_)
 ·simp[an]
  exact hk (by simpa using h) _ (aq.new _ _)
 ·exact hp (by simpa using h) _ (aq.new _ _)
end Go.Abs.Mac
