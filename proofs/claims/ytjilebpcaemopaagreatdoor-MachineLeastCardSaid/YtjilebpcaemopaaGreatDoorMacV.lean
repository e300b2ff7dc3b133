import Derived.Test.YtjilebpcaemopaaGreatDoorMStkC
import Derived.Test.YtjilebpcaemopaaGreatDoorMacM
import Derived.Test.YtjilebpcaemopaaGreatDoorAbsO
set_option linter.unusedVariables false
set_option linter.unusedSimpArgs false
set_option linter.deprecated false
namespace Go.Abs.Mac
open Go Go.Abs Go.Abs.Stk Go.Abs.At Go.Proofs.MacD
noncomputable abbrev PR:=Go.Proofs.Tryz.prog
abbrev int (n:Int):AV:=.val (.int .i64 n)
abbrev u8 (n:Int):AV:=.val (.int .u8 n)
abbrev str (s:ByteArray):AV:=.val (.string s)
abbrev bool (b:Bool):AV:=.val (.bool b)
abbrev nilP:AV:=.val (.pointer none)
abbrev nilSl:AV:=.val (.slice none 0 0)
def namesV:List Nm→AV
  | []=>nilP
  | n :: l=>.ref [str n.name,u8 n.v.kind,int n.v.n,int n.v.r,int n.v.a,bool n.fn,namesV l]
def rhoV:List (Int × Int)→AV
  | []=>nilP
  | (a,b) :: l=>.ref [int a,int b,rhoV l]
def envC (e:En):List AV:=[namesV e.names,rhoV e.rhos]
abbrev envV (e:En):AV:=.agg (envC e)
abbrev vV (v:V):AV:=.agg v.av
theorem namesV_dat:∀ l:List Nm,Dat (namesV l)
  | []=>.val _
  | n :: l=>by
    refine Dat.ref fun x hx=>?_
    simp only [List.mem_cons,List.not_mem_nil,or_false] at hx
    rcases hx with rfl | rfl | rfl | rfl | rfl | rfl | rfl
    · exact .val _
    · exact .val _
    · exact .val _
    · exact .val _
    · exact .val _
    · exact .val _
    · exact namesV_dat l
theorem rhoV_dat:∀ l:List (Int × Int),Dat (rhoV l)
  | []=>.val _
  | (a,b) :: l=>by
    refine Dat.ref fun x hx=>?_
    simp only [List.mem_cons,List.not_mem_nil,or_false] at hx
    rcases hx with rfl | rfl | rfl
    · exact .val _
    · exact .val _
    · exact rhoV_dat l
@[simp] theorem namesV_cells (l:List Nm):acells (namesV l)=some [namesV l]:=by cases l <;> rfl
@[simp] theorem rhoV_cells (l:List (Int × Int)):acells (rhoV l)=some [rhoV l]:=by cases l <;> rfl
variable {σ:AHeap} {k kp:AV→AHeap→Prop}
theorem must_ev {b:Bool} {kd:Int} (hk:b=true→k (.tup []) σ) (hp:b=false→kp (.iface 102 (.agg [u8 kd])) σ):Ev PR 79 [bool b,u8 kd] σ k kp:=by
  apply F79_ev;unfold F79
  cases b with
  | true=>simpa using hk rfl
  | false=>simpa [panicK] using hp rfl
theorem num_ev {n:Int} (hk:k (vV (num n)) σ):Ev PR 83 [int n] σ k kp:=by
  apply Ev.pure;apply F83_ev;unfold F83
  simp [num,V.av]
  exact ⟨(Grows.new _ _).set (Nat.le_refl _) _,_,.low ((Dat.agg (by simp [Dat.val])).low _),hk⟩
def nxV (t n r:AV) (v:V) (b:Bool) (x:ByteArray):AV:=.agg [t,n,r,u8 v.kind,int v.n,int v.r,int v.a,bool b,str x]
def Nx.av:Nx→AV
  | .node t e=>nxV (.ref t.av) (namesV e.names) (rhoV e.rhos) V.zero false ByteArray.empty
  | .val v=>nxV nilP nilP nilP v false ByteArray.empty
  | .exn n x=>nxV nilP nilP nilP (num n) true x
theorem back_ev {v:V} (hk:k (Nx.av (.val v)) σ):Ev PR 82 [vV v] σ k kp:=by
  apply Ev.pure;apply F82_ev;unfold F82
  simp [V.av,Nx.av,nxV,get_new,get_set] at hk ⊢
  exact ⟨((Grows.new _ _).trans (Grows.new _ _)).set (by simp) _,_,.low ((Dat.agg (by simp [Dat.val])).low _),hk⟩
theorem with_ev {e:En} {nm:ByteArray} {v:V} {b:Bool} (hk:k (envV (e.with nm v b)) σ):Ev PR 88 [envV e,str nm,vV v,bool b] σ k kp:=by
  apply Ev.pure;apply F88_ev;unfold F88
  simp [V.av,envC,get_new,get_set,Nat.add_assoc]
  refine ⟨((((((Grows.new _ _).trans (Grows.new _ _)).trans (Grows.new _ _)).trans (Grows.new _ _)).set (by simp) _).set (by simp) _),envV (e.with nm v b),?_,hk⟩
  refine FrzL.agg (.cons ?_ (.cons (.low ((rhoV_dat _).low _)) .nil))
  refine .ptr (el:=[str nm,u8 v.kind,int v.n,int v.r,int v.a,bool b,namesV e.names]) (by omega) (by simp [get_set,get_new]) rfl fun j x y h1 h2=>?_
  have:x=y:=Option.some.inj (h1.symm.trans (by simpa [En.with] using h2))
  subst this
  refine .low (Dat.low ?_ _)
  have hx:=List.mem_of_getElem? h2
  simp only [List.mem_cons,List.not_mem_nil,or_false] at hx
  rcases hx with rfl | rfl | rfl | rfl | rfl | rfl | rfl
  · exact .val _
  · exact .val _
  · exact .val _
  · exact .val _
  · exact .val _
  · exact .val _
  · exact namesV_dat _
theorem open_ev {e:En} {a b:Int} (hk:k (envV (e.opn a b)) σ):Ev PR 80 [envV e,int a,int b] σ k kp:=by
  apply Ev.pure;apply F80_ev;unfold F80
  simp [envC,get_new,get_set,Nat.add_assoc]
  refine ⟨(((((Grows.new _ _).trans (Grows.new _ _)).trans (Grows.new _ _)).set (by simp) _).set (by simp) _),envV (e.opn a b),?_,hk⟩
  refine FrzL.agg (.cons (.low ((namesV_dat _).low _)) (.cons ?_ .nil))
  refine .ptr (el:=[int a,int b,rhoV e.rhos]) (by omega) (by simp [get_set,get_new]) rfl fun j x y h1 h2=>?_
  have:x=y:=Option.some.inj (h1.symm.trans (by simpa [En.opn] using h2))
  subst this
  refine .low (Dat.low ?_ _)
  have hx:=List.mem_of_getElem? h2
  simp only [List.mem_cons,List.not_mem_nil,or_false] at hx
  rcases hx with rfl | rfl | rfl
  · exact .val _
  · exact .val _
  · exact rhoV_dat _
def depth:AV→Nat
  | .ref cs=>depths cs+1
  | _=>0
where depths:List AV→Nat
  | []=>0
  | x :: xs=>depth x+depths xs
theorem find_ev {e:En} {nm:ByteArray} (h0:e.find nm=none→k nilP σ) (h1:∀ n l,e.find nm=some n→k (namesV (n :: l)) σ):Ev PR 84 [envV e,str nm] σ k kp:=by
  apply Ev.pureE;apply F84_ev;unfold F84
  simp [envC,get_new,get_set,Nat.add_assoc]
  refine seqW_in ?_
  simp [get_new]
  have hg:Grows σ (σ.new (.cells 2 [[namesV e.names,rhoV e.rhos]])):=Grows.new _ _
  generalize hτ:σ.new (.cells 2 [[namesV e.names,rhoV e.rhos]])=τ at hg
  refine loopW_by (fun l:List Nm=>[(1,str nm),(5,namesV l)]) (fun l τ'=>τ'=τ∧e.find nm=l.find? fun n=>n.name=nm) (fun fr _=>depth (look fr 5)) e.names rfl ⟨rfl,rfl⟩ ?_
  rintro l τ' ⟨rfl,hf⟩
  cases l with
  | nil =>
    simp [namesV]
    exact ⟨hg,(Dat.val _).low _,h0 hf⟩
  | cons n l =>
    simp [namesV]
    by_cases hn:n.name=nm
    · simp [hn]
      refine ⟨hg,(namesV_dat (n :: l)).low _ |> fun h=>by simpa [namesV,hn] using h,?_⟩
      have:=h1 n l (by rw [hf];simp [hn])
      simpa [namesV,hn] using this
    · simp [hn]
      exact ⟨⟨l,rfl,by rw [hf];simp [hn]⟩,by simp [depth,depth.depths]⟩
theorem region_ev {e:En} {r:Int} (hk:k (.tup [int (e.region r).1,bool (e.region r).2]) σ):Ev PR 124 [envV e,int r] σ k kp:=by
  apply Ev.pureE;apply F124_ev;unfold F124
  simp [envC,get_new,get_set,Nat.add_assoc]
  refine seqW_in ?_
  simp [get_new]
  have hg:Grows σ (σ.new (.cells 2 [[namesV e.names,rhoV e.rhos]])):=Grows.new _ _
  generalize hτ:σ.new (.cells 2 [[namesV e.names,rhoV e.rhos]])=τ at hg
  have hlow:∀ (a:Int) (b:Bool),Low σ.next (.tup [int a,bool b]):=fun a b=>(Dat.tup (by simp [Dat.val])).low _
  refine loopW_by (fun l:List (Int × Int)=>[(1,int r),(6,rhoV l)]) (fun l τ'=>τ'=τ∧e.rhos.find? (fun q=>q.1=r)=l.find? fun q=>q.1=r) (fun fr _=>depth (look fr 6)) e.rhos rfl ⟨rfl,rfl⟩ ?_
  rintro l τ' ⟨rfl,hf⟩
  cases l with
  | nil =>
    have e1:e.region r=(0,decide (r=0)):=by unfold En.region;rw [hf];rfl
    rw [e1] at hk
    simp [rhoV]
    exact ⟨hg,hlow _ _,hk⟩
  | cons q l =>
    obtain ⟨a,b⟩:=q
    simp [rhoV]
    by_cases hn:a=r
    · have e1:e.region r=(b,true):=by unfold En.region;rw [hf];simp [hn]
      rw [e1] at hk
      simp [hn]
      exact ⟨hg,hlow _ _,hk⟩
    · simp [hn]
      exact ⟨⟨l,rfl,by rw [hf];simp [hn]⟩,by simp [depth,depth.depths]⟩
theorem op_ev {o a b:Int} (hk:k (int (opF o a b)) σ):Ev PR 128 [u8 o,int a,int b] σ k kp:=by
  apply F128_ev;unfold F128
  refine seqW_in ?_
  unfold opF at hk
  by_cases h1:o=1
  · subst h1;simpa using hk
  by_cases h2:o=2
  · subst h2;simpa using hk
  by_cases h3:o=3
  · subst h3;simpa using hk
  by_cases h4:o=4
  · subst h4
    by_cases h:a < b
    · simpa [h] using hk
    · simpa [h] using hk
  by_cases h5:o=5
  · subst h5
    by_cases h:a=b
    · simpa [h] using hk
    · simpa [h] using hk
  simpa [h1,h2,h3,h4,h5] using hk
def endV (kind:Int) (i:Bool) (n:Int) (x:ByteArray):AV:=.agg [u8 kind,bool i,int n,str x]
theorem endV_dat {kd i n x}:Dat (endV kd i n x):=Dat.agg (by simp [Dat.val])
theorem uncaught_ev {x:ByteArray} {n:Int} (hk:k (endV 2 false n x) σ):Ev PR 45 [str x,int n] σ k kp:=by
  apply Ev.pureE;apply F45_ev;unfold F45
  simp
  exact ⟨(Grows.new _ _).set (Nat.le_refl _) _,endV_dat.low _,hk⟩
theorem endInt_ev {n:Int} (hk:k (endV 1 true n ByteArray.empty) σ):Ev PR 46 [int n] σ k kp:=by
  apply Ev.pureE;apply F46_ev;unfold F46
  simp
  exact ⟨(Grows.new _ _).set (Nat.le_refl _) _,endV_dat.low _,hk⟩
theorem other_ev (hk:k (endV 1 false 0 ByteArray.empty) σ):Ev PR 47 [] σ k kp:=by
  apply Ev.pureE;apply F47_ev;unfold F47
  simp
  exact ⟨(Grows.new _ _).set (Nat.le_refl _) _,endV_dat.low _,hk⟩
theorem number_ev {v:V} (hk:v.kind=1→∀ τ,Grows σ τ→k (int v.n) τ) (hp:v.kind ≠ 1→∀ τ,Grows σ τ→kp (.iface 102 (.agg [u8 6])) τ):Ev PR 93 [vV v] σ k kp:=by
  apply F93_ev;unfold F93
  simp [V.av,get_new]
  refine must_ev (fun h=>?_) (fun h=>?_)
  · simp [get_new]
    exact hk (by simpa using h) _ (Grows.new _ _)
  · exact hp (by simpa using h) _ (Grows.new _ _)
end Go.Abs.Mac
