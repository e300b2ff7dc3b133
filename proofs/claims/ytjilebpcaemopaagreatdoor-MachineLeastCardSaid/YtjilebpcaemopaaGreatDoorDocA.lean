import Derived.Test.YtjilebpcaemopaaGreatDoorDocB
import Derived.Test.YtjilebpcaemopaaGreatDoorMacA
import Derived.Test.YtjilebpcaemopaaGreatDoorAbsO
set_option linter.unusedVariables false
set_option linter.unusedSimpArgs false
set_option linter.deprecated false
namespace Go.Abs.Mac
open Go Go.Abs Go.Abs.Stk Go.Abs.At Go.Proofs.DocD
variable {σ τ:AHeap} {K kp:AV→AHeap→Prop}
attribute [local simp] Nat.add_assoc
def nmC (n:Nm):List AV:=[str n.name,u8 n.v.kind,int n.v.n,int n.v.r,int n.v.a,bool n.fn]
def rgC (p:Int × Int):List AV:=[int p.1,int p.2]
def eC (e:En):List AV:=[.sl false 6 (e.names.map nmC).reverse,.sl false 2 (e.rhos.map rgC).reverse]
abbrev eV (e:En):AV:=.agg (eC e)
def coC (c:Co):List AV:=c.body.av ++ (str c.arg :: (eC c.env ++ [rhosV c.rsl]))
def endO:Out→Int
  | .over k=>k
  | _=>0
def raisesO:Out→Bool
  | .exn _ _=>true
  | _=>false
def exnO:Out→ByteArray
  | .exn _ x=>x
  | _=>ByteArray.empty
def nO:Out→Int
  | .exn n _=>n
  | _=>0
def vO:Out→V
  | .val v=>v
  | _=>V.zero
def sC (fuel:Nat) (s:Sa) (o:Out):List AV :=
  [int s.store.R,int s.store.C,.sl false 2 (rowsV (avS s.store).L),int s.store.most,int fuel,int s.steps,.sl false 23 (s.codes.map coC),u8 (endO o),bool (raisesO o),str (exnO o),int (nO o)]
abbrev sV (fuel:Nat) (s:Sa) (o:Out):AV:=.agg (sC fuel s o)
abbrev O0:Out:=.val V.zero
abbrev resV (fuel:Nat) (s:Sa) (o:Out):AV:=.tup [sV fuel s o,.agg (vO o).av]
theorem nmC_dat (l:List Nm):∀ el ∈ l.map nmC,∀ x ∈ el,Dat x:=by
  intro el hel
  obtain ⟨n,_,rfl⟩:=List.mem_map.1 hel
  simp [nmC,Dat.val]
theorem rgC_dat (l:List (Int × Int)):∀ el ∈ l.map rgC,∀ x ∈ el,Dat x:=by
  intro el hel
  obtain ⟨n,_,rfl⟩:=List.mem_map.1 hel
  simp [rgC,Dat.val]
theorem eC_dat (e:En):∀ x ∈ eC e,Dat x:=by
  simp only [eC,List.mem_cons,List.mem_nil_iff,or_false]
  rintro x (rfl | rfl)
  · exact .sl fun el hel x hx=>nmC_dat _ el (List.mem_reverse.1 hel) x hx
  · exact .sl fun el hel x hx=>rgC_dat _ el (List.mem_reverse.1 hel) x hx
theorem av_dat (v:V):∀ x ∈ v.av,Dat x:=by simp [V.av,Dat.val]
theorem num_ref {n:Int} (hk:K (.agg (num n).av) σ):Ev PR 52 [int n] σ K kp:=by
  refine Ev.pureD hk ((Dat.agg (av_dat _)).low _) fun k' hk'=>?_
  apply F52_ev;unfold F52
  simp [get_new]
  exact hk' _ ((Grows.new _ _).set (Nat.le_refl _) _)
theorem opF_ref {o a b:Int} (hk:K (int (opF o a b)) σ):Ev PR 101 [u8 o,int a,int b] σ K kp:=by
  apply F101_ev;unfold F101
  unfold opF at hk
  by_cases h1:o=1
  · subst h1;simpa using hk
  by_cases h2:o=2
  · subst h2;simpa using hk
  by_cases h3:o=3
  · subst h3;simpa using hk
  simp only [if_neg h1,if_neg h2,if_neg h3] at hk
  by_cases h4:o=4
  · subst h4
    by_cases h:a < b
    · simpa [h] using hk
    · simpa [h] using hk
  by_cases h5:o=5
  · subst h5
    by_cases h:a=b
    · simpa [h] using hk
    · simpa [h] using hk
  simpa [h1,h2,h3,h4,h5] using hk
theorem stop_ref {fuel:Nat} {s:Sa} {o:Out} (hend:∀ k,o=.over k→k ≠ 0) (hk:∀ b:Bool,(b=false↔o.isVal)→K (bool b) σ):Ev PR 55 [sV fuel s o] σ K kp:=by
  refine Ev.pureE ?_
  apply F55_ev;unfold F55
  cases o with
  | val v=>simp [sC,endO,raisesO];exact ⟨Grows.new _ _,.val _,hk false (by simp [Out.isVal])⟩
  | exn n x=>simp [sC,endO,raisesO];exact ⟨Grows.new _ _,.val _,hk true (by simp [Out.isVal])⟩
  | over k=>simp [sC,endO,raisesO,hend k rfl];exact ⟨Grows.new _ _,.val _,hk true (by simp [Out.isVal])⟩
theorem rev_at {α:Type} {l pre m:List α} {x:α} (h:l=pre ++ x :: m):l.reverse[m.length]?=some x:=by
  rw [h];simp
theorem find_ref {e:En} {nm:ByteArray} (hl:e.names.length < 1000000000000) (hk:match e.find nm with | none=>K (int (-1)) σ | some n=>∀ i:Nat,(e.names.reverse)[i]?=some n→K (int i) σ):Ev PR 53 [eV e,str nm] σ K kp:=by
  refine Ev.pureE ?_
  apply F53_ev;unfold F53
  refine seqW_in ?_
  have hlen:∀ ω,aLenK .slice (.sl false 6 (e.names.map nmC).reverse) ω=some (int e.names.length):=fun ω=>by simp
  simp [eC,get_new,hlen]
  rw [wrap64 (by omega)]
  have hg:Grows σ (σ.new (.cells 2 [eC e])):=Grows.new _ _
  have g0:(σ.new (.cells 2 [eC e])).get σ.next=some (.cells 2 [eC e]):=by simp [get_new]
  simp only [eC] at hg g0
  generalize σ.new (.cells 2 [[.sl false 6 (e.names.map nmC).reverse,.sl false 2 (e.rhos.map rgC).reverse]])=τ at hg g0
  refine loopW_by (fun l:List Nm=>[(1,str nm),(2,.ptr σ.next 0 0),(5,int ((l.length:Int) - 1))]) (fun l υ=>υ=τ∧∃ pre,e.names=pre ++ l∧e.find nm=l.find? fun n=>n.name=nm) (fun fr _=>(intOf (look fr 5)+1).toNat) e.names rfl ⟨rfl,[],rfl,rfl⟩ ?_
  rintro l υ ⟨rfl,pre,hp,hf⟩
  cases l with
  | nil =>
    simp
    rw [hf] at hk
    exact ⟨hg,.val _,hk⟩
  | cons n l =>
    have hia:∀ ω,aIndexAddr 6 (.sl false 6 (e.names.map nmC).reverse) (int l.length) ω=some (.ref (nmC n)):=fun ω=>by rw [aIndexAddr_sl];simp [← List.map_reverse,rev_at hp]
    simp [g0,hia,nmC]
    by_cases hn:n.name=nm
    · simp [hn]
      rw [hf] at hk
      simp [hn] at hk
      exact ⟨hg,.val _,hk _ (rev_at hp)⟩
    · simp [hn]
      have hll:e.names.length=pre.length+(l.length+1):=by rw [hp];simp
      rw [wrap64 (by omega)]
      refine ⟨⟨l,rfl,⟨pre ++ [n],by simp [hp]⟩,by rw [hf];simp [hn]⟩,by omega⟩
theorem region_ref {e:En} {r:Int} (hl:e.rhos.length < 1000000000000) (hk:K (.tup [int (e.region r).1,bool (e.region r).2]) σ):Ev PR 100 [eV e,int r] σ K kp:=by
  refine Ev.pureD hk ((Dat.tup (by simp [Dat.val])).low _) fun k' hk'=>?_
  apply F100_ev;unfold F100
  obtain ⟨J,hJ⟩:∃ J:AFrame→AHeap→Prop,∀ fr υ,J fr υ↔fr=[(1,int r)]∧Grows σ υ∧e.region r=(0,decide (r=0)):=⟨_,fun _ _=>Iff.rfl⟩
  refine seqW_by J ?_ ?_
  rotate_left
  · intro fr υ hj
    obtain ⟨rfl,hg,he⟩:=(hJ _ _).1 hj
    rw [he] at hk'
    simp
    exact hk' _ hg
  have hlen:∀ ω,aLenK .slice (.sl false 2 (e.rhos.map rgC).reverse) ω=some (int e.rhos.length):=fun ω=>by simp
  simp [eC,get_new,hlen]
  rw [wrap64 (by omega)]
  have hg:Grows σ (σ.new (.cells 2 [eC e])):=Grows.new _ _
  have g0:(σ.new (.cells 2 [eC e])).get σ.next=some (.cells 2 [eC e]):=by simp [get_new]
  simp only [eC] at hg g0
  generalize σ.new (.cells 2 [[.sl false 6 (e.names.map nmC).reverse,.sl false 2 (e.rhos.map rgC).reverse]])=τ at hg g0
  refine loopW_by (fun l:List (Int × Int)=>[(1,int r),(2,.ptr σ.next 0 0),(6,int ((l.length:Int) - 1))]) (fun l υ=>υ=τ∧∃ pre,e.rhos=pre ++ l∧e.rhos.find? (fun q=>q.1=r)=l.find? fun q=>q.1=r) (fun fr _=>(intOf (look fr 6)+1).toNat) e.rhos rfl ⟨rfl,[],rfl,rfl⟩ ?_
  rintro l υ ⟨rfl,pre,hp,hf⟩
  cases l with
  | nil =>
    simp
    exact (hJ _ _).2 ⟨rfl,hg,by unfold En.region;rw [hf];rfl⟩
  | cons q l =>
    have hia:∀ ω,aIndexAddr 2 (.sl false 2 (e.rhos.map rgC).reverse) (int l.length) ω=some (.ref (rgC q)):=fun ω=>by rw [aIndexAddr_sl];simp [← List.map_reverse,rev_at hp]
    obtain ⟨a,b⟩:=q
    simp [g0,hia,rgC]
    by_cases hn:a=r
    · have e1:e.region r=(b,true):=by unfold En.region;rw [hf];simp [hn]
      rw [e1] at hk'
      simp [hn,g0,hia,rgC]
      exact hk' _ hg
    · simp [hn]
      have hll:e.rhos.length=pre.length+(l.length+1):=by rw [hp];simp
      rw [wrap64 (by omega)]
      refine ⟨⟨l,rfl,⟨pre ++ [(a,b)],by simp [hp]⟩,by rw [hf];simp [hn]⟩,by omega⟩
theorem app_sl0 {sz bytes:Nat} {c:Bool} {ys:List (List AV)} (hb:ys.length * bytes≤140737488355328∧ys.length≤140737488355328):aAppend sz bytes (.sl true sz []) (.sl c sz ys) σ=some (.own σ.next ys.length,σ.new (.cells sz ys)):=by
  simp [aAppend,elsOf,hb]
theorem app_own {sz bytes id:Nat} {c:Bool} {xs ys:List (List AV)} (hg:σ.get id=some (.cells sz xs)) (hb:(xs.length+ys.length) * bytes≤140737488355328∧xs.length+ys.length≤140737488355328):aAppend sz bytes (.own id xs.length) (.sl c sz ys) σ=some (.own σ.next (xs.length+ys.length),(σ.del id).new (.cells sz (xs ++ ys))):=by
  simp [aAppend,elsOf,hb,hg]
theorem app_own2 {sz bytes id jd:Nat} {xs ys:List (List AV)} (hg:σ.get id=some (.cells sz xs)) (hj:σ.get jd=some (.cells sz ys)) (hb:(xs.length+ys.length) * bytes≤140737488355328∧xs.length+ys.length≤140737488355328):aAppend sz bytes (.own id xs.length) (.own jd ys.length) σ=some (.own σ.next (xs.length+ys.length),(σ.del id).new (.cells sz (xs ++ ys))):=by
  simp [aAppend,elsOf,hb,hg,hj]
theorem frz_row {id sz n len:Nat} {els:List (List AV)} (hg:τ.get id=some (.cells sz els)) (hn:n≤id) (hl:len=els.length) (hd:∀ el ∈ els,∀ x ∈ el,Dat x):Frz τ n (.own id len) (.sl false sz els) :=
  (FrzR.refl fun el hel x hx=>(hd el hel x hx).low n).own hn hl (rest:=[]) (by simpa using hg)
theorem with_ref {e:En} {nm:ByteArray} {v:V} {b:Bool} (hl:e.names.length < 1000000000000) (hk:K (eV (e.with nm v b)) σ):Ev PR 56 [eV e,str nm,.agg v.av,bool b] σ K kp:=by
  refine Ev.pure ?_
  apply F56_ev;unfold F56
  simp [eC,get_new,V.av]
  generalize hτ:AHeap.new _ (.cells 2 [[_,_]])=τ
  have hn:τ.next=σ.next+3:=by rw [← hτ];rfl
  have hg:Grows σ τ:=by rw [← hτ];exact ((Grows.new _ _).trans (Grows.new _ _)).trans (Grows.new _ _)
  have t0:τ.get σ.next=some (.cells 2 [eC e]):=by rw [← hτ];simp [get_new,eC]
  have t1:τ.get (σ.next+1)=some (.cells 4 [v.av]):=by rw [← hτ];simp [get_new,V.av]
  have t2:τ.get (σ.next+2)=some (.cells 2 [[nilSl,nilSl]]):=by rw [← hτ];simp [get_new]
  clear hτ
  refine stepK_of (app_sl0 (by simp;omega)) ?_
  have l4:v.av.length=4:=rfl
  simp [get_new,hn,t1,V.av]
  have ha:=app_own (σ:=τ.new (.cells 6 (e.names.map nmC).reverse)) (sz:=6) (bytes:=56) (id:=τ.next) (c:=true) (xs:=(e.names.map nmC).reverse) (ys:=[nmC ⟨nm,v,b⟩]) (by simp [get_new]) (by simp;omega)
  simp [hn] at ha
  refine stepK_of ha ?_
  simp [get_new,get_del,get_set,hn,t0,t2,eC]
  have ew:eV (e.with nm v b)=.agg [.sl false 6 ((e.names.map nmC).reverse ++ [nmC ⟨nm,v,b⟩]),.sl false 2 (e.rhos.map rgC).reverse]:=by simp [eV,eC,En.with]
  refine ⟨⟨by simp [hn],fun i hi=>?_⟩,eV (e.with nm v b),?_,hk⟩
  · simp only [get_set,get_new,get_del,AHeap.new_next,AHeap.del_next,hn]
    rw [if_neg (by omega),if_neg (by omega),if_neg (by omega),if_neg (by omega),if_neg (by omega)]
    exact hg.get i hi
  · rw [ew]
    refine FrzL.agg (.cons (frz_row ?_ (by omega) (by simp) fun el hel=>?_) (.cons (.low ((Dat.sl fun el hel x hx=>rgC_dat _ el (List.mem_reverse.1 hel) x hx).low _)) .nil))
    · simp [get_new,get_set,hn]
    · rcases List.mem_append.1 hel with h | h
      · exact nmC_dat _ el (List.mem_reverse.1 h)
      · exact nmC_dat [⟨nm,v,b⟩] el (by simpa using h)
theorem open_ref {e:En} {r q:Int} (hl:e.rhos.length < 1000000000000) (hk:K (eV (e.opn r q)) σ):Ev PR 96 [eV e,int r,int q] σ K kp:=by
  refine Ev.pure ?_
  apply F96_ev;unfold F96
  simp [eC,get_new]
  generalize hτ:AHeap.new _ (.cells 2 [])=τ
  have hn:τ.next=σ.next+3:=by rw [← hτ];rfl
  have hg:Grows σ τ:=by rw [← hτ];exact ((Grows.new _ _).trans (Grows.new _ _)).trans (Grows.new _ _)
  have t0:τ.get σ.next=some (.cells 2 [eC e]):=by rw [← hτ];simp [get_new,eC]
  have t1:τ.get (σ.next+1)=some (.cells 2 [[nilSl,nilSl]]):=by rw [← hτ];simp [get_new]
  have t2:τ.get (σ.next+2)=some (.cells 2 []):=by rw [← hτ];simp [get_new]
  clear hτ
  have ha:=app_own (σ:=τ) (sz:=2) (bytes:=16) (id:=σ.next+2) (c:=false) (xs:=[]) (ys:=(e.rhos.map rgC).reverse) t2 (by simp;omega)
  simp at ha
  refine stepK_of ha ?_
  have hb:=app_own2 (σ:=((τ.del (σ.next+2)).new (.cells 2 (e.rhos.map rgC).reverse)).new (.cells 2 [rgC (r,q)])) (sz:=2) (bytes:=16) (id:=τ.next) (jd:=τ.next+1) (xs:=(e.rhos.map rgC).reverse) (ys:=[rgC (r,q)]) (by simp [get_new]) (by simp [get_new]) (by simp;omega)
  simp [rgC] at hb
  simp [get_new]
  refine stepK_of hb ?_
  simp [get_new,get_del,get_set,hn,t0,t1,eC]
  have ew:eV (e.opn r q)=.agg [.sl false 6 (e.names.map nmC).reverse,.sl false 2 ((e.rhos.map rgC).reverse ++ [rgC (r,q)])]:=by simp [eV,eC,En.opn]
  refine ⟨⟨by simp [hn],fun i hi=>?_⟩,eV (e.opn r q),?_,hk⟩
  · simp only [get_set,get_new,get_del,AHeap.new_next,AHeap.del_next,hn]
    repeat' rw [if_neg (by omega)]
    exact hg.get i hi
  · rw [ew]
    refine FrzL.agg (.cons (.low ((Dat.sl fun el hel x hx=>nmC_dat _ el (List.mem_reverse.1 hel) x hx).low _)) (.cons (frz_row ?_ (by omega) (by simp) fun el hel=>?_) .nil))
    · simp [get_new,get_set,hn,rgC]
    · rcases List.mem_append.1 hel with h | h
      · exact rgC_dat _ el (List.mem_reverse.1 h)
      · exact rgC_dat [(r,q)] el (by simpa using h)
end Go.Abs.Mac
