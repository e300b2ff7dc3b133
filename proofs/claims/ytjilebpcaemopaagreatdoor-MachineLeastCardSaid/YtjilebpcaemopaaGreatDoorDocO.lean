import Derived.Test.YtjilebpcaemopaaGreatDoorDocF
import Derived.Test.YtjilebpcaemopaaGreatDoorDocDecR
import Derived.Test.YtjilebpcaemopaaGreatDoorMacM
import Derived.Test.YtjilebpcaemopaaGreatDoorMacRun3
import Derived.Test.YtjilebpcaemopaaGreatDoorAtNodesP
set_option linter.unusedVariables false
set_option linter.unusedSimpArgs false
set_option linter.deprecated false
namespace Go.Abs.Mac
open Go Go.Abs Go.Abs.Stk Go.Abs.At Go.Proofs.DocD
variable {σ τ:AHeap} {K kp:AV→AHeap→Prop}
attribute [local simp] Nat.add_assoc
@[simp] theorem sC_3 (fuel:Nat) (s:Sa) (o:Out):(sC fuel s o)[3]?=some (int s.store.most):=nr rfl
@[simp] theorem sC_3' (fuel:Nat) (s:Sa) (o:Out) (h:3 < (sC fuel s o).length):(sC fuel s o)[3]'h=int s.store.most:=nr rfl
theorem new_lim (a b:Int):SG.new a b=avS (st0 (limR a) (limC b)):=by
  unfold SG.new
  rw [clamp_R,clamp_C]
  rfl
theorem new_ref' {a b:Int} (hk:K (Stk.avS (avS (st0 (limR a) (limC b)))) σ):Ev PR 30 [.agg [int a,int b]] σ K kp:=new_ref (by rw [new_lim];exact hk)
theorem avS_0 (R C:Int):Stk.avS (avS (st0 R C))=.agg [int R,int C,.sl false 2 (rowsV (avS (st0 R C)).L),int 0]:=rfl
theorem node_0 {fuel:Nat} {R C:Int} {t:AT} {s':Sa} {o:Out} (h:NodeOk fuel (s0 R C) t En.nil s' o):∀ (σ:AHeap) (K kp:AV→AHeap→Prop),K (resV fuel s' o) σ→Ev PR 31 [.agg [int R,int C,.sl false 2 (rowsV (avS (st0 R C)).L),int 0,int fuel,int 0,nilSl,u8 0,bool false,str ByteArray.empty,int 0],t.v,.agg [nilSl,nilSl]] σ K kp:=fun σ K kp hK=>by
  refine Ev.weak (args':=[sV fuel (s0 R C) O0,t.v,eV En.nil]) (.cons ?_ (.cons (.refl _) (.cons ?_ .nil))) (h σ K kp hK)
  · have e:sV fuel (s0 R C) O0=.agg [int R,int C,.sl false 2 (rowsV (avS (st0 R C)).L),int 0,int fuel,int 0,.sl false 23 [],u8 0,bool false,str ByteArray.empty,int 0]:=rfl
    rw [e]
    exact FzL.agg (.cons (.refl _) (.cons (.refl _) (.cons (.refl _) (.cons (.refl _) (.cons (.refl _) (.cons (.refl _) (.cons .nil (.cons (.refl _) (.cons (.refl _) (.cons (.refl _) (.cons (.refl _) .nil)))))))))))
  · exact FzL.agg (.cons .nil (.cons .nil .nil))
set_option maxHeartbeats 2000000 in
theorem RunD_ev {t:AT} (ok:t.Ok) {f a b:Int} (hf:f≤3000) {r:Res} (hr:mayM t=true→Whole (fuelN f) (limR a) (limC b) t r) (hk:K (runV t r) σ):Ev PR 13 [t.v,int f,.agg [int a,int b]] σ K kp:=by
  refine Ev.pureD hk ((runV_dat _ _).low _) fun k' hk'=>?_
  apply F13_ev;unfold F13
  simp [get_new]
  generalize hτ:AHeap.new _ (.cells 8 [[_,_,_,_,_,_,_,_]])=τ
  have hn:τ.next=σ.next+3:=by rw [← hτ];rfl
  have hg:Grows σ τ:=by rw [← hτ];exact ((Grows.new _ _).trans (Grows.new _ _)).trans (Grows.new _ _)
  have g0:τ.get σ.next=some (.cells 19 [t.av]):=by rw [← hτ];simp [get_new]
  have g1:τ.get (σ.next+1)=some (.cells 2 [[int a,int b]]):=by rw [← hτ];simp [get_new]
  have g2:τ.get (σ.next+2)=some (.cells 8 [outC 0 false 0 ByteArray.empty 0 0 0 0]):=by rw [← hτ];simp [get_new,outC]
  clear hτ
  refine may_ref ok ?_
  by_cases hm0:mayM t=false
  · have e1:=hm0
    have e2:runV t r=.tup [outZ,int 1]:=by unfold runV;rw [e1];rfl
    rw [e2] at hk'
    simp [e1,g2,get_set,outC]
    exact hk' _ (hg.set (by omega) _)
  have hm:mayM t=true:=by simpa using hm0
  have hw:=hr hm
  have hlim:=lim_ok a b
  have hwf:=mayM_wf ok hm
  have hfn:fuelN f≤3000:=by unfold fuelN;omega
  have hrun:RunOk (fuelN f) (limR a) (limC b) t:=⟨hfn,hwf,ok.size,hlim⟩
  obtain ⟨s',o,hb,rfl⟩:=whole_big hrun hw
  have hT:TN t.size t:=⟨hwf,Nat.le_refl _⟩
  have hgd:=good0 hlim t.size
  have hL:=hb.left hgd.cw hT (by show 1≤[0].length;simp) (Nat.zero_le _)
  have hG:=hb.good hgd hT
  obtain ⟨h1,h2,h3,_⟩:=hb.regions hgd.cw hT
  obtain ⟨h4,_,_⟩:=hb.codes hgd.cw hT
  have hst:=hL.steps
  have hsz:=ok.size
  have hlm:Lm 4000 s':=by
    have e0:(s0 (limR a) (limC b)).store.L.length=1:=rfl
    have e1:(s0 (limR a) (limC b)).steps=0:=rfl
    have e2:(s0 (limR a) (limC b)).codes.length=0:=rfl
    rw [e0,e1] at h1
    rw [e1,e2] at h4
    have hmul:3 * t.size * (s'.steps - 0)≤1200 * 3000:=Nat.mul_le_mul (by omega) (by omega)
    exact ⟨by omega,by omega,by omega⟩
  obtain ⟨hnz,hnode⟩:=big_node hfn hb hgd hT (by intro c hc;simp [s0] at hc) ⟨Nat.zero_le _,Nat.zero_le _⟩ hlm
  obtain ⟨J,hJ⟩:∃ J:AFrame→AHeap→Prop,∀ fr φ,J fr φ↔fr=[(1,int (fuelN f)),(3,.ptr σ.next 0 0),(5,.ptr (σ.next+1) 0 0),(6,.ptr (σ.next+2) 0 0)]∧φ=τ:=⟨_,fun _ _=>Iff.rfl⟩
  simp [hm]
  refine seqW_by J ?_ ?_
  · by_cases hf0:f < 0
    · have e:((fuelN f:Nat):Int)=0:=by unfold fuelN;omega
      simp [hf0]
      exact (hJ _ _).2 ⟨by rw [e],rfl⟩
    · have e:((fuelN f:Nat):Int)=f:=by unfold fuelN;omega
      simp [hf0]
      exact (hJ _ _).2 ⟨by rw [e],rfl⟩
  intro fr φ hj
  obtain ⟨rfl,rfl⟩:=(hJ _ _).1 hj
  obtain ⟨J2,hJ2⟩:∃ J2:AFrame→AHeap→Prop,∀ fr ω,J2 fr ω↔∃ i j,fr=[(6,.ptr (σ.next+2) 0 0),(8,.ptr i 0 0),(9,.ptr j 0 0)]∧Grows φ ω∧φ.next≤i∧φ.next≤j∧i < ω.next∧j < ω.next∧i ≠ j∧ω.get i=some (.cells 11 [sC (fuelN f) s' o])∧ω.get j=some (.cells 4 [(vO o).av]):=⟨_,fun _ _=>Iff.rfl⟩
  refine seqW_by J2 ?_ ?_
  · have mk:∀ (i j:Nat) (ω:AHeap),φ.next≤i→φ.next≤j→i ≠ j→i < ω.next→j < ω.next→Grows φ ω→J2 [(6,.ptr (σ.next+2) 0 0),(8,.ptr i 0 0),(9,.ptr j 0 0)] ((ω.set i (.cells 11 [sC (fuelN f) s' o])).set j (.cells 4 [(vO o).av])):=fun i j ω h1 h2 h3 h4 h5 h6 =>
      (hJ2 _ _).2 ⟨i,j,rfl,(h6.set h1 _).set h2 _,h1,h2,h4,h5,h3,by simp [get_set,h3],by simp [get_set]⟩
    have fin1:=fun ω h6 h4 h5=>mk φ.next (φ.next+1) ω (Nat.le_refl _) (Nat.le_succ _) (by omega) h4 h5 h6
    have fin2:=fun ω h6 h4 h5=>mk (φ.next+1) φ.next ω (Nat.le_succ _) (Nat.le_refl _) (by omega) h4 h5 h6
    have g2n:∀ (x y:AObj),Grows φ ((φ.new x).new y):=fun x y=>(Grows.new _ _).trans (Grows.new _ _)
    have z0:σ.next ≠ φ.next:=by omega
    have z1:σ.next+1 ≠ φ.next:=by omega
    have z0':σ.next ≠ φ.next+1:=by omega
    have z1':σ.next+1 ≠ φ.next+1:=by omega
    have hn0:=node_0 hnode
    simp [g0,g1]
    have hS:True:=trivial
    refine ⟨?_,?_,?_,?_,?_,?_,?_,?_,?_,?_,?_,?_⟩
    all_goals (
      first | refine new_ref' ?_ | (simp [g0,g1,get_new,get_set,z0,z1,z0',z1'];refine new_ref' ?_)
      simp [avS_0,g0,g1,get_new,get_set,z0,z1,z0',z1']
      refine hn0 _ _ _ ?_
      simp [g0,g1,get_new,get_set,z0,z1,z0',z1']
      first | exact fin1 _ (g2n _ _) (by simp) (by simp) | exact fin2 _ (g2n _ _) (by simp) (by simp))
  · intro fr ω hj2
    obtain ⟨i,j,rfl,wg,i1,i2,i3,i4,i5,wi,wj⟩:=(hJ2 _ _).1 hj2
    have wn:=wg.next
    have w2:ω.get (σ.next+2)=some (.cells 8 [outC 0 false 0 ByteArray.empty 0 0 0 0]):=(wg.get _ (by omega)).trans g2
    have hgw:=hg.trans wg
    have p1:i ≠ ω.next:=by omega
    have p2:j ≠ ω.next:=by omega
    have p3:σ.next+2 ≠ ω.next:=by omega
    have sb:=hlm.sb hG.zero
    simp [wi,get_new,get_set,p1]
    refine Stk.count_ref (s:=avS s'.store) (by rw [avS_len];have:=sb.len;omega) (by rw [avS_cells];have:=sb.cells;omega) ?_
    rw [avS_live,avS_cells]
    simp [wi,get_new,get_set,p1]
    generalize hχ:AHeap.set _ ω.next _=χ
    have xg:Grows ω χ:=by
      rw [← hχ]
      exact (((((Grows.new _ _).set (Nat.le_refl _) _).set (Nat.le_refl _) _).set (Nat.le_refl _) _).set (Nat.le_refl _) _)
    have xo:χ.get ω.next=some (.cells 8 [[u8 (endO o),bool false,int 0,str ByteArray.empty,int s'.steps,int s'.store.live.length,int s'.store.cells,int s'.store.most]]):=by rw [← hχ];simp [get_set]
    have xi:=(xg.get i i3).trans wi
    have xj:=(xg.get j i4).trans wj
    have x2:χ.get (σ.next+2)=some (.cells 8 [[u8 0,bool false,int 0,str ByteArray.empty,int 0,int 0,int 0,int 0]]):=(xg.get _ (by omega)).trans w2
    clear hχ
    have hgx:=hgw.trans xg
    have fin:∀ (υ:AHeap) (a8:AObj),Grows σ υ→k' (runV t (Mac.fin s' o)) ((υ.set (σ.next+2) a8)):=fun υ a8 h=>hk' _ (h.set (by omega) _)
    unfold runV outV at fin
    rw [if_pos hm,fin_s] at fin
    cases o with
    | val v =>
      refine seqW_in ?_
      simp [xi,xo,endO,raisesO]
      refine seqW_in ?_
      by_cases hv:v.kind=1
      · simp only [Mac.fin,if_pos hv] at fin
        simp [xi,xj,xo,x2,get_set,p1,p2,p3,endO,raisesO,hv]
        exact fin _ _ ((hgx.set (by omega) _).set (by omega) _)
      · simp only [Mac.fin,if_neg hv] at fin
        simp [xi,xj,xo,x2,get_set,p1,p2,p3,endO,raisesO,hv]
        exact fin _ _ (hgx.set (by omega) _)
    | over q =>
      have hq:=hnz q rfl
      refine seqW_in ?_
      simp [xi,xo,endO,raisesO,hq]
      refine seqW_in ?_
      simp [xi,xj,xo,x2,get_set,p1,p2,p3,endO,raisesO,hq]
      exact fin _ _ hgx
    | exn m x =>
      refine seqW_in ?_
      simp [xi,xo,endO,raisesO,get_set,p1,exnO,nO]
      refine seqW_in ?_
      simp [xi,xj,xo,x2,get_set,p1,p2,p3,endO,raisesO,exnO,nO]
      exact fin _ _ (hgx.set (by omega) _)
end Go.Abs.Mac
