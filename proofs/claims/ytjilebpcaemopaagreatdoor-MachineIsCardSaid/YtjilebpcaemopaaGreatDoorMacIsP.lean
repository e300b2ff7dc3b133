import Derived.Test.YtjilebpcaemopaaGreatDoorMacAw
import Derived.Test.YtjilebpcaemopaaGreatDoorMacDecI
import Derived.Test.YtjilebpcaemopaaGreatDoorDocO
set_option linter.unusedVariables false
set_option linter.unusedSimpArgs false
set_option linter.deprecated false
namespace Go.Abs.Mac
open Go Go.Abs Go.Abs.Stk Go.Abs.At Go.Proofs.MacD
variable {σ τ:AHeap} {K kp:AV→AHeap→Prop}
theorem law_is {t:AT} (hfit:t.fit) (hkd:t.Kinds) {f a b:Int} (hk:K (bool true) σ):Ev PR 3 [t.v,int f,.agg [int a,int b]] σ K kp:=by
  refine Ev.pureD hk ((Dat.val _).low _) fun k' hk'=>?_
  apply F3_ev;unfold F3
  simp [Nat.add_assoc,get_new]
  generalize hτ:AHeap.new _ (.cells 2 _)=τ
  have hg:Grows σ τ:=by rw [← hτ];exact (Grows.new _ _).trans (Grows.new _ _)
  have g0:τ.get σ.next=some (.cells 19 [t.av]):=by rw [← hτ];simp [get_new]
  have g1:τ.get (σ.next+1)=some (.cells 2 [[int a,int b]]):=by rw [← hτ];simp [get_new]
  have hn:τ.next=σ.next+2:=by rw [← hτ];rfl
  clear hτ
  refine mgreat_ev hfit fun g hg'=>?_
  cases g with
  | true =>
    simp
    exact awake_ev (hk' _ hg)
  | false =>
    obtain ⟨ok,hsz⟩:=hg' rfl
    by_cases c1:(500:Int) < f
    · simp [c1]
      exact awake_ev (hk' _ hg)
    simp [c1,g0,g1]
    obtain ⟨r,hr⟩:=whole_ex ok (f:=f) (by omega) a b
    refine Run_ev ok hkd (by omega) hr ?_
    obtain ⟨o,n,hro,ho⟩:∃ (o:List AV) (n:Int),runV t r=.tup [.agg o,int n]∧∃ kd bb m x s1 s2 s3 s4,o=outC kd bb m x s1 s2 s3 s4:=by
      unfold runV
      split
      · exact ⟨_,_,rfl,_,_,_,_,_,_,_,_,rfl⟩
      · exact ⟨_,_,rfl,_,_,_,_,_,_,_,_,rfl⟩
    obtain ⟨kd,bb,m,x,s1,s2,s3,s4,rfl⟩:=ho
    rw [hro]
    have n1:σ.next ≠ τ.next:=by omega
    have n2:σ.next+1 ≠ τ.next:=by omega
    simp [outC,get_new,get_set,n1,n2,g0,g1]
    refine RunD_ev ok (by omega) hr ?_
    rw [hro]
    have n3:τ.next ≠ τ.next+1:=by omega
    simp [outC,get_new,get_set,n1,n2,g0,g1]
    exact awake_ev (hk' _ ((hg.trans ((Grows.new _ _).set (by simp) _)).trans ((Grows.new _ _).set (by simp) _)))
end Go.Abs.Mac
