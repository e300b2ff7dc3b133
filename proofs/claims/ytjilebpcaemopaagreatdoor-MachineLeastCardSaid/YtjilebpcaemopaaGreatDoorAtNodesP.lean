import Derived.Test.YtjilebpcaemopaaGreatDoorAtN
import Derived.Test.YtjilebpcaemopaaGreatDoorAtH
set_option linter.unusedVariables false
set_option linter.unusedSimpArgs false
namespace Go.Abs.At
open Go Go.Abs Go.Proofs.AtD
attribute [local simp] Nat.add_assoc
def mayM (t:AT):Bool:=decide (t.size≤40000) && t.all.all nodeM
mutual
theorem AT.Ok_all':∀ (t:AT),t.small→t.size≤400→∀ x ∈ t.all,x.Ok
  | .mk h r rs e t s ks,hs,hb,x,hx=>by
    simp only [AT.all,List.mem_cons] at hx
    rcases hx with rfl | hx
    · exact ⟨hs,hb⟩
    · simp only [AT.small] at hs
      simp only [AT.size] at hb
      exact AT.Ok_alls ks hs.2.2.2.2.2 (by omega) x hx
theorem AT.Ok_alls:∀ (l:List AT),AT.smalls l→AT.sizes l≤400→∀ x ∈ AT.alls l,x.Ok
  | [],_,_,x,hx=>by simp [AT.alls] at hx
  | t :: ts,hs,hb,x,hx=>by
    simp only [AT.alls,List.mem_append] at hx
    simp only [AT.smalls] at hs
    simp only [AT.sizes] at hb
    rcases hx with hx | hx
    · exact AT.Ok_all' t hs.1 (by omega) x hx
    · exact AT.Ok_alls ts hs.2 (by omega) x hx
end
theorem AT.Ok.all {t:AT} (h:t.Ok):∀ x ∈ t.all,x.Ok:=AT.Ok_all' t h.small h.size
theorem may_ref {t:AT} (hok:t.Ok) {σ:AHeap} {k kp:AV→AHeap→Prop} (hk:k (bool (mayM t)) σ):Ev PR 15 [t.v] σ k kp:=by
  refine Ev.pureD hk ((Dat.val _).low _) fun k' hk'=>?_
  apply F15_ev;unfold F15
  have hsz:=hok.size
  have hal:=t.all_len
  have hlen:∀ ω,aLenK .slice (AT.vs t.all) ω=some (int t.all.length):=fun ω=>by simp
  simp [get_new]
  refine all_ref _ t (Nat.le_refl _) (by omega) _ _ _ ?_
  have h0:¬ (40000:Int) < t.all.length:=by omega
  simp [hlen,h0]
  refine seqW_in ?_
  have fin:∀ v,t.all.all nodeM=v→k' (bool v) (σ.new (.cells 19 [t.av])):=fun v h=>by
    have:=hk' _ (Grows.new σ (.cells 19 [t.av]))
    have h1:t.size≤40000:=by omega
    simp only [mayM,h1,h,decide_true,Bool.true_and] at this
    exact this
  refine loopW_by (fun j:Nat=>[(3,AT.vs t.all),(11,int t.all.length),(12,int j)]) (fun j φ=>φ=σ.new (.cells 19 [t.av])∧j≤t.all.length∧∀ x ∈ t.all.take j,nodeM x=true) (fun fr _=>t.all.length - (intOf (look fr 12)).toNat) 0 (by simp) ⟨rfl,by simp,by simp⟩ ?_
  rintro j φ ⟨rfl,hj,hall⟩
  simp
  by_cases hjl:j < t.all.length
  · obtain ⟨c,hc⟩:=get_some hjl
    have hcm:=List.mem_of_getElem? hc
    have hix:∀ ω,aIndexAddr 19 (AT.vs t.all) (int j) ω=some (.ref c.av):=fun ω=>by rw [aIndexAddr_sl];simp [AT.avs_get hc]
    simp [hjl,hix]
    refine node_ref (hok.all c hcm) ?_
    cases hcv:nodeM c
    · simp
      refine fin false ?_
      cases hh:t.all.all nodeM
      · rfl
      · have:=List.all_eq_true.1 hh c hcm
        rw [hcv] at this;cases this
    · simp
      rw [wrap64 (by omega)]
      refine ⟨⟨j+1,by simp,by omega,fun x hx=>?_⟩,by omega⟩
      rw [List.take_add_one,hc] at hx
      rcases List.mem_append.1 hx with h | h
      · exact hall x h
      · simp at h;subst h;exact hcv
  · have htk:t.all.take j=t.all:=List.take_of_length_le (by omega)
    rw [htk] at hall
    simp [hjl]
    exact fin true (List.all_eq_true.2 hall)
def tMayM (t:T):Bool:=decide (t.size≤4000) && t.all.all fun x=>tnodeM x.h x.kids.length
mutual
theorem T.all_le':∀ (t x:T),x ∈ t.all→x.size≤t.size
  | .mk h ks,x,hx=>by
    simp only [T.all,List.mem_cons] at hx
    rcases hx with rfl | hx
    · exact Nat.le_refl _
    · have:=T.alls_le' ks x hx
      simp [T.size];omega
theorem T.alls_le':∀ (l:List T) (x:T),x ∈ T.alls l→x.size≤T.sizes l
  | [],x,hx=>by simp [T.alls] at hx
  | t :: ts,x,hx=>by
    simp only [T.alls,List.mem_append] at hx
    rcases hx with hx | hx
    · have:=T.all_le' t x hx
      simp [T.sizes];omega
    · have:=T.alls_le' ts x hx
      simp [T.sizes];omega
end
theorem kidsM_le (k:Int):kidsM k≤3:=by
  unfold kidsM
  repeat' split
  all_goals omega
end Go.Abs.At
