import Derived.Test.YtjilebpcaemopaaGreatDoorAtN
import Derived.Test.YtjilebpcaemopaaGreatDoorAtH
set_option linter.unusedVariables false
set_option linter.unusedSimpArgs false
namespace Go.Abs.At
open Go Go.Abs Go.Proofs.AtD
attribute [local simp] Nat.add_assoc
def fN (t:AT):Bool:=decide (t.size≤40000)&&t.all.all bN
mutual
theorem AT.qG:∀(t:AT),t.small→t.size≤400→∀x∈t.all,x.Ok
 | .mk h r rs e t s ks,hs,hb,x,hx=>by
  simp only[AT.all,List.mem_cons]at hx
  rcases hx with rfl | hx
  ·exact⟨hs,hb⟩
  ·simp only[AT.small]at hs
   simp only[AT.size]at hb
   exact AT.vr ks hs.2.2.2.2.2 (by omega) x hx
theorem AT.vr:∀(l:List AT),AT.cn l→AT.aI l≤400→∀x∈AT.bE l,x.Ok
 | [],_,_,x,hx=>by simp[AT.bE]at hx
 | t::ts,hs,hb,x,hx=>by
  simp only[AT.bE,List.mem_append]at hx
  simp only[AT.cn]at hs
  simp only[AT.aI]at hb
  rcases hx with hx | hx
  ·exact AT.qG t hs.1 (by omega) x hx
  ·exact AT.vr ts hs.2 (by omega) x hx
end
theorem AT.Ok.all {t:AT} (h:t.Ok):∀x∈t.all,x.Ok:=AT.qG t h.small h.size
theorem CN {t:AT} (hok:t.Ok) {σ:ah} {k kp:AV→ah→Prop} (hk:k (bool (fN t)) σ):Ev PR 15 [t.v] σ k kp:=by
 refine Ev.bB hk ((Dat.val _).low _) fun k' hk'=> ?_
 apply Eb;unfold F15
 have hsz:=hok.size
 have hal:=t.eh
 have hlen:∀ω,aE .slice (AT.vs t.all) ω=some (int t.all.length):=fun ω=>by simp
 simp[an]
 refine nq _ t (Nat.le_refl _) (by omega) _ _ _ ?_
 have h0:¬(40000:Int)<t.all.length:=by omega
 simp[hlen,h0]
 refine aM ?_
 have fin:∀v,t.all.all bN=v→k' (bool v) (σ.new (.cells 19 [t.av])):=fun v h=>by
  have:=hk' _ (aq.new σ (.cells 19 [t.av]))
  have h1:t.size≤40000:=by omega
  simp only[fN,h1,h,decide_true,Bool.true_and]at this
  exact this
 refine aX (fun j:Nat=>[(3,AT.vs t.all),(11,int t.all.length),(12,int j)]) (fun j φ=>φ=σ.new (.cells 19 [t.av])∧j≤t.all.length∧∀x∈t.all.take j,bN x=true) (fun fr _=>t.all.length - (intOf (aa fr 12)).toNat) 0 (by simp) ⟨rfl,by simp,by simp⟩ ?_
 rintro j φ ⟨rfl,hj,hall⟩
 simp
 by_cases hjl:j<t.all.length
 ·obtain⟨c,hc⟩:=get_some hjl
  have hcm:=List.mem_of_getElem? hc
  have hix:∀ω,ak 19 (AT.vs t.all) (int j) ω=some (.ref c.av):=fun ω=>by rw[aD];simp[AT.cq hc]
  simp[hjl,hix]
  refine lD (hok.all c hcm) ?_
  cases hcv:bN c
  ·simp
   refine fin false ?_
   cases hh:t.all.all bN
   ·rfl
   ·have:=List.all_eq_true.1 hh c hcm
    rw[hcv]at this;cases this
  ·simp
   rw[wrap64 (by omega)]
   refine⟨⟨j+1,by simp,by omega,fun x hx=> ?_⟩,by omega⟩
   rw[List.take_add_one,hc]at hx
   rcases List.mem_append.1 hx with h | h
   ·exact hall x h
   ·simp at h;subst h;exact hcv
 ·have htk:t.all.take j=t.all:=List.take_of_length_le (by omega)
  rw[htk]at hall
  simp[hjl]
  exact fin true (List.all_eq_true.2 hall)
def wq (t:T):Bool:=decide (t.size≤4000)&&t.all.all fun x=>bJ x.h x.kids.length
mutual
theorem T.vu:∀(t x:T),x∈t.all→x.size≤t.size
 | .mk h ks,x,hx=>by
  simp only[T.all,List.mem_cons]at hx
  rcases hx with rfl | hx
  ·exact Nat.le_refl _
  ·have:=T.rR ks x hx
   simp[T.size];omega
theorem T.rR:∀(l:List T) (x:T),x∈T.bE l→x.size≤T.aI l
 | [],x,hx=>by simp[T.bE]at hx
 | t::ts,x,hx=>by
  simp only[T.bE,List.mem_append]at hx
  rcases hx with hx | hx
  ·have:=T.vu t x hx
   simp[T.aI];omega
  ·have:=T.rR ts x hx
   simp[T.aI];omega
end
theorem yW (k:Int):bo k≤3:=by
 unfold bo
 repeat' split
 all_goals omega
end Go.Abs.At
