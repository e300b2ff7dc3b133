import Derived.Test.YtjilebpcaemopaaGreatDoorAtMaysP
import Derived.Test.YtjilebpcaemopaaGreatDoorMacM
set_option linter.unusedVariables false
set_option linter.unusedSimpArgs false
namespace Go.Abs.Mac
open Go Go.Abs Go.Abs.Stk Go.Abs.At
theorem yX {k:Int} {n:Nat} (h0:0≤bo k) (h:((min n 4:Nat):Int)=bo k):(1≤k∧k≤16)∧n=nk k:=by
 unfold bo at h0 h
 unfold nk
 split at h
 ·rename_i hk
  rw[if_neg (by omega),if_neg (by omega),if_neg (by omega)]
  omega
 ·split at h
  ·rename_i hk
   rw[if_neg (by omega),if_pos (by omega)]
   omega
  ·split at h
   ·rename_i hk
    rw[if_pos (by omega)]
    omega
   ·split at h
    ·rename_i hk
     rw[if_neg (by omega),if_neg (by omega),if_pos hk]
     omega
    ·rename_i h1 h2 h3 h4
     rw[if_neg h1,if_neg h2,if_neg h3,if_neg h4]at h0
     omega
theorem CS {t:AT} (h:bN t=true):(1≤t.h.kind∧t.h.kind≤18)∧t.kids.length=nk t.h.kind:=by
 have hh:cW t=true:=by
  unfold bN at h
  simp only[Bool.and_eq_true]at h
  exact h.1.1.1.1.1.1.1.1
 unfold cW at hh
 split at hh
 ·rename_i h17
  simp only[Bool.and_eq_true,decide_eq_true_eq]at hh
  rw[h17]
  exact⟨by omega,by rw[hh.2];rfl⟩
 ·split at hh
  ·rename_i h18
   simp only[Bool.and_eq_true,decide_eq_true_eq]at hh
   rw[h18]
   exact⟨by omega,by rw[hh.2];rfl⟩
  ·unfold bJ at hh
   simp only[Bool.and_eq_true,decide_eq_true_eq]at hh
   obtain⟨⟨⟨⟨⟨⟨⟨h1,h2⟩,_⟩,_⟩,_⟩,_⟩,_⟩,_⟩:=hh
   obtain⟨a,b⟩:=yX h1 h2
   exact⟨by omega,b⟩
theorem wf_of:∀(N:Nat) (t:AT),t.size≤N→(∀x∈t.all,bN x=true∧x.aH.length≤50)→Wf t:=by
 intro N
 induction N with
 | zero=>intro t h;have:=t.size_pos;omega
 | succ N ih=>
  intro t hN h
  obtain⟨h1,h2⟩:=h t (by rw[AT.all_eq];simp)
  obtain⟨a,b⟩:=CS h1
  refine .mk a b (fun c hc=>ih c (by have:=jC hc;omega) fun x hx=>h x ?_) (by omega)
  rw[AT.all_eq]
  refine List.mem_cons_of_mem _ ?_
  obtain⟨i,hi⟩:=List.getElem?_of_mem hc
  obtain⟨m,hm⟩:=List.getElem?_of_mem hx
  exact List.mem_of_getElem? (AT.kP hi hm)
theorem ly {t:AT} (ok:t.Ok) (h:fN t=true):Wf t:=by
 unfold fN at h
 simp only[Bool.and_eq_true,decide_eq_true_eq]at h
 refine wf_of t.size t (Nat.le_refl _) fun x hx=>⟨List.all_eq_true.1 h.2 x hx,?_⟩
 exact(AT.qG t ok.small ok.size x hx).zz
end Go.Abs.Mac
