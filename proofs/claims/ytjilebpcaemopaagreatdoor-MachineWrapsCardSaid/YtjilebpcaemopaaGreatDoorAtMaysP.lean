import Derived.Test.YtjilebpcaemopaaGreatDoorAtPN
import Derived.Test.YtjilebpcaemopaaGreatDoorAtB
set_option linter.unusedVariables false
set_option linter.unusedSimpArgs false
namespace Go.Abs.At
open Go Go.Abs Go.Proofs.AtD
attribute [local simp] Nat.add_assoc
def AT.iU (t:AT):Prop:=∀x∈t.all,jg x.h.kind
theorem AT.iU.kid {t c:AT} (h:t.iU) (hc:c∈t.kids):c.iU:=fun x hx=>h x (by
 rw[AT.all_eq]
 refine List.mem_cons_of_mem _ ?_
 obtain⟨i,hi⟩:=List.getElem?_of_mem hc
 obtain⟨m,hm⟩:=List.getElem?_of_mem hx
 exact List.mem_of_getElem? (AT.kP hi hm))
theorem CM (once:nL) {t:AT} (hok:t.Ok) (hkd:t.iU) {σ:ah} {k kp:AV→ah→Prop} (hk:k (bool (fN t)) σ):Ev PR 24 [t.v] σ k kp:=by
 refine Ev.bB hk ((Dat.val _).low _) fun k' hk'=> ?_
 apply Er;unfold F24
 have hsz:=hok.size
 simp
 refine Ev.iw (.cons (AT.oa t) .nil) ?_
 have e1:AT.aI [t]=t.size:=by simp[AT.aI]
 have e3:AT.bE [t]=t.all:=by simp[AT.bE]
 refine pz (by omega) ?_
 have h1:(AT.aI [t]:Int)≤40000:=by omega
 have h1':t.size≤40000:=by omega
 simp[h1]
 refine Ev.iw (.cons (.refl _) (.cons (AT.oa t) .nil)) ?_
 refine kZ 41 [] 0 (fun τ=>aq σ τ∧t.all.all bN=false) _ [t] (Nat.le_refl _) (by omega) (fun i φ=>aq σ φ∧∀x∈t.all.take i,bN x=true) ?_ ?_ _ _ _ (Nat.zero_le _) ⟨aq.new _ _,by simp⟩ ?_ ?_
 ·rintro i φ ψ ⟨h1,h2⟩ h3
  exact⟨h1.trans h3,h2⟩
 ·rintro i x hi φ q qp _ ⟨h1,h2⟩ hT hF
  rw[e3]at hi
  have hx:=List.mem_of_getElem? hi
  refine zg once (hok.all x hx) (hkd x hx) ?_
  cases hc:bN x
  ·refine hF φ (Up.refl _ _ _) ⟨h1,?_⟩
   cases hh:t.all.all bN
   ·rfl
   ·have:=List.all_eq_true.1 hh x hx
    rw[hc]at this;cases this
  ·refine hT φ (Up.refl _ _ _) ⟨h1,fun y hy=> ?_⟩
   rw[List.take_add_one,hi]at hy
   rcases List.mem_append.1 hy with h | h
   ·exact h2 y h
   ·simp at h;subst h;exact hc
 ·rintro τ hu ⟨h1,h2⟩
  rw[e1,List.take_of_length_le (by have:=t.eh;omega)]at h2
  have:=hk' _ h1
  simp only[fN,h1',decide_true,Bool.true_and,List.all_eq_true.2 h2]at this
  simpa using this
 ·rintro τ hu ⟨h1,h2⟩
  have:=hk' _ h1
  simp only[fN,h1',decide_true,Bool.true_and,h2]at this
  simpa using this
end Go.Abs.At
namespace Go.Abs.At
open Go Go.Abs Go.Proofs.AtD
theorem wf_u8 {n:Int} (h:(Lit.int .u8 n).wf=true):jg n:=by
 simp only[Lit.wf,Bool.and_eq_true,decide_eq_true_eq]at h
 exact⟨by have:=h.1;simpa [IntKind.min,IntKind.signed] using this,by have:=h.2;simpa [IntKind.max,IntKind.signed,IntKind.bits] using this⟩
theorem Tys.kinds {P:Program} {tU tI tH tAtom tRT tAT sI sAtom sRT sAT:TypeId} (T:Tys P tU tI tH tAtom tRT tAT sI sAtom sRT sAT):∀(N:Nat) (t:AT),t.size≤N→DV P tAT t.av→t.iU:=by
 intro N
 induction N with
 | zero=>intro t h;have:=t.size_pos;omega
 | succ N ih=>
  intro t hN h x hx
  have hf:=h.fields T.at'
  obtain⟨_,_,e0,⟨h1,rfl,w1⟩,_⟩:=dC 9 tH _ _ T.h (hf (tH,0,7) (by simp))
  obtain⟨xs,e6,hxl,hx6⟩:=(hf (sAT,18,1) (by simp)).iu T.uSAT
  obtain⟨hd,r,rs,e,ty,re,ks⟩:=t
  rw[AT.all_eq]at hx
  rcases List.mem_cons.1 hx with rfl | hx
  ·simp[AT.av,Head.av]at e0
   have:hd.kind=h1:=by simpa using e0.1
   show jg hd.kind
   rw[this];exact wf_u8 w1
  ·have e7:xs=AT.avs ks:=by
    obtain⟨k1,r1,f1,s1⟩:=ty
    obtain⟨k2,r2,f2,s2⟩:=re
    simp[AT.av,Head.av,RT.av]at e6
    exact e6.2.symm
   have hsz:=AT.size_eq (.mk hd r rs e ty re ks)
   have:∀c∈ks,c.iU:=fun c hc=>ih c (by have:=AT.dk (t:=.mk hd r rs e ty re ks) hc;omega) ((hx6 c.av (by rw[e7,AT.cu];exact List.mem_map_of_mem hc)).1)
   have hg:∀l:List AT,(∀c∈l,c.iU)→x∈AT.bE l→jg x.h.kind:=by
    intro l
    induction l with
    | nil=>intro _ h;simp[AT.bE]at h
    | cons c l ihl=>
     intro hl hm
     simp only[AT.bE,List.mem_append]at hm
     rcases hm with hm | hm
     ·exact hl c (by simp) x hm
     ·exact ihl (fun c' hc'=>hl c' (by simp[hc'])) hm
   exact hg ks this hx
end Go.Abs.At
