import Derived.Test.YtjilebpcaemopaaGreatDoorSafeE
import Derived.Test.YtjilebpcaemopaaGreatDoorMacMay
set_option linter.unusedVariables false
set_option linter.unusedSimpArgs false
namespace Go.Abs.Safe
open Go Go.Abs Go.Abs.Stk Go.Abs.At Go.Abs.Mac Go.Abs.Chk
theorem py:∀ {rs met m:List Int},mn met rs=some m→m=met++rs∧rs.Nodup∧∀x∈rs,x∉met
 | [],met,m,h=>by simp[mn]at h;subst h;simp
 | r::rs,met,m,h=>by
  simp only[mn]at h
  split at h
  ·cases h
  ·rename_i hr
   obtain⟨h1,h2,h3⟩:=py h
   refine⟨by rw[h1];simp,List.nodup_cons.2 ⟨fun hm=>h3 r hm (by simp),h2⟩,fun x hx=> ?_⟩
   rcases List.mem_cons.1 hx with rfl | hx
   ·exact hr
   ·exact fun hm=>h3 x hx (by simp[hm])
theorem ng:∀ {l:List AT} {met:List Int},(cX met l).2=true→(bO l).Nodup∧∀x∈bO l,x∉met
 | [],met,_=>by simp[bO]
 | t::ts,met,h=>by
  simp only[cX]at h
  cases ho:mn met (own t) with
  | none=>rw[ho]at h;simp at h
  | some m=>
   rw[ho]at h
   obtain⟨rfl,h2,h3⟩:=py ho
   obtain⟨h4,h5⟩:=ng h
   have e:bO (t::ts)=own t++bO ts:=by simp[bO]
   rw[e]
   refine⟨List.nodup_append.2 ⟨h2,h4,fun x hx y hy hxy=> ?_⟩,fun x hx=> ?_⟩
   ·subst hxy;exact h5 x hy (by simp[hx])
   ·rcases List.mem_append.1 hx with hx | hx
    ·exact h3 x hx
    ·exact fun hm=>h5 x hx (by simp[hm])
theorem mc {t:AT} (h:iO t=true):∀n∈t.all,bE n=true:=by
 unfold iO at h
 simp only[Bool.and_eq_true]at h
 exact fun n hn=>List.all_eq_true.1 h.2 n hn
structure DI (t:AT) (T:RT) (E:List Atom):Prop where
 may:iO t=true
 bnd:Bnd [0] t
 ty:Ty [] [0] t T E
theorem sM {t:AT} (ok:t.Ok) (h:(ef t).no=0):DI t (ef t).t (ef t).e:=by
 unfold ef at h⊢
 cases hm:iO t with
 | false=>rw[hm]at h;simp at h
 | true=>
  rw[hm]at h
  simp only[Bool.true_eq_false,if_false]at h⊢
  cases ha:(cX [] t.all).2 with
  | false=>rw[ha]at h;simp at h
  | true=>
   rw[ha]at h
   simp only[Bool.true_eq_false,if_false]at h⊢
   have hn:=ng ha
   refine⟨hm,⟨fun x hx h0=> ?_,hn.1,mc hm,⟨by simp,by simp⟩⟩,yR _ _ _ _ (kB ok hm) h⟩
   obtain⟨n,hn1,hn2⟩:=List.mem_flatMap.1 hx
   exact(wu (mc hm n hn1) x hn2).2 (List.mem_singleton.1 h0)
theorem po:En.nil.region 0=(0,true):=by simp[En.region,En.nil]
theorem env0:cj (fun _ _=>none) En.nil [] [0]:=⟨.nil,fun x hx=>by rw[List.mem_singleton.1 hx,po]⟩
theorem sok0 (R C:Int):SOK (fun _ _=>none) (s0 R C):=⟨fun _ _ _ h=>by simp at h,fun _ _ _ _ h=>by simp at h⟩
theorem live0 {R C:Int} {t T E} (h:Ty [] [0] t T E):gH (s0 R C) (bG (gOf En.nil) E):=by
 rintro x ⟨b,hb,rfl⟩ h3
 have hb3:b.kind≠3:=by intro h;apply h3;unfold eB;rw[if_pos h];exact h
 have:=(h.s8 (fun _ h=>by simp at h) (by simp)).2 b hb hb3
 have e:(eB (gOf En.nil) b).rho=0:=by
  unfold eB;rw[if_neg hb3]
  simp only[List.mem_singleton]at this
  simp[this,gOf,po]
 rw[e];rfl
theorem Ae {fuel:Nat} {R C:Int} {t:AT} {r:Res} {T:RT} {E:List Atom} (h:Mac.lC fuel R C t) (hw:Mac.Whole fuel R C t r) (hr:DI t T E):(r.kind=1∨r.kind=2∨r.kind=3∨r.kind=4)∧(r.kind=2→Has E (lf r.exn)):=by
 obtain⟨s',o,hb,rfl⟩:=xZ h hw
 have hT:TN t.size t:=⟨h.wf,Nat.le_refl _⟩
 have hg:=yY h.lim t.size
 obtain⟨S',_,h2,_⟩:=safe hb hg.cw hT (by show 1≤[0].length;simp) (Nat.zero_le _) (sok0 R C) env0 hr.bnd hr.ty (live0 hr.ty)
 cases o with
 | val v=>simp only[fin];split<;>simp
 | exn n x=>
  refine⟨.inr (.inl rfl),fun _=> ?_⟩
  obtain⟨b,hb,hx⟩:=h2
  have hb3:b.kind=3:=by
   have:(eB (gOf En.nil) b).kind=b.kind:=by unfold eB;split<;>rfl
   rw[←hx]at this;exact this.symm
  unfold eB at hx
  rw[if_pos hb3]at hx
  rw[←hx]at hb;exact hb
 | over k=>
  have:k=3∨k=4:=h2
  refine⟨.inr (.inr this),fun h=> ?_⟩
  simp only[fin]at h
  omega
end Go.Abs.Safe
