import Derived.Test.YtjilebpcaemopaaGreatDoorSafeA
import Derived.Test.YtjilebpcaemopaaGreatDoorMacMay
set_option linter.unusedVariables false
set_option linter.unusedSimpArgs false
namespace Go.Abs.Safe
open Go Go.Abs Go.Abs.Stk Go.Abs.At Go.Abs.Mac Go.Abs.Chk
theorem oS:∀ {rs met m:List Int},lF met rs=some m→m=met++rs∧rs.Nodup∧∀x∈rs,x∉met
 | [],met,m,h=>by simp[lF]at h;subst h;simp
 | r::rs,met,m,h=>by
  simp only[lF]at h
  split at h
  ·cases h
  ·rename_i hr
   obtain⟨h1,h2,h3⟩:=oS h
   refine⟨by rw[h1];simp,List.nodup_cons.2 ⟨fun hm=>h3 r hm (by simp),h2⟩,fun x hx=> ?_⟩
   rcases List.mem_cons.1 hx with rfl | hx
   ·exact hr
   ·exact fun hm=>h3 x hx (by simp[hm])
theorem mH:∀ {l:List AT} {met:List Int},(cN met l).2=true→(bg l).Nodup∧∀x∈bg l,x∉met
 | [],met,_=>by simp[bg]
 | t::ts,met,h=>by
  simp only[cN]at h
  cases ho:lF met (own t) with
  | none=>rw[ho]at h;simp at h
  | some m=>
   rw[ho]at h
   obtain⟨rfl,h2,h3⟩:=oS ho
   obtain⟨h4,h5⟩:=mH h
   have e:bg (t::ts)=own t++bg ts:=by simp[bg]
   rw[e]
   refine⟨List.nodup_append.2 ⟨h2,h4,fun x hx y hy hxy=> ?_⟩,fun x hx=> ?_⟩
   ·subst hxy;exact h5 x hy (by simp[hx])
   ·rcases List.mem_append.1 hx with hx | hx
    ·exact h3 x hx
    ·exact fun hm=>h5 x hx (by simp[hm])
theorem oL {t:AT} (h:fN t=true):∀n∈t.all,bN n=true:=by
 unfold fN at h
 simp only[Bool.and_eq_true]at h
 exact fun n hn=>List.all_eq_true.1 h.2 n hn
structure Dt (t:AT) (T:RT) (E:List Atom):Prop where
 may:fN t=true
 bnd:Bnd [0] t
 ty:Ty [] [0] t T E
theorem r9 {t:AT} (ok:t.Ok) (h:(fB t).no=0):Dt t (fB t).t (fB t).e:=by
 unfold fB at h⊢
 cases hm:fN t with
 | false=>rw[hm]at h;simp at h
 | true=>
  rw[hm]at h
  simp only[Bool.true_eq_false,if_false]at h⊢
  cases ha:(cN [] t.all).2 with
  | false=>rw[ha]at h;simp at h
  | true=>
   rw[ha]at h
   simp only[Bool.true_eq_false,if_false]at h⊢
   have hn:=mH ha
   refine⟨hm,⟨fun x hx h0=> ?_,hn.1,oL hm,⟨by simp,by simp⟩⟩,yF _ _ _ _ (ly ok hm) h⟩
   obtain⟨n,hn1,hn2⟩:=List.mem_flatMap.1 hx
   exact(vX (oL hm n hn1) x hn2).2 (List.mem_singleton.1 h0)
end Go.Abs.Safe
