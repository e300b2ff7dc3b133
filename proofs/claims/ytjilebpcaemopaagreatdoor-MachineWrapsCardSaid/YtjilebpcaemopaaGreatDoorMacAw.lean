import Derived.Test.YtjilebpcaemopaaGreatDoorMacRun3
import Derived.Test.YtjilebpcaemopaaGreatDoorMacDec
set_option linter.unusedVariables false
set_option linter.unusedSimpArgs false
set_option linter.deprecated false
namespace Go.Abs.Mac
open Go Go.Abs Go.Abs.Stk Go.Abs.At Go.Proofs.MacD Go.Proofs.AtD
variable {σ τ:ah} {K kp:AV→ah→Prop}
theorem xj {t:AT} (hfit:t.fit) (hk:∀b:Bool,(b=false→t.Ok∧t.size≤150)→K (bool b) σ):Ev PR 10 [t.v] σ K kp:=by
 refine Ev.jc ?_
 apply D4;unfold F10
 simp
 have hG:aq σ (σ.new (.cells 19 [t.av])):=aq.new _ _
 refine yM hfit fun b hb=> ?_
 cases b with
 | true=>
  simp
  exact⟨hG,.val _,hk true (by simp)⟩
 | false=>
  obtain⟨hsz,hsm⟩:=hb rfl
  simp
  refine nq _ t (Nat.le_refl _) (by omega) _ _ _ ?_
  have hl:t.all.length=t.size:=AT.eh t
  simp[hl]
  refine⟨hG,.val _,hk _ fun h=>⟨⟨hsm,hsz⟩,?_⟩⟩
  simp at h
  omega
abbrev zh (n:Int):AT:=.mk ⟨1,0,0,n,ByteArray.empty,ByteArray.empty,ByteArray.empty⟩ 0 [] [] (.mk 0 0 [] []) (.mk 0 0 [] []) []
abbrev v7:AT:=.mk ⟨3,0,0,0,ByteArray.empty,ByteArray.empty,ByteArray.empty⟩ 0 [] [] (.mk 0 0 [] []) (.mk 0 0 [] []) [zh 3,zh 4]
abbrev oB:AT:=.mk ⟨4,0,0,0,ByteArray.empty,ByteArray.empty,ByteArray.empty⟩ 0 [] [] (.mk 0 0 [] []) (.mk 0 0 [] []) [v7]
theorem Cv:fN oB=true:=by decide+kernel
theorem F2:Wf oB:=by
 have n:∀i,Wf (zh i):=fun i=>.mk (by simp[AT.h]) rfl (by simp[AT.kids]) (by simp[AT.aH])
 have p:Wf v7:=.mk (by simp[AT.h]) rfl (by intro c hc;simp[AT.kids]at hc;rcases hc with rfl | rfl<;>exact n _) (by simp[AT.aH])
 exact .mk (by simp[AT.h]) rfl (by intro c hc;simp[AT.kids]at hc;subst hc;exact p) (by simp[AT.aH])
def sA:Sa:=⟨⟨1,1,[(true,[⟨1,num 3,num 4,0⟩])],1⟩,4,[]⟩
theorem Cu:Big 9 (s0 1 1) oB En.nil sA (.val (num 3)):=by
 have n3:Big 9 ⟨st0 1 1,2,[]⟩ (zh 3) En.nil ⟨st0 1 1,3,[]⟩ (.val (num 3)):=.leaf (by decide) (by simp[bu,AT.h]) (by simp[leaf,AT.h,tick,st0])
 have n4:Big 9 ⟨st0 1 1,3,[]⟩ (zh 4) En.nil ⟨st0 1 1,4,[]⟩ (.val (num 4)):=.leaf (by decide) (by simp[bu,AT.h]) (by simp[leaf,AT.h,tick,st0])
 have p:Big 9 ⟨st0 1 1,1,[]⟩ v7 En.nil sA (.val ⟨2,0,0,0⟩):=.rule2 (s₁:=⟨st0 1 1,3,[]⟩) (s₂:=⟨st0 1 1,4,[]⟩) (v:=num 3) (w:=num 4) (by decide) (by simp[AT.h]) rfl n3 n4 (by
  have:eJ ⟨st0 1 1,4,[]⟩ v7 En.nil [num 3,num 4]= .ok (.val ⟨2,0,0,0⟩) sA:=by rfl
  rw[this];exact .val)
 refine .rule1 (s₁:=sA) (v:=⟨2,0,0,0⟩) (by decide) (by simp[AT.h]) rfl p ?_
 have:eJ sA oB En.nil [⟨2,0,0,0⟩]= .ok (.val (num 3)) sA:=by rfl
 rw[this];exact .val
theorem nA:j7 9 1 1 oB:=⟨by omega,F2,by decide,⟨by omega,by omega⟩⟩
theorem wX:Whole (gJ 9) (kB 1) (ng 1) oB ⟨sA,1,true,3,ByteArray.empty⟩:=by
 have e1:gJ 9=9:=rfl
 have e2:kB 1=1:=rfl
 have e3:ng 1=1:=rfl
 rw[e1,e2,e3]
 exact lS nA.f nA.wf nA.sz nA.lim Cu
theorem F1:oB.Ok:=⟨by simp[AT.small,AT.cn,Head.small,iY,RT.size,RT.aI,RT.small,RT.cn],by decide⟩
theorem wW:oB.iU:=by
 intro x hx
 simp[AT.all,AT.bE]at hx
 rcases hx with rfl | rfl | rfl | rfl<;>simp[AT.h,jg]
abbrev zM (kd n:Int) (ks:AV):List AV:=[u8 kd,u8 0,int 0,int n,str ByteArray.empty,str ByteArray.empty,str ByteArray.empty,int 0,.val (.slice none 0 0),.val (.slice none 0 0),u8 0,int 0,.val (.slice none 0 0),.val (.slice none 0 0),u8 0,int 0,.val (.slice none 0 0),.val (.slice none 0 0),ks]
theorem wx {τ:ah} {D:Nat→Prop} {kd n:Int} {ks:AV} {l:List AT} (h:Fz τ D ks (AT.vs l)):FzL τ D (zM kd n ks) (AT.av (.mk ⟨kd,0,0,n,ByteArray.empty,ByteArray.empty,ByteArray.empty⟩ 0 [] [] (.mk 0 0 [] []) (.mk 0 0 [] []) l)):=
 .cons (.refl _) (.cons (.refl _) (.cons (.refl _) (.cons (.refl _) (.cons (.refl _) (.cons (.refl _) (.cons (.refl _) (.cons (.refl _) (.cons .nil (.cons .nil (.cons (.refl _) (.cons (.refl _) (.cons .nil (.cons .nil (.cons (.refl _) (.cons (.refl _) (.cons .nil (.cons .nil (.cons h .nil))))))))))))))))))
theorem sW {n:Int} (hk:K (.agg (zM 1 n (.val (.slice none 0 0)))) σ):Ev PR 23 [int n] σ K kp:=by
 refine Ev.bB hk ((Dat.agg (by simp[Dat.val])).low _) fun k' hk'=> ?_
 apply Ep;unfold F23
 simp[an,au]
 exact hk' _ ((aq.new _ _).set (Nat.le_refl _) _)
theorem FZ (ks:List LK) (cs ds:List AV):ar .eql (.agg ks) (.agg cs) (.agg ds)=(bp ks cs ds).map fun b=>bool b:=by simp[ar,qJ,aEq]
theorem fp (hk:K (bool true) σ):Ev PR 11 [] σ K kp:=by
 refine Ev.bB hk ((Dat.val _).low _) fun k' hk'=> ?_
 apply D6;unfold F11
 simp[fX,an]
 refine sW (sW ?_)
 simp[an,au]
 generalize hτ:ah.set _ _ _=τ
 have hg:aq σ τ:=by rw[←hτ];exact(aq.new _ _).set (Nat.le_refl _) _
 have hz:∀ {D:Nat→Prop},FzL τ D (zM 4 0 (.sl true 19 [zM 3 0 (.sl true 19 [zM 1 3 (.val (.slice none 0 0)),zM 1 4 (.val (.slice none 0 0))])])) oB.av:=
  wx (FzR.sl (.cons (wx (FzR.sl (.cons (wx .nil) (.cons (wx .nil) .nil)))) .nil))
 refine Ev.iw (args':=[oB.v,int 9,.agg [int 1,int 1]]) (.cons hz.agg (.cons (.refl _) (.cons (.refl _) .nil))) ?_
 refine tR F1 wW (by omega) (fun _=>wX) ?_
 have e:pt oB ⟨sA,1,true,3,ByteArray.empty⟩= .tup [.agg (j6 1 true 3 ByteArray.empty 4 1 1 1),int 0]:=by
  unfold pt;rw[if_pos Cv];rfl
 rw[e]
 simp[j6,an,au,FZ,bp,iH]
 exact hk' _ (hg.trans ((aq.new _ _).set (Nat.le_refl _) _))
end Go.Abs.Mac
set_option linter.unusedVariables false
set_option linter.unusedSimpArgs false
set_option linter.deprecated false
namespace Go.Abs.Mac
open Go Go.Abs Go.Abs.Stk Go.Abs.At Go.Proofs.MacD
variable {σ τ:ah} {K kp:AV→ah→Prop}
theorem tJ {t:AT} (ok:t.Ok) {f:Int} (hf:f≤3000) (a b:Int):∃r,fN t=true→Whole (gJ f) (kB a) (ng b) t r:=by
 by_cases h:fN t=true
 ·have hf':gJ f≤3000:=by unfold gJ;omega
  obtain⟨s',o,hb⟩:=m7 hf' (ly ok h) ok.size (uz a b)
  exact⟨_,fun _=>lS hf' (ly ok h) ok.size (uz a b) hb⟩
 ·exact⟨⟨s0 1 1,0,false,0,ByteArray.empty⟩,fun e=>absurd e h⟩
theorem DX {t:AT} (ok:t.Ok) (h:fN t=true) {f:Int} (hf:f≤3000) (a b:Int):j7 (gJ f) (kB a) (ng b) t:=⟨by unfold gJ;omega,ly ok h,ok.size,uz a b⟩
end Go.Abs.Mac
