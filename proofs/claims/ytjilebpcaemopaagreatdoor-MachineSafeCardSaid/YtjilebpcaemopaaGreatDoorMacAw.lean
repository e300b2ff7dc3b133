import Derived.Test.YtjilebpcaemopaaGreatDoorMacRun3
import Derived.Test.YtjilebpcaemopaaGreatDoorMacDec
set_option linter.unusedVariables false
set_option linter.unusedSimpArgs false
set_option linter.deprecated false
namespace Go.Abs.Mac
open Go Go.Abs Go.Abs.Stk Go.Abs.At Go.Proofs.MacD Go.Proofs.AtD
variable {σ τ:ah} {K kp:AV→ah→Prop}
theorem xz {t:AT} (hfit:t.fit) (hk:∀b:Bool,(b=false→t.Ok∧t.size≤150)→K (bool b) σ):Ev PR 10 [t.v] σ K kp:=by
 refine Ev.jE ?_
 apply Ej;unfold F10
 simp
 have hG:aq σ (σ.new (.cells 19 [t.av])):=aq.new _ _
 refine yZ hfit fun b hb=> ?_
 cases b with
 | true=>
  simp
  exact⟨hG,.val _,hk true (by simp)⟩
 | false=>
  obtain⟨hsz,hsm⟩:=hb rfl
  simp
  refine rC _ t (Nat.le_refl _) (by omega) _ _ _ ?_
  have hl:t.all.length=t.size:=AT.gq t
  simp[hl]
  refine⟨hG,.val _,hk _ fun h=>⟨⟨hsm,hsz⟩,?_⟩⟩
  simp at h
  omega
abbrev zt (n:Int):AT:=.mk ⟨1,0,0,n,ByteArray.empty,ByteArray.empty,ByteArray.empty⟩ 0 [] [] (.mk 0 0 [] []) (.mk 0 0 [] []) []
abbrev wv:AT:=.mk ⟨3,0,0,0,ByteArray.empty,ByteArray.empty,ByteArray.empty⟩ 0 [] [] (.mk 0 0 [] []) (.mk 0 0 [] []) [zt 3,zt 4]
abbrev oY:AT:=.mk ⟨4,0,0,0,ByteArray.empty,ByteArray.empty,ByteArray.empty⟩ 0 [] [] (.mk 0 0 [] []) (.mk 0 0 [] []) [wv]
theorem CK:iO oY=true:=by decide+kernel
theorem Gk:Wf oY:=by
 have n:∀i,Wf (zt i):=fun i=>.mk (by simp[AT.h]) rfl (by simp[AT.kids]) (by simp[AT.aG])
 have p:Wf wv:=.mk (by simp[AT.h]) rfl (by intro c hc;simp[AT.kids]at hc;rcases hc with rfl | rfl<;>exact n _) (by simp[AT.aG])
 exact .mk (by simp[AT.h]) rfl (by intro c hc;simp[AT.kids]at hc;subst hc;exact p) (by simp[AT.aG])
def sY:Sa:=⟨⟨1,1,[(true,[⟨1,num 3,num 4,0⟩])],1⟩,4,[]⟩
theorem CJ:Big 9 (s0 1 1) oY En.nil sY (.val (num 3)):=by
 have n3:Big 9 ⟨st0 1 1,2,[]⟩ (zt 3) En.nil ⟨st0 1 1,3,[]⟩ (.val (num 3)):=.leaf (by decide) (by simp[bu,AT.h]) (by simp[leaf,AT.h,tick,st0])
 have n4:Big 9 ⟨st0 1 1,3,[]⟩ (zt 4) En.nil ⟨st0 1 1,4,[]⟩ (.val (num 4)):=.leaf (by decide) (by simp[bu,AT.h]) (by simp[leaf,AT.h,tick,st0])
 have p:Big 9 ⟨st0 1 1,1,[]⟩ wv En.nil sY (.val ⟨2,0,0,0⟩):=.rule2 (s₁:=⟨st0 1 1,3,[]⟩) (s₂:=⟨st0 1 1,4,[]⟩) (v:=num 3) (w:=num 4) (by decide) (by simp[AT.h]) rfl n3 n4 (by
  have:dC ⟨st0 1 1,4,[]⟩ wv En.nil [num 3,num 4]= .ok (.val ⟨2,0,0,0⟩) sY:=by rfl
  rw[this];exact .val)
 refine .rule1 (s₁:=sY) (v:=⟨2,0,0,0⟩) (by decide) (by simp[AT.h]) rfl p ?_
 have:dC sY oY En.nil [⟨2,0,0,0⟩]= .ok (.val (num 3)) sY:=by rfl
 rw[this];exact .val
theorem nY:lC 9 1 1 oY:=⟨by omega,Gk,by decide,⟨by omega,by omega⟩⟩
theorem xj:Whole (ir 9) (nR 1) (nQ 1) oY ⟨sY,1,true,3,ByteArray.empty⟩:=by
 have e1:ir 9=9:=rfl
 have e2:nR 1=1:=rfl
 have e3:nQ 1=1:=rfl
 rw[e1,e2,e3]
 exact p8 nY.f nY.wf nY.sz nY.lim CJ
theorem Gj:oY.Ok:=⟨by simp[AT.small,AT.cW,Head.small,kQ,RT.size,RT.aJ,RT.small,RT.cW],by decide⟩
theorem xi:oY.kN:=by
 intro x hx
 simp[AT.all,AT.bI]at hx
 rcases hx with rfl | rfl | rfl | rfl<;>simp[AT.h,kM]
abbrev zM (kd n:Int) (ks:AV):List AV:=[u8 kd,u8 0,int 0,int n,str ByteArray.empty,str ByteArray.empty,str ByteArray.empty,int 0,.val (.slice none 0 0),.val (.slice none 0 0),u8 0,int 0,.val (.slice none 0 0),.val (.slice none 0 0),u8 0,int 0,.val (.slice none 0 0),.val (.slice none 0 0),ks]
theorem wN {τ:ah} {D:Nat→Prop} {kd n:Int} {ks:AV} {l:List AT} (h:Fz τ D ks (AT.vs l)):FzL τ D (zM kd n ks) (AT.av (.mk ⟨kd,0,0,n,ByteArray.empty,ByteArray.empty,ByteArray.empty⟩ 0 [] [] (.mk 0 0 [] []) (.mk 0 0 [] []) l)):=
 .cons (.refl _) (.cons (.refl _) (.cons (.refl _) (.cons (.refl _) (.cons (.refl _) (.cons (.refl _) (.cons (.refl _) (.cons (.refl _) (.cons .nil (.cons .nil (.cons (.refl _) (.cons (.refl _) (.cons .nil (.cons .nil (.cons (.refl _) (.cons (.refl _) (.cons .nil (.cons .nil (.cons h .nil))))))))))))))))))
theorem tx {n:Int} (hk:K (.agg (zM 1 n (.val (.slice none 0 0)))) σ):Ev PR 23 [int n] σ K kp:=by
 refine Ev.bC hk ((Dat.agg (by simp[Dat.val])).low _) fun k' hk'=> ?_
 apply EG;unfold F23
 simp[an,au]
 exact hk' _ ((aq.new _ _).set (Nat.le_refl _) _)
theorem Gh (ks:List LK) (cs ds:List AV):ar .eql (.agg ks) (.agg cs) (.agg ds)=(br ks cs ds).map fun b=>bool b:=by simp[ar,rz,aEq]
theorem gM (hk:K (bool true) σ):Ev PR 11 [] σ K kp:=by
 refine Ev.bC hk ((Dat.val _).low _) fun k' hk'=> ?_
 apply Em;unfold F11
 simp[gN,an]
 refine tx (tx ?_)
 simp[an,au]
 generalize hτ:ah.set _ _ _=τ
 have hg:aq σ τ:=by rw[←hτ];exact(aq.new _ _).set (Nat.le_refl _) _
 have hz:∀ {D:Nat→Prop},FzL τ D (zM 4 0 (.sl true 19 [zM 3 0 (.sl true 19 [zM 1 3 (.val (.slice none 0 0)),zM 1 4 (.val (.slice none 0 0))])])) oY.av:=
  wN (FzR.sl (.cons (wN (FzR.sl (.cons (wN .nil) (.cons (wN .nil) .nil)))) .nil))
 refine Ev.iX (args':=[oY.v,int 9,.agg [int 1,int 1]]) (.cons hz.agg (.cons (.refl _) (.cons (.refl _) .nil))) ?_
 refine yg Gj xi (by omega) (fun _=>xj) ?_
 have e:pR oY ⟨sY,1,true,3,ByteArray.empty⟩= .tup [.agg (kb 1 true 3 ByteArray.empty 4 1 1 1),int 0]:=by
  unfold pR;rw[if_pos CK];rfl
 rw[e]
 simp[kb,an,au,Gh,br,jj]
 exact hk' _ (hg.trans ((aq.new _ _).set (Nat.le_refl _) _))
end Go.Abs.Mac
set_option linter.unusedVariables false
set_option linter.unusedSimpArgs false
set_option linter.deprecated false
namespace Go.Abs.Mac
open Go Go.Abs Go.Abs.Stk Go.Abs.At Go.Proofs.MacD
variable {σ τ:ah} {K kp:AV→ah→Prop}
theorem Ar {t:AT} (ok:t.Ok) {f:Int} (hf:f≤3000) (a b:Int):∃r,iO t=true→Whole (ir f) (nR a) (nQ b) t r:=by
 by_cases h:iO t=true
 ·have hf':ir f≤3000:=by unfold ir;omega
  obtain⟨s',o,hb⟩:=nJ hf' (kB ok h) ok.size (uU a b)
  exact⟨_,fun _=>p8 hf' (kB ok h) ok.size (uU a b) hb⟩
 ·exact⟨⟨s0 1 1,0,false,0,ByteArray.empty⟩,fun e=>absurd e h⟩
theorem runOk {t:AT} (ok:t.Ok) (h:iO t=true) {f:Int} (hf:f≤3000) (a b:Int):lC (ir f) (nR a) (nQ b) t:=⟨by unfold ir;omega,kB ok h,ok.size,uU a b⟩
end Go.Abs.Mac
