import Derived.Test.YtjilebpcaemopaaGreatDoorMacRun3
import Derived.Test.YtjilebpcaemopaaGreatDoorMacDecL
set_option linter.unusedVariables false
set_option linter.unusedSimpArgs false
set_option linter.deprecated false
namespace Go.Abs.Mac
open Go Go.Abs Go.Abs.Stk Go.Abs.At Go.Proofs.MacD Go.Proofs.AtD
variable {σ τ:AHeap} {K kp:AV→AHeap→Prop}
theorem mgreat_ev {t:AT} (hfit:t.fit) (hk:∀ b:Bool,(b=false→t.Ok∧t.size≤150)→K (bool b) σ):Ev PR 10 [t.v] σ K kp:=by
  refine Ev.pureE ?_
  apply F10_ev;unfold F10
  simp
  have hG:Grows σ (σ.new (.cells 19 [t.av])):=Grows.new _ _
  refine great_ev hfit fun b hb=>?_
  cases b with
  | true =>
    simp
    exact ⟨hG,.val _,hk true (by simp)⟩
  | false =>
    obtain ⟨hsz,hsm⟩:=hb rfl
    simp
    refine all_ref _ t (Nat.le_refl _) (by omega) _ _ _ ?_
    have hl:t.all.length=t.size:=AT.all_len t
    simp [hl]
    refine ⟨hG,.val _,hk _ fun h=>⟨⟨hsm,hsz⟩,?_⟩⟩
    simp at h
    omega
abbrev numT (n:Int):AT:=.mk ⟨1,0,0,n,ByteArray.empty,ByteArray.empty,ByteArray.empty⟩ 0 [] [] (.mk 0 0 [] []) (.mk 0 0 [] []) []
abbrev pairT:AT:=.mk ⟨3,0,0,0,ByteArray.empty,ByteArray.empty,ByteArray.empty⟩ 0 [] [] (.mk 0 0 [] []) (.mk 0 0 [] []) [numT 3,numT 4]
abbrev fstT:AT:=.mk ⟨4,0,0,0,ByteArray.empty,ByteArray.empty,ByteArray.empty⟩ 0 [] [] (.mk 0 0 [] []) (.mk 0 0 [] []) [pairT]
theorem fst_may:mayM fstT=true:=by decide +kernel
theorem fst_wf:Wf fstT:=by
  have n:∀ i,Wf (numT i):=fun i=>.mk (by simp [AT.h]) rfl (by simp [AT.kids]) (by simp [AT.rhos])
  have p:Wf pairT:=.mk (by simp [AT.h]) rfl (by intro c hc;simp [AT.kids] at hc;rcases hc with rfl | rfl <;> exact n _) (by simp [AT.rhos])
  exact .mk (by simp [AT.h]) rfl (by intro c hc;simp [AT.kids] at hc;subst hc;exact p) (by simp [AT.rhos])
def fstS:Sa:=⟨⟨1,1,[(true,[⟨1,num 3,num 4,0⟩])],1⟩,4,[]⟩
theorem fst_big:Big 9 (s0 1 1) fstT En.nil fstS (.val (num 3)):=by
  have n3:Big 9 ⟨st0 1 1,2,[]⟩ (numT 3) En.nil ⟨st0 1 1,3,[]⟩ (.val (num 3)):=.leaf (by decide) (by simp [isLeaf,AT.h]) (by simp [leaf,AT.h,tick,st0])
  have n4:Big 9 ⟨st0 1 1,3,[]⟩ (numT 4) En.nil ⟨st0 1 1,4,[]⟩ (.val (num 4)):=.leaf (by decide) (by simp [isLeaf,AT.h]) (by simp [leaf,AT.h,tick,st0])
  have p:Big 9 ⟨st0 1 1,1,[]⟩ pairT En.nil fstS (.val ⟨2,0,0,0⟩):=.rule2 (s₁:=⟨st0 1 1,3,[]⟩) (s₂:=⟨st0 1 1,4,[]⟩) (v:=num 3) (w:=num 4) (by decide) (by simp [AT.h]) rfl n3 n4 (by
    have:rule ⟨st0 1 1,4,[]⟩ pairT En.nil [num 3,num 4]=.ok (.val ⟨2,0,0,0⟩) fstS:=by rfl
    rw [this];exact .val)
  refine .rule1 (s₁:=fstS) (v:=⟨2,0,0,0⟩) (by decide) (by simp [AT.h]) rfl p ?_
  have:rule fstS fstT En.nil [⟨2,0,0,0⟩]=.ok (.val (num 3)) fstS:=by rfl
  rw [this];exact .val
theorem fst_run:RunOk 9 1 1 fstT:=⟨by omega,fst_wf,by decide,⟨by omega,by omega⟩⟩
theorem fst_whole:Whole (fuelN 9) (limR 1) (limC 1) fstT ⟨fstS,1,true,3,ByteArray.empty⟩:=by
  have e1:fuelN 9=9:=rfl
  have e2:limR 1=1:=rfl
  have e3:limC 1=1:=rfl
  rw [e1,e2,e3]
  exact whole_of fst_run.f fst_run.wf fst_run.sz fst_run.lim fst_big
theorem fst_ok:fstT.Ok:=⟨by simp [AT.small,AT.smalls,Head.small,effOk,RT.size,RT.sizes,RT.small,RT.smalls],by decide⟩
theorem fst_kinds:fstT.Kinds:=by
  intro x hx
  simp [AT.all,AT.alls] at hx
  rcases hx with rfl | rfl | rfl | rfl <;> simp [AT.h,Byte]
abbrev zM (kd n:Int) (ks:AV):List AV:=[u8 kd,u8 0,int 0,int n,str ByteArray.empty,str ByteArray.empty,str ByteArray.empty,int 0,.val (.slice none 0 0),.val (.slice none 0 0),u8 0,int 0,.val (.slice none 0 0),.val (.slice none 0 0),u8 0,int 0,.val (.slice none 0 0),.val (.slice none 0 0),ks]
theorem zM_fz {τ:AHeap} {D:Nat→Prop} {kd n:Int} {ks:AV} {l:List AT} (h:Fz τ D ks (AT.vs l)):FzL τ D (zM kd n ks) (AT.av (.mk ⟨kd,0,0,n,ByteArray.empty,ByteArray.empty,ByteArray.empty⟩ 0 [] [] (.mk 0 0 [] []) (.mk 0 0 [] []) l)) :=
  .cons (.refl _) (.cons (.refl _) (.cons (.refl _) (.cons (.refl _) (.cons (.refl _) (.cons (.refl _) (.cons (.refl _) (.cons (.refl _) (.cons .nil (.cons .nil (.cons (.refl _) (.cons (.refl _) (.cons .nil (.cons .nil (.cons (.refl _) (.cons (.refl _) (.cons .nil (.cons .nil (.cons h .nil))))))))))))))))))
theorem num23_ev {n:Int} (hk:K (.agg (zM 1 n (.val (.slice none 0 0)))) σ):Ev PR 23 [int n] σ K kp:=by
  refine Ev.pureD hk ((Dat.agg (by simp [Dat.val])).low _) fun k' hk'=>?_
  apply F23_ev;unfold F23
  simp [get_new,get_set]
  exact hk' _ ((Grows.new _ _).set (Nat.le_refl _) _)
theorem eq_agg (ks:List LK) (cs ds:List AV):aBin .eql (.agg ks) (.agg cs) (.agg ds)=(eqLeaves ks cs ds).map fun b=>bool b:=by simp [aBin,aBinEq,aEq]
theorem awake_ev (hk:K (bool true) σ):Ev PR 11 [] σ K kp:=by
  refine Ev.pureD hk ((Dat.val _).low _) fun k' hk'=>?_
  apply F11_ev;unfold F11
  simp [callK,get_new]
  refine num23_ev (num23_ev ?_)
  simp [get_new,get_set]
  generalize hτ:AHeap.set _ _ _=τ
  have hg:Grows σ τ:=by rw [← hτ];exact (Grows.new _ _).set (Nat.le_refl _) _
  have hz:∀ {D:Nat→Prop},FzL τ D (zM 4 0 (.sl true 19 [zM 3 0 (.sl true 19 [zM 1 3 (.val (.slice none 0 0)),zM 1 4 (.val (.slice none 0 0))])])) fstT.av :=
    zM_fz (FzR.sl (.cons (zM_fz (FzR.sl (.cons (zM_fz .nil) (.cons (zM_fz .nil) .nil)))) .nil))
  refine Ev.weak (args':=[fstT.v,int 9,.agg [int 1,int 1]]) (.cons hz.agg (.cons (.refl _) (.cons (.refl _) .nil))) ?_
  refine Run_ev fst_ok fst_kinds (by omega) (fun _=>fst_whole) ?_
  have e:runV fstT ⟨fstS,1,true,3,ByteArray.empty⟩=.tup [.agg (outC 1 true 3 ByteArray.empty 4 1 1 1),int 0]:=by
    unfold runV;rw [if_pos fst_may];rfl
  rw [e]
  simp [outC,get_new,get_set,eq_agg,eqLeaves,eqLeaf]
  exact hk' _ (hg.trans ((Grows.new _ _).set (Nat.le_refl _) _))
end Go.Abs.Mac
namespace Go.Abs.Mac
open Go Go.Abs Go.Abs.Stk Go.Abs.At Go.Proofs.MacD
variable {σ τ:AHeap} {K kp:AV→AHeap→Prop}
theorem whole_ex {t:AT} (ok:t.Ok) {f:Int} (hf:f≤3000) (a b:Int):∃ r,mayM t=true→Whole (fuelN f) (limR a) (limC b) t r:=by
  by_cases h:mayM t=true
  · have hf':fuelN f≤3000:=by unfold fuelN;omega
    obtain ⟨s',o,hb⟩:=whole_total hf' (mayM_wf ok h) ok.size (lim_ok a b)
    exact ⟨_,fun _=>whole_of hf' (mayM_wf ok h) ok.size (lim_ok a b) hb⟩
  · exact ⟨⟨s0 1 1,0,false,0,ByteArray.empty⟩,fun e=>absurd e h⟩
end Go.Abs.Mac
namespace Go.Abs.Mac
open Go Go.Abs Go.Abs.Stk Go.Abs.At Go.Proofs.MacD
variable {σ τ:AHeap} {K kp:AV→AHeap→Prop}
theorem SameEnd.outV {r r':Res} (h:SameEnd r r' 0):Mac.outV r'=Mac.outV r:=by
  unfold Mac.outV
  rw [h.kind,h.isInt,h.n,h.exn,h.steps,h.live,h.cells,h.most];rfl
end Go.Abs.Mac
