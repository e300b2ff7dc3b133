import Derived.Test.YtjilebpcaemopaaGreatDoorMacSafeP
import Derived.Test.YtjilebpcaemopaaGreatDoorWrapA
set_option linter.unusedVariables false
set_option linter.unusedSimpArgs false
set_option linter.deprecated false
namespace Go.Abs.Mac
open Go Go.Abs Go.Abs.Stk Go.Abs.At Go.Proofs.MacD Go.Abs.Chk
variable {σ τ:ah} {k K kp:AV→ah→Prop}
attribute [local simp] Nat.add_assoc
abbrev zH (kd:Int):Head:=⟨kd,0,0,0,ByteArray.empty,ByteArray.empty,ByteArray.empty⟩
abbrev mz (ρ:Int) (t:AT):AT:=.mk (zH 17) ρ [] [] (.mk 0 0 [] []) (.mk 0 0 [] []) [t]
theorem qj (ρ:Int) (t:AT):(mz ρ t).size=t.size+1:=by simp[AT.size,AT.aI];omega
theorem rv {ρ:Int} {t:AT} (h:t.Ok) (hs:t.size≤150):(mz ρ t).Ok:=by
 refine⟨?_,by rw[qj];omega⟩
 simp only[mz,AT.small,AT.cn]
 have e0:ByteArray.empty.size≤100:=by decide
 have r:(RT.mk 0 0 [] []).size≤100∧(RT.mk 0 0 [] []).small:=⟨by decide,by simp[RT.small,RT.cn,iY]⟩
 exact⟨⟨e0,e0,e0⟩,by simp,by simp[iY],r,r,h.small,trivial⟩
theorem uE {ρ:Int} {t:AT} (h:t.iU):(mz ρ t).iU:=by
 intro x hx
 rw[AT.all_eq]at hx
 rcases List.mem_cons.1 hx with rfl | hx
 ·simp[AT.h,jg]
 ·simp[AT.kids,AT.bE,AT.all]at hx
  exact h x hx
theorem xr {ρ:Int} (h:1≤ρ) (t:AT):bN (mz ρ t)=true:=by
 have h1:cW (mz ρ t)=true:=by
  have e:cW (mz ρ t)=cW (mz 1 (mz 1 (.mk (zH 1) 0 [] [] (.mk 0 0 [] []) (.mk 0 0 [] []) []))):=rfl
  rw[e];decide+kernel
 have h2:(0:Int)≤ρ:=by omega
 have h3:¬ρ=0:=by omega
 have h4:dN (mz ρ t)=true:=rfl
 have h5:bQ (mz ρ t).eff=true:=rfl
 have h6:cR (.mk 0 0 [] [])=true:=by decide
 unfold bN
 rw[h1,h4,h5]
 simp[AT.h,AT.rho,AT.aH,AT.eff,AT.type,AT.res,h2,h3,h6]
theorem zx {ρ:Int} (h0:1≤ρ) {t:AT} (h:fN t=true) (hs:t.size≤150):fN (mz ρ t)=true:=by
 unfold fN at h⊢
 rw[Bool.and_eq_true]at h⊢
 refine⟨by rw[decide_eq_true_eq,qj];omega,?_⟩
 rw[List.all_eq_true]
 intro x hx
 rw[AT.all_eq]at hx
 rcases List.mem_cons.1 hx with rfl | hx
 ·exact xr h0 t
 ·simp[AT.kids,AT.bE,AT.all]at hx
  exact List.all_eq_true.1 h.2 x hx
abbrev zW (ρ:Int) (ks:AV):List AV:=[u8 17,u8 0,int 0,int 0,str ByteArray.empty,str ByteArray.empty,str ByteArray.empty,int ρ,.val (.slice none 0 0),.val (.slice none 0 0),u8 0,int 0,.val (.slice none 0 0),.val (.slice none 0 0),u8 0,int 0,.val (.slice none 0 0),.val (.slice none 0 0),ks]
theorem zW_fz {τ:ah} {D:Nat→Prop} {ρ:Int} {ks:AV} {l:List AT} (h:Fz τ D ks (AT.vs l)):FzL τ D (zW ρ ks) (AT.av (.mk (zH 17) ρ [] [] (.mk 0 0 [] []) (.mk 0 0 [] []) l)):=
 .cons (.refl _) (.cons (.refl _) (.cons (.refl _) (.cons (.refl _) (.cons (.refl _) (.cons (.refl _) (.cons (.refl _) (.cons (.refl _) (.cons .nil (.cons .nil (.cons (.refl _) (.cons (.refl _) (.cons .nil (.cons .nil (.cons (.refl _) (.cons (.refl _) (.cons .nil (.cons .nil (.cons h .nil))))))))))))))))))
theorem zP {t:AT} {r:Res} (h:fN t=true):pt t r= .tup [zm r,int 0]:=by unfold pt;rw[h];rfl
theorem xd {a:Int} (h1:1≤a) (h2:a≤524288):kB (a+1)=kB a+1:=by unfold kB;omega
theorem w9 {t:AT} (hfit:t.fit) (hkd:t.iU) {f a b ρ:Int} (hk:K (bool true) σ):Ev PR 8 [t.v,int f,.agg [int a,int b],int ρ] σ K kp:=by
 refine Ev.bB hk ((Dat.val _).low _) fun k' hk'=> ?_
 apply F8_ev;unfold F8
 simp[an]
 generalize hτ:ah.new _ (.cells 2 _)=τ
 have hg:aq σ τ:=by rw[←hτ];exact(aq.new _ _).trans (aq.new _ _)
 have g0:τ.get σ.next=some (.cells 19 [t.av]):=by rw[←hτ];simp[an]
 have g1:τ.get (σ.next+1)=some (.cells 2 [[int a,int b]]):=by rw[←hτ];simp[an]
 have hn:τ.next=σ.next+2:=by rw[←hτ];rfl
 clear hτ
 refine xj hfit fun g hg'=> ?_
 cases g with
 | true=>
  simp
  exact fp (hk' _ hg)
 | false=>
  obtain⟨ok,hsz⟩:=hg' rfl
  by_cases c1:(500:Int)<f
  ·simp[c1]
   exact fp (hk' _ hg)
  by_cases c2:ρ<1
  ·simp[c1,c2]
   exact fp (hk' _ hg)
  by_cases c3:(524288:Int)<a
  ·simp[c1,c2,c3,g1]
   exact fp (hk' _ hg)
  by_cases c4:a<1
  ·simp[c1,c2,c3,c4,g1]
   exact fp (hk' _ hg)
  simp[c1,c2,c3,c4,g0,g1]
  have hol:(bg t.all).length≤50 * t.all.length:=oR fun x hx=>vW (AT.mC _ ok.small x hx)
  have hal:=t.eh
  have hs4:=ok.size
  refine wH (by omega) (by omega) ?_
  refine gL (l:=bg t.all) (by omega) (.inr (.inl ⟨false,rfl⟩)) ?_
  by_cases c5:ρ∈bg t.all
  ·simp[c5]
   exact fp (hk' _ hg)
  simp[c5,g0]
  refine wN ok ?_
  have hcr:=@Safe.r9 t ok
  generalize fB t=R at hcr
  have r6:∀r:Rr,r.av[6]?=some (int r.no):=fun r=>Gx r
  have r6':∀(r:Rr) (h:6<r.av.length),r.av[6]'h=int r.no:=fun r h=>DS r h
  simp[r6,r6']
  by_cases hno:R.no=0
  ·have hR:=hcr hno
   have hm:=hR.may
   have hm2:=zx (ρ:=ρ) (by omega) hm hsz
   simp[hno,g0,g1]
   obtain⟨r,hr⟩:=tJ ok (f:=f) (by omega) a b
   refine tR ok hkd (by omega) hr ?_
   rw[zP hm]
   have n1:σ.next≠τ.next:=by omega
   have n2:σ.next+1≠τ.next:=by omega
   have n3:σ.next≠τ.next+1:=by omega
   have n4:σ.next+1≠τ.next+1:=by omega
   have n5:τ.next≠τ.next+1:=by omega
   have hwf:IntKind.i64.wrap (a+1)=a+1:=wrap64 (by omega)
   simp[zm,j6,an,au,n1,n2,n3,n4,n5,g0,g1,hwf]
   generalize hτ1:ah.new _ (.cells 19 [t.av])=τ1
   have hg1:aq τ τ1:=by rw[←hτ1];exact((aq.new _ _).set (Nat.le_refl _) _).trans (aq.new _ _)
   have hn1:τ1.next=τ.next+2:=by rw[←hτ1];rfl
   have o1:τ1.get τ.next=some (.cells 8 [j6 r.kind r.isInt r.n r.exn r.s.steps r.s.store.live.length r.s.store.cells r.s.store.most]):=by rw[←hτ1];simp[au,an,j6]
   have o2:τ1.get (τ.next+1)=some (.cells 19 ([t.av]++ [])):=by rw[←hτ1];simp[au,an]
   clear hτ1
   obtain⟨x,hx⟩:=tJ (rv (ρ:=ρ) ok hsz) (f:=f) (by omega) (a+1) b
   refine Ev.freeze (args':=[(mz ρ t).v,int f,.agg [int (a+1),int b]]) (FzS.del τ1 (τ.next+1)) (.cons (zW_fz (τ:=τ1) (D:=fun i=>i=τ.next+1) (ρ:=ρ) (l:=[t]) (FzR.own (FzR.refl [t.av]) rfl rfl o2)).agg (.cons (.refl _) (.cons (.refl _) .nil))) ?_
   have o1':(τ1.del (τ.next+1)).get τ.next=some (.cells 8 [j6 r.kind r.isInt r.n r.exn r.s.steps r.s.store.live.length r.s.store.cells r.s.store.most]):=by rw[bD,if_neg (by omega)];exact o1
   have hn1':(τ1.del (τ.next+1)).next=τ.next+2:=hn1
   have hg2:aq τ (τ1.del (τ.next+1)):=⟨by omega,fun j hj=>by rw[bD,if_neg (by omega)];exact hg1.get j hj⟩
   generalize τ1.del (τ.next+1)=χ at o1' hn1' hg2
   refine tR (rv ok hsz) (uE hkd) (by omega) hx ?_
   rw[zP hm2]
   have q1:τ.next≠χ.next:=by omega
   have fin:∀o,k' (bool true) ((χ.new (.cells 8 [j6 0 false 0 ByteArray.empty 0 0 0 0])).set χ.next o):=fun o=>hk' _ ((hg.trans hg2).trans ((aq.new _ _).set (Nat.le_refl _) _))
   have R0:=DX ok hm (f:=f) (by omega) a b
   have R2:=DX (rv (ρ:=ρ) ok hsz) hm2 (f:=f) (by omega) (a+1) b
   have el:=xd (a:=a) (by omega) (by omega)
   rw[el]at R2 hx
   have s:Wrap.Du r x:=Wrap.xO R0 R2 (hr hm) (hx hm2) hR rfl rfl c5 (by show 1≤ρ;omega)
   simp[zm,j6,an,au,q1,o1',s.kind,s.isInt,s.n,s.exn,s.steps,s.most]
   exact fp (fin _)
  ·simp[hno]
   exact fp (hk' _ hg)
end Go.Abs.Mac
