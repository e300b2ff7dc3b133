import Derived.Test.YtjilebpcaemopaaGreatDoorMacDecS
import Derived.Test.YtjilebpcaemopaaGreatDoorChkJ
import Derived.Test.YtjilebpcaemopaaGreatDoorSafeF
import Derived.Test.YtjilebpcaemopaaGreatDoorMacAw
set_option linter.unusedVariables false
set_option linter.unusedSimpArgs false
set_option linter.deprecated false
namespace Go.Abs.Mac
open Go Go.Abs Go.Abs.Stk Go.Abs.At Go.Proofs.MacD Go.Abs.Chk
variable {σ τ:ah} {k K kp:AV→ah→Prop}
attribute [local simp] Nat.add_assoc
theorem uv {l:List ByteArray} {s:ByteArray} (hb:l.length<1000000) (hk:k (bool (l.any fun x=>decide (x=s))) σ):Ev PR 17 [gy l,str s] σ k kp:=by
 apply Ee;unfold F17
 have hlen:∀ω,aE .slice (gy l) ω=some (int l.length):=fun ω=>by simp[gy]
 refine aM ?_
 simp[hlen]
 obtain⟨I,hI⟩:∃I:aA→ah→Prop,∀f φ,I f φ↔∃(i:Nat),f= [(0,gy l),(1,str s),(7,int l.length),(8,int i)]∧i≤l.length∧φ=σ∧s∉l.take i:=⟨_,fun _ _=>Iff.rfl⟩
 refine bI I (fun f _=>l.length - (intOf (aa f 8)).toNat) ((hI _ _).2 ⟨0,rfl,Nat.zero_le _,rfl,by simp⟩) ?_
 intro f φ hi
 obtain⟨i,rfl,hi,rfl,hn⟩:=(hI _ _).1 hi
 by_cases hil:i<l.length
 ·obtain⟨x,hx⟩:=get_some hil
  have hxa:∀ω,ak 1 (gy l) (int i) ω=some (.ref [str x]):=fun ω=>by rw[gy,aD];simp[hx]
  have hwi:IntKind.i64.wrap ((i:Int)+1)=((i+1:Nat):Int):=by rw[wrap64 (by omega)];omega
  by_cases he:x=s
  ·simp[hil,hxa,he]
   have hm:(l.any fun x=>decide (x=s))=true:=List.any_eq_true.2 ⟨x,List.mem_of_getElem? hx,by simp[he]⟩
   rw[hm]at hk;exact hk
  ·simp[hil,hxa,he,hwi]
   refine⟨(hI _ _).2 ⟨i+1,by simp,hil,rfl,fun h=> ?_⟩,by omega⟩
   rw[List.take_add_one,hx]at h
   rcases List.mem_append.1 h with h | h
   ·exact hn h
   ·simp at h;exact he h.symm
 ·have hin:i=l.length:=by omega
  subst hin
  rw[List.take_length]at hn
  simp
  have hm:(l.any fun x=>decide (x=s))=false:=by
   rw[List.any_eq_false]
   intro x hx;simp;rintro rfl;exact hn hx
  rw[hm]at hk;exact hk
theorem wN {t:AT} (ht:t.Ok) (hk:k (fB t).v σ):Ev PR 16 [t.v] σ k kp:=by
 refine Ev.pure ?_
 apply Go.Proofs.ChkD.Ed;unfold Go.Proofs.ChkD.F16
 simp[an]
 generalize hτ:ah.new _ (.cells 7 _)=τ
 have hg:aq σ τ:=by rw[←hτ];exact(aq.new _ _).trans (aq.new _ _)
 have hnx:τ.next=σ.next+2:=by rw[←hτ];rfl
 have g0:τ.get σ.next=some (.cells 19 [t.av]):=by rw[←hτ];simp[an]
 have g1:τ.get (σ.next+1)=some (.cells 7 [[u8 0,int 0,bf,bf,bf,int 0,int 0]]):=by rw[←hτ];simp[an]
 clear hτ
 have fz:∀(a b:Int) (υ:ah),Frz υ σ.next (AV.agg [u8 0,int 0,bf,bf,bf,int a,int b]) (Rr.v ⟨bU,[],a,b⟩):=fun a b υ=>by
  show Frz _ _ _ (AV.agg [u8 0,int 0,aT [],RT.vs [],aT [],int a,int b])
  exact dY.agg (.cons (.low ((Dat.val _).low _)) (.cons (.low ((Dat.val _).low _)) (.cons .nil (.cons .nil (.cons .nil (.cons (.low ((Dat.val _).low _)) (.cons (.low ((Dat.val _).low _)) .nil)))))))
 have hol:(bg t.all).length≤50 * t.all.length:=oR fun x hx=>vW (AT.mC _ ht.small x hx)
 have hsz:=ht.size
 have hal:=t.eh
 refine CN ht ?_
 cases hm:fN t with
 | false=>
  have e:fB t=⟨bU,[],0,1⟩:=by unfold fB;rw[if_pos hm]
  rw[e]at hk
  simp[g1,au]
  exact⟨hg.set (by omega) _,_,fz 0 1 _,hk⟩
 | true=>
  simp[g0]
  refine wE (by omega) (by omega) ?_
  cases ha:(cN [] t.all).2 with
  | false=>
   have e:fB t=⟨bU,[],(cN [] t.all).1,6⟩:=by unfold fB;rw[if_neg (by simp[hm]),if_pos ha]
   rw[e]at hk
   simp[zn,ha,g1,au]
   exact⟨hg.set (by omega) _,_,fz _ 6 _,hk⟩
  | true=>
   have e:fB t=fdM t.size [] [0] t:=by unfold fB;rw[if_neg (by simp[hm]),if_neg (by simp[ha])]
   rw[e]at hk
   have hsp:=t.size_pos
   simp[zn,ha,g0]
   have z0:σ.next≠τ.next:=by omega
   have z1:σ.next≠τ.next+1:=by omega
   simp[an,g0,z0,z1]
   have hK:fA σ.next 2 25 ((τ.new (.cells 25 [])).new (.cells 1 [[int 0]])) (.own τ.next 0) []:=.inr (.inr ⟨τ.next,[],rfl,by simp[an],by omega,by simp⟩)
   have hq:(((τ.new (.cells 25 [])).new (.cells 1 [[int 0]])).del τ.next).get (τ.next+1)=some (.cells 1 [[int 0]]):=by simp[an,bD]
   refine Ev.freeze (FzS.del _ τ.next) (.cons ((FzR.refl []).own rfl rfl (by simp[an]:((τ.new (.cells 25 [])).new (.cells 1 [[int 0]])).get τ.next=some (.cells 25 ([]++ [])))) (.cons (.refl _) (.cons (.refl _) .nil))) ?_
   refine Ev.freeze (FzS.del _ (τ.next+1)) (.cons (.refl _) (.cons ((FzR.refl [[int 0]]).own rfl rfl (rest:=[]) hq) (.cons (.refl _) .nil))) ?_
   have gg:∀j,j<σ.next+2→((((τ.new (.cells 25 [])).new (.cells 1 [[int 0]])).del τ.next).del (τ.next+1)).get j=τ.get j:=fun j hj=>by
    rw[bD,if_neg (by omega),bD,if_neg (by omega),an,if_neg (by simp;omega),an,if_neg (by omega)]
   have gn:((((τ.new (.cells 25 [])).new (.cells 1 [[int 0]])).del τ.next).del (τ.next+1)).next=τ.next+2:=rfl
   generalize ((((τ.new (.cells 25 [])).new (.cells 1 [[int 0]])).del τ.next).del (τ.next+1))=χ at gg gn
   have hgt:Gt t:=⟨ht,Safe.oL hm⟩
   refine lD t.size [] [0] t (Nat.le_refl _) ⟨fun _ h=>by simp at h,fun _ h=>by simp at h⟩ hgt (ly ht hm) (by simp;omega) (by simp;omega) _ _ _ ?_
   have g1':=(gg (σ.next+1) (by omega)).trans g1
   have ac:∀r:Rr,br (.agg r.av)=some r.av:=fun _=>rfl
   simp[g1',au,ac]
   refine⟨?_,_,.low ((Dat.agg (fdM t.size [] [0] t).dat).low _),hk⟩
   exact(bW hg (fun j hj=>gg j (by omega)) (by omega)).set (by omega) _
end Go.Abs.Mac
