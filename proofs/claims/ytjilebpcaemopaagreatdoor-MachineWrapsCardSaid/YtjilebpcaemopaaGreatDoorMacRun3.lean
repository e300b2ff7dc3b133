import Derived.Test.YtjilebpcaemopaaGreatDoorMacRun
import Derived.Test.YtjilebpcaemopaaGreatDoorMacMay
import Derived.Test.YtjilebpcaemopaaGreatDoorAtOnce
import Derived.Test.YtjilebpcaemopaaGreatDoorMacH
set_option linter.unusedVariables false
set_option linter.unusedSimpArgs false
set_option linter.deprecated false
namespace Go.Abs.Mac
open Go Go.Abs Go.Abs.Stk Go.Abs.At Go.Proofs.MacD
variable {σ τ:ah} {K kp:AV→ah→Prop}
def j6 (kind:Int) (i:Bool) (n:Int) (x:ByteArray) (st rg ce mo:Int):List AV:=[u8 kind,bool i,int n,str x,int st,int rg,int ce,int mo]
def zm (r:Res):AV:=.agg (j6 r.kind r.isInt r.n r.exn r.s.steps r.s.store.live.length r.s.store.cells r.s.store.most)
def outZ:AV:=.agg (j6 0 false 0 ByteArray.empty 0 0 0 0)
def pt (t:AT) (r:Res):AV:=if fN t=true then .tup [zm r,int 0] else .tup [outZ,int 1]
def gJ (f:Int):Nat:=(max 0 (min f 1099511627776)).toNat
def kB (a:Int):Int:=max 1 (min a 1048576)
def ng (a:Int):Int:=max 0 (min a 4194304)
theorem uz (a b:Int):Lim (kB a) (ng b):=⟨by unfold kB;omega,by unfold ng;omega⟩
theorem zO (t r):Dat (pt t r):=by
 unfold pt
 split
 ·exact Dat.tup (by simp[Dat.val];exact Dat.agg (by simp[j6,Dat.val]))
 ·exact Dat.tup (by simp[Dat.val];exact Dat.agg (by simp[j6,Dat.val]))
theorem Cj (a:Int):eT a 1 1048576=kB a:=by unfold eT kB;repeat' split
                                           all_goals omega
theorem Ci (a:Int):eT a 0 4194304=ng a:=by unfold eT ng;repeat' split
                                           all_goals omega
theorem CR (a b:Int):SG.new a b=avS (st0 (kB a) (ng b)):=by
 unfold SG.new avS st0
 rw[Cj,Ci]
 rfl
theorem In.only {σ:ah} {id:Nat} {s:S} {F F':Nat→Prop} (h:In σ id s F) (hF:∀i,F i→i<σ.next→F' i):In σ id s F':=by
 obtain⟨mid,lid,es,h,hf⟩:=h
 refine⟨mid,lid,es,h,fun i hi=>hF i (hf i hi) ?_⟩
 rcases hi with rfl | rfl | rfl | ⟨r,n,e⟩
 ·exact h.lt.1
 ·exact h.lt.2.1
 ·exact h.lt.2.2
 ·exact(h.apart _ _ _ e).2.2.2
theorem tR {t:AT} (ok:t.Ok) (kd:t.iU) {f a b:Int} (hf:f≤3000) {r:Res} (hr:fN t=true→Whole (gJ f) (kB a) (ng b) t r) (hk:K (pt t r) σ):Ev PR 12 [t.v,int f,.agg [int a,int b]] σ K kp:=by
 refine Ev.bB hk ((zO _ _).low _) fun k' hk'=> ?_
 apply D8;unfold F12
 simp[Nat.add_assoc,an]
 have e1:(if (0:Int)<(if (1099511627776:Int)<f then 1099511627776 else f) then (if (1099511627776:Int)<f then 1099511627776 else f) else 0)=((gJ f:Nat):Int):=by
  unfold gJ;repeat' split
  all_goals omega
 have hfn:gJ f≤3000:=by unfold gJ;omega
 simp only[e1]
 generalize hτ:ah.new _ (.cells 8 _)=τ0
 have hn0:τ0.next=σ.next+3:=by rw[←hτ];rfl
 have hg0:aq σ τ0:=by rw[←hτ];exact((aq.new _ _).trans (aq.new _ _)).trans (aq.new _ _)
 have g0:τ0.get σ.next=some (.cells 19 [t.av]):=by rw[←hτ];simp[an];omega
 have g1:τ0.get (σ.next+1)=some (.cells 2 [[int a,int b]]):=by rw[←hτ];simp[an]
 have g2:τ0.get (σ.next+2)=some (.cells 8 [j6 0 false 0 ByteArray.empty 0 0 0 0]):=by rw[←hτ];simp[an,j6]
 clear hτ
 refine CM zj ok kd ?_
 cases hm:fN t with
 | false=>
  have e2:pt t r= .tup [outZ,int 1]:=by unfold pt;rw[hm];rfl
  rw[e2]at hk'
  simp[g2,j6]
  exact hk' _ (hg0.set (by omega) _)
 | true=>
  have e2:pt t r= .tup [zm r,int 0]:=by unfold pt;rw[hm];rfl
  rw[e2]at hk'
  simp[g1]
  refine Ge fun id τ1 hid hin hoff=> ?_
  rw[CR]at hin
  simp
  have hn1:=hoff.next
  generalize hτ2:τ1.new _=τ2
  have hn2:τ2.next=τ1.next+1:=by rw[←hτ2];rfl
  have hg2:aq τ1 τ2:=by rw[←hτ2];exact aq.new _ _
  have m2:τ2.get τ1.next=some (.cells 5 [[.ptr id 0 0,int (gJ f),int ((0:Nat):Int),bf,bf]]):=by rw[←hτ2];simp[an]
  clear hτ2
  have old:∀i,i<τ0.next→τ2.get i=τ0.get i:=fun i hi=>(hg2.get i (by omega)).trans (hoff.get i (by omega) hi)
  have t2:τ2.get σ.next=some (.cells 19 [t.av]):=(old _ (by omega)).trans g0
  obtain⟨j,hj⟩:=hr hm
  refine Ev.ref2 t2 ?_
  obtain⟨T,hT⟩:∃T:Nat→Nat,∀i,T i=if i=τ1.next then 2 else if τ0.next≤i∧i<τ1.next then 1 else 0:=⟨_,fun _=>rfl⟩
  have hdel:∀i,i≠σ.next→(τ2.del σ.next).get i=τ2.get i:=fun i hi=>ah.gQ hi
  have hidl:id<τ1.next:=by obtain⟨_,_,_,h,_⟩:=hin;exact h.lt.1
  have hma:MA (τ2.del σ.next) τ1.next T (gJ f) (s0 (kB a) (ng b)) []:=by
   refine⟨id,bf,bf,[],?_⟩
   refine {obj:= ?_,tm:= ?_,store:= ?_,aC:=.inl ⟨rfl,rfl⟩,frames:=.inl ⟨rfl,rfl⟩,vals:=trivial,lt:= ?_}
   ·rw[hdel _ (by omega),m2];rfl
   ·rw[hT,if_pos rfl]
   ·have h1:In τ1 id (avS (st0 (kB a) (ng b))) (fun i=>T i=1):=In.only hin fun i h1 h2=>by rw[hT,if_neg (by omega),if_pos ⟨h1,h2⟩]
    refine In.congr h1 (by show τ1.next≤τ2.next;omega) fun i hi hl=> ?_
    rw[hT]at hi
    have:σ.next≠i:=by
     rintro rfl
     split at hi
     ·cases hi
     ·split at hi
      ·omega
      ·cases hi
    rw[hdel _ (Ne.symm this)]
    exact hg2.get i hl
   ·intro i hi
    rw[hT]at hi
    show i<τ2.next
    split at hi
    ·omega
    ·split at hi
     ·omega
     ·exact absurd rfl hi
  refine Gz hma (Nat.le_refl _) (by omega) (by simp) hj fun τ3 T3 k3 hm3 hk3=> ?_
  have hn3:τ2.next≤τ3.next:=hk3.next
  have hold:∀i,i<τ0.next→i≠σ.next→τ3.get i=τ0.get i:=fun i hi hne=>by
   rw[(hk3.get i (by show i<τ2.next;omega) (by rw[hT,if_neg (by omega),if_neg (by omega)])).2,hdel _ hne,old i hi]
  obtain⟨sid,cv,fv,vv,hx⟩:=hm3
  have hmn:τ1.next≠τ3.next:=by omega
  have h2n:σ.next+2≠τ3.next:=by omega
  have o3:=hold (σ.next+2) (by omega) (by omega)
  rw[g2]at o3
  simp[nc,au,an,hmn,hx.obj]
  generalize hτ4:ah.set _ _ _=τ4
  have hg4:aq τ3 τ4:=by rw[←hτ4];exact(aq.new _ _).set (Nat.le_refl _) _
  have b4:τ4.get τ3.next=some (.cells 4 [pI r.kind r.isInt r.n r.exn]):=by rw[←hτ4];simp[au,pI]
  clear hτ4
  have hx4:=hx.aP hg4
  have o4:=(hg4.get _ (by omega)).trans o3
  refine kE hx4.store ?_
  simp[b4,hx4.obj,pI]
  refine yu hx4.store ?_
  simp[b4,hx4.obj,pI]
  refine CP hx4.store ?_
  simp[b4,hx4.obj,pI,o4,j6]
  refine hk' _ ⟨by have:=hg4.next;simp;omega,fun i hi=> ?_⟩
  rw[au,if_neg (by omega),hg4.get i (by omega),hold i (by omega) (by omega),hg0.get i hi]
end Go.Abs.Mac
