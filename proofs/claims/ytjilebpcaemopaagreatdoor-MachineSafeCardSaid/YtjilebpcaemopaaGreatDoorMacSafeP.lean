import Derived.Test.YtjilebpcaemopaaGreatDoorMacDecS
import Derived.Test.YtjilebpcaemopaaGreatDoorChkJ
import Derived.Test.YtjilebpcaemopaaGreatDoorSafeF
import Derived.Test.YtjilebpcaemopaaGreatDoorMacAw
set_option linter.unusedVariables false
set_option linter.unusedSimpArgs false
set_option linter.deprecated false
namespace Go.Abs.Mac
open Go Go.Abs Go.Abs.Stk Go.Abs.At Go.Proofs.MacD Go.Abs.Chk
variable {σ τ:ah} {k K kp:AV→ah→Prop}
attribute [local simp] Nat.add_assoc
def qD (e:List Atom):List ByteArray:=((ofA e).filter fun a:Atom=>decide (a.kind=3)).map Atom.exn
theorem Aj {n m υ x} {l:List ByteArray} (h:Kid n m 1 υ x (l.map fun s=>[str s])):Frz υ n x (fV l):=by
 refine Kid.frz h fun el hel y hy=> ?_
 obtain⟨r,_,rfl⟩:=List.mem_map.1 hel
 simp at hy;subst hy;exact Dat.val _
theorem yQ {e:List Atom} (hb:e.length<100000) (hk:k (fV (qD e)) σ):Ev PR 18 [aT e] σ k kp:=by
 refine Ev.pure ?_
 apply Ez;unfold F18
 simp
 refine mY (by omega) ?_
 refine aL ?_
 have hlen:∀ω,aD .slice (aT (ofA e)) ω=some (int (ofA e).length):=fun ω=>by simp[aT]
 have hol:=cR e
 simp[hlen]
 have hk2:(qD e)=((ofA e).filter fun a:Atom=>decide (a.kind=3)).map Atom.exn:=rfl
 rw[hk2]at hk
 generalize ofA e=l at hk hlen hol
 obtain⟨I,hI⟩:∃I:aB→ah→Prop,∀f φ,I f φ↔∃(i:Nat) (y:AV),f= [(3,y),(4,aT l),(10,int l.length),(11,int i)]∧i≤l.length∧aq σ φ∧Kid σ.next 0 1 φ y ((((l.take i).filter fun a:Atom=>decide (a.kind=3)).map Atom.exn).map fun s=>[str s]):=⟨_,fun _ _=>Iff.rfl⟩
 refine bF I (fun f _=>l.length - (intOf (aa f 11)).toNat) ((hI _ _).2 ⟨0,_,rfl,Nat.zero_le _,aq.new _ _,fc (by omega)⟩) ?_
 intro f φ hi
 obtain⟨i,y,rfl,hi,hg,hy⟩:=(hI _ _).1 hi
 by_cases hil:i<l.length
 ·obtain⟨z,hz⟩:=get_some hil
  have hia:=lS hz
  have hwi:IntKind.i64.wrap ((i:Int)+1)=((i+1:Nat):Int):=by rw[wrap64 (by omega)];omega
  have z0:z.av.head?=some (u8 z.kind):=rfl
  have z2:z.av[2]?=some (str z.exn):=rfl
  have hfl:(((l.take i).filter fun a:Atom=>decide (a.kind=3)).map Atom.exn).length≤i:=by
   have:=List.length_filter_le (fun a:Atom=>decide (a.kind=3)) (l.take i)
   rw[List.length_map];rw[List.length_take]at this;omega
  have htk:l.take (i+1)=l.take i++ [z]:=by rw[List.take_add_one,hz];rfl
  simp[hil]
  refine aL ?_
  have hn:=hg.next
  by_cases h3:z.kind=3
  ·simp[hia,z0,z2,h3]
   refine e8 (el:=[str z.exn]) hy (by omega) (by simp only[List.length_map]at hfl⊢;omega) fun y' ω h1 h2 h4=> ?_
   simp[hwi]
   refine⟨(hI _ _).2 ⟨i+1,y',by simp,hil,bV hg (fun j hj=>h2 j (by omega)) (by omega),?_⟩,by omega⟩
   rw[htk,List.filter_append]
   simpa [h3] using h1
  ·simp[hia,z0,z2,h3,hwi]
   refine⟨(hI _ _).2 ⟨i+1,y,by simp,hil,hg,?_⟩,by omega⟩
   rw[htk,List.filter_append]
   simpa [h3] using hy
 ·have hin:i=l.length:=by omega
  subst hin
  rw[List.take_length]at hy
  simp
  exact⟨hg,_,Aj hy,hk⟩
theorem rO {l:List ByteArray} {s:ByteArray} (hb:l.length<1000000) (hk:k (bool (l.any fun x=>decide (x=s))) σ):Ev PR 17 [fV l,str s] σ k kp:=by
 apply Ex;unfold F17
 have hlen:∀ω,aD .slice (fV l) ω=some (int l.length):=fun ω=>by simp[fV]
 refine aL ?_
 simp[hlen]
 obtain⟨I,hI⟩:∃I:aB→ah→Prop,∀f φ,I f φ↔∃(i:Nat),f= [(0,fV l),(1,str s),(7,int l.length),(8,int i)]∧i≤l.length∧φ=σ∧s∉l.take i:=⟨_,fun _ _=>Iff.rfl⟩
 refine bF I (fun f _=>l.length - (intOf (aa f 8)).toNat) ((hI _ _).2 ⟨0,rfl,Nat.zero_le _,rfl,by simp⟩) ?_
 intro f φ hi
 obtain⟨i,rfl,hi,rfl,hn⟩:=(hI _ _).1 hi
 by_cases hil:i<l.length
 ·obtain⟨x,hx⟩:=get_some hil
  have hxa:∀ω,ak 1 (fV l) (int i) ω=some (.ref [str x]):=fun ω=>by rw[fV,aE];simp[hx]
  have hwi:IntKind.i64.wrap ((i:Int)+1)=((i+1:Nat):Int):=by rw[wrap64 (by omega)];omega
  by_cases he:x=s
  ·simp[hil,hxa,he]
   have hm:(l.any fun x=>decide (x=s))=true:=List.any_eq_true.2 ⟨x,List.mem_of_getElem? hx,by simp[he]⟩
   rw[hm]at hk;exact hk
  ·simp[hil,hxa,he,hwi]
   refine⟨(hI _ _).2 ⟨i+1,by simp,hil,rfl,fun h=> ?_⟩,by omega⟩
   rw[List.take_add_one,hx]at h
   rcases List.mem_append.1 h with h | h
   ·exact hn h
   ·simp at h;exact he h.symm
 ·have hin:i=l.length:=by omega
  subst hin
  rw[List.take_length]at hn
  simp
  have hm:(l.any fun x=>decide (x=s))=false:=by
   rw[List.any_eq_false]
   intro x hx;simp;rintro rfl;exact hn hx
  rw[hm]at hk;exact hk
theorem w6 {t:AT} (ht:t.Ok) (hk:k (ef t).v σ):Ev PR 16 [t.v] σ k kp:=by
 refine Ev.pure ?_
 apply Go.Proofs.ChkD.Ew;unfold Go.Proofs.ChkD.F16
 simp[an]
 generalize hτ:ah.new _ (.cells 7 _)=τ
 have hg:aq σ τ:=by rw[←hτ];exact(aq.new _ _).trans (aq.new _ _)
 have hnx:τ.next=σ.next+2:=by rw[←hτ];rfl
 have g0:τ.get σ.next=some (.cells 19 [t.av]):=by rw[←hτ];simp[an]
 have g1:τ.get (σ.next+1)=some (.cells 7 [[u8 0,int 0,bg,bg,bg,int 0,int 0]]):=by rw[←hτ];simp[an]
 clear hτ
 have fz:∀(a b:Int) (υ:ah),Frz υ σ.next (AV.agg [u8 0,int 0,bg,bg,bg,int a,int b]) (Rr.v ⟨bW,[],a,b⟩):=fun a b υ=>by
  show Frz _ _ _ (AV.agg [u8 0,int 0,aT [],RT.vs [],aT [],int a,int b])
  exact eQ.agg (.cons (.low ((Dat.val _).low _)) (.cons (.low ((Dat.val _).low _)) (.cons .nil (.cons .nil (.cons .nil (.cons (.low ((Dat.val _).low _)) (.cons (.low ((Dat.val _).low _)) .nil)))))))
 have hol:(bO t.all).length≤50 * t.all.length:=va fun x hx=>Df (AT.rf _ ht.small x hx)
 have hsz:=ht.size
 have hal:=t.gq
 refine C8 ht ?_
 cases hm:iO t with
 | false=>
  have e:ef t=⟨bW,[],0,1⟩:=by unfold ef;rw[if_pos hm]
  rw[e]at hk
  simp[g1,au]
  exact⟨hg.set (by omega) _,_,fz 0 1 _,hk⟩
 | true=>
  simp[g0]
  refine wV (by omega) (by omega) ?_
  cases ha:(cX [] t.all).2 with
  | false=>
   have e:ef t=⟨bW,[],(cX [] t.all).1,6⟩:=by unfold ef;rw[if_neg (by simp[hm]),if_pos ha]
   rw[e]at hk
   simp[zz,ha,g1,au]
   exact⟨hg.set (by omega) _,_,fz _ 6 _,hk⟩
  | true=>
   have e:ef t=fdM t.size [] [0] t:=by unfold ef;rw[if_neg (by simp[hm]),if_neg (by simp[ha])]
   rw[e]at hk
   have hsp:=t.size_pos
   simp[zz,ha,g0]
   have z0:σ.next≠τ.next:=by omega
   have z1:σ.next≠τ.next+1:=by omega
   simp[an,g0,z0,z1]
   have hK:fX σ.next 2 25 ((τ.new (.cells 25 [])).new (.cells 1 [[int 0]])) (.own τ.next 0) []:=.inr (.inr ⟨τ.next,[],rfl,by simp[an],by omega,by simp⟩)
   have hq:(((τ.new (.cells 25 [])).new (.cells 1 [[int 0]])).del τ.next).get (τ.next+1)=some (.cells 1 [[int 0]]):=by simp[an,bM]
   refine Ev.freeze (FzS.del _ τ.next) (.cons ((FzR.refl []).own rfl rfl (by simp[an]:((τ.new (.cells 25 [])).new (.cells 1 [[int 0]])).get τ.next=some (.cells 25 ([]++ [])))) (.cons (.refl _) (.cons (.refl _) .nil))) ?_
   refine Ev.freeze (FzS.del _ (τ.next+1)) (.cons (.refl _) (.cons ((FzR.refl [[int 0]]).own rfl rfl (rest:=[]) hq) (.cons (.refl _) .nil))) ?_
   have gg:∀j,j<σ.next+2→((((τ.new (.cells 25 [])).new (.cells 1 [[int 0]])).del τ.next).del (τ.next+1)).get j=τ.get j:=fun j hj=>by
    rw[bM,if_neg (by omega),bM,if_neg (by omega),an,if_neg (by simp;omega),an,if_neg (by omega)]
   have gn:((((τ.new (.cells 25 [])).new (.cells 1 [[int 0]])).del τ.next).del (τ.next+1)).next=τ.next+2:=rfl
   generalize ((((τ.new (.cells 25 [])).new (.cells 1 [[int 0]])).del τ.next).del (τ.next+1))=χ at gg gn
   have hgt:Gt t:=⟨ht,Safe.mc hm⟩
   refine mj t.size [] [0] t (Nat.le_refl _) ⟨fun _ h=>by simp at h,fun _ h=>by simp at h⟩ hgt (kB ht hm) (by simp;omega) (by simp;omega) _ _ _ ?_
   have g1':=(gg (σ.next+1) (by omega)).trans g1
   have ac:∀r:Rr,bq (.agg r.av)=some r.av:=fun _=>rfl
   simp[g1',au,ac]
   refine⟨?_,_,.low ((Dat.agg (fdM t.size [] [0] t).dat).low _),hk⟩
   exact(bV hg (fun j hj=>gg j (by omega)) (by omega)).set (by omega) _
theorem yP {E:List Atom} {x:ByteArray} (h:Safe.Has E (lf x)):((qD E).any fun y=>decide (y=x))=true:=by
 have h2:=(Safe.b8.2 h).1
 refine List.any_eq_true.2 ⟨x,?_,by simp⟩
 unfold qD
 exact List.mem_map.2 ⟨lf x,List.mem_filter.2 ⟨h2,by simp[lf]⟩,rfl⟩
theorem zi {t:AT} (hfit:t.fit) (hkd:t.kN) {f a b:Int} (hk:K (bool true) σ):Ev PR 5 [t.v,int f,.agg [int a,int b]] σ K kp:=by
 refine Ev.bC hk ((Dat.val _).low _) fun k' hk'=> ?_
 apply F5_ev;unfold F5
 simp[an]
 generalize hτ:ah.new _ (.cells 2 _)=τ
 have hg:aq σ τ:=by rw[←hτ];exact(aq.new _ _).trans (aq.new _ _)
 have g0:τ.get σ.next=some (.cells 19 [t.av]):=by rw[←hτ];simp[an]
 have g1:τ.get (σ.next+1)=some (.cells 2 [[int a,int b]]):=by rw[←hτ];simp[an]
 have hn:τ.next=σ.next+2:=by rw[←hτ];rfl
 clear hτ
 refine xz hfit fun g hg'=> ?_
 cases g with
 | true=>
  simp
  exact gM (hk' _ hg)
 | false=>
  obtain⟨ok,hsz⟩:=hg' rfl
  by_cases hf:(2000:Int)<f
  ·simp[hf]
   exact gM (hk' _ hg)
  ·simp[hf,g0,g1]
   refine w6 ok ?_
   have hcr:=@Safe.sM t ok
   have hel:(ef t).e.length<100000:=by
    by_cases h0:(ef t).no=0
    ·have R:=hcr h0
     have:=Chk.Ty.gd R.ty (fun _ h=>by simp at h) ⟨ok,Safe.mc R.may⟩ (kB ok R.may)
     have:=this.2
     have:=ok.size
     omega
    ·have:(ef t).e= []:=by
      unfold ef at h0⊢
      split
      ·rfl
      ·split
       ·rfl
       ·rename_i h1 h2
        rw[if_neg h1,if_neg h2]at h0
        exact uL _ _ _ _ h0
     rw[this];simp
   generalize ef t=R at hcr hel
   have ac:∀r:Rr,bq (.agg r.av)=some r.av:=fun _=>rfl
   have r6:∀r:Rr,r.av[6]?=some (int r.no):=fun r=>GM r
   have r6':∀(r:Rr) (h:6<r.av.length),r.av[6]'h=int r.no:=fun r h=>D9 r h
   have r4:∀r:Rr,r.av[4]?=some (aT r.e):=fun r=>zT r
   have r4':∀(r:Rr) (h:4<r.av.length),r.av[4]'h=aT r.e:=fun r h=>wC r h
   have hgr:aq τ ((τ.new (.cells 7 [[.val (.int .u8 0),.val (.int .i64 0),.val (.slice none 0 0),.val (.slice none 0 0),.val (.slice none 0 0),.val (.int .i64 0),.val (.int .i64 0)]])).set τ.next (.cells 7 [R.av])):=(aq.new _ _).set (Nat.le_refl _) _
   simp[an,au,ac,r6,r6']
   by_cases hno:R.no=0
   ·have hR:=hcr hno
    have z0:σ.next≠τ.next:=by omega
    have z1:σ.next+1≠τ.next:=by omega
    simp[hno,z0,z1,g0,g1]
    have x2:((τ.new (.cells 7 [[.val (.int .u8 0),.val (.int .i64 0),.val (.slice none 0 0),.val (.slice none 0 0),.val (.slice none 0 0),.val (.int .i64 0),.val (.int .i64 0)]])).set τ.next (.cells 7 [R.av])).get τ.next=some (.cells 7 [R.av]):=by simp[au]
    have hχn:((τ.new (.cells 7 [[.val (.int .u8 0),.val (.int .i64 0),.val (.slice none 0 0),.val (.slice none 0 0),.val (.slice none 0 0),.val (.int .i64 0),.val (.int .i64 0)]])).set τ.next (.cells 7 [R.av])).next=τ.next+1:=rfl
    generalize (τ.new (.cells 7 [[.val (.int .u8 0),.val (.int .i64 0),.val (.slice none 0 0),.val (.slice none 0 0),.val (.slice none 0 0),.val (.int .i64 0),.val (.int .i64 0)]])).set τ.next (.cells 7 [R.av])=χ at hgr x2 hχn
    have c1:=(hgr.get (σ.next+1) (by omega)).trans g1
    simp[c1]
    obtain⟨r,hr⟩:=Ar ok (f:=f) (by omega) a b
    refine yg ok hkd (by omega) hr ?_
    have hm:=hR.may
    have e:pR t r= .tup [u9 r,int 0]:=by unfold pR;rw[hm];rfl
    rw[e]
    obtain⟨k1,k2⟩:=Safe.Ae (runOk ok hm (by omega) a b) (hr hm) hR
    have z2:τ.next≠χ.next:=by omega
    have fin:∀ω,aq χ ω→k' (bool true) ω:=fun ω h=>hk' _ ((hg.trans hgr).trans h)
    have gro:aq χ ((χ.new (.cells 8 [kb 0 false 0 ByteArray.empty 0 0 0 0])).set χ.next (.cells 8 [kb r.kind r.isInt r.n r.exn r.s.steps r.s.store.live.length r.s.store.cells r.s.store.most])):=(aq.new _ _).set (Nat.le_refl _) _
    have hφ:=fin _ gro
    simp[kb]at hφ
    rcases k1 with k1 | k1 | k1 | k1
    ·simp[k1]at hφ
     simp[u9,kb,an,au,k1]
     exact gM hφ
    ·have hin:=yP (k2 k1)
     have hxl:(qD R.e).length<1000000:=by
      have h1:=List.length_filter_le (fun a:Atom=>decide (a.kind=3)) (ofA R.e)
      have h2:=cR R.e
      unfold qD;rw[List.length_map];omega
     simp[k1]at hφ
     simp[u9,kb,an,au,k1,z2,x2,r4,r4']
     refine yQ (by omega) ?_
     simp[an,au]
     refine rO (by omega) ?_
     rw[hin]
     simp
     exact gM hφ
    ·simp[k1]at hφ
     simp[u9,kb,an,au,k1]
     exact gM hφ
    ·simp[k1]at hφ
     simp[u9,kb,an,au,k1]
     exact gM hφ
   ·simp[hno]
    exact gM (hk' _ (hg.trans hgr))
end Go.Abs.Mac
