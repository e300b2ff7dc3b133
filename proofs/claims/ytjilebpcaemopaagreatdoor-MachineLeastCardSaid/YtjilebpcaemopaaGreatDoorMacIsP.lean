import Derived.Test.YtjilebpcaemopaaGreatDoorMacAw
import Derived.Test.YtjilebpcaemopaaGreatDoorMacDecI
import Derived.Test.YtjilebpcaemopaaGreatDoorDocO
set_option linter.unusedVariables false
set_option linter.unusedSimpArgs false
set_option linter.deprecated false
namespace Go.Abs.Mac
open Go Go.Abs Go.Abs.Stk Go.Abs.At Go.Proofs.MacD
variable {σ τ:AHeap} {K kp:AV→AHeap→Prop}
end Go.Abs.Mac
namespace Go.Abs.Mac
open Go Go.Abs Go.Abs.Stk Go.Abs.At Go.Proofs.MacD
variable {σ τ:AHeap} {K kp:AV→AHeap→Prop}
structure OC where
  kd:Int
  bb:Bool
  m:Int
  x:ByteArray
  s1:Int
  s2:Int
  s3:Int
  s4:Int
  no:Int
def OC.c (o:OC):List AV:=outC o.kd o.bb o.m o.x o.s1 o.s2 o.s3 o.s4
abbrev OC.v (o:OC):AV:=.tup [.agg o.c,int o.no]
def ocOf (t:AT) (r:Res):OC:=if mayM t=true then ⟨r.kind,r.isInt,r.n,r.exn,r.s.steps,r.s.store.live.length,r.s.store.cells,r.s.store.most,0⟩ else ⟨0,false,0,ByteArray.empty,0,0,0,0,1⟩
theorem ocOf_v (t r):runV t r=(ocOf t r).v:=by unfold runV ocOf;split <;> rfl
theorem OC.dat (o:OC):Dat o.v:=Dat.tup (by simp [Dat.val];exact Dat.agg (by simp [OC.c,outC,Dat.val]))
@[simp] theorem OC.len (o:OC):o.c.length=8:=nr rfl
@[simp] theorem OC.t8 (o:OC):List.take 8 o.c=o.c:=nr rfl
@[simp] theorem OC.d8 (o:OC):List.drop 8 o.c=[]:=nr rfl
@[simp] theorem OC.h (o:OC):o.c.head?=some (u8 o.kd):=nr rfl
@[simp] theorem OC.g0 (o:OC):o.c[0]?=some (u8 o.kd):=nr rfl
@[simp] theorem OC.g0' (o:OC) (h:0 < o.c.length):o.c[0]'h=u8 o.kd:=nr rfl
def OC.stop (o:OC):Prop:=o.no ≠ 0∨o.kd ≠ 4
instance (o:OC):Decidable o.stop:=by unfold OC.stop;exact inferInstance
def least (g:Int × Int→OC):List (Int × Int)→OC
  | []=>g (0,0)
  | [p]=>g p
  | p :: q :: r=>if (g p).stop then g p else least g (q :: r)
theorem least_stop {g:Int × Int→OC} {p r} (h:(g p).stop):least g (p :: r)=g p:=by
  cases r with
  | nil=>rfl
  | cons q r=>simp [least,h]
theorem least_go {g:Int × Int→OC} {p q r} (h:¬ (g p).stop):least g (p :: q :: r)=least g (q :: r):=by simp [least,h]
def lm (p:Int × Int):List AV:=[int p.1,int p.2]
abbrev lsV (ll:List (Int × Int)):AV:=.sl false 2 (ll.map lm)
theorem Least_ev {t:AT} {f:Int} {g:Int × Int→OC} {ll:List (Int × Int)} (hl:ll.length≤10)
    (hR:∀ (p:Int × Int) (σ:AHeap) (K kp:AV→AHeap→Prop),K (g p).v σ→Ev PR 12 [t.v,int f,.agg (lm p)] σ K kp) (hk:K (least g ll).v σ):Ev PR 21 [t.v,int f,lsV ll] σ K kp:=by
  refine Ev.pureD hk ((OC.dat _).low _) fun k' hk'=>?_
  apply F21_ev;unfold F21
  simp [Nat.add_assoc,get_new]
  generalize hτ:AHeap.new _ (.cells 8 _)=τ
  have hg:Grows σ τ:=by rw [← hτ];exact (Grows.new _ _).trans (Grows.new _ _)
  have g0:τ.get σ.next=some (.cells 19 [t.av]):=by rw [← hτ];simp [get_new]
  have g1:τ.get (σ.next+1)=some (.cells 8 [OC.c ⟨0,false,0,ByteArray.empty,0,0,0,0,0⟩]):=by rw [← hτ];simp [get_new,OC.c,outC]
  have hn:τ.next=σ.next+2:=by rw [← hτ];rfl
  clear hτ
  cases hll:ll with
  | nil =>
    subst hll
    simp [g0]
    refine hR (0,0) _ _ _ ?_
    simp [g1,get_set]
    exact hk' _ (hg.set (by omega) _)
  | cons p0 r0 =>
    rw [← hll]
    have hpos:0 < ll.length:=by rw [hll];simp
    have hne:ll ≠ []:=by rw [hll];simp
    have hwr:IntKind.i64.wrap ((ll.length:Int) - 1)=((ll.length - 1:Nat):Int):=by rw [wrap64 (by omega)];omega
    obtain ⟨J,hJ⟩:∃ J:AFrame→AHeap→Prop,∀ fr φ,J fr φ↔fr=[(1,int f),(2,lsV ll),(3,.ptr σ.next 0 0),(6,.ptr (σ.next+1) 0 0)]∧Grows τ φ∧∀ p,ll[ll.length - 1]?=some p→least g ll=g p:=⟨_,fun _ _=>Iff.rfl⟩
    simp [hne]
    refine seqW_by J ?_ ?_
    · have t1:aSlice 2 (lsV ll) none (some (int (ll.length - 1:Nat))) none=some (.sl false 2 ((ll.map lm).take (ll.length - 1))):=by
        rw [aSlice_sl_hi,if_pos (by simp)];simp
      have t2:((ll.map lm).take (ll.length - 1)).length=ll.length - 1:=by simp
      have t3:∀ ω,aLenK .slice (.sl false 2 ((ll.map lm).take (ll.length - 1))) ω=some (int (ll.length - 1:Nat)):=fun ω=>by simp
      simp only [hwr]
      simp [t1,t3]
      refine loopW_by (fun i:Nat=>[(1,int f),(2,lsV ll),(3,.ptr σ.next 0 0),(6,.ptr (σ.next+1) 0 0),(25,.sl false 2 ((ll.map lm).take (ll.length - 1))),(26,int (ll.length - 1:Nat)),(27,int i)]) (fun i φ=>Grows τ φ∧i≤ll.length - 1∧least g ll=least g (ll.drop i)) (fun fr _=>ll.length - (intOf (look fr 27)).toNat) 0 rfl ⟨⟨Nat.le_refl _,fun _ _=>rfl⟩,Nat.zero_le _,rfl⟩ ?_
      rintro i φ ⟨wg,hi,hle⟩
      have wn:=wg.next
      have w0:=(wg.get _ (show σ.next < τ.next by omega)).trans g0
      have w1:=(wg.get _ (show σ.next+1 < τ.next by omega)).trans g1
      by_cases hil:i < ll.length - 1
      · obtain ⟨p,hp⟩:=get_some (l:=ll) (i:=i) (by omega)
        obtain ⟨q,hq⟩:=get_some (l:=ll) (i:=i+1) (by omega)
        have d1:=drop_at hp
        have d2:=drop_at hq
        have hil':(i:Int) < ((ll.length - 1:Nat):Int):=by omega
        have hia:∀ ω,aIndexAddr 2 (.sl false 2 ((ll.map lm).take (ll.length - 1))) (int i) ω=some (.ref (lm p)):=fun ω=>by rw [aIndexAddr_sl];simp [hil];exact congrArg lm (Option.some.inj ((List.getElem?_eq_getElem (show i < ll.length by omega)).symm.trans hp))
        have lm2:List.take 2 (lm p)=lm p:=rfl
        have lm2':List.drop 2 (lm p)=[]:=rfl
        have lml:(lm p).length=2:=rfl
        have z0:σ.next ≠ φ.next:=by omega
        have z1:σ.next+1 ≠ φ.next:=by omega
        have z0':σ.next ≠ φ.next+1:=by omega
        have z1':σ.next+1 ≠ φ.next+1:=by omega
        simp [hil',hia,lm2,lm2',lml,w0,get_new,get_set,z0]
        refine hR p _ _ _ ?_
        simp [get_new,get_set]
        have hwi:IntKind.i64.wrap ((i:Int)+1)=((i+1:Nat):Int):=by rw [wrap64 (by omega)];omega
        have wg2:∀ a b c d,Grows τ ((((φ.new a).set φ.next b).new c).set (φ.next+1) d):=fun a b c d=>wg.trans ((((Grows.new _ _).set (Nat.le_refl _) _).trans (Grows.new _ _)).set (by omega) _)
        by_cases hs:(g p).stop
        · have e1:least g ll=g p:=by rw [hle,d1];exact least_stop hs
          rw [e1] at hk'
          by_cases hno:(g p).no=0
          · have hkd:(g p).kd ≠ 4:=by rcases hs with h | h;exact absurd hno h;exact h
            simp [hno,hkd,get_new,get_set,z0,z1,z1',w1]
            have e:(g p).v=.tup [.agg (g p).c,int 0]:=by show AV.tup [_,int (g p).no]=_;rw [hno]
            rw [e] at hk'
            exact hk' _ ((hg.trans (wg2 _ _ _ _)).set (show σ.next≤σ.next+1 by omega) (.cells 8 [(g p).c]))
          · simp [hno,get_new,get_set,z0,z1,z1',w1]
            exact hk' _ ((hg.trans (wg2 _ _ _ _)).set (show σ.next≤σ.next+1 by omega) (.cells 8 [(g p).c]))
        · have hs':(g p).no=0∧(g p).kd=4:=by unfold OC.stop at hs;omega
          simp [hs'.1,hs'.2,hwi,get_new,get_set]
          refine ⟨⟨i+1,by simp,wg2 _ _ _ _,by omega,?_⟩,by omega⟩
          rw [hle,d1,d2]
          exact least_go hs
      · have hin:i=ll.length - 1:=by omega
        subst hin
        simp
        refine (hJ _ _).2 ⟨rfl,wg,fun p hp=>?_⟩
        rw [hle,drop_at hp,List.drop_of_length_le (by omega)]
        rfl
    · intro fr φ hj
      obtain ⟨rfl,wg,hlast⟩:=(hJ _ _).1 hj
      have wn:=wg.next
      have w0:=(wg.get _ (show σ.next < τ.next by omega)).trans g0
      have w1:=(wg.get _ (show σ.next+1 < τ.next by omega)).trans g1
      obtain ⟨p,hp⟩:=get_some (l:=ll) (i:=ll.length - 1) (by omega)
      have hia:∀ ω,aIndexAddr 2 (lsV ll) (int (ll.length - 1:Nat)) ω=some (.ref (lm p)):=fun ω=>by rw [aIndexAddr_sl];simp [hp]
      simp [w0]
      simp only [hwr]
      have lm2:List.take 2 (lm p)=lm p:=rfl
      have lml:(lm p).length=2:=rfl
      simp [hia,lm2,lml]
      rw [hlast p hp] at hk'
      refine hR p _ _ _ ?_
      simp [w1,get_set]
      exact hk' _ ((hg.trans wg).set (by omega) _)
theorem law_least {t:AT} (hfit:t.fit) (hkd:t.Kinds) {f:Int} {ll:List (Int × Int)} (hk:K (bool true) σ):Ev PR 9 [t.v,int f,lsV ll] σ K kp:=by
  refine Ev.pureD hk ((Dat.val _).low _) fun k' hk'=>?_
  apply F9_ev;unfold F9
  simp [Nat.add_assoc,get_new]
  generalize hτ:AHeap.new _ (.cells 19 _)=τ
  have hg:Grows σ τ:=by rw [← hτ];exact Grows.new _ _
  have g0:τ.get σ.next=some (.cells 19 [t.av]):=by rw [← hτ];simp [get_new]
  have hn:τ.next=σ.next+1:=by rw [← hτ];rfl
  clear hτ
  refine mgreat_ev hfit fun g hg'=>?_
  cases g with
  | true =>
    simp
    exact awake_ev (hk' _ hg)
  | false =>
    obtain ⟨ok,hsz⟩:=hg' rfl
    by_cases c1:(500:Int) < f
    · simp [c1]
      exact awake_ev (hk' _ hg)
    by_cases c2:(10:Int) < (ll.length:Int)
    · simp [c1,c2]
      exact awake_ev (hk' _ hg)
    simp [c1,c2,g0]
    have hex:∀ p:Int × Int,∃ r,mayM t=true→Whole (fuelN f) (limR p.1) (limC p.2) t r:=fun p=>whole_ex ok (f:=f) (by omega) p.1 p.2
    obtain ⟨rr,hrr⟩:=Classical.axiomOfChoice hex
    obtain ⟨g,hgr⟩:∃ g:Int × Int→OC,∀ p,runV t (rr p)=(g p).v:=⟨fun p=>ocOf t (rr p),fun p=>ocOf_v t (rr p)⟩
    have hR:∀ (p:Int × Int) (σ:AHeap) (K kp:AV→AHeap→Prop),K (g p).v σ→Ev PR 12 [t.v,int f,.agg (lm p)] σ K kp:=fun p σ K kp h=>Run_ev ok hkd (by omega) (hrr p) (by rw [hgr];exact h)
    have hD:∀ (p:Int × Int) (σ:AHeap) (K kp:AV→AHeap→Prop),K (g p).v σ→Ev PR 13 [t.v,int f,.agg (lm p)] σ K kp:=fun p σ K kp h=>RunD_ev ok (by omega) (hrr p) (by rw [hgr];exact h)
    refine Least_ev (ll:=ll) (by omega) hR ?_
    have z0:σ.next ≠ τ.next:=by omega
    simp [get_new,get_set,g0,z0]
    refine hD (0,0) _ _ _ ?_
    simp [get_new,get_set,g0,z0]
    generalize hω:AHeap.set _ (τ.next+1) _=ω
    have on:ω.next=τ.next+2:=by rw [← hω];simp
    have og:Grows τ ω:=by rw [← hω];exact (((Grows.new _ _).set (Nat.le_refl _) _).trans (Grows.new _ _)).set (by omega) _
    have o0:=(og.get _ (show σ.next < τ.next by omega)).trans g0
    have o1:ω.get τ.next=some (.cells 8 [(least g ll).c]):=by rw [← hω];simp [get_new,get_set]
    have o2:ω.get (τ.next+1)=some (.cells 8 [(g (0,0)).c]):=by rw [← hω];simp [get_new,get_set]
    clear hω
    obtain ⟨J,hJ⟩:∃ J:AFrame→AHeap→Prop,∀ fr φ,J fr φ↔fr=[(7,.ptr τ.next 0 0),(8,int (least g ll).no),(9,.ptr (τ.next+1) 0 0),(10,int (least g ll).no)]∧Grows τ φ∧φ.get τ.next=some (.cells 8 [(least g ll).c])∧φ.get (τ.next+1)=some (.cells 8 [(least g ll).c]):=⟨_,fun _ _=>Iff.rfl⟩
    refine seqW_by J ?_ ?_
    · refine loopW_by (fun q:Nat × OC=>[(1,int f),(2,lsV ll),(3,.ptr σ.next 0 0),(7,.ptr τ.next 0 0),(8,int (least g ll).no),(9,.ptr (τ.next+1) 0 0),(10,int q.2.no),(11,int q.1)])
        (fun q φ=>Grows τ φ∧φ.get τ.next=some (.cells 8 [(least g ll).c])∧φ.get (τ.next+1)=some (.cells 8 [q.2.c])∧q.1≤ll.length∧(ll.drop q.1=[]→q.2=least g ll)∧(ll.drop q.1 ≠ []→least g ll=least g (ll.drop q.1)))
        (fun fr _=>ll.length - (intOf (look fr 11)).toNat) (0,g (0,0)) rfl ⟨og,o1,o2,Nat.zero_le _,fun h=>by simp at h;rw [h];rfl,fun _=>rfl⟩ ?_
      rintro ⟨i,c⟩ φ ⟨wg,w1,w2,hi,hnil,hne⟩
      simp only at w2 hi hnil hne
      have wn:=wg.next
      have w0:=(wg.get _ (show σ.next < τ.next by omega)).trans g0
      by_cases hil:i < ll.length
      · obtain ⟨p,hp⟩:=get_some (l:=ll) (i:=i) hil
        have d1:=drop_at hp
        have hle:=hne (by rw [d1];simp)
        have hia:∀ ω,aIndexAddr 2 (lsV ll) (int i) ω=some (.ref (lm p)):=fun ω=>by rw [aIndexAddr_sl];simp [hp]
        have lm2:List.take 2 (lm p)=lm p:=rfl
        have lml:(lm p).length=2:=rfl
        have hwi:IntKind.i64.wrap ((i:Int)+1)=((i+1:Nat):Int):=by rw [wrap64 (by omega)];omega
        simp [hil,hia,lm2,lml,w0]
        refine hD p _ _ _ ?_
        have fin:least g ll=g p→J [(7,.ptr τ.next 0 0),(8,int (least g ll).no),(9,.ptr (τ.next+1) 0 0),(10,int (g p).no)] (φ.set (τ.next+1) (.cells 8 [(g p).c])):=fun e =>
          (hJ _ _).2 ⟨by rw [e],wg.set (by omega) _,by simp [get_set,w1],by simp [get_set,e]⟩
        simp [w2,get_set]
        by_cases hs:(g p).stop
        · have e1:least g ll=g p:=by rw [hle,d1];exact least_stop hs
          by_cases hno:(g p).no=0
          · have hkd:(g p).kd ≠ 4:=by rcases hs with h | h;exact absurd hno h;exact h
            have:=fin e1
            rw [hno] at this
            simp [hno,hkd,get_set]
            exact this
          · simp [hno,get_set]
            exact fin e1
        · have hs':(g p).no=0∧(g p).kd=4:=by unfold OC.stop at hs;omega
          simp [hs'.1,hs'.2,hwi,get_set]
          refine ⟨⟨i+1,g p,⟨hs'.1.symm,by simp⟩,wg.set (by omega) _,w1,rfl,hil,fun h=>?_,fun h=>?_⟩,by omega⟩
          · rw [hle,d1,List.drop_of_length_le h];rfl
          · obtain ⟨q,hq⟩:=get_some (l:=ll) (i:=i+1) h
            have hqr:=drop_at hq
            rw [hle,d1,hqr]
            exact least_go hs
      · have hin:i=ll.length:=by omega
        subst hin
        have hc:=hnil (by simp)
        subst hc
        simp
        exact (hJ _ _).2 ⟨rfl,wg,w1,w2⟩
    · intro fr φ hj
      obtain ⟨rfl,wg,w1,w2⟩:=(hJ _ _).1 hj
      have he:eqLeaves [.i,.b,.i,.s,.i,.i,.i,.i] (least g ll).c (least g ll).c=some true:=by simp [OC.c,outC]
      simp [w1,w2,he]
      exact awake_ev (hk' _ (hg.trans wg))
end Go.Abs.Mac
