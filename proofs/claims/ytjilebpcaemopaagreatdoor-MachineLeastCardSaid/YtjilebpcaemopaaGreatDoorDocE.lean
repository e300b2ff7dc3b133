import Derived.Test.YtjilebpcaemopaaGreatDoorDocC
import Derived.Test.YtjilebpcaemopaaGreatDoorAtH
set_option linter.unusedVariables false
set_option linter.unusedSimpArgs false
set_option linter.deprecated false
namespace Go.Abs.Mac
open Go Go.Abs Go.Abs.Stk Go.Abs.At Go.Proofs.DocD
variable {σ τ:AHeap} {K kp:AV→AHeap→Prop}
attribute [local simp] Nat.add_assoc
section
variable (c:Co)
theorem coC_eq:coC c=c.body.av ++ [str c.arg,.sl false 6 (c.env.names.map nmC).reverse,.sl false 2 (c.env.rhos.map rgC).reverse,rhosV c.rsl]:=rfl
@[simp] theorem coC_len':(coC c).length=23:=coC_len c
@[simp] theorem coC_t23:List.take 23 (coC c)=coC c:=List.take_of_length_le (by rw [coC_len];exact Nat.le_refl _)
@[simp] theorem coC_d23:List.drop 23 (coC c)=[]:=List.drop_of_length_le (by rw [coC_len];exact Nat.le_refl _)
@[simp] theorem coC_t19:List.take 19 (coC c)=c.body.av:=by rw [coC_eq];exact List.take_left' (AT.av_len _)
@[simp] theorem coC_19:(coC c)[19]?=some (str c.arg):=by rw [coC_eq,List.getElem?_append_right (by simp)];simp
@[simp] theorem coC_22:(coC c)[22]?=some (rhosV c.rsl):=by rw [coC_eq,List.getElem?_append_right (by simp)];simp
@[simp] theorem coC_19' (h:19 < (coC c).length):(coC c)[19]'h=str c.arg:=by have:=coC_19 c;rw [List.getElem?_eq_getElem h] at this;exact Option.some.inj this
@[simp] theorem coC_22' (h:22 < (coC c).length):(coC c)[22]'h=rhosV c.rsl:=by have:=coC_22 c;rw [List.getElem?_eq_getElem h] at this;exact Option.some.inj this
@[simp] theorem coC_d20:List.take 2 (List.drop 20 (coC c))=eC c.env:=by rw [coC_eq,List.drop_append,List.drop_of_length_le (by simp)];simp;rfl
end
def coN (b:AT) (arg:ByteArray) (e:En):List AV:=b.av ++ (str arg :: (eC e ++ [nilSl]))
theorem coN_fz {D:Nat→Prop} (b:AT) (arg:ByteArray) (e:En):FzL τ D (coN b arg e) (coC ⟨b,arg,e,none⟩) :=
  (FzL.refl _).append (.cons (.refl _) ((FzL.refl _).append (.cons .nil .nil)))
theorem drop_at {α:Type} {l:List α} {i:Nat} {x:α} (h:l[i]?=some x):l.drop i=x :: l.drop (i+1):=by
  have hi:=(List.getElem?_eq_some_iff.1 h).1
  rw [List.drop_eq_getElem_cons hi]
  rw [List.getElem?_eq_getElem hi] at h
  rw [Option.some.inj h]
theorem build_co {b:List AV} (hb:b.length=19) (x z1 z2 z3 z4:AV) (e:En):List.take 20 (b ++ x :: List.drop 20 (b ++ [z1,z2,z3,z4])) ++ (eC e ++ List.drop 22 (b ++ x :: List.drop 20 (b ++ [z1,z2,z3,z4])))=b ++ x :: (eC e ++ [z4]):=by
  match b,hb with
  | [a1,a2,a3,a4,a5,a6,a7,a8,a9,a10,a11,a12,a13,a14,a15,a16,a17,a18,a19],_=>rfl
theorem take_over {s s':Sa} {v:V} {kd q:Int} (h:take s v kd=.over s' q):s'=s∧(q=5∨q=6):=by
  unfold take at h
  repeat' split at h
  all_goals first | (cases h;done) | (cases h;simp)
theorem inst_ref {fuel:Nat} {s:Sa} {t:AT} {e:En} (hs:SB s) (he:EB e) (hcs:∀ c ∈ s.codes,EB c.env) (hi:IdxOk s) (hrh:t.rhos.length≤1000000) (hk:K (resR fuel (inst s t e)) σ):Ev PR 57 [sV fuel s O0,t.v,eV e] σ K kp:=by
  refine Ev.pureD hk ((resR_dat _ _).low _) fun k' hk'=>?_
  apply F57_ev;unfold F57
  simp [get_new]
  generalize hτ:AHeap.new _ (.cells 4 [[_,_,_,_]])=τ
  have hn:τ.next=σ.next+5:=by rw [← hτ];rfl
  have hg:Grows σ τ:=by rw [← hτ];exact ((((Grows.new _ _).trans (Grows.new _ _)).trans (Grows.new _ _)).trans (Grows.new _ _)).trans (Grows.new _ _)
  have g0:τ.get σ.next=some (.cells 11 [sC fuel s O0]):=by rw [← hτ];simp [get_new]
  have g1:τ.get (σ.next+1)=some (.cells 19 [t.av]):=by rw [← hτ];simp [get_new]
  have g2:τ.get (σ.next+2)=some (.cells 2 [eC e]):=by rw [← hτ];simp [get_new]
  have g3:τ.get (σ.next+3)=some (.cells 11 [[int 0,int 0,nilSl,int 0,int 0,int 0,nilSl,u8 0,bool false,str ByteArray.empty,int 0]]):=by rw [← hτ];simp [get_new]
  have g4:τ.get (σ.next+4)=some (.cells 4 [V.zero.av]):=by rw [← hτ];simp [get_new,V.av,V.zero]
  clear hτ
  have fin:∀ (s':Sa) (o:Out) (υ:AHeap),Grows τ υ→(∀ τ,Grows σ τ→k' (resV fuel s' o) τ)→k' (.tup [sV fuel s' o,.agg (vO o).av]) ((υ.set (σ.next+3) (.cells 11 [sC fuel s' o])).set (σ.next+4) (.cells 4 [(vO o).av])):=fun s' o υ h1 h2 =>
    h2 _ (((hg.trans h1).set (by omega) _).set (by omega) _)
  refine find_ref (by have:=he.names;omega) ?_
  unfold inst at hk'
  cases hf:e.find t.h.name with
  | none =>
    rw [hf] at hk'
    simp [g0]
    refine over_ref ?_
    simp [g3,g4,get_set]
    exact fin s (.over 6) τ (Grows.refl _) hk'
  | some n =>
    rw [hf] at hk'
    simp only at hk'
    intro i hix
    have hil:¬ ((i:Int) < 0):=by omega
    have hia:∀ ω,aIndexAddr 6 (.sl false 6 (e.names.map nmC).reverse) (int i) ω=some (.ref (nmC n)):=fun ω=>by rw [aIndexAddr_sl];simp [← List.map_reverse,hix]
    simp [hil,g2,eC,hia,nmC]
    by_cases hfn:n.fn=true
    · rw [if_pos hfn] at hk'
      simp [hfn]
      obtain ⟨J,hJ⟩:∃ J:AFrame→AHeap→Prop,∀ fr υ,J fr υ↔∃ (id:Nat) (c:Cl) (kk:Int),fr=[(3,.ptr σ.next 0 0),(4,.ptr (σ.next+1) 0 0),(5,.ptr (σ.next+2) 0 0),(6,.ptr (σ.next+3) 0 0),(7,.ptr (σ.next+4) 0 0),(9,.ptr id 0 0),(10,u8 kk)]∧Grows τ υ∧id < υ.next∧υ.get id=some (.cells 10 [c.av])∧(match take s n.v 3 with | .ok c' _=>kk=0∧c'=c | .over _ k=>kk=k):=⟨_,fun _ _=>Iff.rfl⟩
      refine seqW_by J ?_ ?_
      · simp [g0,g2,eC,hia,nmC]
        refine ⟨?_,?_⟩
        · refine ctake_ref (v:=n.v) (s:=s) ?_
          cases htk:take s n.v 3 with
          | ok c s1 =>
            simp [g0,g2,eC,hia,nmC,get_new,hn]
            exact (hJ _ _).2 ⟨σ.next+5,c,0,rfl,((Grows.new _ _).set (by omega) _),by simp [hn],by simp [get_set],by rw [htk];exact ⟨rfl,rfl⟩⟩
          | over s1 q =>
            intro c
            simp [g0,g2,eC,hia,nmC,get_new,hn]
            exact (hJ _ _).2 ⟨σ.next+5,c,q,rfl,((Grows.new _ _).set (by omega) _),by simp [hn],by simp [get_set],by rw [htk]⟩
        · simp [g0,g2,eC,hia,nmC,get_new,hn]
          refine ctake_ref (v:=n.v) (s:=s) ?_
          cases htk:take s n.v 3 with
          | ok c s1 =>
            simp [g0,g2,eC,hia,nmC,get_new,hn]
            exact (hJ _ _).2 ⟨σ.next+5,c,0,rfl,((Grows.new _ _).set (by omega) _),by simp [hn],by simp [get_set],by rw [htk];exact ⟨rfl,rfl⟩⟩
          | over s1 q =>
            intro c
            simp [g0,g2,eC,hia,nmC,get_new,hn]
            exact (hJ _ _).2 ⟨σ.next+5,c,q,rfl,((Grows.new _ _).set (by omega) _),by simp [hn],by simp [get_set],by rw [htk]⟩
      · intro fr υ hj
        obtain ⟨id,c,kk,rfl,ug,hid,hgi,htk⟩:=(hJ _ _).1 hj
        have un:=ug.next
        have u0:=(ug.get _ (by omega)).trans g0
        have u1:=(ug.get _ (by omega)).trans g1
        have u2:=(ug.get _ (by omega)).trans g2
        have u3:=(ug.get _ (by omega)).trans g3
        have u4:=(ug.get _ (by omega)).trans g4
        cases hres:take s n.v 3 with
        | over s1 q =>
          rw [hres] at htk hk'
          obtain ⟨rfl,hq⟩:=take_over hres
          have htk:kk=q:=htk
          subst htk
          have hk0:¬ kk=0:=by omega
          simp [hk0,u0]
          refine over_ref ?_
          simp [u3,u4,get_set]
          exact fin _ (.over kk) υ ug hk'
        | ok c' s1 =>
          rw [hres] at htk hk'
          obtain ⟨rfl,hck,hca,hfz⟩:=take_ok hres
          obtain ⟨rfl,rfl⟩:=htk
          have hcode:∃ (m:Nat) (f:Co),c'.code=m∧s1.codes[m]?=some f:=by
            unfold cellAt at hca
            obtain ⟨row,hr,hm⟩:=Option.bind_eq_some_iff.1 hca
            obtain ⟨j,_,hL,_⟩:=SG.row_nat hr
            obtain ⟨b1,b2⟩:=hi j row c' hL (List.mem_of_getElem? hm) hck
            obtain ⟨f,hf⟩:=get_some (l:=s1.codes) (i:=c'.code.toNat) (by omega)
            exact ⟨c'.code.toNat,f,by omega,hf⟩
          obtain ⟨m,f,hcm,hfm⟩:=hcode
          have hef:=hcs f (List.mem_of_getElem? hfm)
          simp only [Re.bind,hcm,Int.toNat_natCast,hfm] at hk'
          have c9:c'.av[9]?=some (int m):=by rw [← hcm];rfl
          have hia2:∀ ω,aIndexAddr 23 (.sl false 23 (s1.codes.map coC)) (int m) ω=some (.ref (coC f)):=fun ω=>by rw [aIndexAddr_sl];simp [hfm]
          simp [u0,u1,hgi,hcm,hia2,get_new,get_set,rhosV,Nat.ne_of_lt (Nat.lt_of_lt_of_le (show σ.next+1 < τ.next by omega) un)]
          by_cases hlen:f.rsl.length=t.rhos.length
          · rw [if_pos hlen] at hk'
            have n0:σ.next ≠ υ.next:=by omega
            have n1:σ.next+1 ≠ υ.next:=by omega
            simp [hlen,n0,n1,rhosV]
            generalize hω:AHeap.set _ (υ.next+1) _=ω
            have wn:ω.next=υ.next+2:=by rw [← hω];rfl
            have wg:Grows υ ω:=by rw [← hω];exact (((Grows.new _ _).set (Nat.le_refl _) _).trans (Grows.new _ _)).set (by simp) _
            have w1:ω.get υ.next=some (.cells 23 [coC f]):=by rw [← hω];simp [get_new,get_set]
            have w2:ω.get (υ.next+1)=some (.cells 2 [eC f.env]):=by rw [← hω];simp [get_new,get_set]
            clear hω
            obtain ⟨J2,hJ2⟩:∃ J2:AFrame→AHeap→Prop,∀ fr φ,J2 fr φ↔∃ own,fr=[(3,.ptr σ.next 0 0),(4,.ptr (σ.next+1) 0 0),(5,.ptr (σ.next+2) 0 0),(6,.ptr (σ.next+3) 0 0),(7,.ptr (σ.next+4) 0 0),(11,.ptr υ.next 0 0),(12,.ptr (υ.next+1) 0 0)]∧Grows υ φ∧υ.next+2≤φ.next∧φ.get υ.next=some (.cells 23 [coC f])∧φ.get (υ.next+1)=some (.cells 2 [eC own])∧opens e f.env t.rhos f.rsl=some own:=⟨_,fun _ _=>Iff.rfl⟩
            refine seqW_by J2 ?_ ?_
            · have hlr:∀ ω,aLenK .slice (rhosV t.rhos) ω=some (int t.rhos.length):=fun ω=>by simp [rhosV]
              have p1:=(wg.get _ (by omega)).trans u1
              try simp [p1,hlr]
              refine loopW_by (fun p:Nat × En=>[(3,.ptr σ.next 0 0),(4,.ptr (σ.next+1) 0 0),(5,.ptr (σ.next+2) 0 0),(6,.ptr (σ.next+3) 0 0),(7,.ptr (σ.next+4) 0 0),(11,.ptr υ.next 0 0),(12,.ptr (υ.next+1) 0 0),(75,int t.rhos.length),(76,int p.1)])
                (fun p φ=>Grows υ φ∧υ.next+2≤φ.next∧φ.get υ.next=some (.cells 23 [coC f])∧φ.get (υ.next+1)=some (.cells 2 [eC p.2])∧p.1≤t.rhos.length∧p.2.rhos.length≤f.env.rhos.length+p.1∧opens e p.2 (t.rhos.drop p.1) (f.rsl.drop p.1)=opens e f.env t.rhos f.rsl)
                (fun fr _=>t.rhos.length - (intOf (look fr 76)).toNat) (0,f.env) rfl ⟨wg,by omega,w1,w2,Nat.zero_le _,by simp,rfl⟩ ?_
              rintro ⟨i,own⟩ φ ⟨fg,fn,f1,f2,hi1,hi2,hop⟩
              simp only at f2 hi1 hi2 hop
              have v0:=(fg.get _ (by omega)).trans u0
              have v1:=(fg.get _ (by omega)).trans u1
              have v2:=(fg.get _ (by omega)).trans u2
              have v3:=(fg.get _ (by omega)).trans u3
              have v4:=(fg.get _ (by omega)).trans u4
              by_cases hil2:i < t.rhos.length
              · obtain ⟨r,hr⟩:=get_some hil2
                obtain ⟨q,hq⟩:=get_some (l:=f.rsl) (i:=i) (by omega)
                have hra:∀ ω,aIndexAddr 1 (rhosV t.rhos) (int i) ω=some (.ref [int r]):=fun ω=>by unfold rhosV;rw [aIndexAddr_sl];simp [hr]
                have hqa:∀ ω,aIndexAddr 1 (rhosV f.rsl) (int i) ω=some (.ref [int q]):=fun ω=>by unfold rhosV;rw [aIndexAddr_sl];simp [hq]
                simp [hil2,v1,v2,hra]
                refine region_ref (by have:=he.rhos;omega) ?_
                have e1:=drop_at hr
                have e2:=drop_at hq
                rw [e1,e2] at hop
                simp only [opens] at hop
                by_cases hreg:(e.region r).2=true
                · rw [if_pos hreg] at hop
                  simp [hreg,f1,f2,hqa]
                  refine open_ref (by have:=hef.rhos;omega) ?_
                  simp [f2,get_set]
                  rw [wrap64 (by omega)]
                  exact ⟨⟨i+1,by simp,fg.set (by omega) _,fn,f1,own.opn q (e.region r).1,by rw [show List.drop 2 (eC own)=[] from rfl,List.append_nil],hil2,by simp [En.opn];omega,hop⟩,by omega⟩
                · rw [if_neg hreg] at hop
                  rw [← hop] at hk'
                  simp at hreg
                  simp [hreg,v0]
                  refine over_ref ?_
                  simp [v3,v4,get_set]
                  exact fin s1 (.over 5) _ (ug.trans fg) hk'
              · have hin:i=t.rhos.length:=by omega
                subst hin
                simp
                refine (hJ2 _ _).2 ⟨own,rfl,fg,fn,f1,f2,?_⟩
                rw [← hop];simp [opens]
            · intro fr φ hj2
              obtain ⟨own,rfl,fg,fn,f1,f2,hop⟩:=(hJ2 _ _).1 hj2
              have v0:=(fg.get _ (by omega)).trans u0
              have v1:=(fg.get _ (by omega)).trans u1
              have v2:=(fg.get _ (by omega)).trans u2
              have v3:=(fg.get _ (by omega)).trans u3
              have v4:=(fg.get _ (by omega)).trans u4
              rw [hop] at hk'
              simp [v0,v1,v2,f1,f2]
              rw [build_co (AT.av_len _)]
              refine Ev.weak (args':=[sV fuel s1 O0,eV e,int t.rho,.agg (coC ⟨f.body,f.arg,own,none⟩)]) (.cons (.refl _) (.cons (.refl _) (.cons (.refl _) (.cons (coN_fz _ _ _).agg .nil)))) ?_
              refine ccode_ref hs he ?_
              cases hr:code s1 e t.rho ⟨f.body,f.arg,own,none⟩ with
              | ok v s' =>
                simp only [hr] at hk'
                simp [resR,v3,v4,get_set]
                exact fin s' (.val v) _ (ug.trans fg) hk'
              | over s' k =>
                simp only [hr] at hk'
                simp [resR,v3,v4,get_set]
                exact fin s' (.over k) _ (ug.trans fg) hk'
          · rw [if_neg hlen] at hk'
            have hlen':¬ ((f.rsl.length:Int)=t.rhos.length):=by omega
            simp [hlen',hlen,u0,get_set,get_new,Nat.ne_of_lt (Nat.lt_of_lt_of_le (show σ.next < τ.next by omega) un)]
            refine over_ref ?_
            simp [u3,u4,get_set,get_new,Nat.ne_of_lt (Nat.lt_of_lt_of_le (show σ.next+3 < τ.next by omega) un),Nat.ne_of_lt (Nat.lt_of_lt_of_le (show σ.next+4 < τ.next by omega) un)]
            exact fin s1 (.over 6) _ (ug.trans ((Grows.new _ _).set (Nat.le_refl _) _)) hk'
    · rw [if_neg hfn] at hk'
      simp at hfn
      simp [hfn,g0]
      refine over_ref ?_
      simp [g3,g4,get_set]
      exact fin s (.over 6) τ (Grows.refl _) hk'
end Go.Abs.Mac
