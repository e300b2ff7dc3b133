import Derived.Test.YtjilebpcaemopaaGreatDoorDocE
import Derived.Test.YtjilebpcaemopaaGreatDoorMacE
import Derived.Test.YtjilebpcaemopaaGreatDoorMacA
set_option linter.unusedVariables false
set_option linter.unusedSimpArgs false
set_option linter.deprecated false
namespace Go.Abs.Mac
open Go Go.Abs Go.Abs.Stk Go.Abs.At Go.Proofs.DocD
variable {σ τ:AHeap} {K kp:AV→AHeap→Prop}
attribute [local simp] Nat.add_assoc
def NodeOk (fuel:Nat) (s:Sa) (t:AT) (e:En) (s':Sa) (o:Out):Prop:=∀ (σ:AHeap) (K kp:AV→AHeap→Prop),K (resV fuel s' o) σ→Ev PR 31 [sV fuel s O0,t.v,eV e] σ K kp
abbrev z11:List AV:=[int 0,int 0,nilSl,int 0,int 0,int 0,nilSl,u8 0,bool false,str ByteArray.empty,int 0]
theorem region_over {fuel:Nat} {s:Sa} {t:AT} {e:En} (hs:SB s) (h:pushS s.store=none) (hk:K (resV fuel s (.over 4)) σ):Ev PR 50 [sV fuel s O0,t.v,eV e] σ K kp:=by
  refine Ev.pureD hk ((resV_dat _ _ _).low _) fun k' hk'=>?_
  apply F50_ev;unfold F50
  simp [get_new]
  generalize hτ:AHeap.new _ (.cells 4 [[_,_,_,_]])=τ
  have hn:τ.next=σ.next+5:=by rw [← hτ];rfl
  have hg:Grows σ τ:=by rw [← hτ];exact ((((Grows.new _ _).trans (Grows.new _ _)).trans (Grows.new _ _)).trans (Grows.new _ _)).trans (Grows.new _ _)
  have g0:τ.get σ.next=some (.cells 11 [sC fuel s O0]):=by rw [← hτ];simp [get_new]
  have g3:τ.get (σ.next+3)=some (.cells 11 [z11]):=by rw [← hτ];simp [get_new]
  have g4:τ.get (σ.next+4)=some (.cells 4 [V.zero.av]):=by rw [← hτ];simp [get_new,V.av,V.zero]
  clear hτ
  refine Stk.push_ref (s:=avS s.store) (cok _) (by rw [avS_len];have:=hs.len;omega) (by rw [avS_cells];have:=hs.cells;omega) ?_
  unfold pushS at h
  split at h
  · cases h
  · rename_i hR
    rw [if_neg (by simpa using hR)]
    simp [g0,get_new,get_set,hn]
    refine over_ref ?_
    simp [g3,g4,get_new,get_set,hn]
    exact hk' _ ((((hg.trans (Grows.new _ _)).set (by omega) _).set (by omega) _).set (by omega) _)
theorem region_node {fuel:Nat} {s:Sa} {t:AT} {e:En} {r:Int} {st:SG Cl} {s':Sa} {o:Out} (hs:SB s) (he:EB e) (ht:0 < t.kids.length) (h:pushS s.store=some (r,st)) (ih:NodeOk fuel { s with store:=st } (kidAt t 0) (e.opn t.rho r) s' o) (hs':SB s') (ho:∀ k,o=.over k→k ≠ 0)
    (hk:K (resV fuel (popO o s') o) σ):Ev PR 50 [sV fuel s O0,t.v,eV e] σ K kp:=by
  refine Ev.pureD hk ((resV_dat _ _ _).low _) fun k' hk'=>?_
  apply F50_ev;unfold F50
  simp [get_new]
  generalize hτ:AHeap.new _ (.cells 4 [[_,_,_,_]])=τ
  have hn:τ.next=σ.next+5:=by rw [← hτ];rfl
  have hg:Grows σ τ:=by rw [← hτ];exact ((((Grows.new _ _).trans (Grows.new _ _)).trans (Grows.new _ _)).trans (Grows.new _ _)).trans (Grows.new _ _)
  have g0:τ.get σ.next=some (.cells 11 [sC fuel s O0]):=by rw [← hτ];simp [get_new]
  have g1:τ.get (σ.next+1)=some (.cells 19 [t.av]):=by rw [← hτ];simp [get_new]
  have g2:τ.get (σ.next+2)=some (.cells 2 [eC e]):=by rw [← hτ];simp [get_new]
  have g3:τ.get (σ.next+3)=some (.cells 11 [z11]):=by rw [← hτ];simp [get_new]
  have g4:τ.get (σ.next+4)=some (.cells 4 [V.zero.av]):=by rw [← hτ];simp [get_new,V.av,V.zero]
  clear hτ
  refine Stk.push_ref (s:=avS s.store) (cok _) (by rw [avS_len];have:=hs.len;omega) (by rw [avS_cells];have:=hs.cells;omega) ?_
  obtain ⟨hR,rfl,rfl⟩:=pushS_ok h
  rw [if_pos (by simpa using hR),avS_more]
  simp [g0,get_new,get_set,hn]
  generalize hυ:AHeap.set _ σ.next _=υ
  have un:υ.next=σ.next+6:=by rw [← hυ];simp [hn]
  have ug:Grows σ υ:=by rw [← hυ];exact ((hg.trans (Grows.new _ _)).set (by omega) _).set (by omega) _
  have u0:υ.get σ.next=some (.cells 11 [sC fuel { s with store:=s.store.more } O0]):=by rw [← hυ];simp [get_set]
  have u1:υ.get (σ.next+1)=some (.cells 19 [t.av]):=by rw [← hυ];simp [get_set,get_new,hn,g1]
  have u2:υ.get (σ.next+2)=some (.cells 2 [eC e]):=by rw [← hυ];simp [get_set,get_new,hn,g2]
  have u3:υ.get (σ.next+3)=some (.cells 11 [z11]):=by rw [← hυ];simp [get_set,get_new,hn,g3]
  have u4:υ.get (σ.next+4)=some (.cells 4 [V.zero.av]):=by rw [← hυ];simp [get_set,get_new,hn,g4]
  clear hυ
  obtain ⟨J,hJ⟩:∃ J:AFrame→AHeap→Prop,∀ fr φ,J fr φ↔∃ (id:Nat),fr=[(3,.ptr σ.next 0 0),(6,.ptr (σ.next+3) 0 0),(7,.ptr (σ.next+4) 0 0),(11,.ptr id 0 0)]∧Grows σ φ∧σ.next+6≤id∧id < φ.next∧φ.get σ.next=some (.cells 11 [sC fuel s' o])∧φ.get id=some (.cells 4 [(vO o).av])∧φ.get (σ.next+3)=some (.cells 11 [z11])∧φ.get (σ.next+4)=some (.cells 4 [V.zero.av]):=⟨_,fun _ _=>Iff.rfl⟩
  refine seqW_by J ?_ ?_
  · simp [u0,u1,u2,g1,g2,kid_addr0 ht]
    refine ⟨?_,?_,?_⟩
    · refine open_ref (by have:=he.rhos;omega) ?_
      simp [u0,u1,u2,kid_addr0 ht]
      refine ih _ _ _ ?_
      simp [u0,u1,u2,kid_addr0 ht,get_new,get_set,un]
      refine (hJ _ _).2 ⟨σ.next+6,rfl,⟨by simp [un],fun i hi=>?_⟩,Nat.le_refl _,by simp [un],by simp [get_set],by simp [get_set],by simp [get_set,get_new,un,u3],by simp [get_set,get_new,un,u4]⟩
      simp only [get_set,get_new,un]
      repeat' rw [if_neg (by omega)]
      exact ug.get i hi
    · refine open_ref (by have:=he.rhos;omega) ?_
      simp [u0,u1,u2,kid_addr0 ht,get_new,un]
      refine ih _ _ _ ?_
      simp [u0,u1,u2,kid_addr0 ht,get_new,get_set,un]
      refine (hJ _ _).2 ⟨σ.next+6,rfl,⟨by simp [un],fun i hi=>?_⟩,Nat.le_refl _,by simp [un],by simp [get_set],by simp [get_set],by simp [get_set,get_new,un,u3],by simp [get_set,get_new,un,u4]⟩
      simp only [get_set,get_new,un]
      repeat' rw [if_neg (by omega)]
      exact ug.get i hi
    · simp [u0,u1,u2,kid_addr0 ht,get_new,un]
      refine open_ref (by have:=he.rhos;omega) ?_
      simp [u0,u1,u2,kid_addr0 ht,get_new,un]
      refine ih _ _ _ ?_
      simp [u0,u1,u2,kid_addr0 ht,get_new,get_set,un]
      refine (hJ _ _).2 ⟨σ.next+6,rfl,⟨by simp [un],fun i hi=>?_⟩,Nat.le_refl _,by simp [un],by simp [get_set],by simp [get_set],by simp [get_set,get_new,un,u3],by simp [get_set,get_new,un,u4]⟩
      simp only [get_set,get_new,un]
      repeat' rw [if_neg (by omega)]
      exact ug.get i hi
  · intro fr φ hj
    obtain ⟨id,rfl,fg,i1,i2,f0,fi,f3,f4⟩:=(hJ _ _).1 hj
    have fn:=fg.next
    refine seqW_in ?_
    have n0:id ≠ σ.next:=by omega
    have n3:id ≠ σ.next+3:=by omega
    have n4:id ≠ σ.next+4:=by omega
    have popP:∀ (o':Out) (K2 kp2:AV→AHeap→Prop),(∀ b:Bool,K2 (.tup [Stk.avS (avS (popS s'.store)),bool b]) φ)→Ev PR 97 [Stk.avS (avS s'.store)] φ K2 kp2:=by
      intro o' K2 kp2 hK
      refine Stk.pop_ref (s:=avS s'.store) (cok _) (by rw [avS_len];have:=hs'.len;omega) (by rw [avS_cells];have:=hs'.cells;omega) ?_
      rw [avS_live]
      by_cases hl:s'.store.live.length < 2
      · rw [if_pos hl]
        have:popS s'.store=s'.store:=by unfold popS;rw [if_pos hl]
        rw [this] at hK
        exact hK false
      · rw [if_neg hl]
        intro i hi
        have:popS s'.store=s'.store.less i:=by unfold popS;rw [if_neg hl,hi]
        rw [this] at hK
        rw [avS_less]
        exact hK true
    cases o with
    | over q =>
      have hq:=ho q rfl
      simp [f0,fi,f3,f4,get_set,endO,hq,n0,n3,n4]
      exact hk' _ ((fg.set (by omega) _).set (by omega) _)
    | val v =>
      simp [f0,fi,f3,f4,get_set,endO,n0,n3,n4]
      refine popP (.val v) _ _ fun b=>?_
      simp [f0,fi,f3,f4,get_set,endO,n0,n3,n4]
      exact hk' _ (((fg.set (by omega) _).set (by omega) _).set (by omega) _)
    | exn n x =>
      simp [f0,fi,f3,f4,get_set,endO,n0,n3,n4]
      refine popP (.exn n x) _ _ fun b=>?_
      simp [f0,fi,f3,f4,get_set,endO,n0,n3,n4]
      exact hk' _ (((fg.set (by omega) _).set (by omega) _).set (by omega) _)
inductive KR (fuel:Nat) (e:En):List AT→Sa→Sa→Out→List V→Prop
  | nil {s}:KR fuel e [] s s O0 []
  | cons {t ts s s1 s2 o v vs} (h:NodeOk fuel s t e s1 (.val v)) (hs:KR fuel e ts s1 s2 o vs):KR fuel e (t :: ts) s s2 o (v :: vs)
  | stop {t ts s s1 o} (h:NodeOk fuel s t e s1 o) (ho:¬ o.isVal) (h0:∀ k,o=.over k→k ≠ 0):KR fuel e (t :: ts) s s1 o []
theorem kids_ref {fuel:Nat} {s:Sa} {t:AT} {e:En} {s':Sa} {o:Out} {vs:List V} (hl:t.kids.length≤10) (hr:KR fuel e t.kids s s' o vs) (hk:K (.tup [sV fuel s' o,.sl false 4 (vs.map V.av)]) σ):Ev PR 58 [sV fuel s O0,t.v,eV e] σ K kp:=by
  refine Ev.pure ?_
  apply F58_ev;unfold F58
  simp [get_new]
  generalize hτ:AHeap.new _ (.cells 4 [])=τ
  have hn:τ.next=σ.next+5:=by rw [← hτ];rfl
  have hg:Grows σ τ:=by rw [← hτ];exact ((((Grows.new _ _).trans (Grows.new _ _)).trans (Grows.new _ _)).trans (Grows.new _ _)).trans (Grows.new _ _)
  have g0:τ.get σ.next=some (.cells 11 [sC fuel s O0]):=by rw [← hτ];simp [get_new]
  have g1:τ.get (σ.next+1)=some (.cells 19 [t.av]):=by rw [← hτ];simp [get_new]
  have g2:τ.get (σ.next+2)=some (.cells 2 [eC e]):=by rw [← hτ];simp [get_new]
  have g3:τ.get (σ.next+3)=some (.cells 11 [z11]):=by rw [← hτ];simp [get_new]
  have g4:τ.get (σ.next+4)=some (.cells 4 []):=by rw [← hτ];simp [get_new]
  clear hτ
  obtain ⟨J,hJ⟩:∃ J:AFrame→AHeap→Prop,∀ fr φ,J fr φ↔∃ (id:Nat),fr=[(3,.ptr σ.next 0 0),(6,.ptr (σ.next+3) 0 0),(8,.own id vs.length)]∧Grows σ φ∧σ.next+4≤id∧φ.get σ.next=some (.cells 11 [sC fuel s' o])∧φ.get id=some (.cells 4 (vs.map V.av))∧φ.get (σ.next+3)=some (.cells 11 [z11]):=⟨_,fun _ _=>Iff.rfl⟩
  have hd:∀ el ∈ vs.map V.av,∀ x ∈ el,Dat x:=fun el hel=>by obtain ⟨v,_,rfl⟩:=List.mem_map.1 hel;exact av_dat v
  have fin:∀ (id:Nat) (φ:AHeap),Grows σ φ→σ.next+4≤id→φ.get id=some (.cells 4 (vs.map V.av))→Grows σ (φ.set (σ.next+3) (.cells 11 [sC fuel s' o]))∧∃ y,Frz (φ.set (σ.next+3) (.cells 11 [sC fuel s' o])) σ.next (.tup [sV fuel s' o,.own id vs.length]) y∧K y σ:=by
    intro id φ fg i1 fi
    refine ⟨fg.set (by omega) _,_,FrzL.tup (.cons (.low ((sV_dat _ _ _).low _)) (.cons (frz_row (els:=vs.map V.av) (by rw [get_set,if_neg (by omega)];exact fi) (by omega) (by simp) hd) .nil)),hk⟩
  refine seqW_by J ?_ ?_
  · have hkl:∀ ω,aLenK .slice (AT.vs t.kids) ω=some (int t.kids.length):=fun ω=>by simp
    try simp [g1,hkl]
    refine loopW_by (fun p:Nat × Sa × List V × Nat=>[(3,.ptr σ.next 0 0),(4,.ptr (σ.next+1) 0 0),(5,.ptr (σ.next+2) 0 0),(6,.ptr (σ.next+3) 0 0),(8,.own p.2.2.2 p.2.2.1.length),(15,int t.kids.length),(16,int p.1)])
      (fun p φ=>Grows σ φ∧σ.next+4≤p.2.2.2∧p.2.2.2 < φ.next∧φ.get σ.next=some (.cells 11 [sC fuel p.2.1 O0])∧φ.get (σ.next+1)=some (.cells 19 [t.av])∧φ.get (σ.next+2)=some (.cells 2 [eC e])∧φ.get (σ.next+3)=some (.cells 11 [z11])∧φ.get p.2.2.2=some (.cells 4 (p.2.2.1.map V.av))∧p.1≤t.kids.length∧p.2.2.1.length=p.1∧∃ rest,KR fuel e (t.kids.drop p.1) p.2.1 s' o rest∧vs=p.2.2.1 ++ rest)
      (fun fr _=>t.kids.length - (intOf (look fr 16)).toNat) (0,s,[],σ.next+4) rfl ⟨hg,Nat.le_refl _,by simp;omega,g0,g1,g2,g3,g4,Nat.zero_le _,rfl,vs,hr,rfl⟩ ?_
    rintro ⟨i,s1,dn,id⟩ φ ⟨fg,i1,i2,f0,f1,f2,f3,fi,hi,hdn,rest,hkr,hvs⟩
    simp only at i1 i2 f0 fi hi hdn hkr hvs
    by_cases hil:i < t.kids.length
    · have hka:∀ ω,aIndexAddr 19 (AT.vs t.kids) (int i) ω=some (.ref (kidAt t i).av):=fun ω=>kid_addr hil ω
      have hkd:t.kids.drop i=kidAt t i :: t.kids.drop (i+1):=drop_at (by unfold kidAt;rw [List.getElem?_eq_getElem hil];rfl)
      rw [hkd] at hkr
      have hstep:∃ s2 o2,NodeOk fuel s1 (kidAt t i) e s2 o2∧((∃ v rs,o2=.val v∧KR fuel e (t.kids.drop (i+1)) s2 s' o rs∧rest=v :: rs)∨(¬ o2.isVal∧s2=s'∧o2=o∧rest=[]))∧∀ k,o2=.over k→k ≠ 0:=by
        cases hkr with
        | cons h hs=>exact ⟨_,_,h,.inl ⟨_,_,rfl,hs,rfl⟩,by simp⟩
        | stop h ho h0=>exact ⟨_,_,h,.inr ⟨ho,rfl,rfl,rfl⟩,h0⟩
      obtain ⟨s2,o2,hnode,hor,h0⟩:=hstep
      simp [hil]
      have fn:=fg.next
      obtain ⟨J2,hJ2⟩:∃ J2:AFrame→AHeap→Prop,∀ fr ω,J2 fr ω↔∃ (a b:Nat),fr=[(3,.ptr σ.next 0 0),(4,.ptr (σ.next+1) 0 0),(5,.ptr (σ.next+2) 0 0),(6,.ptr (σ.next+3) 0 0),(8,.own id dn.length),(10,.ptr a 0 0),(11,.ptr b 0 0),(15,int t.kids.length),(16,int i)]∧Grows φ ω∧φ.next≤a∧φ.next≤b∧a < ω.next∧b < ω.next∧ω.get a=some (.cells 11 [sC fuel s2 o2])∧ω.get b=some (.cells 4 [(vO o2).av]):=⟨_,fun _ _=>Iff.rfl⟩
      have mk:∀ (a b:Nat) (ω:AHeap),φ.next≤a→φ.next≤b→a ≠ b→a < ω.next→b < ω.next→Grows φ ω→J2 [(3,.ptr σ.next 0 0),(4,.ptr (σ.next+1) 0 0),(5,.ptr (σ.next+2) 0 0),(6,.ptr (σ.next+3) 0 0),(8,.own id dn.length),(10,.ptr a 0 0),(11,.ptr b 0 0),(15,int t.kids.length),(16,int i)] ((ω.set a (.cells 11 [sC fuel s2 o2])).set b (.cells 4 [(vO o2).av])):=fun a b ω h1 h2 h3 h4 h5 h6 =>
        (hJ2 _ _).2 ⟨a,b,rfl,(h6.set h1 _).set h2 _,h1,h2,h4,h5,by simp [get_set,h3],by simp [get_set]⟩
      have m0:σ.next ≠ φ.next:=by omega
      have m1:σ.next+1 ≠ φ.next:=by omega
      have m2:σ.next+2 ≠ φ.next:=by omega
      have m0':σ.next ≠ φ.next+1:=by omega
      have m1':σ.next+1 ≠ φ.next+1:=by omega
      have m2':σ.next+2 ≠ φ.next+1:=by omega
      refine seqW_by J2 ?_ ?_
      · simp [f0,f1,f2,hka]
        refine ⟨?_,?_,?_,?_,?_,?_⟩
        · refine hnode _ _ _ ?_
          simp [f0,f1,f2,hka,get_new,get_set,m0,m1,m2,m0',m1',m2']
          exact mk φ.next (φ.next+1) _ (Nat.le_refl _) (Nat.le_succ _) (by omega) (by simp) (by simp) ((Grows.new _ _).trans (Grows.new _ _))
        · refine hnode _ _ _ ?_
          simp [f0,f1,f2,hka,get_new,get_set,m0,m1,m2,m0',m1',m2']
          exact mk (φ.next+1) φ.next _ (Nat.le_succ _) (Nat.le_refl _) (by omega) (by simp) (by simp) ((Grows.new _ _).trans (Grows.new _ _))
        · simp [f0,f1,f2,hka,get_new,get_set,m0,m1,m2,m0',m1',m2']
          refine hnode _ _ _ ?_
          simp [f0,f1,f2,hka,get_new,get_set,m0,m1,m2,m0',m1',m2']
          exact mk φ.next (φ.next+1) _ (Nat.le_refl _) (Nat.le_succ _) (by omega) (by simp) (by simp) ((Grows.new _ _).trans (Grows.new _ _))
        · simp [f0,f1,f2,hka,get_new,get_set,m0,m1,m2,m0',m1',m2']
          refine hnode _ _ _ ?_
          simp [f0,f1,f2,hka,get_new,get_set,m0,m1,m2,m0',m1',m2']
          exact mk φ.next (φ.next+1) _ (Nat.le_refl _) (Nat.le_succ _) (by omega) (by simp) (by simp) ((Grows.new _ _).trans (Grows.new _ _))
        · simp [f0,f1,f2,hka,get_new,get_set,m0,m1,m2,m0',m1',m2']
          refine hnode _ _ _ ?_
          simp [f0,f1,f2,hka,get_new,get_set,m0,m1,m2,m0',m1',m2']
          exact mk (φ.next+1) φ.next _ (Nat.le_succ _) (Nat.le_refl _) (by omega) (by simp) (by simp) ((Grows.new _ _).trans (Grows.new _ _))
        · simp [f0,f1,f2,hka,get_new,get_set,m0,m1,m2,m0',m1',m2']
          refine hnode _ _ _ ?_
          simp [f0,f1,f2,hka,get_new,get_set,m0,m1,m2,m0',m1',m2']
          exact mk (φ.next+1) φ.next _ (Nat.le_succ _) (Nat.le_refl _) (by omega) (by simp) (by simp) ((Grows.new _ _).trans (Grows.new _ _))
      · intro fr ω hj
        obtain ⟨a,b,rfl,wg,a1,b1,a2,b2,ha,hb⟩:=(hJ2 _ _).1 hj
        have wn:=wg.next
        have w0:=(wg.get _ (by omega)).trans f0
        have w1:=(wg.get _ (by omega)).trans f1
        have w2:=(wg.get _ (by omega)).trans f2
        have w3:=(wg.get _ (by omega)).trans f3
        have wi:=(wg.get _ (by omega)).trans fi
        have p0:a ≠ σ.next:=by omega
        have p1:b ≠ σ.next:=by omega
        have p3:b ≠ σ.next+3:=by omega
        simp [ha,hb,w0,w3,get_set,p0,p1,p3]
        refine stop_ref h0 fun st hst=>?_
        rcases hor with ⟨v,rs,rfl,hkr',rfl⟩ | ⟨hnv,rfl,rfl,rfl⟩
        · have hf:st=false:=hst.2 trivial
          subst hf
          simp [ha,hb,w0,w3,get_set,p0,p1,p3]
          have hap:=app_own2 (σ:=(ω.set σ.next (.cells 11 [sC fuel s2 (.val v)])).new (.cells 4 [v.av])) (sz:=4) (bytes:=32) (id:=id) (jd:=ω.next) (xs:=dn.map V.av) (ys:=[v.av]) (by rw [get_new,if_neg (by simp;omega),get_set,if_neg (by omega)];exact wi) (by simp [get_new]) (by simp;omega)
          simp at hap
          refine stepK_of hap ?_
          rw [wrap64 (by omega)]
          have cg:Grows σ ((((ω.set σ.next (.cells 11 [sC fuel s2 (.val v)])).new (.cells 4 [v.av])).del id).new (.cells 4 (dn.map V.av ++ [v.av]))):=by
            refine ⟨by simp;omega,fun j hj=>?_⟩
            simp only [get_set,get_new,get_del,AHeap.new_next,AHeap.del_next,AHeap.set_next]
            rw [if_neg (by omega),if_neg (by omega),if_neg (by omega),if_neg (by omega)]
            exact (wg.get j (by omega)).trans (fg.get j hj)
          have cget:∀ j o,j < ω.next→j ≠ σ.next→j ≠ id→ω.get j=o→((((ω.set σ.next (.cells 11 [sC fuel s2 (.val v)])).new (.cells 4 [v.av])).del id).new (.cells 4 (dn.map V.av ++ [v.av]))).get j=o:=by
            intro j o h1 h2 h3 h4
            simp only [get_set,get_new,get_del,AHeap.new_next,AHeap.del_next,AHeap.set_next]
            rw [if_neg (by omega),if_neg h3,if_neg (by omega),if_neg h2]
            exact h4
          refine ⟨⟨i+1,s2,dn ++ [v],ω.next+1,⟨by simp,by simp⟩,cg,by omega,by simp,?_,cget _ _ (by omega) (by omega) (by omega) w1,cget _ _ (by omega) (by omega) (by omega) w2,cget _ _ (by omega) (by omega) (by omega) w3,?_,hil,by simp [hdn],rs,hkr',by rw [hvs];simp⟩,by omega⟩
          · simp only [get_set,get_new,get_del,AHeap.new_next,AHeap.del_next,AHeap.set_next]
            rw [if_neg (by omega),if_neg (by omega),if_neg (by omega),if_pos trivial,sC_val]
          · simp [get_new]
        · have hf:st=true:=by
            cases st with
            | true=>rfl
            | false=>exact absurd (hst.1 rfl) hnv
          subst hf
          simp [ha,hb,w0,w3,get_set,p0,p1,p3]
          have e1:vs=dn:=by rw [hvs];simp
          rw [← e1]
          rw [← e1] at wi
          exact fin id _ ((fg.trans wg).set (Nat.le_refl _) _) i1 (by rw [get_set,if_neg (by omega)];exact wi)
    · have hin:i=t.kids.length:=by omega
      subst hin
      rw [List.drop_length] at hkr
      cases hkr
      simp
      exact (hJ _ _).2 ⟨id,by simp [hvs],fg,i1,f0,by rw [hvs];simpa using fi,f3⟩
  · intro fr φ hj
    obtain ⟨id,rfl,fg,i1,f0,fi,f3⟩:=(hJ _ _).1 hj
    have n3:σ.next ≠ σ.next+3:=by omega
    simp [f0,f3,get_set]
    exact fin id φ fg i1 fi
end Go.Abs.Mac
namespace Go.Abs.Mac
open Go Go.Abs Go.Abs.Stk Go.Abs.At Go.Proofs.DocD
variable {σ τ:AHeap} {K kp:AV→AHeap→Prop}
attribute [local simp] Nat.add_assoc
inductive RuleOut (fuel:Nat):Re Nx→Sa→Out→Prop
  | rend {r s o} (h:Rend r s o):RuleOut fuel r s o
  | call {s b e s' o} (h:NodeOk fuel s b e s' o):RuleOut fuel (.ok (.node b e) s) s' o
@[simp] theorem V.av_h (v:V):v.av.head?=some (u8 v.kind):=nr rfl
@[simp] theorem V.av_0 (v:V):v.av[0]?=some (u8 v.kind):=nr rfl
@[simp] theorem V.av_1 (v:V):v.av[1]?=some (int v.n):=nr rfl
@[simp] theorem V.av_1' (v:V) (h:1 < v.av.length):v.av[1]'h=int v.n:=nr rfl
@[simp] theorem V.av_0' (v:V) (h:0 < v.av.length):v.av[0]'h=u8 v.kind:=nr rfl
def vsV (vs:List V):AV:=.sl false 4 (vs.map V.av)
theorem vs_at {vs:List V} {i:Nat} (h:i < vs.length) (ω:AHeap):aIndexAddr 4 (vsV vs) (.val (.int .i64 i)) ω=some (.ref (at0 vs i).av):=by
  unfold vsV at0
  rw [aIndexAddr_sl]
  simp [List.getElem?_eq_getElem h,h]
theorem vs_0 {vs:List V} (h:0 < vs.length) (ω:AHeap):aIndexAddr 4 (vsV vs) (.val (.int .i64 0)) ω=some (.ref (at0 vs 0).av):=vs_at h ω
theorem vs_1 {vs:List V} (h:1 < vs.length) (ω:AHeap):aIndexAddr 4 (vsV vs) (.val (.int .i64 1)) ω=some (.ref (at0 vs 1).av):=vs_at h ω
@[simp] theorem cl_a (c:Cl):List.take 4 (List.drop 1 c.av)=c.a.av:=nr rfl
@[simp] theorem cl_a' (c:Cl):List.take 4 c.av.tail=c.a.av:=nr rfl
@[simp] theorem cl_b (c:Cl):List.take 4 (List.drop 5 c.av)=c.b.av:=nr rfl
theorem avS_set {s:SG Cl} {v:V} {c:Cl} {row:List (List AV)} {ri i:Nat} (h1:v.r=ri) (h2:(avS s).L[ri]?=some (true,row)) (h3:v.a=i):(avS s).put ri (row.set i c.av)=avS (setS s v c):=by
  simp only [avS,List.getElem?_map,Option.map_eq_some_iff] at h2
  obtain ⟨⟨b,row'⟩,h4,h5⟩:=h2
  simp only [Prod.mk.injEq] at h5
  obtain ⟨rfl,rfl⟩:=h5
  have hr:s.row v.r=some row':=by unfold SG.row at' Stk.rowAt;rw [h1];simp [h4]
  unfold setS
  rw [hr,h1,h3]
  simp only [Int.toNat_natCast]
  rw [← avS_put]
  simp [List.map_set]
def kdOf (k:Int):Int:=if k=4∨k=5 then 1 else if k=7∨k=8 then 2 else 3
theorem ruleOut_make {fuel:Nat} {r:Re V} {s':Sa} {o:Out} (h:RuleOut fuel (r.bind fun v s=>.ok (.val v) s) s' o):resR fuel r=resV fuel s' o:=by
  cases r with
  | ok v s=>cases h with
    | rend h=>cases h;rfl
  | over s k=>cases h with
    | rend h=>cases h;rfl
theorem rule_ref {fuel:Nat} {s:Sa} {t:AT} {e:En} {vs:List V} {s':Sa} {o:Out} (hs:SB s) (he:EB e) (hcs:∀ c ∈ s.codes,EB c.env) (hi:IdxOk s) (hkd:3≤t.h.kind∧t.h.kind≤10∨t.h.kind=15) (hv:vs.length=nk t.h.kind)
    (hr:RuleOut fuel (rule s t e vs) s' o) (hk:K (resV fuel s' o) σ):Ev PR 59 [sV fuel s O0,t.v,eV e,vsV vs] σ K kp:=by
  refine Ev.pureD hk ((resV_dat _ _ _).low _) fun k' hk'=>?_
  apply F59_ev;unfold F59
  simp [get_new]
  generalize hτ:AHeap.new _ (.cells 4 [[_,_,_,_]])=τ
  have hn:τ.next=σ.next+5:=by rw [← hτ];rfl
  have hg:Grows σ τ:=by rw [← hτ];exact ((((Grows.new _ _).trans (Grows.new _ _)).trans (Grows.new _ _)).trans (Grows.new _ _)).trans (Grows.new _ _)
  have g0:τ.get σ.next=some (.cells 11 [sC fuel s O0]):=by rw [← hτ];simp [get_new]
  have g1:τ.get (σ.next+1)=some (.cells 19 [t.av]):=by rw [← hτ];simp [get_new]
  have g2:τ.get (σ.next+2)=some (.cells 2 [eC e]):=by rw [← hτ];simp [get_new]
  have g3:τ.get (σ.next+3)=some (.cells 11 [z11]):=by rw [← hτ];simp [get_new]
  have g4:τ.get (σ.next+4)=some (.cells 4 [V.zero.av]):=by rw [← hτ];simp [get_new,V.av,V.zero]
  clear hτ
  have fin:∀ (s1:Sa) (o1:Out) (υ:AHeap),Grows σ υ→resV fuel s1 o1=resV fuel s' o→k' (.tup [sV fuel s1 o1,.agg (vO o1).av]) ((υ.set (σ.next+3) (.cells 11 [sC fuel s1 o1])).set (σ.next+4) (.cells 4 [(vO o1).av])):=fun s1 o1 υ h1 h2=>by
    have:=hk' _ ((h1.set (show σ.next≤σ.next+3 by omega) (.cells 11 [sC fuel s1 o1])).set (show σ.next≤σ.next+4 by omega) (.cells 4 [(vO o1).av]))
    rw [← h2] at this
    exact this
  have v0:0 < vs.length:=by rw [hv];exact nk_pos (by omega)
  obtain ⟨J,hJ⟩:∃ J:AFrame→AHeap→Prop,∀ fr φ,J fr φ↔fr=[(3,vsV vs),(4,.ptr σ.next 0 0),(5,.ptr (σ.next+1) 0 0),(8,.ptr (σ.next+3) 0 0),(9,.ptr (σ.next+4) 0 0),(10,u8 (kdOf t.h.kind))]∧φ=τ∧(t.h.kind=4∨t.h.kind=5∨t.h.kind=7∨t.h.kind=8∨t.h.kind=10):=⟨_,fun _ _=>Iff.rfl⟩
  refine seqW_by J ?_ ?_
  · by_cases k3:t.h.kind=3
    · have v1:1 < vs.length:=by rw [hv,k3];simp [nk]
      have hrule:rule s t e vs=(make s e t.rho ⟨1,at0 vs 0,at0 vs 1,0⟩).bind fun v s=>.ok (.val v) s:=by unfold rule;rw [if_pos k3]
      rw [hrule] at hr
      simp [g0,g1,g2,k3,vs_0 v0,vs_1 v1]
      refine cput_ref (c:=⟨1,at0 vs 0,at0 vs 1,0⟩) hs.len hs.cells he ?_
      have hm:=ruleOut_make hr
      cases hmk:make s e t.rho ⟨1,at0 vs 0,at0 vs 1,0⟩ with
      | ok v s1 =>
        rw [hmk] at hm
        simp [resR,g3,g4,get_set]
        exact fin s1 (.val v) τ hg hm
      | over s1 q =>
        rw [hmk] at hm
        simp [resR,g3,g4,get_set]
        exact fin s1 (.over q) τ hg hm
    by_cases k6:t.h.kind=6
    · have hrule:rule s t e vs=(make s e t.rho ⟨2,at0 vs 0,V.zero,0⟩).bind fun v s=>.ok (.val v) s:=by unfold rule;rw [if_neg k3,if_neg (by omega),if_neg (by omega),if_pos k6]
      rw [hrule] at hr
      simp [g0,g1,g2,k6,vs_0 v0]
      refine cput_ref (c:=⟨2,at0 vs 0,V.zero,0⟩) hs.len hs.cells he ?_
      have hm:=ruleOut_make hr
      cases hmk:make s e t.rho ⟨2,at0 vs 0,V.zero,0⟩ with
      | ok v s1 =>
        rw [hmk] at hm
        simp [resR,g3,g4,get_set]
        exact fin s1 (.val v) τ hg hm
      | over s1 q =>
        rw [hmk] at hm
        simp [resR,g3,g4,get_set]
        exact fin s1 (.over q) τ hg hm
    by_cases k4:t.h.kind=4
    · simp [g1,k4]
      refine seqW_in ?_
      simp
      exact (hJ _ _).2 ⟨by simp [kdOf,k4],rfl,.inl k4⟩
    by_cases k5:t.h.kind=5
    · simp [g1,k5]
      refine seqW_in ?_
      simp
      exact (hJ _ _).2 ⟨by simp [kdOf,k5],rfl,.inr (.inl k5)⟩
    by_cases k7:t.h.kind=7
    · simp [g1,k7]
      refine seqW_in ?_
      simp
      refine seqW_in ?_
      simp
      exact (hJ _ _).2 ⟨by simp [kdOf,k7],rfl,.inr (.inr (.inl k7))⟩
    by_cases k8:t.h.kind=8
    · simp [g1,k8]
      refine seqW_in ?_
      simp
      refine seqW_in ?_
      simp
      exact (hJ _ _).2 ⟨by simp [kdOf,k8],rfl,.inr (.inr (.inr (.inl k8)))⟩
    by_cases k10:t.h.kind=10
    · simp [g1,k10]
      refine seqW_in ?_
      simp
      refine seqW_in ?_
      simp
      exact (hJ _ _).2 ⟨by simp [kdOf,k10],rfl,.inr (.inr (.inr (.inr k10)))⟩
    by_cases k9:t.h.kind=9
    · have v1:1 < vs.length:=by rw [hv,k9];simp [nk]
      have hrule:rule s t e vs=(number s (at0 vs 0)).bind fun a s=>(number s (at0 vs 1)).bind fun b s=>.ok (.val (num (opF t.h.op a b))) s:=by
        unfold rule;rw [if_neg k3,if_neg k4,if_neg k5,if_neg k6,if_neg k7,if_neg k8,if_pos k9]
      rw [hrule] at hr
      simp [g1,k9]
      refine seqW_in ?_
      simp
      refine seqW_in ?_
      simp [vs_0 v0,vs_1 v1]
      by_cases n1:(at0 vs 0).kind=1
      · by_cases n2:(at0 vs 1).kind=1
        · have e1:number s (at0 vs 0)=.ok (at0 vs 0).n s:=by simp [number,n1]
          have e2:number s (at0 vs 1)=.ok (at0 vs 1).n s:=by simp [number,n2]
          rw [e1] at hr
          simp only [Re.bind] at hr
          rw [e2] at hr
          simp only [Re.bind] at hr
          have hm:resV fuel s (.val (num (opF t.h.op (at0 vs 0).n (at0 vs 1).n)))=resV fuel s' o:=by cases hr with | rend h=>cases h;rfl
          simp [n1,n2,g0,g1,vs_0 v0,vs_1 v1]
          refine opF_ref ?_
          simp [g0]
          refine num_ref ?_
          simp [g0,g3,g4,get_set]
          exact fin s (.val (num (opF t.h.op (at0 vs 0).n (at0 vs 1).n))) τ hg hm
        · have e1:number s (at0 vs 0)=.ok (at0 vs 0).n s:=by simp [number,n1]
          have e2:number s (at0 vs 1)=.over s 6:=by simp [number,n2]
          rw [e1] at hr
          simp only [Re.bind] at hr
          rw [e2] at hr
          have hm:resV fuel s (.over 6)=resV fuel s' o:=by cases hr with | rend h=>cases h;rfl
          simp [n1,n2,g0,vs_0 v0,vs_1 v1]
          refine over_ref ?_
          simp [g3,g4,get_set]
          exact fin s (.over 6) τ hg hm
      · have e1:number s (at0 vs 0)=.over s 6:=by simp [number,n1]
        rw [e1] at hr
        have hm:resV fuel s (.over 6)=resV fuel s' o:=by cases hr with | rend h=>cases h;rfl
        simp [n1,g0]
        refine over_ref ?_
        simp [g3,g4,get_set]
        exact fin s (.over 6) τ hg hm
    have k15:t.h.kind=15:=by omega
    have hrule:rule s t e vs=(number s (at0 vs 0)).bind fun a s=>.ok (.exn a t.h.exn) s:=by
      unfold rule;rw [if_neg k3,if_neg k4,if_neg k5,if_neg k6,if_neg k7,if_neg k8,if_neg k9,if_pos k15]
    rw [hrule] at hr
    simp [g1,k15]
    refine seqW_in ?_
    simp
    refine seqW_in ?_
    simp [vs_0 v0]
    by_cases n1:(at0 vs 0).kind=1
    · have e1:number s (at0 vs 0)=.ok (at0 vs 0).n s:=by simp [number,n1]
      rw [e1] at hr
      have hm:resV fuel s (.exn (at0 vs 0).n t.h.exn)=resV fuel s' o:=by cases hr with | rend h=>cases h;rfl
      have g0':τ.get σ.next=some (.cells 11 [[int s.store.R,int s.store.C,.sl false 2 (rowsV (avS s.store).L),int s.store.most,int fuel,int s.steps,.sl false 23 (s.codes.map coC),u8 0,bool false,str ByteArray.empty,int 0]]):=g0
      simp [n1,g0',g1,g3,g4,get_set,vs_0 v0]
      exact fin s (.exn (at0 vs 0).n t.h.exn) _ (((hg.set (Nat.le_refl _) _).set (Nat.le_refl _) _).set (Nat.le_refl _) _) hm
    · have e1:number s (at0 vs 0)=.over s 6:=by simp [number,n1]
      rw [e1] at hr
      have hm:resV fuel s (.over 6)=resV fuel s' o:=by cases hr with | rend h=>cases h;rfl
      simp [n1,g0]
      refine over_ref ?_
      simp [g3,g4,get_set]
      exact fin s (.over 6) τ hg hm
  · intro fr φ hj
    obtain ⟨rfl,rfl,hkt⟩:=(hJ _ _).1 hj
    have k3:t.h.kind ≠ 3:=by omega
    have k6:t.h.kind ≠ 6:=by omega
    have k9:t.h.kind ≠ 9:=by omega
    have k15:t.h.kind ≠ 15:=by omega
    obtain ⟨J2,hJ2⟩:∃ J2:AFrame→AHeap→Prop,∀ fr ω,J2 fr ω↔∃ (id:Nat) (c:Cl) (kk:Int),fr=[(3,vsV vs),(4,.ptr σ.next 0 0),(5,.ptr (σ.next+1) 0 0),(8,.ptr (σ.next+3) 0 0),(9,.ptr (σ.next+4) 0 0),(11,.ptr id 0 0),(12,u8 kk)]∧Grows φ ω∧φ.next≤id∧id < ω.next∧ω.get id=some (.cells 10 [c.av])∧(match take s (at0 vs 0) (kdOf t.h.kind) with | .ok c' _=>kk=0∧c'=c | .over _ k=>kk=k):=⟨_,fun _ _=>Iff.rfl⟩
    refine seqW_by J2 ?_ ?_
    · simp [g0,vs_0 v0]
      refine ⟨?_,?_⟩
      · refine ctake_ref (v:=at0 vs 0) (s:=s) ?_
        cases htk:take s (at0 vs 0) (kdOf t.h.kind) with
        | ok c s1 =>
          simp [g0,vs_0 v0,get_new,hn]
          exact (hJ2 _ _).2 ⟨σ.next+5,c,0,rfl,((Grows.new _ _).set (by omega) _),by omega,by simp [hn],by simp [get_set],by rw [htk];exact ⟨rfl,rfl⟩⟩
        | over s1 q =>
          intro c
          simp [g0,vs_0 v0,get_new,hn]
          exact (hJ2 _ _).2 ⟨σ.next+5,c,q,rfl,((Grows.new _ _).set (by omega) _),by omega,by simp [hn],by simp [get_set],by rw [htk]⟩
      · simp [g0,vs_0 v0,get_new,hn]
        refine ctake_ref (v:=at0 vs 0) (s:=s) ?_
        cases htk:take s (at0 vs 0) (kdOf t.h.kind) with
        | ok c s1 =>
          simp [g0,vs_0 v0,get_new,hn]
          exact (hJ2 _ _).2 ⟨σ.next+5,c,0,rfl,((Grows.new _ _).set (by omega) _),by omega,by simp [hn],by simp [get_set],by rw [htk];exact ⟨rfl,rfl⟩⟩
        | over s1 q =>
          intro c
          simp [g0,vs_0 v0,get_new,hn]
          exact (hJ2 _ _).2 ⟨σ.next+5,c,q,rfl,((Grows.new _ _).set (by omega) _),by omega,by simp [hn],by simp [get_set],by rw [htk]⟩
    · intro fr ω hj2
      obtain ⟨id,c,kk,rfl,wg,i1,i2,hid,htk⟩:=(hJ2 _ _).1 hj2
      have wn:=wg.next
      have w0:=(wg.get _ (by omega)).trans g0
      have w1:=(wg.get _ (by omega)).trans g1
      have w3:=(wg.get _ (by omega)).trans g3
      have w4:=(wg.get _ (by omega)).trans g4
      have hgw:=hg.trans wg
      have q0:id ≠ σ.next:=by omega
      have q3:id ≠ σ.next+3:=by omega
      have q4:id ≠ σ.next+4:=by omega
      cases hres:take s (at0 vs 0) (kdOf t.h.kind) with
      | over s1 q =>
        rw [hres] at htk
        obtain ⟨rfl,hq⟩:=take_over hres
        have htk:kk=q:=htk
        subst htk
        have hk0:¬ kk=0:=by omega
        have hm:resV fuel s1 (.over kk)=resV fuel s' o:=by
          have:rule s1 t e vs=.over s1 kk:=by
            unfold rule
            unfold kdOf at hres
            rw [if_neg k3,if_neg k6,if_neg k9,if_neg k15]
            rcases hkt with h | h | h | h | h <;> simp [h] at hres ⊢ <;> rw [hres] <;> rfl
          rw [this] at hr
          cases hr with | rend h=>cases h;rfl
        simp [hk0,w0]
        refine over_ref ?_
        simp [w3,w4,get_set]
        exact fin s1 (.over kk) ω hgw hm
      | ok c' s1 =>
        rw [hres] at htk
        obtain ⟨rfl,hck,hca,hfz⟩:=take_ok hres
        obtain ⟨rfl,rfl⟩:=htk
        by_cases k4:t.h.kind=4
        · have hm:resV fuel s1 (.val c'.a)=resV fuel s' o:=by
            have:rule s1 t e vs=.ok (.val c'.a) s1:=by
              unfold rule;unfold kdOf at hres
              simp [k4] at hres ⊢;rw [hres];rfl
            rw [this] at hr
            cases hr with | rend h=>cases h;rfl
          simp [w1,k4]
          refine seqW_in ?_
          simp [w0,w3,w4,hid,get_set,q0,q3,q4]
          exact fin s1 (.val c'.a) ω hgw hm
        by_cases k5:t.h.kind=5
        · have hm:resV fuel s1 (.val c'.b)=resV fuel s' o:=by
            have:rule s1 t e vs=.ok (.val c'.b) s1:=by
              unfold rule;unfold kdOf at hres
              simp [k5] at hres ⊢;rw [hres];rfl
            rw [this] at hr
            cases hr with | rend h=>cases h;rfl
          simp [w1,k5]
          refine seqW_in ?_
          simp [w0,w3,w4,hid,get_set,q0,q3,q4]
          exact fin s1 (.val c'.b) ω hgw hm
        by_cases k7:t.h.kind=7
        · have hm:resV fuel s1 (.val c'.a)=resV fuel s' o:=by
            have:rule s1 t e vs=.ok (.val c'.a) s1:=by
              unfold rule;unfold kdOf at hres
              simp [k7] at hres ⊢;rw [hres];rfl
            rw [this] at hr
            cases hr with | rend h=>cases h;rfl
          simp [w1,k7]
          refine seqW_in ?_
          simp [w0,w3,w4,hid,get_set,q0,q3,q4]
          exact fin s1 (.val c'.a) ω hgw hm
        by_cases k8:t.h.kind=8
        · have v1:1 < vs.length:=by rw [hv,k8];simp [nk]
          have hm:resV fuel { s1 with store:=setS s1.store (at0 vs 0) ⟨2,at0 vs 1,V.zero,0⟩ } (.val (num 0))=resV fuel s' o:=by
            have:rule s1 t e vs=.ok (.val (num 0)) { s1 with store:=setS s1.store (at0 vs 0) ⟨2,at0 vs 1,V.zero,0⟩ }:=by
              unfold rule;unfold kdOf at hres
              simp [k8] at hres ⊢;rw [hres];rfl
            rw [this] at hr
            cases hr with | rend h=>cases h;rfl
          simp [w1,k8]
          refine seqW_in ?_
          simp [w0,vs_0 v0,vs_1 v1]
          have hfd:=avS_find s1.store (at0 vs 0).kind (at0 vs 0).n (at0 vs 0).r (at0 vs 0).a
          refine Stk.set_ref (s:=avS s1.store) (kd:=(at0 vs 0).kind) (n:=(at0 vs 0).n) (r:=(at0 vs 0).r) (a:=(at0 vs 0).a) (cok _) (by rw [avS_len];have:=hs.len;omega) (by rw [avS_cells];have:=hs.cells;omega) (c:=Cl.av ⟨2,at0 vs 1,V.zero,0⟩) (cl_ok _) (fun hne=>?_) (fun h0 row ri i h1 h2 h3 h4=>?_)
          · rw [hfd] at hne;exact absurd hfz hne
          · rw [avS_set (c:=⟨2,at0 vs 1,V.zero,0⟩) h1 h2 h3]
            generalize setS s1.store (at0 vs 0) ⟨2,at0 vs 1,V.zero,0⟩=st at hm
            simp [w0]
            refine num_ref ?_
            simp [w3,w4,get_set]
            exact fin { s1 with store:=st } (.val (num 0)) _ (hgw.set (Nat.le_refl _) _) hm
        have k10:t.h.kind=10:=by omega
        have v1:1 < vs.length:=by rw [hv,k10];simp [nk]
        have hkd3:kdOf t.h.kind=3:=by simp [kdOf,k10]
        rw [hkd3] at hck hres
        obtain ⟨m,f,hcm,hfm⟩:∃ (m:Nat) (f:Co),c'.code=m∧s1.codes[m]?=some f:=by
          unfold cellAt at hca
          obtain ⟨row,hrw,hmm⟩:=Option.bind_eq_some_iff.1 hca
          obtain ⟨j,_,hL,_⟩:=SG.row_nat hrw
          obtain ⟨b1,b2⟩:=hi j row c' hL (List.mem_of_getElem? hmm) hck
          obtain ⟨f,hf⟩:=get_some (l:=s1.codes) (i:=c'.code.toNat) (by omega)
          exact ⟨c'.code.toNat,f,by omega,hf⟩
        have hef:=hcs f (List.mem_of_getElem? hfm)
        have hnode:NodeOk fuel s1 f.body (f.env.with f.arg (at0 vs 1) false) s' o:=by
          have:rule s1 t e vs=.ok (.node f.body (f.env.with f.arg (at0 vs 1) false)) s1:=by
            unfold rule
            rw [if_neg k3,if_neg k4,if_neg k5,if_neg k6,if_neg k7,if_neg k8,if_neg k9,if_neg k15,hres]
            simp [Re.bind,hcm,hfm]
          rw [this] at hr
          cases hr with
          | rend h=>cases h
          | call h=>exact h
        have hia2:∀ ω,aIndexAddr 23 (.sl false 23 (s1.codes.map coC)) (int m) ω=some (.ref (coC f)):=fun ω=>by rw [aIndexAddr_sl];simp [hfm]
        simp [w1,k10]
        refine seqW_in ?_
        have z0:σ.next ≠ ω.next:=by omega
        simp [w0,hid,hcm,hia2,get_new,get_set,vs_1 v1,z0]
        refine with_ref (by have:=hef.names;omega) ?_
        simp [w0,get_new,get_set,z0]
        refine hnode _ _ _ ?_
        have z3:σ.next+3 ≠ ω.next:=by omega
        have z4:σ.next+4 ≠ ω.next:=by omega
        simp [w3,w4,get_new,get_set,z3,z4]
        exact fin s' o _ (hgw.trans ((Grows.new _ _).set (Nat.le_refl _) _)) rfl
end Go.Abs.Mac
namespace Go.Abs.Mac
open Go Go.Abs Go.Abs.Stk Go.Abs.At Go.Proofs.DocD
variable {σ τ:AHeap} {K kp:AV→AHeap→Prop}
attribute [local simp] Nat.add_assoc
theorem sC_tick (fuel:Nat) (s:Sa) (o:Out):List.take 5 (sC fuel s o) ++ int ((s.steps:Int)+1) :: List.drop 6 (sC fuel s o)=sC fuel (tick s) o:=by
  have:(((tick s).steps:Nat):Int)=(s.steps:Int)+1:=by simp [tick]
  unfold sC
  rw [this];rfl
structure At5 (fuel:Nat) (s:Sa) (t:AT) (e:En) (n:Nat) (τ:AHeap):Prop where
  lt:n+5≤τ.next
  g0:τ.get n=some (.cells 11 [sC fuel s O0])
  g1:τ.get (n+1)=some (.cells 19 [t.av])
  g2:τ.get (n+2)=some (.cells 2 [eC e])
  g3:τ.get (n+3)=some (.cells 11 [z11])
  g4:τ.get (n+4)=some (.cells 4 [V.zero.av])
abbrev Br:=AV→AV→AV→AV→AV→AHeap→(AV→AHeap→Prop)→(AV→AHeap→Prop)→Prop
def pick (k:Int):Br :=
  if k=1 then N1 else if k=2 then N2 else if k=11 then N11 else if k=12 then N12 else if k=13 then N13 else if k=14 then N14 else if k=16 then N16 else if k=18 then N18 else NKids
theorem node_head {fuel:Nat} {s:Sa} {t:AT} {e:En} {R:AV} (hf:s.steps < fuel) (hfu:fuel≤1000000000) (hkd:t.h.kind ≠ 17) (hd:Dat R) (hk:K R σ)
    (h:∀ (τ:AHeap) (k':AV→AHeap→Prop),At5 fuel (tick s) t e σ.next τ→Grows σ τ→(∀ υ,Grows σ υ→k' R υ)→pick t.h.kind (.ptr σ.next 0 0) (.ptr (σ.next+1) 0 0) (.ptr (σ.next+2) 0 0) (.ptr (σ.next+3) 0 0) (.ptr (σ.next+4) 0 0) τ k' (fun _ _=>False)):Ev PR 31 [sV fuel s O0,t.v,eV e] σ K kp:=by
  refine Ev.pureD hk (hd.low _) fun k' hk'=>?_
  apply F31_ev;unfold F31
  simp [get_new]
  generalize hτ:AHeap.new _ (.cells 4 [[_,_,_,_]])=τ
  have hn:τ.next=σ.next+5:=by rw [← hτ];rfl
  have hg:Grows σ τ:=by rw [← hτ];exact ((((Grows.new _ _).trans (Grows.new _ _)).trans (Grows.new _ _)).trans (Grows.new _ _)).trans (Grows.new _ _)
  have g0:τ.get σ.next=some (.cells 11 [sC fuel s O0]):=by rw [← hτ];simp [get_new]
  have g1:τ.get (σ.next+1)=some (.cells 19 [t.av]):=by rw [← hτ];simp [get_new]
  have g2:τ.get (σ.next+2)=some (.cells 2 [eC e]):=by rw [← hτ];simp [get_new]
  have g3:τ.get (σ.next+3)=some (.cells 11 [z11]):=by rw [← hτ];simp [get_new]
  have g4:τ.get (σ.next+4)=some (.cells 4 [V.zero.av]):=by rw [← hτ];simp [get_new,V.av,V.zero]
  clear hτ
  have hfi:¬ ((fuel:Int)≤(s.steps:Int)):=by omega
  have hw:IntKind.i64.wrap ((s.steps:Int)+1)=s.steps+1:=wrap64 (by omega)
  simp [g0,g1,hkd,hfi]
  unfold NTail
  simp [g0,g1,hw,get_set,sC_tick]
  have:=h (τ.set σ.next (.cells 11 [sC fuel (tick s) O0])) k' ⟨by simp [hn],by simp [get_set],by simp [get_set,g1],by simp [get_set,g2],by simp [get_set,g3],by simp [get_set,g4]⟩ (hg.set (Nat.le_refl _) _) hk'
  have hfi':¬ fuel≤s.steps:=by omega
  by_cases k1:t.h.kind=1
  · simp [hfi',k1,pick] at this ⊢;exact this
  by_cases k2:t.h.kind=2
  · simp [hfi',k2,pick] at this ⊢;exact this
  by_cases k11:t.h.kind=11
  · simp [hfi',k11,pick] at this ⊢;exact this
  by_cases k12:t.h.kind=12
  · simp [hfi',k12,pick] at this ⊢;exact this
  by_cases k13:t.h.kind=13
  · simp [hfi',k13,pick] at this ⊢;exact this
  by_cases k14:t.h.kind=14
  · simp [hfi',k14,pick] at this ⊢;exact this
  by_cases k16:t.h.kind=16
  · simp [hfi',k16,pick] at this ⊢;exact this
  by_cases k18:t.h.kind=18
  · simp [hfi',k18,pick] at this ⊢;exact this
  simp [hfi',k1,k2,k11,k12,k13,k14,k16,k18,pick] at this ⊢;exact this
theorem node_17 {fuel:Nat} {s:Sa} {t:AT} {e:En} {R:AV} (hkd:t.h.kind=17) (hd:Dat R) (hR:∃ s' o,R=resV fuel s' o)
    (h:∀ (τ:AHeap) (k1 kp1:AV→AHeap→Prop),k1 R τ→Ev PR 50 [sV fuel s O0,t.v,eV e] τ k1 kp1) (hk:K R σ):Ev PR 31 [sV fuel s O0,t.v,eV e] σ K kp:=by
  refine Ev.pureD hk (hd.low _) fun k' hk'=>?_
  apply F31_ev;unfold F31
  simp [get_new]
  generalize hτ:AHeap.new _ (.cells 4 [[_,_,_,_]])=τ
  have hn:τ.next=σ.next+5:=by rw [← hτ];rfl
  have hg:Grows σ τ:=by rw [← hτ];exact ((((Grows.new _ _).trans (Grows.new _ _)).trans (Grows.new _ _)).trans (Grows.new _ _)).trans (Grows.new _ _)
  have g0:τ.get σ.next=some (.cells 11 [sC fuel s O0]):=by rw [← hτ];simp [get_new]
  have g1:τ.get (σ.next+1)=some (.cells 19 [t.av]):=by rw [← hτ];simp [get_new]
  have g2:τ.get (σ.next+2)=some (.cells 2 [eC e]):=by rw [← hτ];simp [get_new]
  have g3:τ.get (σ.next+3)=some (.cells 11 [z11]):=by rw [← hτ];simp [get_new]
  have g4:τ.get (σ.next+4)=some (.cells 4 [V.zero.av]):=by rw [← hτ];simp [get_new,V.av,V.zero]
  clear hτ
  simp [g0,g1,hkd]
  unfold N17
  simp [g0,g1,g2]
  obtain ⟨s',o,rfl⟩:=hR
  refine h _ _ _ ?_
  simp [g3,g4,get_set]
  exact hk' _ ((hg.set (by omega) _).set (by omega) _)
theorem node_fuel {fuel:Nat} {s:Sa} {t:AT} {e:En} (hf:fuel≤s.steps) (hkd:t.h.kind ≠ 17):NodeOk fuel s t e s (.over 3):=by
  intro σ K kp hk
  refine Ev.pureD hk ((resV_dat _ _ _).low _) fun k' hk'=>?_
  apply F31_ev;unfold F31
  simp [get_new]
  generalize hτ:AHeap.new _ (.cells 4 [[_,_,_,_]])=τ
  have hn:τ.next=σ.next+5:=by rw [← hτ];rfl
  have hg:Grows σ τ:=by rw [← hτ];exact ((((Grows.new _ _).trans (Grows.new _ _)).trans (Grows.new _ _)).trans (Grows.new _ _)).trans (Grows.new _ _)
  have g0:τ.get σ.next=some (.cells 11 [sC fuel s O0]):=by rw [← hτ];simp [get_new]
  have g1:τ.get (σ.next+1)=some (.cells 19 [t.av]):=by rw [← hτ];simp [get_new]
  have g3:τ.get (σ.next+3)=some (.cells 11 [z11]):=by rw [← hτ];simp [get_new]
  have g4:τ.get (σ.next+4)=some (.cells 4 [V.zero.av]):=by rw [← hτ];simp [get_new,V.av,V.zero]
  clear hτ
  simp [g0,g1,hkd,hf]
  unfold NFuel
  simp [g0]
  refine over_ref ?_
  simp [g3,g4,get_set]
  exact hk' _ ((hg.set (by omega) _).set (by omega) _)
theorem At5.end_ {fuel:Nat} {s:Sa} {t:AT} {e:En} {n:Nat} {k':AV→AHeap→Prop} {s':Sa} {o:Out} {σ:AHeap} (hn:σ.next≤n) (hk':∀ υ,Grows σ υ→k' (resV fuel s' o) υ) {υ:AHeap} (h:Grows σ υ):k' (resV fuel s' o) ((υ.set (n+3) (.cells 11 [sC fuel s' o])).set (n+4) (.cells 4 [(vO o).av])) :=
  hk' _ ((h.set (by omega) _).set (by omega) _)
section
variable {fuel:Nat} {s s':Sa} {t:AT} {e:En} {o:Out} {k':AV→AHeap→Prop} {σ:AHeap}
theorem b_1 (h:At5 fuel s t e σ.next τ) (hg:Grows σ τ) (hk':∀ υ,Grows σ υ→k' (resV fuel s (.val (num t.h.n))) υ):N1 (.ptr σ.next 0 0) (.ptr (σ.next+1) 0 0) (.ptr (σ.next+2) 0 0) (.ptr (σ.next+3) 0 0) (.ptr (σ.next+4) 0 0) τ k' kp:=by
  obtain ⟨lt,g0,g1,g2,g3,g4⟩:=h
  unfold N1
  simp [g0,g1]
  refine num_ref ?_
  simp [g0,g3,g4,get_set]
  exact At5.end_ (e:=e) (t:=t) (s:=s) (Nat.le_refl _) hk' hg
end
end Go.Abs.Mac
namespace Go.Abs.Mac
open Go Go.Abs Go.Abs.Stk Go.Abs.At Go.Proofs.DocD
variable {σ τ:AHeap} {K kp:AV→AHeap→Prop}
attribute [local simp] Nat.add_assoc
variable {fuel:Nat} {s s':Sa} {t:AT} {e:En} {o:Out} {k':AV→AHeap→Prop} {σ:AHeap}
def leaf2 (s:Sa) (t:AT) (e:En):Re V :=
    match e.find t.h.name with
    | some n=>if n.fn=true then .over s 6 else .ok n.v s
    | none=>.over s 6
theorem b_2 (he:EB e) (h:At5 fuel s t e σ.next τ) (hg:Grows σ τ) (hk':∀ υ,Grows σ υ→k' (resR fuel (leaf2 s t e)) υ):N2 (.ptr σ.next 0 0) (.ptr (σ.next+1) 0 0) (.ptr (σ.next+2) 0 0) (.ptr (σ.next+3) 0 0) (.ptr (σ.next+4) 0 0) τ k' kp:=by
  obtain ⟨lt,g0,g1,g2,g3,g4⟩:=h
  unfold N2
  simp [g0,g1,g2]
  refine find_ref (by have:=he.names;omega) ?_
  unfold leaf2 at hk'
  cases hfd:e.find t.h.name with
  | none =>
    rw [hfd] at hk'
    simp [g0]
    refine over_ref ?_
    simp [g3,g4,get_set]
    exact At5.end_ (e:=e) (t:=t) (s:=s) (o:=.over 6) (Nat.le_refl _) hk' hg
  | some n =>
    intro i hi
    rw [hfd] at hk'
    have hia:∀ ω,aIndexAddr 6 (.sl false 6 (e.names.map nmC).reverse) (int i) ω=some (.ref (nmC n)):=fun ω=>by rw [aIndexAddr_sl];simp [← List.map_reverse,hi]
    have t0:(eC e).head?=some (.sl false 6 (e.names.map nmC).reverse):=rfl
    have n5:(nmC n)[5]?=some (bool n.fn):=rfl
    have n1:List.take 4 (List.drop 1 (nmC n))=n.v.av:=rfl
    have nl:(nmC n).length=6:=rfl
    have n5':∀ h:5 < (nmC n).length,(nmC n)[5]'h=bool n.fn:=fun _=>rfl
    have hi0:¬ ((i:Int) < 0):=by omega
    by_cases hfn:n.fn=true
    · simp [hfn] at hk'
      simp [hi0,g0,g2,t0,hia,n5,n5',nl,hfn]
      refine over_ref ?_
      simp [g3,g4,get_set]
      exact At5.end_ (e:=e) (t:=t) (s:=s) (o:=.over 6) (Nat.le_refl _) hk' hg
    · simp [hfn] at hk'
      simp [hi0,g0,g2,t0,hia,n5,n5',nl,n1,hfn,g3,g4,get_set]
      exact At5.end_ (e:=e) (t:=t) (s:=s) (o:=.val n.v) (Nat.le_refl _) hk' hg
theorem b_11 (hs:SB s) (he:EB e) (hkl:0 < t.kids.length) (h:At5 fuel s t e σ.next τ) (hg:Grows σ τ) (hk':∀ υ,Grows σ υ→k' (resR fuel (code s e t.rho ⟨kidAt t 0,t.h.arg,e,none⟩)) υ):N11 (.ptr σ.next 0 0) (.ptr (σ.next+1) 0 0) (.ptr (σ.next+2) 0 0) (.ptr (σ.next+3) 0 0) (.ptr (σ.next+4) 0 0) τ k' kp:=by
  obtain ⟨lt,g0,g1,g2,g3,g4⟩:=h
  unfold N11
  simp [g0,g1,g2,kid_addr0 hkl,build_co]
  refine Ev.weak (args':=[sV fuel s O0,eV e,int t.rho,.agg (coC ⟨kidAt t 0,t.h.arg,e,none⟩)]) (.cons (.refl _) (.cons (.refl _) (.cons (.refl _) (.cons (coN_fz _ _ _).agg .nil)))) ?_
  refine ccode_ref hs he ?_
  cases hr:code s e t.rho ⟨kidAt t 0,t.h.arg,e,none⟩ with
  | ok v s' =>
    rw [hr] at hk'
    simp [resR,g3,g4,get_set]
    exact At5.end_ (e:=e) (t:=t) (s:=s) (o:=.val v) (Nat.le_refl _) hk' hg
  | over s' k =>
    rw [hr] at hk'
    simp [resR,g3,g4,get_set]
    exact At5.end_ (e:=e) (t:=t) (s:=s) (o:=.over k) (Nat.le_refl _) hk' hg
theorem b_18 (hs:SB s) (he:EB e) (hcs:∀ c ∈ s.codes,EB c.env) (hi:IdxOk s) (hrh:t.rhos.length≤1000000) (h:At5 fuel s t e σ.next τ) (hg:Grows σ τ) (hk':∀ υ,Grows σ υ→k' (resR fuel (inst s t e)) υ):N18 (.ptr σ.next 0 0) (.ptr (σ.next+1) 0 0) (.ptr (σ.next+2) 0 0) (.ptr (σ.next+3) 0 0) (.ptr (σ.next+4) 0 0) τ k' kp:=by
  obtain ⟨lt,g0,g1,g2,g3,g4⟩:=h
  unfold N18
  simp [g0,g1,g2]
  refine inst_ref hs he hcs hi hrh ?_
  cases hr:inst s t e with
  | ok v s' =>
    rw [hr] at hk'
    simp [resR,g3,g4,get_set]
    exact At5.end_ (e:=e) (t:=t) (s:=s) (o:=.val v) (Nat.le_refl _) hk' hg
  | over s' k =>
    rw [hr] at hk'
    simp [resR,g3,g4,get_set]
    exact At5.end_ (e:=e) (t:=t) (s:=s) (o:=.over k) (Nat.le_refl _) hk' hg
theorem pick_kids {k:Int} (h:3≤k∧k≤10∨k=15):pick k=NKids:=by
  unfold pick
  repeat rw [if_neg (by omega)]
theorem b_stop {vs:List V} (hl:t.kids.length≤10) (h:At5 fuel s t e σ.next τ) (hg:Grows σ τ) (hr:KR fuel e t.kids s s' o vs) (ho:¬ o.isVal) (h0:∀ k,o=.over k→k ≠ 0) (hk':∀ υ,Grows σ υ→k' (resV fuel s' o) υ):NKids (.ptr σ.next 0 0) (.ptr (σ.next+1) 0 0) (.ptr (σ.next+2) 0 0) (.ptr (σ.next+3) 0 0) (.ptr (σ.next+4) 0 0) τ k' kp:=by
  obtain ⟨lt,g0,g1,g2,g3,g4⟩:=h
  unfold NKids
  simp [g0,g1,g2]
  refine kids_ref hl hr ?_
  simp [g0,get_set]
  refine stop_ref h0 fun b hb=>?_
  have hbt:b=true:=by
    cases b with
    | true=>rfl
    | false=>exact absurd (hb.1 rfl) ho
  subst hbt
  have hv:vO o=V.zero:=by cases o <;> simp_all [Out.isVal,vO]
  simp [g3,g4,get_set]
  have:=At5.end_ (e:=e) (t:=t) (s:=s) (Nat.le_refl _) hk' (hg.set (Nat.le_refl σ.next) (.cells 11 [sC fuel s' o]))
  simp only [resV,hv] at this
  exact this
theorem b_rule {vs:List V} {s1:Sa} (hkd:3≤t.h.kind∧t.h.kind≤10∨t.h.kind=15) (hv:vs.length=nk t.h.kind) (hl:t.kids.length≤10) (h:At5 fuel s t e σ.next τ) (hg:Grows σ τ) (hr:KR fuel e t.kids s s1 O0 vs)
    (hs:SB s1) (he:EB e) (hcs:∀ c ∈ s1.codes,EB c.env) (hi:IdxOk s1) (hru:RuleOut fuel (rule s1 t e vs) s' o) (hk':∀ υ,Grows σ υ→k' (resV fuel s' o) υ):NKids (.ptr σ.next 0 0) (.ptr (σ.next+1) 0 0) (.ptr (σ.next+2) 0 0) (.ptr (σ.next+3) 0 0) (.ptr (σ.next+4) 0 0) τ k' kp:=by
  obtain ⟨lt,g0,g1,g2,g3,g4⟩:=h
  unfold NKids
  simp [g0,g1,g2]
  refine kids_ref hl hr ?_
  simp [g0,get_set]
  refine stop_ref (o:=O0) (by simp) fun b hb=>?_
  have hbf:b=false:=hb.2 trivial
  subst hbf
  simp [g0,g1,g2,get_set]
  refine rule_ref hs he hcs hi hkd hv hru ?_
  simp [g3,g4,get_set]
  exact At5.end_ (e:=e) (t:=t) (s:=s) (Nat.le_refl _) hk' (hg.set (Nat.le_refl σ.next) _)
end Go.Abs.Mac
namespace Go.Abs.Mac
open Go Go.Abs Go.Abs.Stk Go.Abs.At Go.Proofs.DocD
variable {σ τ:AHeap} {K kp:AV→AHeap→Prop}
attribute [local simp] Nat.add_assoc
variable {fuel:Nat} {s s' s1:Sa} {t:AT} {e:En} {o o1:Out} {k':AV→AHeap→Prop} {σ:AHeap} {n:Nat}
@[simp] theorem vO_val (v:V):vO (.val v)=v:=nr rfl
structure Aft (fuel:Nat) (s1:Sa) (o1:Out) (n a b:Nat) (τ υ:AHeap):Prop where
  gr:Grows τ υ
  a0:τ.next≤a
  b0:τ.next≤b
  a1:a < υ.next
  b1:b < υ.next
  ab:a ≠ b
  ga:υ.get a=some (.cells 11 [sC fuel s1 o1])
  gb:υ.get b=some (.cells 4 [(vO o1).av])
theorem o_12 {na nb:Nat} {j:AFrame→AHeap→Prop} (h:At5 fuel s t e n τ) (hkl:0 < t.kids.length) (hnode:NodeOk fuel s (kidAt t 0) e s1 o1)
    (hj:∀ a b υ,Aft fuel s1 o1 n a b τ υ→j [(4,.ptr (n+1) 0 0),(5,.ptr (n+2) 0 0),(6,.ptr (n+3) 0 0),(7,.ptr (n+4) 0 0),(na,.ptr a 0 0),(nb,.ptr b 0 0)] υ):N12O na nb j (.ptr n 0 0) (.ptr (n+1) 0 0) (.ptr (n+2) 0 0) (.ptr (n+3) 0 0) (.ptr (n+4) 0 0) τ kp:=by
  obtain ⟨lt,f0,f1,f2,f3,f4⟩:=h
  have m0:n ≠ τ.next:=by omega
  have m1:n+1 ≠ τ.next:=by omega
  have m2:n+2 ≠ τ.next:=by omega
  have m0':n ≠ τ.next+1:=by omega
  have m1':n+1 ≠ τ.next+1:=by omega
  have m2':n+2 ≠ τ.next+1:=by omega
  have mk:∀ (a b:Nat) (ω:AHeap),τ.next≤a→τ.next≤b→a ≠ b→a < ω.next→b < ω.next→Grows τ ω→j [(4,.ptr (n+1) 0 0),(5,.ptr (n+2) 0 0),(6,.ptr (n+3) 0 0),(7,.ptr (n+4) 0 0),(na,.ptr a 0 0),(nb,.ptr b 0 0)] ((ω.set a (.cells 11 [sC fuel s1 o1])).set b (.cells 4 [(vO o1).av])):=fun a b ω h1 h2 h3 h4 h5 h6 =>
    hj _ _ _ ⟨(h6.set h1 _).set h2 _,h1,h2,h4,h5,h3,by simp [get_set,h3],by simp [get_set]⟩
  have fin1:=fun ω h6 h4 h5=>mk τ.next (τ.next+1) ω (Nat.le_refl _) (Nat.le_succ _) (by omega) h4 h5 h6
  have fin2:=fun ω h6 h4 h5=>mk (τ.next+1) τ.next ω (Nat.le_succ _) (Nat.le_refl _) (by omega) h4 h5 h6
  have g2n:∀ (x y:AObj),Grows τ ((τ.new x).new y):=fun x y=>(Grows.new _ _).trans (Grows.new _ _)
  unfold N12O
  simp [f0,f1,f2,kid_addr0 hkl]
  refine ⟨?_,?_,?_,?_,?_,?_⟩
  · refine hnode _ _ _ ?_
    simp [f0,f1,f2,kid_addr0 hkl,get_new,get_set,m0,m1,m2,m0',m1',m2']
    exact fin1 _ (g2n _ _) (by simp) (by simp)
  · refine hnode _ _ _ ?_
    simp [f0,f1,f2,kid_addr0 hkl,get_new,get_set,m0,m1,m2,m0',m1',m2']
    exact fin2 _ (g2n _ _) (by simp) (by simp)
  · simp [f0,f1,f2,kid_addr0 hkl,get_new,get_set,m0,m1,m2,m0',m1',m2']
    refine hnode _ _ _ ?_
    simp [f0,f1,f2,kid_addr0 hkl,get_new,get_set,m0,m1,m2,m0',m1',m2']
    exact fin1 _ (g2n _ _) (by simp) (by simp)
  · simp [f0,f1,f2,kid_addr0 hkl,get_new,get_set,m0,m1,m2,m0',m1',m2']
    refine hnode _ _ _ ?_
    simp [f0,f1,f2,kid_addr0 hkl,get_new,get_set,m0,m1,m2,m0',m1',m2']
    exact fin1 _ (g2n _ _) (by simp) (by simp)
  · simp [f0,f1,f2,kid_addr0 hkl,get_new,get_set,m0,m1,m2,m0',m1',m2']
    refine hnode _ _ _ ?_
    simp [f0,f1,f2,kid_addr0 hkl,get_new,get_set,m0,m1,m2,m0',m1',m2']
    exact fin2 _ (g2n _ _) (by simp) (by simp)
  · simp [f0,f1,f2,kid_addr0 hkl,get_new,get_set,m0,m1,m2,m0',m1',m2']
    refine hnode _ _ _ ?_
    simp [f0,f1,f2,kid_addr0 hkl,get_new,get_set,m0,m1,m2,m0',m1',m2']
    exact fin2 _ (g2n _ _) (by simp) (by simp)
structure Beh (fuel:Nat) (s1:Sa) (o1:Out) (t:AT) (e:En) (n a b:Nat) (υ:AHeap):Prop where
  g1:υ.get (n+1)=some (.cells 19 [t.av])
  g2:υ.get (n+2)=some (.cells 2 [eC e])
  g3:υ.get (n+3)=some (.cells 11 [z11])
  g4:υ.get (n+4)=some (.cells 4 [V.zero.av])
  ga:υ.get a=some (.cells 11 [sC fuel s1 o1])
  gb:υ.get b=some (.cells 4 [(vO o1).av])
  a3:a ≠ n+3
  a4:a ≠ n+4
  b3:b ≠ n+3
  b4:b ≠ n+4
  a1:a ≠ n+1
  a2:a ≠ n+2
  ab:a ≠ b
  lt:n+5≤υ.next
  an:a < υ.next
  bn:b < υ.next
  na:n+5≤a
  nb:n+5≤b
theorem At5.beh {a b:Nat} {υ:AHeap} (h:At5 fuel s t e n τ) (hA:Aft fuel s1 o1 n a b τ υ):Beh fuel s1 o1 t e n a b υ:=by
  obtain ⟨lt,f0,f1,f2,f3,f4⟩:=h
  have:=hA.gr.next
  have:=hA.a0
  have:=hA.b0
  exact ⟨(hA.gr.get _ (by omega)).trans f1,(hA.gr.get _ (by omega)).trans f2,(hA.gr.get _ (by omega)).trans f3,(hA.gr.get _ (by omega)).trans f4,hA.ga,hA.gb,by omega,by omega,by omega,by omega,by omega,by omega,hA.ab,by omega,hA.a1,hA.b1,by omega,by omega⟩
theorem stop_t {K' kp':AV→AHeap→Prop} (ho:¬ o.isVal) (h0:∀ k,o=.over k→k ≠ 0) (hk:K' (bool true) τ):Ev PR 55 [sV fuel s o] τ K' kp':=by
  refine stop_ref h0 fun b hb=>?_
  cases b with
  | true=>exact hk
  | false=>exact absurd (hb.1 rfl) ho
theorem stop_f {K' kp':AV→AHeap→Prop} {v:V} (hk:K' (bool false) τ):Ev PR 55 [sV fuel s (.val v)] τ K' kp':=by
  refine stop_ref (o:=.val v) (by simp) fun b hb=>?_
  have:b=false:=hb.2 trivial
  subst this;exact hk
theorem b_12s (h:At5 fuel s t e σ.next τ) (hg:Grows σ τ) (hkl:0 < t.kids.length) (hnode:NodeOk fuel s (kidAt t 0) e s1 o1) (ho:¬ o1.isVal) (h0:∀ k,o1=.over k→k ≠ 0)
    (hk':∀ υ,Grows σ υ→k' (resV fuel s1 o1) υ):N12 (.ptr σ.next 0 0) (.ptr (σ.next+1) 0 0) (.ptr (σ.next+2) 0 0) (.ptr (σ.next+3) 0 0) (.ptr (σ.next+4) 0 0) τ k' kp:=by
  unfold N12
  refine seqW_in ?_
  refine o_12 h hkl hnode fun a b υ hA=>?_
  obtain ⟨g1,g2,g3,g4,ga,gb,a3,a4,b3,b4,a1,a2,ab,lt,an,bn,na,nb⟩:=h.beh hA
  unfold N12J
  simp [ga]
  refine stop_t ho h0 ?_
  simp [ga,gb,g3,g4,get_set,a3,a4,b3,b4]
  exact At5.end_ (e:=e) (t:=t) (s:=s) (Nat.le_refl _) hk' (hg.trans hA.gr)
theorem b_12 {v:V} (he:EB e) (h:At5 fuel s t e σ.next τ) (hg:Grows σ τ) (hkl:1 < t.kids.length) (hnode:NodeOk fuel s (kidAt t 0) e s1 (.val v)) (hnode':NodeOk fuel s1 (kidAt t 1) (e.with t.h.name v false) s' o)
    (hk':∀ υ,Grows σ υ→k' (resV fuel s' o) υ):N12 (.ptr σ.next 0 0) (.ptr (σ.next+1) 0 0) (.ptr (σ.next+2) 0 0) (.ptr (σ.next+3) 0 0) (.ptr (σ.next+4) 0 0) τ k' kp:=by
  unfold N12
  refine seqW_in ?_
  refine o_12 h (by omega) hnode fun a b υ hA=>?_
  obtain ⟨g1,g2,g3,g4,ga,gb,a3,a4,b3,b4,a1,a2,ab,lt,an,bn,na,nb⟩:=h.beh hA
  unfold N12J
  simp [ga]
  refine stop_f ?_
  have k1:∀ ω,aIndexAddr 19 (AT.vs t.kids) (int 1) ω=some (.ref (kidAt t 1).av):=fun ω=>kid_addr hkl ω
  simp [ga,gb,g1,g2,k1]
  refine with_ref (by have:=he.names;omega) ?_
  simp [ga,gb,g1,g2,k1]
  refine hnode' _ _ _ ?_
  simp [g3,g4,get_set]
  exact At5.end_ (e:=e) (t:=t) (s:=s) (Nat.le_refl _) hk' (hg.trans hA.gr)
theorem b_14s (h:At5 fuel s t e σ.next τ) (hg:Grows σ τ) (hkl:0 < t.kids.length) (hnode:NodeOk fuel s (kidAt t 0) e s1 o1) (ho:¬ o1.isVal) (h0:∀ k,o1=.over k→k ≠ 0)
    (hk':∀ υ,Grows σ υ→k' (resV fuel s1 o1) υ):N14 (.ptr σ.next 0 0) (.ptr (σ.next+1) 0 0) (.ptr (σ.next+2) 0 0) (.ptr (σ.next+3) 0 0) (.ptr (σ.next+4) 0 0) τ k' kp:=by
  unfold N14
  refine seqW_in ?_
  refine o_12 h hkl hnode fun a b υ hA=>?_
  obtain ⟨g1,g2,g3,g4,ga,gb,a3,a4,b3,b4,a1,a2,ab,lt,an,bn,na,nb⟩:=h.beh hA
  unfold N14J
  simp [ga]
  refine stop_t ho h0 ?_
  simp [ga,gb,g3,g4,get_set,a3,a4,b3,b4]
  exact At5.end_ (e:=e) (t:=t) (s:=s) (Nat.le_refl _) hk' (hg.trans hA.gr)
theorem b_14k {v:V} (h:At5 fuel s t e σ.next τ) (hg:Grows σ τ) (hkl:0 < t.kids.length) (hnode:NodeOk fuel s (kidAt t 0) e s1 (.val v)) (hv:v.kind ≠ 1)
    (hk':∀ υ,Grows σ υ→k' (resV fuel s1 (.over 6)) υ):N14 (.ptr σ.next 0 0) (.ptr (σ.next+1) 0 0) (.ptr (σ.next+2) 0 0) (.ptr (σ.next+3) 0 0) (.ptr (σ.next+4) 0 0) τ k' kp:=by
  unfold N14
  refine seqW_in ?_
  refine o_12 h hkl hnode fun a b υ hA=>?_
  obtain ⟨g1,g2,g3,g4,ga,gb,a3,a4,b3,b4,a1,a2,ab,lt,an,bn,na,nb⟩:=h.beh hA
  unfold N14J
  simp [ga]
  refine stop_f ?_
  simp [ga,gb,hv]
  refine over_ref ?_
  simp [g3,g4,get_set]
  exact At5.end_ (e:=e) (t:=t) (s:=s) (o:=.over 6) (Nat.le_refl _) hk' (hg.trans hA.gr)
theorem b_14 {v:V} (h:At5 fuel s t e σ.next τ) (hg:Grows σ τ) (hkl:2 < t.kids.length) (hnode:NodeOk fuel s (kidAt t 0) e s1 (.val v)) (hv:v.kind=1) (hnode':NodeOk fuel s1 (kidAt t (if v.n ≠ 0 then 1 else 2)) e s' o)
    (hk':∀ υ,Grows σ υ→k' (resV fuel s' o) υ):N14 (.ptr σ.next 0 0) (.ptr (σ.next+1) 0 0) (.ptr (σ.next+2) 0 0) (.ptr (σ.next+3) 0 0) (.ptr (σ.next+4) 0 0) τ k' kp:=by
  unfold N14
  refine seqW_in ?_
  refine o_12 h (by omega) hnode fun a b υ hA=>?_
  obtain ⟨g1,g2,g3,g4,ga,gb,a3,a4,b3,b4,a1,a2,ab,lt,an,bn,na,nb⟩:=h.beh hA
  unfold N14J
  simp [ga]
  refine stop_f ?_
  have k1:∀ ω,aIndexAddr 19 (AT.vs t.kids) (int 1) ω=some (.ref (kidAt t 1).av):=fun ω=>kid_addr (show 1 < t.kids.length by omega) ω
  have k2:∀ ω,aIndexAddr 19 (AT.vs t.kids) (int 2) ω=some (.ref (kidAt t 2).av):=fun ω=>kid_addr hkl ω
  by_cases hv0:v.n=0
  · rw [if_neg (by simp [hv0])] at hnode'
    simp [ga,gb,hv,hv0,g1,g2,k2]
    refine hnode' _ _ _ ?_
    simp [g3,g4,get_set]
    exact At5.end_ (e:=e) (t:=t) (s:=s) (Nat.le_refl _) hk' (hg.trans hA.gr)
  · rw [if_pos hv0] at hnode'
    simp [ga,gb,hv,hv0,g1,g2,k1]
    refine hnode' _ _ _ ?_
    simp [g3,g4,get_set]
    exact At5.end_ (e:=e) (t:=t) (s:=s) (Nat.le_refl _) hk' (hg.trans hA.gr)
theorem b_16n (h:At5 fuel s t e σ.next τ) (hg:Grows σ τ) (hkl:0 < t.kids.length) (hnode:NodeOk fuel s (kidAt t 0) e s1 o1) (ho:∀ n,o1 ≠ .exn n t.h.exn) (h0:∀ k,o1=.over k→k ≠ 0)
    (hk':∀ υ,Grows σ υ→k' (resV fuel s1 o1) υ):N16 (.ptr σ.next 0 0) (.ptr (σ.next+1) 0 0) (.ptr (σ.next+2) 0 0) (.ptr (σ.next+3) 0 0) (.ptr (σ.next+4) 0 0) τ k' kp:=by
  unfold N16
  refine seqW_in ?_
  refine o_12 h hkl hnode fun a b υ hA=>?_
  obtain ⟨g1,g2,g3,g4,ga,gb,a3,a4,b3,b4,a1,a2,ab,lt,an,bn,na,nb⟩:=h.beh hA
  have fin:=At5.end_ (e:=e) (t:=t) (s:=s) (Nat.le_refl _) hk' (hg.trans hA.gr)
  unfold N16J
  cases o1 with
  | val v =>
    simp [ga,gb,g3,g4,get_set,a3,a4,b3,b4,endO,raisesO]
    exact fin
  | over q =>
    have hq:=h0 q rfl
    simp [ga,gb,g3,g4,get_set,a3,a4,b3,b4,endO,raisesO,hq]
    exact fin
  | exn m x =>
    have hx:x ≠ t.h.exn:=fun hx=>ho m (by rw [hx])
    simp [ga,gb,g1,g3,g4,get_set,a3,a4,b3,b4,endO,raisesO,exnO,hx]
    exact fin
theorem b_16 {m:Int} (he:EB e) (h:At5 fuel s t e σ.next τ) (hg:Grows σ τ) (hkl:1 < t.kids.length) (hnode:NodeOk fuel s (kidAt t 0) e s1 (.exn m t.h.exn)) (hnode':NodeOk fuel s1 (kidAt t 1) (e.with t.h.arg (num m) false) s' o)
    (hk':∀ υ,Grows σ υ→k' (resV fuel s' o) υ):N16 (.ptr σ.next 0 0) (.ptr (σ.next+1) 0 0) (.ptr (σ.next+2) 0 0) (.ptr (σ.next+3) 0 0) (.ptr (σ.next+4) 0 0) τ k' kp:=by
  unfold N16
  refine seqW_in ?_
  refine o_12 h (by omega) hnode fun a b υ hA=>?_
  obtain ⟨g1,g2,g3,g4,ga,gb,a3,a4,b3,b4,a1,a2,ab,lt,an,bn,na,nb⟩:=h.beh hA
  unfold N16J
  have k1:∀ ω,aIndexAddr 19 (AT.vs t.kids) (int 1) ω=some (.ref (kidAt t 1).av):=fun ω=>kid_addr hkl ω
  have ga':υ.get a=some (.cells 11 [[int s1.store.R,int s1.store.C,.sl false 2 (rowsV (avS s1.store).L),int s1.store.most,int fuel,int s1.steps,.sl false 23 (s1.codes.map coC),u8 0,bool true,str t.h.exn,int m]]):=ga
  simp [ga',g1,g2,k1,get_set,a1.symm,a2.symm]
  refine num_ref ?_
  simp [ga',g1,g2,k1,get_set,a1.symm,a2.symm]
  refine with_ref (by have:=he.names;omega) ?_
  simp [ga',g1,g2,k1,get_set,a1.symm,a2.symm]
  refine hnode' _ _ _ ?_
  simp [g3,g4,get_set,a3.symm,a4.symm]
  exact At5.end_ (e:=e) (t:=t) (s:=s) (Nat.le_refl _) hk' ((((hg.trans hA.gr).set (by omega) _).set (by omega) _).set (by omega) _)
end Go.Abs.Mac
namespace Go.Abs.Mac
open Go Go.Abs Go.Abs.Stk Go.Abs.At Go.Proofs.DocD
variable {σ τ:AHeap} {K kp:AV→AHeap→Prop}
attribute [local simp] Nat.add_assoc
variable {fuel:Nat} {s s' s1:Sa} {t:AT} {e:En} {o o1:Out} {k':AV→AHeap→Prop} {σ:AHeap} {n:Nat}
theorem ac_rhos (l:List Int):acells (rhosV l)=some [rhosV l]:=rfl
theorem build_co2 {b:List AV} (hb:b.length=19) (x z r:AV) (e:En):List.take 22 (b ++ x :: (eC e ++ [z])) ++ r :: List.drop 23 (b ++ x :: (eC e ++ [z]))=b ++ x :: (eC e ++ [r]):=by
  match b,hb with
  | [a1,a2,a3,a4,a5,a6,a7,a8,a9,a10,a11,a12,a13,a14,a15,a16,a17,a18,a19],_=>rfl
theorem build_co3 {b:List AV} (hb:b.length=19) (x z:AV) (e:En) (r:AV):List.take 22 (b ++ x :: (eC e ++ [z])) ++ [r]=b ++ x :: (eC e ++ [r]):=by
  match b,hb with
  | [a1,a2,a3,a4,a5,a6,a7,a8,a9,a10,a11,a12,a13,a14,a15,a16,a17,a18,a19],_=>rfl
theorem build_co4 {b:List AV} (hb:b.length=19) (x z:AV) (e:En):List.drop 23 (b ++ x :: (eC e ++ [z]))=[]:=by
  match b,hb with
  | [a1,a2,a3,a4,a5,a6,a7,a8,a9,a10,a11,a12,a13,a14,a15,a16,a17,a18,a19],_=>rfl
theorem coC_13 (b:AT) (x:ByteArray) (e:En) (l:List Int):b.av ++ str x :: (eC e ++ [rhosV l])=coC ⟨b,x,e,some l⟩:=rfl
theorem coC_env (c:Co) (e:En):List.take 20 (coC c) ++ (eC e ++ List.drop 22 (coC c))=coC { c with env:=e }:=by
  have hb:=AT.av_len c.body
  unfold coC
  revert hb
  generalize c.body.av=b
  intro hb
  match b,hb with
  | [a1,a2,a3,a4,a5,a6,a7,a8,a9,a10,a11,a12,a13,a14,a15,a16,a17,a18,a19],_=>rfl
theorem o_13 {na nb:Nat} {j:AFrame→AHeap→Prop} (hs:SB s) (he:EB e) (h:At5 fuel s t e n τ) (hkl:0 < t.kids.length) (hr:resR fuel (code s e t.rho ⟨kidAt t 0,t.h.arg,e,some t.rhos⟩)=resV fuel s1 o1)
    (hj:∀ a b υ,Aft fuel s1 o1 n a b τ υ→j [(4,.ptr (n+1) 0 0),(5,.ptr (n+2) 0 0),(6,.ptr (n+3) 0 0),(7,.ptr (n+4) 0 0),(na,.ptr a 0 0),(nb,.ptr b 0 0)] υ):N13O na nb j (.ptr n 0 0) (.ptr (n+1) 0 0) (.ptr (n+2) 0 0) (.ptr (n+3) 0 0) (.ptr (n+4) 0 0) τ kp:=by
  obtain ⟨lt,f0,f1,f2,f3,f4⟩:=h
  have m0:n ≠ τ.next:=by omega
  have m1:n+1 ≠ τ.next:=by omega
  have m2:n+2 ≠ τ.next:=by omega
  have m0':n ≠ τ.next+1:=by omega
  have m1':n+1 ≠ τ.next+1:=by omega
  have m2':n+2 ≠ τ.next+1:=by omega
  have mk:∀ (a b:Nat) (ω:AHeap),τ.next≤a→τ.next≤b→a ≠ b→a < ω.next→b < ω.next→Grows τ ω→j [(4,.ptr (n+1) 0 0),(5,.ptr (n+2) 0 0),(6,.ptr (n+3) 0 0),(7,.ptr (n+4) 0 0),(na,.ptr a 0 0),(nb,.ptr b 0 0)] ((ω.set a (.cells 11 [sC fuel s1 o1])).set b (.cells 4 [(vO o1).av])):=fun a b ω h1 h2 h3 h4 h5 h6 =>
    hj _ _ _ ⟨(h6.set h1 _).set h2 _,h1,h2,h4,h5,h3,by simp [get_set,h3],by simp [get_set]⟩
  have fin1:=fun ω h6 h4 h5=>mk τ.next (τ.next+1) ω (Nat.le_refl _) (Nat.le_succ _) (by omega) h4 h5 h6
  have fin2:=fun ω h6 h4 h5=>mk (τ.next+1) τ.next ω (Nat.le_succ _) (Nat.le_refl _) (by omega) h4 h5 h6
  have g2n:∀ (x y:AObj),Grows τ ((τ.new x).new y):=fun x y=>(Grows.new _ _).trans (Grows.new _ _)
  unfold N13O
  simp [f0,f1,f2,kid_addr0 hkl,ac_rhos,build_co,build_co2,build_co3,build_co4,coC_13]
  refine ⟨?_,?_,?_,?_,?_,?_⟩
  · refine ccode_ref hs he ?_
    rw [hr]
    simp [f0,f1,f2,kid_addr0 hkl,get_new,get_set,m0,m1,m2,m0',m1',m2',ac_rhos,build_co,build_co2,build_co3,build_co4,coC_13]
    exact fin1 _ (g2n _ _) (by simp) (by simp)
  · refine ccode_ref hs he ?_
    rw [hr]
    simp [f0,f1,f2,kid_addr0 hkl,get_new,get_set,m0,m1,m2,m0',m1',m2',ac_rhos,build_co,build_co2,build_co3,build_co4,coC_13]
    exact fin2 _ (g2n _ _) (by simp) (by simp)
  · simp [f0,f1,f2,kid_addr0 hkl,get_new,get_set,m0,m1,m2,m0',m1',m2',ac_rhos,build_co,build_co2,build_co3,build_co4,coC_13]
    refine ccode_ref hs he ?_
    rw [hr]
    simp [f0,f1,f2,kid_addr0 hkl,get_new,get_set,m0,m1,m2,m0',m1',m2',ac_rhos,build_co,build_co2,build_co3,build_co4,coC_13]
    exact fin1 _ (g2n _ _) (by simp) (by simp)
  · simp [f0,f1,f2,kid_addr0 hkl,get_new,get_set,m0,m1,m2,m0',m1',m2',ac_rhos,build_co,build_co2,build_co3,build_co4,coC_13]
    refine ccode_ref hs he ?_
    rw [hr]
    simp [f0,f1,f2,kid_addr0 hkl,get_new,get_set,m0,m1,m2,m0',m1',m2',ac_rhos,build_co,build_co2,build_co3,build_co4,coC_13]
    exact fin1 _ (g2n _ _) (by simp) (by simp)
  · simp [f0,f1,f2,kid_addr0 hkl,get_new,get_set,m0,m1,m2,m0',m1',m2',ac_rhos,build_co,build_co2,build_co3,build_co4,coC_13]
    refine ccode_ref hs he ?_
    rw [hr]
    simp [f0,f1,f2,kid_addr0 hkl,get_new,get_set,m0,m1,m2,m0',m1',m2',ac_rhos,build_co,build_co2,build_co3,build_co4,coC_13]
    exact fin2 _ (g2n _ _) (by simp) (by simp)
  · simp [f0,f1,f2,kid_addr0 hkl,get_new,get_set,m0,m1,m2,m0',m1',m2',ac_rhos,build_co,build_co2,build_co3,build_co4,coC_13]
    refine ccode_ref hs he ?_
    rw [hr]
    simp [f0,f1,f2,kid_addr0 hkl,get_new,get_set,m0,m1,m2,m0',m1',m2',ac_rhos,build_co,build_co2,build_co3,build_co4,coC_13]
    exact fin2 _ (g2n _ _) (by simp) (by simp)
theorem b_13s (hs:SB s) (he:EB e) (h:At5 fuel s t e σ.next τ) (hg:Grows σ τ) (hkl:0 < t.kids.length) (hr:resR fuel (code s e t.rho ⟨kidAt t 0,t.h.arg,e,some t.rhos⟩)=resV fuel s1 o1) (ho:¬ o1.isVal) (h0:∀ k,o1=.over k→k ≠ 0)
    (hk':∀ υ,Grows σ υ→k' (resV fuel s1 o1) υ):N13 (.ptr σ.next 0 0) (.ptr (σ.next+1) 0 0) (.ptr (σ.next+2) 0 0) (.ptr (σ.next+3) 0 0) (.ptr (σ.next+4) 0 0) τ k' kp:=by
  unfold N13
  refine seqW_in ?_
  refine o_13 hs he h hkl hr fun a b υ hA=>?_
  obtain ⟨g1,g2,g3,g4,ga,gb,a3,a4,b3,b4,a1,a2,ab,lt,an,bn,na,nb⟩:=h.beh hA
  unfold N13J
  simp [ga]
  refine stop_t ho h0 ?_
  simp [ga,gb,g3,g4,get_set,a3,a4,b3,b4]
  exact At5.end_ (e:=e) (t:=t) (s:=s) (Nat.le_refl _) hk' (hg.trans hA.gr)
theorem b_13 {v:V} (hs:SB s) (he:EB e) (h:At5 fuel s t e σ.next τ) (hg:Grows σ τ) (hkl:1 < t.kids.length) (hr:code s e t.rho ⟨kidAt t 0,t.h.arg,e,some t.rhos⟩=.ok v s1) {cs:List Co} {c:Co} (hcs:s1.codes=cs ++ [c]) (hlen:s1.codes.length < 999999999)
    (hnode':NodeOk fuel { s1 with codes:=cs ++ [{ c with env:=e.with t.h.name v true }] } (kidAt t 1) (e.with t.h.name v true) s' o)
    (hk':∀ υ,Grows σ υ→k' (resV fuel s' o) υ):N13 (.ptr σ.next 0 0) (.ptr (σ.next+1) 0 0) (.ptr (σ.next+2) 0 0) (.ptr (σ.next+3) 0 0) (.ptr (σ.next+4) 0 0) τ k' kp:=by
  unfold N13
  refine seqW_in ?_
  refine o_13 hs he h (by omega) (s1:=s1) (o1:=.val v) (by rw [hr];rfl) fun a b υ hA=>?_
  obtain ⟨g1,g2,g3,g4,ga,gb,a3,a4,b3,b4,a1,a2,ab,lt,an,bn,na,nb⟩:=h.beh hA
  unfold N13J
  simp [ga]
  refine stop_f ?_
  have k1:∀ ω,aIndexAddr 19 (AT.vs t.kids) (int 1) ω=some (.ref (kidAt t 1).av):=fun ω=>kid_addr hkl ω
  simp [ga,gb,g1,g2]
  refine with_ref (by have:=he.names;omega) ?_
  have p0:σ.next ≠ υ.next:=by omega
  have pa:a ≠ υ.next:=by omega
  have pa1:a ≠ υ.next+1:=by omega
  simp [ga,gb,g1,g2,k1,get_new,get_set,pa]
  generalize hτ2:AHeap.new _ (.cells 23 [])=τ2
  have tn:τ2.next=υ.next+2:=by rw [← hτ2];rfl
  have tg:Grows υ τ2:=by rw [← hτ2];exact ((Grows.new _ _).set (Nat.le_refl _) _).trans (Grows.new _ _)
  have w0:τ2.get υ.next=some (.cells 2 [eC (e.with t.h.name v true)]):=by rw [← hτ2];simp [get_new,get_set]
  have w1:τ2.get (υ.next+1)=some (.cells 23 []):=by rw [← hτ2];simp [get_new,get_set]
  have wa:τ2.get a=some (.cells 11 [sC fuel s1 (.val v)]):=(tg.get a an).trans ga
  have x1:τ2.get (σ.next+1)=some (.cells 19 [t.av]):=(tg.get _ (by omega)).trans g1
  have x3:τ2.get (σ.next+3)=some (.cells 11 [z11]):=(tg.get _ (by omega)).trans g3
  have x4:τ2.get (σ.next+4)=some (.cells 4 [V.zero.av]):=(tg.get _ (by omega)).trans g4
  clear hτ2
  simp [pa1]
  have hl:s1.codes.length=cs.length+1:=by rw [hcs];simp
  have hq:=app_own (σ:=τ2) (sz:=23) (bytes:=368) (id:=υ.next+1) (c:=false) (xs:=[]) (ys:=(cs ++ [c]).map coC) w1 (by simp;omega)
  simp at hq
  rw [hcs]
  simp
  refine stepK_of hq ?_
  have hw:IntKind.i64.wrap ((cs.length:Int)+1 - 1)=cs.length:=by rw [wrap64 (by omega)];omega
  have hw':IntKind.i64.wrap (cs.length:Int)=cs.length:=wrap64 (by omega)
  have hI:aIndexAddr 23 (.own (υ.next+2) (cs.length+1)) (int cs.length) ((τ2.del (υ.next+1)).new (.cells 23 (List.map coC cs ++ [coC c])))=some (.ptr (υ.next+2) cs.length 0):=by
    rw [aIndexAddr_own];simp [elAt,get_new,get_del,tn];omega
  have pa2:a ≠ υ.next+2:=by omega
  have q1:σ.next ≠ υ.next:=by omega
  have q2:σ.next ≠ υ.next+1:=by omega
  have q0:υ.next ≠ a:=by omega
  simp [hw,hw',tn,get_new,get_del,get_set,w0,hI,wa,x1,k1,pa,pa1,pa2,a1.symm,q1,q2,q0,coC_env]
  obtain ⟨c2,hc2⟩:∃ c2,c2=({ c with env:=e.with t.h.name v true }:Co):=⟨_,rfl⟩
  rw [← hc2] at hnode'
  rw [← hc2]
  generalize hχ:AHeap.set _ a _=χ
  have cg:Grows σ χ:=by
    rw [← hχ]
    refine ⟨by simp [tn];omega,fun i hi=>?_⟩
    simp only [get_set,get_new,get_del,AHeap.new_next,AHeap.del_next,AHeap.set_next,tn]
    repeat' rw [if_neg (by omega)]
    exact (tg.get i (by omega)).trans ((hg.trans hA.gr).get i hi)
  have y3:χ.get (σ.next+3)=some (.cells 11 [z11]):=by
    rw [← hχ]
    simp only [get_set,get_new,get_del,AHeap.new_next,AHeap.del_next,AHeap.set_next,tn]
    repeat' rw [if_neg (by omega)]
    exact x3
  have y4:χ.get (σ.next+4)=some (.cells 4 [V.zero.av]):=by
    rw [← hχ]
    simp only [get_set,get_new,get_del,AHeap.new_next,AHeap.del_next,AHeap.set_next,tn]
    repeat' rw [if_neg (by omega)]
    exact x4
  have yc:χ.get (υ.next+2)=some (.cells 23 ((cs ++ [c2]).map coC)):=by
    rw [← hχ]
    simp [get_set,get_new,get_del,pa2.symm]
  clear hχ
  have fz:FzL χ (fun i=>i=υ.next+2) (sX fuel s1 O0 (.own (υ.next+2) (cs.length+1))) (sC fuel { s1 with codes:=cs ++ [c2] } O0):=by
    have:sC fuel { s1 with codes:=cs ++ [c2] } O0=sX fuel s1 O0 (.sl false 23 ((cs ++ [c2]).map coC)):=rfl
    rw [this]
    unfold sX
    refine .cons (.refl _) (.cons (.refl _) (.cons (.refl _) (.cons (.refl _) (.cons (.refl _) (.cons (.refl _) (.cons ?_ (.cons (.refl _) (.cons (.refl _) (.cons (.refl _) (.cons (.refl _) .nil))))))))))
    exact (FzR.refl _).own rfl (by simp) (rest:=[]) (by simpa using yc)
  refine Ev.freeze (args':=[sV fuel { s1 with codes:=cs ++ [c2] } O0,(kidAt t 1).v,eV (e.with t.h.name v true)]) (FzS.del χ (υ.next+2)) (.cons fz.agg (.cons (.refl _) (.cons (.refl _) .nil))) ?_
  refine hnode' _ _ _ ?_
  have n3:σ.next+3 ≠ υ.next+2:=by omega
  have n4:σ.next+4 ≠ υ.next+2:=by omega
  simp [get_set,get_del,n3,n4,y3,y4]
  have cg':Grows σ (χ.del (υ.next+2)):=⟨by simp;exact cg.next,fun i hi=>by rw [get_del,if_neg (by omega)];exact cg.get i hi⟩
  exact hk' _ ((cg'.set (by omega) _).set (by omega) _)
end Go.Abs.Mac
namespace Go.Abs.Mac
open Go Go.Abs Go.Abs.Stk Go.Abs.At Go.Proofs.DocD
structure Lm (m:Nat) (s:Sa):Prop where
  steps:s.steps≤m
  len:s.store.L.length≤100000000
  codes:s.codes.length≤100000000
theorem Lm.tick {m s} (h:Lm m s):Lm (m+1) (tick s):=⟨Nat.succ_le_succ h.steps,h.len,h.codes⟩
theorem Lm.more {m m' s} (h:Lm m s) (hm:m≤m'):Lm m' s:=⟨Nat.le_trans h.steps hm,h.len,h.codes⟩
theorem Good.lm {N m s s'} (h:Good N s.steps s.store.L.length s.codes.length s') (hl:Lm m s'):Lm m s:=⟨Nat.le_trans h.steps hl.steps,Nat.le_trans h.len hl.len,Nat.le_trans h.codes hl.codes⟩
theorem Lm.sb {m N s} (h:Lm m s) (hg:Good N 0 0 0 s):SB s:=⟨by have:=h.len;omega,by have:=hg.ok.cells;have:=hg.ok.C;omega,by have:=h.codes;omega⟩
theorem Lm.eb {m s e} (h:Lm m s) (hm:m≤5000) (he:EQ s e):EB e:=⟨by have:=he.1;have:=h.steps;omega,by have:=he.2;have:=h.steps;have:=h.len;omega⟩
theorem Lm.cb {m s} (h:Lm m s) (hm:m≤5000) (hc:CQ s):∀ c ∈ s.codes,EB c.env:=fun c hm=>⟨by have:=(hc c hm).1;have:=h.steps;omega,by have:=(hc c hm).2;have:=h.steps;have:=h.len;omega⟩
def Re.nz {α:Type} (r:Re α):Prop:=∀ s k,r=.over s k→k ≠ 0
theorem nz_ok {α:Type} {x:α} {s}:(Re.ok x s).nz:=fun _ _ h=>by cases h
theorem nz_over {α:Type} {s k} (h:k ≠ 0):(Re.over s k:Re α).nz:=fun _ _ e=>by cases e;exact h
theorem nz_bind {α β:Type} {r:Re α} {f:α→Sa→Re β} (h:r.nz) (hf:∀ x s,r=.ok x s→(f x s).nz):(r.bind f).nz:=by
  cases r with
  | ok x s=>exact hf x s rfl
  | over s k=>intro s' k' e;cases e;exact h _ _ rfl
theorem make_nz {s e rho c}:(make s e rho c).nz:=by
  unfold make
  repeat' split
  all_goals first | exact nz_ok | exact nz_over (by decide)
theorem take_nz {s v k}:(take s v k).nz:=by
  unfold take
  repeat' split
  all_goals first | exact nz_ok | exact nz_over (by decide)
theorem number_nz {s v}:(number s v).nz:=by
  unfold number
  repeat' split
  all_goals first | exact nz_ok | exact nz_over (by decide)
theorem take_code {s v c s'} (h:take s v 3=.ok c s') (hi:IdxOk s):∃ f,s'.codes[c.code.toNat]?=some f:=by
  obtain ⟨rfl,hck,hca,hfz⟩:=take_ok h
  unfold cellAt at hca
  obtain ⟨row,hrw,hmm⟩:=Option.bind_eq_some_iff.1 hca
  obtain ⟨j,_,hL,_⟩:=SG.row_nat hrw
  obtain ⟨b1,b2⟩:=hi j row c hL (List.mem_of_getElem? hmm) hck
  exact get_some (by omega)
theorem inst_nz {s t e} (hi:IdxOk s):(inst s t e).nz:=by
  unfold inst
  split
  · exact nz_over (by decide)
  · split
    · refine nz_bind take_nz fun c s1 hc=>?_
      obtain ⟨f,hf⟩:=take_code hc hi
      rw [hf]
      simp only
      split
      · split
        · exact nz_over (by decide)
        · exact make_nz
      · exact nz_over (by decide)
    · exact nz_over (by decide)
theorem leaf_nz {s t e} (hi:IdxOk s):(leaf s t e).nz:=by
  unfold leaf
  split
  · exact nz_ok
  split
  · repeat' split
    all_goals first | exact nz_ok | exact nz_over (by decide)
  split
  · exact inst_nz hi
  · exact make_nz
theorem rule_nz {s t e vs} (hi:IdxOk s):(rule s t e vs).nz:=by
  unfold rule
  split
  · exact nz_bind make_nz fun _ _ _=>nz_ok
  split
  · exact nz_bind take_nz fun _ _ _=>nz_ok
  split
  · exact nz_bind take_nz fun _ _ _=>nz_ok
  split
  · exact nz_bind make_nz fun _ _ _=>nz_ok
  split
  · exact nz_bind take_nz fun _ _ _=>nz_ok
  split
  · exact nz_bind take_nz fun _ _ _=>nz_ok
  split
  · exact nz_bind number_nz fun _ _ _=>nz_bind number_nz fun _ _ _=>nz_ok
  split
  · exact nz_bind number_nz fun _ _ _=>nz_ok
  · refine nz_bind take_nz fun c s1 hc=>?_
    obtain ⟨f,hf⟩:=take_code hc hi
    rw [hf]
    exact nz_ok
theorem rend_nz {r:Re Nx} {s o} (h:Rend r s o) (hr:r.nz):∀ k,o=.over k→k ≠ 0:=by
  cases h with
  | val=>simp
  | exn=>simp
  | over=>intro k e;cases e;exact hr _ _ rfl
theorem leaf_2 {s t e} (h:t.h.kind=2):leaf s t e=leaf2 s t e:=by unfold leaf leaf2;rw [if_neg (by omega),if_pos h];cases e.find t.h.name <;> rfl
theorem node_leaf {fuel N:Nat} {s:Sa} {t:AT} {e:En} (hf:s.steps < fuel) (hfu:fuel≤3000) (hk:isLeaf t.h.kind) (hg:Good N 0 0 0 s) (ht:TN N t) (hl:Lm 4000 s) (hc:CQ s) (he:EQ s e) {σ:AHeap} {K kp:AV→AHeap→Prop} (hK:K (resR fuel (leaf (tick s) t e)) σ):Ev PR 31 [sV fuel s O0,t.v,eV e] σ K kp:=by
  have hl':Lm 4001 (tick s):=hl.tick
  have hg':=good_tick hg
  have hc':CQ (tick s):=hc.same rfl (Nat.le_succ _) (Nat.le_refl _)
  have he':EQ (tick s) e:=he.later (Nat.le_succ _) (Nat.le_refl _)
  have k17:t.h.kind ≠ 17:=by unfold isLeaf at hk;omega
  refine node_head hf (by omega) k17 (resR_dat _ _) hK fun τ k' h5 hgr hk'=>?_
  rcases hk with h | h | h | h
  · have e1:leaf (tick s) t e=.ok (num t.h.n) (tick s):=by unfold leaf;rw [if_pos h]
    rw [e1] at hk'
    rw [h]
    exact b_1 h5 hgr hk'
  · rw [leaf_2 h] at hk'
    rw [h]
    exact b_2 (hl'.eb (by omega) he') h5 hgr hk'
  · have e1:leaf (tick s) t e=inst (tick s) t e:=by unfold leaf;rw [if_neg (by omega),if_neg (by omega),if_pos h]
    rw [e1] at hk'
    rw [h]
    exact b_18 (hl'.sb hg') (hl'.eb (by omega) he') (hl'.cb (by omega) hc') hg'.idx ht.1.rhos h5 hgr hk'
  · have e1:leaf (tick s) t e=code (tick s) e t.rho ⟨kidAt t 0,t.h.arg,e,none⟩:=by unfold leaf;rw [if_neg (by omega),if_neg (by omega),if_neg (by omega)]
    rw [e1] at hk'
    rw [h]
    exact b_11 (hl'.sb hg') (hl'.eb (by omega) he') (by rw [ht.1.len,h];simp [nk]) h5 hgr hk'
theorem kids_cons {t:AT} (h:0 < t.kids.length):∃ r,t.kids=kidAt t 0 :: r:=by
  cases hk:t.kids with
  | nil=>rw [hk] at h;simp at h
  | cons a r=>exact ⟨r,by unfold kidAt;rw [hk];rfl⟩
theorem kids_1 {t:AT} (h:t.kids.length=1):t.kids=[kidAt t 0]:=by
  obtain ⟨r,hr⟩:=kids_cons (t:=t) (by omega)
  rw [hr] at h ⊢
  cases r with
  | nil=>rfl
  | cons a r=>simp at h
theorem kids_2 {t:AT} (h:t.kids.length=2):t.kids=[kidAt t 0,kidAt t 1]:=by
  unfold kidAt
  match hk:t.kids with
  | []=>rw [hk] at h;simp at h
  | [a]=>rw [hk] at h;simp at h
  | [a,b]=>rfl
  | a :: b :: c :: r=>rw [hk] at h;simp at h
theorem nk_le (k:Int):nk k≤10:=by
  unfold nk;repeat' split
  all_goals omega
theorem big_node {fuel N s t e s' o} (hfu:fuel≤3000) (h:Big fuel s t e s' o):Good N 0 0 0 s→TN N t→CQ s→EQ s e→Lm 4000 s'→(∀ k,o=.over k→k ≠ 0)∧NodeOk fuel s t e s' o:=by
  induction h with
  | @full s t e hk h =>
    intro hs ht hc he hl
    exact ⟨fun k e=>by cases e;decide,fun σ K kp hK=>node_17 hk (resV_dat _ _ _) ⟨_,_,rfl⟩ (fun τ k1 kp1 h1=>region_over (hl.sb hs) h h1) hK⟩
  | @region s t e r st s' o hk h h' ih =>
    intro hs ht hc he hl
    have hB:=Big.region hk h h'
    have hg1:Good N 0 0 0 { s with store:=st }:=(good_inv N 0 0 0).push hs h
    have hlen:=pushS_len h
    obtain ⟨p1,p2,p3⟩:=popO_same o s'
    have hl':Lm 4000 s':=⟨by rw [← p2];exact hl.steps,by rw [← p1];exact hl.len,by rw [← p3];exact hl.codes⟩
    have hls:=(hB.good hs ht).lm hl
    have k0:=kidT ht (i:=0) (nk_pos (by omega))
    have he':EQ { s with store:=st } (e.opn t.rho r):=⟨he.1,by have:=he.2;simp [En.opn];omega⟩
    obtain ⟨i1,i2⟩:=ih hg1 k0 (hc.same rfl (Nat.le_refl _) (by simp only;omega)) he' hl'
    refine ⟨i1,fun σ K kp hK=>node_17 hk (resV_dat _ _ _) ⟨_,_,rfl⟩ (fun τ k1 kp1 h1=>region_node (hls.sb hs) (hls.eb (by omega) he) (by rw [ht.1.len];exact nk_pos (by omega)) h i2 (hl'.sb (h'.good hg1 k0).zero) i1 h1) hK⟩
  | fuel hk h =>
    intro hs ht hc he hl
    exact ⟨fun k e=>by cases e;decide,node_fuel h hk⟩
  | @leaf s t e s' v hf hk h =>
    intro hs ht hc he hl
    have hls:=((Big.leaf hf hk h).good hs ht).lm hl
    refine ⟨by simp,fun σ K kp hK=>node_leaf hf hfu hk hs ht hls hc he ?_⟩
    rw [h];exact hK
  | @leafOver s t e s' k hf hk h =>
    intro hs ht hc he hl
    have hls:=((Big.leafOver hf hk h).good hs ht).lm hl
    refine ⟨fun q e=>by cases e;exact leaf_nz (good_tick hs).idx _ _ h,fun σ K kp hK=>node_leaf hf hfu hk hs ht hls hc he ?_⟩
    rw [h];exact hK
  | @letStop s t e s' o hf hk h ho ih =>
    intro hs ht hc he hl
    obtain ⟨i1,i2⟩:=ih (good_tick hs) (kidT ht (nk_pos (by omega))) (hc.same rfl (Nat.le_succ _) (Nat.le_refl _)) (he.later (Nat.le_succ _) (Nat.le_refl _)) hl
    refine ⟨i1,fun σ K kp hK=>node_head hf (by omega) (by omega) (resV_dat _ _ _) hK fun τ k' h5 hgr hk'=>?_⟩
    rw [hk]
    exact b_12s h5 hgr (by rw [ht.1.len];exact nk_pos (by omega)) i2 ho i1 hk'
  | @let_ s t e s' v s'' o hf hk h h' ih ih' =>
    intro hs ht hc he hl
    have k0:=kidT ht (i:=0) (nk_pos (by omega))
    have k1:=kidT ht (i:=1) (nk_two (by omega))
    have hct:CQ (tick s):=hc.same rfl (Nat.le_succ _) (Nat.le_refl _)
    have het:EQ (tick s) e:=he.later (Nat.le_succ _) (Nat.le_refl _)
    have g:=h.good (good_tick hs) k0
    have a:=h.cq (good_tick hs) k0 hct het
    have hl':=(h'.good g.zero k1).lm hl
    obtain ⟨i1,i2⟩:=ih (good_tick hs) k0 hct het hl'
    obtain ⟨j1,j2⟩:=ih' g.zero k1 a (he.with1 g.steps g.len) hl
    refine ⟨j1,fun σ K kp hK=>node_head hf (by omega) (by omega) (resV_dat _ _ _) hK fun τ k' h5 hgr hk'=>?_⟩
    rw [hk]
    exact b_12 ((g.lm hl').eb (by omega) het) h5 hgr (by rw [ht.1.len];exact nk_two (by omega)) i2 j2 hk'
  | @letrecOver s t e s' k hf hk h =>
    intro hs ht hc he hl
    have hls:=((Big.letrecOver hf hk h).good hs ht).lm hl
    have k0:k ≠ 0:=make_nz _ _ h
    refine ⟨fun q e=>by cases e;exact k0,fun σ K kp hK=>node_head hf (by omega) (by omega) (resV_dat _ _ _) hK fun τ k' h5 hgr hk'=>?_⟩
    rw [hk]
    exact b_13s (hls.tick.sb (good_tick hs)) (hls.eb (by omega) he) h5 hgr (by rw [ht.1.len];exact nk_pos (by omega)) (by rw [h];rfl) (by simp [Out.isVal]) (fun q e=>by cases e;exact k0) hk'
  | @letrec s t e s' v s'' o hf hk h h' ih =>
    intro hs ht hc he hl
    have hls:=((Big.letrec hf hk h h').good hs ht).lm hl
    have hct:CQ (tick s):=hc.same rfl (Nat.le_succ _) (Nat.le_refl _)
    have a:=code_cq (s:=tick s) (e:=e) (rho:=t.rho) (c:=⟨kidAt t 0,t.h.arg,e,some t.rhos⟩) hct ⟨by have:=he.1;show e.names.length+1≤2 * (s.steps+1);omega,by have:=he.2;show e.rhos.length≤s.store.L.length+1000000 * (s.steps+1);omega⟩
    have m:=make_same (s:=(coded (tick s) ⟨kidAt t 0,t.h.arg,e,some t.rhos⟩).2) (e:=e) (rho:=t.rho) (c:=(coded (tick s) ⟨kidAt t 0,t.h.arg,e,some t.rhos⟩).1)
    have gg:=(good_inv N 0 0 0).codeR (s:=tick s) (e:=e) (rho:=t.rho) (c:=⟨kidAt t 0,t.h.arg,e,some t.rhos⟩) (good_tick hs) (kidT ht (nk_pos (by omega)))
    rw [show make _ e t.rho _=code (tick s) e t.rho ⟨kidAt t 0,t.h.arg,e,some t.rhos⟩ from rfl] at m
    rw [h] at a m gg
    obtain ⟨m1,m2,m3⟩:=m
    have m1:s'.codes=s.codes ++ [⟨kidAt t 0,t.h.arg,e,some t.rhos⟩]:=m1
    have m2:s'.steps=s.steps+1:=m2
    have m3:s'.store.L.length=s.store.L.length:=m3
    have hp:patch s' (e.with t.h.name v true)={ s' with codes:=s.codes ++ [{ (⟨kidAt t 0,t.h.arg,e,some t.rhos⟩:Co) with env:=e.with t.h.name v true }] }:=by
      unfold patch
      rw [m1]
      simp
    have k1:=kidT ht (i:=1) (nk_two (by omega))
    have gp:=(good_inv N 0 0 0).patch (e:=e.with t.h.name v true) gg
    have lp:=(h'.good gp k1).lm hl
    obtain ⟨i1,i2⟩:=ih gp k1 (patch_cq a ⟨by have:=he.1;simp [En.with];omega,by have:=he.2;simp [En.with];omega⟩) ⟨by have:=he.1;rw [patch_steps];simp [En.with];omega,by have:=he.2;rw [patch_steps,patch_store];simp [En.with];omega⟩ hl
    refine ⟨i1,fun σ K kp hK=>node_head hf (by omega) (by omega) (resV_dat _ _ _) hK fun τ k' h5 hgr hk'=>?_⟩
    rw [hk]
    rw [hp] at i2
    exact b_13 (hls.tick.sb (good_tick hs)) (hls.eb (by omega) he) h5 hgr (by rw [ht.1.len];exact nk_two (by omega)) h m1 (by have:=lp.codes;rw [patch_len] at this;omega) i2 hk'
  | @ifStop s t e s' o hf hk h ho ih =>
    intro hs ht hc he hl
    obtain ⟨i1,i2⟩:=ih (good_tick hs) (kidT ht (nk_pos (by omega))) (hc.same rfl (Nat.le_succ _) (Nat.le_refl _)) (he.later (Nat.le_succ _) (Nat.le_refl _)) hl
    refine ⟨i1,fun σ K kp hK=>node_head hf (by omega) (by omega) (resV_dat _ _ _) hK fun τ k' h5 hgr hk'=>?_⟩
    rw [hk]
    exact b_14s h5 hgr (by rw [ht.1.len];exact nk_pos (by omega)) i2 ho i1 hk'
  | @ifStuck s t e s' v hf hk h hv ih =>
    intro hs ht hc he hl
    obtain ⟨i1,i2⟩:=ih (good_tick hs) (kidT ht (nk_pos (by omega))) (hc.same rfl (Nat.le_succ _) (Nat.le_refl _)) (he.later (Nat.le_succ _) (Nat.le_refl _)) hl
    refine ⟨fun k e=>by cases e;decide,fun σ K kp hK=>node_head hf (by omega) (by omega) (resV_dat _ _ _) hK fun τ k' h5 hgr hk'=>?_⟩
    rw [hk]
    exact b_14k h5 hgr (by rw [ht.1.len];exact nk_pos (by omega)) i2 hv hk'
  | @if_ s t e s' v s'' o hf hk h hv h' ih ih' =>
    intro hs ht hc he hl
    have k0:=kidT ht (i:=0) (nk_pos (by omega))
    have k1:=kidT ht (nk_if (n:=v.n) hk)
    have hct:CQ (tick s):=hc.same rfl (Nat.le_succ _) (Nat.le_refl _)
    have het:EQ (tick s) e:=he.later (Nat.le_succ _) (Nat.le_refl _)
    have g:=h.good (good_tick hs) k0
    have a:=h.cq (good_tick hs) k0 hct het
    have hl':=(h'.good g.zero k1).lm hl
    obtain ⟨i1,i2⟩:=ih (good_tick hs) k0 hct het hl'
    obtain ⟨j1,j2⟩:=ih' g.zero k1 a (he.later (Nat.le_trans (Nat.le_succ _) g.steps) g.len) hl
    refine ⟨j1,fun σ K kp hK=>node_head hf (by omega) (by omega) (resV_dat _ _ _) hK fun τ k' h5 hgr hk'=>?_⟩
    rw [hk]
    exact b_14 h5 hgr (by rw [ht.1.len,hk];simp [nk]) i2 hv j2 hk'
  | @try_ s t e s' o hf hk h ho ih =>
    intro hs ht hc he hl
    obtain ⟨i1,i2⟩:=ih (good_tick hs) (kidT ht (nk_pos (by omega))) (hc.same rfl (Nat.le_succ _) (Nat.le_refl _)) (he.later (Nat.le_succ _) (Nat.le_refl _)) hl
    refine ⟨i1,fun σ K kp hK=>node_head hf (by omega) (by omega) (resV_dat _ _ _) hK fun τ k' h5 hgr hk'=>?_⟩
    rw [hk]
    exact b_16n h5 hgr (by rw [ht.1.len];exact nk_pos (by omega)) i2 ho i1 hk'
  | @catch_ s t e s' n s'' o hf hk h h' ih ih' =>
    intro hs ht hc he hl
    have k0:=kidT ht (i:=0) (nk_pos (by omega))
    have k1:=kidT ht (i:=1) (nk_two (by omega))
    have hct:CQ (tick s):=hc.same rfl (Nat.le_succ _) (Nat.le_refl _)
    have het:EQ (tick s) e:=he.later (Nat.le_succ _) (Nat.le_refl _)
    have g:=h.good (good_tick hs) k0
    have a:=h.cq (good_tick hs) k0 hct het
    have hl':=(h'.good g.zero k1).lm hl
    obtain ⟨i1,i2⟩:=ih (good_tick hs) k0 hct het hl'
    obtain ⟨j1,j2⟩:=ih' g.zero k1 a (he.with1 g.steps g.len) hl
    refine ⟨j1,fun σ K kp hK=>node_head hf (by omega) (by omega) (resV_dat _ _ _) hK fun τ k' h5 hgr hk'=>?_⟩
    rw [hk]
    exact b_16 ((g.lm hl').eb (by omega) het) h5 hgr (by rw [ht.1.len];exact nk_two (by omega)) i2 j2 hk'
  | @stop1 s t e s' o hf hk h ho ih =>
    intro hs ht hc he hl
    obtain ⟨i1,i2⟩:=ih (good_tick hs) (kidT ht (nk_pos (by omega))) (hc.same rfl (Nat.le_succ _) (Nat.le_refl _)) (he.later (Nat.le_succ _) (Nat.le_refl _)) hl
    refine ⟨i1,fun σ K kp hK=>node_head hf (by omega) (by omega) (resV_dat _ _ _) hK fun τ k' h5 hgr hk'=>?_⟩
    rw [pick_kids hk]
    obtain ⟨r,hr⟩:=kids_cons (t:=t) (by rw [ht.1.len];exact nk_pos (by omega))
    exact b_stop (by rw [ht.1.len];exact nk_le _) h5 hgr (by rw [hr];exact .stop i2 ho i1) ho i1 hk'
  | @stop2 s t e s' v s'' o hf hk hl2 h h' ho ih ih' =>
    intro hs ht hc he hl
    have k0:=kidT ht (i:=0) (nk_pos (by omega))
    have k1:=kidT ht (i:=1) (by rw [← ht.1.len];omega)
    have hct:CQ (tick s):=hc.same rfl (Nat.le_succ _) (Nat.le_refl _)
    have het:EQ (tick s) e:=he.later (Nat.le_succ _) (Nat.le_refl _)
    have g:=h.good (good_tick hs) k0
    have a:=h.cq (good_tick hs) k0 hct het
    have hl':=(h'.good g.zero k1).lm hl
    obtain ⟨i1,i2⟩:=ih (good_tick hs) k0 hct het hl'
    obtain ⟨j1,j2⟩:=ih' g.zero k1 a (he.later (Nat.le_trans (Nat.le_succ _) g.steps) g.len) hl
    refine ⟨j1,fun σ K kp hK=>node_head hf (by omega) (by omega) (resV_dat _ _ _) hK fun τ k' h5 hgr hk'=>?_⟩
    rw [pick_kids hk]
    exact b_stop (by omega) h5 hgr (by rw [kids_2 hl2];exact .cons i2 (.stop j2 ho j1)) ho j1 hk'
  | @rule1 s t e s₁ v s₂ o hf hk hl1 h h' ih =>
    intro hs ht hc he hl
    have k0:=kidT ht (i:=0) (nk_pos (by omega))
    have hct:CQ (tick s):=hc.same rfl (Nat.le_succ _) (Nat.le_refl _)
    have het:EQ (tick s) e:=he.later (Nat.le_succ _) (Nat.le_refl _)
    have g:=h.good (good_tick hs) k0
    have a:=h.cq (good_tick hs) k0 hct het
    have g2:Good N s₁.steps s₁.store.L.length s₁.codes.length s₂:=h'.all ((good_inv N _ _ _).ruleR g.self)
    have hl':=g2.lm hl
    obtain ⟨i1,i2⟩:=ih (good_tick hs) k0 hct het hl'
    refine ⟨rend_nz h' (rule_nz g.idx),fun σ K kp hK=>node_head hf (by omega) (by omega) (resV_dat _ _ _) hK fun τ k' h5 hgr hk'=>?_⟩
    rw [pick_kids hk]
    exact b_rule (vs:=[v]) hk (by rw [← ht.1.len,hl1];rfl) (by omega) h5 hgr (by rw [kids_1 hl1];exact .cons i2 .nil) (hl'.sb g.zero) ((g.lm hl').eb (by omega) het) (hl'.cb (by omega) a) g.idx (.rend h') hk'
  | @rule2 s t e s₁ v s₂ w s₃ o hf hk hl2 h h' h₂ ih ih' =>
    intro hs ht hc he hl
    have k0:=kidT ht (i:=0) (nk_pos (by omega))
    have k1:=kidT ht (i:=1) (by rw [← ht.1.len];omega)
    have hct:CQ (tick s):=hc.same rfl (Nat.le_succ _) (Nat.le_refl _)
    have het:EQ (tick s) e:=he.later (Nat.le_succ _) (Nat.le_refl _)
    have g:=h.good (good_tick hs) k0
    have a:=h.cq (good_tick hs) k0 hct het
    have he1:EQ s₁ e:=he.later (Nat.le_trans (Nat.le_succ _) g.steps) g.len
    have g':=h'.good g.zero k1
    have a':=h'.cq g.zero k1 a he1
    have g2:Good N s₂.steps s₂.store.L.length s₂.codes.length s₃:=h₂.all ((good_inv N _ _ _).ruleR g'.self)
    have hl2':=g2.lm hl
    have hl':=g'.lm hl2'
    obtain ⟨i1,i2⟩:=ih (good_tick hs) k0 hct het hl'
    obtain ⟨j1,j2⟩:=ih' g.zero k1 a he1 hl2'
    refine ⟨rend_nz h₂ (rule_nz g'.idx),fun σ K kp hK=>node_head hf (by omega) (by omega) (resV_dat _ _ _) hK fun τ k' h5 hgr hk'=>?_⟩
    rw [pick_kids hk]
    exact b_rule (vs:=[v,w]) hk (by rw [← ht.1.len,hl2];rfl) (by omega) h5 hgr (by rw [kids_2 hl2];exact .cons i2 (.cons j2 .nil)) (hl2'.sb g'.zero) ((g.lm hl').eb (by omega) het) (hl2'.cb (by omega) a') g'.idx (.rend h₂) hk'
  | @call s t e s₁ v s₂ w s₃ b e' s₄ o hf hk hl2 h h' h₂ h₃ ih ih' ih₃ =>
    intro hs ht hc he hl
    have k0:=kidT ht (i:=0) (nk_pos (by omega))
    have k1:=kidT ht (i:=1) (by rw [← ht.1.len];omega)
    have hct:CQ (tick s):=hc.same rfl (Nat.le_succ _) (Nat.le_refl _)
    have het:EQ (tick s) e:=he.later (Nat.le_succ _) (Nat.le_refl _)
    have g:=h.good (good_tick hs) k0
    have a:=h.cq (good_tick hs) k0 hct het
    have he1:EQ s₁ e:=he.later (Nat.le_trans (Nat.le_succ _) g.steps) g.len
    have g':=h'.good g.zero k1
    have a':=h'.cq g.zero k1 a he1
    obtain ⟨rfl,c,fn,_,hf',rfl,rfl,_⟩:=rule_node h₂
    have hb:=(cwn_inv N).body g'.cw hf'
    have hl2':=(h₃.good g'.zero hb).lm hl
    have hl':=g'.lm hl2'
    obtain ⟨i1,i2⟩:=ih (good_tick hs) k0 hct het hl'
    obtain ⟨j1,j2⟩:=ih' g.zero k1 a he1 hl2'
    obtain ⟨q1,q2⟩:=ih₃ g'.zero hb a' (a' fn (List.mem_of_getElem? hf')).call hl
    refine ⟨q1,fun σ K kp hK=>node_head hf (by omega) (by omega) (resV_dat _ _ _) hK fun τ k' h5 hgr hk'=>?_⟩
    rw [pick_kids hk]
    exact b_rule (vs:=[v,w]) hk (by rw [← ht.1.len,hl2];rfl) (by omega) h5 hgr (by rw [kids_2 hl2];exact .cons i2 (.cons j2 .nil)) (hl2'.sb g'.zero) ((g.lm hl').eb (by omega) het) (hl2'.cb (by omega) a') g'.idx (by rw [h₂];exact .call q2) hk'
end Go.Abs.Mac
