import Derived.Test.YtjilebpcaemopaaGreatDoorMacA
set_option linter.unusedVariables false
set_option linter.unusedSimpArgs false
set_option linter.deprecated false
namespace Go.Abs.Mac
open Go Go.Abs Go.Abs.Stk Go.Abs.At Go.Proofs.MacD
variable {σ τ:AHeap} {mid sid fuel:Nat} {cv fv:AV} {vv:List AV} {T:Nat→Nat} {s:Sa} {k:List Fr} {K kp:AV→AHeap→Prop}
theorem make_codes {s s':Sa} {e:En} {rho:Int} {c:Cl} {v:V} (h:make s e rho c=.ok v s'):s'.codes=s.codes:=by
  unfold make at h
  split at h
  · split at h
    · cases h;rfl
    · cases h
  · cases h
theorem code_codes {s s':Sa} {e:En} {rho:Int} {c:Co} {v:V} (h:code s e rho c=.ok v s'):s'.codes=s.codes ++ [c]:=make_codes h
theorem patch_of {s:Sa} {cs:List Co} {c:Co} (h:s.codes=cs ++ [c]) (e:En):patch s e={ s with codes:=cs ++ [{ c with env:=e }] }:=by
  unfold patch;rw [h];simp
theorem MX.patchC (h:MX σ mid sid cv fv vv T fuel s k) {cs:List Co} {c:Co} (hc:s.codes=cs ++ [c]) (e:En) :
    ∃ q rest,cv=.own q (cs.length+1)∧σ.get q=some (.cells 5 (cs.map Co.av ++ c.av :: rest))∧MX (σ.set q (.cells 5 (cs.map Co.av ++ Co.av { c with env:=e } :: rest))) mid sid cv fv vv T fuel (patch s e) k∧Keep T σ T (σ.set q (.cells 5 (cs.map Co.av ++ Co.av { c with env:=e } :: rest))):=by
  obtain ⟨q,rest,h1,h2,h3⟩:=h.codesGet (by rw [hc];simp)
  rw [hc] at h1 h2
  have hget:∀ o i,T i ≠ 3→(σ.set q o).get i=σ.get i:=fun o i hi=>by rw [get_set,if_neg (by rintro rfl;exact hi h3)]
  refine ⟨q,rest,by rw [h1];simp,by rw [h2];simp,?_,⟨Nat.le_refl _,fun i hi h0=>⟨h0,hget _ i (by omega)⟩⟩⟩
  rw [patch_of hc]
  exact { obj:=by rw [hget _ mid (by rw [h.tm];omega)];exact h.obj,tm:=h.tm,store:=In.congr h.store (Nat.le_refl _) fun i h1 _=>hget _ i (by omega),codes:=.inr ⟨q,rest,by rw [h1];simp,by simp,h3⟩,frames:=h.frames.mono fun q hq=>⟨hq,hget _ q (by omega)⟩,vals:=h.vals.mono fun q h1 _=>⟨rfl,hget _ q (by omega)⟩,lt:=h.lt }
theorem Bnd.tick {fuel s k} (b:Bnd fuel s k):Bnd fuel (tick s) k:=⟨b.ok,b.len,b.codes,b.k,b.fuel⟩
theorem enter_ev {t:AT} {e:En} (h:MA σ mid T fuel s k) (b:Bnd fuel s k) (hi:IdxOk s) (hw:Wf t) (hr:AfterG mid fuel T σ K kp (enter fuel s k t e)):Ev PR 43 [.ptr mid 0 0,.ref t.av,envV e] σ K kp:=by
  apply F43_ev;unfold F43
  simp [Nat.add_assoc]
  generalize hτ:(σ.new (.cells 2 [envC e])).new (.cells 9 [zNx])=τ
  have hg:Grows σ τ:=by rw [← hτ];exact (Grows.new _ _).trans (Grows.new _ _)
  have hn:τ.next=σ.next+2:=by rw [← hτ];rfl
  have g0:τ.get σ.next=some (.cells 2 [envC e]):=by rw [← hτ];simp [get_new]
  have g1:τ.get (σ.next+1)=some (.cells 9 [zNx]):=by rw [← hτ];simp [get_new]
  have h1:=h.grows hg
  have ko:Keep T σ T τ:=Keep.grows hg
  have z:∀ i,σ.next≤i→T i=0:=fun i hi=>h.zero hi
  have efl:∀ e:En,List.take 2 (envC e)=envC e:=fun e=>rfl
  have hk4:∀ v:V,List.take 4 v.av=v.av:=fun v=>List.take_of_length_le (Nat.le_of_eq v.av_len)
  have kr:∀ T3 τ3,Keep T τ T3 τ3→T3 σ.next=0∧τ3.get σ.next=some (.cells 2 [envC e])∧T3 (σ.next+1)=0∧τ3.get (σ.next+1)=some (.cells 9 [zNx]):=fun T3 τ3 kk=>by
    have a:=kk.get σ.next (by omega) (z _ (by omega));rw [g0] at a
    have b:=kk.get (σ.next+1) (by omega) (z _ (by omega));rw [g1] at b
    exact ⟨a.1,a.2,b.1,b.2⟩
  have fin:∀ (m:M) (υ3:AHeap) (T3:Nat→Nat) (cs:List AV),AfterG mid fuel T σ K kp (.on m)→MA υ3 mid T3 fuel m.s m.k→Keep T τ T3 υ3→K m.x.av (υ3.set (σ.next+1) (.cells 9 [cs])):=by
    intro m τ3 T3 cs hr hm kk
    have l:Loc σ.next T3 τ3 (τ3.set (σ.next+1) (.cells 9 [cs])):=Loc.set (.refl _ _ _) (.inr ⟨by omega,(kr T3 τ3 kk).2.2.1⟩)
    exact hr _ T3 (hm.loc l) ((ko.trans kk).loc l)
  unfold enter at hr
  by_cases k17:t.h.kind=17
  · have h0:0 < t.kids.length:=by rw [hw.len,k17];simp [nk]
    rw [if_pos k17] at hr
    obtain ⟨sid,cv,fv,vv,hx⟩:=id h1
    simp [k17,hx.obj]
    refine push_m hx b.Ok ?_
    cases hp:pushS s.store with
    | none =>
      rw [hp] at hr
      simp
      exact must_ev (fun h=>by simp at h) (fun _=>hr _ T k h1 ko)
    | some p =>
      obtain ⟨r,st⟩:=p
      rw [hp] at hr
      intro τ1 T1 hx1 hk1
      simp
      refine must_ev (fun _=>?_) (fun h=>by simp at h)
      obtain ⟨c1,c2,c3,c4⟩:=kr _ _ hk1
      have hbk:=b.k
      have hl:=frs_len hx1.vals
      have hm:mid < τ1.next:=hx1.lt mid (by rw [hx1.tm];omega)
      simp [hx1.obj,c2,envC]
      have hn1:=hk1.next
      refine stepK_of (hx1.frames.append (by':=48) (frC ⟨t,e,[]⟩ nilSl) (by rw [hl];omega)) ?_
      have gg:∀ i,T1 i ≠ 4→(gone fv τ1).get i=τ1.get i:=fun i hi=>hx1.frames.gone_get hi
      have hm1:mid ≠ σ.next+1:=by rintro e;rw [e] at hx1;have:=hx1.tm;omega
      have hm0:mid ≠ σ.next:=by rintro e;rw [e] at hx1;have:=hx1.tm;omega
      simp [gone_next,get_new,get_set,Nat.ne_of_lt hm,gg mid (by rw [hx1.tm];omega),hx1.obj,hl,kid_addr0 h0,Ne.symm hm0,Ne.symm hm1,show σ.next ≠ τ1.next by omega,show σ.next+1 ≠ τ1.next by omega,gg σ.next (by omega),gg (σ.next+1) (by omega),c2,c4]
      refine open_ev ?_
      obtain ⟨p1,p2⟩:=hx1.pushF ⟨t,e,[]⟩ rfl (υ:=((gone fv τ1).new (.cells 4 (frs k vv ++ [frC ⟨t,e,[]⟩ nilSl]))).set mid (mobj sid fuel s.steps cv (.own τ1.next (k.length+1)))) rfl
      simp [kid_addr0 h0,gone_next,get_new,get_set,Ne.symm hm1,show σ.next+1 ≠ τ1.next by omega,gg (σ.next+1) (by omega),c4]
      simp [envC]
      exact fin ⟨.node (kidAt t 0) (e.opn t.rho r),{ s with store:=st },⟨t,e,[]⟩ :: k⟩ _ _ _ hr ⟨_,_,_,_,p1⟩ (hk1.trans p2)
  rw [if_neg k17] at hr
  simp [k17]
  refine step_ev h1 b (fun hf τ1 hm1 hk1=>?_) (fun hf=>?_)
  rotate_left
  · rw [if_pos hf] at hr
    exact hr _ T k h1 ko
  rw [if_neg (by omega)] at hr
  have b1:Bnd fuel (tick s) k:=b.tick
  have hi1:IdxOk (tick s):=hi
  have hn1:=hk1.next
  obtain ⟨c1,c2,c3,c4⟩:=kr _ _ hk1
  by_cases k1:t.h.kind=1
  · rw [if_pos (by unfold isLeaf;omega)] at hr
    have:leaf (tick s) t e=.ok (num t.h.n) (tick s):=by unfold leaf;rw [if_pos k1]
    rw [this] at hr
    simp [k1]
    refine num_ev (back_ev ?_)
    simp [c4]
    exact fin ⟨.val (num t.h.n),tick s,k⟩ τ1 T _ hr hm1 hk1
  by_cases k2:t.h.kind=2
  · rw [if_pos (by unfold isLeaf;omega)] at hr
    simp [k2,c2,efl]
    have hlf:leaf (tick s) t e=match e.find t.h.name with | some n=>if n.fn=true then .over (tick s) 6 else .ok n.v (tick s) | none=>.over (tick s) 6:=by unfold leaf;rw [if_neg k1,if_pos k2];cases e.find t.h.name <;> rfl
    refine find_ev (fun hf=>?_) (fun n l hf=>?_)
    · rw [hlf,hf] at hr
      simp
      exact must_ev (fun h=>by simp at h) (fun _=>hr _ T k hm1 (ko.trans hk1))
    · rw [hlf,hf] at hr
      simp [namesV]
      by_cases hfn:n.fn=true
      · simp only [hfn,if_true] at hr
        refine must_ev (fun h=>by simp [hfn] at h) (fun _=>hr _ T k hm1 (ko.trans hk1))
      · simp only [hfn,if_false] at hr
        refine must_ev (fun _=>?_) (fun h=>by simp at h;exact absurd h hfn)
        refine back_ev (v:=n.v) ?_
        simp [c4]
        exact fin ⟨.val n.v,tick s,k⟩ τ1 T _ hr hm1 hk1
  by_cases k18:t.h.kind=18
  · rw [if_pos (by unfold isLeaf;omega)] at hr
    have hlf:leaf (tick s) t e=inst (tick s) t e:=by unfold leaf;rw [if_neg k1,if_neg k2,if_pos k18]
    rw [hlf] at hr
    simp [k18,c2,efl]
    refine inst_ev hm1 b1 hi1 hw.rhos ?_
    cases hin:inst (tick s) t e with
    | over s' o =>
      rw [hin] at hr
      intro τ3 T3 k' hm3 hk3
      exact hr τ3 T3 k' hm3 ((ko.trans hk1).trans hk3)
    | ok v s' =>
      rw [hin] at hr
      intro τ3 T3 hm3 hk3
      refine back_ev ?_
      have kk:=hk1.trans hk3
      simp [(kr _ _ kk).2.2.2]
      exact fin ⟨.val v,s',k⟩ τ3 T3 _ hr hm3 kk
  by_cases k11:t.h.kind=11
  · have h0:0 < t.kids.length:=by rw [hw.len,k11];simp [nk]
    rw [if_pos (by unfold isLeaf;omega)] at hr
    have hlf:leaf (tick s) t e=make (coded (tick s) ⟨kidAt t 0,t.h.arg,e,none⟩).2 e t.rho (coded (tick s) ⟨kidAt t 0,t.h.arg,e,none⟩).1:=by unfold leaf;rw [if_neg k1,if_neg k2,if_neg k18];rfl
    rw [hlf] at hr
    simp [k11,c2,efl,kid_addr0 h0]
    refine coded_ev hm1 b1 (c:=⟨kidAt t 0,t.h.arg,e,none⟩) fun τ2 T2 hm2 hk2=>?_
    have kk2:=hk1.trans hk2
    obtain ⟨d1,d2,d3,d4⟩:=kr _ _ kk2
    simp [d2,efl]
    refine make_ev hm2 b1.Ok ?_
    cases hmk:make (coded (tick s) ⟨kidAt t 0,t.h.arg,e,none⟩).2 e t.rho (coded (tick s) ⟨kidAt t 0,t.h.arg,e,none⟩).1 with
    | over s' o =>
      rw [hmk] at hr
      intro τ3 T3 k' hm3 hk3
      exact hr τ3 T3 k' hm3 ((ko.trans kk2).trans hk3)
    | ok v s' =>
      rw [hmk] at hr
      intro τ3 T3 hm3 hk3
      refine back_ev ?_
      have kk:=kk2.trans hk3
      simp [(kr _ _ kk).2.2.2]
      exact fin ⟨.val v,s',k⟩ τ3 T3 _ hr hm3 kk
  rw [if_neg (by unfold isLeaf;omega)] at hr
  simp [k1,k2,k18,k11]
  by_cases k13:t.h.kind=13
  · have h0:0 < t.kids.length:=by rw [hw.len,k13];simp [nk]
    have h2:1 < t.kids.length:=by rw [hw.len,k13];simp [nk]
    rw [if_pos k13] at hr
    simp [k13]
    generalize hco:(⟨kidAt t 0,t.h.arg,e,some t.rhos⟩:Co)=co at hr
    have hcav:co.av=[.ref (kidAt t 0).av,str t.h.arg,namesV e.names,rhoV e.rhos,rhosV t.rhos]:=by rw [← hco];rfl
    obtain ⟨J,hJ⟩:∃ J:AFrame→AHeap→Prop,∀ fr υ,J fr υ↔∃ (id:Nat) (v:V) (s':Sa) (T3:Nat→Nat),fr=[(0,.ptr mid 0 0),(1,.ref t.av),(5,.ptr σ.next 0 0),(6,.ptr (σ.next+1) 0 0),(10,.ptr id 0 0)]∧code (tick s) e t.rho co=.ok v s'∧MA υ mid T3 fuel s' k∧Keep T τ T3 υ∧τ.next≤id∧id < υ.next∧T3 id=0∧υ.get id=some (.cells 4 [v.av]):=⟨_,fun _ _=>Iff.rfl⟩
    refine seqW_by J ?_ ?_
    · have rcl:acells (rhosV t.rhos)=some [rhosV t.rhos]:=rfl
      simp [c2,efl,kid_addr0 h0]
      simp [envC,rcl]
      rw [← hcav]
      refine ⟨?_,?_,?_⟩
      · refine coded_ev hm1 b1 fun τ2 T2 hm2 hk2=>?_
        have kk2:=hk1.trans hk2
        obtain ⟨d1,d2,d3,d4⟩:=kr _ _ kk2
        simp [d2]
        simp [envC]
        refine make_ev hm2 b1.Ok (e:=e) ?_
        cases hmk:make (coded (tick s) co).2 e t.rho (coded (tick s) co).1 with
        | over s' o =>
          rw [show code (tick s) e t.rho co=_ from hmk] at hr
          intro τ3 T3 k' hm3 hk3
          exact hr τ3 T3 k' hm3 ((ko.trans kk2).trans hk3)
        | ok v s' =>
          intro τ3 T3 hm3 hk3
          have kk:=kk2.trans hk3
          obtain ⟨x1,x2,x3,x4⟩:=kr _ _ kk
          have hn3:=kk.next
          simp [get_new,show σ.next ≠ τ3.next by omega,x2,kid_addr0 h0,hk4]
          simp [envC]
          have l:Loc τ.next T3 τ3 ((τ3.new (.cells 4 [zV4])).set τ3.next (.cells 4 [v.av])):=(Loc.new (.refl _ _ _) _).set (.inl (Nat.le_refl _))
          exact (hJ _ _).2 ⟨τ3.next,v,s',T3,rfl,hmk,hm3.loc l,kk.loc l,hn3,by simp,hm3.zero (Nat.le_refl _),by simp⟩
      · refine coded_ev hm1 b1 fun τ2 T2 hm2 hk2=>?_
        have kk2:=hk1.trans hk2
        obtain ⟨d1,d2,d3,d4⟩:=kr _ _ kk2
        have hn2:=kk2.next
        simp [d2,get_new,show σ.next ≠ τ2.next by omega,kid_addr0 h0]
        simp [envC]
        have hgn:=Grows.new τ2 (.cells 4 [zV4])
        refine make_ev (hm2.grows hgn) b1.Ok (e:=e) ?_
        cases hmk:make (coded (tick s) co).2 e t.rho (coded (tick s) co).1 with
        | over s' o =>
          rw [show code (tick s) e t.rho co=_ from hmk] at hr
          intro τ3 T3 k' hm3 hk3
          exact hr τ3 T3 k' hm3 (((ko.trans kk2).trans (Keep.grows hgn)).trans hk3)
        | ok v s' =>
          intro τ3 T3 hm3 hk3
          have kk:=(kk2.trans (Keep.grows hgn)).trans hk3
          have hn3:τ2.next+1≤τ3.next:=hk3.next
          have w:=hk3.get τ2.next (Nat.lt_succ_self _) (hm2.zero (Nat.le_refl _))
          rw [get_new,if_pos rfl] at w
          simp [w.2,hk4]
          have l:Loc τ.next T3 τ3 (τ3.set τ2.next (.cells 4 [v.av])):=Loc.set (.refl _ _ _) (.inr ⟨hn2,w.1⟩)
          exact (hJ _ _).2 ⟨τ2.next,v,s',T3,rfl,hmk,hm3.loc l,kk.loc l,hn2,by simp;omega,w.1,by simp⟩
      · have hgn:=Grows.new τ1 (.cells 4 [zV4])
        refine ⟨by simp [get_new,show σ.next ≠ τ1.next by omega,c2,envC],?_⟩
        refine coded_ev (hm1.grows hgn) b1 fun τ2 T2 hm2 hk2=>?_
        have kk2:=(hk1.trans (Keep.grows hgn)).trans hk2
        obtain ⟨d1,d2,d3,d4⟩:=kr _ _ kk2
        have hn2:τ1.next+1≤τ2.next:=hk2.next
        have w2:=hk2.get τ1.next (Nat.lt_succ_self _) (hm1.zero (Nat.le_refl _))
        rw [get_new,if_pos rfl] at w2
        simp [d2]
        simp [envC]
        refine make_ev hm2 b1.Ok (e:=e) ?_
        cases hmk:make (coded (tick s) co).2 e t.rho (coded (tick s) co).1 with
        | over s' o =>
          rw [show code (tick s) e t.rho co=_ from hmk] at hr
          intro τ3 T3 k' hm3 hk3
          exact hr τ3 T3 k' hm3 ((ko.trans kk2).trans hk3)
        | ok v s' =>
          intro τ3 T3 hm3 hk3
          have kk:=kk2.trans hk3
          have hn3:=hk3.next
          have w:=hk3.get τ1.next (by omega) w2.1
          rw [w2.2] at w
          simp [w.2,hk4]
          have l:Loc τ.next T3 τ3 (τ3.set τ1.next (.cells 4 [v.av])):=Loc.set (.refl _ _ _) (.inr ⟨hn1,w.1⟩)
          exact (hJ _ _).2 ⟨τ1.next,v,s',T3,rfl,hmk,hm3.loc l,kk.loc l,hn1,by simp;omega,w.1,by simp⟩
    · intro fr υ hj
      obtain ⟨id,v,s',T3,rfl,hcd,hm3,kk,i1,i2,i3,i4⟩:=(hJ fr υ).1 hj
      obtain ⟨x1,x2,x3,x4⟩:=kr _ _ kk
      rw [hcd] at hr
      simp only [Re.bind,Re.go] at hr
      simp [x2,efl,i4,hk4]
      refine with_ev ?_
      obtain ⟨sid,cv,fv,vv,hx⟩:=hm3
      have hcc:=code_codes hcd
      have hm0:mid ≠ σ.next:=by rintro e;rw [e] at hx;have:=hx.tm;omega
      have hm1':mid ≠ σ.next+1:=by rintro e;rw [e] at hx;have:=hx.tm;omega
      have l:Loc σ.next T3 υ (υ.set σ.next (.cells 2 [envC (e.with t.h.name v true)])):=Loc.set (.refl _ _ _) (.inr ⟨Nat.le_refl _,x1⟩)
      have hx2:=hx.loc l
      have kk2:=(ko.trans kk).loc l
      obtain ⟨q,rest,e1,e2,p1,p2⟩:=hx2.patchC (cs:=(tick s).codes) (c:=co) hcc (e.with t.h.name v true)
      have q0:q ≠ σ.next:=by rintro rfl;rw [get_set,if_pos rfl] at e2;simp at e2
      have q1:υ.get q=some (.cells 5 ((tick s).codes.map Co.av ++ co.av :: rest)):=by rw [← e2,get_set,if_neg q0]
      have hcl:(tick s).codes.length≤1000000000000:=b1.codes
      have hel:((tick s).codes.map Co.av ++ co.av :: rest)[(tick s).codes.length]?=some co.av:=get_mid _ _ _ (by simp)
      have hset:∀ y,((tick s).codes.map Co.av ++ co.av :: rest).set (tick s).codes.length y=(tick s).codes.map Co.av ++ y :: rest:=fun y=>set_mid _ _ _ _ (by simp)
      have dr:∀ e:En,List.drop 2 (envC e)=[]:=fun _=>rfl
      have ia:∀ υ':AHeap,υ'.get q=some (.cells 5 ((tick s).codes.map Co.av ++ co.av :: rest))→aIndexAddr 5 cv (int ((tick s).codes.length:Nat)) υ'=some (.ptr q (tick s).codes.length 0):=fun υ' hq=>by
        rw [e1,aIndexAddr_own,if_pos (by omega),Int.toNat_natCast,elAt_cells hq,hel];simp
      have hlen:∀ υ',aLenK .slice cv υ'=some (int (((tick s).codes.length+1:Nat):Int)):=fun υ'=>by rw [e1];rfl
      simp [x2,dr,get_set,hm0,hx.obj,hlen]
      rw [wrap64 (by omega)]
      refine stepP (ia (υ.set σ.next (.cells 2 [envC (e.with t.h.name v true)])) e2) ?_
      have pat:co.av.take 2 ++ envC (e.with t.h.name v true) ++ co.av.drop 4=Co.av { co with env:=e.with t.h.name v true }:=rfl
      have el2:(envC (e.with t.h.name v true)).length=2:=rfl
      have pat2:co.av.take 2 ++ (envC (e.with t.h.name v true) ++ co.av.drop 4)=Co.av { co with env:=e.with t.h.name v true }:=rfl
      have q2:σ.next ≠ q:=Ne.symm q0
      have q3:σ.next+1 ≠ q:=by rintro rfl;rw [x4] at q1;simp at q1
      have n0:σ.next+1 ≠ σ.next:=by omega
      simp [q1,q0,q2,q3,hel,hset,pat2,get_set,efl,x4,kid_addr1 h2]
      simp [envC]
      have l3:Loc σ.next T3 ((υ.set σ.next (.cells 2 [envC (e.with t.h.name v true)])).set q (.cells 5 ((tick s).codes.map Co.av ++ Co.av { co with env:=e.with t.h.name v true } :: rest))) (((υ.set σ.next (.cells 2 [envC (e.with t.h.name v true)])).set q (.cells 5 ((tick s).codes.map Co.av ++ Co.av { co with env:=e.with t.h.name v true } :: rest))).set (σ.next+1) (.cells 9 [[.ref (kidAt t 1).av,namesV (e.with t.h.name v true).names,rhoV (e.with t.h.name v true).rhos,.val (.int .u8 0),.val (.int .i64 0),.val (.int .i64 0),.val (.int .i64 0),.val (.bool false),.val (.string ByteArray.empty)]])):=Loc.set (.refl _ _ _) (.inr ⟨by omega,x3⟩)
      exact hr _ T3 (MA.loc ⟨_,_,_,_,p1⟩ l3) ((kk2.trans p2).loc l3)
  · rw [if_neg k13] at hr
    have h0:0 < t.kids.length:=by rw [hw.len];exact nk_pos (by have:=hw.kind;omega)
    simp [k13,c2,efl]
    refine wait_ev hm1 b1 h0 fun τ2 T2 hm2 hk2=>?_
    have kk2:=hk1.trans hk2
    simp [(kr _ _ kk2).2.2.2]
    exact fin ⟨.node (kidAt t 0) e,tick s,⟨t,e,[]⟩ :: k⟩ τ2 T2 _ hr hm2 kk2
end Go.Abs.Mac
