import Derived.Test.YtjilebpcaemopaaGreatDoorAtW
import Derived.Test.YtjilebpcaemopaaGreatDoorAtU
import Derived.Test.YtjilebpcaemopaaGreatDoorAtNodesP
set_option linter.unusedVariables false
set_option linter.unusedSimpArgs false
namespace Go.Abs.At
open Go Go.Abs Go.Proofs.AtD
attribute [local simp] Nat.add_assoc
def tnodeOf (x:T):Bool:=tnodeM x.h x.kids.length
theorem teach_ev {l:List T} (hb:T.sizes l < 1000000000000) (hk:∀ x ∈ T.alls l,Byte x.h.kind∧x.size < 1000000000000) {σ:AHeap} {k kp:AV→AHeap→Prop} (hq:k (bool ((T.alls l).all tnodeOf)) σ):Ev PR 157 [.fn (.func 158) [],T.vs l] σ k kp:=by
  refine Ev.pureD hq ((Dat.val _).low _) fun k' hk'=>?_
  refine T.each_ev 158 [] 0 (fun τ=>Grows σ τ∧(T.alls l).all tnodeOf=false) _ l (Nat.le_refl _) hb (fun i φ=>Grows σ φ∧∀ x ∈ (T.alls l).take i,tnodeOf x=true) ?_ ?_ σ _ _ (Nat.zero_le _) ⟨Grows.refl _,by simp⟩ ?_ ?_
  · rintro i φ ψ ⟨h1,h2⟩ h3
    exact ⟨h1.trans h3,h2⟩
  · rintro i x hi φ q qp _ ⟨h1,h2⟩ hT hF
    have hx:=List.mem_of_getElem? hi
    obtain ⟨hb1,hb2⟩:=hk x hx
    refine tnodeP_ev hb1 hb2 ?_
    cases hc:tnodeM x.h x.kids.length
    · refine hF φ (Up.refl _ _ _) ⟨h1,?_⟩
      cases hh:(T.alls l).all tnodeOf
      · rfl
      · have:=List.all_eq_true.1 hh x hx
        simp only [tnodeOf,hc] at this;cases this
    · refine hT φ (Up.refl _ _ _) ⟨h1,fun y hy=>?_⟩
      rw [List.take_add_one,hi] at hy
      rcases List.mem_append.1 hy with h | h
      · exact h2 y h
      · simp at h;subst h;exact hc
  · rintro τ hu ⟨h1,h2⟩
    rw [← T.alls_len,List.take_length] at h2
    have:=hk' _ h1
    rw [List.all_eq_true.2 h2] at this
    exact this
  · rintro τ hu ⟨h1,h2⟩
    have:=hk' _ h1
    rw [h2] at this
    exact this
theorem tmayP_ev {t:T} (hb:t.size≤4000) (hk:∀ x ∈ t.all,Byte x.h.kind) {σ:AHeap} {k kp:AV→AHeap→Prop} (hq:k (bool (tMayM t)) σ):Ev PR 113 [t.v] σ k kp:=by
  refine Ev.pureD hq ((Dat.val _).low _) fun k' hk'=>?_
  apply F113_ev;unfold F113
  simp [get_new]
  have e1:T.sizes [t]=t.size:=by simp [T.sizes]
  have e3:T.alls [t]=t.all:=by simp [T.alls]
  refine Ev.weak (.cons (T.clip1 t) .nil) ?_
  refine T.sizes_ev (by omega) ?_
  have h1:(T.sizes [t]:Int)≤4000:=by omega
  simp [h1,get_new]
  refine Ev.weak (.cons (.refl _) (.cons (T.clip1 t) .nil)) ?_
  refine teach_ev (by omega) (fun x hx=>?_) ?_
  · rw [e3] at hx
    exact ⟨hk x hx,by have:=T.all_le' t x hx;omega⟩
  · rw [e3]
    have:=hk' _ (Grows.new σ (.cells 8 [t.av]))
    simp only [tMayM,hb,decide_true,Bool.true_and] at this
    exact this
theorem tMay_stub {t:AT} (h3:t.kids.length≤3):tMayM (stub t)=tnodeM t.h t.kids.length:=by
  have hl:tnodeM leaf.h leaf.kids.length=true:=by decide
  have hs:(stub t).size≤4000:=by rw [stub_size];omega
  have hks:(stub t).kids.length=t.kids.length:=by simp [stub,T.kids]
  simp only [tMayM,hs,decide_true,Bool.true_and]
  cases hc:tnodeM t.h t.kids.length
  · cases hh:(stub t).all.all fun x=>tnodeM x.h x.kids.length
    · rfl
    · have:=List.all_eq_true.1 hh (stub t) (by rw [T.all_eq];simp)
      rw [hks] at this
      have e:(stub t).h=t.h:=rfl
      rw [e,hc] at this;cases this
  · refine List.all_eq_true.2 fun x hx=>?_
    rcases T.all_stub hx with rfl | rfl
    · rw [hks];exact hc
    · exact hl
theorem stub_kinds {t:AT} (h:Byte t.h.kind):∀ x ∈ (stub t).all,Byte x.h.kind:=fun x hx=>by
  rcases T.all_stub hx with rfl | rfl
  · exact h
  · exact ⟨by decide,by decide⟩
theorem tnodeM_4 (h:Head) {n:Nat} (hn:4≤n):tnodeM h n=false:=by
  have:=kidsM_le h.kind
  have:¬ ((n:Int)=kidsM h.kind):=by omega
  simp [tnodeM,this]
theorem bare17 {h:Head} (hk:h.kind=17):decide (h=⟨17,0,h.pos,0,ByteArray.empty,ByteArray.empty,ByteArray.empty⟩)=(bareM h && decide (h.name=ByteArray.empty)):=by
  obtain ⟨a1,a2,a3,a4,a5,a6,a7⟩:=h
  simp only at hk
  subst hk
  by_cases b2:a2=0 <;> by_cases b4:a4=0 <;> by_cases b5:a5=ByteArray.empty <;> by_cases b6:a6=ByteArray.empty <;> by_cases b7:a7=ByteArray.empty <;> simp [bareM,b2,b4,b5,b6,b7]
theorem head18 {t:AT} (h18:t.h.kind=18):headM t=(decide (t.kids.length≤3) && tnodeM { t.h with kind:=2 } t.kids.length):=by
  have e0:kidsM 2=0:=rfl
  have en:((t.kids.length:Int)=0)=(t.kids.length=0):=by simp
  have hh:headM t=(bareM t.h && nameM t.h.name && decide (0≤t.h.pos) && decide (t.kids.length=0)):=by
    unfold headM;rw [if_neg (by omega),if_pos h18]
  rw [hh]
  simp only [tnodeM,e0,en]
  have k9:¬ ((2:Int)=9):=by decide
  have k1:decide ((2:Int)=1)=false:=by decide
  have k2:decide (True∨(2:Int)=12∨(2:Int)=13)=true:=by simp
  have k3:decide ((2:Int)=11∨(2:Int)=13∨(2:Int)=16)=false:=by decide
  have k4:decide ((2:Int)=15∨(2:Int)=16)=false:=by decide
  have k0:decide ((0:Int)≤0)=true:=by decide
  rw [if_neg k9,k1,k2,k3,k4,k0]
  simp only [fitM,bareM,if_true,Bool.false_eq_true,if_false,Bool.true_and,Bool.false_or]
  by_cases b3:t.kids.length=0
  · have h3:t.kids.length≤3:=by omega
    simp only [b3,h3,decide_true,Bool.true_and,Bool.and_true]
    by_cases c1:t.h.op=0 <;> by_cases c2:t.h.n=0 <;> by_cases c3:t.h.arg=ByteArray.empty <;> by_cases c4:t.h.exn=ByteArray.empty <;> by_cases c5:0≤t.h.pos <;> cases c6:nameM t.h.name <;> simp [c1,c2,c3,c4,c5,c6]
  · simp only [b3,decide_false,Bool.false_and,Bool.and_false]
theorem headed_ev {t:AT} (hkd:Byte t.h.kind) (hb:t.size < 1000000000000) {σ:AHeap} {k kp:AV→AHeap→Prop} (hk:k (bool (headM t)) σ):Ev PR 73 [t.v] σ k kp:=by
  refine Ev.pureD hk ((Dat.val _).low _) fun k' hk'=>?_
  apply F73_ev;unfold F73
  have hlen:∀ ω,aLenK .slice (AT.vs t.kids) ω=some (int t.kids.length):=fun ω=>by simp
  have hkl:=t.kids_len
  have e5:((t.kids.length:Int)=1)=(t.kids.length=1):=by simp;omega
  simp [get_new]
  generalize hτ:σ.new _=τ
  have g0:τ.get σ.next=some (.cells 19 [t.av]):=by rw [← hτ];simp [get_new]
  have hG:Grows σ τ:=by rw [← hτ];exact Grows.new _ _
  clear hτ
  refine seqW_by (fun fr υ=>fr=[(1,.ptr σ.next 0 0)]∧Grows σ υ∧∃ t':AT,υ.get σ.next=some (.cells 19 [t'.av])∧Byte t'.h.kind∧t'.size=t.size∧t'.kids=t.kids∧headM t=(decide (t'.kids.length≤3) && tnodeM t'.h t'.kids.length)) ?_ ?_
  · simp [g0]
    by_cases h17:t.h.kind=17
    · have hq:aBin .eql (.agg [.i,.i,.i,.i,.s,.s,.s]) (.agg t.h.av) (.agg [u8 17,u8 0,int t.h.pos,int 0,str ByteArray.empty,str ByteArray.empty,str ByteArray.empty])=some (bool (bareM t.h && decide (t.h.name=ByteArray.empty))):=by
        have:=eqHead t.h ⟨17,0,t.h.pos,0,ByteArray.empty,ByteArray.empty,ByteArray.empty⟩
        have e:(Head.av ⟨17,0,t.h.pos,0,ByteArray.empty,ByteArray.empty,ByteArray.empty⟩)=[u8 17,u8 0,int t.h.pos,int 0,str ByteArray.empty,str ByteArray.empty,str ByteArray.empty]:=rfl
        rw [e] at this
        rw [aBin_agg,this]
        have:decide (t.h=⟨17,0,t.h.pos,0,ByteArray.empty,ByteArray.empty,ByteArray.empty⟩)=(bareM t.h && decide (t.h.name=ByteArray.empty)):=bare17 h17
        rw [this];rfl
      have fin:∀ v,headM t=v→k' (bool v) τ:=fun v h=>by rw [← h];exact hk' _ hG
      simp [h17,g0]
      refine stepP (x:=bool (bareM t.h && decide (t.h.name=ByteArray.empty))) hq ?_
      cases hb1:(bareM t.h && decide (t.h.name=ByteArray.empty)) <;> by_cases b2:0≤t.h.pos <;> by_cases b3:t.kids.length=1
      all_goals
        simp [g0,b2,b3,hlen,e5]
        exact fin _ (by simp [headM,h17,hb1,b2,b3])
    · by_cases h18:t.h.kind=18
      · simp [h17,h18,g0]
        refine ⟨hG.set (Nat.le_refl _) _,.mk { t.h with kind:=2 } t.rho t.rhos t.eff t.type t.res t.kids,?_,?_,?_,rfl,?_⟩
        · obtain ⟨h,r,rs,e,ty,re,ks⟩:=t;rfl
        · exact ⟨(by decide:(0:Int)≤2),(by decide:(2:Int)≤255)⟩
        · obtain ⟨h,r,rs,e,ty,re,ks⟩:=t;rfl
        · exact head18 h18
      · simp [h17,h18]
        refine ⟨hG,t,rfl,hkd,rfl,rfl,?_⟩
        simp only [headM,h17,h18,if_false]
        by_cases h3:t.kids.length≤3
        · have:min t.kids.length 4=t.kids.length:=by omega
          rw [this];simp [h3]
        · have:min t.kids.length 4=4:=by omega
          rw [this,tnodeM_4 t.h (Nat.le_refl 4)];simp [h3]
  · rintro fr υ ⟨rfl,u1,t',u2,u3,u4,u5,u6⟩
    have hlen':∀ ω,aLenK .slice (AT.vs t'.kids) ω=some (int t'.kids.length):=fun ω=>by simp
    have hkl':=t'.kids_len
    have fin:=hk' _ u1
    rw [u6] at fin
    by_cases h3:t'.kids.length≤3
    · have h3':(t'.kids.length:Int)≤3:=by omega
      simp [u2,hlen',h3']
      refine stub_ev (by omega) ?_
      refine tmayP_ev (by rw [stub_size];omega) (stub_kinds u3) ?_
      rw [tMay_stub h3]
      simpa [h3] using fin
    · have h3':¬ (t'.kids.length:Int)≤3:=by omega
      simp [u2,hlen',h3']
      simpa [h3] using fin
theorem nodup_at {l:List Int}:l.Nodup↔∀ (i:Nat) (r:Int),l[i]?=some r→r ∉ l.take i:=by
  induction l with
  | nil=>simp
  | cons a l ih =>
    rw [List.nodup_cons,ih]
    constructor
    · rintro ⟨h1,h2⟩ i r hi hm
      cases i with
      | zero=>simp at hm
      | succ i =>
        simp only [List.getElem?_cons_succ] at hi
        simp only [List.take_succ_cons,List.mem_cons] at hm
        rcases hm with rfl | hm
        · exact h1 (List.mem_of_getElem? hi)
        · exact h2 i r hi hm
    · intro h
      refine ⟨fun hm=>?_,fun i r hi hm=>?_⟩
      · obtain ⟨j,hj⟩:=List.getElem?_of_mem hm
        exact h (j+1) a (by simpa using hj) (by simp)
      · exact h (i+1) r (by simpa using hi) (by simp [hm])
theorem rhosMayM_eq (t:AT):rhosMayM t=(!decide (∃ r ∈ t.rhos,r < if t.h.kind=13 then 1 else 0) && (!decide (t.h.kind=13) || decide t.rhos.Nodup)):=by
  cases hh:rhosMayM t
  · symm
    obtain ⟨i,hi,hf⟩:∃ i,i < t.rhos.length∧rhoAt t i=false:=by
      have:¬ ∀ i,i < t.rhos.length→rhoAt t i=true:=fun h=>by rw [rhosMayM_yes h] at hh;cases hh
      simp only [Classical.not_forall] at this
      obtain ⟨i,h1,h2⟩:=this
      exact ⟨i,h1,by simpa using h2⟩
    obtain ⟨r,hr⟩:=get_some hi
    have hrm:=List.mem_of_getElem? hr
    simp only [rhoAt,hr,Bool.and_eq_false_imp,decide_eq_true_eq] at hf
    by_cases h13:t.h.kind=13
    · simp only [h13,if_true,decide_true,Bool.not_true,Bool.false_or]
      by_cases h1:r < 1
      · have:decide (∃ r ∈ t.rhos,r < 1)=true:=decide_eq_true ⟨r,hrm,h1⟩
        simp [this]
      · have hnd:¬ t.rhos.Nodup:=fun hnd=>by
          have h2:=nodup_at.1 hnd i r hr
          have h3:=hf (by omega)
          have h0:¬ r=0:=by omega
          simp [h13,h0,h2] at h3
        simp [hnd]
    · simp only [h13,if_false]
      have:r < 0:=by
        refine Classical.byContradiction fun h=>?_
        have:=hf (by omega)
        simp [h13] at this
      have:decide (∃ r ∈ t.rhos,r < 0)=true:=decide_eq_true ⟨r,hrm,this⟩
      simp [this]
  · symm
    have hall:∀ (i:Nat) r,t.rhos[i]?=some r→0≤r∧(t.h.kind=13→r ≠ 0∧r ∉ t.rhos.take i):=fun i r hr=>by
      have hi:=(List.getElem?_eq_some_iff.1 hr).1
      have:=List.all_eq_true.1 hh i (List.mem_range.2 hi)
      simp only [rhoAt,hr,Bool.and_eq_true,decide_eq_true_eq,Bool.or_eq_true,Bool.not_eq_true',decide_eq_false_iff_not] at this
      refine ⟨this.1,fun h13=>?_⟩
      rcases this.2 with h | h
      · exact absurd h13 h
      · exact h
    have h1:¬ ∃ r ∈ t.rhos,r < if t.h.kind=13 then 1 else 0:=by
      rintro ⟨r,hr,hlt⟩
      obtain ⟨i,hi⟩:=List.getElem?_of_mem hr
      obtain ⟨a,b⟩:=hall i r hi
      split at hlt
      · rename_i h;have:=(b h).1;omega
      · omega
    have h2:t.h.kind=13→t.rhos.Nodup:=fun h=>nodup_at.2 fun i r hr=>((hall i r hr).2 h).2
    by_cases h13:t.h.kind=13
    · simp [h13,h2 h13] at h1 ⊢
      exact h1
    · simp [h13] at h1 ⊢
      exact h1
def fRho (k:Int):Bool:=decide (k=3∨k=6∨k=17∨k=11∨k=13∨k=18)
def fRhos (k:Int):Bool:=decide (k=13∨k=18)
def fEff (k:Int):Bool:=decide (k=11∨k=13∨k=18)
def fT (k:Int):Bool:=decide (k=11∨k=13∨k=15)
def fRes (k:Int):Bool:=decide (k=13)
theorem ofKind_eq (k:Int):ofKind k=[fRho k,fRhos k,fEff k,fT k,fRes k]:=by
  unfold ofKind fRho fRhos fEff fT fRes
  by_cases h3:k=3
  · subst h3;decide
  by_cases h6:k=6
  · subst h6;decide
  by_cases h17:k=17
  · subst h17;decide
  by_cases h11:k=11
  · subst h11;decide
  by_cases h13:k=13
  · subst h13;decide
  by_cases h15:k=15
  · subst h15;decide
  by_cases h18:k=18
  · subst h18;decide
  simp [h3,h6,h17,h11,h13,h15,h18]
def nodeP (t:AT):Bool :=
  (headM t && regionsB t (fRho t.h.kind) (fRhos t.h.kind) && (!decide (t.h.kind=13) || decide t.rhos.Nodup)) && (if fEff t.h.kind=true then effMayM t.eff else decide (t.eff.length=0))
  && ((if fT t.h.kind=true then t.type.may else plainM t.type) && (if fRes t.h.kind=true then t.res.may else plainM t.res))
set_option maxHeartbeats 4000000 in
theorem nodeP_eq (t:AT):nodeP t=nodeM t:=by
  have er:(0 < t.rhos.length)=¬ (t.rhos.length=0):=by simp [Nat.pos_iff_ne_zero]
  have em:t.eff.length=0→effMayM t.eff=true:=fun h=>by simp [effMayM,h]
  unfold nodeP nodeM regionsB
  rw [rhosMayM_eq]
  generalize decide (∃ r ∈ t.rhos,r < if t.h.kind=13 then 1 else 0)=X
  generalize headM t=H
  generalize t.type.may=A
  generalize plainM t.type=B
  generalize t.res.may=C
  generalize plainM t.res=D
  generalize decide t.rhos.Nodup=N
  generalize effMayM t.eff=E at em
  generalize t.eff.length=m at em
  generalize t.rhos.length=n
  generalize t.rho=r
  generalize t.h.kind=k
  clear er
  unfold fRho fRhos fEff fT fRes
  by_cases d3:k=3
  · subst d3;skip
    rcases Decidable.em (m=0) with m0 | m0
    all_goals rcases Decidable.em (n=0) with n0 | n0
    all_goals rcases Int.lt_trichotomy r 0 with r0 | r0 | r0
    all_goals
      have em':=em
      first
        | (have r1:¬ r < 0:=by omega
           have r2:0≤r:=by omega
           have r3:r=0:=r0
           subst r3
           cases H <;> cases X <;> cases N <;> cases E <;> simp [m0,n0] at em' ⊢)
        | (have r1:¬ r < 0:=by omega
           have r2:0≤r:=by omega
           have r3:¬ r=0:=by omega
           have r4:¬ r < 1:=by omega
           cases H <;> cases X <;> cases N <;> cases E <;> simp [m0,n0,r1,r2,r3,r4] at em' ⊢)
        | (have r2:¬ 0≤r:=by omega
           have r3:¬ r=0:=by omega
           have r4:r < 1:=by omega
           cases H <;> cases X <;> cases N <;> cases E <;> simp [m0,n0,r0,r2,r3,r4] at em' ⊢)
  by_cases d6:k=6
  · subst d6;skip
    rcases Decidable.em (m=0) with m0 | m0
    all_goals rcases Decidable.em (n=0) with n0 | n0
    all_goals rcases Int.lt_trichotomy r 0 with r0 | r0 | r0
    all_goals
      have em':=em
      first
        | (have r1:¬ r < 0:=by omega
           have r2:0≤r:=by omega
           have r3:r=0:=r0
           subst r3
           cases H <;> cases X <;> cases N <;> cases E <;> simp [m0,n0] at em' ⊢)
        | (have r1:¬ r < 0:=by omega
           have r2:0≤r:=by omega
           have r3:¬ r=0:=by omega
           have r4:¬ r < 1:=by omega
           cases H <;> cases X <;> cases N <;> cases E <;> simp [m0,n0,r1,r2,r3,r4] at em' ⊢)
        | (have r2:¬ 0≤r:=by omega
           have r3:¬ r=0:=by omega
           have r4:r < 1:=by omega
           cases H <;> cases X <;> cases N <;> cases E <;> simp [m0,n0,r0,r2,r3,r4] at em' ⊢)
  by_cases d11:k=11
  · subst d11;skip
    rcases Decidable.em (m=0) with m0 | m0
    all_goals rcases Decidable.em (n=0) with n0 | n0
    all_goals rcases Int.lt_trichotomy r 0 with r0 | r0 | r0
    all_goals
      have em':=em
      first
        | (have r1:¬ r < 0:=by omega
           have r2:0≤r:=by omega
           have r3:r=0:=r0
           subst r3
           cases H <;> cases X <;> cases N <;> cases E <;> simp [m0,n0] at em' ⊢)
        | (have r1:¬ r < 0:=by omega
           have r2:0≤r:=by omega
           have r3:¬ r=0:=by omega
           have r4:¬ r < 1:=by omega
           cases H <;> cases X <;> cases N <;> cases E <;> simp [m0,n0,r1,r2,r3,r4] at em' ⊢)
        | (have r2:¬ 0≤r:=by omega
           have r3:¬ r=0:=by omega
           have r4:r < 1:=by omega
           cases H <;> cases X <;> cases N <;> cases E <;> simp [m0,n0,r0,r2,r3,r4] at em' ⊢)
  by_cases d13:k=13
  · subst d13;skip
    rcases Decidable.em (m=0) with m0 | m0
    all_goals rcases Decidable.em (n=0) with n0 | n0
    all_goals rcases Int.lt_trichotomy r 0 with r0 | r0 | r0
    all_goals
      have em':=em
      first
        | (have r1:¬ r < 0:=by omega
           have r2:0≤r:=by omega
           have r3:r=0:=r0
           subst r3
           cases H <;> cases X <;> cases N <;> cases E <;> simp [m0,n0] at em' ⊢)
        | (have r1:¬ r < 0:=by omega
           have r2:0≤r:=by omega
           have r3:¬ r=0:=by omega
           have r4:¬ r < 1:=by omega
           cases H <;> cases X <;> cases N <;> cases E <;> simp [m0,n0,r1,r2,r3,r4] at em' ⊢)
        | (have r2:¬ 0≤r:=by omega
           have r3:¬ r=0:=by omega
           have r4:r < 1:=by omega
           cases H <;> cases X <;> cases N <;> cases E <;> simp [m0,n0,r0,r2,r3,r4] at em' ⊢)
  by_cases d15:k=15
  · subst d15;skip
    rcases Decidable.em (m=0) with m0 | m0
    all_goals rcases Decidable.em (n=0) with n0 | n0
    all_goals rcases Int.lt_trichotomy r 0 with r0 | r0 | r0
    all_goals
      have em':=em
      first
        | (have r1:¬ r < 0:=by omega
           have r2:0≤r:=by omega
           have r3:r=0:=r0
           subst r3
           cases H <;> cases X <;> cases N <;> cases E <;> simp [m0,n0] at em' ⊢)
        | (have r1:¬ r < 0:=by omega
           have r2:0≤r:=by omega
           have r3:¬ r=0:=by omega
           have r4:¬ r < 1:=by omega
           cases H <;> cases X <;> cases N <;> cases E <;> simp [m0,n0,r1,r2,r3,r4] at em' ⊢)
        | (have r2:¬ 0≤r:=by omega
           have r3:¬ r=0:=by omega
           have r4:r < 1:=by omega
           cases H <;> cases X <;> cases N <;> cases E <;> simp [m0,n0,r0,r2,r3,r4] at em' ⊢)
  by_cases d17:k=17
  · subst d17;skip
    rcases Decidable.em (m=0) with m0 | m0
    all_goals rcases Decidable.em (n=0) with n0 | n0
    all_goals rcases Int.lt_trichotomy r 0 with r0 | r0 | r0
    all_goals
      have em':=em
      first
        | (have r1:¬ r < 0:=by omega
           have r2:0≤r:=by omega
           have r3:r=0:=r0
           subst r3
           cases H <;> cases X <;> cases N <;> cases E <;> simp [m0,n0] at em' ⊢)
        | (have r1:¬ r < 0:=by omega
           have r2:0≤r:=by omega
           have r3:¬ r=0:=by omega
           have r4:¬ r < 1:=by omega
           cases H <;> cases X <;> cases N <;> cases E <;> simp [m0,n0,r1,r2,r3,r4] at em' ⊢)
        | (have r2:¬ 0≤r:=by omega
           have r3:¬ r=0:=by omega
           have r4:r < 1:=by omega
           cases H <;> cases X <;> cases N <;> cases E <;> simp [m0,n0,r0,r2,r3,r4] at em' ⊢)
  by_cases d18:k=18
  · subst d18;skip
    rcases Decidable.em (m=0) with m0 | m0
    all_goals rcases Decidable.em (n=0) with n0 | n0
    all_goals rcases Int.lt_trichotomy r 0 with r0 | r0 | r0
    all_goals
      have em':=em
      first
        | (have r1:¬ r < 0:=by omega
           have r2:0≤r:=by omega
           have r3:r=0:=r0
           subst r3
           cases H <;> cases X <;> cases N <;> cases E <;> simp [m0,n0] at em' ⊢)
        | (have r1:¬ r < 0:=by omega
           have r2:0≤r:=by omega
           have r3:¬ r=0:=by omega
           have r4:¬ r < 1:=by omega
           cases H <;> cases X <;> cases N <;> cases E <;> simp [m0,n0,r1,r2,r3,r4] at em' ⊢)
        | (have r2:¬ 0≤r:=by omega
           have r3:¬ r=0:=by omega
           have r4:r < 1:=by omega
           cases H <;> cases X <;> cases N <;> cases E <;> simp [m0,n0,r0,r2,r3,r4] at em' ⊢)
  · skip
    rcases Decidable.em (m=0) with m0 | m0
    all_goals rcases Decidable.em (n=0) with n0 | n0
    all_goals rcases Int.lt_trichotomy r 0 with r0 | r0 | r0
    all_goals
      have em':=em
      first
        | (have r1:¬ r < 0:=by omega
           have r2:0≤r:=by omega
           have r3:r=0:=r0
           subst r3
           cases H <;> cases X <;> cases N <;> cases E <;> simp [d3,d6,d11,d13,d15,d17,d18,m0,n0] at em' ⊢)
        | (have r1:¬ r < 0:=by omega
           have r2:0≤r:=by omega
           have r3:¬ r=0:=by omega
           have r4:¬ r < 1:=by omega
           cases H <;> cases X <;> cases N <;> cases E <;> simp [d3,d6,d11,d13,d15,d17,d18,m0,n0,r1,r2,r3,r4] at em' ⊢)
        | (have r2:¬ 0≤r:=by omega
           have r3:¬ r=0:=by omega
           have r4:r < 1:=by omega
           cases H <;> cases X <;> cases N <;> cases E <;> simp [d3,d6,d11,d13,d15,d17,d18,m0,n0,r0,r2,r3,r4] at em' ⊢)
end Go.Abs.At
namespace Go.Abs.At
open Go Go.Abs Go.Proofs.AtD
attribute [local simp] Nat.add_assoc
def OnceGood:Prop:=∀ {l:List Int},l.length≤50→∀ {σ:AHeap} {k kp:AV→AHeap→Prop},k (bool (decide l.Nodup)) σ→Ev PR 75 [rhosV l] σ k kp
theorem AT.Ok.rhos50 {t:AT} (h:t.Ok):t.rhos.length≤50:=by
  obtain ⟨a,b,c,d,e,f,g⟩:=t
  have:=h.1
  simp only [AT.small] at this
  exact this.2.1
theorem nodeP_ev (once:OnceGood) {t:AT} (hok:t.Ok) (hkd:Byte t.h.kind) {σ:AHeap} {k kp:AV→AHeap→Prop} (hk:k (bool (nodeM t)) σ):Ev PR 41 [t.v] σ k kp:=by
  refine Ev.pureD hk ((Dat.val _).low _) fun k' hk'=>?_
  apply F41_ev;unfold F41
  simp [get_new]
  refine of_ev ?_
  rw [ofKind_eq]
  simp
  generalize hτ:AHeap.set _ _ _=τ
  have g0:τ.get σ.next=some (.cells 19 [t.av]):=by rw [← hτ];simp [get_set,get_new]
  have g1:τ.get (σ.next+1)=some (.cells 5 [[bool (fRho t.h.kind),bool (fRhos t.h.kind),bool (fEff t.h.kind),bool (fT t.h.kind),bool (fRes t.h.kind)]]):=by rw [← hτ];simp [get_set,get_new]
  have hG:Grows σ τ:=by rw [← hτ];exact ((Grows.new _ _).trans (Grows.new _ _)).set (by simp) _
  clear hτ
  have fin:∀ v,nodeP t=v→k' (bool v) τ:=fun v h=>by rw [← h,nodeP_eq];exact hk' _ hG
  refine seqW_by (fun fr υ=>υ=τ∧fr=[(1,.ptr σ.next 0 0),(3,.ptr (σ.next+1) 0 0),(8,bool (!(headM t && regionsB t (fRho t.h.kind) (fRhos t.h.kind) && (!decide (t.h.kind=13) || decide t.rhos.Nodup))))]) ?_ ?_
  · simp [g0,g1]
    refine headed_ev hkd (by have:=hok.size;omega) ?_
    cases hH:headM t
    · simp
    simp [g0,g1]
    refine regions_ev hok.rhos ?_
    cases hR:regionsB t (fRho t.h.kind) (fRhos t.h.kind)
    · simp
    simp [g0,g1]
    by_cases h13:t.h.kind=13
    · simp [h13,g0,g1]
      refine once hok.rhos50 ?_
      simp
    · simp [h13]
  · rintro fr υ ⟨rfl,rfl⟩
    cases hX:(headM t && regionsB t (fRho t.h.kind) (fRhos t.h.kind) && (!decide (t.h.kind=13) || decide t.rhos.Nodup))
    · simp
      exact fin _ (by simp [nodeP,hX])
    simp [g0,g1]
    refine seqW_by (fun fr ω=>ω=υ∧fr=[(1,.ptr σ.next 0 0),(3,.ptr (σ.next+1) 0 0),(26,bool (!(if fEff t.h.kind=true then effMayM t.eff else decide (t.eff.length=0))))]) ?_ ?_
    · have hlen:∀ ω,aLenK .slice (effV t.eff) ω=some (int t.eff.length):=fun ω=>by simp [effV]
      cases hE:fEff t.h.kind
      · simp [g0,g1,hE,hlen]
        cases t.eff <;> simp
      · simp [g0,g1,hE]
        refine effMay_ev hok.eff ?_
        cases hm:effMayM t.eff <;> simp [g0,g1,hE,hm]
    · rintro fr ω ⟨rfl,rfl⟩
      cases hY:(if fEff t.h.kind=true then effMayM t.eff else decide (t.eff.length=0))
      · simp
        exact fin _ (by simp only [nodeP,hX,hY];rfl)
      simp [g0,g1]
      refine fitsP_ev hok.type ?_
      cases hT:(if fT t.h.kind=true then t.type.may else plainM t.type)
      · simp
        exact fin _ (by simp only [nodeP,hX,hY,hT];rfl)
      simp [g0,g1]
      refine fitsP_ev hok.res ?_
      cases hS:(if fRes t.h.kind=true then t.res.may else plainM t.res)
      all_goals
        first | simp | skip
        exact fin _ (by simp only [nodeP,hX,hY,hT,hS];rfl)
end Go.Abs.At
