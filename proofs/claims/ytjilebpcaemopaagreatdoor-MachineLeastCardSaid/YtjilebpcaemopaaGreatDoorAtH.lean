import Derived.Test.YtjilebpcaemopaaGreatDoorAtE
import Derived.Test.YtjilebpcaemopaaGreatDoorAbsO
set_option linter.unusedVariables false
set_option linter.unusedSimpArgs false
namespace Go.Abs.At
open Go Go.Abs Go.Proofs.AtD
attribute [local simp] Nat.add_assoc
mutual
def AT.all:AT→List AT
  | .mk h r rs e t s ks=>.mk h r rs e t s ks :: AT.alls ks
def AT.alls:List AT→List AT
  | []=>[]
  | t :: ts=>AT.all t ++ AT.alls ts
end
mutual
theorem AT.all_len:∀ t:AT,t.all.length=t.size
  | .mk h r rs e t s ks=>by simp [AT.all,AT.size,AT.alls_len ks,Nat.add_comm 1]
theorem AT.alls_len:∀ l:List AT,(AT.alls l).length=AT.sizes l
  | []=>rfl
  | t :: ts=>by simp [AT.alls,AT.sizes,AT.all_len t,AT.alls_len ts]
end
theorem AT.alls_append (l m:List AT):AT.alls (l ++ m)=AT.alls l ++ AT.alls m:=by
  induction l with
  | nil=>rfl
  | cons t l ih=>simp [AT.alls,ih]
theorem AT.sizes_append (l m:List AT):AT.sizes (l ++ m)=AT.sizes l+AT.sizes m:=by
  induction l with
  | nil=>simp [AT.sizes]
  | cons t l ih=>simp [AT.sizes,ih]
theorem AT.all_eq (t:AT):t.all=t :: AT.alls t.kids:=by cases t;rfl
theorem AT.size_eq (t:AT):t.size=1+AT.sizes t.kids:=by cases t;rfl
theorem AT.len_sizes (l:List AT):l.length≤AT.sizes l:=by
  induction l with
  | nil=>simp
  | cons a l ih=>have:=a.size_pos;simp [AT.sizes];omega
theorem AT.sizes_take_le (l:List AT) (i:Nat):AT.sizes (l.take i)≤AT.sizes l:=by
  conv=>rhs;rw [← List.take_append_drop i l,AT.sizes_append]
  omega
theorem AT.alls_at {l:List AT} {j m:Nat} {t x:AT} (h:l[j]?=some t) (hm:t.all[m]?=some x):(AT.alls l)[AT.sizes (l.take j)+m]?=some x:=by
  have hj:j < l.length:=(List.getElem?_eq_some_iff.1 h).1
  have e:l=l.take j ++ t :: l.drop (j+1):=by
    have h2:l[j]=t:=by rw [List.getElem?_eq_getElem hj] at h;exact Option.some.inj h
    rw [← h2,← List.drop_eq_getElem_cons hj,List.take_append_drop]
  have hm':m < t.all.length:=(List.getElem?_eq_some_iff.1 hm).1
  conv=>lhs;rw [e,AT.alls_append]
  rw [List.getElem?_append_right (by rw [AT.alls_len,← e];omega)]
  simp only [AT.alls]
  rw [List.getElem?_append_left (by rw [AT.alls_len,← e];omega),AT.alls_len,← e,Nat.add_sub_cancel_left]
  exact hm
structure Up (sz b:Nat) (σ τ:AHeap):Prop where
  next:σ.next≤τ.next
  get:∀ i els,b≤i→i < σ.next→σ.get i=some (.cells sz els)→τ.get i=σ.get i
theorem Up.refl (sz b σ):Up sz b σ σ:=⟨Nat.le_refl _,fun _ _ _ _ _=>rfl⟩
theorem Up.trans {sz b σ τ υ} (h:Up sz b σ τ) (k:Up sz b τ υ):Up sz b σ υ:=⟨Nat.le_trans h.next k.next,fun i els h1 h2 h3=>(k.get i els h1 (Nat.lt_of_lt_of_le h2 h.next) (by rw [h.get i els h1 h2 h3];exact h3)).trans (h.get i els h1 h2 h3)⟩
theorem Up.of {sz b σ τ} (h:Grows σ τ):Up sz b σ τ:=⟨h.next,fun i _ _ hi _=>h.get i hi⟩
theorem each_ev (g:FuncId) (cap:List AV) (b:Nat) (S:AHeap→Prop):∀ (N:Nat) (l:List AT),AT.sizes l≤N→AT.sizes l < 1000000000000→∀ (I:Nat→AHeap→Prop),(∀ i σ τ,I i σ→Grows σ τ→I i τ) →
    (∀ (i:Nat) t,(AT.alls l)[i]?=some t→∀ (σ:AHeap) (k kp:AV→AHeap→Prop),b≤σ.next→I i σ→(∀ τ,Up 19 b σ τ→I (i+1) τ→k (.val (.bool true)) τ)→(∀ τ,Up 19 b σ τ→S τ→k (.val (.bool false)) τ)→Ev PR g (t.v :: cap) σ k kp) →
    ∀ (σ:AHeap) (k kp:AV→AHeap→Prop),b≤σ.next→I 0 σ→(∀ τ,Up 19 b σ τ→I (AT.sizes l) τ→k (.val (.bool true)) τ)→(∀ τ,Up 19 b σ τ→S τ→k (.val (.bool false)) τ)→Ev PR 40 [.fn (.func g) cap,AT.vs l] σ k kp:=by
  intro N
  induction N with
  | zero =>
    intro l hl hb I hI hc σ k kp hbs h0 hT hF
    cases l with
    | nil =>
      apply F40_ev;unfold F40
      simp [AT.avs]
      refine seqW_in ?_
      refine loopW_by (fun _:Unit=>[(0,.fn (.func g) cap),(7,AT.vs []),(8,int 0),(9,int 0)]) (fun _ φ=>φ=σ) (fun _ _=>0) () (by simp [AT.avs]) rfl ?_
      rintro ⟨⟩ φ rfl
      simp
      exact hT _ (Up.refl _ _ _) h0
    | cons t l=>have:=t.size_pos;simp [AT.sizes] at hl;omega
  | succ N ih =>
    intro l hl hb I hI hc σ k kp hbs h0 hT hF
    apply F40_ev;unfold F40
    simp
    refine seqW_in ?_
    have hll:=AT.len_sizes l
    refine loopW_by (fun j:Nat=>[(0,.fn (.func g) cap),(7,AT.vs l),(8,int l.length),(9,int j)]) (fun j φ=>j≤l.length∧Up 19 b σ φ∧b≤φ.next∧I (AT.sizes (l.take j)) φ) (fun fr _=>l.length - (intOf (look fr 9)).toNat) 0 (by simp) ⟨by simp,Up.refl _ _ _,hbs,by simpa [AT.sizes] using h0⟩ ?_
    rintro j φ ⟨hj,hu,hbf,hIj⟩
    simp
    by_cases hjl:j < l.length
    · obtain ⟨t,ht⟩:=get_some hjl
      have htm:=List.mem_of_getElem? ht
      have hix:∀ ω,aIndexAddr 19 (AT.vs l) (int j) ω=some (.ref t.av):=fun ω=>by rw [aIndexAddr_sl];simp [AT.avs_get ht]
      have hst:=AT.sizes_take ht
      have hle:=AT.sizes_take_le l (j+1)
      have hse:=t.size_eq
      simp [hjl,hix]
      generalize hφ1:AHeap.set (φ.new _) _ _=φ1
      have hgr:Grows φ φ1:=by rw [← hφ1];exact (Grows.new _ _).set (Nat.le_refl _) _
      have hn1:φ1.next=φ.next+1:=by rw [← hφ1];simp
      have hg1:φ1.get φ.next=some (.cells 19 [t.av]):=by rw [← hφ1];simp [get_set]
      have hin:∀ (m:Nat) x,t.all[m]?=some x→(AT.alls l)[AT.sizes (l.take j)+m]?=some x:=fun m x hm=>AT.alls_at ht hm
      have h00:(AT.alls l)[AT.sizes (l.take j)]?=some t:=by have:=hin 0 t (by rw [AT.all_eq];rfl);simpa using this
      refine hc _ t h00 φ1 _ _ (by omega) (hI _ _ _ hIj hgr) (fun τ hu2 hI2=>?_) (fun τ hu2 hS=>?_)
      · have hg2:τ.get φ.next=some (.cells 19 [t.av]):=by rw [hu2.get _ _ hbf (by omega) hg1];exact hg1
        have hn2:=hu2.next
        simp [hg2]
        refine ih t.kids (by omega) (by omega) (fun i=>I (AT.sizes (l.take j)+1+i)) (fun i=>hI _) (fun i x hx=>?_) τ _ _ (by omega) (by simpa using hI2) (fun υ hu3 hI3=>?_) (fun υ hu3 hS=>?_)
        · have:=hin (i+1) x (by rw [AT.all_eq];simpa using hx)
          intro σ' k' kp' q1 q2 q3 q4
          exact hc _ x this σ' k' kp' q1 (by simpa [Nat.add_comm,Nat.add_left_comm] using q2) (fun τ' w1 w2=>q3 τ' w1 (by simpa [Nat.add_comm,Nat.add_left_comm] using w2)) q4
        · simp
          rw [wrap64 (by omega)]
          have huu:=((hu.trans (Up.of hgr)).trans hu2).trans hu3
          exact ⟨⟨j+1,by simp,by omega,huu,by have:=hu3.next;omega,by rw [hst,hse];simpa [Nat.add_assoc] using hI3⟩,by omega⟩
        · simp
          exact hF _ (((hu.trans (Up.of hgr)).trans hu2).trans hu3) hS
      · simp
        exact hF _ ((hu.trans (Up.of hgr)).trans hu2) hS
    · have hall:l.take j=l:=List.take_of_length_le (by omega)
      rw [hall] at hIj
      simp [hjl]
      exact hT _ hu hIj
theorem sizes_ev {l:List AT} (hb:AT.sizes l < 1000000000000) {σ:AHeap} {k kp:AV→AHeap→Prop} (hk:k (int (AT.sizes l)) σ):Ev PR 39 [AT.vs l] σ k kp:=by
  refine Ev.pureD hk ((Dat.val _).low _) fun k' hk'=>?_
  apply F39_ev;unfold F39
  simp
  generalize hσ1:AHeap.set (σ.new _) _ _=σ1
  have hg:Grows σ σ1:=by rw [← hσ1];exact (Grows.new _ _).set (Nat.le_refl _) _
  have hn1:σ1.next=σ.next+1:=by rw [← hσ1];simp
  have hg1:σ1.get σ.next=some (.cells 1 [[int 0]]):=by rw [← hσ1];simp [get_set]
  refine each_ev 71 [.ptr σ.next 0 0] (σ.next+1) (fun _=>False) _ l (Nat.le_refl _) hb (fun i φ=>Grows σ φ∧σ.next < φ.next∧φ.get σ.next=some (.cells 1 [[int i]])) ?_ ?_ σ1 _ _ (by omega) ⟨hg,by omega,hg1⟩ ?_ ?_
  · rintro i φ ψ ⟨h1,h2,h3⟩ h4
    exact ⟨h1.trans h4,Nat.lt_of_lt_of_le h2 h4.next,by rw [h4.get _ h2];exact h3⟩
  · rintro i t hi φ q qp hbφ ⟨h1,h2,h3⟩ hT hF
    have hil:i < AT.sizes l:=by rw [← AT.alls_len];exact (List.getElem?_eq_some_iff.1 hi).1
    apply F71_ev;unfold F71
    simp [h3,get_new,show σ.next ≠ φ.next by omega]
    rw [wrap64 (by omega)]
    refine hT _ ⟨by simp,fun j _ h5 h6 _=>by rw [get_set,if_neg (by omega),get_new,if_neg (by omega)]⟩ ⟨⟨by simp;omega,fun j hj=>by rw [get_set,if_neg (by omega),get_new,if_neg (by omega)];exact h1.get j hj⟩,by simp;omega,by simp [get_set]⟩
  · rintro τ hu ⟨h1,h2,h3⟩
    simp [h3]
    exact hk' _ h1
  · intro τ _ h;exact h.elim
end Go.Abs.At
namespace Go.Abs.At
open Go Go.Abs Go.Proofs.AtD
attribute [local simp] Nat.add_assoc
def bytesOf (s:ByteArray):List Int:=s.data.toList.map fun b=>(b.toNat:Int)
theorem bytesV_of (s:ByteArray):bytesV s=(bytesOf s).map fun b=>[u8 b]:=by simp [bytesV,bytesOf]
abbrev u8V (l:List Int):AV:=.sl false 1 (l.map fun b=>[u8 b])
theorem index_ev {l:List Int} {c:Int} (hb:l.length < 1000000000000) {σ:AHeap} {k kp:AV→AHeap→Prop} (hk:∀ r:Int,(0≤r↔c ∈ l)→k (int r) σ):Ev PR 211 [u8V l,u8 c] σ k kp:=by
  apply F211_ev;unfold F211
  simp
  refine seqW_in ?_
  refine loopW_by (fun j:Nat=>[(0,u8V l),(1,u8 c),(7,int l.length),(8,int j)]) (fun j φ=>φ=σ∧j≤l.length∧∀ x ∈ l.take j,c ≠ x) (fun fr _=>l.length - (intOf (look fr 8)).toNat) 0 (by simp) ⟨rfl,by simp,by simp⟩ ?_
  rintro j φ ⟨rfl,hj,hne⟩
  simp
  by_cases hjl:j < l.length
  · obtain ⟨t,ht⟩:=get_some hjl
    have hix:∀ ω,aIndexAddr 1 (u8V l) (int j) ω=some (.ref [u8 t]):=fun ω=>by rw [aIndexAddr_sl];simp [ht]
    simp [hjl,hix]
    by_cases hc:c=t
    · subst hc
      simp
      exact hk _ ⟨fun _=>List.mem_of_getElem? ht,fun _=>by omega⟩
    · simp [hc]
      rw [wrap64 (by omega)]
      refine ⟨⟨j+1,by simp,by omega,fun x hx=>?_⟩,by omega⟩
      rw [List.take_add_one,ht] at hx
      rcases List.mem_append.1 hx with h | h
      · exact hne x h
      · simp at h;subst h;exact hc
  · have hall:l.take j=l:=List.take_of_length_le (by omega)
    rw [hall] at hne
    simp [hjl]
    exact hk _ ⟨fun h=>by omega,fun h=>absurd rfl (hne c h)⟩
theorem contains_ev {l:List Int} {c:Int} (hb:l.length < 1000000000000) {σ:AHeap} {k kp:AV→AHeap→Prop} (hk:k (.val (.bool (decide (c ∈ l)))) σ):Ev PR 193 [u8V l,u8 c] σ k kp:=by
  apply F193_ev;unfold F193
  refine index_ev hb fun r hr=>?_
  simp
  have:decide (0≤r)=decide (c ∈ l):=by simp [hr]
  rw [this];exact hk
theorem has_ev {n:Int} {s:ByteArray} {c:Int} (hb:(bytesOf s).length < 1000000000000) {σ:AHeap} {k kp:AV→AHeap→Prop} (hk:k (.val (.bool (decide (c ∈ bytesOf s)))) σ):Ev PR 180 [.agg [int n,str s],u8 c] σ k kp:=by
  refine Ev.pureD hk ((Dat.val _).low _) fun k' hk'=>?_
  apply F180_ev;unfold F180
  simp [bytesV_of]
  exact contains_ev hb (hk' _ (Grows.new _ _))
theorem Ev.weak {P:Program} {f:FuncId} {args args':List AV} {σ:AHeap} {k kp:AV→AHeap→Prop} (ha:FzL σ (fun _=>False) args args') (h:Ev P f args' σ k kp):Ev P f args σ k kp:=by
  refine Ev.freeze (D:=fun _=>False) ⟨rfl,fun _ h=>h.elim,fun id _=>?_⟩ ha h
  cases hg:σ.get id with
  | none=>exact .inl ⟨rfl,rfl⟩
  | some o=>exact .inr ⟨o,o,rfl,rfl,.refl o⟩
theorem Fz.clip {τ:AHeap} {D:Nat→Prop} {c:Bool} {sz:Nat} {xs:List (List AV)}:Fz τ D (.sl c sz xs) (.sl false sz xs):=by
  refine .sl rfl (fun i el fl h1 h2=>?_) (fun i el fl j x y h1 h2 h3 h4=>?_)
  · rw [h1] at h2;cases h2;rfl
  · rw [h1] at h2;cases h2;rw [h3] at h4;cases h4;exact .refl _
theorem T.len_sizes (l:List T):l.length≤T.sizes l:=by
  induction l with
  | nil=>simp
  | cons a l ih=>have:=a.size_pos;simp [T.sizes];omega
theorem T.sizes_take_eq {l:List T} {i:Nat} {c:T} (h:l[i]?=some c):T.sizes (l.take (i+1))=T.sizes (l.take i)+c.size:=by
  rw [List.take_add_one,h,T.sizes_append]
  simp [T.sizes]
theorem T.all_eq (t:T):t.all=t :: T.alls t.kids:=by cases t;rfl
theorem T.alls_at {l:List T} {j m:Nat} {t x:T} (h:l[j]?=some t) (hm:t.all[m]?=some x):(T.alls l)[T.sizes (l.take j)+m]?=some x:=by
  have hj:j < l.length:=(List.getElem?_eq_some_iff.1 h).1
  have e:l=l.take j ++ t :: l.drop (j+1):=by
    have h2:l[j]=t:=by rw [List.getElem?_eq_getElem hj] at h;exact Option.some.inj h
    rw [← h2,← List.drop_eq_getElem_cons hj,List.take_append_drop]
  have hm':m < t.all.length:=(List.getElem?_eq_some_iff.1 hm).1
  conv=>lhs;rw [e,T.alls_append]
  rw [List.getElem?_append_right (by rw [T.alls_len,← e];omega)]
  simp only [T.alls]
  rw [List.getElem?_append_left (by rw [T.alls_len,← e];omega),T.alls_len,← e,Nat.add_sub_cancel_left]
  exact hm
theorem T.each_ev (g:FuncId) (cap:List AV) (b:Nat) (S:AHeap→Prop):∀ (N:Nat) (l:List T),T.sizes l≤N→T.sizes l < 1000000000000→∀ (I:Nat→AHeap→Prop),(∀ i σ τ,I i σ→Grows σ τ→I i τ) →
    (∀ (i:Nat) t,(T.alls l)[i]?=some t→∀ (σ:AHeap) (k kp:AV→AHeap→Prop),b≤σ.next→I i σ→(∀ τ,Up 8 b σ τ→I (i+1) τ→k (.val (.bool true)) τ)→(∀ τ,Up 8 b σ τ→S τ→k (.val (.bool false)) τ)→Ev PR g (t.v :: cap) σ k kp) →
    ∀ (σ:AHeap) (k kp:AV→AHeap→Prop),b≤σ.next→I 0 σ→(∀ τ,Up 8 b σ τ→I (T.sizes l) τ→k (.val (.bool true)) τ)→(∀ τ,Up 8 b σ τ→S τ→k (.val (.bool false)) τ)→Ev PR 157 [.fn (.func g) cap,T.vs l] σ k kp:=by
  intro N
  induction N with
  | zero =>
    intro l hl hb I hI hc σ k kp hbs h0 hT hF
    cases l with
    | nil =>
      apply F157_ev;unfold F157
      simp [T.avs]
      refine seqW_in ?_
      refine loopW_by (fun _:Unit=>[(0,.fn (.func g) cap),(7,T.vs []),(8,int 0),(9,int 0)]) (fun _ φ=>φ=σ) (fun _ _=>0) () (by simp [T.avs]) rfl ?_
      rintro ⟨⟩ φ rfl
      simp
      exact hT _ (Up.refl _ _ _) h0
    | cons t l=>have:=t.size_pos;simp [T.sizes] at hl;omega
  | succ N ih =>
    intro l hl hb I hI hc σ k kp hbs h0 hT hF
    apply F157_ev;unfold F157
    simp
    refine seqW_in ?_
    have hll:=T.len_sizes l
    refine loopW_by (fun j:Nat=>[(0,.fn (.func g) cap),(7,T.vs l),(8,int l.length),(9,int j)]) (fun j φ=>j≤l.length∧Up 8 b σ φ∧b≤φ.next∧I (T.sizes (l.take j)) φ) (fun fr _=>l.length - (intOf (look fr 9)).toNat) 0 (by simp) ⟨by simp,Up.refl _ _ _,hbs,by simpa [T.sizes] using h0⟩ ?_
    rintro j φ ⟨hj,hu,hbf,hIj⟩
    simp
    by_cases hjl:j < l.length
    · obtain ⟨t,ht⟩:=get_some hjl
      have htm:=List.mem_of_getElem? ht
      have hix:∀ ω,aIndexAddr 8 (T.vs l) (int j) ω=some (.ref t.av):=fun ω=>by rw [aIndexAddr_sl];simp [T.avs_get ht]
      have hst:=T.sizes_take_eq ht
      have hle:=T.sizes_take l (j+1)
      have hse:=t.size_eq
      simp [hjl,hix]
      generalize hφ1:AHeap.set (φ.new _) _ _=φ1
      have hgr:Grows φ φ1:=by rw [← hφ1];exact (Grows.new _ _).set (Nat.le_refl _) _
      have hn1:φ1.next=φ.next+1:=by rw [← hφ1];simp
      have hg1:φ1.get φ.next=some (.cells 8 [t.av]):=by rw [← hφ1];simp [get_set]
      have hin:∀ (m:Nat) x,t.all[m]?=some x→(T.alls l)[T.sizes (l.take j)+m]?=some x:=fun m x hm=>T.alls_at ht hm
      have h00:(T.alls l)[T.sizes (l.take j)]?=some t:=by have:=hin 0 t (by rw [T.all_eq];rfl);simpa using this
      refine hc _ t h00 φ1 _ _ (by omega) (hI _ _ _ hIj hgr) (fun τ hu2 hI2=>?_) (fun τ hu2 hS=>?_)
      · have hg2:τ.get φ.next=some (.cells 8 [t.av]):=by rw [hu2.get _ _ hbf (by omega) hg1];exact hg1
        have hn2:=hu2.next
        simp [hg2]
        refine ih t.kids (by omega) (by omega) (fun i=>I (T.sizes (l.take j)+1+i)) (fun i=>hI _) (fun i x hx=>?_) τ _ _ (by omega) (by simpa using hI2) (fun υ hu3 hI3=>?_) (fun υ hu3 hS=>?_)
        · have:=hin (i+1) x (by rw [T.all_eq];simpa using hx)
          intro σ' k' kp' q1 q2 q3 q4
          exact hc _ x this σ' k' kp' q1 (by simpa [Nat.add_comm,Nat.add_left_comm] using q2) (fun τ' w1 w2=>q3 τ' w1 (by simpa [Nat.add_comm,Nat.add_left_comm] using w2)) q4
        · simp
          rw [wrap64 (by omega)]
          have huu:=((hu.trans (Up.of hgr)).trans hu2).trans hu3
          exact ⟨⟨j+1,by simp,by omega,huu,by have:=hu3.next;omega,by rw [hst,hse];simpa [Nat.add_assoc] using hI3⟩,by omega⟩
        · simp
          exact hF _ (((hu.trans (Up.of hgr)).trans hu2).trans hu3) hS
      · simp
        exact hF _ ((hu.trans (Up.of hgr)).trans hu2) hS
    · have hall:l.take j=l:=List.take_of_length_le (by omega)
      rw [hall] at hIj
      simp [hjl]
      exact hT _ hu hIj
theorem T.sizes_ev {l:List T} (hb:T.sizes l < 1000000000000) {σ:AHeap} {k kp:AV→AHeap→Prop} (hk:k (int (T.sizes l)) σ):Ev PR 156 [T.vs l] σ k kp:=by
  refine Ev.pureD hk ((Dat.val _).low _) fun k' hk'=>?_
  apply F156_ev;unfold F156
  simp
  generalize hσ1:AHeap.set (σ.new _) _ _=σ1
  have hg:Grows σ σ1:=by rw [← hσ1];exact (Grows.new _ _).set (Nat.le_refl _) _
  have hn1:σ1.next=σ.next+1:=by rw [← hσ1];simp
  have hg1:σ1.get σ.next=some (.cells 1 [[int 0]]):=by rw [← hσ1];simp [get_set]
  refine T.each_ev 178 [.ptr σ.next 0 0] (σ.next+1) (fun _=>False) _ l (Nat.le_refl _) hb (fun i φ=>Grows σ φ∧σ.next < φ.next∧φ.get σ.next=some (.cells 1 [[int i]])) ?_ ?_ σ1 _ _ (by omega) ⟨hg,by omega,hg1⟩ ?_ ?_
  · rintro i φ ψ ⟨h1,h2,h3⟩ h4
    exact ⟨h1.trans h4,Nat.lt_of_lt_of_le h2 h4.next,by rw [h4.get _ h2];exact h3⟩
  · rintro i t hi φ q qp hbφ ⟨h1,h2,h3⟩ hT hF
    have hil:i < T.sizes l:=by rw [← T.alls_len];exact (List.getElem?_eq_some_iff.1 hi).1
    apply F178_ev;unfold F178
    simp [h3,get_new,show σ.next ≠ φ.next by omega]
    rw [wrap64 (by omega)]
    refine hT _ ⟨by simp,fun j _ h5 h6 _=>by rw [get_set,if_neg (by omega),get_new,if_neg (by omega)]⟩ ⟨⟨by simp;omega,fun j hj=>by rw [get_set,if_neg (by omega),get_new,if_neg (by omega)];exact h1.get j hj⟩,by simp;omega,by simp [get_set]⟩
  · rintro τ hu ⟨h1,h2,h3⟩
    simp [h3]
    exact hk' _ h1
  · intro τ _ h;exact h.elim
end Go.Abs.At
namespace Go.Abs.At
open Go Go.Abs Go.Proofs.AtD
attribute [local simp] Nat.add_assoc
def shapesL:List (Int × ByteArray):=[(0,⟨#[110]⟩),(0,⟨#[109]⟩),(2,⟨#[]⟩),(1,⟨#[]⟩),(1,⟨#[]⟩),(1,⟨#[]⟩),(1,⟨#[]⟩),(2,⟨#[]⟩),(2,⟨#[111]⟩),(2,⟨#[]⟩),(1,⟨#[97]⟩),(2,⟨#[109]⟩),(2,⟨#[109,97]⟩),(3,⟨#[]⟩),(1,⟨#[101]⟩),(2,⟨#[101,97]⟩)]
def shapesV:AV:=.sl true 2 (shapesL.map fun p=>[int p.1,str p.2])
theorem shapes_ev {σ:AHeap} {k kp:AV→AHeap→Prop} (hk:k shapesV σ):Ev PR 179 [] σ k kp:=by
  apply F179_ev;unfold F179
  simp
  exact hk
abbrev hd (k:Int):Head:=⟨k,0,0,0,ByteArray.empty,ByteArray.empty,ByteArray.empty⟩
theorem empty_eq:(⟨#[]⟩:ByteArray)=ByteArray.empty:=rfl
theorem wrap8 {n:Int} (h:0≤n∧n≤255):IntKind.u8.wrap n=n:=by
  exact Go.IntWalk.u8_in n h
theorem T.clip1 {τ:AHeap} {D:Nat→Prop} (t:T):Fz τ D (.sl true 8 [t.av]) (T.vs [t]):=by
  have e2:[t.av]=T.avs [t]:=by simp [T.avs]
  rw [e2];exact Fz.clip
theorem AT.clip1 {τ:AHeap} {D:Nat→Prop} (t:AT):Fz τ D (.sl true 19 [t.av]) (AT.vs [t]):=by
  have e2:[t.av]=AT.avs [t]:=by simp [AT.avs]
  rw [e2];exact Fz.clip
end Go.Abs.At
namespace Go.Abs.At
open Go Go.Abs Go.Proofs.AtD
attribute [local simp] Nat.add_assoc
abbrev leafZ:List AV:=[u8 1,u8 0,int 0,int 0,str ByteArray.empty,str ByteArray.empty,str ByteArray.empty,.val (.slice none 0 0)]
def leaf:T:=.mk (hd 1) []
def stub (t:AT):T:=.mk t.h (List.replicate t.kids.length leaf)
theorem leaf_frz {τ:AHeap} {n:Nat}:FrzL τ n leafZ leaf.av :=
  FrzL.cons (.low (.val _)) (.cons (.low (.val _)) (.cons (.low (.val _)) (.cons (.low (.val _)) (.cons (.low (.val _)) (.cons (.low (.val _)) (.cons (.low (.val _)) (.cons .nil .nil)))))))
theorem leaves_frz {τ:AHeap} {n:Nat}:∀ m:Nat,FrzR τ n (List.replicate m leafZ) (T.avs (List.replicate m leaf))
  | 0=>.nil
  | m+1=>by simp only [List.replicate_succ,T.avs];exact .cons leaf_frz (leaves_frz m)
theorem stub_ev {t:AT} (hb:t.size < 1000000000000) {σ:AHeap} {k kp:AV→AHeap→Prop} (hk:k (stub t).v σ):Ev PR 114 [t.v] σ k kp:=by
  refine Ev.pure ?_
  apply F114_ev;unfold F114
  have hlen:∀ ω,aLenK .slice (AT.vs t.kids) ω=some (int t.kids.length):=fun ω=>by simp
  have hkl:=t.kids_len
  have hheadlen:t.h.av.length=7:=rfl
  simp
  generalize hτ:(σ.new (.cells 19 [t.av])).new (.cells 8 [zeroT])=τ
  have hg:Grows σ τ:=by rw [← hτ];exact (Grows.new _ _).trans (Grows.new _ _)
  have hτn:τ.next=σ.next+2:=by rw [← hτ];rfl
  have g0:τ.get σ.next=some (.cells 19 [t.av]):=by rw [← hτ];simp [get_new]
  have g1:τ.get (σ.next+1)=some (.cells 8 [zeroT]):=by rw [← hτ];simp [get_new]
  simp [g0,hτn]
  generalize hω:AHeap.set _ _ _=ω
  have hG:Grows σ ω:=by rw [← hω];exact (hg.trans (Grows.new _ _)).set (by omega) _
  have hn:ω.next=σ.next+3:=by rw [← hω];simp [hτn]
  have z0:ω.get σ.next=some (.cells 19 [t.av]):=by rw [← hω];simp [get_new,get_set,hτn,g0]
  have z1:ω.get (σ.next+1)=some (.cells 8 [zeroT]):=by rw [← hω];simp [get_new,get_set,hτn,g1]
  have z2:ω.get (σ.next+2)=some (.cells 8 [t.h.av ++ [.val (.slice none 0 0)]]):=by rw [← hω];simp [get_new,get_set,hτn]
  refine seqW_in ?_
  simp [z0]
  refine loopW_by (fun i:Nat=>[(2,.ptr (σ.next+1) 0 0),(3,.ptr (σ.next+2) 0 0),(9,int t.kids.length),(10,int i)])
    (fun i φ=>i≤t.kids.length∧Grows σ φ∧σ.next+3≤φ.next∧φ.get (σ.next+1)=some (.cells 8 [zeroT])∧∃ x,φ.get (σ.next+2)=some (.cells 8 [t.h.av ++ [x]])∧acells x=some [x]∧Kid σ.next 3 8 φ x (List.replicate i leafZ))
    (fun fr _=>t.kids.length - (intOf (look fr 10)).toNat) 0 (by simp) ⟨by simp,hG,by omega,z1,_,z2,rfl,.inl ⟨rfl,rfl⟩⟩ ?_
  rintro i φ ⟨hi,f1,f2,f3,x,f4,f5,f6⟩
  simp
  by_cases hil:i < t.kids.length
  · simp [hil,f4,List.getElem?_append_right,hheadlen]
    refine stepK_of (aAppend_rows (by':=96) f6.rows f6.ns (.inr (.inl ⟨true,rfl⟩)) (by simp;omega)) ?_
    obtain ⟨p1,p2,p3⟩:=f6.push (by omega) leafZ
    generalize (gone x φ).new (.cells 8 (List.replicate i leafZ ++ [leafZ]))=φ2 at p1 p2 p3
    have q2:φ2.get (σ.next+2)=some (.cells 8 [t.h.av ++ [x]]):=by rw [p2 _ (by omega)];exact f4
    simp [q2,hheadlen]
    have hdrop:List.drop 8 (t.h.av ++ [x])=[]:=List.drop_of_length_le (by simp [hheadlen])
    rw [hdrop,wrap64 (by omega)]
    have hG2:Grows σ φ2:=⟨by omega,fun j hj=>by rw [p2 j (by omega)];exact f1.get j hj⟩
    refine ⟨⟨i+1,by simp,by omega,hG2.set (by omega) _,by omega,by simp [get_set,p2 (σ.next+1) (by omega),f3],?_⟩,by omega⟩
    have:=p1.set (j:=σ.next+2) (by omega) (.cells 8 [t.h.av ++ [.own φ.next (i+1)]])
    rw [List.replicate_succ']
    simpa using this
  · obtain rfl:i=t.kids.length:=by omega
    simp [f4,hheadlen,f3,get_set]
    have htk:List.take 8 (t.h.av ++ [x])=t.h.av ++ [x]:=List.take_of_length_le (by simp [hheadlen])
    rw [htk,htk]
    refine ⟨f1.set (by omega) _,_,frzT (l:=List.replicate t.kids.length leaf) ?_,hk⟩
    rcases f6.set (j:=σ.next+1) (by omega) (.cells 8 [t.h.av ++ [x]]) with ⟨h1,h2⟩ | ⟨q,rest,h1,h2,h3,_⟩
    · rw [h1]
      have h0:t.kids.length=0:=by
        have:=congrArg List.length h2
        simpa using this
      rw [h0]
      exact .nil
    · subst h1
      exact FrzR.own (leaves_frz _) (by omega) (by simp) h2
abbrev bool (b:Bool):AV:=.val (.bool b)
def ofKind (k:Int):List Bool :=
  if k=3∨k=6∨k=17 then [true,false,false,false,false]
  else if k=11 then [true,false,true,true,false]
  else if k=13 then [true,true,true,true,true]
  else if k=15 then [false,false,false,true,false]
  else if k=18 then [true,true,true,false,false]
  else [false,false,false,false,false]
theorem of_ev {n:Int} {σ:AHeap} {k kp:AV→AHeap→Prop} (hk:k (.agg ((ofKind n).map bool)) σ):Ev PR 72 [u8 n] σ k kp:=by
  refine Ev.pureD hk ((Dat.agg fun x hx=>by obtain ⟨b,_,rfl⟩:=List.mem_map.1 hx;exact .val _).low _) fun k' hk'=>?_
  apply F72_ev;unfold F72
  simp
  have fin:∀ o,Grows σ ((σ.new (.cells 5 [[bool false,bool false,bool false,bool false,bool false]])).set σ.next o):=fun o=>(Grows.new _ _).set (Nat.le_refl _) _
  obtain ⟨b,hb⟩:∃ b,b=decide (n=3∨n=6∨n=17):=⟨_,rfl⟩
  refine seqW_by (fun fr υ=>fr=[(2,.ptr σ.next 0 0),(3,u8 n),(4,bool b)]∧υ=σ.new (.cells 5 [[bool false,bool false,bool false,bool false,bool false]])) ?_ ?_
  · by_cases h3:n=3
    · subst h3;simp [hb]
    · by_cases h6:n=6
      · subst h6;simp [hb]
      · simp [h3,h6,hb]
  · rintro fr υ ⟨rfl,rfl⟩
    simp
    cases b with
    | true =>
      have h0:n=3∨n=6∨n=17:=by simpa using hb
      simp [get_new,get_set]
      have:=hk' _ (fin (.cells 5 [[bool true,bool false,bool false,bool false,bool false]]))
      simpa [ofKind,h0] using this
    | false =>
      have h0:¬ (n=3∨n=6∨n=17):=fun h=>by simp [h] at hb
      by_cases h1:n=11
      · subst h1
        simp [get_new,get_set]
        exact hk' _ (fin _)
      by_cases h2:n=13
      · subst h2
        simp [get_new,get_set]
        exact hk' _ (fin _)
      by_cases h4:n=15
      · subst h4
        simp [get_new,get_set]
        exact hk' _ (fin _)
      by_cases h5:n=18
      · subst h5
        simp [get_new,get_set]
        exact hk' _ (fin _)
      simp [h1,h2,h4,h5,get_new,get_set]
      have:=hk' _ (fin (.cells 5 [[bool false,bool false,bool false,bool false,bool false]]))
      simpa [ofKind,h0,h1,h2,h4,h5] using this
end Go.Abs.At
namespace Go.Abs.At
open Go Go.Abs Go.Proofs.AtD
attribute [local simp] Nat.add_assoc
theorem T.all_stub {t:AT} {x:T} (h:x ∈ (stub t).all):x=stub t∨x=leaf:=by
  rw [T.all_eq] at h
  rcases List.mem_cons.1 h with h | h
  · exact .inl h
  · refine .inr ?_
    have:∀ n,x ∈ T.alls (List.replicate n leaf)→x=leaf:=by
      intro n
      induction n with
      | zero=>simp [T.alls]
      | succ n ih =>
        intro hx
        simp only [List.replicate_succ,T.alls,List.mem_append] at hx
        rcases hx with hx | hx
        · simpa [leaf,T.all,T.alls] using hx
        · exact ih hx
    exact this _ h
theorem stub_size (t:AT):(stub t).size=1+t.kids.length:=by
  have:∀ n,T.sizes (List.replicate n leaf)=n:=by
    intro n
    induction n with
    | zero=>rfl
    | succ n ih=>simp only [List.replicate_succ,T.sizes,ih];simp [leaf,T.size,T.sizes];omega
  rw [T.size_eq]
  simp [stub,T.kids,this]
def Easy (kd:Nat) (n:Nat):Prop:=(kd=1∧n=0)∨(kd=3∧n=2)∨(kd=4∧n=1)
theorem below_ev {l:List Int} {least:Int} {c:Nat} (hb:l.length < 1000000000000) {σ:AHeap} (hg:σ.get c=some (.cells 1 [[int least]])) {k kp:AV→AHeap→Prop} (hk:k (bool (decide (∃ r ∈ l,r < least))) σ):Ev PR 115 [rhosV l,.fn (.func 116) [.ptr c 0 0]] σ k kp:=by
  apply F115_ev;unfold F115
  apply F159_ev;unfold F159
  simp [rhosV]
  refine seqW_in ?_
  refine loopW_by (fun j:Nat=>[(0,rhosV l),(1,.fn (.func 116) [.ptr c 0 0]),(7,int l.length),(8,int j)]) (fun j φ=>φ=σ∧j≤l.length∧∀ x ∈ l.take j,¬ x < least) (fun fr _=>l.length - (intOf (look fr 8)).toNat) 0 (by simp [rhosV]) ⟨rfl,by simp,by simp⟩ ?_
  rintro j φ ⟨rfl,hj,hne⟩
  simp
  by_cases hjl:j < l.length
  · obtain ⟨t,ht⟩:=get_some hjl
    have hix:∀ ω,aIndexAddr 1 (rhosV l) (int j) ω=some (.ref [int t]):=fun ω=>by rw [rhosV,aIndexAddr_sl];simp [ht]
    simp [hjl,hix]
    show Ev PR 116 _ _ _ _
    apply F116_ev;unfold F116
    simp [hg]
    by_cases hc:t < least
    · simp [hc]
      have e:decide (∃ r ∈ l,r < least)=true:=decide_eq_true ⟨t,List.mem_of_getElem? ht,hc⟩
      rw [e] at hk
      exact hk
    · simp [hc]
      rw [wrap64 (by omega)]
      refine ⟨⟨j+1,by simp,by omega,fun x hx=>?_⟩,by omega⟩
      rw [List.take_add_one,ht] at hx
      rcases List.mem_append.1 hx with h | h
      · exact Int.not_lt.1 (hne x h)
      · simp at h;subst h;exact Int.not_lt.1 hc
  · have hall:l.take j=l:=List.take_of_length_le (by omega)
    rw [hall] at hne
    simp [hjl]
    have e:decide (∃ r ∈ l,r < least)=false:=decide_eq_false fun ⟨r,h1,h2⟩=>hne r h1 h2
    rw [e] at hk
    exact hk
def regionsB (t:AT) (rho rhos:Bool):Bool :=
  !(!rho && !decide (t.rho=0) || (decide (t.rho < 0) || decide (t.h.kind=17) && decide (t.rho < 1)) || !rhos && decide (0 < t.rhos.length)) && !decide (∃ r ∈ t.rhos,r < if t.h.kind=13 then 1 else 0)
theorem regions_ev {t:AT} {rho rhos e ty re:Bool} (hb:t.rhos.length < 1000000000000) {σ:AHeap} {k kp:AV→AHeap→Prop} (hk:k (bool (regionsB t rho rhos)) σ):Ev PR 74 [t.v,.agg [bool rho,bool rhos,bool e,bool ty,bool re]] σ k kp:=by
  refine Ev.pureD hk ((Dat.val _).low _) fun k' hk'=>?_
  apply F74_ev;unfold F74
  simp
  generalize hτ:AHeap.new _ _=τ
  have hg:Grows σ τ:=by rw [← hτ];exact ((Grows.new _ _).trans (Grows.new _ _)).trans (Grows.new _ _)
  have g0:τ.get σ.next=some (.cells 19 [t.av]):=by rw [← hτ];simp [get_new]
  have g1:τ.get (σ.next+1)=some (.cells 5 [[bool rho,bool rhos,bool e,bool ty,bool re]]):=by rw [← hτ];simp [get_new]
  have g2:τ.get (σ.next+2)=some (.cells 1 [[int 0]]):=by rw [← hτ];simp [get_new]
  simp [g2]
  have hlen:∀ ω,aLenK .slice (rhosV t.rhos) ω=some (int t.rhos.length):=fun ω=>by simp [rhosV]
  refine seqW_by (fun fr υ=>fr=[(2,.ptr σ.next 0 0),(3,.ptr (σ.next+1) 0 0),(5,.ptr (σ.next+2) 0 0)]∧Grows σ υ∧υ.get σ.next=some (.cells 19 [t.av])∧υ.get (σ.next+1)=some (.cells 5 [[bool rho,bool rhos,bool e,bool ty,bool re]])∧υ.get (σ.next+2)=some (.cells 1 [[int (if t.h.kind=13 then 1 else 0)]])) ?_ ?_
  · have gs:Grows σ (τ.set (σ.next+2) (.cells 1 [[int 0]])):=hg.set (by omega) _
    have gs1:Grows σ (τ.set (σ.next+2) (.cells 1 [[int 1]])):=hg.set (by omega) _
    by_cases h:t.h.kind=13
    · simp [g0,g1,g2,h,get_set]
      exact gs.set (by omega) _
    · simp [g0,g1,g2,h,get_set]
      exact gs
  · rintro fr υ ⟨rfl,u0,u1,u2,u3⟩
    simp [u1,u2]
    have fin:∀ b,regionsB t rho rhos=b→k' (bool b) υ:=fun b h=>by rw [← h];exact hk' _ u0
    have go:regionsB t rho rhos=!decide (∃ r ∈ t.rhos,r < if t.h.kind=13 then 1 else 0)→Ev PR 115 [rhosV t.rhos,.fn (.func 116) [.ptr (σ.next+2) 0 0]] υ (fun t50 σ_1=>stepK (pureR σ_1 (aNot t50)) fun t51 σ_2=>k' t51 σ_2) (fun _ _=>False):=fun h=>by
      refine below_ev hb u3 ?_
      simp only [aNot_bool]
      exact fin _ h
    by_cases h1:t.rho < 0 <;> by_cases h2:t.h.kind=17 <;> by_cases h3:t.rho < 1 <;> cases rho <;> by_cases h5:t.rho=0 <;> cases rhos <;> by_cases h6:0 < t.rhos.length <;> simp [u1,u2,hlen,h1,h2,h3,h5,h6]
    all_goals first
      | (exfalso;omega)
      | exact fin _ (by simp only [regionsB,h1,h2,h3,h5,h6];simp)
      | exact go (by simp only [regionsB,h1,h2,h3,h5,h6];simp)
structure Simple (t:AT) (kd:Nat):Prop where
  h:t.h=hd kd
  kids:Easy kd t.kids.length∨(kd=17∧t.kids.length=1)
  rho:t.rho=if kd=3∨kd=17 then 1 else 0
  rhos:t.rhos=[]
  eff:t.eff=[]
  type:t.type=.mk 0 0 [] []
  res:t.res=.mk 0 0 [] []
abbrev rt0:RT:=.mk 0 0 [] []
abbrev n1:AT:=.mk (hd 1) 0 [] [] rt0 rt0 []
abbrev n3:AT:=.mk (hd 3) 1 [] [] rt0 rt0 [n1,n1]
abbrev n4:AT:=.mk (hd 4) 0 [] [] rt0 rt0 [n3]
abbrev zA (kd rho:Int) (ks:AV):List AV:=[u8 kd,u8 0,int 0,int 0,str ByteArray.empty,str ByteArray.empty,str ByteArray.empty,int rho,.val (.slice none 0 0),.val (.slice none 0 0),u8 0,int 0,.val (.slice none 0 0),.val (.slice none 0 0),u8 0,int 0,.val (.slice none 0 0),.val (.slice none 0 0),ks]
theorem FzR.sl {τ:AHeap} {D:Nat→Prop} {c:Bool} {sz:Nat} {xs ys:List (List AV)} (h:FzR τ D xs ys):Fz τ D (.sl c sz xs) (.sl false sz ys) :=
  .sl h.len (fun i el fl h1 h2=>(h.at i el fl h1 h2).len) (fun i el fl j x y h1 h2 h3 h4=>(h.at i el fl h1 h2).at j x y h3 h4)
abbrev z1:=zA 1 0 (.val (.slice none 0 0))
abbrev z3:=zA 3 1 (.sl true 19 [z1,z1])
abbrev z4:=zA 4 0 (.sl true 19 [z3])
end Go.Abs.At
namespace Go.Abs.At
open Go Go.Abs Go.Proofs.AtD
attribute [local simp] Nat.add_assoc
end Go.Abs.At
