import Derived.Test.YtjilebpcaemopaaGreatDoorAtermDecB
import Derived.Test.YtjilebpcaemopaaGreatDoorAtH
set_option linter.unusedVariables false
set_option linter.unusedSimpArgs false
namespace Go.Abs.At
open Go Go.Abs Go.Proofs.AtD
attribute [local simp] Nat.add_assoc
def own (t:AT):List Int:=if t.h.kind=17 then [t.rho] else if t.h.kind=13 then t.rhos else []
theorem Kid.rhos {n m υ x} {l:List Int} (h:Kid n m 1 υ x (l.map fun r=>[int r])):Frz υ n x (rhosV l):=by
  refine Kid.frz h fun el hel y hy=>?_
  obtain ⟨r,_,rfl⟩:=List.mem_map.1 hel
  simp at hy;subst hy;exact Dat.val _
theorem all_ref:∀ (N:Nat) (t:AT),t.size≤N→t.size < 100000000000→∀ (σ:AHeap) (k kp:AV→AHeap→Prop),k (AT.vs t.all) σ→Ev PR 14 [t.v] σ k kp:=by
  intro N
  induction N with
  | zero=>intro t h;have:=t.size_pos;omega
  | succ N ih =>
    intro t hN hb σ k kp hk
    refine Ev.pure ?_
    apply F14_ev;unfold F14
    simp
    refine seqW_in ?_
    have hlen:∀ ω,aLenK .slice (AT.vs t.kids) ω=some (int t.kids.length):=fun ω=>by simp
    have hkl:=t.kids_len
    have hse:=t.size_eq
    simp [get_new,hlen]
    refine loopW_by (fun p:Nat × AV=>[(1,.ptr σ.next 0 0),(3,p.2),(9,int t.kids.length),(10,int p.1)])
      (fun p φ=>p.1≤t.kids.length∧Grows σ φ∧σ.next+1≤φ.next∧φ.get σ.next=some (.cells 19 [t.av])∧Kid σ.next 1 19 φ p.2 (AT.avs (t :: AT.alls (t.kids.take p.1))))
      (fun fr _=>t.kids.length - (intOf (look fr 10)).toNat) (0,.own (σ.next+1) 1) (by simp)
      ⟨by simp,(Grows.new _ _).trans (Grows.new _ _),by simp,by simp [get_new],.inr ⟨σ.next+1,[],by simp [AT.alls],by simp [get_new,AT.avs,AT.alls],by omega,by simp⟩⟩ ?_
    rintro ⟨i,x⟩ φ ⟨hi,f1,f2,f3,f4⟩
    simp only at hi f4
    simp
    by_cases hil:i < t.kids.length
    · obtain ⟨c,hc⟩:=get_some hil
      have hcm:=List.mem_of_getElem? hc
      have hcl:=AT.kids_lt hcm
      have hix:∀ ω,aIndexAddr 19 (AT.vs t.kids) (int i) ω=some (.ref c.av):=fun ω=>by rw [aIndexAddr_sl];simp [AT.avs_get hc]
      have htk:t.kids.take (i+1)=t.kids.take i ++ [c]:=by rw [List.take_add_one,hc];rfl
      have hsum:AT.sizes (t.kids.take (i+1))=AT.sizes (t.kids.take i)+c.size:=by rw [htk,AT.sizes_append];simp [AT.sizes]
      have hle:=AT.sizes_take_le t.kids (i+1)
      have hal:=AT.alls_len (t.kids.take i)
      have hcall:=AT.all_len c
      simp [hil,f3,hix]
      refine ih c (by omega) (by omega) _ _ _ ?_
      refine stepK_of (aAppend_rows (by':=280) f4.rows f4.ns (.inr (.inl ⟨false,rfl⟩)) (by simp [hal,hcall];omega)) ?_
      obtain ⟨p1,p2,p3⟩:=f4.app (by omega) (AT.avs c.all)
      generalize (gone x φ).new (.cells 19 (AT.avs (t :: AT.alls (t.kids.take i)) ++ AT.avs c.all))=φ2 at p1 p2 p3
      simp
      rw [wrap64 (by omega)]
      refine ⟨⟨i+1,_,⟨rfl,by simp⟩,by omega,⟨by have:=f1.next;omega,fun j hj=>by rw [p2 j (by omega)];exact f1.get j hj⟩,by omega,by rw [p2 _ (by omega)];exact f3,?_⟩,by omega⟩
      have e:AT.avs (t :: AT.alls (t.kids.take (i+1)))=AT.avs (t :: AT.alls (t.kids.take i)) ++ AT.avs c.all:=by
        rw [htk,AT.alls_append]
        simp [AT.avs_map,AT.alls]
      rw [e]
      simpa using p1
    · have hall:t.kids.take i=t.kids:=List.take_of_length_le (by omega)
      rw [hall] at f4
      simp [hil]
      exact ⟨f1,_,f4.frz (AT.dats _),by rw [← AT.all_eq];exact hk⟩
theorem ints_ev {l:List Int} {n:Int} (hb:l.length < 1000000000000) {x:AV} {σ:AHeap} (hx:Rows σ 1 x (l.map fun r=>[int r])) {k kp:AV→AHeap→Prop} (hk:k (bool (decide (n ∈ l))) σ):Ev PR 19 [x,int n] σ k kp:=by
  apply F19_ev;unfold F19
  have hlen:=hx.len
  simp only [List.length_map] at hlen
  simp [hlen]
  refine seqW_in ?_
  refine loopW_by (fun j:Nat=>[(0,x),(1,int n),(7,int l.length),(8,int j)]) (fun j φ=>φ=σ∧j≤l.length∧n ∉ l.take j) (fun fr _=>l.length - (intOf (look fr 8)).toNat) 0 (by simp) ⟨rfl,by simp,by simp⟩ ?_
  rintro j φ ⟨rfl,hj,hne⟩
  simp
  by_cases hjl:j < l.length
  · obtain ⟨t,ht⟩:=get_some hjl
    obtain ⟨p,hp,hat⟩:=hx.at (i:=j) (el:=[int t]) (by simp [ht]) rfl .i64
    simp [hjl,hp]
    refine stepP (x:=int t) ?_ ?_
    · rw [hat.load];rfl
    by_cases hc:t=n
    · subst hc
      simp
      have e:decide (t ∈ l)=true:=decide_eq_true (List.mem_of_getElem? ht)
      rw [e] at hk
      exact hk
    · simp [hc]
      rw [wrap64 (by omega)]
      refine ⟨⟨j+1,by simp,by omega,fun h=>?_⟩,by omega⟩
      rw [List.take_add_one,ht] at h
      rcases List.mem_append.1 h with h | h
      · exact hne h
      · simp at h;exact hc h.symm
  · have hall:l.take j=l:=List.take_of_length_le (by omega)
    rw [hall] at hne
    simp [hjl]
    have e:decide (n ∈ l)=false:=decide_eq_false hne
    rw [e] at hk
    exact hk
end Go.Abs.At
namespace Go.Abs.At
open Go Go.Abs Go.Proofs.AtD
attribute [local simp] Nat.add_assoc
theorem drop_at {α:Type} {l:List α} {i:Nat} {x:α} (h:l[i]?=some x):l.drop i=x :: l.drop (i+1):=by
  have hi:=(List.getElem?_eq_some_iff.1 h).1
  rw [List.drop_eq_getElem_cons hi]
  rw [List.getElem?_eq_getElem hi] at h
  rw [Option.some.inj h]
structure MetMap (es:List (MK × AV)) (met:List Int):Prop where
  fit:keysFit (.int .i64) es=true
  has:∀ r:Int,(mget es (.i .i64 r)).isSome=decide (r ∈ met)
  val:∀ q y,mget es q=some y→y=.agg []
theorem MetMap.put {es:List (MK × AV)} {met:List Int} (h:MetMap es met) (r:Int):MetMap (mset es (.i .i64 r) (.agg [])) (met ++ [r]):=by
  refine ⟨keysFit_mset h.fit (q:=.i .i64 r) rfl _,fun q=>?_,fun q y hq=>?_⟩
  · rw [mget_mset]
    by_cases hq:q=r
    · subst hq;simp
    · have:¬ (MK.i .i64 q=MK.i .i64 r):=fun e=>hq (by cases e;rfl)
      simp [this,hq,h.has q]
  · rw [mget_mset] at hq
    split at hq
    · cases hq;rfl
    · exact h.val q y hq
end Go.Abs.At
namespace Go.Abs.At
open Go Go.Abs Go.Proofs.AtD
attribute [local simp] Nat.add_assoc
end Go.Abs.At
