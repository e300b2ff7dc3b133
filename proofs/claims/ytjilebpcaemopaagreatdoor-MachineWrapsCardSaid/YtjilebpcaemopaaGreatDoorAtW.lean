import Derived.Test.YtjilebpcaemopaaGreatDoorAtV
import Derived.Test.YtjilebpcaemopaaGreatDoorAtermDecA
import Derived.Test.YtjilebpcaemopaaGreatDoorAtNodesP
set_option linter.unusedVariables false
set_option linter.unusedSimpArgs false
namespace Go.Abs.At
open Go Go.Abs Go.Proofs.AtD
attribute [local simp] Nat.add_assoc
theorem w5 {l:List ByteArray} {s:ByteArray} (hb:l.length<1000000000000) {c:Bool} {σ:ah} {k kp:AV→ah→Prop} (hk:∀r:Int,((r= -1∧s∉l)∨∃j:Nat,r=j∧l[j]?=some s)→k (int r) σ):Ev PR 212 [.sl c 1 (l.map fun b=>[str b]),str s] σ k kp:=by
 apply BN;unfold F212
 simp
 refine aM ?_
 refine aX (fun j:Nat=>[(0,.sl c 1 (l.map fun b=>[str b])),(1,str s),(7,int l.length),(8,int j)]) (fun j φ=>φ=σ∧j≤l.length∧s∉l.take j) (fun fr _=>l.length - (intOf (aa fr 8)).toNat) 0 (by simp) ⟨rfl,by simp,by simp⟩ ?_
 rintro j φ ⟨rfl,hj,hne⟩
 simp
 by_cases hjl:j<l.length
 ·obtain⟨t,ht⟩:=get_some hjl
  have hix:∀ω,ak 1 (.sl c 1 (l.map fun b=>[str b])) (int j) ω=some (.ref [str t]):=fun ω=>by rw[aD];simp[ht]
  simp[hjl,hix]
  by_cases hc:s=t
  ·subst hc
   simp
   exact hk _ (.inr ⟨j,rfl,ht⟩)
  ·simp[hc]
   rw[wrap64 (by omega)]
   refine⟨⟨j+1,by simp,by omega,fun h=> ?_⟩,by omega⟩
   rw[List.take_add_one,ht]at h
   rcases List.mem_append.1 h with h | h
   ·exact hne h
   ·simp at h;exact hc h
 ·have hall:l.take j=l:=List.take_of_length_le (by omega)
  rw[hall]at hne
  simp[hjl]
  exact hk _ (.inl ⟨rfl,hne⟩)
theorem ux {s:ByteArray} {σ:ah} {k kp:AV→ah→Prop} (hk:∀n:Int,(n=0↔s∉dT)→k (int n) σ):Ev PR 195 [str s] σ k kp:=by
 apply BH;unfold F195
 by_cases h:s=ByteArray.empty
 ·subst h
  simp[empty_eq]
  exact hk 0 ⟨fun _ hm=>absurd ((jB _).2 hm) (by decide),fun _=>rfl⟩
 ·simp[empty_eq,h]
  refine sG ?_
  refine w5 (by decide) fun r hr=> ?_
  simp
  rcases hr with ⟨rfl,h2⟩ | ⟨j,rfl,h2⟩
  ·simp
   refine hk 0 ⟨fun _ hm=>h2 (List.mem_cons_of_mem _ hm),fun _=>rfl⟩
  ·cases j with
   | zero=>
    have:ByteArray.empty=s:=by simpa [oU] using h2
    exact absurd this.symm h
   | succ j=>
    have hm:s∈dT:=List.mem_of_getElem? (show dT[j]?=some s by simpa [oU] using h2)
    have h0:(0:Int)<((j+1:Nat):Int):=by omega
    simp[h0]
    exact hk _ ⟨fun h=>by omega,fun h=>absurd hm h⟩
theorem ze {s:ByteArray} {σ:ah} {k kp:AV→ah→Prop} (hk:k (bool (cJ s)) σ):Ev PR 194 [str s] σ k kp:=by
 apply BG;unfold F194
 have fin:∀v,cJ s=v→k (bool v) σ:=fun v h=>by rw[←h];exact hk
 refine qw ?_
 cases h:bX s 3
 ·simp
  exact fin _ (by simp[cJ,h])
 ·simp
  refine ux fun n hn=> ?_
  by_cases h0:n=0
  ·simp[h0]
   exact fin _ (by
    have:(dT.any fun b=>decide (b=s))=false:=Bool.eq_false_iff.2 fun hh=>hn.1 h0 ((jB s).1 hh)
    simp only[cJ,h,this];rfl)
  ·have:s∈dT:=Classical.byContradiction fun hh=>h0 (hn.2 hh)
   simp[h0]
   exact fin _ (by simp only[cJ,h,(jB s).2 this];rfl)
theorem vP {s:ByteArray} {σ:ah} {k kp:AV→ah→Prop} (hk:k (bool (cJ s)) σ):Ev PR 182 [.sl true 1 [[str s]]] σ k kp:=by
 apply BA;unfold F182
 exact vt (fun σ k kp hk=>ze hk) hk
theorem ot {n:Int} {s x:ByteArray} {c:Int} {g:FuncId} {b:Bool} (hb:(bytesOf s).length<1000000000000) (hg:∀(σ:ah) (k kp:AV→ah→Prop),k (bool b) σ→Ev PR g [.sl true 1 [[str x]]] σ k kp) {σ:ah} {k kp:AV→ah→Prop} (hk:k (bool (gE (decide (c∈bytesOf s)) x b)) σ):Ev PR 181 [.agg [int n,str s],u8 c,str x,.fn (.func g) []] σ k kp:=by
 refine Ev.bB hk ((Dat.val _).low _) fun k' hk'=> ?_
 apply Bz;unfold F181
 simp[an]
 refine yN hb ?_
 by_cases hc:c∈bytesOf s
 ·simp[hc]
  show Ev PR g _ _ _ _
  refine hg _ _ _ ?_
  have:=hk' _ (aq.new σ (.cells 2 [[int n,str s]]))
  simpa [gE,hc] using this
 ·simp[hc,empty_eq]
  have:=hk' _ (aq.new σ (.cells 2 [[int n,str s]]))
  simpa [gE,hc] using this
structure B3 (kd:Nat) (n:Int) (s:ByteArray):Prop where
 n:n=bo kd
 o:111∈bytesOf s↔(kd:Int)=9
 num:110∈bytesOf s↔(kd:Int)=1
 m:109∈bytesOf s↔((kd:Int)=2∨(kd:Int)=12∨(kd:Int)=13)
 a:97∈bytesOf s↔((kd:Int)=11∨(kd:Int)=13∨(kd:Int)=16)
 e:101∈bytesOf s↔((kd:Int)=15∨(kd:Int)=16)
 len:(bytesOf s).length<1000000000000
theorem De {kd:Nat} (h:1≤kd∧kd≤16):∃n s,lN[kd - 1]?=some (n,s)∧B3 kd n s:=by
 have:kd=1∨kd=2∨kd=3∨kd=4∨kd=5∨kd=6∨kd=7∨kd=8∨kd=9∨kd=10∨kd=11∨kd=12∨kd=13∨kd=14∨kd=15∨kd=16:=by omega
 rcases this with rfl | rfl | rfl | rfl | rfl | rfl | rfl | rfl | rfl | rfl | rfl | rfl | rfl | rfl | rfl | rfl
 all_goals exact⟨_,_,rfl,by decide,by decide,by decide,by decide,by decide,by decide,by decide⟩
theorem xI {t:T} (hkd:0≤t.h.kind∧t.h.kind≤255) (hb:t.size<1000000000000) {σ:ah} {k kp:AV→ah→Prop} (hk:k (bool (bJ t.h t.kids.length)) σ):Ev PR 158 [t.v] σ k kp:=by
 refine Ev.bB hk ((Dat.val _).low _) fun k' hk'=> ?_
 apply Bf;unfold F158
 have hkl:=t.ck
 have hlen:∀ω,aE .slice (T.vs t.kids) ω=some (int t.kids.length):=fun ω=>by simp
 have hln:∀ω,aE .slice lO ω=some (int 16):=fun ω=>by simp[lO,lN]
 have w1:IntKind.i64.wrap t.h.kind=t.h.kind:=wrap64 (by omega)
 simp[an]
 refine xB ?_
 have fin0:∀v,bJ t.h t.kids.length=v→∀τ,aq σ τ→k' (bool v) τ:=fun v h τ hg=>by rw[←h];exact hk' _ hg
 by_cases h1:t.h.kind<1
 ·simp[h1,an]
  refine fin0 _ ?_ _ (aq.new _ _)
  have:¬0≤bo t.h.kind:=fun h=>by rcases jD h with h | h | h | h | h | h | h | h | h | h | h | h | h | h | h | h<;>omega
  simp[bJ,this]
 by_cases h2:16<t.h.kind
 ·simp[h1,an,w1,hln,h2]
  refine fin0 _ ?_ _ (aq.new _ _)
  have:¬0≤bo t.h.kind:=fun h=>by rcases jD h with h | h | h | h | h | h | h | h | h | h | h | h | h | h | h | h<;>omega
  simp[bJ,this]
 by_cases h3:t.h.pos<0
 ·simp[h1,an,w1,hln,h2,h3]
  refine fin0 _ ?_ _ (aq.new _ _)
  have:¬0≤t.h.pos:=by omega
  simp[bJ,this]
 have h3':0≤t.h.pos:=by omega
 obtain⟨kd,hke⟩:∃kd:Nat,t.h.kind=kd:=⟨t.h.kind.toNat,by omega⟩
 obtain⟨n,s,hs,hsh⟩:=De (kd:=kd) (by omega)
 obtain rfl:=hsh.n
 have hix:∀ω,ak 2 lO (u8 (kd - 1)) ω=some (.ref [int (bo kd),str s]):=fun ω=>by
  have e:((kd:Int) - 1).toNat=kd - 1:=by omega
  have:(kd:Int) - 1<lN.length:=by simp[lN];omega
  simp[lO,aD,e,hs]
  omega
 have w2:IntKind.u8.wrap ((kd:Int) - 1)=kd - 1:=wrap8 (by omega)
 simp[h1,an,w1,hln,h2,h3]
 rw[hke]
 simp[hix,w2]
 generalize hτ:ah.set _ _ _=τ
 have hg:aq σ τ:=by rw[←hτ];exact((aq.new _ _).trans (aq.new _ _)).set (by simp) _
 have g0:τ.get σ.next=some (.cells 8 [t.av]):=by rw[←hτ];simp[an,au]
 have g1:τ.get (σ.next+1)=some (.cells 2 [[int (bo kd),str s]]):=by rw[←hτ];simp[au]
 clear hτ
 have fin:∀v,bJ t.h t.kids.length=v→k' (bool v) τ:=fun v h=>fin0 v h τ hg
 have eo:decide (111∈bytesOf s)=decide ((kd:Int)=9):=by simp[hsh.o]
 have en:decide (110∈bytesOf s)=decide ((kd:Int)=1):=by simp[hsh.num]
 have em:decide (109∈bytesOf s)=decide ((kd:Int)=2∨(kd:Int)=12∨(kd:Int)=13):=decide_eq_decide.2 hsh.m
 have ea:decide (97∈bytesOf s)=decide ((kd:Int)=11∨(kd:Int)=13∨(kd:Int)=16):=decide_eq_decide.2 hsh.a
 have ee:decide (101∈bytesOf s)=decide ((kd:Int)=15∨(kd:Int)=16):=decide_eq_decide.2 hsh.e
 have hhas:∀(c:Int) (b:Bool) (q qp:AV→ah→Prop),decide (c∈bytesOf s)=b→q (bool b) τ→Ev PR 180 [.agg [int (bo kd),str s],u8 c] τ q qp:=fun c b q qp e hq=>yN hsh.len (by rw[e];exact hq)
 have hknn:0≤bo kd:=by
  have hr:(kd:Int)=1∨(kd:Int)=2∨(kd:Int)=3∨(kd:Int)=4∨(kd:Int)=5∨(kd:Int)=6∨(kd:Int)=7∨(kd:Int)=8∨(kd:Int)=9∨(kd:Int)=10∨(kd:Int)=11∨(kd:Int)=12∨(kd:Int)=13∨(kd:Int)=14∨(kd:Int)=15∨(kd:Int)=16:=by omega
  rcases hr with h | h | h | h | h | h | h | h | h | h | h | h | h | h | h | h<;>rw[h]<;>decide
 generalize hopb:(if (kd:Int)=9 then decide (1≤t.h.op)&&decide (t.h.op≤5) else decide (t.h.op=0))=ob
 have hM:bJ t.h t.kids.length=(decide ((t.kids.length:Int)=bo kd)&&ob&&(decide (0≤t.h.n)&&decide (t.h.n≤2147483647)&&(decide ((kd:Int)=1)||decide (t.h.n=0)))
  &&gE (decide ((kd:Int)=2∨(kd:Int)=12∨(kd:Int)=13)) t.h.name (cJ t.h.name)
  &&gE (decide ((kd:Int)=11∨(kd:Int)=13∨(kd:Int)=16)) t.h.arg (cJ t.h.arg)
  &&gE (decide ((kd:Int)=15∨(kd:Int)=16)) t.h.exn (bX t.h.exn 4)):=by
  simp only[bJ,hke,hknn,h3',hopb];simp
 by_cases a1:1≤t.h.op<;>by_cases a2:t.h.op≤5
 all_goals
  simp[g0,g1,a1,a2]
  refine bw (fun fr υ=>fr= [(1,.ptr σ.next 0 0),(4,.ptr (σ.next+1) 0 0),(43,bool (!(decide ((t.kids.length:Int)=bo kd)&&ob)))]∧υ=τ) ?_ ?_
  ·by_cases b1:(t.kids.length:Int)=bo kd
   ·simp[g0,g1,hlen,b1]
    by_cases c9:(kd:Int)=9
    ·rw[if_pos c9]at hopb
     refine hhas 111 true _ _ (by rw[eo];simp[c9]) ?_
     rw[←hopb]
     first
      | (simp[g0,g1,a1,a2]
         done)
      | (simp[g0,g1,a1,a2]
         refine hhas 111 true _ _ (by rw[eo];simp[c9]) ?_
         simp
         done)
    ·rw[if_neg c9]at hopb
     refine hhas 111 false _ _ (by rw[eo];simp[c9]) ?_
     simp[g0,g1]
     refine hhas 111 false _ _ (by rw[eo];simp[c9]) ?_
     simp[g0,g1,←hopb]
   ·simp[g0,g1,hlen,b1]
  ·rintro fr υ ⟨rfl,rfl⟩
   by_cases b1:((decide ((t.kids.length:Int)=bo kd)&&ob):Bool)=true
   case neg=>
    have b1':=Bool.eq_false_iff.2 b1
    simp only[Bool.not_eq_true]at b1
    simp[b1']
    exact fin false (by rw[hM,b1'];simp)
   ·simp[b1,g0,g1]
    by_cases c1:t.h.n<0
    ·simp[c1,g0]
     have:¬0≤t.h.n:=by omega
     exact fin false (by rw[hM];simp[this])
    by_cases c2:2147483647<t.h.n
    ·simp[c1,c2,g0]
     have:¬t.h.n≤2147483647:=by omega
     exact fin false (by rw[hM];simp[this])
    have c1':0≤t.h.n:=by omega
    have c2':t.h.n≤2147483647:=by omega
    simp[c1,c2,g0,g1]
    by_cases c3:((kd:Int)=1∨t.h.n=0)
    case neg=>
     have d1:¬(kd:Int)=1:=fun h=>c3 (.inl h)
     have d2:¬t.h.n=0:=fun h=>c3 (.inr h)
     refine hhas 110 false _ _ (by rw[en];simp[d1]) ?_
     simp[d2,g0]
     exact fin false (by rw[hM];simp[d1,d2])
    have hN:(decide ((kd:Int)=1)||decide (t.h.n=0))=true:=by simpa using c3
    have hM2:bJ t.h t.kids.length=(gE (decide ((kd:Int)=2∨(kd:Int)=12∨(kd:Int)=13)) t.h.name (cJ t.h.name)
     &&gE (decide ((kd:Int)=11∨(kd:Int)=13∨(kd:Int)=16)) t.h.arg (cJ t.h.arg)
     &&gE (decide ((kd:Int)=15∨(kd:Int)=16)) t.h.exn (bX t.h.exn 4)):=by
     rw[hM,b1,hN];simp[c1',c2']
    have tl:Ev PR 181 [.agg [int (bo kd),str s],u8 109,str t.h.name,.fn (.func 182) []] υ (fun t93 σ_1=>
     gK t93 true (fun K=>ab (ae σ_1 (aj true 2 (.ptr (σ.next+1) 0 0) σ_1)) K) (fun t95 σ_2=>
     gK t93 true (fun K=>ab (ae σ_2 (ag 0 (.ptr σ.next 0 0))) K) (fun t96 σ_3=>
     gK t93 true (fun K=>ab (ae σ_3 (ag 5 t96)) K) (fun t97 σ_4=>
     gK t93 true (fun K=>ab (ae σ_4 (aj false 1 t97 σ_4)) K) (fun t98 σ_5=>
     gK t93 true (fun K=>Ev PR 181 [t95,u8 97,t98,.fn (.func 182) []] σ_5 K fun _ _=>False) (fun t99 σ_6=>
     ab (ae σ_6 (aF t93 t99 (bool false))) fun t100 σ_7=>
     gK t100 true (fun K=>ab (ae σ_7 (aj true 2 (.ptr (σ.next+1) 0 0) σ_7)) K) (fun t102 σ_8=>
     gK t100 true (fun K=>ab (ae σ_8 (ag 0 (.ptr σ.next 0 0))) K) (fun t103 σ_9=>
     gK t100 true (fun K=>ab (ae σ_9 (ag 6 t103)) K) (fun t104 σ_10=>
     gK t100 true (fun K=>ab (ae σ_10 (aj false 1 t104 σ_10)) K) (fun t105 σ_11=>
     gK t100 true (fun K=>Ev PR 181 [t102,u8 101,t105,.fn (.func 163) []] σ_11 K fun _ _=>False) (fun t106 σ_12=>
     ab (ae σ_12 (aF t100 t106 (bool false))) fun t107 σ_13=>k' t107 σ_13) σ_11) σ_10) σ_9) σ_8) σ_7) σ_5) σ_4) σ_3) σ_2) σ_1) (fun _ _=>False):=by
     refine ot (b:=cJ t.h.name) hsh.len (fun σ k kp hk=>vP hk) ?_
     rw[em]
     cases e1:gE (decide ((kd:Int)=2∨(kd:Int)=12∨(kd:Int)=13)) t.h.name (cJ t.h.name)
     ·simp
      exact fin false (by rw[hM2,e1];rfl)
     simp[g0,g1]
     refine ot (b:=cJ t.h.arg) hsh.len (fun σ k kp hk=>vP hk) ?_
     rw[ea]
     cases e2:gE (decide ((kd:Int)=11∨(kd:Int)=13∨(kd:Int)=16)) t.h.arg (cJ t.h.arg)
     ·simp
      exact fin false (by rw[hM2,e1,e2];rfl)
     simp[g0,g1]
     refine ot (b:=bX t.h.exn 4) hsh.len (fun σ k kp hk=>yD hk) ?_
     rw[ee]
     simp
     exact fin _ (by rw[hM2,e1,e2];simp)
    cases hd:decide ((kd:Int)=1)
    ·have c4:t.h.n=0:=by
      rcases c3 with h | h
      ·rw[h]at hd;simp at hd
      ·exact h
     refine hhas 110 false _ _ (by rw[en];exact hd) ?_
     simp[c4,g0,g1]
     exact tl
    ·refine hhas 110 true _ _ (by rw[en];exact hd) ?_
     simp[g0,g1]
     exact tl
end Go.Abs.At
