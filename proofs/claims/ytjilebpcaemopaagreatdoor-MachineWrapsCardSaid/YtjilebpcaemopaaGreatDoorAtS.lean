import Derived.Test.YtjilebpcaemopaaGreatDoorMacDecS
import Derived.Test.YtjilebpcaemopaaGreatDoorAtB
import Derived.Lib.Bytealg
set_option linter.unusedVariables false
set_option linter.unusedSimpArgs false
namespace Go.Abs.At
open Go Go.Abs Go.Proofs.AtD
attribute [local simp] Nat.add_assoc
def jg (c:Int):Prop:=0≤c∧c≤255
theorem kU {s:ByteArray} {c:Int} (h:c∈bytesOf s):jg c:=by
 obtain⟨b,_,rfl⟩:=List.mem_map.1 h
 have:=b.toNat_lt
 exact⟨by omega,by omega⟩
@[simp] theorem gI (s:ByteArray):(bytesOf s).length=s.size:=by simp[bytesOf]
theorem iz {s:ByteArray} {i:Nat} {c:Int} (h:(bytesOf s)[i]?=some c) (k:IntKind):bG (str s) (.val (.int k i))=some (u8 c):=by
 simp only[bytesOf,List.getElem?_map,Option.map_eq_some_iff]at h
 obtain⟨b,hb,rfl⟩:=h
 have hb':s[i]?=some b:=by
  have hi:=(List.getElem?_eq_some_iff.1 hb).1
  have hi':i<s.size:=by simpa using hi
  rw[getElem?_pos s i hi']
  rw[List.getElem?_eq_getElem hi]at hb
  rw[←Option.some.inj hb]
  rfl
 simp[bG,hb']
theorem pM (l:List UInt8) (c:UInt8):0≤Go.Lib.indexByte l c↔c∈l:=by
 induction l with
 | nil=>simp[Go.Lib.indexByte]
 | cons b l ih=>
  unfold Go.Lib.indexByte
  by_cases hb:b=c
  ·subst hb;simp
  ·have:(b==c)=false:=by simpa using hb
   simp only[this,Bool.false_eq_true,if_false]
   have hge:=Go.Lib.indexByte_ge l c
   by_cases h1:Go.Lib.indexByte l c= -1
   ·have hn:c∉l:=fun h=>by have:=ih.2 h;omega
    simp[h1,hn,Ne.symm hb]
   ·have hn:c∈l:=ih.1 (by omega)
    have h2:(Go.Lib.indexByte l c== -1)=false:=by simpa using h1
    simp[h2,hn];omega
theorem xh {s:ByteArray} {c:Int} (hc:jg c):c.toNat.toUInt8∈s.data.toList↔c∈bytesOf s:=by
 obtain⟨h0,h1⟩:=hc
 constructor
 ·intro h
  refine List.mem_map.2 ⟨_,h,?_⟩
  have:c.toNat.toUInt8.toNat=c.toNat:=by
   rw[Nat.toUInt8_eq,UInt8.toNat_ofNat']
   omega
  omega
 ·intro h
  obtain⟨b,hb,rfl⟩:=List.mem_map.1 h
  simpa using hb
theorem jb {s:ByteArray} {c:Int} (hc:jg c) {σ:ah} {k kp:AV→ah→Prop} (hk:∀r:Int,(0≤r↔c∈bytesOf s)→k (int r) σ):Ev PR 220 [str s,u8 c] σ k kp:=by
 apply BQ;unfold F220
 apply vo;unfold Em
 refine Ev.ext (fn:=Go.Proofs.Tryz.f227) (e:=Extern.BytealgIndexByte.indexByte) Go.Proofs.Tryz.func227 (by kernel_rfl) (by kernel_rfl) (by kernel_rfl) (by kernel_rfl) (fun ctx w vs ha=> ?_)
 obtain⟨h1,h2⟩:=ha
 obtain⟨a,b,rfl⟩:∃a b,vs= #[a,b]:=by
  match vs,h1 with
  | ⟨[a,b]⟩,_=>exact⟨a,b,rfl⟩
 obtain rfl:=(h2 0 _ a rfl rfl).aQ
 obtain rfl:=(h2 1 _ b rfl rfl).aQ
 exact⟨_,_,Go.Lib.run_indexByteString s c w,hk _ ((pM _ _).trans (xh hc)),.val _⟩
def bA (c:Int):Int:=
 if c=32∨c=9∨c=10 then 1
 else if 48≤c∧c≤57 then 2
 else if 97≤c∧c≤122 then 3
 else if 65≤c∧c≤90 then 4
 else if c∈[(40:Int),41,44,33,58,61,62,43,45,42,60,59] then 5
 else 0
theorem sd {c:Int} (hc:jg c) {σ:ah} {k kp:AV→ah→Prop} (hk:k (u8 (bA c)) σ):Ev PR 209 [u8 c] σ k kp:=by
 apply BK;unfold F209
 refine jb hc fun r hr=> ?_
 have e1:(0≤r)=(c=32∨c=9∨c=10):=by
  rw[hr];simp[bytesOf]
 by_cases h1:c=32∨c=9∨c=10
 ·have:(0:Int)≤r:=by rw[e1];exact h1
  simp[this]
  simpa [bA,h1] using hk
 ·have:¬(0:Int)≤r:=by rw[e1];exact h1
  simp[this]
  have fin:∀v,bA c=v→k (u8 v) σ:=fun v h=>by rw[←h];exact hk
  have go:¬(48≤c∧c≤57)→¬(97≤c∧c≤122)→¬(65≤c∧c≤90)→Ev PR 220 [str ⟨#[40,41,44,33,58,61,62,43,45,42,60,59]⟩,u8 c] σ (fun t30 σ_1=>ab (ae σ_1 (ar .geq .prim t30 (int 0))) fun t31 σ_2=>ay t31 (k (u8 5) σ_2) (k (u8 0) σ_2)) kp:=fun b1 b2 b3=>by
   refine jb hc fun r hr=> ?_
   have e2:(0≤r)=(c∈[(40:Int),41,44,33,58,61,62,43,45,42,60,59]):=by
    rw[hr];simp[bytesOf]
   by_cases h5:c∈[(40:Int),41,44,33,58,61,62,43,45,42,60,59]
   ·have:(0:Int)≤r:=by rw[e2];exact h5
    simp[this]
    exact fin 5 (by unfold bA;rw[if_neg h1,if_neg b1,if_neg b2,if_neg b3,if_pos h5])
   ·have:¬(0:Int)≤r:=by rw[e2];exact h5
    simp[this]
    exact fin 0 (by unfold bA;rw[if_neg h1,if_neg b1,if_neg b2,if_neg b3,if_neg h5])
  by_cases a1:48≤c<;>by_cases a2:c≤57<;>by_cases a3:97≤c<;>by_cases a4:c≤122<;>by_cases a5:65≤c<;>by_cases a6:c≤90<;>simp[a1,a2,a3,a4,a5,a6]
  all_goals first
   | (exfalso;omega)
   | exact go (by omega) (by omega) (by omega)
   | exact fin 2 (by unfold bA;rw[if_neg h1,if_pos (by omega)])
   | exact fin 3 (by unfold bA;rw[if_neg h1,if_neg (by omega),if_pos (by omega)])
   | exact fin 4 (by unfold bA;rw[if_neg h1,if_neg (by omega),if_neg (by omega),if_pos (by omega)])
def tab:List Int:=[40,41,44,33,58,61,62,43,45,42,60,59]
theorem pY {c:Int} {σ:ah} {k kp:AV→ah→Prop} (hk:k (u8 (bA c)) σ):Ev PR 173 [u8 c] σ k kp:=by
 refine Ev.bB hk ((Dat.val _).low _) fun k' hk'=> ?_
 have fin:∀v,bA c=v→k' (u8 v) σ:=fun v h=>by rw[←h];exact hk' _ (aq.refl _)
 apply Bq;unfold F173
 by_cases b1:c=32<;>by_cases b2:c=9<;>by_cases b3:c=10<;>by_cases a1:48≤c<;>by_cases a2:c≤57<;>by_cases a3:97≤c<;>by_cases a4:c≤122<;>by_cases a5:65≤c<;>by_cases a6:c≤90
 all_goals first
  | (exfalso;omega)
  | (simp[b1,b2,b3,a1,a2,a3,a4,a5,a6];exact fin 1 (by unfold bA;rw[if_pos (by omega)]))
  | (simp[b1,b2,b3,a1,a2,a3,a4,a5,a6];exact fin 2 (by unfold bA;rw[if_neg (by omega),if_pos (by omega)]))
  | (simp[b1,b2,b3,a1,a2,a3,a4,a5,a6];exact fin 3 (by unfold bA;rw[if_neg (by omega),if_neg (by omega),if_pos (by omega)]))
  | (simp[b1,b2,b3,a1,a2,a3,a4,a5,a6];exact fin 4 (by unfold bA;rw[if_neg (by omega),if_neg (by omega),if_neg (by omega),if_pos (by omega)]))
  | skip
 all_goals
  have e5:c∈tab→bA c=5:=fun h=>by unfold bA;rw[if_neg (by omega),if_neg (by omega),if_neg (by omega),if_neg (by omega)];exact if_pos h
  have e0:c∉tab→bA c=0:=fun h=>by unfold bA;rw[if_neg (by omega),if_neg (by omega),if_neg (by omega),if_neg (by omega)];exact if_neg h
  have hl:tab.length=12:=rfl
  simp[b1,b2,b3,a1,a2,a3,a4,a5,a6]
  refine aM ?_
  refine aX (fun j:Nat=>[(0,u8 c),(3,.sl true 1 (tab.map fun b=>[u8 b])),(35,int 12),(36,int j)]) (fun j φ=>φ=σ∧j≤12∧c∉tab.take j) (fun fr _=>12 - (intOf (aa fr 36)).toNat) 0 (by simp[tab]) ⟨rfl,by simp,by simp⟩ ?_
  rintro j φ ⟨rfl,hj,hne⟩
  simp
  by_cases hjl:j<12
  ·obtain⟨t,ht⟩:=get_some (l:=tab) (i:=j) (by omega)
   have hix:∀ω,ak 1 (.sl true 1 (tab.map fun b=>[u8 b])) (int j) ω=some (.ref [u8 t]):=fun ω=>by rw[aD];simp[ht]
   have hjl':(j:Int)<12:=by omega
   simp[hjl',hix]
   by_cases hc:t=c
   ·subst hc
    simp
    exact fin 5 (e5 (List.mem_of_getElem? ht))
   ·simp[hc]
    rw[wrap64 (by omega)]
    refine⟨⟨j+1,by simp,by omega,fun h=> ?_⟩,by omega⟩
    rw[List.take_add_one,ht]at h
    rcases List.mem_append.1 h with h | h
    ·exact hne h
    ·simp at h;exact hc h.symm
  ·have hall:tab.take j=tab:=List.take_of_length_le (by omega)
   rw[hall]at hne
   have hjl':¬(j:Int)<12:=by omega
   simp[hjl']
   exact fin 0 (e0 hne)
def bX (s:ByteArray) (first:Int):Bool:=match bytesOf s with
 | []=>false
 | c::l=>decide (l.length<16)&&decide (bA c=first)&&(c::l).all fun c=>decide (2≤bA c∧bA c≤4)
theorem qv {s:ByteArray} {f:Int} {σ:ah} {k kp:AV→ah→Prop} (hk:k (bool (bX s f)) σ):Ev PR 134 [str s,u8 f] σ k kp:=by
 have fin:∀v,bX s f=v→k (bool v) σ:=fun v h=>by rw[←h];exact hk
 apply AM;unfold F134
 have hbl:=gI s
 cases hb:bytesOf s with
 | nil=>
  have h0:s.size=0:=by rw[←hbl,hb];rfl
  obtain rfl:s=ByteArray.empty:=by simpa using h0
  simp
  exact fin false (by unfold bX;rw[hb])
 | cons c l=>
  have h1:s.size=l.length+1:=by rw[←hbl,hb];rfl
  have h0:¬s=ByteArray.empty:=by rintro rfl;simp at h1
  by_cases h16:(16:Int)<s.size
  ·simp[h0,h16]
   exact fin false (by unfold bX;rw[hb];simp;omega)
  ·have hix:bG (str s) (int 0)=some (u8 c):=iz (i:=0) (by rw[hb];rfl) .i64
   simp[h0,h16,hix]
   have hl16:l.length<16:=by omega
   refine pY ?_
   by_cases hcf:bA c=f
   ·simp[hcf]
    refine aM ?_
    refine aX (fun j:Nat=>[(0,str s),(5,int j)]) (fun j φ=>φ=σ∧j≤s.size∧∀x∈(bytesOf s).take j,2≤bA x∧bA x≤4) (fun fr _=>s.size - (intOf (aa fr 5)).toNat) 0 (by simp) ⟨rfl,by simp,by simp⟩ ?_
    rintro j φ ⟨rfl,hj,hall⟩
    simp
    by_cases hjl:j<s.size
    ·obtain⟨x,hx⟩:=get_some (l:=bytesOf s) (i:=j) (by omega)
     simp[hjl,iz hx]
     refine pY ?_
     by_cases k1:2≤bA x
     ·by_cases k2:bA x≤4
      ·have n1:¬bA x<2:=by omega
       have n2:¬4<bA x:=by omega
       simp[n1,n2]
       rw[wrap64 (by omega)]
       refine⟨⟨j+1,by simp,by omega,fun y hy=> ?_⟩,by omega⟩
       rw[List.take_add_one,hx]at hy
       rcases List.mem_append.1 hy with h | h
       ·exact hall y h
       ·simp at h;subst h;exact⟨k1,k2⟩
      ·have n1:¬bA x<2:=by omega
       have n2:4<bA x:=by omega
       simp[n1,n2]
       refine fin false ?_
       have hm:=List.mem_of_getElem? hx
       unfold bX
       rw[hb]at hm⊢
       simp only[Bool.and_eq_false_iff]
       exact .inr (List.all_eq_false.2 ⟨x,hm,by simp;omega⟩)
     ·have n1:bA x<2:=by omega
      simp[n1]
      refine fin false ?_
      have hm:=List.mem_of_getElem? hx
      unfold bX
      rw[hb]at hm⊢
      simp only[Bool.and_eq_false_iff]
      exact .inr (List.all_eq_false.2 ⟨x,hm,by simp;omega⟩)
    ·rw[List.take_of_length_le (by omega)]at hall
     simp[hjl]
     refine fin true ?_
     unfold bX
     rw[hb]at hall⊢
     simp only[Bool.and_eq_true]
     exact⟨⟨by simpa using hl16,by simpa using hcf⟩,List.all_eq_true.2 fun x hx=>by simpa using hall x hx⟩
   ·simp[hcf]
    refine fin false ?_
    unfold bX
    rw[hb]
    simp[hcf]
def Good (c:Int):Prop:=2≤bA c∧bA c≤4
instance (c:Int):Decidable (Good c):=inferInstanceAs (Decidable (_∧_))
abbrev cls3:AV:=.sl true 1 [[u8 3],[u8 4],[u8 2]]
theorem um {s:ByteArray} {q:Nat} (hb:s.size<1000000000000) {σ:ah} (hq:σ.get q=some (.cells 1 [[cls3]])) {k kp:AV→ah→Prop}
 (hk:∀r:Int,(if (∀x∈bytesOf s,Good x) then r= -1 else 0≤r∧r<s.size)→k (int r) σ):Ev PR 221 [u8V (bytesOf s),.fn (.func 222) [.ptr q 0 0]] σ k kp:=by
 apply BR;unfold F221
 have hbl:=gI s
 simp
 refine aM ?_
 refine aX (fun j:Nat=>[(0,u8V (bytesOf s)),(1,.fn (.func 222) [.ptr q 0 0]),(7,int s.size),(8,int j)]) (fun j φ=>φ=σ∧j≤s.size∧∀x∈(bytesOf s).take j,Good x) (fun fr _=>s.size - (intOf (aa fr 8)).toNat) 0 (by simp) ⟨rfl,by simp,by simp⟩ ?_
 rintro j φ ⟨rfl,hj,hall⟩
 simp
 by_cases hjl:j<s.size
 ·obtain⟨x,hx⟩:=get_some (l:=bytesOf s) (i:=j) (by omega)
  have hxb:=kU (List.mem_of_getElem? hx)
  have hix:∀ω,ak 1 (u8V (bytesOf s)) (int j) ω=some (.ref [u8 x]):=fun ω=>by rw[aD];simp[hx]
  simp[hjl,hix]
  show Ev PR 222 _ _ _ _
  apply BS;unfold F222
  simp[hq]
  refine sd hxb ?_
  simp[hq]
  refine Ev.iw (args':=[u8V [3,4,2],u8 (bA x)]) (.cons Fz.clip (.cons (.refl _) .nil)) ?_
  refine mJ (by simp) ?_
  by_cases hg:Good x
  ·have:bA x∈[(3:Int),4,2]:=by
    have h1:=hg.1;have h2:=hg.2
    simp;omega
   simp only[this,decide_true,lW,Bool.not_true]
   simp
   rw[wrap64 (by omega)]
   refine⟨⟨j+1,by simp,by omega,fun y hy=> ?_⟩,by omega⟩
   rw[List.take_add_one,hx]at hy
   rcases List.mem_append.1 hy with h | h
   ·exact hall y h
   ·simp at h;subst h;exact hg
  ·have:bA x∉[(3:Int),4,2]:=by
    intro h
    apply hg
    simp at h
    unfold Good
    omega
   simp only[this,decide_false,lW,Bool.not_false]
   simp
   refine hk _ ?_
   rw[if_neg (fun h=>hg (h x (List.mem_of_getElem? hx)))]
   omega
 ·rw[List.take_of_length_le (by omega)]at hall
  simp[hjl]
  refine hk _ ?_
  rw[if_pos hall]
theorem Df {s:ByteArray} (hs:0<s.size) (hb:s.size<1000000000000) {σ:ah} {k kp:AV→ah→Prop}
 (hk:∀r:Int,(r=s.size↔∀x∈bytesOf s,Good x)→k (int r) σ):Ev PR 210 [u8V (bytesOf s),int 0,cls3] σ k kp:=by
 refine Ev.jc ?_
 apply BL;unfold F210
 have hbl:=gI s
 have h0:¬s=ByteArray.empty:=by rintro rfl;simp at hs
 have h0':¬((s.size:Int)≤0):=by omega
 simp[h0,h0',hbl]
 have w:IntKind.i64.wrap (s.size:Int)=s.size:=wrap64 (by omega)
 refine um hb (by simp[an]) fun r hr=> ?_
 by_cases hall:∀x∈bytesOf s,Good x
 ·rw[if_pos hall]at hr
  subst hr
  simp[w]
  exact⟨aq.new _ _,.val _,hk _ ⟨fun _=>hall,fun _=>rfl⟩⟩
 ·rw[if_neg hall]at hr
  have:¬r<0:=by omega
  simp[this]
  exact⟨aq.new _ _,.val _,hk _ ⟨fun h=>by omega,fun h=>absurd h hall⟩⟩
theorem qw {s:ByteArray} {f:Int} {σ:ah} {k kp:AV→ah→Prop} (hk:k (bool (bX s f)) σ):Ev PR 188 [str s,u8 f] σ k kp:=by
 have fin:∀v,bX s f=v→k (bool v) σ:=fun v h=>by rw[←h];exact hk
 apply BE;unfold F188
 have hbl:=gI s
 cases hb:bytesOf s with
 | nil=>
  have h0:s.size=0:=by rw[←hbl,hb];rfl
  obtain rfl:s=ByteArray.empty:=by simpa using h0
  simp[empty_eq]
  exact fin false (by unfold bX;rw[hb])
 | cons c l=>
  have h1:s.size=l.length+1:=by rw[←hbl,hb];rfl
  have h0:¬s=ByteArray.empty:=by rintro rfl;simp at h1
  by_cases h16:(16:Int)<s.size
  ·simp[h0,h16,empty_eq]
   exact fin false (by unfold bX;rw[hb];simp;omega)
  ·have hix:bG (str s) (int 0)=some (u8 c):=iz (i:=0) (by rw[hb];rfl) .i64
   simp[h0,h16,hix,empty_eq]
   have hl16:l.length<16:=by omega
   refine sd (kU (s:=s) (by rw[hb];simp)) ?_
   by_cases hcf:bA c=f
   ·simp[hcf,pX]
    refine Df (by omega) (by omega) fun r hr=> ?_
    have e:bX s f=decide (r=s.size):=by
     rw[hb]at hr
     unfold bX
     rw[hb]
     simp only[hl16,hcf,decide_true,Bool.true_and]
     rw[Bool.eq_iff_iff,List.all_eq_true,decide_eq_true_iff,hr]
     constructor
     ·intro h x hx;exact of_decide_eq_true (h x hx)
     ·intro h x hx;exact decide_eq_true (h x hx)
    simp
    exact fin _ e
   ·simp[hcf]
    refine fin false ?_
    unfold bX
    rw[hb]
    simp[hcf]
theorem vD {s:ByteArray} {σ:ah} {k kp:AV→ah→Prop} (hk:k (bool (bX s 4)) σ):Ev PR 138 [str s] σ k kp:=by
 apply AQ;unfold F138
 exact qv hk
theorem vt {s:ByteArray} {g:FuncId} {b:Bool} (hg:∀(σ:ah) (k kp:AV→ah→Prop),k (bool b) σ→Ev PR g [str s] σ k kp) {σ:ah} {k kp:AV→ah→Prop} (hk:k (bool b) σ):Ev PR 186 [.fn (.func g) [],.sl true 1 [[str s]]] σ k kp:=by
 refine Ev.bB hk ((Dat.val _).low _) fun k' hk'=> ?_
 apply BC;unfold F186
 simp
 apply BI;unfold F207
 apply BP;unfold F219
 simp
 refine aM ?_
 generalize hτ:σ.new _=τ
 have hG:aq σ τ:=by rw[←hτ];exact aq.new _ _
 have hq:τ.get σ.next=some (.cells 1 [[.fn (.func g) []]]):=by rw[←hτ];simp[an]
 clear hτ
 refine aX (fun j:Nat=>[(0,.sl true 1 [[str s]]),(1,.fn (.func 208) [.ptr σ.next 0 0]),(7,int 1),(8,int j)]) (fun j φ=>φ=τ∧(j=0∨j=1∧b=true)) (fun fr _=>1 - (intOf (aa fr 8)).toNat) 0 (by simp) ⟨rfl,.inl rfl⟩ ?_
 rintro j φ ⟨rfl,rfl | ⟨rfl,hb⟩⟩
 ·simp[aD]
  show Ev PR 208 _ _ _ _
  apply BJ;unfold F208
  simp[hq]
  show Ev PR g _ _ _ _
  refine hg _ _ _ ?_
  cases b with
  | true=>
   simp
   exact⟨1,rfl,.inr rfl⟩
  | false=>
   simp
   exact hk' _ hG
 ·subst hb
  simp
  exact hk' _ hG
theorem yD {s:ByteArray} {σ:ah} {k kp:AV→ah→Prop} (hk:k (bool (bX s 4)) σ):Ev PR 163 [.sl true 1 [[str s]]] σ k kp:=by
 apply Bh;unfold F163
 refine vt (fun σ k kp hk=> ?_) hk
 apply BD;unfold F187
 exact qw hk
end Go.Abs.At
set_option linter.unusedVariables false
set_option linter.unusedSimpArgs false
namespace Go.Abs.At
open Go Go.Abs Go.Proofs.AtD
attribute [local simp] Nat.add_assoc
def bL (a:Atom):Bool:=
 if a.kind=3 then decide (a.rho=0)&&bX a.exn 4
 else (decide (a.kind=1)||decide (a.kind=2))&&decide (0≤a.rho)&&decide (a.exn=ByteArray.empty)
abbrev Atom.v (a:Atom):AV:=.agg a.av
theorem Atom.df (a:Atom):a.av= [u8 a.kind,int a.rho,str a.exn]:=rfl
theorem fW {a:Atom} {σ:ah} {k kp:AV→ah→Prop} (hk:k (bool (bL a)) σ):Ev PR 105 [a.v] σ k kp:=by
 refine Ev.bB hk ((Dat.val _).low _) fun k' hk'=> ?_
 apply Aq;unfold F105
 obtain⟨kd,rho,exn⟩:=a
 simp[Atom.av,empty_eq]
 generalize hτ:σ.new _=τ
 have g0:τ.get σ.next=some (.cells 3 [[u8 kd,int rho,str exn]]):=by rw[←hτ];simp[an]
 have hG:aq σ τ:=by rw[←hτ];exact aq.new _ _
 clear hτ
 have fin:∀v,bL ⟨kd,rho,exn⟩=v→k' (bool v) τ:=fun v h=>by rw[←h];exact hk' _ hG
 by_cases h3:kd=3
 ·by_cases h00:rho=0
  ·simp[g0,h3,h00]
   refine vD ?_
   exact fin _ (by simp[bL,h3,h00])
  ·simp[g0,h3,h00]
   exact fin _ (by simp[bL,h3,h00])
 ·by_cases h1:kd=1<;>by_cases h2:kd=2<;>by_cases h0:0≤rho<;>by_cases he:exn=ByteArray.empty
  all_goals first
   | (exfalso;omega)
   | (simp[g0,h3,h1,h2,h0,he];exact fin _ (by simp[bL,h3,h1,h2,h0,he]))
theorem Cd {a:Atom} {σ:ah} {k kp:AV→ah→Prop} (hk:k (bool (bL a)) σ):Ev PR 120 [a.v] σ k kp:=by
 refine Ev.bB hk ((Dat.val _).low _) fun k' hk'=> ?_
 apply AD;unfold F120
 obtain⟨kd,rho,exn⟩:=a
 simp[Atom.av,empty_eq]
 generalize hτ:σ.new _=τ
 have g0:τ.get σ.next=some (.cells 3 [[u8 kd,int rho,str exn]]):=by rw[←hτ];simp[an]
 have hG:aq σ τ:=by rw[←hτ];exact aq.new _ _
 clear hτ
 have fin:∀v,bL ⟨kd,rho,exn⟩=v→k' (bool v) τ:=fun v h=>by rw[←h];exact hk' _ hG
 refine aM ?_
 by_cases h1:kd=1<;>by_cases h2:kd=2<;>by_cases h3:kd=3<;>by_cases h0:0≤rho<;>by_cases h00:rho=0<;>by_cases he:exn=ByteArray.empty
 all_goals first
  | (exfalso;omega)
  | (simp[g0,h3,h1,h2,h0,h00,he];exact fin _ (by simp[bL,h3,h1,h2,h0,h00,he]))
  | skip
 all_goals
  simp[g0,h3,h1,h2,h0,h00]
  refine yD ?_
  exact fin _ (by simp[bL,h3,h1,h2,h0,h00])
@[simp] theorem Atom.bT (a:Atom):a.av.length=3:=rfl
theorem yA (x a:Atom):bp [.i,.i,.s] x.av a.av=some (decide (x=a)):=by
 obtain⟨k1,r1,e1⟩:=x
 obtain⟨k2,r2,e2⟩:=a
 simp[Atom.av,Bool.and_assoc]
theorem jx {l:List Atom} {j:Nat} {t:Atom} (h:l[j]?=some t) (ω:ah):ak 3 (aT l) (int j) ω=some (.ref t.av):=by
 rw[aT,aD];simp[h]
theorem Atom.mZ (a:Atom):a.av.take 3=a.av:=rfl
theorem uv {l:List Atom} {a:Atom} (hb:l.length<1000000000000) {σ:ah} {k kp:AV→ah→Prop} (hk:k (bool (decide (a∈l))) σ):Ev PR 111 [aT l,a.v] σ k kp:=by
 refine Ev.bB hk ((Dat.val _).low _) fun k' hk'=> ?_
 apply va;unfold D5
 have hlen:∀ω,aE .slice (aT l) ω=some (int l.length):=fun ω=>by simp[aT]
 simp[hlen]
 generalize hτ:σ.new _=τ
 have g0:τ.get σ.next=some (.cells 3 [a.av]):=by rw[←hτ];simp[an]
 have hG:aq σ τ:=by rw[←hτ];exact aq.new _ _
 clear hτ
 refine aM ?_
 refine aX (fun j:Nat=>[(0,aT l),(3,.ptr σ.next 0 0),(7,int l.length),(8,int j)]) (fun j φ=>φ=τ∧j≤l.length∧a∉l.take j) (fun fr _=>l.length - (intOf (aa fr 8)).toNat) 0 (by simp) ⟨rfl,by simp,by simp⟩ ?_
 rintro j φ ⟨rfl,hj,hne⟩
 simp
 by_cases hjl:j<l.length
 ·obtain⟨t,ht⟩:=get_some hjl
  simp[hjl,jx ht,g0,Atom.mZ,yA]
  by_cases hc:t=a
  ·subst hc
   simp
   have:=hk' _ hG
   rwa [decide_eq_true (List.mem_of_getElem? ht)]at this
  ·simp[hc]
   rw[wrap64 (by omega)]
   refine⟨⟨j+1,by simp,by omega,fun h=> ?_⟩,by omega⟩
   rw[List.take_add_one,ht]at h
   rcases List.mem_append.1 h with h | h
   ·exact hne h
   ·simp at h;exact hc h.symm
 ·rw[List.take_of_length_le (by omega)]at hne
  simp[hjl]
  have:=hk' _ hG
  rwa [decide_eq_false hne]at this
def bx (a b:List Atom):Bool:=a.all fun x=> !bL x||decide (x∈b)
theorem gC {a b:List Atom} (ha:a.length<1000000000000) (hb:b.length<1000000000000) {σ:ah} {k kp:AV→ah→Prop} (hk:k (bool (bx a b)) σ):Ev PR 144 [aT a,aT b] σ k kp:=by
 apply AY;unfold F144
 have hlen:∀ω,aE .slice (aT a) ω=some (int a.length):=fun ω=>by simp[aT]
 simp[hlen]
 refine aM ?_
 refine aX (fun j:Nat=>[(0,aT a),(1,aT b),(7,int a.length),(8,int j)]) (fun j φ=>φ=σ∧j≤a.length∧bx (a.take j) b=true) (fun fr _=>a.length - (intOf (aa fr 8)).toNat) 0 (by simp) ⟨rfl,by simp,by simp[bx]⟩ ?_
 rintro j φ ⟨rfl,hj,hall⟩
 simp
 by_cases hjl:j<a.length
 ·obtain⟨t,ht⟩:=get_some hjl
  have hstep:bx (a.take (j+1)) b=(!bL t||decide (t∈b)):=by
   rw[List.take_add_one,ht]
   have:bx (a.take j++ [t]) b=(bx (a.take j) b&&(!bL t||decide (t∈b))):=by simp[bx,List.all_append]
   simpa [hall] using this
  have hno:(!bL t||decide (t∈b))=false→bx a b=false:=fun h=>List.all_eq_false.2 ⟨t,List.mem_of_getElem? ht,by rw[h];simp⟩
  simp[hjl,jx ht,Atom.mZ]
  refine fW ?_
  cases hat:bL t with
  | false=>
   simp
   rw[wrap64 (by omega)]
   exact⟨⟨j+1,by simp,by omega,by rw[hstep,hat];rfl⟩,by omega⟩
  | true=>
   simp[jx ht,Atom.mZ]
   refine uv hb ?_
   by_cases hm:t∈b
   ·simp[hm]
    rw[wrap64 (by omega)]
    exact⟨⟨j+1,by simp,by omega,by rw[hstep,hat];simpa using hm⟩,by omega⟩
   ·simp[hm]
    rw[hno (by simp[hat,hm])]at hk
    exact hk
 ·rw[List.take_of_length_le (by omega)]at hall
  simp[hjl]
  rw[hall]at hk
  exact hk
end Go.Abs.At
set_option linter.unusedVariables false
set_option linter.unusedSimpArgs false
namespace Go.Abs.At
open Go Go.Abs Go.Proofs.AtD
attribute [local simp] Nat.add_assoc
@[simp] theorem RT.qR (t:RT):t.av.head?=some (u8 t.kind):=by cases t;rfl
mutual
def RT.same:RT→RT→Bool
 | .mk k r e ks,.mk k' r' e' ks'=>decide (k=k')&&decide (r=r')&&(bx e e'&&bx e' e)&&RT.dI ks ks'
def RT.dI:List RT→List RT→Bool
 | [],[]=>true
 | a::l,b::m=>RT.same a b&&RT.dI l m
 | [],_::_=>false
 | _::_,[]=>false
end
theorem RT.jX:∀ {l m:List RT},l.length≠m.length→RT.dI l m=false
 | [],[],h=>absurd rfl h
 | [],_::_,_=>rfl
 | _::_,[],_=>rfl
 | a::l,b::m,h=>by simp only[RT.dI];rw[RT.jX (by simpa using h)];simp
theorem RT.lL:∀ {l m:List RT} {i:Nat} {a b:RT},l[i]?=some a→m[i]?=some b→RT.same a b=false→RT.dI l m=false
 | [],_,i,a,b,h,_,_=>by simp at h
 | _::_,[],i,a,b,_,h,_=>by simp at h
 | x::l,y::m,0,a,b,h1,h2,h3=>by simp at h1 h2;subst h1;subst h2;simp[RT.dI,h3]
 | x::l,y::m,i+1,a,b,h1,h2,h3=>by simp only[RT.dI];rw[RT.lL (by simpa using h1) (by simpa using h2) h3];simp
theorem RT.jY:∀ {l m:List RT},l.length=m.length→(∀(i:Nat) a b,l[i]?=some a→m[i]?=some b→RT.same a b=true)→RT.dI l m=true
 | [],[],_,_=>rfl
 | [],_::_,h,_=>by simp at h
 | _::_,[],h,_=>by simp at h
 | a::l,b::m,h,hh=>by
  simp only[RT.dI]
  rw[hh 0 a b rfl rfl,RT.jY (by simpa using h) (fun i x y h1 h2=>hh (i+1) x y (by simpa using h1) (by simpa using h2))]
  rfl
theorem RT.wk (a b:RT):RT.same a b=(decide (a.kind=b.kind)&&decide (a.rho=b.rho)&&(bx a.eff b.eff&&bx b.eff a.eff)&&RT.dI a.kids b.kids):=by
 cases a;cases b;rfl
theorem RT.ck (t:RT):t.kids.length<t.size:=by
 obtain⟨k,r,e,ks⟩:=t
 have:∀l:List RT,l.length≤RT.aI l:=by
  intro l
  induction l with
  | nil=>simp
  | cons a l ih=>have:=a.size_pos;simp[RT.aI];omega
 have:=this ks
 simp[RT.size,RT.kids];omega
theorem RT.iR {l:List RT} (h:RT.cn l):∀t∈l,t.small:=by
 induction l with
 | nil=>simp
 | cons a l ih=>
  intro t ht
  simp only[RT.cn]at h
  rcases List.mem_cons.1 ht with rfl | ht
  ·exact h.1
  ·exact ih h.2 t ht
structure RT.Ok (t:RT):Prop where
 small:t.small
 size:t.size≤100
theorem RT.Ok.eff {t:RT} (h:t.Ok):t.eff.length<1000000000000:=by
 obtain⟨k,r,e,ks⟩:=t
 have:=h.1
 simp only[RT.small,iY]at this
 simp only[RT.eff]
 omega
theorem RT.Ok.kid {t k:RT} (h:t.Ok) (hk:k∈t.kids):k.Ok:=by
 have:=RT.dk hk
 obtain⟨k1,r,e,ks⟩:=t
 exact⟨RT.iR h.1.2 k hk,by have:=h.2;omega⟩
end Go.Abs.At
set_option linter.unusedVariables false
set_option linter.unusedSimpArgs false
namespace Go.Abs.At
open Go Go.Abs Go.Proofs.AtD
attribute [local simp] Nat.add_assoc
mutual
def AT.same:AT→AT→Bool
 | .mk h r rs e t s ks,.mk h' r' rs' e' t' s' ks'=>decide (h=h')&&decide (r=r')&&decide (rs=rs')&&(bx e e'&&bx e' e)&&RT.same t t'&&RT.same s s'&&AT.dI ks ks'
def AT.dI:List AT→List AT→Bool
 | [],[]=>true
 | a::l,b::m=>AT.same a b&&AT.dI l m
 | [],_::_=>false
 | _::_,[]=>false
end
theorem AT.jX:∀ {l m:List AT},l.length≠m.length→AT.dI l m=false
 | [],[],h=>absurd rfl h
 | [],_::_,_=>rfl
 | _::_,[],_=>rfl
 | a::l,b::m,h=>by simp only[AT.dI];rw[AT.jX (by simpa using h)];simp
theorem AT.lL:∀ {l m:List AT} {i:Nat} {a b:AT},l[i]?=some a→m[i]?=some b→AT.same a b=false→AT.dI l m=false
 | [],_,i,a,b,h,_,_=>by simp at h
 | _::_,[],i,a,b,_,h,_=>by simp at h
 | x::l,y::m,0,a,b,h1,h2,h3=>by simp at h1 h2;subst h1;subst h2;simp[AT.dI,h3]
 | x::l,y::m,i+1,a,b,h1,h2,h3=>by simp only[AT.dI];rw[AT.lL (by simpa using h1) (by simpa using h2) h3];simp
theorem AT.jY:∀ {l m:List AT},l.length=m.length→(∀(i:Nat) a b,l[i]?=some a→m[i]?=some b→AT.same a b=true)→AT.dI l m=true
 | [],[],_,_=>rfl
 | [],_::_,h,_=>by simp at h
 | _::_,[],h,_=>by simp at h
 | a::l,b::m,h,hh=>by
  simp only[AT.dI]
  rw[hh 0 a b rfl rfl,AT.jY (by simpa using h) (fun i x y h1 h2=>hh (i+1) x y (by simpa using h1) (by simpa using h2))]
  rfl
theorem AT.wk (a b:AT):AT.same a b=(decide (a.h=b.h)&&decide (a.rho=b.rho)&&decide (a.aH=b.aH)&&(bx a.eff b.eff&&bx b.eff a.eff)&&RT.same a.type b.type&&RT.same a.res b.res&&AT.dI a.kids b.kids):=by
 cases a;cases b;rfl
theorem FY (x a:Head):bp [.i,.i,.i,.i,.s,.s,.s] x.av a.av=some (decide (x=a)):=by
 obtain⟨a1,a2,a3,a4,a5,a6,a7⟩:=x
 obtain⟨b1,b2,b3,b4,b5,b6,b7⟩:=a
 simp[Head.av,Bool.and_assoc]
structure AT.Ok (t:AT):Prop where
 small:t.small
 size:t.size≤400
theorem AT.Ok.aH {t:AT} (h:t.Ok):t.aH.length<1000000000000:=by
 obtain⟨a,b,c,d,e,f,g⟩:=t
 have:=h.1
 simp only[AT.small]at this
 simp only[AT.aH]
 omega
theorem AT.Ok.eff {t:AT} (h:t.Ok):t.eff.length<1000000000000:=by
 obtain⟨a,b,c,d,e,f,g⟩:=t
 have:=h.1
 simp only[AT.small,iY]at this
 simp only[AT.eff]
 omega
theorem AT.Ok.type {t:AT} (h:t.Ok):t.type.Ok:=by
 obtain⟨a,b,c,d,e,f,g⟩:=t
 have:=h.1
 simp only[AT.small]at this
 exact⟨this.2.2.2.1.2,this.2.2.2.1.1⟩
theorem AT.Ok.res {t:AT} (h:t.Ok):t.res.Ok:=by
 obtain⟨a,b,c,d,e,f,g⟩:=t
 have:=h.1
 simp only[AT.small]at this
 exact⟨this.2.2.2.2.1.2,this.2.2.2.2.1.1⟩
theorem AT.Ok.kid {t k:AT} (h:t.Ok) (hk:k∈t.kids):k.Ok:=by
 have:=AT.dk hk
 obtain⟨a,b,c,d,e,f,g⟩:=t
 have h1:=h.1
 simp only[AT.small]at h1
 exact⟨AT.iR h1.2.2.2.2.2 k hk,by have:=h.2;omega⟩
end Go.Abs.At
