import Derived.Test.YtjilebpcaemopaaGreatDoorAtermDecA
import Derived.Test.YtjilebpcaemopaaGreatDoorAtN
import Derived.Lib.Bytealg
set_option linter.unusedVariables false
set_option linter.unusedSimpArgs false
namespace Go.Abs.At
open Go Go.Abs Go.Proofs.AtD
attribute [local simp] Nat.add_assoc
theorem sm {s:ByteArray} {c:Int} {σ:ah} {k kp:AV→ah→Prop} (hk:k (int (Go.Lib.countByte s.data.toList c.toNat.toUInt8)) σ):Ev PR 233 [str s,u8 c] σ k kp:=by
 refine Ev.ext (fn:=Go.Proofs.Tryz.f233) (e:=Extern.BytealgCount.count) Go.Proofs.Tryz.func233 (by kernel_rfl) (by kernel_rfl) (by kernel_rfl) (by kernel_rfl) (fun ctx w vs ha=> ?_)
 obtain⟨h1,h2⟩:=ha
 obtain⟨a,b,rfl⟩:∃a b,vs= #[a,b]:=by
  match vs,h1 with
  | ⟨[a,b]⟩,_=>exact⟨a,b,rfl⟩
 obtain rfl:=(h2 0 _ a rfl rfl).aQ
 obtain rfl:=(h2 1 _ b rfl rfl).aQ
 exact⟨_,_,Go.Lib.run_countString s c w,hk,.val _⟩
theorem pL {s:ByteArray} {c:Int} {σ:ah} {k kp:AV→ah→Prop} (hk:k (int (Go.Lib.indexByte s.data.toList c.toNat.toUInt8)) σ):Ev PR 225 [str s,u8 c] σ k kp:=by
 apply vo;unfold Em
 refine Ev.ext (fn:=Go.Proofs.Tryz.f227) (e:=Extern.BytealgIndexByte.indexByte) Go.Proofs.Tryz.func227 (by kernel_rfl) (by kernel_rfl) (by kernel_rfl) (by kernel_rfl) (fun ctx w vs ha=> ?_)
 obtain⟨h1,h2⟩:=ha
 obtain⟨a,b,rfl⟩:∃a b,vs= #[a,b]:=by
  match vs,h1 with
  | ⟨[a,b]⟩,_=>exact⟨a,b,rfl⟩
 obtain rfl:=(h2 0 _ a rfl rfl).aQ
 obtain rfl:=(h2 1 _ b rfl rfl).aQ
 exact⟨_,_,Go.Lib.run_indexByteString s c w,hk,.val _⟩
abbrev iB:ByteArray:=⟨#[32]⟩
theorem pK {s:ByteArray} {σ:ah} {k kp:AV→ah→Prop} (hk:k (int (Go.Lib.indexByte s.data.toList 32)) σ):Ev PR 230 [str s,str iB] σ k kp:=by
 apply BW;unfold F230
 apply BX;unfold F234
 have h1:iB.size=1:=rfl
 have h2:bG (str iB) (int 0)=some (u8 32):=by rfl
 by_cases h:iB=s
 ·subst h
  simp[h1]
  have e:Go.Lib.indexByte iB.data.toList 32=0:=by decide
  rw[e]at hk
  exact hk
 ·simp[h1,h,h2]
  refine pL ?_
  exact hk
def xF:List ByteArray:=[⟨#[32,108,101,116,32,108,101,116,114,101,99,32,105,110,32,102,110,32,105,102,32,116,104,101,110,32,101,108,115,101,32,114,97,105,115,101,32,116,114,121,32,119,105,116,104,32,114,101,102,32,102,115,116,32,115,110,100,32,101,120,110]⟩,⟨#[108,101,116,32,108,101,116,114,101,99,32,105,110,32,102,110,32,105,102,32,116,104,101,110,32,101,108,115,101,32,114,97,105,115,101,32,116,114,121,32,119,105,116,104,32,114,101,102,32,102,115,116,32,115,110,100,32,101,120,110]⟩,⟨#[108,101,116,114,101,99,32,105,110,32,102,110,32,105,102,32,116,104,101,110,32,101,108,115,101,32,114,97,105,115,101,32,116,114,121,32,119,105,116,104,32,114,101,102,32,102,115,116,32,115,110,100,32,101,120,110]⟩,⟨#[105,110,32,102,110,32,105,102,32,116,104,101,110,32,101,108,115,101,32,114,97,105,115,101,32,116,114,121,32,119,105,116,104,32,114,101,102,32,102,115,116,32,115,110,100,32,101,120,110]⟩,⟨#[102,110,32,105,102,32,116,104,101,110,32,101,108,115,101,32,114,97,105,115,101,32,116,114,121,32,119,105,116,104,32,114,101,102,32,102,115,116,32,115,110,100,32,101,120,110]⟩,⟨#[105,102,32,116,104,101,110,32,101,108,115,101,32,114,97,105,115,101,32,116,114,121,32,119,105,116,104,32,114,101,102,32,102,115,116,32,115,110,100,32,101,120,110]⟩,⟨#[116,104,101,110,32,101,108,115,101,32,114,97,105,115,101,32,116,114,121,32,119,105,116,104,32,114,101,102,32,102,115,116,32,115,110,100,32,101,120,110]⟩,⟨#[101,108,115,101,32,114,97,105,115,101,32,116,114,121,32,119,105,116,104,32,114,101,102,32,102,115,116,32,115,110,100,32,101,120,110]⟩,⟨#[114,97,105,115,101,32,116,114,121,32,119,105,116,104,32,114,101,102,32,102,115,116,32,115,110,100,32,101,120,110]⟩,⟨#[116,114,121,32,119,105,116,104,32,114,101,102,32,102,115,116,32,115,110,100,32,101,120,110]⟩,⟨#[119,105,116,104,32,114,101,102,32,102,115,116,32,115,110,100,32,101,120,110]⟩,⟨#[114,101,102,32,102,115,116,32,115,110,100,32,101,120,110]⟩,⟨#[102,115,116,32,115,110,100,32,101,120,110]⟩,⟨#[115,110,100,32,101,120,110]⟩,⟨#[101,120,110]⟩]
def idxL:List Int:=[0,3,6,2,2,2,4,4,5,3,4,3,3,3]
def oU:List ByteArray:=ByteArray.empty::dT
structure CutAt (i:Nat):Prop where
 at':∃s t m p,xF[i]?=some s∧xF[i+1]?=some t∧idxL[i]?=some m∧oU[i]?=some p∧Go.Lib.indexByte s.data.toList 32=m∧0≤m∧m+1≤s.size∧s.extract 0 m.toNat=p∧s.extract (m.toNat+1) s.size=t
theorem cutAt:∀i,i<14→CutAt i:=by
 intro i hi
 have:i=0∨i=1∨i=2∨i=3∨i=4∨i=5∨i=6∨i=7∨i=8∨i=9∨i=10∨i=11∨i=12∨i=13:=by omega
 rcases this with rfl | rfl | rfl | rfl | rfl | rfl | rfl | rfl | rfl | rfl | rfl | rfl | rfl | rfl
 all_goals exact⟨_,_,_,_,rfl,rfl,rfl,rfl,by kernel_rfl,by decide,by decide,by kernel_rfl,by kernel_rfl⟩
theorem Dk (i:Nat) (s:ByteArray) (h:xF[i]?=some s):s.size≤61:=by
 have hi:=(List.getElem?_eq_some_iff.1 h).1
 have:∀x∈xF,x.size≤61:=by decide
 exact this s (List.mem_of_getElem? h)
def Ae:ByteArray:=⟨#[32,108,101,116,32,108,101,116,114,101,99,32,105,110,32,102,110,32,105,102,32,116,104,101,110,32,101,108,115,101,32,114,97,105,115,101,32,116,114,121,32,119,105,116,104,32,114,101,102,32,102,115,116,32,115,110,100,32,101,120,110]⟩
abbrev gT:List (List AV):=oU.map fun s=>[str s]
theorem wM {l:List (List AV)} {i n:Nat} {p z:List AV} (h:l[i]?=some p) (hn:i<n):
 (l.take i++List.replicate (n - i) z).set i p=l.take (i+1)++List.replicate (n - (i+1)) z:=by
 have hi:=(List.getElem?_eq_some_iff.1 h).1
 have hl:(l.take i).length=i:=by simp;omega
 rw[List.set_append_right _ _ (by omega),hl,Nat.sub_self,List.take_add_one,h]
 obtain⟨m,hm⟩:∃m,n - i=m+1:=⟨n - i - 1,by omega⟩
 rw[hm,show n - (i+1)=m by omega]
 simp[List.replicate_succ]
theorem sG {σ:ah} {k kp:AV→ah→Prop} (hk:k (.sl false 1 (oU.map fun s=>[str s])) σ):Ev PR 213 [] σ k kp:=by
 refine Ev.pure ?_
 apply BO;unfold F213
 rw[show(⟨#[32,108,101,116,32,108,101,116,114,101,99,32,105,110,32,102,110,32,105,102,32,116,104,101,110,32,101,108,115,101,32,114,97,105,115,101,32,116,114,121,32,119,105,116,104,32,114,101,102,32,102,115,116,32,115,110,100,32,101,120,110]⟩:ByteArray)=Ae from rfl]
 apply BT;unfold F223
 apply BU;unfold F226
 have hb:¬iB=ByteArray.empty:=by decide
 have h1:iB.size=1:=rfl
 have h2:bG (str iB) (int 0)=some (u8 32):=by rfl
 have hs0:Ae.size=61:=rfl
 simp[empty_eq,hb]
 refine aM ?_
 simp
 apply BV;unfold F229
 simp[h1,h2]
 refine sm ?_
 have hc14:Go.Lib.countByte Ae.data.toList (Int.toNat 32).toUInt8=14:=by decide
 rw[hc14]
 simp[hs0,wrap64,fV]
 refine aM ?_
 generalize hτ:σ.new _=τ
 have t0:τ.get σ.next=some (.cells 1 (List.replicate 15 [str ByteArray.empty])):=by rw[←hτ];simp[an,List.replicate]
 have tG:aq σ τ:=by rw[←hτ];exact aq.new _ _
 have tn:σ.next<τ.next:=by rw[←hτ];simp
 clear hτ
 have hlen:gT.length=15:=rfl
 refine aX (fun i:Nat=>[(0,str ((xF[i]?).getD ByteArray.empty)),(1,str iB),(2,int 0),(3,int 14),(9,.own σ.next 15),(10,int i)])
  (fun i φ=>i≤14∧aq σ φ∧σ.next<φ.next∧φ.get σ.next=some (.cells 1 (gT.take i++List.replicate (15 - i) [str ByteArray.empty])))
  (fun fr _=>14 - (intOf (aa fr 10)).toNat) 0 (by simp;rfl) ⟨by simp,tG,tn,by simpa using t0⟩ ?_
 rintro i φ ⟨hi,f1,f2,f3⟩
 by_cases hil:i<14
 ·obtain⟨s,t,m,p,c1,c2,c3,c4,c5,c6,c7,c8,c9⟩:=(cutAt i hil).at'
  have hil':(i:Int)<14:=by omega
  have hs61:=Dk i s c1
  simp[hil',c1]
  refine pK ?_
  rw[c5]
  have m0:¬m<0:=by omega
  have hel:(gT.take i++List.replicate (15 - i) [str ByteArray.empty])[i]?=some [str ByteArray.empty]:=by
   have hl:(gT.take i).length=i:=by simp[hlen];omega
   rw[List.getElem?_append_right (by omega),hl]
   simp[List.getElem?_replicate];omega
  have m1:0≤m:=c6
  have m2:m≤s.size:=by omega
  have m3:m+1≤s.size:=c7
  have m4:0≤m+1:=by omega
  have m5:(m+1).toNat=m.toNat+1:=by omega
  have hi15:(i:Int)<15:=by omega
  simp[m0,h1,wrap64 (show -9223372036854775808≤m∧m≤9223372036854775807 by omega),wrap64 (show -9223372036854775808≤m+1∧m+1≤9223372036854775807 by omega),cP,fC,m1,m2,m3,m4,m5,c8,c9,cg,f3,hel,hi15]
  have hp:gT[i]?=some [str p]:=by simp[gT,c4]
  have hcs:=wM (z:=[str ByteArray.empty]) hp (show i<15 by omega)
  rw[wrap64 (by omega)]
  refine⟨⟨i+1,⟨by rw[c2];rfl,by simp⟩,by omega,f1.set (Nat.le_refl _) _,f2,?_⟩,by omega⟩
  exact hcs
 ·obtain rfl:i=14:=by omega
  have hel:(gT.take 14++List.replicate (15 - 14) [str ByteArray.empty])[14]?=some [str ByteArray.empty]:=rfl
  have hs14:xF[14]?=some ⟨#[101,120,110]⟩:=rfl
  simp[hs14]
  refine fJ (x:=.ptr σ.next 14 0) (by simp only[cg,vB,f3];rfl) ?_
  simp only[tT,f3,hel,tV]
  refine bF (x:=.val undef) (τ:=φ.set σ.next (.cells 1 gT)) ?_ ?_
  ·rfl
  ·simp[wrap64]
   refine⟨f1.set (Nat.le_refl _) _,_,dp.own (xs:=gT) (ys:=gT) (rest:=[]) (dp.refl fun el hel x hx=> ?_) (Nat.le_refl _) (by rw[hlen]) (by simp[au]),hk⟩
   obtain⟨b,_,rfl⟩:=List.mem_map.1 hel
   simp at hx;subst hx
   exact(Dat.val _).low _
end Go.Abs.At
