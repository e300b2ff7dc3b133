import Derived.Shelf.SlIterI.Sorted
import Derived.Shelf.Slices.In.SortNone
import Derived.Shelf.Sort.Plain
import Derived.Shelf.Slices.CompactI
import Derived.Test.YtjilebpcaemopaaGreatDoorProg
import Derived.RangeFuncBox
import Derived.RangeFuncLeaves
import Derived.Shelf.Abstract
import Derived.WalkKit
import Derived.OwnWalkIn
import Derived.TacticsInMore
import Derived.LoopNIn
import Derived.LoopIn
import Derived.KernelRfl
import Derived.Sort.OwnSorted
namespace Go.Proofs
open Go.Shelf
def Tryz.jE:Go.Shelf.Ren:=⟨fun | 6=>117 | 8=>160 | 9=>161 | 11=>183 | 13=>185 | 12=>184 | 23=>205 | 24=>206 | 14=>196 | 15=>197 | 16=>198 | 17=>199 | 18=>200 | 19=>201 | 20=>202 | 21=>203 | 22=>204 | 25=>214 | 26=>215 | 27=>216 | 28=>217 | 29=>218 | 30=>190 | 31=>224 | n=>n,fun | 26=>3 | 28=>199 | 24=>24 | 0=>0 | 3=>3 | 37=>270 | 48=>282 | 50=>284 | 4=>4 | 40=>275 | 39=>274 | 45=>88 | 5=>5 | 9=>9 | 51=>289 | 55=>293 | 57=>299 | 58=>86 | 33=>196 | n=>n,fun | n=>n⟩
theorem Tryz.uy:Go.Proofs.SlLaysZI.n6 Tryz.prog Tryz.jE:={
 mixed:=by kernel_rfl
 f6:=⟨Tryz.f117.name,by decide,Tryz.func117.trans (congrArg some (by kernel_rfl))⟩
 f8:=⟨Tryz.f160.name,by decide,Tryz.func160.trans (congrArg some (by kernel_rfl))⟩
 f11:=⟨Tryz.f183.name,by decide,Tryz.func183.trans (congrArg some (by kernel_rfl))⟩
 t0:=Tryz.underlying0
 a0:=Tryz.isAgg0
 z0:=Tryz.sizeOf0
 v0:=Tryz.zeroValue0
 t24:=Tryz.underlying24
 a24:=Tryz.isAgg24
 z24:=Tryz.sizeOf24
 v24:=Tryz.zeroValue24
 t26:=Tryz.underlying3
 a26:=Tryz.isAgg3
 z26:=Tryz.sizeOf3
 v26:=Tryz.zeroValue3
 t28:=Tryz.underlying199
 a28:=Tryz.isAgg199
 z28:=Tryz.sizeOf199
 v28:=Tryz.zeroValue199
 i26:=by kernel_rfl}
def Tryz.sJ:Go.Shelf.Ren:=⟨fun | 189=>161 | 125=>185 | 257=>184 | 128=>205 | 129=>206 | 294=>196 | 295=>197 | 296=>198 | 297=>199 | 298=>200 | 299=>201 | 216=>202 | 300=>203 | 301=>204 | 328=>214 | 329=>215 | 330=>216 | 331=>217 | 332=>218 | 215=>190 | 343=>224 | n=>n,fun | 28=>24 | 3=>3 | 46=>270 | 0=>0 | 51=>282 | 53=>284 | 4=>4 | 183=>275 | 182=>274 | 131=>88 | 5=>5 | 9=>9 | 218=>289 | 222=>293 | 228=>299 | 229=>86 | n=>n,fun | n=>n⟩
theorem Tryz.vL:Go.Proofs.Lays.n189 Tryz.prog Tryz.sJ:={
 mixed:=by kernel_rfl
 f125:=Tryz.func185.trans (congrArg some (by kernel_rfl))
 f128:=Tryz.func205.trans (congrArg some (by kernel_rfl))
 f129:=Tryz.func206.trans (congrArg some (by kernel_rfl))
 f189:=Tryz.func161.trans (congrArg some (by kernel_rfl))
 f215:=Tryz.func190.trans (congrArg some (by kernel_rfl))
 f216:=Tryz.func202.trans (congrArg some (by kernel_rfl))
 f257:=Tryz.func184.trans (congrArg some (by kernel_rfl))
 f294:=Tryz.func196.trans (congrArg some (by kernel_rfl))
 f295:=Tryz.func197.trans (congrArg some (by kernel_rfl))
 f296:=Tryz.func198.trans (congrArg some (by kernel_rfl))
 f297:=Tryz.func199.trans (congrArg some (by kernel_rfl))
 f298:=Tryz.func200.trans (congrArg some (by kernel_rfl))
 f299:=Tryz.func201.trans (congrArg some (by kernel_rfl))
 f300:=Tryz.func203.trans (congrArg some (by kernel_rfl))
 f301:=Tryz.func204.trans (congrArg some (by kernel_rfl))
 f328:=Tryz.func214.trans (congrArg some (by kernel_rfl))
 f329:=Tryz.func215.trans (congrArg some (by kernel_rfl))
 f330:=Tryz.func216.trans (congrArg some (by kernel_rfl))
 f331:=Tryz.func217.trans (congrArg some (by kernel_rfl))
 f332:=Tryz.func218.trans (congrArg some (by kernel_rfl))
 f343:=Tryz.func224.trans (congrArg some (by kernel_rfl))
 t0:=Tryz.underlying0
 a0:=Tryz.isAgg0
 z0:=Tryz.sizeOf0
 v0:=Tryz.zeroValue0
 t3:=Tryz.underlying3
 a3:=Tryz.isAgg3
 z3:=Tryz.sizeOf3
 v3:=Tryz.zeroValue3
 t4:=Tryz.underlying4
 a4:=Tryz.isAgg4
 z4:=Tryz.sizeOf4
 v4:=Tryz.zeroValue4
 t5:=Tryz.underlying5
 a5:=Tryz.isAgg5
 z5:=Tryz.sizeOf5
 v5:=Tryz.zeroValue5
 t9:=Tryz.underlying9
 a9:=Tryz.isAgg9
 z9:=Tryz.sizeOf9
 v9:=Tryz.zeroValue9
 t28:=Tryz.underlying24
 a28:=Tryz.isAgg24
 z28:=Tryz.sizeOf24
 v28:=Tryz.zeroValue24
 t46:=Tryz.underlying270
 a46:=Tryz.isAgg270
 z46:=Tryz.sizeOf270
 v46:=Tryz.zeroValue270
 t51:=Tryz.underlying282
 a51:=Tryz.isAgg282
 z51:=Tryz.sizeOf282
 v51:=Tryz.zeroValue282
 t53:=Tryz.underlying284
 a53:=Tryz.isAgg284
 z53:=Tryz.sizeOf284
 v53:=Tryz.zeroValue284
 t131:=Tryz.underlying88
 a131:=Tryz.isAgg88
 z131:=Tryz.sizeOf88
 v131:=Tryz.zeroValue88
 t182:=Tryz.underlying274
 a182:=Tryz.isAgg274
 z182:=Tryz.sizeOf274
 v182:=Tryz.zeroValue274
 t183:=Tryz.underlying275
 a183:=Tryz.isAgg275
 z183:=Tryz.sizeOf275
 v183:=Tryz.zeroValue275
 t218:=Tryz.underlying289
 a218:=Tryz.isAgg289
 z218:=Tryz.sizeOf289
 v218:=Tryz.zeroValue289
 t222:=Tryz.underlying293
 a222:=Tryz.isAgg293
 z222:=Tryz.sizeOf293
 v222:=Tryz.zeroValue293
 t228:=Tryz.underlying299
 a228:=Tryz.isAgg299
 z228:=Tryz.sizeOf299
 v228:=Tryz.zeroValue299
 t229:=Tryz.underlying86
 a229:=Tryz.isAgg86
 z229:=Tryz.sizeOf86
 v229:=Tryz.zeroValue86}
def Tryz.pN:Go.Shelf.Ren:=⟨fun | 20=>119 | n=>n,fun | 22=>24 | 3=>3 | 4=>4 | 0=>0 | n=>n,fun | n=>n⟩
theorem Tryz.p8:Go.Proofs.Lays2.n20 Tryz.prog Tryz.pN:={
 mixed:=by kernel_rfl
 f20:=Tryz.func119.trans (congrArg some (by kernel_rfl))
 t0:=Tryz.underlying0
 a0:=Tryz.isAgg0
 z0:=Tryz.sizeOf0
 v0:=Tryz.zeroValue0
 t3:=Tryz.underlying3
 a3:=Tryz.isAgg3
 z3:=Tryz.sizeOf3
 v3:=Tryz.zeroValue3
 t4:=Tryz.underlying4
 a4:=Tryz.isAgg4
 z4:=Tryz.sizeOf4
 v4:=Tryz.zeroValue4
 t22:=Tryz.underlying24
 a22:=Tryz.isAgg24
 z22:=Tryz.sizeOf24
 v22:=Tryz.zeroValue24
 i3:=by kernel_rfl}
end Go.Proofs
set_option linter.unusedVariables false
set_option linter.unusedSimpArgs false
namespace Go.Proofs.Once
open Go Go.Proofs Go.RowKit Go.Shelf
attribute [local go_sem] Oper.semAt_some
def vint:Value→Int | .int _ q=>q | _=>0
theorem xH {zs:List Int} {k:Nat} (h:k<zs.length):zs.take (k+1)=zs.take k++ [zs[k]?.getD 0]:=by
 rw[List.take_add_one]
 simp[h]
set_option maxRecDepth 100000 in
set_option maxHeartbeats 2000000 in
theorem uY (F:Fence) (n:Nat) (h89:F.fn 162) (hro:F.round=none) (hn:1≤n) (l Bs n₀ b off cap:Nat) (zs:List Int) (hreach:zs.length * 8≤140737488351232) (hb:b<n₀) (w0:World) (J:List Int→World→Prop)
 (hJB:∀s W,J s W→Below n₀ w0 W)
 (hY:∀pre x W,J pre W→pre.length<zs.length→YieldAt F (n - 1) Tryz.prog l #[.int .i64 x] W fun e W'=>e= .returned (.bool true)∧J (pre++ [x]) W')
 (W:World) (hBs:W.cell? ⟨Bs,0,none⟩=some (.slice (some ⟨b,off,none⟩) zs.length cap)) (hc:∀j,j<zs.length→w0.cell? ⟨b,off+j,none⟩=some (.int .i64 (zs[j]?.getD 0))) (h0:J [] W):
 CallsIn F n Tryz.prog 162 #[.func (.yield l) #[] #[],.pointer (some ⟨Bs,0,none⟩)] W fun e W'=>(∃v,e= .returned v)∧J zs W':=by
 refine callsIn_of_wp Tryz.func162 rfl h89 ?_ hro
 simp only[Tryz.ntmps162,List.size_toArray,List.length_cons,List.length_nil,Nat.reduceAdd,Nat.reduceSub,Array.replicate_succ,Array.replicate_zero,List.push_toArray,List.append_toArray,List.nil_append,List.cons_append]
 gi_wp2
 gi_loopw [7] (fun i wr=>∃k:Nat,k≤zs.length∧i= .int .i64 k∧J (zs.take k) wr)
  (fun i _=>zs.length - (vint i).toNat)
 case atStart=>exact⟨0,Nat.zero_le _,rfl,h0⟩
 case round=>
  obtain⟨k,hk,rfl,hJs⟩:=hrel
  have hnx:=hJB _ _ hJs
  have hcx:k<zs.length→wr.cell? ⟨b,off+k,none⟩=some (.int .i64 (zs[k]?.getD 0)):=fun h=>(hnx.cell (p:=⟨b,off+k,none⟩) hb).trans (hc k h)
  by_cases hlt:k<zs.length
  ·have hge:zs[k]?.getD 0=zs[k]:=by simp[hlt]
   obtain⟨fn,tmps,assign,body,hy,hR⟩:=hY _ zs[k] wr hJs (by simp;omega)
   have hcx':=hcx hlt
   rw[hge]at hcx'
   gi_wp2
   refine hR.mono ?_
   rintro e W3 ⟨rfl,hJ3⟩
   gi_wp2
   go_roundw
   case rel=>exact⟨k+1,by omega,by simp,by rw[xH hlt,hge];exact hJ3⟩
   case measure=>simp[vint];omega
  ·obtain rfl:k=zs.length:=by omega
   gi_wp2
   go_end0
   exact⟨⟨_,rfl⟩,by simpa using hJs⟩
set_option maxRecDepth 100000 in
set_option maxHeartbeats 1000000 in
theorem mE (F:Fence) (n:Nat) (h89:F.fn 162) (hro:F.round=none) (l Bs cap:Nat) (a:Option Addr) (J:List Int→World→Prop)
 (W:World) (hBs:W.cell? ⟨Bs,0,none⟩=some (.slice a 0 cap)) (h0:J [] W):
 CallsIn F n Tryz.prog 162 #[.func (.yield l) #[] #[],.pointer (some ⟨Bs,0,none⟩)] W fun e W'=>(∃v,e= .returned v)∧J [] W':=by
 refine callsIn_of_wp Tryz.func162 rfl h89 ?_ hro
 simp only[Tryz.ntmps162,List.size_toArray,List.length_cons,List.length_nil,Nat.reduceAdd,Nat.reduceSub,Array.replicate_succ,Array.replicate_zero,List.push_toArray,List.append_toArray,List.nil_append,List.cons_append]
 gi_wp2
 gi_loopw [7] (fun i wr=>i= .int .i64 0∧J [] wr) (fun _ _=>0)
 case atStart=>exact⟨rfl,h0⟩
 case round=>
  obtain⟨rfl,hJs⟩:=hrel
  gi_wp2
  go_end0
  exact⟨⟨_,rfl⟩,hJs⟩
set_option maxHeartbeats 1000000 in
theorem xM (F:Fence) (n:Nat) (h72:F.fn 118) (hro:F.round=none) (a:Option Addr) (len cap:Nat) (w:World):
 CallsIn F n Tryz.prog 118 #[.slice a len cap] w fun e w'=>e= .returned (.func (.func 162) #[] #[.pointer (some ⟨w.heap.size,0,none⟩)])∧w'=w.alloc (.cells #[.slice a len cap] 24):=by
 refine callsIn_of_wp Tryz.func118 rfl h72 ?_ hro
 simp only[Tryz.ntmps118,List.size_toArray,List.length_cons,List.length_nil,Nat.reduceAdd,Nat.reduceSub,Array.replicate_succ,Array.replicate_zero,List.push_toArray,List.append_toArray,List.nil_append,List.cons_append]
 gi_wp2
 go_ret
 exact⟨rfl,rfl⟩
end Go.Proofs.Once
namespace Go.Proofs.Once
open Go Go.Proofs Go.RowKit Go.Maps Go.Sort Go.Shelf
abbrev R:Ren:=Tryz.jE
def jj (F:Fence) (n:Nat) (g:Nat) (lb:Array Value) (zs:List Int) (w:World):Prop:=
 ∀(l:Nat) (J:List Int→World→Prop) (W:World),(∀s W',J s W'→Below w.heap.size w W')→
  (∀pre x W1,J pre W1→pre.length<zs.length→YieldAt F (n - 1) Tryz.prog l #[encZ x] W1 fun e W'=>e= .returned (.bool true)∧J (pre++ [x]) W')→
  J [] W→CallsIn F n Tryz.prog g (#[.func (.yield l) #[] #[]]++lb) W fun e W'=>(∃v,e= .returned v)∧J zs W'
set_option maxRecDepth 100000 in
set_option maxHeartbeats 2000000 in
theorem appendSeq_in (n:Nat) (hn:2≤n) (g:Nat) (lb:Array Value) (eg:∀args w,(callFunc g args).run Tryz.prog w= .ok (.enter g args) w)
 (zs:List Int) (hN:zs.length≤maxLen) (hNb:zs.length * 8≤140737488355328) (w:World) (hseq:jj Fence.wide (n - 1) g lb zs w):
 CallsIn Fence.wide n Tryz.prog 183 #[.slice none 0 0,.func (.func g) #[] lb] w fun e w'=>∃v:Value,e= .returned v∧w'.ownsRow w.heap.size 3 1 v zs.length (zs.map encZ)∧(v= .slice none 0 0↔zs= [])∧Below w.heap.size w w':=by
 have h1:1≤n:=by omega
 have hne:(24:TypeId)≠3:=by decide
 refine callsIn_of_wp_marks Tryz.func183 rfl trivial ?_ rfl
 simp only[Tryz.ntmps183,List.size_toArray,List.length_cons,List.length_nil,Nat.reduceAdd,Nat.reduceSub,Array.replicate_succ,Array.replicate_zero,List.push_toArray,List.append_toArray,List.nil_append,List.cons_append]
 gi_wp2
 refine wpIn_rangeFunc ?_
 intro fn hfn
 have hwr:Fence.wide.round=none:=rfl
 rw[hwr]
 obtain⟨W0,hW0⟩:∃W0,w.alloc (.cells #[.slice none 0 0] 24)=W0:=⟨_,rfl⟩
 have hs0:W0.heap.size=w.heap.size+1:=by rw[←hW0];simp
 have hv0:W0.heap[w.heap.size]?=some (.cells #[.slice none 0 0] 24 (0,0)):=by rw[←hW0];exact World.alloc_heap_new w _
 have hb0:Below w.heap.size w W0:=by rw[←hW0];exact(Below.refl _ w).alloc (Nat.le_refl _) _
 rw[hW0]
 obtain⟨W1,hW1⟩:∃W1,(W0.alloc (.deferred (some []))).alloc (.loop (AnyZI.apRec R fn (.func (.func g) #[] lb) w.heap.size W0.heap.size .ready none))=W1:=⟨_,rfl⟩
 have hold:∀k,k<W0.heap.size→W1.heap[k]?=W0.heap[k]?:=fun k hk=>by
  rw[←hW1];exact(Below.heap_alloc _ _ k (by simp;omega)).trans (Below.heap_alloc _ _ k hk)
 have hb1:Below w.heap.size w W1:=by rw[←hW1];exact(hb0.alloc hb0.size _).alloc (by have:=hb0.size;simp;omega) _
 have hs1:W1.heap.size=W0.heap.size+2:=by rw[←hW1];simp
 have hM:AnyZI.ApAt R w fn (.func (.func g) #[] lb) w.heap.size (W0.heap.size+1) W0.heap.size [] W1:=
  ⟨⟨_,(hold w.heap.size (by omega)).trans hv0,⟨rfl,.inl ⟨rfl,rfl⟩⟩,by simp⟩,
   by rw[←hW1];have:=World.alloc_heap_new (W0.alloc (.deferred (some []))) (.loop (AnyZI.apRec R fn (.func (.func g) #[] lb) w.heap.size W0.heap.size .ready none));rwa [World.size_alloc]at this,
   by rw[←hW1];exact(Below.heap_alloc _ _ _ (by simp)).trans (World.alloc_heap_new W0 _),hb1⟩
 refine⟨W0.heap.size+1,[{target:=.collected W0.heap.size,args:=#[]}],W1,{target:=.fn (.func g) lb,args:=#[.func (.yield (W0.heap.size+1)) #[] #[]]},W1,g,
  #[.func (.yield (W0.heap.size+1)) #[] #[]]++lb,W1,?_,?_,?_,?_,fun _=>h1,?_⟩
 ·rw[←hW1];exact run_enterLoop_outer _ _ _ _ _
 ·simp[resolve,go_sem]
 ·intro f' hf';trivial
 ·simp[invoke,go_sem,eg]
 ·refine(hseq (W0.heap.size+1) (AnyZI.ApAt R w fn (.func (.func g) #[] lb) w.heap.size (W0.heap.size+1) W0.heap.size) W1 (fun _ _ hJ=>hJ.below)
   (fun pre x W hJ hl=>(AnyZI.apYield {Tryz.uy with} Fence.wide (n - 1 - 1) w fn trivial _ w.heap.size (W0.heap.size+1) W0.heap.size (by omega) (by omega) (by omega) (Nat.le_refl _) (by omega) zs.length hN hNb pre x W hJ hl).mono fun e W' h=>⟨h.1,h.2.1⟩) hM).mono ?_
  rintro e W2 ⟨⟨v0,rfl⟩,h2⟩
  obtain⟨v,hv,hrow,hnil⟩:=h2.box
  have hend:=run_endLoop (P:=Tryz.prog) h2.L (by simp[AnyZI.apRec])
  obtain⟨W3,hW3⟩:∃W3,W2.putObj (W0.heap.size+1) (.loop {AnyZI.apRec R fn (.func (.func g) #[] lb) w.heap.size W0.heap.size .ready none with state:=.exhausted})=W3:=⟨_,rfl⟩
  rw[hW3]at hend
  have hg3:W2.grownBy W3 (some (W0.heap.size+1)):=by rw[←hW3];exact grownBy_putObj_a _ _ _
  have hv3:W3.heap[w.heap.size]?=some (.cells #[v] 24 (0,0)):=by rw[←hW3];exact(World.putObj_heap_other (by omega)).trans hv
  have hK3:W3.heap[W0.heap.size]?=some (.deferred (some [])):=by rw[←hW3];exact(World.putObj_heap_other (by omega)).trans h2.K
  have hrow3:=hrow.kept hg3 (ownsRow_ne_a hrow h2.L (fun cur e=>by cases e))
  have hb3:Below w.heap.size w W3:=h2.below.grown hg3 h2.below.size (fun k e=>by cases e;omega)
  obtain⟨hc3,hf3⟩:=cell_of_box_a hv3
  clear hW3
  refine⟨none,W3,hend,?_⟩
  gi_wp2
  rw[←hs0]
  refine⟨by simp,.inl ⟨_,_,rfl,run_takeDeferred hK3,?_⟩⟩
  exact⟨_,results_tmp rfl _ _ _,v,rfl,hrow3.kept (grownBy_putObj_a _ _ _) (ownsRow_ne_a hrow3 hK3 (fun cur e=>by cases e)),hnil,hb3.grown (grownBy_putObj_a _ _ _) hb3.size (fun k e=>by cases e;omega)⟩
set_option maxHeartbeats 1000000 in
theorem collect_in (n:Nat) (hn:3≤n) (g:Nat) (lb:Array Value) (eg:∀args w,(callFunc g args).run Tryz.prog w= .ok (.enter g args) w)
 (zs:List Int) (hN:zs.length≤maxLen) (hNb:zs.length * 8≤140737488355328) (w:World) (hseq:jj Fence.wide (n - 1 - 1) g lb zs w):
 CallsIn Fence.wide n Tryz.prog 160 #[.func (.func g) #[] lb] w fun e w'=>∃v:Value,e= .returned v∧w'.ownsRow w.heap.size 3 1 v zs.length (zs.map encZ)∧(v= .slice none 0 0↔zs= [])∧Below w.heap.size w w':=by
 have h1:1≤n:=by omega
 have hF:Fence.wide.fn 183:=trivial
 refine callsIn_of_wp Tryz.func160 rfl trivial ?_ rfl
 simp only[Tryz.ntmps160,List.size_toArray,List.length_cons,List.length_nil,Nat.reduceAdd,Nat.reduceSub,Array.replicate_succ,Array.replicate_zero,List.push_toArray,List.append_toArray,List.nil_append,List.cons_append]
 gi_wp2_with (gi_at_call 183;refine(appendSeq_in (n - 1) (by omega) g lb eg zs hN hNb _ hseq).mono ?_;rintro e w' ⟨v,rfl,hrow,hnil,hb⟩)
 go_ret
 exact⟨v,rfl,hrow,hnil,hb⟩
end Go.Proofs.Once
namespace Go.Proofs.Once
open Go Go.Proofs Go.RowKit Go.Maps Go.Sort Go.Shelf
structure vp:Prop where
 sort:∀(blk off cap:Nat) (zs:List Int) (w:World),Holds (Value.int .i64) w blk off zs.toArray→blk<w.heap.size→zs.length<4611686018427387904→
  Calls Tryz.prog 161 #[.slice (some ⟨blk,off,none⟩) zs.length cap] w fun e w'=>
   e= .returned (.tuple #[])∧∃n os,w'=grow (putRow (Value.int .i64) (Sort.ahead w n) blk off (zs.mergeSort fun x y=>decide (x≤y)).toArray) os
 sortNone:∀(p:Option Addr) (cap:Nat) (w:World),Calls Tryz.prog 161 #[.slice p 0 cap] w fun e w'=>e= .returned (.tuple #[])∧w'=w
 compact:∀(blk off cap:Nat) (zs:List Int) (w:World),Holds (Value.int .i64) w blk off zs.toArray→zs.length≤9223372036854775807→zs.length≤cap→
  Calls Tryz.prog 119 #[.slice (some ⟨blk,off,none⟩) zs.length cap] w fun e w'=>e= .returned (.slice (some ⟨blk,off,none⟩) (Lib.compact zs).length cap)∧∃q,w'=putRow (Value.int .i64) (Sort.ahead w q) blk off (Lib.compact zs++List.replicate (zs.length - (Lib.compact zs).length) 0).toArray
 compactNone:∀(a:Option Addr) (cap:Nat) (w:World),Calls Tryz.prog 119 #[.slice a 0 cap] w fun e w'=>e= .returned (.slice a 0 cap)∧w'=w
abbrev sorted (zs:List Int):List Int:=zs.mergeSort fun x y=>decide (x≤y)
set_option maxRecDepth 100000 in
set_option maxHeartbeats 2000000 in
theorem sorted_in (H:vp) (n:Nat) (hn:4≤n) (g:Nat) (lb:Array Value) (eg:∀args w,(callFunc g args).run Tryz.prog w= .ok (.enter g args) w)
 (zs:List Int) (hN:zs.length≤maxLen) (hNb:zs.length * 8≤140737488355328) (w:World) (hseq:jj Fence.wide (n - 1 - 1 - 1) g lb zs w):
 CallsIn Fence.wide n Tryz.prog 117 #[.func (.func g) #[] lb] w fun e w'=>∃v:Value,e= .returned v∧w'.ownsRow w.heap.size 3 1 v zs.length ((sorted zs).map encZ)∧(v= .slice none 0 0↔zs= [])∧Below w.heap.size w w':=by
 have h1:1≤n:=by omega
 have hF:Fence.wide.fn 160:=trivial
 have hF2:Fence.wide.fn 161:=trivial
 refine callsIn_of_wp Tryz.func117 rfl trivial ?_ rfl
 simp only[Tryz.ntmps117,List.size_toArray,List.length_cons,List.length_nil,Nat.reduceAdd,Nat.reduceSub,Array.replicate_succ,Array.replicate_zero,List.push_toArray,List.append_toArray,List.nil_append,List.cons_append]
 gi_wp2_with (gi_at_call 160;refine(collect_in (n - 1) (by omega) g lb eg zs hN hNb _ hseq).mono ?_;rintro e W ⟨v,rfl,hrow,hnil,hb⟩)
 rcases hrow.2 with ⟨rfl,hz⟩ | ⟨gb,cap,cur,rfl,hbase,hgb,r1,r2,r3,r4⟩
 ·have hss:zs= []:=List.eq_nil_of_length_eq_zero hz
  subst hss
  gi_wp2_with (gi_at_call 161;refine(callsIn_wide.2 (H.sortNone none 0 W)).mono ?_;rintro e w' ⟨rfl,rfl⟩)
  go_ret
  exact⟨.slice none 0 0,rfl,by simpa using hrow,by simp,hb⟩
 ·have hH:Holds encZ W gb 0 zs.toArray:=holds_of_block_i hgb (by simpa using r4)
  have hgl:gb<W.heap.size:=(Array.getElem?_eq_some_iff.1 hgb).1
  have hsz:zs.length<4611686018427387904:=by omega
  have cS:=callsIn_wide (n:=n - 1) |>.2 (H.sort gb 0 cap zs W hH hgl hsz)
  gi_wp2_with (gi_at_call 161;refine cS.mono ?_;rintro e w' ⟨rfl,nn,os,rfl⟩)
  go_ret
  exact⟨_,rfl,ownsRow_sorted_i (by simp) hbase hgb r1 r2 r3,hnil,hb.grown (grownBy_sorted_i _) hb.size (fun j hj=>by cases hj;exact hbase)⟩
end Go.Proofs.Once
namespace Go.Proofs.Once
open Go Go.Proofs Go.RowKit Go.Maps Go.Sort Go.Shelf
theorem compact_all {zs:List Int}:(Lib.compact zs).length=zs.length↔∀j,j<zs.length→Lib.keeps zs.toArray j=true:=by
 unfold Lib.compact Lib.compactUpTo
 rw[List.length_map]
 constructor
 ·intro h j hj
  have h2:((List.range zs.length).filter (Lib.keeps zs.toArray)).length=(List.range zs.length).length:=by simpa using h
  exact List.length_filter_eq_length_iff.1 h2 j (List.mem_range.2 hj)
 ·intro h
  have:=(List.length_filter_eq_length_iff (l:=List.range zs.length) (p:=Lib.keeps zs.toArray)).2 (fun j hj=>h j (List.mem_range.1 hj))
  simpa using this
theorem oc (zs:List Int):(Lib.compact (sorted zs)).length=zs.length↔zs.Nodup:=by
 have hl:(sorted zs).length=zs.length:=List.length_mergeSort ..
 have hp:(sorted zs).Perm zs:=List.mergeSort_perm ..
 rw[←hl,compact_all,←hp.nodup_iff]
 have hs:(sorted zs).Pairwise fun a b=>a≤b:=by
  have:=List.pairwise_mergeSort (le:=fun x y:Int=>decide (x≤y)) (fun a b c h1 h2=>by simp at *;omega) (fun a b=>by simp;omega) zs
  exact this.imp fun h=>by simpa using h
 generalize sorted zs=ys at hs
 have hk:∀j,j<ys.length→(Lib.keeps ys.toArray j=true↔(j=0∨ys[j]?≠ys[j - 1]?)):=by
  intro j hj
  have h1:j - 1<ys.length:=by omega
  simp[Lib.keeps,hj,h1]
 constructor
 ·intro h
  refine List.pairwise_iff_getElem.2 fun i j hi hj hij he=> ?_
  have h1:=(hk j hj).1 (h j hj)
  rcases h1 with h1 | h1
  ·omega
  ·apply h1
   have hj1:j - 1<ys.length:=by omega
   have h2:ys[j - 1]≤ys[j]:=List.pairwise_iff_getElem.1 hs (j - 1) j hj1 hj (by omega)
   have h3:ys[i]≤ys[j - 1]:=by
    by_cases e:i=j - 1
    ·subst e;exact Int.le_refl _
    ·exact List.pairwise_iff_getElem.1 hs i (j - 1) hi hj1 (by omega)
   rw[List.getElem?_eq_getElem hj,List.getElem?_eq_getElem hj1]
   have:ys[j]=ys[j - 1]:=by omega
   rw[this]
 ·intro h j hj
  refine(hk j hj).2 ?_
  by_cases e:j=0
  ·exact .inl e
  ·refine .inr fun he=> ?_
   have hj1:j - 1<ys.length:=by omega
   rw[List.getElem?_eq_getElem hj,List.getElem?_eq_getElem hj1]at he
   have:=List.pairwise_iff_getElem.1 h (j - 1) j hj1 hj (by omega)
   exact this (Option.some.inj he).symm
theorem rH {w:World} {a:Option Addr} {cap:Nat} {zs:List Int} (hreach:zs.length * 8≤140737488351232) (Bs:Nat) (hBs:Bs<w.heap.size) (hbox:w.cell? ⟨Bs,0,none⟩=some (.slice a zs.length cap))
 (hc:∀(j:Nat) (x:Int),zs[j]?=some x→∃b off,a=some ⟨b,off,none⟩∧w.cell? ⟨b,off+j,none⟩=some (.int .i64 x)) (n:Nat) (hn:1≤n):
 jj Fence.wide n 162 #[.pointer (some ⟨Bs,0,none⟩)] zs w:=fun l J W hJB hY h0=>by
 have hbox':=((hJB _ _ h0).cell (p:=⟨Bs,0,none⟩) hBs).trans hbox
 by_cases hz:zs= []
 ·subst hz
  exact mE Fence.wide n trivial rfl l Bs cap a J W hbox' h0
 ·have hpos:0<zs.length:=List.length_pos_iff.2 hz
  obtain⟨b,off,rfl,hc0⟩:=hc 0 zs[0] (List.getElem?_eq_getElem hpos)
  have hb:b<w.heap.size:=by
   simp only[World.cell?]at hc0
   split at hc0
   ·rename_i hh;exact(Array.getElem?_eq_some_iff.1 hh).1
   ·cases hc0
  refine uY Fence.wide n trivial rfl hn l Bs w.heap.size b off cap zs hreach hb w J hJB hY W hbox' (fun j hj=> ?_) h0
  obtain⟨b',off',e,hcj⟩:=hc j zs[j] (List.getElem?_eq_getElem hj)
  cases e
  simpa [hj] using hcj
set_option maxRecDepth 100000 in
set_option maxHeartbeats 2000000 in
theorem uD (H:vp) (a:Option Addr) (cap:Nat) (zs:List Int) (hlen:zs.length≤1000) (w:World)
 (hc:∀(j:Nat) (x:Int),zs[j]?=some x→∃b off,a=some ⟨b,off,none⟩∧w.cell? ⟨b,off+j,none⟩=some (.int .i64 x)):
 Calls Tryz.prog 75 #[.slice a zs.length cap] w fun e w'=>e= .returned (.bool (decide zs.Nodup))∧Below w.heap.size w w':=by
 refine(callsIn_wide (n:=6)).1 ?_
 have hF1:Fence.wide.fn 118:=trivial
 have hF2:Fence.wide.fn 117:=trivial
 have hF3:Fence.wide.fn 119:=trivial
 have hN:zs.length≤maxLen:=Nat.le_trans hlen (by decide)
 obtain⟨W0,hW0⟩:∃W0,w.alloc (.cells #[.slice a zs.length cap] 24)=W0:=⟨_,rfl⟩
 have hb0:Below w.heap.size w W0:=by rw[←hW0];exact(Below.refl _ w).alloc (Nat.le_refl _) _
 have hv0:W0.heap[w.heap.size]?=some (.cells #[.slice a zs.length cap] 24 (0,0)):=by rw[←hW0];exact World.alloc_heap_new w _
 have hs0:W0.heap.size=w.heap.size+1:=by rw[←hW0];simp
 have hg:jj Fence.wide 2 162 #[.pointer (some ⟨w.heap.size,0,none⟩)] zs W0:=
  rH (by omega) w.heap.size (by omega) (cell_of_box_a hv0).1 (fun j x hj=>by
   obtain⟨b,off,e,h⟩:=hc j x hj
   refine⟨b,off,e,?_⟩
   have hb:b<w.heap.size:=by
    simp only[World.cell?]at h
    split at h
    ·rename_i hh;exact(Array.getElem?_eq_some_iff.1 hh).1
    ·cases h
   exact(hb0.cell (p:=⟨b,off+j,none⟩) hb).trans h) 2 (by omega)
 have cV:=xM Fence.wide 5 trivial rfl a zs.length cap w
 have cS:=sorted_in H 5 (by omega) 162 #[.pointer (some ⟨w.heap.size,0,none⟩)] (enters_of Tryz.func162 (by kernel_rfl) rfl) zs hN (by omega) W0 hg
 refine callsIn_of_wp Tryz.func75 rfl trivial ?_ rfl
 simp only[Tryz.ntmps75,List.size_toArray,List.length_cons,List.length_nil,Nat.reduceAdd,Nat.reduceSub,Array.replicate_succ,Array.replicate_zero,List.push_toArray,List.append_toArray,List.nil_append,List.cons_append]
 gi_wp2_with (first
  | (gi_at_call 118;refine cV.mono ?_;rintro e w' ⟨rfl,rfl⟩;rw[hW0])
  | (gi_at_call 117;refine cS.mono ?_;rintro e W ⟨v,rfl,hrow,hnil,hb⟩))
 have hl:(sorted zs).length=zs.length:=List.length_mergeSort ..
 have hbw:Below w.heap.size w W:=hb0.trans (hb.mono (by omega))
 rcases hrow.2 with ⟨rfl,hz⟩ | ⟨gb,cp,cur,rfl,hbase,hgb,r1,r2,r3,r4⟩
 ·have hss:zs= []:=List.eq_nil_of_length_eq_zero hz
  subst hss
  refine(callsIn_wide.2 (H.compactNone none 0 W)).mono ?_
  rintro e w' ⟨rfl,rfl⟩
  gi_wp2
  go_ret
  exact⟨by simp,hbw⟩
 ·have hH:Holds encZ W gb 0 (sorted zs).toArray:=holds_of_block_i hgb (by rw[hl];simpa using r4)
  have cC:=callsIn_wide (n:=5) |>.2 (H.compact gb 0 cp (sorted zs) W hH (by rw[hl];omega) (by rw[hl];omega))
  rw[hl]at cC
  refine cC.mono ?_
  rintro e w' ⟨rfl,q,rfl⟩
  have hgr:W.grownBy (putRow (Value.int .i64) (Sort.ahead W q) gb 0 (Lib.compact (sorted zs)++List.replicate (zs.length - (Lib.compact (sorted zs)).length) 0).toArray) (some gb):=by
   refine⟨rfl,rfl,rfl,by simp,fun k hk hne=> ?_⟩
   have:gb≠k:=fun e=>hne (by rw[e])
   simp[putRow,mapBlock,Sort.ahead,Array.getElem?_modify,this]
  have hbp:=hbw.grown hgr hbw.size (fun k e=>by cases e;omega)
  have hcl:(Lib.compact (sorted zs)).length=zs.length↔zs.Nodup:=oc zs
  generalize putRow (Value.int .i64) (Sort.ahead W q) gb 0 (Lib.compact (sorted zs)++List.replicate (zs.length - (Lib.compact (sorted zs)).length) 0).toArray=W2 at hbp
  gi_wp2
  go_ret
  refine⟨?_,hbp⟩
  have:(((Lib.compact (sorted zs)).length:Int)==(zs.length:Int))=decide ((Lib.compact (sorted zs)).length=zs.length):=by
   by_cases h:(Lib.compact (sorted zs)).length=zs.length
   ·simp[h]
   ·simp[h];omega
  rw[this]
  simp only[hcl]
  rfl
end Go.Proofs.Once
