import Derived.Test.YtjilebpcaemopaaGreatDoorAbsA
import Derived.IntWalk
import Derived.MapKept
import Derived.Lib.AppendZerosOnto
namespace Go.Abs
open Go
def aFillEls (sz:Nat):List (List AV)→List (Nat × AV)→Option (List (List AV))
  | els,[]=>some els
  | els,(i,x) :: r=>match acells x with
    | some vs=>if vs.length=sz∧i < els.length then aFillEls sz (els.set i vs) r else none
    | none=>none
structure RRel (c:Ctx) (sz:Nat) (els:List (List AV)) (vs:Array Value):Prop where
  len:vs.size=els.length * sz
  el:∀ (i:Nat) el,els[i]?=some el→el.length=sz
  one:∀ (i:Nat) (v:Value),vs[i]?=some v→v.oneCell'=true
  rel:∀ (i:Nat) el (j:Nat) x,els[i]?=some el→el[j]?=some x→∀ v,vs[i * sz+j]?=some v→VRel c x v
theorem RRel.orel {c:Ctx} {sz els vs b t} (h:RRel c sz els vs) (hb:c.h[b]?=some (.cells vs t (0,0))):ORel c (.cells sz els) (some b,sz) :=
  .cells vs t hb (by rw [h.len];exact Nat.le_refl _) h.el h.one h.rel
theorem RRel.mono {c d:Ctx} (hle:CLe c d) {sz els vs} (h:RRel c sz els vs):RRel d sz els vs :=
  ⟨h.len,h.el,h.one,fun i el j x a b v hv=>(h.rel i el j x a b v hv).mono hle⟩
theorem replicate_some {α:Type} {n i:Nat} {a b:α} (h:(List.replicate n a)[i]?=some b):i < n∧b=a:=by
  rw [List.getElem?_replicate] at h
  split at h
  · cases h;exact ⟨by assumption,rfl⟩
  · cases h
theorem mul_lt_row {i n sz:Nat} (h:i < n):i * sz+sz≤n * sz:=by
  have:=Nat.mul_le_mul_right sz (Nat.succ_le_of_lt h);rwa [Nat.succ_mul] at this
theorem sFillEls {c:Ctx} (sz:Nat):∀ (parts:List (Nat × Value)) (aparts:List (Nat × AV)) (els:List (List AV)) (vs:Array Value) (r:List (List AV)),RRel c sz els vs→parts.length=aparts.length →
    (∀ (k i:Nat) (v:Value) (j:Nat) (x:AV),parts[k]?=some (i,v)→aparts[k]?=some (j,x)→j=i∧VRel c x v)→aFillEls sz els aparts=some r →
    ∃ us,Instr.fill (fun i=>some (i * sz,sz)) vs parts=some us∧RRel c sz r us∧r.length=els.length
  | [],[],els,vs,r,h,_,_,hf=>by simp only [aFillEls,Option.some.injEq] at hf;subst hf;exact ⟨vs,rfl,h,rfl⟩
  | [],_ :: _,_,_,_,_,hl,_,_=>by simp at hl
  | _ :: _,[],_,_,_,_,hl,_,_=>by simp at hl
  | (i,v) :: parts,(j,x) :: aparts,els,vs,r,h,hl,hp,hf=>by
    obtain ⟨rfl,h2⟩:=hp 0 i v j x rfl rfl
    simp only [aFillEls] at hf
    cases hc:acells x with
    | none=>rw [hc] at hf;cases hf
    | some ds =>
      rw [hc] at hf
      simp only at hf
      split at hf
      · rename_i hfit
        obtain ⟨hd,hi⟩:=hfit
        obtain ⟨k1,k2,k3⟩:=sCells h2 hc
        have hrow:=mul_lt_row (sz:=sz) hi
        have hlen:=h.len
        have hsp:j * sz+v.cells.size≤vs.size:=by omega
        have hr:RRel c sz (els.set j ds) (splice vs (j * sz) v.cells):=by
          refine ⟨by rw [splice_size hsp,List.length_set,hlen],fun k el hk=>?_,fun k u hu=>?_,fun k el q y hk hy u hu=>?_⟩
          · rw [List.getElem?_set] at hk
            split at hk
            · cases hk;exact hd
            · exact h.el _ _ hk
          · rw [splice_get hsp] at hu
            split at hu
            · exact k2 _ _ hu
            · exact h.one _ _ hu
          · rw [splice_get hsp] at hu
            rw [List.getElem?_set] at hk
            split at hk
            · rename_i e
              subst e
              · cases hk
                have hq:=(List.getElem?_eq_some_iff.1 hy).1
                rw [if_pos ⟨by omega,by omega⟩] at hu
                refine k3 q y u hy ?_
                rw [← hu];congr 1;omega
            · rename_i e
              have hq:q < sz:=by rw [← h.el _ _ hk];exact (List.getElem?_eq_some_iff.1 hy).1
              rw [if_neg] at hu
              · exact h.rel _ _ _ _ hk hy _ hu
              · intro hc'
                have h5:k * sz+q=j * sz+(k * sz+q - j * sz):=by omega
                exact e (mul_split hq (by omega) h5).1.symm
        obtain ⟨us,e1,e2,e3⟩:=sFillEls sz parts aparts _ _ r hr (by simpa using hl) (fun k i v j x ha hb=>hp (k+1) i v j x ha hb) hf
        refine ⟨us,?_,e2,by rw [e3,List.length_set]⟩
        have hs2:=foldl_set_splice v.cells.toList 0 (j * sz) vs (by simp;omega)
        simp only [Nat.add_zero,Array.toArray_toList] at hs2
        rw [← e1,← hs2]
        simp only [Instr.fill]
        rw [if_neg (by simp;omega)]
        congr 1
        rw [← Array.foldl_toList]
        simp
      · cases hf
def aBuildSlice (len sz:Nat) (zs:List AV) (parts:List (Nat × AV)) (σ:AHeap):Option (AV × AHeap) :=
  if zs.length=sz∧len * sz≤16777216 then (aFillEls sz (List.replicate len zs) parts).map fun els=>(.own σ.next len,σ.new (.cells sz els)) else none
theorem sBuildCore {ρ σ w} {P t e sz bytes zs} (ht:sinfo P t=some (e,sz,bytes)) (hz:zeroOf P e=some zs) {fr} {a:Act} (hf:FRel (ctx ρ σ w) fr a.tmps) {len:Nat} {parts:Array (Nat × Operand)}
    {els:List (List AV)} (hc:zs.length=sz∧len * sz≤16777216) (hfill:aFillEls sz (List.replicate len zs) (parts.toList.map fun (i,x)=>(i,ev fr x))=some els) :
    ∃ us,RRel (ctx ρ σ w) sz els us∧els.length=len∧(Instr.buildSlice t len (parts.map fun (i,x)=>(i,a.eval x))).run P w=.ok (.slice (some ⟨w.heap.size,0,none⟩) len len) (w.alloc (.cells us e)):=by
    obtain ⟨hu,i,z,hi,hzz,rfl,rfl⟩:=sinfo_spec ht
    obtain ⟨hzl,hbig⟩:=hc
    obtain ⟨z',hzr,z1,z2,z3⟩:=zeroOf_spec hz w
    have hz':z'=z:=by simp [zeroValue,typeInfo,hi,hzz] at hzr;exact hzr.symm
    subst hz'
    have hr0:∀ c,RRel c i.size (List.replicate len zs) ((Array.range (len * i.size)).map (z'.cells[· % z'.cells.size]!)):=by
      intro c
      refine ⟨by simp,fun k el hk=>?_,fun k v hv=>?_,fun k el j x hk hx v hv=>?_⟩
      · obtain ⟨_,rfl⟩:=replicate_some hk;exact hzl
      · simp only [Array.getElem?_map] at hv
        obtain ⟨q,hq,rfl⟩:=Option.map_eq_some_iff.1 hv
        have hlt:k < len * i.size:=by have:=(Array.getElem?_eq_some_iff.1 hq).1;simpa using this
        obtain ⟨h0,_,_,_⟩:=div_mul_lt hlt
        have hm:q % z'.cells.size < z'.cells.size:=Nat.mod_lt _ (by omega)
        rw [getElem!_pos z'.cells _ hm]
        exact z2 _ _ (Array.getElem?_eq_getElem hm)
      · obtain ⟨hk1,rfl⟩:=replicate_some hk
        have hj:j < i.size:=by rw [← hzl];exact (List.getElem?_eq_some_iff.1 hx).1
        simp only [Array.getElem?_map] at hv
        obtain ⟨q,hq,rfl⟩:=Option.map_eq_some_iff.1 hv
        obtain ⟨hq1,hq2⟩:=Array.getElem?_eq_some_iff.1 hq
        simp at hq2
        subst hq2
        have e1:z'.cells.size=i.size:=by omega
        have e2:(k * i.size+j) % z'.cells.size=j:=by rw [e1,Nat.mul_comm,Nat.mul_add_mod,Nat.mod_eq_of_lt hj]
        rw [e2,getElem!_pos z'.cells j (by omega)]
        exact z3 c j x _ hx (Array.getElem?_eq_getElem (by omega))
    obtain ⟨us,e1,e2,e3⟩:=sFillEls (c:=ctx ρ σ w) i.size (parts.toList.map fun p=>(p.1,a.eval p.2)) (parts.toList.map fun p=>(p.1,ev fr p.2)) _ _ els (hr0 _) (by simp)
      (fun k i v j x hk hj=>by
        simp only [List.getElem?_map] at hk hj
        obtain ⟨p,hp,hpe⟩:=Option.map_eq_some_iff.1 hk
        rw [hp] at hj
        simp at hpe hj
        obtain ⟨rfl,rfl⟩:=hpe
        obtain ⟨rfl,rfl⟩:=hj
        exact ⟨rfl,hf.eval _⟩) hfill
    have hlen:els.length=len:=by rw [e3];simp
    refine ⟨us,e2,hlen,?_⟩
    · simp only [Instr.buildSlice,Sem.run_bind,run_underlying hu,Result.andThen_ok,sizeOf,typeInfo,run_program,hi,Sem.run_pure,if_neg (Nat.not_lt.2 hbig),Array.toList_map]
      by_cases h0:len * i.size=0
      · rw [if_pos h0]
        simp only [Sem.run_bind,Sem.run_pure,Result.andThen_ok]
        have earr:(Array.range (len * i.size)).map (fun x=>(#[]:Array Value)[x % (#[]:Array Value).size]!)=(Array.range (len * i.size)).map (z'.cells[· % z'.cells.size]!):=by rw [h0];simp
        rw [earr,e1]
        simp [newRow]
      · rw [if_neg h0]
        simp only [Sem.run_bind,hzr,Sem.run_pure,Result.andThen_ok]
        rw [e1]
        simp [newRow]
theorem sBuildSlice {ρ σ w} (hs:Sim ρ σ w) {P t e sz bytes zs} (ht:sinfo P t=some (e,sz,bytes)) (hz:zeroOf P e=some zs) {fr} {a:Act} (hf:FRel (ctx ρ σ w) fr a.tmps) {len:Nat} {parts:Array (Nat × Operand)}
    {r σ'} (h:aBuildSlice len sz zs (parts.toList.map fun (i,x)=>(i,ev fr x)) σ=some (r,σ')) :
    ∃ u w' ρ',(Instr.buildSlice t len (parts.map fun (i,x)=>(i,a.eval x))).run P w=.ok u w'∧VRel (ctx ρ' σ' w') r u∧Sim ρ' σ' w'∧Ext ρ σ w ρ' σ' w':=by
  unfold aBuildSlice at h
  split at h
  · rename_i hc
    obtain ⟨els,hfill,he⟩:=Option.map_eq_some_iff.1 h
    cases he
    obtain ⟨us,e2,hlen,hrun⟩:=sBuildCore (σ:=σ) ht hz hf hc hfill
    have ha:=hs.alloc (.cells us e) (.cells sz els) sz (fun d hle hb=>(e2.mono hle).orel hb)
    exact ⟨.slice (some ⟨w.heap.size,0,none⟩) len len,w.alloc (.cells us e),_,hrun,.own (sz:=sz) (upρ_get _ _ _ _ _) (Nat.le_refl _) ⟨us,e,(0,0),heap_alloc_new w _,by rw [e2.len,hlen];exact Nat.le_refl _⟩,ha.1,ha.2⟩
  · cases h
def aBuildSl (len sz:Nat) (zs:List AV) (parts:List (Nat × AV)):Option AV :=
  if zs.length=sz∧len * sz≤16777216 then (aFillEls sz (List.replicate len zs) parts).map fun els=>.sl true sz els else none
theorem sBuildSl {ρ σ w} (hs:Sim ρ σ w) {P t e sz bytes zs} (ht:sinfo P t=some (e,sz,bytes)) (hz:zeroOf P e=some zs) {fr} {a:Act} (hf:FRel (ctx ρ σ w) fr a.tmps) {len:Nat} {parts:Array (Nat × Operand)}
    {r} (h:aBuildSl len sz zs (parts.toList.map fun (i,x)=>(i,ev fr x))=some r) :
    ∃ u w' ρ',(Instr.buildSlice t len (parts.map fun (i,x)=>(i,a.eval x))).run P w=.ok u w'∧VRel (ctx ρ' σ w') r u∧Sim ρ' σ w'∧Ext ρ σ w ρ' σ w':=by
  unfold aBuildSl at h
  split at h
  · rename_i hc
    obtain ⟨els,hfill,he⟩:=Option.map_eq_some_iff.1 h
    cases he
    obtain ⟨us,e2,hlen,hrun⟩:=sBuildCore (σ:=σ) ht hz hf hc hfill
    obtain ⟨j1,j2,himm,hb⟩:=hs.junk (.cells us e)
    refine ⟨_,_,ρ,hrun,?_,j1,j2⟩
    have hor:=(e2.mono j2.le).orel hb
    obtain ⟨_,cs,te,hb,hcsz,hel,hone,hr⟩:=hor.cells_inv
    refine .sl (fun p q=>cs.getD (p * sz+q) undef) hlen.symm (fun h=>by cases h) (Nat.le_refl _) (fun _=>rfl) (fun p el hp=>⟨hel p el hp,_,0,rfl,himm,fun q hq=>?_⟩) (fun p el q x hp hx=>?_)
    · have hpl:=(List.getElem?_eq_some_iff.1 hp).1
      have hlt:p * sz+q < cs.size:=by
        have:=Nat.mul_le_mul_right sz (Nat.succ_le_of_lt hpl);rw [Nat.succ_mul] at this;omega
      refine ⟨?_,?_⟩
      · rw [cellOf,hb,Nat.zero_add]
        simp [Array.getD_eq_getD_getElem?,hlt]
      · simp only [Array.getD_eq_getD_getElem?,Array.getElem?_eq_getElem hlt,Option.getD_some]
        exact hone _ _ (Array.getElem?_eq_getElem hlt)
    · have hpl:=(List.getElem?_eq_some_iff.1 hp).1
      have hql:q < sz:=by rw [← hel _ _ hp];exact (List.getElem?_eq_some_iff.1 hx).1
      have hlt:p * sz+q < cs.size:=by
        have:=Nat.mul_le_mul_right sz (Nat.succ_le_of_lt hpl);rw [Nat.succ_mul] at this;omega
      have:=hr p el q x hp hx cs[p * sz+q] (Array.getElem?_eq_getElem hlt)
      simpa [Array.getD_eq_getD_getElem?,hlt] using this
  · cases h
inductive LenKind where
  | slice | str | map
def lenKind (P:Program) (t:TypeId):Option LenKind :=
  match P.underlying t with
  | some (.slice _)=>some .slice
  | some .string=>some .str
  | some (.map _ _)=>some .map
  | _=>none
def aLen (x:AV) (σ:AHeap):Option AV :=
  match x with
  | .val (.slice none 0 0)=>some (.val (.int .i64 0))
  | .val (.string s)=>some (.val (.int .i64 s.size))
  | .val (.map none)=>some (.val (.int .i64 0))
  | .sl _ _ xs=>some (.val (.int .i64 xs.length))
  | .own _ n=>some (.val (.int .i64 n))
  | .win _ _ _ n=>some (.val (.int .i64 n))
  | .mp id=>match σ.get id with
    | some (.map es)=>some (.val (.int .i64 es.length))
    | _=>none
  | _=>none
def lenFits:LenKind→AV→Bool
  | .slice,.val (.slice none 0 0)=>true
  | .slice,.sl _ _ _=>true
  | .slice,.own _ _=>true
  | .slice,.win _ _ _ _=>true
  | .str,.val (.string _)=>true
  | .map,.val (.map none)=>true
  | .map,.mp _=>true
  | _,_=>false
theorem Sim.mapAt {ρ σ w} (hs:Sim ρ σ w) {id es b sz} (hg:σ.get id=some (.map es)) (hp:ρ id=some (some b,sz)) :
    ∃ ents clock,w.heap[b]?=some (.map ents clock)∧ents.size=es.length∧∀ (i:Nat) k x e,es[i]?=some (k,x)→ents[i]?=some e→e.key=k.val∧VRel (ctx ρ σ w) x e.val:=by
  obtain ⟨p,hp',hor⟩:=hs.obj id _ hg
  rw [hp] at hp';cases hp'
  cases hor with
  | map ents clock hb hl hr=>exact ⟨ents,clock,hb,hl,hr⟩
theorem sLen {ρ σ w} (hs:Sim ρ σ w) {P t ty k} (ht:lenKind P t=some k) {x v} (hv:VRel (ctx ρ σ w) x v) (hk:lenFits k x=true) {y} (hy:aLen x σ=some y) :
    ∃ u,(Builtin.len_ #[t] ty #[v]).run P w=.ok u w∧VRel (ctx ρ σ w) y u:=by
  have key:∀ n:Int,(Builtin.len_ #[t] ty #[v]).run P w=.ok (goInt n) w→y=.val (.int .i64 n)→∃ u,(Builtin.len_ #[t] ty #[v]).run P w=.ok u w∧VRel (ctx ρ σ w) y u:=by
    intro n h1 h2;subst h2;exact ⟨_,h1,.val _⟩
  unfold lenKind at ht
  split at ht
  · rename_i e he
    cases ht
    unfold aLen at hy
    split at hy <;> first | (cases hy;done) | (simp [lenFits] at hk;done) | skip
    · cases hy;obtain rfl:=hv.val_inv;exact key _ (by simp [Builtin.len_,run_underlying he]) rfl
    · cases hy
      cases hv with
      | sl f hl hn hcap hclip hc hr=>subst hl;exact key _ (by simp [Builtin.len_,run_underlying he]) rfl
    · cases hy
      rcases hv.own_inv with ⟨b,sz,cap,rfl,_⟩ | ⟨rfl,a,rfl,_⟩
      · exact key _ (by simp [Builtin.len_,run_underlying he]) rfl
      · exact key _ (by simp [Builtin.len_,run_underlying he]) rfl
    · cases hy
      rcases hv.win_inv with ⟨b,sz,cap,rfl,_⟩ | ⟨rfl,a,cap,rfl⟩
      · exact key _ (by simp [Builtin.len_,run_underlying he]) rfl
      · exact key _ (by simp [Builtin.len_,run_underlying he]) rfl
  · rename_i he
    cases ht
    unfold aLen at hy
    split at hy <;> first | (cases hy;done) | (simp [lenFits] at hk;done) | skip
    · cases hy;obtain rfl:=hv.val_inv;exact key _ (by simp [Builtin.len_,run_underlying he]) rfl
  · rename_i he
    cases ht
    unfold aLen at hy
    split at hy <;> first | (cases hy;done) | (simp [lenFits] at hk;done) | skip
    · cases hy;obtain rfl:=hv.val_inv;exact key _ (by simp [Builtin.len_,run_underlying he]) rfl
    · rename_i id
      split at hy
      · rename_i es hg
        cases hy
        cases hv with
        | mp hp =>
          obtain ⟨ents,clock,hb,hl,_⟩:=hs.mapAt hg hp
          exact key _ (by simp [Builtin.len_,run_underlying he,getObj,Sem.run,hb,hl]) rfl
      · cases hy
  · cases ht
def optInt:Option AV→Option (Option Int)
  | none=>some none
  | some (.val (.int _ n))=>some (some n)
  | _=>none
def aSlice (n:Nat) (x:AV) (lo hi mx:Option AV):Option AV :=
  match optInt lo,optInt hi,optInt mx with
  | some l,some h,some m =>
    match x with
    | .sl clip sz xs =>
      let h':=h.getD xs.length
      let l':=l.getD 0
      if 0≤l'∧l'≤h'∧h'≤xs.length∧sz=n then
        match m with
        | none=>some (.sl (clip && decide (h'=xs.length)) sz ((xs.take h'.toNat).drop l'.toNat))
        | some m=>if m=h'∧h.isSome then some (.sl true sz ((xs.take h'.toNat).drop l'.toNat)) else none
      else none
    | .own id len =>
      let h':=h.getD len
      let l':=l.getD 0
      if l'=0∧0≤h'∧h'≤len∧m=none then some (.own id h'.toNat)
      else if 0 < l'∧l'≤h'∧h'≤len∧m=none then some (.win id l'.toNat n (h' - l').toNat) else none
    | .val (.slice none 0 0)=>if l.getD 0=0∧h.getD 0=0∧(m=none∨m=some 0∧h.isSome) then some (.val (.slice none 0 0)) else none
    | _=>none
  | _,_,_=>none
def aSliceStr (x:AV) (lo hi:Option AV):Option AV :=
  match x,optInt lo,optInt hi with
  | .val (.string s),some l,some h =>
    if 0≤l.getD 0∧l.getD 0≤h.getD s.size∧h.getD s.size≤s.size then some (.val (.string (s.extract (l.getD 0).toNat (h.getD s.size).toNat))) else none
  | _,_,_=>none
def bnd (o:Option Int):Option Value→Prop
  | none=>o=none
  | some v=>∃ k n,o=some n∧v=.int k n
theorem run_sliceBounds {P:Program} {w:World} {isS:Bool} {len cap:Nat} {low high max:Option Value} {l h m:Option Int} (hl:bnd l low) (hh:bnd h high) (hm:bnd m max)
    (b1:0≤l.getD 0) (b2:l.getD 0≤h.getD len) (b3:h.getD len≤len) (b4:len≤cap) (b5:m=none∨(m=some (h.getD len)∧h.isSome=true)) :
    (Instr.sliceBounds isS len cap low high max).run P w=.ok ((l.getD 0).toNat,(h.getD len).toNat,(match m with | none=>cap | some n=>n.toNat)) w:=by
  have bound:∀ (k:IntKind) (n:Int) (y:Nat) code,0≤n→n≤y→(Instr.sliceBound (.int k n) y code).run P w=.ok n.toNat w:=by
    intro k n y code h1 h2
    simp [Instr.sliceBound,asIntOf,h1,h2]
  rcases b5 with rfl | ⟨rfl,hs⟩
  · cases max with
    | some v=>obtain ⟨_,_,h',_⟩:=hm;cases h'
    | none =>
      cases high with
      | none =>
        cases hh
        simp only [Option.getD_none] at *
        cases low with
        | none=>cases hl;simp [Instr.sliceBounds]
        | some v =>
          obtain ⟨k,n,rfl,rfl⟩:=hl
          simp at b1 b2
          simp [Instr.sliceBounds,bound k n len .sliceB b1 b2]
      | some vh =>
        obtain ⟨kh,nh,rfl,rfl⟩:=hh
        simp at b2 b3
        have q1:0≤nh:=by omega
        cases low with
        | none =>
          cases hl
          simp [Instr.sliceBounds,bound kh nh cap _ q1 (by omega)]
        | some v =>
          obtain ⟨k,n,rfl,rfl⟩:=hl
          simp at b1 b2
          simp [Instr.sliceBounds,bound kh nh cap _ q1 (by omega),bound k n nh.toNat .sliceB b1 (by omega)]
  · cases max with
    | none=>cases hm
    | some v =>
      obtain ⟨km,nm,e,rfl⟩:=hm
      cases high with
      | none=>cases hh;simp at hs
      | some vh =>
        obtain ⟨kh,nh,rfl,rfl⟩:=hh
        simp at b2 b3 e
        subst e
        have q1:0≤nh:=by omega
        cases low with
        | none =>
          cases hl
          simp [Instr.sliceBounds,bound km nh cap _ q1 (by omega),bound kh nh nh.toNat .slice3B q1 (by omega)]
        | some v =>
          obtain ⟨k,n,rfl,rfl⟩:=hl
          simp at b1 b2
          simp [Instr.sliceBounds,bound km nh cap _ q1 (by omega),bound kh nh nh.toNat .slice3B q1 (by omega),bound k n nh.toNat .slice3C b1 (by omega)]
def aMakeSlice (sz bytes:Nat) (zs:List AV) (x y:AV) (σ:AHeap):Option (AV × AHeap) :=
  match x,y with
  | .val (.int .i64 n),.val (.int .i64 m)=>if n=m∧0≤n∧n≤9223372036854775807∧bytes * n≤140737488355328∧zs.length=sz then some (.own σ.next n.toNat,σ.new (.cells sz (List.replicate n.toNat zs))) else none
  | _,_=>none
theorem zeroRow {P:Program} {e:TypeId} {i:TypeInfo} {zs:List AV} (hi:P.info? e=some i) (hz:zeroOf P e=some zs) (hzl:zs.length=i.size) (w:World) (len:Nat) :
    ∃ z,i.zero=some z∧z.cells.size=i.size∧∀ c,RRel c i.size (List.replicate len zs) ((Array.range (len * i.size)).map (z.cells[· % z.cells.size]!)):=by
  obtain ⟨z,hzr,z1,z2,z3⟩:=zeroOf_spec hz w
  have hzz:i.zero=some z:=by
    cases h:i.zero with
    | none=>simp [zeroValue,typeInfo,hi,h] at hzr
    | some z'=>simp [zeroValue,typeInfo,hi,h] at hzr;rw [hzr]
  refine ⟨z,hzz,by omega,fun c=>⟨by simp,fun k el hk=>?_,fun k v hv=>?_,fun k el j x hk hx v hv=>?_⟩⟩
  · obtain ⟨_,rfl⟩:=replicate_some hk;exact hzl
  · simp only [Array.getElem?_map] at hv
    obtain ⟨q,hq,rfl⟩:=Option.map_eq_some_iff.1 hv
    have hlt:k < len * i.size:=by have:=(Array.getElem?_eq_some_iff.1 hq).1;simpa using this
    obtain ⟨h0,_,_,_⟩:=div_mul_lt hlt
    have hm:q % z.cells.size < z.cells.size:=Nat.mod_lt _ (by omega)
    rw [getElem!_pos z.cells _ hm]
    exact z2 _ _ (Array.getElem?_eq_getElem hm)
  · obtain ⟨hk1,rfl⟩:=replicate_some hk
    have hj:j < i.size:=by rw [← hzl];exact (List.getElem?_eq_some_iff.1 hx).1
    simp only [Array.getElem?_map] at hv
    obtain ⟨q,hq,rfl⟩:=Option.map_eq_some_iff.1 hv
    obtain ⟨hq1,hq2⟩:=Array.getElem?_eq_some_iff.1 hq
    simp at hq2
    subst hq2
    have e1:z.cells.size=i.size:=by omega
    have e2:(k * i.size+j) % z.cells.size=j:=by rw [e1,Nat.mul_comm,Nat.mul_add_mod,Nat.mod_eq_of_lt hj]
    rw [e2,getElem!_pos z.cells j (by omega)]
    exact z3 c j x _ hx (Array.getElem?_eq_getElem (by omega))
theorem sMakeSlice {ρ σ w} (hs:Sim ρ σ w) {P t e sz bytes zs} (ht:sinfo P t=some (e,sz,bytes)) (hz:zeroOf P e=some zs) {x y v u} (hx:VRel (ctx ρ σ w) x v) (hy:VRel (ctx ρ σ w) y u) {r σ'} (h:aMakeSlice sz bytes zs x y σ=some (r,σ')) :
    ∃ q w' ρ',(Instr.makeSlice t v u).run P w=.ok q w'∧VRel (ctx ρ' σ' w') r q∧Sim ρ' σ' w'∧Ext ρ σ w ρ' σ' w':=by
  obtain ⟨hu,i,z0,hi,hzz0,rfl,rfl⟩:=sinfo_spec ht
  unfold aMakeSlice at h
  split at h
  · rename_i n m
    split at h
    · rename_i hc
      obtain ⟨rfl,h0,h1,h2,hzl⟩:=hc
      cases h
      obtain rfl:=hx.val_inv
      obtain rfl:=hy.val_inv
      obtain ⟨z,hzz,zsz,hrow⟩:=zeroRow hi hz hzl w n.toNat
      have hw:IntKind.i64.wrap n=n:=Go.IntWalk.i64_in n ⟨by omega,h1⟩
      generalize hrw:(Array.range (n.toNat * i.size)).map (z.cells[· % z.cells.size]!)=row at hrow
      have ha:=hs.alloc (.cells row e) (.cells i.size (List.replicate n.toNat zs)) i.size (fun d hle hb=>((hrow _).mono hle).orel hb)
      refine ⟨.slice (some ⟨w.heap.size,0,none⟩) n.toNat n.toNat,w.alloc (.cells row e),_,?_,.own (sz:=i.size) (upρ_get _ _ _ _ _) (Nat.le_refl _) ⟨row,e,(0,0),heap_alloc_new w _,by rw [← hrw];simp⟩,ha.1,ha.2⟩
      have hroom:¬ (n.toNat * i.bytes > roomBytes):=by
        have e1:((n.toNat * i.bytes:Nat):Int)=i.bytes * n:=by rw [Int.natCast_mul,Int.toNat_of_nonneg h0,Int.mul_comm]
        show ¬ (n.toNat * i.bytes > 2 ^ 47)
        omega
      have hbig:¬ (281474976710656 < (i.bytes:Int) * n):=by omega
      have hneg:¬ n < 0:=by omega
      simp only [Instr.makeSlice,Sem.run_bind,run_underlying hu,Result.andThen_ok,asInt,asIntOf,typeInfo,run_program,hi,Sem.run_pure,hw]
      by_cases h00:n.toNat * i.size=0
      · have h1:row=#[]:=by rw [← hrw,h00];simp
        simp [hneg,hbig,askRoom,hroom,sizeOf,typeInfo,hi,zeroValue,hzz,newRow,h00,h1,show Array.range 0=#[] from rfl]
      · simp only [← hrw]
        simp [hneg,hbig,askRoom,hroom,sizeOf,typeInfo,hi,zeroValue,hzz,newRow,h00]
    · cases h
  · cases h
end Go.Abs
namespace Go.Abs
open Go
def ORelO (c:Ctx):Option AV→Option Value→Prop
  | none,none=>True
  | some x,some v=>VRel c x v
  | _,_=>False
theorem optInt_bnd {c:Ctx} {x v} (h:ORelO c x v) {o} (ho:optInt x=some o):bnd o v:=by
  unfold optInt at ho
  split at ho
  · cases v with
    | none=>cases ho;rfl
    | some v=>exact h.elim
  · rename_i k n
    cases ho
    cases v with
    | none=>exact h.elim
    | some v=>exact ⟨k,n,rfl,VRel.val_inv h⟩
  · cases ho
theorem sSliceStr {c:Ctx} {P t} (ht:isStr P t=true) {x v lo hi vl vh} (hv:VRel c x v) (hl:ORelO c lo vl) (hh:ORelO c hi vh) {y} (hy:aSliceStr x lo hi=some y) (w:World) :
    ∃ u,(Instr.sliceAt t v vl vh none).run P w=.ok u w∧VRel c y u:=by
  unfold aSliceStr at hy
  split at hy
  · rename_i s l h hl' hh'
    split at hy
    · rename_i hb
      cases hy
      obtain ⟨b1,b2,b3⟩:=hb
      obtain rfl:=hv.val_inv
      have hr:=run_sliceBounds (P:=P) (w:=w) (isS:=false) (len:=s.size) (cap:=s.size) (m:=none) (optInt_bnd hl hl') (optInt_bnd hh hh') (show bnd none none from rfl) b1 b2 b3 (Nat.le_refl _) (.inl rfl)
      exact ⟨_,by simp [Instr.sliceAt,Instr.slice,run_underlying (isStr_spec ht),hr],.val _⟩
    · cases hy
  · cases hy
theorem sSlice {c:Ctx} {P t n} (ht:isSlice P t=some n) {x v lo hi mx vl vh vm} (hv:VRel c x v) (hl:ORelO c lo vl) (hh:ORelO c hi vh) (hm:ORelO c mx vm) {y} (hy:aSlice n x lo hi mx=some y) (w:World) :
    ∃ u,(Instr.sliceAt t v vl vh vm).run P w=.ok u w∧VRel c y u:=by
  obtain ⟨e,i,hu,hi,rfl⟩:=isSlice_spec ht
  unfold aSlice at hy
  split at hy
  · rename_i l h m hl' hh' hm'
    have bl:=optInt_bnd hl hl'
    have bh:=optInt_bnd hh hh'
    have bm:=optInt_bnd hm hm'
    split at hy
    ·
      rename_i clip sz xs
      simp only at hy
      split at hy
      · rename_i hb
        obtain ⟨b1,b2,b3,rfl⟩:=hb
        cases hv with
        | sl f hlen hn hcap hclip hc hr =>
          rename_i a len cap
          subst hlen
          have key:∀ (y':Bool) (mm:Nat),(Instr.sliceBounds true xs.length cap vl vh vm).run P w=.ok ((l.getD 0).toNat,(h.getD xs.length).toNat,mm) w→(h.getD xs.length).toNat≤mm→(y'=true→mm=(h.getD xs.length).toNat)→mm≤cap →
              ∃ u,(Instr.sliceAt t (.slice a xs.length cap) vl vh vm).run P w=.ok u w∧VRel c (.sl y' i.size ((xs.take (h.getD xs.length).toNat).drop (l.getD 0).toNat)) u:=by
            intro y' mm hrun h1 h2 h3
            generalize hH:(h.getD xs.length).toNat=H at *
            generalize hL:(l.getD 0).toNat=L at *
            have hLH:L≤H:=by omega
            have hHX:H≤xs.length:=by omega
            refine ⟨.slice (if mm=L then a else a.map (·.add (L * i.size))) (H - L) (mm - L),?_,?_⟩
            · simp [Instr.sliceAt,Instr.slice,run_underlying hu,hrun,sizeOf,typeInfo,hi]
            · refine .sl (fun p q=>f (L+p) q) (by simp;omega) (fun hnone=>?_) (by omega) (fun hy'=>by have:=h2 hy';omega) (fun p el hp=>?_) (fun p el q x hp hx=>?_)
              · have ha:a=none:=by
                  split at hnone
                  · exact hnone
                  · simpa using hnone
                obtain ⟨e1,e2⟩:=hn ha
                subst e1
                exact ⟨by simp,by omega⟩
              · rw [List.getElem?_drop,List.getElem?_take] at hp
                split at hp
                · rename_i hlt
                  obtain ⟨k1,b,o,rfl,k2,k3⟩:=hc _ _ hp
                  refine ⟨k1,b,o+L * i.size,?_,k2,fun q hq=>?_⟩
                  · rw [if_neg (by omega)];simp [add_lit]
                  · rw [show o+L * i.size+p * i.size+q=o+(L+p) * i.size+q by rw [Nat.add_mul];omega]
                    exact k3 q hq
                · cases hp
              · rw [List.getElem?_drop,List.getElem?_take] at hp
                split at hp
                · exact hr _ _ _ _ hp hx
                · cases hp
          split at hy
          · cases hy
            have hr:=run_sliceBounds (P:=P) (w:=w) (isS:=true) (len:=xs.length) (cap:=cap) (m:=none) bl bh bm b1 b2 b3 hcap (.inl rfl)
            refine key _ cap hr (by omega) (fun hy'=>?_) (Nat.le_refl _)
            simp only [Bool.and_eq_true,decide_eq_true_eq] at hy'
            have:=hclip hy'.1
            omega
          · rename_i m0
            split at hy
            · rename_i hmm
              cases hy
              obtain ⟨rfl,hs⟩:=hmm
              have hr:=run_sliceBounds (P:=P) (w:=w) (isS:=true) (len:=xs.length) (cap:=cap) bl bh bm b1 b2 b3 hcap (.inr ⟨rfl,hs⟩)
              exact key true (h.getD xs.length).toNat hr (Nat.le_refl _) (fun _=>rfl) (by omega)
            · cases hy
      · cases hy
    ·
      rename_i id len
      simp only at hy
      split at hy
      · rename_i hb
        obtain ⟨b0,b2,b3,rfl⟩:=hb
        cases hy
        rcases hv.own_inv with ⟨b,sz,cap,rfl,hp,hlc,hbk⟩ | ⟨rfl,a,rfl,p,hp⟩
        · have hr:=run_sliceBounds (P:=P) (w:=w) (isS:=true) (len:=len) (cap:=cap) (m:=none) bl bh bm (by omega) (by omega) b3 hlc (.inl rfl)
          simp only [b0] at hr
          refine ⟨.slice (some ⟨b,0,none⟩) (h.getD len).toNat cap,?_,.own hp (by omega) hbk⟩
          simp [Instr.sliceAt,Instr.slice,run_underlying hu,hr,sizeOf,typeInfo,hi,add_lit]
        · have hr:=run_sliceBounds (P:=P) (w:=w) (isS:=true) (len:=0) (cap:=0) (m:=none) bl bh bm (by omega) (by omega) b3 (Nat.le_refl _) (.inl rfl)
          simp only [b0] at hr
          have h0:(h.getD ((0:Nat):Int)).toNat=0:=by omega
          rw [h0] at hr ⊢
          cases a with
          | none=>exact ⟨.slice none 0 0,by simp [Instr.sliceAt,Instr.slice,run_underlying hu,hr,sizeOf,typeInfo,hi],.ownNil hp⟩
          | some q=>refine ⟨_,by simp [Instr.sliceAt,Instr.slice,run_underlying hu,hr,sizeOf,typeInfo,hi];rfl,.ownNil hp⟩
      · split at hy
        · rename_i hb
          obtain ⟨b0,b2,b3,rfl⟩:=hb
          cases hy
          rcases hv.own_inv with ⟨b,sz,cap,rfl,hp,hlc,hbk⟩ | ⟨rfl,a,rfl,p,hp⟩
          · have hr:=run_sliceBounds (P:=P) (w:=w) (isS:=true) (len:=len) (cap:=cap) (m:=none) bl bh bm (by omega) (by omega) b3 hlc (.inl rfl)
            have hrun:(Instr.sliceAt t (.slice (some ⟨b,0,none⟩) len cap) vl vh vm).run P w=.ok (.slice (if cap=(l.getD 0).toNat then some ⟨b,0,none⟩ else some ⟨b,(l.getD 0).toNat * i.size,none⟩) ((h.getD len).toNat - (l.getD 0).toNat) (cap - (l.getD 0).toNat)) w:=by
              simp [Instr.sliceAt,Instr.slice,run_underlying hu,hr,sizeOf,typeInfo,hi,add_lit]
            rw [hrun]
            have e2:(h.getD len).toNat - (l.getD 0).toNat=(h.getD len - l.getD 0).toNat:=by omega
            rw [e2]
            by_cases hc:cap=(l.getD 0).toNat
            · have e1:(h.getD len - l.getD 0).toNat=0:=by omega
              rw [e1]
              exact ⟨_,rfl,.winNil hp⟩
            · rw [if_neg hc]
              exact ⟨_,rfl,.win hp (by omega)⟩
          · omega
        · cases hy
    ·
      split at hy
      · rename_i hb
        obtain ⟨b0,b1,b2⟩:=hb
        cases hy
        obtain rfl:=hv.val_inv
        have hr:=run_sliceBounds (P:=P) (w:=w) (isS:=true) (len:=0) (cap:=0) (m:=m) bl bh bm (by omega) (by simp;omega) (by simp;omega) (Nat.le_refl _) (by
          rcases b2 with b2 | b2
          · exact .inl b2
          · refine .inr ⟨?_,b2.2⟩
            rw [b2.1];simp;omega)
        have h1:(h.getD ((0:Nat):Int)).toNat=0:=by simp;omega
        rw [b0,h1] at hr
        refine ⟨.slice none 0 0,?_,.val _⟩
        rcases b2 with rfl | ⟨rfl,_⟩ <;> simp [Instr.sliceAt,Instr.slice,run_underlying hu,hr,sizeOf,typeInfo,hi]
      · cases hy
    · cases hy
  · cases hy
def aNot:AV→Option AV
  | .val (.bool b)=>some (.val (.bool (!b)))
  | _=>none
def aNeg:AV→Option AV
  | .val (.int k n)=>some (.val (.int k (k.wrap (0 - n))))
  | _=>none
theorem sNot {c:Ctx} {P:Program} {x v} (hv:VRel c x v) {y} (hy:aNot x=some y) (w:World):∃ u,(Op.unary .not v).run P w=.ok u w∧VRel c y u:=by
  unfold aNot at hy
  split at hy
  · cases hy;obtain rfl:=hv.val_inv;exact ⟨_,rfl,.val _⟩
  · cases hy
theorem sNeg {c:Ctx} {P:Program} {x v} (hv:VRel c x v) {y} (hy:aNeg x=some y) (w:World):∃ u,(Op.unary .neg v).run P w=.ok u w∧VRel c y u:=by
  unfold aNeg at hy
  split at hy
  · cases hy;obtain rfl:=hv.val_inv;exact ⟨_,rfl,.val _⟩
  · cases hy
def intBin (op:BinOp) (k:IntKind) (a b:Int):Option Value :=
  match op with
  | .add=>some (.int k (k.wrap (a+b)))
  | .sub=>some (.int k (k.wrap (a - b)))
  | .mul=>some (.int k (k.wrap (a * b)))
  | .quo=>if b=0 then none else some (.int k (k.wrap (a.tdiv b)))
  | .rem=>if b=0 then none else some (.int k (a.tmod b))
  | .eql=>some (.bool (decide (a=b)))
  | .neq=>some (.bool (!decide (a=b)))
  | .lss=>some (.bool (decide (a < b)))
  | .leq=>some (.bool (decide (a≤b)))
  | .gtr=>some (.bool (decide (b < a)))
  | .geq=>some (.bool (decide (b≤a)))
  | _=>none
def strBin (op:BinOp) (a b:ByteArray):Option Value :=
  match op with
  | .add=>if ((a.size+b.size:Nat):Int) > IntKind.i64.max then none else some (.string (a ++ b))
  | .eql=>some (.bool (decide (a=b)))
  | .neq=>some (.bool (!decide (a=b)))
  | .lss=>some (.bool (Op.bytesLess a.toList b.toList))
  | .leq=>some (.bool (Op.bytesLess a.toList b.toList || decide (a=b)))
  | .gtr=>some (.bool (!(Op.bytesLess a.toList b.toList || decide (a=b))))
  | .geq=>some (.bool (!Op.bytesLess a.toList b.toList))
  | _=>none
theorem bytes_eq (a b:ByteArray):(a.toList == b.toList)=decide (a=b):=by
  rw [ByteArray.toList_eq,ByteArray.toList_eq]
  obtain ⟨⟨x⟩⟩:=a
  obtain ⟨⟨y⟩⟩:=b
  by_cases h:x=y
  · subst h;simp
  · have h2:¬ (⟨⟨x⟩⟩:ByteArray)=⟨⟨y⟩⟩:=by intro h3;injection h3 with h4;injection h4 with h5;exact h h5
    simp [h,h2]
inductive LK where
  | i | s | b
  deriving DecidableEq
def eqLeaf:LK→AV→AV→Option Bool
  | .i,.val (.int k a),.val (.int k' b)=>if k=k' then some (decide (a=b)) else none
  | .s,.val (.string a),.val (.string b)=>some (decide (a=b))
  | .b,.val (.bool a),.val (.bool b)=>some (decide (a=b))
  | _,_,_=>none
def eqLeaves:List LK→List AV→List AV→Option Bool
  | [],[],[]=>some true
  | k :: ks,x :: xs,y :: ys=>match eqLeaf k x y,eqLeaves ks xs ys with
    | some a,some b=>some (a && b)
    | _,_=>none
  | _,_,_=>none
inductive EqKind where
  | prim | bool | ptr | map | func | slice | ifc | agg (ks:List LK)
def aEq (e:EqKind) (x y:AV):Option Bool :=
  match e with
  | .bool=>match x,y with
    | .val (.bool a),.val (.bool b)=>some (decide (a=b))
    | _,_=>none
  | .agg ks=>match x,y with
    | .agg cs,.agg ds=>eqLeaves ks cs ds
    | _,_=>none
  | .ptr=>match x,y with
    | .val (.pointer none),.val (.pointer none)=>some true
    | .val (.pointer none),.ptr _ _ _=>some false
    | .val (.pointer none),.ref _=>some false
    | .ptr _ _ _,.val (.pointer none)=>some false
    | .ref _,.val (.pointer none)=>some false
    | _,_=>none
  | .map=>match x,y with
    | .val (.map none),.val (.map none)=>some true
    | .mp _,.val (.map none)=>some false
    | _,_=>none
  | .func=>match x,y with
    | .val .nilFunc,.val .nilFunc=>some true
    | .fn _ _,.val .nilFunc=>some false
    | _,_=>none
  | .slice=>match x,y with
    | .val (.slice none 0 0),.val (.slice none 0 0)=>some true
    | .own _ (_+1),.val (.slice none 0 0)=>some false
    | _,_=>none
  | .ifc=>match x,y with
    | .val .nilIface,.val .nilIface=>some true
    | .iface _ _,.val .nilIface=>some false
    | _,_=>none
  | .prim=>none
def aBinPrim (op:BinOp) (x y:AV):Option AV :=
  match x,y with
  | .val (.int k a),.val (.int k' b)=>if k=k' then (intBin op k a b).map .val else none
  | .val (.string a),.val (.string b)=>(strBin op a b).map .val
  | _,_=>none
def aBinEq (op:BinOp) (e:EqKind) (x y:AV):Option AV :=
  match op with
  | .eql=>(aEq e x y).map fun b=>.val (.bool b)
  | .neq=>(aEq e x y).map fun b=>.val (.bool (!b))
  | _=>none
def aBin (op:BinOp) (e:EqKind) (x y:AV):Option AV :=
  match e with
  | .prim=>aBinPrim op x y
  | e=>aBinEq op e x y
theorem run_intBin {P:Program} {op k a b v} (h:intBin op k a b=some v) (t:TypeId) (w:World):(binOp op t (.int k a) (.int k b)).run P w=.ok v w:=by
  unfold intBin at h
  split at h <;> first
    | (cases h;simp [binOp,Op.intArith,Op.intCmp];done)
    | (split at h;(cases h);(cases h;rename_i hb;simp [binOp,Op.intDiv,hb];done))
    | (cases h;simp [binOp,Op.intCmp];first | rfl | (rw [Bool.eq_iff_iff];simp);done)
    | cases h
theorem run_strBin {P:Program} {op a b v} (h:strBin op a b=some v) (t:TypeId) (w:World):(binOp op t (.string a) (.string b)).run P w=.ok v w:=by
  unfold strBin at h
  split at h <;> first
    | (cases h;simp [binOp,Op.stringOp,bytes_eq];done)
    | (split at h;(cases h);(cases h;rename_i hb;simp only [binOp,Op.stringOp];rw [if_neg hb];rfl;done))
    | cases h
def leavesF (P:Program) (rec:TypeId→Option (List LK)):List Field→Nat→Option (List LK)
  | [],_=>some []
  | f :: fs,o=>match rec f.type,tinfo P f.type with
    | some l,some (g,n)=>if (f.name != "_")=true∧f.offset=o∧l.length=n∧(g=false→n=1)∧0 < n then (leavesF P rec fs (o+n)).map (l ++ ·) else none
    | _,_=>none
def leaves (P:Program):Nat→TypeId→Option (List LK)
  | 0,_=>none
  | d+1,t=>match P.underlying t with
    | some (.int _)=>if tinfo P t=some (false,1) then some [.i] else none
    | some .string=>if tinfo P t=some (false,1) then some [.s] else none
    | some .bool=>if tinfo P t=some (false,1) then some [.b] else none
    | some (.struct fs)=>if P.stoodInHeld t=false then (leavesF P (leaves P d) fs.toList 0).bind fun l=>if tinfo P t=some (true,l.length) then some l else none else none
    | _=>none
theorem eqLeaves_append {ks ks':List LK} {xs ys:List AV} {b} (h:eqLeaves (ks ++ ks') xs ys=some b):∃ b1 b2,eqLeaves ks (xs.take ks.length) (ys.take ks.length)=some b1∧eqLeaves ks' (xs.drop ks.length) (ys.drop ks.length)=some b2∧b=(b1 && b2):=by
  induction ks generalizing xs ys b with
  | nil=>exact ⟨true,b,by simp [eqLeaves],by simpa using h,by simp⟩
  | cons k ks ih =>
    cases xs with
    | nil=>simp [eqLeaves] at h
    | cons x xs =>
      cases ys with
      | nil=>simp [eqLeaves] at h
      | cons y ys =>
        simp only [List.cons_append,eqLeaves] at h
        split at h
        · rename_i p q hp hq
          cases h
          obtain ⟨b1,b2,h1,h2,rfl⟩:=ih hq
          exact ⟨p && b1,b2,by simp [eqLeaves,hp,h1],by simpa using h2,by simp [Bool.and_assoc]⟩
        · cases h
theorem eqLeaves_len {ks xs ys b} (h:eqLeaves ks xs ys=some b):xs.length=ks.length∧ys.length=ks.length:=by
  induction ks generalizing xs ys b with
  | nil=>cases xs <;> cases ys <;> simp_all [eqLeaves]
  | cons k ks ih =>
    cases xs with
    | nil=>simp [eqLeaves] at h
    | cons x xs =>
      cases ys with
      | nil=>simp [eqLeaves] at h
      | cons y ys =>
        simp only [eqLeaves] at h
        split at h
        · rename_i p q hp hq;simp [ih hq]
        · cases h
def ofCells (g:Bool) (vs:List Value):Value:=if g=true then .agg vs.toArray else vs.getD 0 undef
theorem run_part_take {P:Program} {t g n} (ht:tinfo P t=some (g,n)) (vs:Array Value) (off:Nat) (h:off+n≤vs.size) (hg:g=false→n=1) (w:World) :
    (part t vs off).run P w=.ok (ofCells g ((vs.toList.drop off).take n)) w:=by
  obtain ⟨k1,k2⟩:=tinfo_spec ht w
  cases g with
  | true =>
    simp only [part,Sem.run_bind,k2,Result.andThen_ok,Sem.run_ite,if_true,k1,Sem.run_pure,ofCells]
    congr 2
    apply Array.ext'
    simp [Array.toList_extract]
  | false =>
    obtain rfl:=hg rfl
    have hlt:off < vs.size:=by omega
    simp [part,k2,hlt,ofCells]
def Vals (xs:List AV) (vs:List Value):Prop:=xs.length=vs.length∧∀ (i:Nat) a v,xs[i]?=some (.val a)→vs[i]?=some v→v=a
theorem Vals.take {xs vs} (h:Vals xs vs) (n:Nat):Vals (xs.take n) (vs.take n) :=
  ⟨by simp [h.1],fun i a v hx hv=>by
    rw [List.getElem?_take] at hx hv
    split at hx
    · rename_i hi;rw [if_pos hi] at hv;exact h.2 i a v hx hv
    · cases hx⟩
theorem Vals.drop {xs vs} (h:Vals xs vs) (n:Nat):Vals (xs.drop n) (vs.drop n) :=
  ⟨by simp [h.1],fun i a v hx hv=>by rw [List.getElem?_drop] at hx hv;exact h.2 _ a v hx hv⟩
def EqSpec (P:Program) (w:World) (d:Nat) (t:TypeId) (ks:List LK) (g:Bool):Prop :=
  ∀ (D:Nat),d≤D→∀ (xs ys:List AV) (vs us:List Value) (b:Bool),Vals xs vs→Vals ys us→eqLeaves ks xs ys=some b→(Op.equalIn D t (ofCells g vs) (ofCells g us)).run P w=.ok b w
theorem eqFields_leaves {P:Program} (w:World) (d:Nat) (rec:TypeId→Option (List LK)) (hrec:∀ t ks g n,rec t=some ks→tinfo P t=some (g,n)→ks.length=n→(g=false→n=1)→EqSpec P w d t ks g) :
    ∀ (fs:List Field) (o:Nat) (ks:List LK),leavesF P rec fs o=some ks→∀ (D:Nat),d≤D→∀ (xs ys:List AV) (vs us:Array Value) (b:Bool),Vals xs vs.toList→Vals ys us.toList →
      eqLeaves ks (xs.drop o) (ys.drop o)=some b→(Op.eqFields D vs us fs).run P w=.ok b w
  | [],o,ks,hk,D,hD,xs,ys,vs,us,b,hx,hy,he=>by
    simp only [leavesF,Option.some.injEq] at hk
    subst hk
    have:b=true:=by
      generalize xs.drop o=p at he
      generalize ys.drop o=q at he
      cases p <;> cases q <;> simp_all [eqLeaves]
    subst this
    simp [Op.eqFields]
  | f :: fs,o,ks,hk,D,hD,xs,ys,vs,us,b,hx,hy,he=>by
    simp only [leavesF] at hk
    split at hk
    · rename_i l g n hl ht
      split at hk
      · rename_i hc
        obtain ⟨h1,h2,h3,h4,h5⟩:=hc
        obtain ⟨ks',hks',rfl⟩:=Option.map_eq_some_iff.1 hk
        obtain ⟨b1,b2,e1,e2,rfl⟩:=eqLeaves_append he
        have hlx:=(eqLeaves_len e1).1
        have hly:=(eqLeaves_len e1).2
        have hxl:=hx.1
        have hyl:=hy.1
        simp only [Array.length_toList] at hxl hyl
        have fx:o+n≤vs.size:=by
          simp only [List.length_take,List.length_drop] at hlx
          omega
        have fy:o+n≤us.size:=by
          simp only [List.length_take,List.length_drop] at hly
          omega
        rw [h3] at e1 e2
        have r1:=run_part_take ht vs o fx h4 w
        have r2:=run_part_take ht us o fy h4 w
        have r3:=hrec f.type l g n hl ht h3 h4 D hD _ _ _ _ _ ((hx.drop o).take n) ((hy.drop o).take n) e1
        have hne:f.name ≠ "_":=by simpa using h1
        subst h2
        have ih:=eqFields_leaves w d rec hrec fs (f.offset+n) ks' hks' D hD xs ys vs us b2 hx hy (by simpa [List.drop_drop] using e2)
        simp only [Op.eqFields,if_pos hne,Sem.run_bind,r1,r2,r3,Result.andThen_ok]
        cases b1 with
        | false=>simp
        | true=>simpa using ih
      · cases hk
    · cases hk
def lkOk (P:Program) (t:TypeId):LK→Prop
  | .i=>∃ q,P.underlying t=some (.int q)
  | .s=>P.underlying t=some .string
  | .b=>P.underlying t=some .bool
theorem eqLeaf_run {P:Program} {w:World} {D:Nat} {t:TypeId} {k:LK} {x y b} (h:eqLeaf k x y=some b) (hu:lkOk P t k) :
    ∃ u v,x=.val u∧y=.val v∧(Op.equalIn (D+1) t u v).run P w=.ok b w:=by
  unfold eqLeaf at h
  split at h
  · rename_i q a q' a'
    split at h
    · rename_i e
      subst e
      cases h
      obtain ⟨k',hu⟩:=hu
      refine ⟨_,_,rfl,rfl,?_⟩
      rw [run_equalIn_int w D t q k' a a' hu]
      congr 1
    · cases h
  · cases h
    refine ⟨_,_,rfl,rfl,?_⟩
    rw [run_equalIn_string w D t _ _ hu,bytes_eq]
  · cases h
    refine ⟨_,_,rfl,rfl,?_⟩
    rw [run_equalIn_bool' w D t _ _ hu]
    congr 1
  · cases h
theorem leaves_spec {P:Program} (w:World):∀ (d:Nat) (t:TypeId) (ks:List LK) (g:Bool) (n:Nat),leaves P d t=some ks→tinfo P t=some (g,n)→EqSpec P w d t ks g
  | 0,_,_,_,_,h,_=>by simp [leaves] at h
  | d+1,t,ks,g,n,h,ht=>by
    have one:∀ k:LK,lkOk P t k→ks=[k]→g=false→EqSpec P w (d+1) t ks g:=by
      rintro k hu rfl rfl D hD xs ys vs us b hx hy he
      obtain ⟨D,rfl⟩:∃ q,D=q+1:=⟨D - 1,by omega⟩
      have hl:=eqLeaves_len he
      have l1:=hx.1
      have l2:=hy.1
      match xs,ys,vs,us,hl,l1,l2 with
      | [x],[y],[v],[u],_,_,_ =>
        simp only [eqLeaves] at he
        split at he
        · rename_i p q hp hq
          cases he;cases hq
          obtain ⟨a,c,rfl,rfl,hr⟩:=eqLeaf_run (w:=w) (D:=D) hp hu
          have e1:=hx.2 0 a v rfl rfl
          have e2:=hy.2 0 c u rfl rfl
          subst e1;subst e2
          simpa [ofCells] using hr
        · cases he
    unfold leaves at h
    split at h
    · rename_i q hq
      split at h
      · rename_i h1;cases h;rw [h1] at ht;cases ht;exact one .i ⟨q,hq⟩ rfl rfl
      · cases h
    · rename_i hq
      split at h
      · rename_i h1;cases h;rw [h1] at ht;cases ht;exact one .s hq rfl rfl
      · cases h
    · rename_i hq
      split at h
      · rename_i h1;cases h;rw [h1] at ht;cases ht;exact one .b hq rfl rfl
      · cases h
    · rename_i fs hfs
      split at h
      · rename_i hst
        obtain ⟨l,hl,h2⟩:=Option.bind_eq_some_iff.1 h
        split at h2
        · rename_i h1
          cases h2
          rw [h1] at ht;cases ht
          intro D hD xs ys vs us b hx hy he
          obtain ⟨D,rfl⟩:∃ q,D=q+1:=⟨D - 1,by omega⟩
          have hf:P.fieldsOf t=fs:=by simp [Program.fieldsOf,hfs]
          have hr:=run_equalIn_struct (P:=P) w D t vs.toArray us.toArray (by rw [hf];exact hfs) hst
          rw [hf] at hr
          show (Op.equalIn (D+1) t (.agg vs.toArray) (.agg us.toArray)).run P w=_
          rw [hr]
          exact eqFields_leaves w d (leaves P d) (fun t ks g n a b _ _=>leaves_spec w d t ks g n a b) fs.toList 0 ks hl D (by omega) xs ys vs.toArray us.toArray b (by simpa using hx) (by simpa using hy) (by simpa using he)
        · cases h2
      · cases h
    · cases h
def eqKind (P:Program) (t:TypeId):Option EqKind :=
  match P.underlying t with
  | some (.int _)=>some .prim
  | some .string=>some .prim
  | some .bool=>some .bool
  | some (.pointer _)=>some .ptr
  | some (.map _ _)=>some .map
  | some (.func _ _ _)=>some .func
  | some (.slice _)=>some .slice
  | some (.interface ms)=>if ms.isEmpty=true then some .ifc else none
  | some (.struct _)=>if P.eqGuardType P.depth t=false then (leaves P 20 t).map .agg else none
  | _=>none
theorem agg_vals {c:Ctx} {cs:List AV} {vs:Array Value} (hl:cs.length=vs.size) (hr:∀ (i:Nat) (x:AV) (v:Value),cs[i]?=some x→vs[i]?=some v→VRel c x v):Vals cs vs.toList :=
  ⟨by simpa using hl,fun i a v hx hv=>(hr i _ _ hx (by simpa using hv)).val_inv⟩
inductive NilEq:TypeDesc→Value→Value→Bool→Prop
  | pp {e}:NilEq (.pointer e) (.pointer none) (.pointer none) true
  | pa {e a}:NilEq (.pointer e) (.pointer none) (.pointer (some a)) false
  | ap {e a}:NilEq (.pointer e) (.pointer (some a)) (.pointer none) false
  | mm {k e}:NilEq (.map k e) (.map none) (.map none) true
  | am {k e a}:NilEq (.map k e) (.map (some a)) (.map none) false
  | ff {a b c}:NilEq (.func a b c) .nilFunc .nilFunc true
  | af {a b c f x y}:NilEq (.func a b c) (.func f x y) .nilFunc false
  | ss {e}:NilEq (.slice e) (.slice none 0 0) (.slice none 0 0) true
  | as {e a n c}:NilEq (.slice e) (.slice (some a) n c) (.slice none 0 0) false
  | ii {ms}:NilEq (.interface ms) .nilIface .nilIface true
  | ai {ms t x}:NilEq (.interface ms) (.iface t x) .nilIface false
theorem run_nilEq {P:Program} {t d v u b} (hu:P.underlying t=some d) (h:NilEq d v u b) (w:World):(Op.equal t v u).run P w=.ok b w:=by
  show (Op.equalIn (9999+1) t v u).run P w=_
  generalize 9999=D
  cases h <;> simp [Op.equalIn,run_underlying hu]
theorem sEq {c:Ctx} {P t e} (he:eqKind P t=some e) {x y v u} (hx:VRel c x v) (hy:VRel c y u) {b} (h:aEq e x y=some b) (w:World):(Op.equal t v u).run P w=.ok b w∧∀ op ox oy,(eqGuard op t ox oy v u).run P w=.ok () w:=by
  have grd:(∀ cs,v ≠ .agg cs)→v ≠ .nilIface→∀ op ox oy,(eqGuard op t ox oy v u).run P w=.ok () w:=by
    intro h1 h2 op ox oy
    cases op <;> cases v <;> simp_all [eqGuard]
  unfold eqKind at he
  split at he
  · cases he;simp [aEq] at h
  · cases he;simp [aEq] at h
  · rename_i hu
    cases he
    simp only [aEq] at h
    split at h
    · cases h
      obtain rfl:=hx.val_inv
      obtain rfl:=hy.val_inv
      refine ⟨?_,grd (by simp) (by simp)⟩
      show (Op.equalIn (9999+1) t _ _).run P w=_
      rw [run_equalIn_bool' w 9999 t _ _ hu]
      congr 1
    · cases h
  · rename_i el hu
    cases he
    simp only [aEq] at h
    split at h
    · cases h;obtain rfl:=hx.val_inv;obtain rfl:=hy.val_inv
      exact ⟨run_nilEq hu (by constructor) w,grd (by simp) (by simp)⟩
    · cases h;obtain rfl:=hx.val_inv
      cases hy with
      | ptr hp=>exact ⟨run_nilEq hu (by constructor) w,grd (by simp) (by simp)⟩
    · cases h;obtain rfl:=hx.val_inv
      cases hy with
      | ref f hi hc hr=>exact ⟨run_nilEq hu (by constructor) w,grd (by simp) (by simp)⟩
    · cases h;obtain rfl:=hy.val_inv
      cases hx with
      | ptr hp=>exact ⟨run_nilEq hu (by constructor) w,grd (by simp) (by simp)⟩
    · cases h;obtain rfl:=hy.val_inv
      cases hx with
      | ref f hi hc hr=>exact ⟨run_nilEq hu (by constructor) w,grd (by simp) (by simp)⟩
    · cases h
  · rename_i k el hu
    cases he
    simp only [aEq] at h
    split at h
    · cases h;obtain rfl:=hx.val_inv;obtain rfl:=hy.val_inv
      exact ⟨run_nilEq hu (by constructor) w,grd (by simp) (by simp)⟩
    · cases h;obtain rfl:=hy.val_inv
      cases hx with
      | mp hp=>exact ⟨run_nilEq hu (by constructor) w,grd (by simp) (by simp)⟩
    · cases h
  · rename_i hu
    cases he
    simp only [aEq] at h
    split at h
    · cases h;obtain rfl:=hx.val_inv;obtain rfl:=hy.val_inv
      exact ⟨run_nilEq hu (by constructor) w,grd (by simp) (by simp)⟩
    · cases h;obtain rfl:=hy.val_inv
      cases hx with
      | fn hl hr=>exact ⟨run_nilEq hu (by constructor) w,grd (by simp) (by simp)⟩
    · cases h
  · rename_i el hu
    cases he
    simp only [aEq] at h
    split at h
    · cases h;obtain rfl:=hx.val_inv;obtain rfl:=hy.val_inv
      exact ⟨run_nilEq hu (by constructor) w,grd (by simp) (by simp)⟩
    · cases h;obtain rfl:=hy.val_inv
      rcases hx.own_inv with ⟨b,sz,cap,rfl,_⟩ | ⟨h0,_⟩
      · exact ⟨run_nilEq hu (by constructor) w,grd (by simp) (by simp)⟩
      · cases h0
    · cases h
  · rename_i ms hu
    split at he
    · rename_i hms
      cases he
      simp only [aEq] at h
      split at h
      · cases h;obtain rfl:=hx.val_inv;obtain rfl:=hy.val_inv
        refine ⟨run_nilEq hu (by constructor) w,fun op ox oy=>?_⟩
        have hg:(Op.eqGuardIn Op.maxDepth t .nilIface .nilIface).run P w=.ok false w:=by
          show (Op.eqGuardIn (9999+1) t .nilIface .nilIface).run P w=_
          generalize 9999=D
          simp [Op.eqGuardIn,run_underlying hu,hms]
        cases op <;> simp only [eqGuard] <;> (try simp) <;> (try (split <;> simp [hg]))
      · cases h;obtain rfl:=hy.val_inv
        cases hx with
        | iface hp=>exact ⟨run_nilEq hu (by constructor) w,grd (by simp) (by simp)⟩
      · cases h
    · cases he
  · rename_i fs hu
    split at he
    · rename_i hg
      obtain ⟨ks,hks,rfl⟩:=Option.map_eq_some_iff.1 he
      simp only [aEq] at h
      split at h
      · cases hx with
        | agg hl h1 hr =>
          cases hy with
          | agg hl' h1' hr' =>
            rename_i vs us
            have ht:∃ n,tinfo P t=some (true,n):=by
              rw [leaves] at hks
              simp only [hu] at hks
              split at hks
              · obtain ⟨l,_,h2⟩:=Option.bind_eq_some_iff.1 hks
                split at h2
                · exact ⟨_,by assumption⟩
                · cases h2
              · cases hks
            obtain ⟨n,ht⟩:=ht
            have:=leaves_spec (P:=P) w 20 t ks true n hks ht 10000 (by omega) _ _ vs.toList us.toList b (agg_vals hl hr) (agg_vals hl' hr') h
            refine ⟨this,fun op ox oy=>run_eqGuard_agg w op t ox oy vs us hg⟩
      · cases h
    · cases he
  · cases he
theorem binOp_eql {t:TypeId} {v u:Value} (hv:∀ k n,v ≠ .int k n) (hs:∀ s,v ≠ .string s) (hf:∀ k n,v ≠ .float k n) (hc:∀ k a b,v ≠ .complex k a b) :
    binOp .eql t v u=(do pure (.bool (← Op.equal t v u)))∧binOp .neq t v u=(do pure (.bool (!(← Op.equal t v u)))):=by
  cases v <;> first
    | exact absurd rfl (hv _ _)
    | exact absurd rfl (hs _)
    | exact absurd rfl (hf _ _)
    | exact absurd rfl (hc _ _ _)
    | (cases u <;> exact ⟨rfl,rfl⟩)
theorem aEq_shape {c:Ctx} {e x y b v} (h:aEq e x y=some b) (hx:VRel c x v):(∀ k n,v ≠ .int k n)∧(∀ s,v ≠ .string s)∧(∀ k n,v ≠ .float k n)∧(∀ k a b,v ≠ .complex k a b):=by
  unfold aEq at h
  split at h <;> (try split at h) <;> first
    | (cases h;done)
    | (cases hx;simp;done)
theorem sBinEq {c:Ctx} {P t e} (he:eqKind P t=some e) {op x y v u} (hx:VRel c x v) (hy:VRel c y u) {r} (h:aBinEq op e x y=some r) (ox oy:Operand) (w:World) :
    ∃ z,(do eqGuard op t ox oy v u;binOp op t v u:Sem Value).run P w=.ok z w∧VRel c r z:=by
  unfold aBinEq at h
  split at h
  all_goals first
    | (cases h;done)
    | (obtain ⟨b,hb,rfl⟩:=Option.map_eq_some_iff.1 h
       obtain ⟨k1,k2⟩:=sEq he hx hy hb w
       obtain ⟨s1,s2,s3,s4⟩:=aEq_shape hb hx
       obtain ⟨b1,b2⟩:=binOp_eql (t:=t) (u:=u) s1 s2 s3 s4
       refine ⟨_,?_,.val _⟩
       simp only [Sem.run_bind,k2,Result.andThen_ok,b1,b2,k1,Sem.run_pure])
theorem sBinPrim {c:Ctx} {P:Program} {t:TypeId} {op x y v u} (hx:VRel c x v) (hy:VRel c y u) {r} (h:aBinPrim op x y=some r) (ox oy:Operand) (w:World) :
    ∃ z,(do eqGuard op t ox oy v u;binOp op t v u:Sem Value).run P w=.ok z w∧VRel c r z:=by
  unfold aBinPrim at h
  split at h
  · rename_i k a k' b
    split at h
    · rename_i e;subst e
      obtain ⟨z,hz,rfl⟩:=Option.map_eq_some_iff.1 h
      obtain rfl:=hx.val_inv
      obtain rfl:=hy.val_inv
      refine ⟨z,?_,.val _⟩
      have hg:(eqGuard op t ox oy (.int k a) (.int k b)).run P w=.ok () w:=by cases op <;> simp [eqGuard]
      simp only [Sem.run_bind,hg,Result.andThen_ok]
      exact run_intBin hz t w
    · cases h
  · rename_i a b
    obtain ⟨z,hz,rfl⟩:=Option.map_eq_some_iff.1 h
    obtain rfl:=hx.val_inv
    obtain rfl:=hy.val_inv
    refine ⟨z,?_,.val _⟩
    have hg:(eqGuard op t ox oy (.string a) (.string b)).run P w=.ok () w:=by cases op <;> simp [eqGuard]
    simp only [Sem.run_bind,hg,Result.andThen_ok]
    exact run_strBin hz t w
  · cases h
theorem sBin {c:Ctx} {P t e} (he:eqKind P t=some e) {op x y v u} (hx:VRel c x v) (hy:VRel c y u) {r} (h:aBin op e x y=some r) (ox oy:Operand) (w:World) :
    ∃ z,(do eqGuard op t ox oy v u;binOp op t v u:Sem Value).run P w=.ok z w∧VRel c r z:=by
  cases e <;> first
    | exact sBinPrim hx hy h ox oy w
    | exact sBinEq he hx hy h ox oy w
inductive ConvKind where
  | int (k:IntKind)
  | str
  | bytes
def convKind (P:Program) (src dst:TypeId):Option ConvKind :=
  match P.underlying src,P.underlying dst with
  | some (.int _),some (.int k)=>some (.int k)
  | some .string,some .string=>some .str
  | some .string,some (.slice e)=>match P.underlying e with
    | some (.int .u8)=>some .bytes
    | _=>none
  | _,_=>none
def bytesV (s:ByteArray):List (List AV):=s.data.toList.map fun b=>[.val (.int .u8 b.toNat)]
def aConv (k:ConvKind) (x:AV):Option AV :=
  match k,x with
  | .int k,.val (.int _ n)=>some (.val (.int k (k.wrap n)))
  | .str,.val (.string s)=>some (.val (.string s))
  | .bytes,.val (.string s)=>some (.sl false 1 (bytesV s))
  | _,_=>none
theorem sConv {c:Ctx} {P src dst k} (hk:convKind P src dst=some k) (hnb:k ≠ .bytes) {x v} (hx:VRel c x v) {y} (h:aConv k x=some y) (w:World):∃ u,(convert src dst v).run P w=.ok u w∧VRel c y u:=by
  unfold convKind at hk
  split at hk
  · rename_i ks kd h1 h2
    cases hk
    unfold aConv at h
    split at h
    · rename_i e;cases e;cases h;obtain rfl:=hx.val_inv
      exact ⟨_,by simp [convert,run_underlying h1,run_underlying h2,Conv.intToInt],.val _⟩
    · rename_i e;cases e
    · rename_i e;cases e
    · cases h
  · rename_i h1 h2
    cases hk
    unfold aConv at h
    split at h
    · rename_i e;cases e
    · cases h;obtain rfl:=hx.val_inv
      exact ⟨_,by simp [convert,run_underlying h1,run_underlying h2],.val _⟩
    · rename_i e;cases e
    · cases h
  · split at hk
    · cases hk;exact absurd rfl hnb
    · cases hk
  · cases hk
def aMax (x y:AV):Option AV :=
  match x,y with
  | .val (.int k a),.val (.int _ b)=>some (.val (.int k (if a < b then b else a)))
  | _,_=>none
def aMin (x y:AV):Option AV :=
  match x,y with
  | .val (.int k a),.val (.int _ b)=>some (.val (.int k (if b < a then b else a)))
  | _,_=>none
theorem sMax {c:Ctx} {P:Program} {ts ty x y v u} (hx:VRel c x v) (hy:VRel c y u) {r} (h:aMax x y=some r) (w:World):∃ z,(Builtin.max_ ts ty #[v,u]).run P w=.ok z w∧VRel c r z:=by
  unfold aMax at h
  split at h
  · cases h;obtain rfl:=hx.val_inv;obtain rfl:=hy.val_inv
    exact ⟨_,by simp [Builtin.max_,Builtin.max2],.val _⟩
  · cases h
theorem sMin {c:Ctx} {P:Program} {ts ty x y v u} (hx:VRel c x v) (hy:VRel c y u) {r} (h:aMin x y=some r) (w:World):∃ z,(Builtin.min_ ts ty #[v,u]).run P w=.ok z w∧VRel c r z:=by
  unfold aMin at h
  split at h
  · cases h;obtain rfl:=hx.val_inv;obtain rfl:=hy.val_inv
    exact ⟨_,by simp [Builtin.min_,Builtin.min2],.val _⟩
  · cases h
end Go.Abs
namespace Go.Abs
open Go Go.MapKept
def mget:List (MK × AV)→MK→Option AV
  | [],_=>none
  | (k,x) :: r,q=>if k=q then some x else mget r q
def mset:List (MK × AV)→MK→AV→List (MK × AV)
  | [],q,y=>[(q,y)]
  | (k,x) :: r,q,y=>if k=q then (q,y) :: r else (k,x) :: mset r q y
def mdel:List (MK × AV)→MK→List (MK × AV)
  | [],_=>[]
  | (k,x) :: r,q=>if k=q then r else (k,x) :: mdel r q
def asKey:AV→Option MK
  | .val (.int k n)=>some (.i k n)
  | .val (.string s)=>some (.s s)
  | _=>none
theorem asKey_spec {c:Ctx} {x v k} (h:VRel c x v) (hk:asKey x=some k):v=k.val:=by
  unfold asKey at hk
  split at hk <;> first | (cases hk;exact h.val_inv) | cases hk
theorem MK.val_inj {a b:MK} (h:a.val=b.val):a=b:=by
  cases a <;> cases b <;> simp_all [MK.val]
def minfo (P:Program) (t:TypeId):Option (TypeId × TypeDesc × TypeId) :=
  match P.underlying t with
  | some (.map k e)=>match P.underlying k with
    | some (.int q)=>some (k,.int q,e)
    | some .string=>some (k,.string,e)
    | _=>none
  | _=>none
theorem minfo_spec {P t k d e} (h:minfo P t=some (k,d,e)):P.underlying t=some (.map k e)∧P.underlying k=some d∧((∃ q,d=.int q)∨d=.string):=by
  unfold minfo at h
  split at h
  · split at h <;> first | (cases h;exact ⟨by assumption,by assumption,by simp⟩) | cases h
  · cases h
def keyFits (d:TypeDesc):MK→Bool
  | .i k _=>match d with | .int q=>decide (k=q) | _=>false
  | .s _=>match d with | .string=>true | _=>false
theorem keyFits_isKey {d k} (h:keyFits d k=true):IsKey d k.val:=by
  cases k <;> cases d <;> simp_all [keyFits,IsKey,MK.val]
def mapFits (d:TypeDesc) (es:List (MK × AV)):Prop:=∀ (i:Nat) (k:MK) (x:AV),es[i]?=some (k,x)→keyFits d k=true
theorem find_mget {c:Ctx} {d:TypeDesc} {es:List (MK × AV)} {ents:Array MapEntry} (hl:ents.size=es.length) (hr:∀ (i:Nat) (k:MK) (x:AV) (e:MapEntry),es[i]?=some (k,x)→ents[i]?=some e→e.key=k.val∧VRel c x e.val)
    (q:MK) (hq:keyFits d q=true) (hf:mapFits d es) :
    (mget es q=none∧Instr.findNow d q.val ents.toList 0=some none∧∀ (i:Nat) (k:MK) (x:AV),es[i]?=some (k,x)→k ≠ q) ∨
    ∃ j x e,mget es q=some x∧Instr.findNow d q.val ents.toList 0=some (some (j,e.val))∧ents[j]?=some e∧e.key=q.val∧VRel c x e.val∧es[j]?=some (q,x)∧∀ (i:Nat) (k:MK) (y:AV),i < j→es[i]?=some (k,y)→k ≠ q:=by
  have key:∀ (l:List MapEntry) (es:List (MK × AV)) (o:Nat),l.length=es.length→(∀ (i:Nat) (k:MK) (x:AV) (e:MapEntry),es[i]?=some (k,x)→l[i]?=some e→e.key=k.val∧VRel c x e.val)→mapFits d es →
      (mget es q=none∧Instr.findNow d q.val l o=some none∧∀ (i:Nat) (k:MK) (x:AV),es[i]?=some (k,x)→k ≠ q) ∨
      ∃ j x e,mget es q=some x∧Instr.findNow d q.val l o=some (some (o+j,e.val))∧l[j]?=some e∧e.key=q.val∧VRel c x e.val∧es[j]?=some (q,x)∧∀ (i:Nat) (k:MK) (y:AV),i < j→es[i]?=some (k,y)→k ≠ q:=by
    intro l
    induction l with
    | nil =>
      intro es o hl hr hf
      have:es=[]:=List.eq_nil_of_length_eq_zero hl.symm
      subst this
      exact .inl ⟨rfl,rfl,by simp⟩
    | cons e l ih =>
      intro es o hl hr hf
      cases es with
      | nil=>simp at hl
      | cons p es =>
        obtain ⟨k,x⟩:=p
        obtain ⟨h1,h2⟩:=hr 0 k x e rfl rfl
        have hk:=hf 0 k x rfl
        obtain ⟨r,hr1,hr2⟩:=sameNow_of_keys (a:=q.val) (b:=e.key) (keyFits_isKey hq) (by rw [h1];exact keyFits_isKey hk)
        by_cases hkq:k=q
        · subst hkq
          have:r=true:=hr2.2 h1.symm
          subst this
          exact .inr ⟨0,x,e,by simp [mget],by simp [Instr.findNow,hr1],rfl,h1,h2,rfl,by intro i _ _ h;omega⟩
        · have:r=false:=by
            cases r with
            | false=>rfl
            | true=>exact absurd (MK.val_inj (by rw [← h1];exact (hr2.1 rfl).symm)) hkq
          subst this
          rcases ih es (o+1) (by simpa using hl) (fun i k x e a b=>hr (i+1) k x e (by simpa using a) (by simpa using b)) (fun i k x a=>hf (i+1) k x (by simpa using a)) with ⟨a,b,c'⟩ | ⟨j,y,e',a,b,c',d',f',g',h'⟩
          · refine .inl ⟨by simp [mget,hkq,a],by simp [Instr.findNow,hr1,b],fun i k' x' hi=>?_⟩
            cases i with
            | zero=>simp at hi;obtain ⟨rfl,rfl⟩:=hi;exact hkq
            | succ i=>exact c' i k' x' (by simpa using hi)
          · refine .inr ⟨j+1,y,e',by simp [mget,hkq,a],by simp [Instr.findNow,hr1,b];omega,by simpa using c',d',f',by simpa using g',fun i k' x' hij hi=>?_⟩
            cases i with
            | zero=>simp at hi;obtain ⟨rfl,rfl⟩:=hi;exact hkq
            | succ i=>exact h' i k' x' (by omega) (by simpa using hi)
  rcases key ents.toList es 0 (by simpa using hl) (fun i k x e a b=>hr i k x e a (by simpa using b)) hf with h | ⟨j,x,e,a,b,c',d',f',g',h'⟩
  · exact .inl h
  · exact .inr ⟨j,x,e,a,by simpa using b,by simpa using c',d',f',g',h'⟩
def keysFit (d:TypeDesc) (es:List (MK × AV)):Bool:=es.all fun p=>keyFits d p.1
theorem keysFit_spec {d es} (h:keysFit d es=true):mapFits d es:=by
  intro i k x hi
  have:=List.all_eq_true.1 h (k,x) (List.mem_of_getElem? hi)
  simpa using this
def zeroAV (P:Program) (t:TypeId):Option AV :=
  match P.info? t with
  | some i=>match i.zero with
    | some (.agg cs)=>if allOne cs=true then some (.agg (cs.toList.map .val)) else none
    | some z=>if z.oneCell'=true then some (.val z) else none
    | none=>none
  | none=>none
theorem zeroAV_spec {P t z} (h:zeroAV P t=some z) (w:World):∃ v,(zeroValue t).run P w=.ok v w∧∀ c,VRel c z v:=by
  unfold zeroAV at h
  split at h
  · rename_i i hi
    split at h
    · rename_i cs hz
      split at h
      · rename_i h1
        cases h
        refine ⟨.agg cs,by simp [zeroValue,typeInfo,hi,hz],fun c=>.agg (by simp) (allOne_spec h1) (fun j x v hx hv=>?_)⟩
        simp only [List.getElem?_map,Array.getElem?_toList,hv,Option.map_some,Option.some.injEq] at hx
        subst hx;exact .val _
      · cases h
    · rename_i z' hne hz
      split at h
      · cases h
        exact ⟨z',by simp [zeroValue,typeInfo,hi,hz],fun c=>.val _⟩
      · cases h
    · cases h
  · cases h
def aLookup (d:TypeDesc) (zero:AV) (ok:Bool) (x k:AV) (σ:AHeap):Option AV :=
  match asKey k with
  | some q=>if keyFits d q=true then
      match x with
      | .val (.map none)=>some (if ok=true then .tup [zero,.val (.bool false)] else zero)
      | .mp id=>match σ.get id with
        | some (.map es)=>if keysFit d es=true then
            match mget es q with
            | some y=>some (if ok=true then .tup [y,.val (.bool true)] else y)
            | none=>some (if ok=true then .tup [zero,.val (.bool false)] else zero)
          else none
        | _=>none
      | _=>none
    else none
  | none=>none
theorem tup2 {c:Ctx} {x y:AV} {u v:Value} (hx:VRel c x u) (hy:VRel c y v):VRel c (.tup [x,y]) (.tuple #[u,v]):=by
  refine .tup rfl fun i a b ha hb=>?_
  match i,ha,hb with
  | 0,ha,hb=>simp at ha hb;subst ha;subst hb;exact hx
  | 1,ha,hb=>simp at ha hb;subst ha;subst hb;exact hy
  | n+2,ha,_=>simp at ha
theorem sLookup {ρ σ w} (hs:Sim ρ σ w) {P t kt d e zero} (ht:minfo P t=some (kt,d,e)) (hz:zeroAV P e=some zero) {ok x k v kv} (hx:VRel (ctx ρ σ w) x v) (hk:VRel (ctx ρ σ w) k kv) {y} (h:aLookup d zero ok x k σ=some y) :
    ∃ u,(Instr.lookup t v kv ok).run P w=.ok u w∧VRel (ctx ρ σ w) y u:=by
  obtain ⟨hu,hku,_⟩:=minfo_spec ht
  obtain ⟨z,hzr,hzrel⟩:=zeroAV_spec hz w
  unfold aLookup at h
  split at h
  · rename_i q hq
    split at h
    · rename_i hf
      obtain rfl:=asKey_spec hk hq
      have hck:=fun em=>run_checkKey (P:=P) (w:=w) hku (keyFits_isKey hf) em 9999
      split at h
      · cases h
        obtain rfl:=hx.val_inv
        have hfk:=run_findKey (P:=P) (w:=w) (l:=[]) (a:=none) hku (k:=q.val) rfl
        refine ⟨_,by simp [Instr.lookup,run_underlying hu,hck,hfk,hzr];rfl,?_⟩
        cases ok with
        | true=>exact tup2 (hzrel _) (.val _)
        | false=>exact hzrel _
      · rename_i id
        split at h
        · rename_i es hg
          split at h
          · rename_i hkf
            cases hx with
            | mp hp =>
              obtain ⟨ents,clock,hb,hl,hr⟩:=hs.mapAt hg hp
              rcases find_mget hl hr q hf (keysFit_spec hkf) with ⟨h1,h2,_⟩ | ⟨j,y',e',h1,h2,_,_,h3,_,_⟩
              · rw [h1] at h
                cases h
                have hfk:=run_findKey (P:=P) (w:=w) hku h2
                refine ⟨_,by simp [Instr.lookup,run_underlying hu,Go.MapKept.run_getObj_map (P:=P) hb,hck,hfk,hzr];rfl,?_⟩
                cases ok with
                | true=>exact tup2 (hzrel _) (.val _)
                | false=>exact hzrel _
              · rw [h1] at h
                cases h
                have hfk:=run_findKey (P:=P) (w:=w) hku h2
                refine ⟨_,by simp [Instr.lookup,run_underlying hu,Go.MapKept.run_getObj_map (P:=P) hb,hck,hfk];rfl,?_⟩
                cases ok with
                | true=>exact tup2 h3 (.val _)
                | false=>exact h3
          · cases h
        · cases h
      · cases h
    · cases h
  · cases h
theorem sMakeMap {ρ σ w} (hs:Sim ρ σ w) {P:Program} {t:TypeId}:∃ u w' ρ',(Instr.makeMap t none).run P w=.ok u w'∧VRel (ctx ρ' (σ.new (.map [])) w') (.mp σ.next) u∧Sim ρ' (σ.new (.map [])) w'∧Ext ρ σ w ρ' (σ.new (.map [])) w':=by
  have ha:=hs.alloc (.map #[] 0) (.map []) 0 (fun d _ hb=>.map #[] 0 hb rfl (by simp))
  exact ⟨.map (some w.heap.size),w.alloc (.map #[] 0),_,by simp [Instr.makeMap],.mp (upρ_get _ _ _ _ _),ha.1,ha.2⟩
theorem mset_get {es:List (MK × AV)} {q:MK} {y:AV} {j:Nat} {x:AV} (h:es[j]?=some (q,x)) (hb:∀ (i:Nat) (k:MK) (z:AV),i < j→es[i]?=some (k,z)→k ≠ q):mset es q y=es.set j (q,y):=by
  induction es generalizing j with
  | nil=>simp at h
  | cons p es ih =>
    obtain ⟨k,z⟩:=p
    cases j with
    | zero=>simp at h;obtain ⟨rfl,rfl⟩:=h;simp [mset]
    | succ j =>
      have hk:=hb 0 k z (by omega) rfl
      simp only [mset,hk,if_false,List.set_cons_succ]
      rw [ih (by simpa using h) (fun i k z hi he=>hb (i+1) k z (by omega) (by simpa using he))]
theorem mset_new {es:List (MK × AV)} {q:MK} {y:AV} (h:∀ (i:Nat) (k:MK) (x:AV),es[i]?=some (k,x)→k ≠ q):mset es q y=es ++ [(q,y)]:=by
  induction es with
  | nil=>rfl
  | cons p es ih =>
    obtain ⟨k,z⟩:=p
    have hk:=h 0 k z rfl
    simp only [mset,hk,if_false,List.cons_append]
    rw [ih fun i k x hi=>h (i+1) k x (by simpa using hi)]
theorem mdel_get {es:List (MK × AV)} {q:MK} {j:Nat} {x:AV} (h:es[j]?=some (q,x)) (hb:∀ (i:Nat) (k:MK) (z:AV),i < j→es[i]?=some (k,z)→k ≠ q):mdel es q=es.eraseIdx j:=by
  induction es generalizing j with
  | nil=>simp at h
  | cons p es ih =>
    obtain ⟨k,z⟩:=p
    cases j with
    | zero=>simp at h;obtain ⟨rfl,rfl⟩:=h;simp [mdel]
    | succ j =>
      have hk:=hb 0 k z (by omega) rfl
      simp only [mdel,hk,if_false,List.eraseIdx_cons_succ]
      rw [ih (by simpa using h) (fun i k z hi he=>hb (i+1) k z (by omega) (by simpa using he))]
theorem mdel_none {es:List (MK × AV)} {q:MK} (h:∀ (i:Nat) (k:MK) (x:AV),es[i]?=some (k,x)→k ≠ q):mdel es q=es:=by
  induction es with
  | nil=>rfl
  | cons p es ih =>
    obtain ⟨k,z⟩:=p
    have hk:=h 0 k z rfl
    simp only [mdel,hk,if_false]
    rw [ih fun i k x hi=>h (i+1) k x (by simpa using hi)]
def aMapUpdate (d:TypeDesc) (x k y:AV) (σ:AHeap):Option AHeap :=
  match asKey k with
  | some q=>if keyFits d q=true then
      match x with
      | .mp id=>match σ.get id with
        | some (.map es)=>if keysFit d es=true then some (σ.set id (.map (mset es q y))) else none
        | _=>none
      | _=>none
    else none
  | none=>none
def aMapDelete (d:TypeDesc) (x k:AV) (σ:AHeap):Option AHeap :=
  match asKey k with
  | some q=>if keyFits d q=true then
      match x with
      | .mp id=>match σ.get id with
        | some (.map es)=>if keysFit d es=true then some (σ.set id (.map (mdel es q))) else none
        | _=>none
      | _=>none
    else none
  | none=>none
theorem Sim.writeMap {ρ σ w} (hs:Sim ρ σ w) {id es b sz ents clock} (hg:σ.get id=some (.map es)) (hp:ρ id=some (some b,sz)) (hb:w.heap[b]?=some (.map ents clock)) (ents':Array MapEntry) (clock':Nat) (es':List (MK × AV))
    (hl:ents'.size=es'.length) (hr:∀ (i:Nat) (k:MK) (x:AV) (e:MapEntry),es'[i]?=some (k,x)→ents'[i]?=some e→e.key=k.val∧VRel (ctx ρ σ w) x e.val) :
    Sim ρ (σ.set id (.map es')) { w with heap:=w.heap.setIfInBounds b (.map ents' clock') }∧Ext ρ σ w ρ (σ.set id (.map es')) { w with heap:=w.heap.setIfInBounds b (.map ents' clock') }:=by
  have hset:=heap_set (o':=.map ents' clock') hb
  refine hs.write hg hp _ (.map es') (fun k hk=>hset.2 k hk) (by simp) (fun cs t f h=>by rw [hb] at h;cases h) rfl rfl rfl (Nat.le_refl _) (fun d hle hd=>?_)
  exact .map ents' clock' (by rw [hd];exact hset.1) hl (fun i k x e a b=>⟨(hr i k x e a b).1,(hr i k x e a b).2.mono hle⟩)
theorem keyThatStays_same {P:Program} {w:World} {d:TypeDesc} {q:MK} (_h:keyFits d q=true):(Instr.keyThatStays q.val q.val).run P w=.ok q.val w:=by
  have:Instr.sameBits 10000 q.val q.val=true:=by
    cases q with
    | i k n=>simp [MK.val,Instr.sameBits]
    | s b=>simp only [MK.val,Instr.sameBits];rw [beq_toListBytes];simp
  simp [Instr.keyThatStays,this]
theorem sMapUpdate {ρ σ w} (hs:Sim ρ σ w) {P t kt d e} (ht:minfo P t=some (kt,d,e)) {x k y v kv u} (hx:VRel (ctx ρ σ w) x v) (hk:VRel (ctx ρ σ w) k kv) (hy:VRel (ctx ρ σ w) y u) {σ'} (h:aMapUpdate d x k y σ=some σ') :
    ∃ w',(Instr.mapUpdate t v kv u).run P w=.ok () w'∧Sim ρ σ' w'∧Ext ρ σ w ρ σ' w':=by
  obtain ⟨hu,hku,_⟩:=minfo_spec ht
  unfold aMapUpdate at h
  split at h
  · rename_i q hq
    split at h
    · rename_i hf
      obtain rfl:=asKey_spec hk hq
      have hck:=fun em=>run_checkKey (P:=P) (w:=w) hku (keyFits_isKey hf) em 9999
      split at h
      · rename_i id
        split at h
        · rename_i es hg
          split at h
          · rename_i hkf
            cases h
            cases hx with
            | mp hp =>
              obtain ⟨ents,clock,hb,hl,hr⟩:=hs.mapAt hg hp
              rcases find_mget hl hr q hf (keysFit_spec hkf) with ⟨_,h2,h3⟩ | ⟨j,y',e',_,h2,h3,h4,_,h5,h6⟩
              · have hfk:=run_findKey (P:=P) (w:=w) hku h2
                have hw:=hs.writeMap hg hp hb (ents.push { key:=q.val,val:=u,born:=clock }) (clock+1) (mset es q y) (by rw [mset_new h3];simp [hl]) (fun i k x e a b=>by
                  rw [mset_new h3] at a
                  rw [List.getElem?_append] at a
                  rw [Array.getElem?_push] at b
                  split at a
                  · rw [if_neg (by omega)] at b;exact hr i k x e a b
                  · rename_i hi
                    have:i - es.length=0:=by
                      rcases Nat.eq_zero_or_pos (i - es.length) with h0 | h0
                      · exact h0
                      · rw [List.getElem?_eq_none (by simp;omega)] at a;cases a
                    rw [this] at a
                    simp at a
                    obtain ⟨rfl,rfl⟩:=a
                    rw [if_pos (by omega)] at b
                    cases b
                    exact ⟨rfl,hy⟩)
                exact ⟨_,by simp [Instr.mapUpdate,run_underlying hu,Go.MapKept.run_getObj_map (P:=P) hb,hck,hfk,Go.MapKept.run_setObj_map (P:=P) _ hb],hw.1,hw.2⟩
              · have hfk:=run_findKey (P:=P) (w:=w) hku h2
                have hj:j < es.length:=(List.getElem?_eq_some_iff.1 h5).1
                have hw:=hs.writeMap hg hp hb (ents.modify j fun e=>{ e with key:=q.val,val:=u }) clock (mset es q y) (by rw [mset_get h5 h6];simp [hl]) (fun i k x e a b=>by
                  rw [mset_get h5 h6,List.getElem?_set] at a
                  rw [Array.getElem?_modify] at b
                  by_cases hij:j=i
                  · subst hij
                    rw [if_pos rfl] at a
                    simp only [hj,if_true] at a
                    cases a
                    rw [if_pos rfl,h3] at b
                    cases b
                    exact ⟨rfl,hy⟩
                  · rw [if_neg hij] at a b
                    exact hr i k x e a b)
                exact ⟨_,by simp [Instr.mapUpdate,run_underlying hu,Go.MapKept.run_getObj_map (P:=P) hb,hck,hfk,h3,h4,keyThatStays_same hf,Go.MapKept.run_setObj_map (P:=P) _ hb],hw.1,hw.2⟩
          · cases h
        · cases h
      · cases h
    · cases h
  · cases h
theorem sMapDelete {ρ σ w} (hs:Sim ρ σ w) {P t t2 ty kt d e} (ht:minfo P t=some (kt,d,e)) {x k v kv} (hx:VRel (ctx ρ σ w) x v) (hk:VRel (ctx ρ σ w) k kv) {σ'} (h:aMapDelete d x k σ=some σ') :
    ∃ w',(Builtin.delete_ #[t,t2] ty #[v,kv]).run P w=.ok (.tuple #[]) w'∧Sim ρ σ' w'∧Ext ρ σ w ρ σ' w':=by
  obtain ⟨hu,hku,_⟩:=minfo_spec ht
  unfold aMapDelete at h
  split at h
  · rename_i q hq
    split at h
    · rename_i hf
      obtain rfl:=asKey_spec hk hq
      have hck:=fun em=>run_checkKey (P:=P) (w:=w) hku (keyFits_isKey hf) em 9999
      split at h
      · rename_i id
        split at h
        · rename_i es hg
          split at h
          · rename_i hkf
            cases h
            cases hx with
            | mp hp =>
              obtain ⟨ents,clock,hb,hl,hr⟩:=hs.mapAt hg hp
              rcases find_mget hl hr q hf (keysFit_spec hkf) with ⟨_,h2,h3⟩ | ⟨j,y',e',_,h2,h3,h4,_,h5,h6⟩
              · have hfk:=run_findKey (P:=P) (w:=w) hku h2
                have hw:=hs.writeMap hg hp hb ents clock (mdel es q) (by rw [mdel_none h3];exact hl) (fun i k x e a b=>by rw [mdel_none h3] at a;exact hr i k x e a b)
                exact ⟨_,by simp [Builtin.delete_,run_underlying hu,Go.MapKept.run_getObj_map (P:=P) hb,hck,hfk,Go.MapKept.run_setObj_map (P:=P) _ hb],hw.1,hw.2⟩
              · have hfk:=run_findKey (P:=P) (w:=w) hku h2
                have hj:j < es.length:=(List.getElem?_eq_some_iff.1 h5).1
                have hw:=hs.writeMap hg hp hb (ents.eraseIdxIfInBounds j) clock (mdel es q) (by rw [mdel_get h5 h6,Array.eraseIdxIfInBounds,dif_pos (by omega)];simp [List.length_eraseIdx,hl,hj]) (fun i k x e a b=>by
                  rw [mdel_get h5 h6,List.getElem?_eraseIdx] at a
                  rw [Array.eraseIdxIfInBounds,dif_pos (by omega),Array.getElem?_eraseIdx] at b
                  split at a
                  · rename_i hij;rw [if_pos hij] at b;exact hr i k x e a b
                  · rename_i hij;rw [if_neg hij] at b;exact hr (i+1) k x e a b)
                exact ⟨_,by simp [Builtin.delete_,run_underlying hu,Go.MapKept.run_getObj_map (P:=P) hb,hck,hfk,Go.MapKept.run_setObj_map (P:=P) _ hb],hw.1,hw.2⟩
          · cases h
        · cases h
      · cases h
    · cases h
  · cases h
end Go.Abs
namespace Go.Abs
open Go
def aClear (sz:Nat) (zs:List AV) (x:AV) (σ:AHeap):Option AHeap :=
  match x with
  | .win id off s len=>if len=0 then some σ else match σ.get id with
    | some (.cells sz' els)=>if sz'=sz∧s=sz∧zs.length=sz∧off+len≤els.length then some (σ.set id (.cells sz (els.take off ++ List.replicate len zs ++ els.drop (off+len)))) else none
    | _=>none
  | _=>none
theorem sClear {ρ σ w} (hs:Sim ρ σ w) {P t ty e sz bytes zs} (ht:sinfo P t=some (e,sz,bytes)) (hz:zeroOf P e=some zs) {x v} (hx:VRel (ctx ρ σ w) x v) {σ'} (h:aClear sz zs x σ=some σ') :
    ∃ w',(Builtin.clear_ #[t] ty #[v]).run P w=.ok (.tuple #[]) w'∧Sim ρ σ' w'∧Ext ρ σ w ρ σ' w':=by
  obtain ⟨hu,i,z0,hi,hzz,rfl,rfl⟩:=sinfo_spec ht
  unfold aClear at h
  split at h
  · rename_i id off s len
    split at h
    · rename_i h0
      subst h0
      cases h
      rcases hx.win_inv with ⟨b,s',cap,rfl,hp,_⟩ | ⟨_,a,cap,rfl⟩
      · exact ⟨w,by simp [Builtin.clear_,run_underlying hu],hs,Ext.refl _ _ _⟩
      · cases a <;> exact ⟨w,by simp [Builtin.clear_,run_underlying hu],hs,Ext.refl _ _ _⟩
    · rename_i h0
      split at h
      · rename_i sz' els hg
        split at h
        · rename_i hc
          obtain ⟨rfl,rfl,hzl,hfit⟩:=hc
          cases h
          rcases hx.win_inv with ⟨b,s',cap,rfl,hp,_⟩ | ⟨h1,_⟩
          · obtain ⟨p,hp',hor⟩:=hs.obj id _ hg
            have hp2:ρ id=some (some b,s'):=hp
            rw [hp2] at hp';cases hp'
            obtain ⟨rfl,cs,te,hb,hcsz,hel,hone,hr⟩:=hor.cells_inv
            have hb:w.heap[b]?=some (.cells cs te (0,0)):=hb
            obtain ⟨z,hzr,z1,z2,z3⟩:=zeroOf_spec hz w
            have hlen:(Builtin.zeroCells z.cells len).size=len * i.size:=by simp [Builtin.zeroCells,z1,hzl]
            have hgetz:∀ j,j < len * i.size→(Builtin.zeroCells z.cells len)[j]?=z.cells[j % i.size]?:=by
              intro j hj
              have hpos : 0 < i.size := by rcases Nat.eq_zero_or_pos i.size with e | e; · rw [e] at hj; simp at hj
                                           · exact e
              have hm:j % z.cells.size < z.cells.size:=Nat.mod_lt _ (by omega)
              simp only [Builtin.zeroCells,Array.getElem?_map]
              rw [Array.getElem?_eq_getElem (by simp [z1,hzl];exact hj)]
              simp only [Array.getElem_range,Option.map_some]
              rw [getElem!_pos z.cells _ hm,← Array.getElem?_eq_getElem hm,z1,hzl]
            have hm:off * i.size+len * i.size≤els.length * i.size:=by rw [← Nat.add_mul];exact Nat.mul_le_mul_right _ hfit
            have h1:∀ u ∈ (Builtin.zeroCells z.cells len).toList,u.oneCell'=true:=by
              intro u hu'
              obtain ⟨j,hj,rfl⟩:=List.getElem_of_mem hu'
              have hj':j < len * i.size:=by rw [← hlen];simpa using hj
              have:=hgetz j hj'
              rw [Array.getElem?_eq_getElem (by omega)] at this
              exact z2 _ _ (by rw [← this];simp)
            have hst:=run_storeCells_at P b (off * i.size) te (Builtin.zeroCells z.cells len).toList 0 cs w hb (by simp [hlen];omega) h1
            simp only [Nat.add_zero] at hst
            have hsp:off * i.size+(Builtin.zeroCells z.cells len).size≤cs.size:=by omega
            refine ⟨w.setRow b (splice cs (off * i.size) (Builtin.zeroCells z.cells len)),?_,?_⟩
            · cases len with
              | zero=>exact absurd rfl h0
              | succ len =>
                simp only [Builtin.clear_,List.getElem?_toArray,List.getElem?_cons_zero,Sem.run_bind,run_underlying hu,Result.andThen_ok,hzr,hst,Sem.run_pure,splice]
                simp
            · have r2:=setRow_heap w b cs (splice cs (off * i.size) (Builtin.zeroCells z.cells len)) te (0,0) hb
              refine hs.write hg hp _ _ (fun k hk=>setRow_other w b k _ hk) (by simp [World.setRow]) (fun cs' t' f' h'=>?_) rfl rfl rfl (Nat.le_refl _) (fun d hle hd=>?_)
              · rw [hb] at h';cases h'
                exact ⟨_,_,r2,splice_size hsp⟩
              · refine .cells (splice cs (off * i.size) (Builtin.zeroCells z.cells len)) te (by rw [hd];exact r2) ?_ ?_ ?_ ?_
                · rw [splice_size hsp]
                  have:(els.take off ++ List.replicate len zs ++ els.drop (off+len)).length=els.length:=by simp;omega
                  rw [this];exact hcsz
                · intro k el hk
                  rcases List.mem_append.1 (List.mem_of_getElem? hk) with hk | hk
                  · rcases List.mem_append.1 hk with hk | hk
                    · obtain ⟨q,hq⟩:=List.getElem?_of_mem (List.mem_of_mem_take hk)
                      exact hel q el hq
                    · rw [List.mem_replicate] at hk;rw [hk.2];exact hzl
                  · obtain ⟨q,hq⟩:=List.getElem?_of_mem (List.mem_of_mem_drop hk)
                    exact hel q el hq
                · intro j u hu'
                  rw [splice_get hsp] at hu'
                  split at hu'
                  · exact h1 u (by obtain ⟨q1,q2⟩:=Array.getElem?_eq_some_iff.1 hu';rw [← q2];simp)
                  · exact hone _ _ hu'
                · intro k el j y hk hy u hu'
                  rw [splice_get hsp,hlen] at hu'
                  have hke:el.length=i.size:=by
                    rcases List.mem_append.1 (List.mem_of_getElem? hk) with hk | hk
                    · rcases List.mem_append.1 hk with hk | hk
                      · obtain ⟨q,hq⟩:=List.getElem?_of_mem (List.mem_of_mem_take hk)
                        exact hel q el hq
                      · rw [List.mem_replicate] at hk;rw [hk.2];exact hzl
                    · obtain ⟨q,hq⟩:=List.getElem?_of_mem (List.mem_of_mem_drop hk)
                      exact hel q el hq
                  have hj:j < i.size:=by rw [← hke];exact (List.getElem?_eq_some_iff.1 hy).1
                  have hto:(els.take off).length=off:=by simp;omega
                  by_cases c1:k < off
                  · have hrow:=mul_lt_row (sz:=i.size) c1
                    rw [if_neg (by omega)] at hu'
                    rw [List.append_assoc,List.getElem?_append_left (by omega),List.getElem?_take,if_pos c1] at hk
                    exact (hr k el j y hk hy u hu').mono hle
                  · by_cases c2:k < off+len
                    · have e1:off * i.size≤k * i.size:=Nat.mul_le_mul_right _ (by omega)
                      have hrow:=mul_lt_row (sz:=i.size) c2
                      rw [Nat.add_mul] at hrow
                      rw [if_pos ⟨by omega,by omega⟩,hgetz _ (by omega)] at hu'
                      rw [List.getElem?_append_left (by simp;omega),List.getElem?_append_right (by omega)] at hk
                      obtain ⟨_,rfl⟩:=replicate_some hk
                      have e2:(k * i.size+j - off * i.size) % i.size=j:=by
                        rw [show k * i.size+j - off * i.size=(k - off) * i.size+j by rw [Nat.sub_mul];omega,Nat.mul_comm,Nat.mul_add_mod,Nat.mod_eq_of_lt hj]
                      rw [e2] at hu'
                      exact z3 d j y u hy hu'
                    · have e1:(off+len) * i.size≤k * i.size:=Nat.mul_le_mul_right _ (by omega)
                      rw [Nat.add_mul] at e1
                      rw [if_neg (by omega)] at hu'
                      have hlen2:(els.take off ++ List.replicate len zs).length=off+len:=by simp;omega
                      rw [List.getElem?_append_right (by omega),List.getElem?_drop,hlen2,show off+len+(k - (off+len))=k by omega] at hk
                      exact (hr k el j y hk hy u hu').mono hle
          · exact absurd h1 h0
        · cases h
      · cases h
  · cases h
def aAppendZ (sz bytes:Nat) (zs:List AV) (s x:AV) (σ:AHeap):Option (AV × AHeap) :=
  match s,x with
  | .val (.slice none 0 0),.val (.int _ n)=>if 0 < n∧n.toNat * bytes≤140737488355328∧n≤140737488355328∧zs.length=sz∧0 < sz then some (.own σ.next n.toNat,σ.new (.cells sz (List.replicate n.toNat zs))) else none
  | _,_=>none
theorem zeroCells_get {z:Array Value} {len sz j:Nat} (hz:z.size=sz) (hj:j < len * sz):(Builtin.zeroCells z len)[j]?=z[j % sz]?:=by
  have hpos:0 < sz:=by
    rcases Nat.eq_zero_or_pos sz with e | e
    · rw [e] at hj;simp at hj
    · exact e
  have hm:j % z.size < z.size:=Nat.mod_lt _ (by omega)
  simp only [Builtin.zeroCells,Array.getElem?_map]
  rw [Array.getElem?_eq_getElem (by simp [hz];exact hj)]
  simp only [Array.getElem_range,Option.map_some]
  rw [getElem!_pos z _ hm,← Array.getElem?_eq_getElem hm,hz]
theorem sAppendZ {ρ σ w} (hs:Sim ρ σ w) {P t ty e sz bytes zs} (ht:sinfo P t=some (e,sz,bytes)) (hz:zeroOf P e=some zs) {tn kn} (htn:P.underlying tn=some (.int kn)) {s x a v} (hx:VRel (ctx ρ σ w) s a) (hy:VRel (ctx ρ σ w) x v) {r σ'}
    (h:aAppendZ sz bytes zs s x σ=some (r,σ')) :
    ∃ u w' ρ',(Builtin.append_ #[t,tn] ty #[a,v]).run P w=.ok u w'∧VRel (ctx ρ' σ' w') r u∧Sim ρ' σ' w'∧Ext ρ σ w ρ' σ' w':=by
  obtain ⟨hu,i,z0,hi,hzz,rfl,rfl⟩:=sinfo_spec ht
  unfold aAppendZ at h
  split at h
  · rename_i kq n
    split at h
    · rename_i hc
      obtain ⟨h0,hb,hn,hzl,hsz⟩:=hc
      cases h
      obtain rfl:=hx.val_inv
      obtain rfl:=hy.val_inv
      obtain ⟨m,rfl⟩:∃ m:Nat,n=m:=⟨n.toNat,by omega⟩
      simp only [Int.toNat_natCast] at *
      obtain ⟨z,hzr,z1,z2,z3⟩:=zeroOf_spec hz w
      have hz':z0=z:=by simp [zeroValue,typeInfo,hi,hzz] at hzr;exact hzr
      subst hz'
      have hrun:=Go.Lib.run_append_grow_zeros (P:=P) w t tn ty e i z0 kq kn hu htn hi hzz none 0 0 [] (by simp [Builtin.firstCells]) m (by omega) hsz (by omega) (by omega) (by omega) (by simpa using growslice_fits (show 0 < 0+m by omega) (by simpa using hb))
      simp only [Nat.zero_add] at hrun
      have hge:=grownCap_ge w m 0 e
      have hzs:z0.cells.size=i.size:=by omega
      generalize grownCap w m 0 e=g at hrun hge
      have he:(([]:List Value).toArray ++ Builtin.zeroCells z0.cells m ++ Builtin.zeroCells z0.cells (g - m)).size=g * i.size:=by
        have:m * i.size+(g - m) * i.size=g * i.size:=by rw [← Nat.add_mul];congr 1;omega
        simp [Builtin.zeroCells,hzs,this]
      obtain ⟨hd1,hd2⟩:=hs.drawn w.drew.drawn (Nat.le_succ _)
      have hgetz:∀ j,j < m * i.size→(([]:List Value).toArray ++ Builtin.zeroCells z0.cells m ++ Builtin.zeroCells z0.cells (g - m))[j]?=z0.cells[j % i.size]?:=by
        intro j hj
        rw [Array.getElem?_append_left (by simp [Builtin.zeroCells,hzs];exact hj)]
        simp only [Array.empty_append]
        exact zeroCells_get hzs hj
      have hor:∀ d:Ctx,d.h[w.drew.heap.size]?=some (.cells (([]:List Value).toArray ++ Builtin.zeroCells z0.cells m ++ Builtin.zeroCells z0.cells (g - m)) e (0,0))→ORel d (.cells i.size (List.replicate m zs)) (some w.drew.heap.size,i.size):=by
        intro d hd
        refine .cells _ e hd ?_ ?_ ?_ ?_
        · rw [he,List.length_replicate];exact Nat.mul_le_mul_right _ hge
        · intro k el hk;obtain ⟨_,rfl⟩:=replicate_some hk;exact hzl
        · intro j v hv
          have hm:v ∈ (([]:List Value).toArray ++ Builtin.zeroCells z0.cells m ++ Builtin.zeroCells z0.cells (g - m)):=Array.mem_of_getElem? hv
          simp only [Array.mem_append] at hm
          rcases hm with (hm | hm) | hm
          · simp at hm
          · exact zeroCells_one z2 m v (by simpa using hm)
          · exact zeroCells_one z2 (g - m) v (by simpa using hm)
        · intro k el j x hk hx v hv
          obtain ⟨hk1,rfl⟩:=replicate_some hk
          have hj:j < i.size:=by rw [← hzl];exact (List.getElem?_eq_some_iff.1 hx).1
          have hrow:=mul_lt_row (sz:=i.size) hk1
          rw [hgetz _ (by omega),Nat.mul_comm,Nat.mul_add_mod,Nat.mod_eq_of_lt hj] at hv
          exact z3 d j x v hx hv
      have ha:=hd1.alloc (.cells (([]:List Value).toArray ++ Builtin.zeroCells z0.cells m ++ Builtin.zeroCells z0.cells (g - m)) e) (.cells i.size (List.replicate m zs)) i.size (fun d hle hd=>hor d hd)
      refine ⟨_,_,_,hrun,?_,ha.1,hd2.trans ha.2⟩
      exact .own (upρ_get _ _ _ _ _) hge ⟨_,e,(0,0),heap_alloc_new _ _,by rw [he];exact Nat.le_refl _⟩
    · cases h
  · cases h
end Go.Abs
