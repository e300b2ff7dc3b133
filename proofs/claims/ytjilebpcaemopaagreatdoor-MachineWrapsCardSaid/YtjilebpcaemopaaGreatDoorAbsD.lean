import Derived.Test.YtjilebpcaemopaaGreatDoorAbsC
import Derived.IntWalk
namespace Go.Abs
open Go
def ax:AV→Option AV
 | .ptr id i o=>some (.ptr id i o)
 | .ref cs=>some (.ref cs)
 | .fn (.func f) cap=>some (.fn (.func f) cap)
 | .iface t v=>some (.iface t v)
 | _=>none
def F0 (P:Program) (s:TypeId) (f:Nat):Option Nat:=
 match P.underlying s with
 | some (.struct fs)=>match fs[f]? with
  | some fd=>match P.info? fd.type with
   | some i=>if i.size=0 then none else some fd.offset
   | none=>none
  | none=>none
 | _=>none
def ag (off:Nat):AV→Option AV
 | .ptr id i o=>some (.ptr id i (o+off))
 | .ref cs=>some (.ref (cs.drop off))
 | _=>none
theorem uP {c:Ctx} {P s f off} (hf:F0 P s f=some off) {x v} (hv:aL c x v) {y} (hy:ag off x=some y) (w:World):∃u,(Instr.fieldAt s v f).run P w= .ok u w∧aL c y u:=by
 unfold F0 at hf
 split at hf
 ·rename_i fs hs
  split at hf
  ·rename_i fd hfd
   split at hf
   ·rename_i i hi
    split at hf
    ·cases hf
    ·rename_i hne
     cases hf
     have hsz:(sizeOf fd.type).run P w= .ok i.size w:=by simp[sizeOf,typeInfo,hi]
     have hrun:∀b o,(Instr.fieldAt s (.pointer (some ⟨b,o,none⟩)) f).run P w= .ok (.pointer (some ⟨b,o+fd.offset,none⟩)) w:=by
      intro b o
      simp[Instr.fieldAt,run_underlying hs,hfd,Instr.sureAddr,fieldPlace,hsz,hne,add_lit]
     unfold ag at hy
     split at hy
     ·cases hy
      cases hv with
      | ptr hp=>
       refine⟨_,hrun _ _,?_⟩
       rw[Nat.add_assoc]
       exact .ptr hp
     ·cases hy
      cases hv with
      | ref g hi' hc hr=>
       refine⟨_,hrun _ _,?_⟩
       refine .ref (fun j=>g (fd.offset+j)) hi' (fun j hj=> ?_) (fun j x hx=> ?_)
       ·rw[Nat.add_assoc];exact hc _ (by simp at hj;omega)
       ·rw[List.getElem?_drop]at hx;exact hr _ _ hx
     ·cases hy
   ·cases hf
  ·cases hf
 ·cases hf
def yI (P:Program) (s:TypeId) (f:Nat):Option (Nat×Bool×Nat):=
 match P.underlying s with
 | some (.struct fs)=>match fs[f]? with
  | some fd=>(dA P fd.type).map fun p=>(fd.offset,p.1,p.2)
  | none=>none
 | _=>none
def ef (off:Nat) (g:Bool) (n:Nat):AV→Option AV
 | .agg cs=>b8 g n (cs.drop off)
 | _=>none
theorem sPart {c:Ctx} {P t g n} (ht:dA P t=some (g,n)) {cs:List AV} {vs:Array Value} (hl:cs.length=vs.size) (h1:∀(i:Nat) (v:Value),vs[i]?=some v→v.oneCell'=true)
 (hr:∀(i:Nat) (x:AV) (v:Value),cs[i]?=some x→vs[i]?=some v→aL c x v) {off:Nat} {y} (hy:b8 g n (cs.drop off)=some y) (w:World):∃u,(part t vs off).run P w= .ok u w∧aL c y u:=by
 obtain⟨k1,k2⟩:=iT ht w
 cases g with
 | false=>
  simp only[b8,Bool.false_eq_true,if_false,List.head?_drop]at hy
  have hlt:off<vs.size:=by rw[←hl];exact(List.getElem?_eq_some_iff.1 hy).1
  exact⟨vs[off],by simp[part,k2,hlt],hr off y _ hy (Array.getElem?_eq_getElem hlt)⟩
 | true=>
  simp only[b8,if_true]at hy
  split at hy
  ·rename_i hn
   cases hy
   simp at hn
   refine⟨.agg (vs.extract off (off+n)),by simp[part,k1,k2],.agg (by simp;omega) (fun i v hv=> ?_) (fun i x v hx hv=> ?_)⟩
   ·rw[Array.getElem?_extract]at hv
    split at hv
    ·exact h1 _ _ hv
    ·cases hv
   ·rw[Array.getElem?_extract]at hv
    rw[List.getElem?_take]at hx
    split at hv
    ·split at hx
     ·rw[List.getElem?_drop]at hx;exact hr _ _ _ hx hv
     ·cases hx
    ·cases hv
  ·cases hy
theorem GH {c:Ctx} {P s f off g n} (hf:yI P s f=some (off,g,n)) {x v} (hv:aL c x v) {y} (hy:ef off g n x=some y) (w:World):∃u,(Instr.field s v f).run P w= .ok u w∧aL c y u:=by
 unfold yI at hf
 split at hf
 ·rename_i fs hs
  split at hf
  ·rename_i fd hfd
   obtain⟨⟨g',n'⟩,ht,he⟩:=Option.map_eq_some_iff.1 hf
   cases he
   unfold ef at hy
   split at hy
   ·cases hv with
    | agg hl h1 hr=>
     obtain⟨u,hu,hrel⟩:=sPart ht hl h1 hr hy w
     exact⟨u,by simp[Instr.field,run_underlying hs,hfd,asAgg,hu],hrel⟩
   ·cases hy
  ·cases hf
 ·cases hf
def bc (k:Nat):AV→Option AV
 | .tup vs=>vs[k]?
 | _=>none
theorem zV {c:Ctx} {P:Program} {k x v} (hv:aL c x v) {y} (hy:bc k x=some y) (w:World):∃u,(Instr.extract v k).run P w= .ok u w∧aL c y u:=by
 unfold bc at hy
 split at hy
 ·cases hv with
  | tup hl hr=>
   rename_i vs
   have hlt:k<vs.size:=by rw[←hl];exact(List.getElem?_eq_some_iff.1 hy).1
   exact⟨vs[k],by simp[Instr.extract,hlt],hr k y _ hy (Array.getElem?_eq_getElem hlt)⟩
 ·cases hy
def isSlice (P:Program) (t:TypeId):Option Nat:=
 match P.underlying t with
 | some (.slice e)=>(P.info? e).map (·.size)
 | _=>none
theorem lh {P t n} (h:isSlice P t=some n):∃e i,P.underlying t=some (.slice e)∧P.info? e=some i∧i.size=n:=by
 unfold isSlice at h
 split at h
 ·rename_i e he
  obtain⟨i,hi,rfl⟩:=Option.map_eq_some_iff.1 h
  exact⟨e,i,he,hi,rfl⟩
 ·cases h
def ak (n:Nat) (x i:AV) (σ:ah):Option AV:=
 match i with
 | .val (.int _ i)=>
  match x with
  | .sl _ sz xs=>if 0≤i∧sz=n then (xs[i.toNat]?).map .ref else none
  | .own id len=>if 0≤i∧i<len then (iG σ id i.toNat).bind fun el=>if el.length=n then some (.ptr id i.toNat 0) else none else none
  | .win id off sz len=>if 0≤i∧i<len∧sz=n then (iG σ id (off+i.toNat)).bind fun el=>if el.length=n then some (.ptr id (off+i.toNat) 0) else none else none
  | _=>none
 | _=>none
theorem uQ {ρ σ w} (hs:Sim ρ σ w) {P t n} (ht:isSlice P t=some n) {x i v vi} (hv:aL (ctx ρ σ w) x v) (hi:aL (ctx ρ σ w) i vi) {y} (hy:ak n x i σ=some y):
 ∃u,(Instr.indexAt t v vi).run P w= .ok u w∧aL (ctx ρ σ w) y u:=by
 obtain⟨e,inf,he,hinf,rfl⟩:=lh ht
 unfold ak at hy
 split at hy
 ·rename_i k i
  rw[hi.aQ]
  split at hy
  ·rename_i clip sz xs
   split at hy
   ·rename_i h0
    obtain⟨h0,rfl⟩:=h0
    obtain⟨el,hel,rfl⟩:=Option.map_eq_some_iff.1 hy
    cases hv with
    | sl f hl hn' hcap hclip hc hr=>
     obtain⟨h1,b,o,rfl,h3,h4⟩:=hc _ _ hel
     have hlt:i<xs.length:=by have:=(List.getElem?_eq_some_iff.1 hel).1;omega
     subst hl
     refine⟨.pointer (some ⟨b,o+i.toNat * inf.size,none⟩),?_,?_⟩
     ·simp[Instr.indexAt,asIntOf,run_underlying he,h0,hlt,sizeOf,typeInfo,hinf,add_lit]
     ·exact .ref (f i.toNat) h3 (fun j hj=>by have:=h4 j (by omega);rw[Nat.add_assoc]at this⊢;exact this) (fun j x hx=>hr _ _ j x hel hx)
   ·cases hy
  ·rename_i id len
   split at hy
   ·rename_i h0
    cases hel:iG σ id i.toNat with
    | none=>rw[hel]at hy;cases hy
    | some el=>
     rw[hel]at hy
     simp only[Option.bind_some]at hy
     split at hy
     ·rename_i hn
      cases hy
      rcases hv.fP with ⟨b,sz,cap,rfl,hp,_,_⟩ | ⟨rfl,_,_,_⟩
      ·have hl:=(hs.kW hel hp).1
       refine⟨.pointer (some ⟨b,0+i.toNat * inf.size,none⟩),?_,?_⟩
       ·simp[Instr.indexAt,asIntOf,run_underlying he,h0.1,h0.2,sizeOf,typeInfo,hinf,add_lit]
       ·have:=aL.ptr (c:=ctx ρ σ w) (i:=i.toNat) (o:=0) hp
        rw[Nat.zero_add,show inf.size=sz by omega]
        simpa using this
      ·omega
     ·cases hy
   ·cases hy
  ·rename_i id off sz0 len
   split at hy
   ·rename_i h0
    cases hel:iG σ id (off+i.toNat) with
    | none=>rw[hel]at hy;cases hy
    | some el=>
     rw[hel]at hy
     simp only[Option.bind_some]at hy
     split at hy
     ·rename_i hn
      cases hy
      rcases hv.nI with ⟨b,sz,cap,rfl,hp,_⟩ | ⟨rfl,_,_,_⟩
      ·have hl:=(hs.kW hel hp).1
       have h2:=h0.2.2
       refine⟨.pointer (some ⟨b,off * sz0+i.toNat * inf.size,none⟩),?_,?_⟩
       ·simp[Instr.indexAt,asIntOf,run_underlying he,h0.1,h0.2.1,sizeOf,typeInfo,hinf,add_lit]
       ·have:=aL.ptr (c:=ctx ρ σ w) (i:=off+i.toNat) (o:=0) hp
        rw[show inf.size=sz by omega,show sz0=sz by omega,←Nat.add_mul]
        simpa using this
      ·omega
     ·cases hy
   ·cases hy
  ·cases hy
 ·cases hy
def isStr (P:Program) (t:TypeId):Bool:=match P.underlying t with | some .string=>true | _=>false
theorem oE {P t} (h:isStr P t=true):P.underlying t=some .string:=by
 unfold isStr at h;split at h<;>simp_all
def bG (x i:AV):Option AV:=
 match x,i with
 | .val (.string s),.val (.int _ i)=>if 0≤i then (s[i.toNat]?).map fun b=>.val (.int .u8 b.toNat) else none
 | _,_=>none
theorem xz {c:Ctx} {P t} (ht:isStr P t=true) {x i v vi} (hv:aL c x v) (hi:aL c i vi) {y} (hy:bG x i=some y) (w:World):∃u,(Instr.index t v vi).run P w= .ok u w∧aL c y u:=by
 unfold bG at hy
 split at hy
 ·rw[hv.aQ,hi.aQ]
  split at hy
  ·rename_i h0
   obtain⟨b,hb,rfl⟩:=Option.map_eq_some_iff.1 hy
   exact⟨_,by simp[Instr.index,asIntOf,run_underlying (oE ht),h0,hb],.val _⟩
  ·cases hy
 ·cases hy
theorem ic (vs:List Value):∀(k o:Nat) (cs:Array Value),o+k+vs.length≤cs.size→
 (vs.zipIdx k).foldl (fun cs (c,j)=>cs.setIfInBounds (o+j) c) cs=cF cs (o+k) vs.toArray:=by
 induction vs with
 | nil=>
  intro k o cs h
  simp[cF]
 | cons v vs ih=>
  intro k o cs h
  simp only[List.length_cons]at h
  rw[List.zipIdx_cons,List.foldl_cons,ih (k+1) o _ (by simp;omega)]
  apply Array.ext_getElem?
  intro j
  rw[bZ (by simp;omega),bZ (by simp;omega)]
  simp only[List.size_toArray,List.length_cons,List.getElem?_toArray]
  by_cases h1:o+k≤j∧j<o+k+(vs.length+1)
  ·rw[if_pos h1]
   by_cases h2:j=o+k
   ·subst h2
    rw[if_neg (by omega),Array.getElem?_setIfInBounds_self_of_lt (by omega)]
    simp
   ·rw[if_pos (by omega)]
    rw[show j - (o+k)=(j - (o+(k+1)))+1 by omega,List.getElem?_cons_succ]
  ·rw[if_neg h1,if_neg (by omega),Array.getElem?_setIfInBounds_ne (by omega)]
def kO:List AV→List (Nat×Nat×AV)→Option (List AV)
 | cs,[]=>some cs
 | cs,(off,sz,x)::r=>match br x with
  | some vs=>if vs.length=sz∧off+sz≤cs.length then kO (cs.take off++vs++cs.drop (off+sz)) r else none
  | none=>none
structure tM (c:Ctx) (cs:List AV) (vs:Array Value):Prop where
 len:cs.length=vs.size
 one:∀(i:Nat) (v:Value),vs[i]?=some v→v.oneCell'=true
 rel:∀(i:Nat) (x:AV) (v:Value),cs[i]?=some x→vs[i]?=some v→aL c x v
theorem tM.cF {c:Ctx} {cs vs} (h:tM c cs vs) {ds us} (k:tM c ds us) {off:Nat} (hfit:off+ds.length≤cs.length):tM c (cs.take off++ds++cs.drop (off+ds.length)) (cF vs off us):=by
 have hsp:off+us.size≤vs.size:=by rw[←h.len,←k.len];exact hfit
 refine⟨by rw[dz hsp,←h.len];simp;omega,fun i v hv=> ?_,fun i x v hx hv=> ?_⟩
 ·rw[bZ hsp]at hv
  split at hv
  ·exact k.one _ _ hv
  ·exact h.one _ _ hv
 ·rw[bZ hsp]at hv
  by_cases h1:i<off
  ·rw[if_neg (by omega)]at hv
   rw[List.append_assoc,List.getElem?_append_left (by simp;omega),List.getElem?_take,if_pos h1]at hx
   exact h.rel _ _ _ hx hv
  ·by_cases h2:i<off+us.size
   ·rw[if_pos ⟨by omega,h2⟩]at hv
    rw[List.getElem?_append_left (by simp[k.len];omega),List.getElem?_append_right (by simp;omega)]at hx
    refine k.rel (i - off) _ _ ?_ hv
    rw[←hx];congr 1;simp;omega
   ·rw[if_neg (by omega)]at hv
    rw[List.getElem?_append_right (by simp[k.len];omega),List.getElem?_drop]at hx
    refine h.rel i _ _ ?_ hv
    rw[←hx];congr 1;simp[k.len];omega
theorem DY {c:Ctx} (place:Nat→Option (Nat×Nat)):∀(parts:List (Nat×Value)) (aparts:List (Nat×Nat×AV)) (cs:List AV) (vs:Array Value) (r:List AV),tM c cs vs→parts.length=aparts.length→
 (∀(k i:Nat) (v:Value) (off sz:Nat) (x:AV),parts[k]?=some (i,v)→aparts[k]?=some (off,sz,x)→place i=some (off,sz)∧aL c x v)→kO cs aparts=some r→
 ∃us,Instr.fill place vs parts=some us∧tM c r us
 | [],[],cs,vs,r,h,_,_,hf=>by simp only[kO,Option.some.injEq]at hf;subst hf;exact⟨vs,rfl,h⟩
 | [],_::_,_,_,_,_,hl,_,_=>by simp at hl
 | _::_,[],_,_,_,_,hl,_,_=>by simp at hl
 | (i,v)::parts,(off,sz,x)::aparts,cs,vs,r,h,hl,hp,hf=>by
  obtain⟨h1,h2⟩:=hp 0 i v off sz x rfl rfl
  simp only[kO]at hf
  cases hc:br x with
  | none=>rw[hc]at hf;cases hf
  | some ds=>
   rw[hc]at hf
   simp only at hf
   split at hf
   ·rename_i hfit
    obtain⟨k1,k2,k3⟩:=rD h2 hc
    have hcr:tM c ds v.cells:=⟨k1.symm,k2,k3⟩
    have hlen:=h.len
    have:=h.cF hcr (off:=off) (by omega)
    rw[hfit.1]at this
    obtain⟨us,e1,e2⟩:=DY place parts aparts _ _ r this (by simpa using hl) (fun k i v off sz x ha hb=>hp (k+1) i v off sz x ha hb) hf
    refine⟨us,?_,e2⟩
    have hsp:=ic v.cells.toList 0 off vs (by simp;omega)
    simp only[Nat.add_zero,Array.toArray_toList]at hsp
    rw[←e1,←hsp]
    simp only[Instr.fill,h1]
    rw[if_neg (by simp;omega)]
    congr 1
    rw[←Array.foldl_toList]
    simp
   ·cases hf
def placesOf (P:Program) (t:TypeId):Option (Array (Nat×Nat)):=
 match P.underlying t with
 | some (.struct fs)=>if fs.all fun f=>(P.info? f.type).isSome then some (fs.map fun f=>(f.offset,((P.info? f.type).map (·.size)).getD 0)) else none
 | _=>none
theorem ke {α β:Type} {P:Program} (w:World) (g:α→Sem β) (h:α→β):∀(l:List α),(∀x∈l,(g x).run P w= .ok (h x) w)→(l.mapM g).run P w= .ok (l.map h) w
 | [],_=>by simp
 | x::l,hl=>by
  have ih:=ke w g h l (fun y hy=>hl y (by simp[hy]))
  simp[List.mapM_cons,hl x (by simp),ih]
theorem zQ {α β:Type} {P:Program} (w:World) (g:α→Sem β) (h:α→β) (l:Array α) (hl:∀x∈l,(g x).run P w= .ok (h x) w):(l.mapM g).run P w= .ok (l.map h) w:=by
 rw[Array.mapM_eq_mapM_toList]
 have:=ke (P:=P) w g h l.toList (fun x hx=>hl x (by simpa using hx))
 simp only[Sem.run_map,this,Result.andThen_ok]
 congr 1
 apply Array.ext';simp
theorem run_places {P:Program} (w:World) (fs:Array Field) (h:(fs.all fun f=>(P.info? f.type).isSome)=true):
 (fs.mapM fun f=>do pure (f.offset,←sizeOf f.type):Sem _).run P w= .ok (fs.map fun f=>(f.offset,((P.info? f.type).map (·.size)).getD 0)) w:=by
 refine zQ w _ _ fs fun f hf=> ?_
 obtain⟨k,hk,rfl⟩:=Array.getElem_of_mem hf
 obtain⟨i,hi⟩:=Option.isSome_iff_exists.1 (Array.all_eq_true.1 h k hk)
 simp[sizeOf,typeInfo,hi]
def partsOf (pl:Array (Nat×Nat)) (fr:aA):List (Nat×Operand)→Option (List (Nat×Nat×AV))
 | []=>some []
 | (i,x)::r=>match pl[i]?,partsOf pl fr r with
  | some (o,s),some l=>some ((o,s,ev fr x)::l)
  | _,_=>none
def aN (zs:List AV) (parts:List (Nat×Nat×AV)):Option AV:=(kO zs parts).map .agg
theorem lG {c:Ctx} {pl fr} {a:Act} (hf:dZ c fr a.tmps):∀(parts:List (Nat×Operand)) l,partsOf pl fr parts=some l→(parts.map fun p=>(p.1,a.eval p.2)).length=l.length∧
 ∀(k i:Nat) (v:Value) (off sz:Nat) (x:AV),(parts.map fun p=>(p.1,a.eval p.2))[k]?=some (i,v)→l[k]?=some (off,sz,x)→pl[i]?=some (off,sz)∧aL c x v
 | [],l,h=>by simp only[partsOf,Option.some.injEq]at h;subst h;simp
 | (i,x)::r,l,h=>by
  simp only[partsOf]at h
  split at h
  ·rename_i o s l' h1 h2
   cases h
   obtain⟨k1,k2⟩:=lG hf r l' h2
   refine⟨by simpa using k1,fun k j v off sz y ha hb=> ?_⟩
   cases k with
   | zero=>simp at ha hb;obtain⟨rfl,rfl⟩:=ha;obtain⟨rfl,rfl,rfl⟩:=hb;exact⟨h1,hf.eval x⟩
   | succ k=>exact k2 k j v off sz y (by simpa using ha) (by simpa using hb)
  ·cases h
theorem GD {c:Ctx} {P t zs pl} (hz:zeroOf P t=some zs) (hpl:placesOf P t=some pl) {fr} {a:Act} (hf:dZ c fr a.tmps) {parts:Array (Nat×Operand)} {l} (hl:partsOf pl fr parts.toList=some l) {y} (hy:aN zs l=some y) (w:World):
 ∃u,(Instr.build t (parts.map fun(i,x)=>(i,a.eval x))).run P w= .ok u w∧aL c y u:=by
 obtain⟨z,hr,h1,h2,h3⟩:=dX hz w
 unfold placesOf at hpl
 split at hpl
 ·rename_i fs hs
  split at hpl
  ·rename_i hall
   cases hpl
   obtain⟨r,hfill,rfl⟩:=Option.map_eq_some_iff.1 hy
   obtain⟨k1,k2⟩:=lG hf parts.toList l hl
   obtain⟨us,e1,e2⟩:=DY _ _ l zs z.cells r ⟨h1.symm,h2,h3 c⟩ k1 k2 hfill
   refine⟨.agg us,?_,.agg e2.len e2.one e2.rel⟩
   simp only[Instr.build,Sem.run_bind,hr,Result.andThen_ok,run_underlying hs,run_places w fs hall,Array.toList_map]
   rw[e1];rfl
  ·cases hpl
 ·cases hpl
end Go.Abs
namespace Go.Abs
open Go
def de (sz:Nat):List (List AV)→List (Nat×AV)→Option (List (List AV))
 | els,[]=>some els
 | els,(i,x)::r=>match br x with
  | some vs=>if vs.length=sz∧i<els.length then de sz (els.set i vs) r else none
  | none=>none
structure nM (c:Ctx) (sz:Nat) (els:List (List AV)) (vs:Array Value):Prop where
 len:vs.size=els.length * sz
 el:∀(i:Nat) el,els[i]?=some el→el.length=sz
 one:∀(i:Nat) (v:Value),vs[i]?=some v→v.oneCell'=true
 rel:∀(i:Nat) el (j:Nat) x,els[i]?=some el→el[j]?=some x→∀v,vs[i * sz+j]?=some v→aL c x v
theorem nM.Gj {c:Ctx} {sz els vs b t} (h:nM c sz els vs) (hb:c.h[b]?=some (.cells vs t (0,0))):fw c (.cells sz els) (some b,sz):=
 .cells vs t hb (by rw[h.len];exact Nat.le_refl _) h.el h.one h.rel
theorem nM.mono {c d:Ctx} (hle:CLe c d) {sz els vs} (h:nM c sz els vs):nM d sz els vs:=
 ⟨h.len,h.el,h.one,fun i el j x a b v hv=>(h.rel i el j x a b v hv).mono hle⟩
theorem cm {α:Type} {n i:Nat} {a b:α} (h:(List.replicate n a)[i]?=some b):i<n∧b=a:=by
 rw[List.getElem?_replicate]at h
 split at h
 ·cases h;exact⟨by assumption,rfl⟩
 ·cases h
theorem da {i n sz:Nat} (h:i<n):i * sz+sz≤n * sz:=by
 have:=Nat.mul_le_mul_right sz (Nat.succ_le_of_lt h);rwa [Nat.succ_mul]at this
theorem tv {c:Ctx} (sz:Nat):∀(parts:List (Nat×Value)) (aparts:List (Nat×AV)) (els:List (List AV)) (vs:Array Value) (r:List (List AV)),nM c sz els vs→parts.length=aparts.length→
 (∀(k i:Nat) (v:Value) (j:Nat) (x:AV),parts[k]?=some (i,v)→aparts[k]?=some (j,x)→j=i∧aL c x v)→de sz els aparts=some r→
 ∃us,Instr.fill (fun i=>some (i * sz,sz)) vs parts=some us∧nM c sz r us∧r.length=els.length
 | [],[],els,vs,r,h,_,_,hf=>by simp only[de,Option.some.injEq]at hf;subst hf;exact⟨vs,rfl,h,rfl⟩
 | [],_::_,_,_,_,_,hl,_,_=>by simp at hl
 | _::_,[],_,_,_,_,hl,_,_=>by simp at hl
 | (i,v)::parts,(j,x)::aparts,els,vs,r,h,hl,hp,hf=>by
  obtain⟨rfl,h2⟩:=hp 0 i v j x rfl rfl
  simp only[de]at hf
  cases hc:br x with
  | none=>rw[hc]at hf;cases hf
  | some ds=>
   rw[hc]at hf
   simp only at hf
   split at hf
   ·rename_i hfit
    obtain⟨hd,hi⟩:=hfit
    obtain⟨k1,k2,k3⟩:=rD h2 hc
    have hrow:=da (sz:=sz) hi
    have hlen:=h.len
    have hsp:j * sz+v.cells.size≤vs.size:=by omega
    have hr:nM c sz (els.set j ds) (cF vs (j * sz) v.cells):=by
     refine⟨by rw[dz hsp,List.length_set,hlen],fun k el hk=> ?_,fun k u hu=> ?_,fun k el q y hk hy u hu=> ?_⟩
     ·rw[List.getElem?_set]at hk
      split at hk
      ·cases hk;exact hd
      ·exact h.el _ _ hk
     ·rw[bZ hsp]at hu
      split at hu
      ·exact k2 _ _ hu
      ·exact h.one _ _ hu
     ·rw[bZ hsp]at hu
      rw[List.getElem?_set]at hk
      split at hk
      ·rename_i e
       subst e
       ·cases hk
        have hq:=(List.getElem?_eq_some_iff.1 hy).1
        rw[if_pos ⟨by omega,by omega⟩]at hu
        refine k3 q y u hy ?_
        rw[←hu];congr 1;omega
      ·rename_i e
       have hq:q<sz:=by rw[←h.el _ _ hk];exact(List.getElem?_eq_some_iff.1 hy).1
       rw[if_neg]at hu
       ·exact h.rel _ _ _ _ hk hy _ hu
       ·intro hc'
        have h5:k * sz+q=j * sz+(k * sz+q - j * sz):=by omega
        exact e (qd hq (by omega) h5).1.symm
    obtain⟨us,e1,e2,e3⟩:=tv sz parts aparts _ _ r hr (by simpa using hl) (fun k i v j x ha hb=>hp (k+1) i v j x ha hb) hf
    refine⟨us,?_,e2,by rw[e3,List.length_set]⟩
    have hs2:=ic v.cells.toList 0 (j * sz) vs (by simp;omega)
    simp only[Nat.add_zero,Array.toArray_toList]at hs2
    rw[←e1,←hs2]
    simp only[Instr.fill]
    rw[if_neg (by simp;omega)]
    congr 1
    rw[←Array.foldl_toList]
    simp
   ·cases hf
def aK (len sz:Nat) (zs:List AV) (parts:List (Nat×AV)) (σ:ah):Option (AV×ah):=
 if zs.length=sz∧len * sz≤16777216 then (de sz (List.replicate len zs) parts).map fun els=>(.own σ.next len,σ.new (.cells sz els)) else none
theorem pv {ρ σ w} {P t e sz bytes zs} (ht:fI P t=some (e,sz,bytes)) (hz:zeroOf P e=some zs) {fr} {a:Act} (hf:dZ (ctx ρ σ w) fr a.tmps) {len:Nat} {parts:Array (Nat×Operand)}
 {els:List (List AV)} (hc:zs.length=sz∧len * sz≤16777216) (hfill:de sz (List.replicate len zs) (parts.toList.map fun(i,x)=>(i,ev fr x))=some els):
 ∃us,nM (ctx ρ σ w) sz els us∧els.length=len∧(Instr.buildSlice t len (parts.map fun(i,x)=>(i,a.eval x))).run P w= .ok (.slice (some ⟨w.heap.size,0,none⟩) len len) (w.alloc (.cells us e)):=by
 obtain⟨hu,i,z,hi,hzz,rfl,rfl⟩:=fg ht
 obtain⟨hzl,hbig⟩:=hc
 obtain⟨z',hzr,z1,z2,z3⟩:=dX hz w
 have hz':z'=z:=by simp[zeroValue,typeInfo,hi,hzz]at hzr;exact hzr.symm
 subst hz'
 -- the row of zeros
 have hr0:∀c,nM c i.size (List.replicate len zs) ((Array.range (len * i.size)).map (z'.cells[· % z'.cells.size]!)):=by
  intro c
  refine⟨by simp,fun k el hk=> ?_,fun k v hv=> ?_,fun k el j x hk hx v hv=> ?_⟩
  ·obtain⟨_,rfl⟩:=cm hk;exact hzl
  ·simp only[Array.getElem?_map]at hv
   obtain⟨q,hq,rfl⟩:=Option.map_eq_some_iff.1 hv
   have hlt:k<len * i.size:=by have:=(Array.getElem?_eq_some_iff.1 hq).1;simpa using this
   obtain⟨h0,_,_,_⟩:=ga hlt
   have hm:q % z'.cells.size<z'.cells.size:=Nat.mod_lt _ (by omega)
   rw[getElem!_pos z'.cells _ hm]
   exact z2 _ _ (Array.getElem?_eq_getElem hm)
  ·obtain⟨hk1,rfl⟩:=cm hk
   have hj:j<i.size:=by rw[←hzl];exact(List.getElem?_eq_some_iff.1 hx).1
   simp only[Array.getElem?_map]at hv
   obtain⟨q,hq,rfl⟩:=Option.map_eq_some_iff.1 hv
   obtain⟨hq1,hq2⟩:=Array.getElem?_eq_some_iff.1 hq
   simp at hq2
   subst hq2
   have e1:z'.cells.size=i.size:=by omega
   have e2:(k * i.size+j) % z'.cells.size=j:=by rw[e1,Nat.mul_comm,Nat.mul_add_mod,Nat.mod_eq_of_lt hj]
   rw[e2,getElem!_pos z'.cells j (by omega)]
   exact z3 c j x _ hx (Array.getElem?_eq_getElem (by omega))
 obtain⟨us,e1,e2,e3⟩:=tv (c:=ctx ρ σ w) i.size (parts.toList.map fun p=>(p.1,a.eval p.2)) (parts.toList.map fun p=>(p.1,ev fr p.2)) _ _ els (hr0 _) (by simp)
  (fun k i v j x hk hj=>by
    simp only[List.getElem?_map]at hk hj
    obtain⟨p,hp,hpe⟩:=Option.map_eq_some_iff.1 hk
    rw[hp]at hj
    simp at hpe hj
    obtain⟨rfl,rfl⟩:=hpe
    obtain⟨rfl,rfl⟩:=hj
    exact⟨rfl,hf.eval _⟩) hfill
 have hlen:els.length=len:=by rw[e3];simp
 refine⟨us,e2,hlen,?_⟩
 ·simp only[Instr.buildSlice,Sem.run_bind,run_underlying hu,Result.andThen_ok,sizeOf,typeInfo,run_program,hi,Sem.run_pure,if_neg (Nat.not_lt.2 hbig),Array.toList_map]
  by_cases h0:len * i.size=0
  ·rw[if_pos h0]
   simp only[Sem.run_bind,Sem.run_pure,Result.andThen_ok]
   have earr:(Array.range (len * i.size)).map (fun x=>(#[]:Array Value)[x % (#[]:Array Value).size]!)=(Array.range (len * i.size)).map (z'.cells[· % z'.cells.size]!):=by rw[h0];simp
   rw[earr,e1]
   simp[newRow]
  ·rw[if_neg h0]
   simp only[Sem.run_bind,hzr,Sem.run_pure,Result.andThen_ok]
   rw[e1]
   simp[newRow]
theorem tu {ρ σ w} (hs:Sim ρ σ w) {P t e sz bytes zs} (ht:fI P t=some (e,sz,bytes)) (hz:zeroOf P e=some zs) {fr} {a:Act} (hf:dZ (ctx ρ σ w) fr a.tmps) {len:Nat} {parts:Array (Nat×Operand)}
 {r σ'} (h:aK len sz zs (parts.toList.map fun(i,x)=>(i,ev fr x)) σ=some (r,σ')):
 ∃u w' ρ',(Instr.buildSlice t len (parts.map fun(i,x)=>(i,a.eval x))).run P w= .ok u w'∧aL (ctx ρ' σ' w') r u∧Sim ρ' σ' w'∧Ext ρ σ w ρ' σ' w':=by
 unfold aK at h
 split at h
 ·rename_i hc
  obtain⟨els,hfill,he⟩:=Option.map_eq_some_iff.1 h
  cases he
  obtain⟨us,e2,hlen,hrun⟩:=pv (σ:=σ) ht hz hf hc hfill
  have ha:=hs.alloc (.cells us e) (.cells sz els) sz (fun d hle hb=>(e2.mono hle).Gj hb)
  exact⟨.slice (some ⟨w.heap.size,0,none⟩) len len,w.alloc (.cells us e),_,hrun,.own (sz:=sz) (upρ_get _ _ _ _ _) (Nat.le_refl _) ⟨us,e,(0,0),heap_alloc_new w _,by rw[e2.len,hlen];exact Nat.le_refl _⟩,ha.1,ha.2⟩
 ·cases h
def aV (len sz:Nat) (zs:List AV) (parts:List (Nat×AV)):Option AV:=
 if zs.length=sz∧len * sz≤16777216 then (de sz (List.replicate len zs) parts).map fun els=>.sl true sz els else none
theorem zU {ρ σ w} (hs:Sim ρ σ w) {P t e sz bytes zs} (ht:fI P t=some (e,sz,bytes)) (hz:zeroOf P e=some zs) {fr} {a:Act} (hf:dZ (ctx ρ σ w) fr a.tmps) {len:Nat} {parts:Array (Nat×Operand)}
 {r} (h:aV len sz zs (parts.toList.map fun(i,x)=>(i,ev fr x))=some r):
 ∃u w' ρ',(Instr.buildSlice t len (parts.map fun(i,x)=>(i,a.eval x))).run P w= .ok u w'∧aL (ctx ρ' σ w') r u∧Sim ρ' σ w'∧Ext ρ σ w ρ' σ w':=by
 unfold aV at h
 split at h
 ·rename_i hc
  obtain⟨els,hfill,he⟩:=Option.map_eq_some_iff.1 h
  cases he
  obtain⟨us,e2,hlen,hrun⟩:=pv (σ:=σ) ht hz hf hc hfill
  obtain⟨j1,j2,himm,hb⟩:=hs.junk (.cells us e)
  refine⟨_,_,ρ,hrun,?_,j1,j2⟩
  have hor:=(e2.mono j2.le).Gj hb
  obtain⟨_,cs,te,hb,hcsz,hel,hone,hr⟩:=hor.eS
  refine .sl (fun p q=>cs.getD (p * sz+q) undef) hlen.symm (fun h=>by cases h) (Nat.le_refl _) (fun _=>rfl) (fun p el hp=>⟨hel p el hp,_,0,rfl,himm,fun q hq=> ?_⟩) (fun p el q x hp hx=> ?_)
  ·have hpl:=(List.getElem?_eq_some_iff.1 hp).1
   have hlt:p * sz+q<cs.size:=by
    have:=Nat.mul_le_mul_right sz (Nat.succ_le_of_lt hpl);rw[Nat.succ_mul]at this;omega
   refine⟨?_,?_⟩
   ·rw[cellOf,hb,Nat.zero_add]
    simp[Array.getD_eq_getD_getElem?,hlt]
   ·simp only[Array.getD_eq_getD_getElem?,Array.getElem?_eq_getElem hlt,Option.getD_some]
    exact hone _ _ (Array.getElem?_eq_getElem hlt)
  ·have hpl:=(List.getElem?_eq_some_iff.1 hp).1
   have hql:q<sz:=by rw[←hel _ _ hp];exact(List.getElem?_eq_some_iff.1 hx).1
   have hlt:p * sz+q<cs.size:=by
    have:=Nat.mul_le_mul_right sz (Nat.succ_le_of_lt hpl);rw[Nat.succ_mul]at this;omega
   have:=hr p el q x hp hx cs[p * sz+q] (Array.getElem?_eq_getElem hlt)
   simpa [Array.getD_eq_getD_getElem?,hlt] using this
 ·cases h
inductive qF where
 | slice | str | map
def rb (P:Program) (t:TypeId):Option qF:=
 match P.underlying t with
 | some (.slice _)=>some .slice
 | some .string=>some .str
 | some (.map _ _)=>some .map
 | _=>none
def yb (x:AV) (σ:ah):Option AV:=
 match x with
 | .val (.slice none 0 0)=>some (.val (.int .i64 0))
 | .val (.string s)=>some (.val (.int .i64 s.size))
 | .val (.map none)=>some (.val (.int .i64 0))
 | .sl _ _ xs=>some (.val (.int .i64 xs.length))
 | .own _ n=>some (.val (.int .i64 n))
 | .win _ _ _ n=>some (.val (.int .i64 n))
 | .mp id=>match σ.get id with
  | some (.map es)=>some (.val (.int .i64 es.length))
  | _=>none
 | _=>none
def lu:qF→AV→Bool
 | .slice,.val (.slice none 0 0)=>true
 | .slice,.sl _ _ _=>true
 | .slice,.own _ _=>true
 | .slice,.win _ _ _ _=>true
 | .str,.val (.string _)=>true
 | .map,.val (.map none)=>true
 | .map,.mp _=>true
 | _,_=>false
theorem Sim.vO {ρ σ w} (hs:Sim ρ σ w) {id es b sz} (hg:σ.get id=some (.map es)) (hp:ρ id=some (some b,sz)):
 ∃ents clock,w.heap[b]?=some (.map ents clock)∧ents.size=es.length∧∀(i:Nat) k x e,es[i]?=some (k,x)→ents[i]?=some e→e.key=k.val∧aL (ctx ρ σ w) x e.val:=by
 obtain⟨p,hp',hor⟩:=hs.obj id _ hg
 rw[hp]at hp';cases hp'
 cases hor with
 | map ents clock hb hl hr=>exact⟨ents,clock,hb,hl,hr⟩
theorem sLen {ρ σ w} (hs:Sim ρ σ w) {P t ty k} (ht:rb P t=some k) {x v} (hv:aL (ctx ρ σ w) x v) (hk:lu k x=true) {y} (hy:yb x σ=some y):
 ∃u,(Builtin.len_ #[t] ty #[v]).run P w= .ok u w∧aL (ctx ρ σ w) y u:=by
 have key:∀n:Int,(Builtin.len_ #[t] ty #[v]).run P w= .ok (goInt n) w→y= .val (.int .i64 n)→∃u,(Builtin.len_ #[t] ty #[v]).run P w= .ok u w∧aL (ctx ρ σ w) y u:=by
  intro n h1 h2;subst h2;exact⟨_,h1,.val _⟩
 unfold rb at ht
 split at ht
 ·rename_i e he
  cases ht
  unfold yb at hy
  split at hy<;>first | (cases hy;done) | (simp[lu]at hk;done) | skip
  ·cases hy;obtain rfl:=hv.aQ;exact key _ (by simp[Builtin.len_,run_underlying he]) rfl
  ·cases hy
   cases hv with
   | sl f hl hn hcap hclip hc hr=>subst hl;exact key _ (by simp[Builtin.len_,run_underlying he]) rfl
  ·cases hy
   rcases hv.fP with ⟨b,sz,cap,rfl,_⟩ | ⟨rfl,a,rfl,_⟩
   ·exact key _ (by simp[Builtin.len_,run_underlying he]) rfl
   ·exact key _ (by simp[Builtin.len_,run_underlying he]) rfl
  ·cases hy
   rcases hv.nI with ⟨b,sz,cap,rfl,_⟩ | ⟨rfl,a,cap,rfl⟩
   ·exact key _ (by simp[Builtin.len_,run_underlying he]) rfl
   ·exact key _ (by simp[Builtin.len_,run_underlying he]) rfl
 ·rename_i he
  cases ht
  unfold yb at hy
  split at hy<;>first | (cases hy;done) | (simp[lu]at hk;done) | skip
  ·cases hy;obtain rfl:=hv.aQ;exact key _ (by simp[Builtin.len_,run_underlying he]) rfl
 ·rename_i he
  cases ht
  unfold yb at hy
  split at hy<;>first | (cases hy;done) | (simp[lu]at hk;done) | skip
  ·cases hy;obtain rfl:=hv.aQ;exact key _ (by simp[Builtin.len_,run_underlying he]) rfl
  ·rename_i id
   split at hy
   ·rename_i es hg
    cases hy
    cases hv with
    | mp hp=>
     obtain⟨ents,clock,hb,hl,_⟩:=hs.vO hg hp
     exact key _ (by simp[Builtin.len_,run_underlying he,getObj,Sem.run,hb,hl]) rfl
   ·cases hy
 ·cases ht
def fC:Option AV→Option (Option Int)
 | none=>some none
 | some (.val (.int _ n))=>some (some n)
 | _=>none
def dJ (n:Nat) (x:AV) (lo hi mx:Option AV):Option AV:=
 match fC lo,fC hi,fC mx with
 | some l,some h,some m=>
  match x with
  | .sl clip sz xs=>
   let h':=h.getD xs.length
   let l':=l.getD 0
   if 0≤l'∧l'≤h'∧h'≤xs.length∧sz=n then
    match m with
    | none=>some (.sl (clip&&decide (h'=xs.length)) sz ((xs.take h'.toNat).drop l'.toNat))
    | some m=>if m=h'∧h.isSome then some (.sl true sz ((xs.take h'.toNat).drop l'.toNat)) else none
   else none
  | .own id len=>
   let h':=h.getD len
   let l':=l.getD 0
   if l'=0∧0≤h'∧h'≤len∧m=none then some (.own id h'.toNat)
   else if 0<l'∧l'≤h'∧h'≤len∧m=none then some (.win id l'.toNat n (h' - l').toNat) else none
  | .val (.slice none 0 0)=>if l.getD 0=0∧h.getD 0=0∧(m=none∨m=some 0∧h.isSome) then some (.val (.slice none 0 0)) else none
  | _=>none
 | _,_,_=>none
def cP (x:AV) (lo hi:Option AV):Option AV:=
 match x,fC lo,fC hi with
 | .val (.string s),some l,some h=>
  if 0≤l.getD 0∧l.getD 0≤h.getD s.size∧h.getD s.size≤s.size then some (.val (.string (s.extract (l.getD 0).toNat (h.getD s.size).toNat))) else none
 | _,_,_=>none
def bnd (o:Option Int):Option Value→Prop
 | none=>o=none
 | some v=>∃k n,o=some n∧v= .int k n
theorem bY {P:Program} {w:World} {isS:Bool} {len cap:Nat} {low high max:Option Value} {l h m:Option Int} (hl:bnd l low) (hh:bnd h high) (hm:bnd m max)
 (b1:0≤l.getD 0) (b2:l.getD 0≤h.getD len) (b3:h.getD len≤len) (b4:len≤cap) (b5:m=none∨(m=some (h.getD len)∧h.isSome=true)):
 (Instr.sliceBounds isS len cap low high max).run P w= .ok ((l.getD 0).toNat,(h.getD len).toNat,(match m with | none=>cap | some n=>n.toNat)) w:=by
 have bound:∀(k:IntKind) (n:Int) (y:Nat) code,0≤n→n≤y→(Instr.sliceBound (.int k n) y code).run P w= .ok n.toNat w:=by
  intro k n y code h1 h2
  simp[Instr.sliceBound,asIntOf,h1,h2]
 rcases b5 with rfl | ⟨rfl,hs⟩
 ·cases max with
  | some v=>obtain⟨_,_,h',_⟩:=hm;cases h'
  | none=>
   cases high with
   | none=>
    cases hh
    simp only[Option.getD_none]at *
    cases low with
    | none=>cases hl;simp[Instr.sliceBounds]
    | some v=>
     obtain⟨k,n,rfl,rfl⟩:=hl
     simp at b1 b2
     simp[Instr.sliceBounds,bound k n len .sliceB b1 b2]
   | some vh=>
    obtain⟨kh,nh,rfl,rfl⟩:=hh
    simp at b2 b3
    have q1:0≤nh:=by omega
    cases low with
    | none=>
     cases hl
     simp[Instr.sliceBounds,bound kh nh cap _ q1 (by omega)]
    | some v=>
     obtain⟨k,n,rfl,rfl⟩:=hl
     simp at b1 b2
     simp[Instr.sliceBounds,bound kh nh cap _ q1 (by omega),bound k n nh.toNat .sliceB b1 (by omega)]
 ·cases max with
  | none=>cases hm
  | some v=>
   obtain⟨km,nm,e,rfl⟩:=hm
   cases high with
   | none=>cases hh;simp at hs
   | some vh=>
    obtain⟨kh,nh,rfl,rfl⟩:=hh
    simp at b2 b3 e
    subst e
    have q1:0≤nh:=by omega
    cases low with
    | none=>
     cases hl
     simp[Instr.sliceBounds,bound km nh cap _ q1 (by omega),bound kh nh nh.toNat .slice3B q1 (by omega)]
    | some v=>
     obtain⟨k,n,rfl,rfl⟩:=hl
     simp at b1 b2
     simp[Instr.sliceBounds,bound km nh cap _ q1 (by omega),bound kh nh nh.toNat .slice3B q1 (by omega),bound k n nh.toNat .slice3C b1 (by omega)]
def fV (sz bytes:Nat) (zs:List AV) (x y:AV) (σ:ah):Option (AV×ah):=
 match x,y with
 | .val (.int .i64 n),.val (.int .i64 m)=>if n=m∧0≤n∧n≤9223372036854775807∧bytes * n≤140737488355328∧zs.length=sz then some (.own σ.next n.toNat,σ.new (.cells sz (List.replicate n.toNat zs))) else none
 | _,_=>none
theorem Dq {P:Program} {e:TypeId} {i:TypeInfo} {zs:List AV} (hi:P.info? e=some i) (hz:zeroOf P e=some zs) (hzl:zs.length=i.size) (w:World) (len:Nat):
 ∃z,i.zero=some z∧z.cells.size=i.size∧∀c,nM c i.size (List.replicate len zs) ((Array.range (len * i.size)).map (z.cells[· % z.cells.size]!)):=by
 obtain⟨z,hzr,z1,z2,z3⟩:=dX hz w
 have hzz:i.zero=some z:=by
  cases h:i.zero with
  | none=>simp[zeroValue,typeInfo,hi,h]at hzr
  | some z'=>simp[zeroValue,typeInfo,hi,h]at hzr;rw[hzr]
 refine⟨z,hzz,by omega,fun c=>⟨by simp,fun k el hk=> ?_,fun k v hv=> ?_,fun k el j x hk hx v hv=> ?_⟩⟩
 ·obtain⟨_,rfl⟩:=cm hk;exact hzl
 ·simp only[Array.getElem?_map]at hv
  obtain⟨q,hq,rfl⟩:=Option.map_eq_some_iff.1 hv
  have hlt:k<len * i.size:=by have:=(Array.getElem?_eq_some_iff.1 hq).1;simpa using this
  obtain⟨h0,_,_,_⟩:=ga hlt
  have hm:q % z.cells.size<z.cells.size:=Nat.mod_lt _ (by omega)
  rw[getElem!_pos z.cells _ hm]
  exact z2 _ _ (Array.getElem?_eq_getElem hm)
 ·obtain⟨hk1,rfl⟩:=cm hk
  have hj:j<i.size:=by rw[←hzl];exact(List.getElem?_eq_some_iff.1 hx).1
  simp only[Array.getElem?_map]at hv
  obtain⟨q,hq,rfl⟩:=Option.map_eq_some_iff.1 hv
  obtain⟨hq1,hq2⟩:=Array.getElem?_eq_some_iff.1 hq
  simp at hq2
  subst hq2
  have e1:z.cells.size=i.size:=by omega
  have e2:(k * i.size+j) % z.cells.size=j:=by rw[e1,Nat.mul_comm,Nat.mul_add_mod,Nat.mod_eq_of_lt hj]
  rw[e2,getElem!_pos z.cells j (by omega)]
  exact z3 c j x _ hx (Array.getElem?_eq_getElem (by omega))
theorem uR {ρ σ w} (hs:Sim ρ σ w) {P t e sz bytes zs} (ht:fI P t=some (e,sz,bytes)) (hz:zeroOf P e=some zs) {x y v u} (hx:aL (ctx ρ σ w) x v) (hy:aL (ctx ρ σ w) y u) {r σ'} (h:fV sz bytes zs x y σ=some (r,σ')):
 ∃q w' ρ',(Instr.makeSlice t v u).run P w= .ok q w'∧aL (ctx ρ' σ' w') r q∧Sim ρ' σ' w'∧Ext ρ σ w ρ' σ' w':=by
 obtain⟨hu,i,z0,hi,hzz0,rfl,rfl⟩:=fg ht
 unfold fV at h
 split at h
 ·rename_i n m
  split at h
  ·rename_i hc
   obtain⟨rfl,h0,h1,h2,hzl⟩:=hc
   cases h
   obtain rfl:=hx.aQ
   obtain rfl:=hy.aQ
   obtain⟨z,hzz,zsz,hrow⟩:=Dq hi hz hzl w n.toNat
   have hw:IntKind.i64.wrap n=n:=Go.IntWalk.i64_in n ⟨by omega,h1⟩
   generalize hrw:(Array.range (n.toNat * i.size)).map (z.cells[· % z.cells.size]!)=row at hrow
   have ha:=hs.alloc (.cells row e) (.cells i.size (List.replicate n.toNat zs)) i.size (fun d hle hb=>((hrow _).mono hle).Gj hb)
   refine⟨.slice (some ⟨w.heap.size,0,none⟩) n.toNat n.toNat,w.alloc (.cells row e),_,?_,.own (sz:=i.size) (upρ_get _ _ _ _ _) (Nat.le_refl _) ⟨row,e,(0,0),heap_alloc_new w _,by rw[←hrw];simp⟩,ha.1,ha.2⟩
   have hroom:¬(n.toNat * i.bytes>roomBytes):=by
    have e1:((n.toNat * i.bytes:Nat):Int)=i.bytes * n:=by rw[Int.natCast_mul,Int.toNat_of_nonneg h0,Int.mul_comm]
    show ¬(n.toNat * i.bytes>2 ^ 47)
    omega
   have hbig:¬(281474976710656<(i.bytes:Int) * n):=by omega
   have hneg:¬n<0:=by omega
   simp only[Instr.makeSlice,Sem.run_bind,run_underlying hu,Result.andThen_ok,asInt,asIntOf,typeInfo,run_program,hi,Sem.run_pure,hw]
   by_cases h00:n.toNat * i.size=0
   ·have h1:row= #[]:=by rw[←hrw,h00];simp
    simp[hneg,hbig,askRoom,hroom,sizeOf,typeInfo,hi,zeroValue,hzz,newRow,h00,h1,show Array.range 0= #[] from rfl]
   ·simp only[←hrw]
    simp[hneg,hbig,askRoom,hroom,sizeOf,typeInfo,hi,zeroValue,hzz,newRow,h00]
  ·cases h
 ·cases h
end Go.Abs
