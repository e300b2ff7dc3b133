import Derived.Test.YtjilebpcaemopaaGreatDoorAbsD
namespace Go.Abs
open Go
def nK (c:Ctx):Option AV→Option Value→Prop
 | none,none=>True
 | some x,some v=>aL c x v
 | _,_=>False
theorem gq {c:Ctx} {x v} (h:nK c x v) {o} (ho:fC x=some o):bnd o v:=by
 unfold fC at ho
 split at ho
 ·cases v with
  | none=>cases ho;rfl
  | some v=>exact h.elim
 ·rename_i k n
  cases ho
  cases v with
  | none=>exact h.elim
  | some v=>exact⟨k,n,rfl,aL.aQ h⟩
 ·cases ho
theorem xA {c:Ctx} {P t} (ht:isStr P t=true) {x v lo hi vl vh} (hv:aL c x v) (hl:nK c lo vl) (hh:nK c hi vh) {y} (hy:cP x lo hi=some y) (w:World):
 ∃u,(Instr.sliceAt t v vl vh none).run P w= .ok u w∧aL c y u:=by
 unfold cP at hy
 split at hy
 ·rename_i s l h hl' hh'
  split at hy
  ·rename_i hb
   cases hy
   obtain⟨b1,b2,b3⟩:=hb
   obtain rfl:=hv.aQ
   have hr:=bY (P:=P) (w:=w) (isS:=false) (len:=s.size) (cap:=s.size) (m:=none) (gq hl hl') (gq hh hh') (show bnd none none from rfl) b1 b2 b3 (Nat.le_refl _) (.inl rfl)
   exact⟨_,by simp[Instr.sliceAt,Instr.slice,run_underlying (oE ht),hr],.val _⟩
  ·cases hy
 ·cases hy
theorem GI {c:Ctx} {P t n} (ht:isSlice P t=some n) {x v lo hi mx vl vh vm} (hv:aL c x v) (hl:nK c lo vl) (hh:nK c hi vh) (hm:nK c mx vm) {y} (hy:dJ n x lo hi mx=some y) (w:World):
 ∃u,(Instr.sliceAt t v vl vh vm).run P w= .ok u w∧aL c y u:=by
 obtain⟨e,i,hu,hi,rfl⟩:=lh ht
 unfold dJ at hy
 split at hy
 ·rename_i l h m hl' hh' hm'
  have bl:=gq hl hl'
  have bh:=gq hh hh'
  have bm:=gq hm hm'
  split at hy
  · -- what does not change
    rename_i clip sz xs
    simp only at hy
    split at hy
    ·rename_i hb
     obtain⟨b1,b2,b3,rfl⟩:=hb
     cases hv with
     | sl f hlen hn hcap hclip hc hr=>
      rename_i a len cap
      subst hlen
      have key:∀(y':Bool) (mm:Nat),(Instr.sliceBounds true xs.length cap vl vh vm).run P w= .ok ((l.getD 0).toNat,(h.getD xs.length).toNat,mm) w→(h.getD xs.length).toNat≤mm→(y'=true→mm=(h.getD xs.length).toNat)→mm≤cap→
       ∃u,(Instr.sliceAt t (.slice a xs.length cap) vl vh vm).run P w= .ok u w∧aL c (.sl y' i.size ((xs.take (h.getD xs.length).toNat).drop (l.getD 0).toNat)) u:=by
       intro y' mm hrun h1 h2 h3
       generalize hH:(h.getD xs.length).toNat=H at *
       generalize hL:(l.getD 0).toNat=L at *
       have hLH:L≤H:=by omega
       have hHX:H≤xs.length:=by omega
       refine⟨.slice (if mm=L then a else a.map (·.add (L * i.size))) (H - L) (mm - L),?_,?_⟩
       ·simp[Instr.sliceAt,Instr.slice,run_underlying hu,hrun,sizeOf,typeInfo,hi]
       ·refine .sl (fun p q=>f (L+p) q) (by simp;omega) (fun hnone=> ?_) (by omega) (fun hy'=>by have:=h2 hy';omega) (fun p el hp=> ?_) (fun p el q x hp hx=> ?_)
        ·have ha:a=none:=by
          split at hnone
          ·exact hnone
          ·simpa using hnone
         obtain⟨e1,e2⟩:=hn ha
         subst e1
         exact⟨by simp,by omega⟩
        ·rw[List.getElem?_drop,List.getElem?_take]at hp
         split at hp
         ·rename_i hlt
          obtain⟨k1,b,o,rfl,k2,k3⟩:=hc _ _ hp
          refine⟨k1,b,o+L * i.size,?_,k2,fun q hq=> ?_⟩
          ·rw[if_neg (by omega)];simp[add_lit]
          ·rw[show o+L * i.size+p * i.size+q=o+(L+p) * i.size+q by rw[Nat.add_mul];omega]
           exact k3 q hq
         ·cases hp
        ·rw[List.getElem?_drop,List.getElem?_take]at hp
         split at hp
         ·exact hr _ _ _ _ hp hx
         ·cases hp
      split at hy
      ·cases hy
       have hr:=bY (P:=P) (w:=w) (isS:=true) (len:=xs.length) (cap:=cap) (m:=none) bl bh bm b1 b2 b3 hcap (.inl rfl)
       refine key _ cap hr (by omega) (fun hy'=> ?_) (Nat.le_refl _)
       simp only[Bool.and_eq_true,decide_eq_true_eq]at hy'
       have:=hclip hy'.1
       omega
      ·rename_i m0
       split at hy
       ·rename_i hmm
        cases hy
        obtain⟨rfl,hs⟩:=hmm
        have hr:=bY (P:=P) (w:=w) (isS:=true) (len:=xs.length) (cap:=cap) bl bh bm b1 b2 b3 hcap (.inr ⟨rfl,hs⟩)
        exact key true (h.getD xs.length).toNat hr (Nat.le_refl _) (fun _=>rfl) (by omega)
       ·cases hy
    ·cases hy
  · -- a row in hand
    rename_i id len
    simp only at hy
    split at hy
    ·rename_i hb
     obtain⟨b0,b2,b3,rfl⟩:=hb
     cases hy
     rcases hv.fP with ⟨b,sz,cap,rfl,hp,hlc,hbk⟩ | ⟨rfl,a,rfl,p,hp⟩
     ·have hr:=bY (P:=P) (w:=w) (isS:=true) (len:=len) (cap:=cap) (m:=none) bl bh bm (by omega) (by omega) b3 hlc (.inl rfl)
      simp only[b0]at hr
      refine⟨.slice (some ⟨b,0,none⟩) (h.getD len).toNat cap,?_,.own hp (by omega) hbk⟩
      simp[Instr.sliceAt,Instr.slice,run_underlying hu,hr,sizeOf,typeInfo,hi,add_lit]
     ·have hr:=bY (P:=P) (w:=w) (isS:=true) (len:=0) (cap:=0) (m:=none) bl bh bm (by omega) (by omega) b3 (Nat.le_refl _) (.inl rfl)
      simp only[b0]at hr
      have h0:(h.getD ((0:Nat):Int)).toNat=0:=by omega
      rw[h0]at hr⊢
      cases a with
      | none=>exact⟨.slice none 0 0,by simp[Instr.sliceAt,Instr.slice,run_underlying hu,hr,sizeOf,typeInfo,hi],.ownNil hp⟩
      | some q=>refine⟨_,by simp[Instr.sliceAt,Instr.slice,run_underlying hu,hr,sizeOf,typeInfo,hi];rfl,.ownNil hp⟩
    ·split at hy
     ·rename_i hb
      obtain⟨b0,b2,b3,rfl⟩:=hb
      cases hy
      rcases hv.fP with ⟨b,sz,cap,rfl,hp,hlc,hbk⟩ | ⟨rfl,a,rfl,p,hp⟩
      ·have hr:=bY (P:=P) (w:=w) (isS:=true) (len:=len) (cap:=cap) (m:=none) bl bh bm (by omega) (by omega) b3 hlc (.inl rfl)
       have hrun:(Instr.sliceAt t (.slice (some ⟨b,0,none⟩) len cap) vl vh vm).run P w= .ok (.slice (if cap=(l.getD 0).toNat then some ⟨b,0,none⟩ else some ⟨b,(l.getD 0).toNat * i.size,none⟩) ((h.getD len).toNat - (l.getD 0).toNat) (cap - (l.getD 0).toNat)) w:=by
        simp[Instr.sliceAt,Instr.slice,run_underlying hu,hr,sizeOf,typeInfo,hi,add_lit]
       rw[hrun]
       have e2:(h.getD len).toNat - (l.getD 0).toNat=(h.getD len - l.getD 0).toNat:=by omega
       rw[e2]
       by_cases hc:cap=(l.getD 0).toNat
       ·have e1:(h.getD len - l.getD 0).toNat=0:=by omega
        rw[e1]
        exact⟨_,rfl,.winNil hp⟩
       ·rw[if_neg hc]
        exact⟨_,rfl,.win hp (by omega)⟩
      ·omega
     ·cases hy
  · -- nil
    split at hy
    ·rename_i hb
     obtain⟨b0,b1,b2⟩:=hb
     cases hy
     obtain rfl:=hv.aQ
     have hr:=bY (P:=P) (w:=w) (isS:=true) (len:=0) (cap:=0) (m:=m) bl bh bm (by omega) (by simp;omega) (by simp;omega) (Nat.le_refl _) (by
      rcases b2 with b2 | b2
      ·exact .inl b2
      ·refine .inr ⟨?_,b2.2⟩
       rw[b2.1];simp;omega)
     have h1:(h.getD ((0:Nat):Int)).toNat=0:=by simp;omega
     rw[b0,h1]at hr
     refine⟨.slice none 0 0,?_,.val _⟩
     rcases b2 with rfl | ⟨rfl,_⟩<;>simp[Instr.sliceAt,Instr.slice,run_underlying hu,hr,sizeOf,typeInfo,hi]
    ·cases hy
  ·cases hy
 ·cases hy
def bC:AV→Option AV
 | .val (.bool b)=>some (.val (.bool (!b)))
 | _=>none
def B7:AV→Option AV
 | .val (.int k n)=>some (.val (.int k (k.wrap (0 - n))))
 | _=>none
theorem sNot {c:Ctx} {P:Program} {x v} (hv:aL c x v) {y} (hy:bC x=some y) (w:World):∃u,(Op.unary .not v).run P w= .ok u w∧aL c y u:=by
 unfold bC at hy
 split at hy
 ·cases hy;obtain rfl:=hv.aQ;exact⟨_,rfl,.val _⟩
 ·cases hy
theorem sNeg {c:Ctx} {P:Program} {x v} (hv:aL c x v) {y} (hy:B7 x=some y) (w:World):∃u,(Op.unary .neg v).run P w= .ok u w∧aL c y u:=by
 unfold B7 at hy
 split at hy
 ·cases hy;obtain rfl:=hv.aQ;exact⟨_,rfl,.val _⟩
 ·cases hy
def mc (op:BinOp) (k:IntKind) (a b:Int):Option Value:=
 match op with
 | .add=>some (.int k (k.wrap (a+b)))
 | .sub=>some (.int k (k.wrap (a - b)))
 | .mul=>some (.int k (k.wrap (a * b)))
 | .quo=>if b=0 then none else some (.int k (k.wrap (a.tdiv b)))
 | .rem=>if b=0 then none else some (.int k (a.tmod b))
 | .eql=>some (.bool (decide (a=b)))
 | .neq=>some (.bool (!decide (a=b)))
 | .lss=>some (.bool (decide (a<b)))
 | .leq=>some (.bool (decide (a≤b)))
 | .gtr=>some (.bool (decide (b<a)))
 | .geq=>some (.bool (decide (b≤a)))
 | _=>none
def jM (op:BinOp) (a b:ByteArray):Option Value:=
 match op with
 | .add=>if ((a.size+b.size:Nat):Int)>IntKind.i64.max then none else some (.string (a++b))
 | .eql=>some (.bool (decide (a=b)))
 | .neq=>some (.bool (!decide (a=b)))
 | .lss=>some (.bool (Op.bytesLess a.toList b.toList))
 | .leq=>some (.bool (Op.bytesLess a.toList b.toList||decide (a=b)))
 | .gtr=>some (.bool (!(Op.bytesLess a.toList b.toList||decide (a=b))))
 | .geq=>some (.bool (!Op.bytesLess a.toList b.toList))
 | _=>none
theorem rX (a b:ByteArray):(a.toList==b.toList)=decide (a=b):=by
 rw[ByteArray.toList_eq,ByteArray.toList_eq]
 obtain⟨⟨x⟩⟩:=a
 obtain⟨⟨y⟩⟩:=b
 by_cases h:x=y
 ·subst h;simp
 ·have h2:¬(⟨⟨x⟩⟩:ByteArray)=⟨⟨y⟩⟩:=by intro h3;injection h3 with h4;injection h4 with h5;exact h h5
  simp[h,h2]
inductive LK where
 | i | s | b
 deriving DecidableEq
def iH:LK→AV→AV→Option Bool
 | .i,.val (.int k a),.val (.int k' b)=>if k=k' then some (decide (a=b)) else none
 | .s,.val (.string a),.val (.string b)=>some (decide (a=b))
 | .b,.val (.bool a),.val (.bool b)=>some (decide (a=b))
 | _,_,_=>none
def bp:List LK→List AV→List AV→Option Bool
 | [],[],[]=>some true
 | k::ks,x::xs,y::ys=>match iH k x y,bp ks xs ys with
  | some a,some b=>some (a&&b)
  | _,_=>none
 | _,_,_=>none
inductive qE where
 | prim | bool | ptr | map | func | slice | ifc | agg (ks:List LK)
def aEq (e:qE) (x y:AV):Option Bool:=
 match e with
 | .bool=>match x,y with
  | .val (.bool a),.val (.bool b)=>some (decide (a=b))
  | _,_=>none
 | .agg ks=>match x,y with
  | .agg cs,.agg ds=>bp ks cs ds
  | _,_=>none
 | .ptr=>match x,y with
  | .val (.pointer none),.val (.pointer none)=>some true
  | .val (.pointer none),.ptr _ _ _=>some false
  | .val (.pointer none),.ref _=>some false
  | .ptr _ _ _,.val (.pointer none)=>some false
  | .ref _,.val (.pointer none)=>some false
  | _,_=>none
 | .map=>match x,y with
  | .val (.map none),.val (.map none)=>some true
  | .mp _,.val (.map none)=>some false
  | _,_=>none
 | .func=>match x,y with
  | .val .nilFunc,.val .nilFunc=>some true
  | .fn _ _,.val .nilFunc=>some false
  | _,_=>none
 | .slice=>match x,y with
  | .val (.slice none 0 0),.val (.slice none 0 0)=>some true
  | .own _ (_+1),.val (.slice none 0 0)=>some false
  | _,_=>none
 | .ifc=>match x,y with
  | .val .nilIface,.val .nilIface=>some true
  | .iface _ _,.val .nilIface=>some false
  | _,_=>none
 | .prim=>none
def kN (op:BinOp) (x y:AV):Option AV:=
 match x,y with
 | .val (.int k a),.val (.int k' b)=>if k=k' then (mc op k a b).map .val else none
 | .val (.string a),.val (.string b)=>(jM op a b).map .val
 | _,_=>none
def qJ (op:BinOp) (e:qE) (x y:AV):Option AV:=
 match op with
 | .eql=>(aEq e x y).map fun b=>.val (.bool b)
 | .neq=>(aEq e x y).map fun b=>.val (.bool (!b))
 | _=>none
def ar (op:BinOp) (e:qE) (x y:AV):Option AV:=
 match e with
 | .prim=>kN op x y
 | e=>qJ op e x y
theorem uL {P:Program} {op k a b v} (h:mc op k a b=some v) (t:TypeId) (w:World):(binOp op t (.int k a) (.int k b)).run P w= .ok v w:=by
 unfold mc at h
 split at h<;>first
  | (cases h;simp[binOp,Op.intArith,Op.intCmp];done)
  | (split at h;(cases h);(cases h;rename_i hb;simp[binOp,Op.intDiv,hb];done))
  | (cases h;simp[binOp,Op.intCmp];first | rfl | (rw[Bool.eq_iff_iff];simp);done)
  | cases h
theorem uN {P:Program} {op a b v} (h:jM op a b=some v) (t:TypeId) (w:World):(binOp op t (.string a) (.string b)).run P w= .ok v w:=by
 unfold jM at h
 split at h<;>first
  | (cases h;simp[binOp,Op.stringOp,rX];done)
  | (split at h;(cases h);(cases h;rename_i hb;simp only[binOp,Op.stringOp];rw[if_neg hb];rfl;done))
  | cases h
def lr (P:Program) (rec:TypeId→Option (List LK)):List Field→Nat→Option (List LK)
 | [],_=>some []
 | f::fs,o=>match rec f.type,dA P f.type with
  | some l,some (g,n)=>if (f.name != "_")=true∧f.offset=o∧l.length=n∧(g=false→n=1)∧0<n then (lr P rec fs (o+n)).map (l++ ·) else none
  | _,_=>none
def leaves (P:Program):Nat→TypeId→Option (List LK)
 | 0,_=>none
 | d+1,t=>match P.underlying t with
  | some (.int _)=>if dA P t=some (false,1) then some [.i] else none
  | some .string=>if dA P t=some (false,1) then some [.s] else none
  | some .bool=>if dA P t=some (false,1) then some [.b] else none
  | some (.struct fs)=>if P.stoodInHeld t=false then (lr P (leaves P d) fs.toList 0).bind fun l=>if dA P t=some (true,l.length) then some l else none else none
  | _=>none
theorem nd {ks ks':List LK} {xs ys:List AV} {b} (h:bp (ks++ks') xs ys=some b):∃b1 b2,bp ks (xs.take ks.length) (ys.take ks.length)=some b1∧bp ks' (xs.drop ks.length) (ys.drop ks.length)=some b2∧b=(b1&&b2):=by
 induction ks generalizing xs ys b with
 | nil=>exact⟨true,b,by simp[bp],by simpa using h,by simp⟩
 | cons k ks ih=>
  cases xs with
  | nil=>simp[bp]at h
  | cons x xs=>
   cases ys with
   | nil=>simp[bp]at h
   | cons y ys=>
    simp only[List.cons_append,bp]at h
    split at h
    ·rename_i p q hp hq
     cases h
     obtain⟨b1,b2,h1,h2,rfl⟩:=ih hq
     exact⟨p&&b1,b2,by simp[bp,hp,h1],by simpa using h2,by simp[Bool.and_assoc]⟩
    ·cases h
theorem iI {ks xs ys b} (h:bp ks xs ys=some b):xs.length=ks.length∧ys.length=ks.length:=by
 induction ks generalizing xs ys b with
 | nil=>cases xs<;>cases ys<;>simp_all [bp]
 | cons k ks ih=>
  cases xs with
  | nil=>simp[bp]at h
  | cons x xs=>
   cases ys with
   | nil=>simp[bp]at h
   | cons y ys=>
    simp only[bp]at h
    split at h
    ·rename_i p q hp hq;simp[ih hq]
    ·cases h
def fO (g:Bool) (vs:List Value):Value:=if g=true then .agg vs.toArray else vs.getD 0 undef
theorem kf {P:Program} {t g n} (ht:dA P t=some (g,n)) (vs:Array Value) (off:Nat) (h:off+n≤vs.size) (hg:g=false→n=1) (w:World):
 (part t vs off).run P w= .ok (fO g ((vs.toList.drop off).take n)) w:=by
 obtain⟨k1,k2⟩:=iT ht w
 cases g with
 | true=>
  simp only[part,Sem.run_bind,k2,Result.andThen_ok,Sem.run_ite,if_true,k1,Sem.run_pure,fO]
  congr 2
  apply Array.ext'
  simp[Array.toList_extract]
 | false=>
  obtain rfl:=hg rfl
  have hlt:off<vs.size:=by omega
  simp[part,k2,hlt,fO]
def gD (xs:List AV) (vs:List Value):Prop:=xs.length=vs.length∧∀(i:Nat) a v,xs[i]?=some (.val a)→vs[i]?=some v→v=a
theorem gD.take {xs vs} (h:gD xs vs) (n:Nat):gD (xs.take n) (vs.take n):=
 ⟨by simp[h.1],fun i a v hx hv=>by
  rw[List.getElem?_take]at hx hv
  split at hx
  ·rename_i hi;rw[if_pos hi]at hv;exact h.2 i a v hx hv
  ·cases hx⟩
theorem gD.drop {xs vs} (h:gD xs vs) (n:Nat):gD (xs.drop n) (vs.drop n):=
 ⟨by simp[h.1],fun i a v hx hv=>by rw[List.getElem?_drop]at hx hv;exact h.2 _ a v hx hv⟩
def tN (P:Program) (w:World) (d:Nat) (t:TypeId) (ks:List LK) (g:Bool):Prop:=
 ∀(D:Nat),d≤D→∀(xs ys:List AV) (vs us:List Value) (b:Bool),gD xs vs→gD ys us→bp ks xs ys=some b→(Op.equalIn D t (fO g vs) (fO g us)).run P w= .ok b w
theorem iZ {P:Program} (w:World) (d:Nat) (rec:TypeId→Option (List LK)) (hrec:∀t ks g n,rec t=some ks→dA P t=some (g,n)→ks.length=n→(g=false→n=1)→tN P w d t ks g):
 ∀(fs:List Field) (o:Nat) (ks:List LK),lr P rec fs o=some ks→∀(D:Nat),d≤D→∀(xs ys:List AV) (vs us:Array Value) (b:Bool),gD xs vs.toList→gD ys us.toList→
  bp ks (xs.drop o) (ys.drop o)=some b→(Op.eqFields D vs us fs).run P w= .ok b w
 | [],o,ks,hk,D,hD,xs,ys,vs,us,b,hx,hy,he=>by
  simp only[lr,Option.some.injEq]at hk
  subst hk
  have:b=true:=by
   generalize xs.drop o=p at he
   generalize ys.drop o=q at he
   cases p<;>cases q<;>simp_all [bp]
  subst this
  simp[Op.eqFields]
 | f::fs,o,ks,hk,D,hD,xs,ys,vs,us,b,hx,hy,he=>by
  simp only[lr]at hk
  split at hk
  ·rename_i l g n hl ht
   split at hk
   ·rename_i hc
    obtain⟨h1,h2,h3,h4,h5⟩:=hc
    obtain⟨ks',hks',rfl⟩:=Option.map_eq_some_iff.1 hk
    obtain⟨b1,b2,e1,e2,rfl⟩:=nd he
    have hlx:=(iI e1).1
    have hly:=(iI e1).2
    have hxl:=hx.1
    have hyl:=hy.1
    simp only[Array.length_toList]at hxl hyl
    have fx:o+n≤vs.size:=by
     simp only[List.length_take,List.length_drop]at hlx
     omega
    have fy:o+n≤us.size:=by
     simp only[List.length_take,List.length_drop]at hly
     omega
    rw[h3]at e1 e2
    have r1:=kf ht vs o fx h4 w
    have r2:=kf ht us o fy h4 w
    have r3:=hrec f.type l g n hl ht h3 h4 D hD _ _ _ _ _ ((hx.drop o).take n) ((hy.drop o).take n) e1
    have hne:f.name≠ "_" :=by simpa using h1
    subst h2
    have ih:=iZ w d rec hrec fs (f.offset+n) ks' hks' D hD xs ys vs us b2 hx hy (by simpa [List.drop_drop] using e2)
    simp only[Op.eqFields,if_pos hne,Sem.run_bind,r1,r2,r3,Result.andThen_ok]
    cases b1 with
    | false=>simp
    | true=>simpa using ih
   ·cases hk
  ·cases hk
def lkOk (P:Program) (t:TypeId):LK→Prop
 | .i=>∃q,P.underlying t=some (.int q)
 | .s=>P.underlying t=some .string
 | .b=>P.underlying t=some .bool
theorem uk {P:Program} {w:World} {D:Nat} {t:TypeId} {k:LK} {x y b} (h:iH k x y=some b) (hu:lkOk P t k):
 ∃u v,x= .val u∧y= .val v∧(Op.equalIn (D+1) t u v).run P w= .ok b w:=by
 unfold iH at h
 split at h
 ·rename_i q a q' a'
  split at h
  ·rename_i e
   subst e
   cases h
   obtain⟨k',hu⟩:=hu
   refine⟨_,_,rfl,rfl,?_⟩
   rw[run_equalIn_int w D t q k' a a' hu]
   congr 1
  ·cases h
 ·cases h
  refine⟨_,_,rfl,rfl,?_⟩
  rw[run_equalIn_string w D t _ _ hu,rX]
 ·cases h
  refine⟨_,_,rfl,rfl,?_⟩
  rw[run_equalIn_bool' w D t _ _ hu]
  congr 1
 ·cases h
theorem mP {P:Program} (w:World):∀(d:Nat) (t:TypeId) (ks:List LK) (g:Bool) (n:Nat),leaves P d t=some ks→dA P t=some (g,n)→tN P w d t ks g
 | 0,_,_,_,_,h,_=>by simp[leaves]at h
 | d+1,t,ks,g,n,h,ht=>by
  have one:∀k:LK,lkOk P t k→ks= [k]→g=false→tN P w (d+1) t ks g:=by
   rintro k hu rfl rfl D hD xs ys vs us b hx hy he
   obtain⟨D,rfl⟩:∃q,D=q+1:=⟨D - 1,by omega⟩
   have hl:=iI he
   have l1:=hx.1
   have l2:=hy.1
   match xs,ys,vs,us,hl,l1,l2 with
   | [x],[y],[v],[u],_,_,_=>
    simp only[bp]at he
    split at he
    ·rename_i p q hp hq
     cases he;cases hq
     obtain⟨a,c,rfl,rfl,hr⟩:=uk (w:=w) (D:=D) hp hu
     have e1:=hx.2 0 a v rfl rfl
     have e2:=hy.2 0 c u rfl rfl
     subst e1;subst e2
     simpa [fO] using hr
    ·cases he
  unfold leaves at h
  split at h
  ·rename_i q hq
   split at h
   ·rename_i h1;cases h;rw[h1]at ht;cases ht;exact one .i ⟨q,hq⟩ rfl rfl
   ·cases h
  ·rename_i hq
   split at h
   ·rename_i h1;cases h;rw[h1]at ht;cases ht;exact one .s hq rfl rfl
   ·cases h
  ·rename_i hq
   split at h
   ·rename_i h1;cases h;rw[h1]at ht;cases ht;exact one .b hq rfl rfl
   ·cases h
  ·rename_i fs hfs
   split at h
   ·rename_i hst
    obtain⟨l,hl,h2⟩:=Option.bind_eq_some_iff.1 h
    split at h2
    ·rename_i h1
     cases h2
     rw[h1]at ht;cases ht
     intro D hD xs ys vs us b hx hy he
     obtain⟨D,rfl⟩:∃q,D=q+1:=⟨D - 1,by omega⟩
     have hf:P.fieldsOf t=fs:=by simp[Program.fieldsOf,hfs]
     have hr:=run_equalIn_struct (P:=P) w D t vs.toArray us.toArray (by rw[hf];exact hfs) hst
     rw[hf]at hr
     show(Op.equalIn (D+1) t (.agg vs.toArray) (.agg us.toArray)).run P w=_
     rw[hr]
     exact iZ w d (leaves P d) (fun t ks g n a b _ _=>mP w d t ks g n a b) fs.toList 0 ks hl D (by omega) xs ys vs.toArray us.toArray b (by simpa using hx) (by simpa using hy) (by simpa using he)
    ·cases h2
   ·cases h
  ·cases h
def oo (P:Program) (t:TypeId):Option qE:=
 match P.underlying t with
 | some (.int _)=>some .prim
 | some .string=>some .prim
 | some .bool=>some .bool
 | some (.pointer _)=>some .ptr
 | some (.map _ _)=>some .map
 | some (.func _ _ _)=>some .func
 | some (.slice _)=>some .slice
 | some (.interface ms)=>if ms.isEmpty=true then some .ifc else none
 | some (.struct _)=>if P.eqGuardType P.depth t=false then (leaves P 20 t).map .agg else none
 | _=>none
theorem rP {c:Ctx} {cs:List AV} {vs:Array Value} (hl:cs.length=vs.size) (hr:∀(i:Nat) (x:AV) (v:Value),cs[i]?=some x→vs[i]?=some v→aL c x v):gD cs vs.toList:=
 ⟨by simpa using hl,fun i a v hx hv=>(hr i _ _ hx (by simpa using hv)).aQ⟩
inductive iV:TypeDesc→Value→Value→Bool→Prop
 | pp {e}:iV (.pointer e) (.pointer none) (.pointer none) true
 | pa {e a}:iV (.pointer e) (.pointer none) (.pointer (some a)) false
 | ap {e a}:iV (.pointer e) (.pointer (some a)) (.pointer none) false
 | mm {k e}:iV (.map k e) (.map none) (.map none) true
 | am {k e a}:iV (.map k e) (.map (some a)) (.map none) false
 | ff {a b c}:iV (.func a b c) .nilFunc .nilFunc true
 | af {a b c f x y}:iV (.func a b c) (.func f x y) .nilFunc false
 | ss {e}:iV (.slice e) (.slice none 0 0) (.slice none 0 0) true
 | as {e a n c}:iV (.slice e) (.slice (some a) n c) (.slice none 0 0) false
 | ii {ms}:iV (.interface ms) .nilIface .nilIface true
 | ai {ms t x}:iV (.interface ms) (.iface t x) .nilIface false
theorem cf {P:Program} {t d v u b} (hu:P.underlying t=some d) (h:iV d v u b) (w:World):(Op.equal t v u).run P w= .ok b w:=by
 show(Op.equalIn (9999+1) t v u).run P w=_
 generalize 9999=D
 cases h<;>simp[Op.equalIn,run_underlying hu]
theorem sEq {c:Ctx} {P t e} (he:oo P t=some e) {x y v u} (hx:aL c x v) (hy:aL c y u) {b} (h:aEq e x y=some b) (w:World):(Op.equal t v u).run P w= .ok b w∧∀op ox oy,(eqGuard op t ox oy v u).run P w= .ok () w:=by
 have grd:(∀cs,v≠ .agg cs)→v≠ .nilIface→∀op ox oy,(eqGuard op t ox oy v u).run P w= .ok () w:=by
  intro h1 h2 op ox oy
  cases op<;>cases v<;>simp_all [eqGuard]
 unfold oo at he
 split at he
 ·cases he;simp[aEq]at h
 ·cases he;simp[aEq]at h
 ·rename_i hu
  cases he
  simp only[aEq]at h
  split at h
  ·cases h
   obtain rfl:=hx.aQ
   obtain rfl:=hy.aQ
   refine⟨?_,grd (by simp) (by simp)⟩
   show(Op.equalIn (9999+1) t _ _).run P w=_
   rw[run_equalIn_bool' w 9999 t _ _ hu]
   congr 1
  ·cases h
 ·rename_i el hu
  cases he
  simp only[aEq]at h
  split at h
  ·cases h;obtain rfl:=hx.aQ;obtain rfl:=hy.aQ
   exact⟨cf hu (by constructor) w,grd (by simp) (by simp)⟩
  ·cases h;obtain rfl:=hx.aQ
   cases hy with
   | ptr hp=>exact⟨cf hu (by constructor) w,grd (by simp) (by simp)⟩
  ·cases h;obtain rfl:=hx.aQ
   cases hy with
   | ref f hi hc hr=>exact⟨cf hu (by constructor) w,grd (by simp) (by simp)⟩
  ·cases h;obtain rfl:=hy.aQ
   cases hx with
   | ptr hp=>exact⟨cf hu (by constructor) w,grd (by simp) (by simp)⟩
  ·cases h;obtain rfl:=hy.aQ
   cases hx with
   | ref f hi hc hr=>exact⟨cf hu (by constructor) w,grd (by simp) (by simp)⟩
  ·cases h
 ·rename_i k el hu
  cases he
  simp only[aEq]at h
  split at h
  ·cases h;obtain rfl:=hx.aQ;obtain rfl:=hy.aQ
   exact⟨cf hu (by constructor) w,grd (by simp) (by simp)⟩
  ·cases h;obtain rfl:=hy.aQ
   cases hx with
   | mp hp=>exact⟨cf hu (by constructor) w,grd (by simp) (by simp)⟩
  ·cases h
 ·rename_i hu
  cases he
  simp only[aEq]at h
  split at h
  ·cases h;obtain rfl:=hx.aQ;obtain rfl:=hy.aQ
   exact⟨cf hu (by constructor) w,grd (by simp) (by simp)⟩
  ·cases h;obtain rfl:=hy.aQ
   cases hx with
   | fn hl hr=>exact⟨cf hu (by constructor) w,grd (by simp) (by simp)⟩
  ·cases h
 ·rename_i el hu
  cases he
  simp only[aEq]at h
  split at h
  ·cases h;obtain rfl:=hx.aQ;obtain rfl:=hy.aQ
   exact⟨cf hu (by constructor) w,grd (by simp) (by simp)⟩
  ·cases h;obtain rfl:=hy.aQ
   rcases hx.fP with ⟨b,sz,cap,rfl,_⟩ | ⟨h0,_⟩
   ·exact⟨cf hu (by constructor) w,grd (by simp) (by simp)⟩
   ·cases h0
  ·cases h
 ·rename_i ms hu
  split at he
  ·rename_i hms
   cases he
   simp only[aEq]at h
   split at h
   ·cases h;obtain rfl:=hx.aQ;obtain rfl:=hy.aQ
    refine⟨cf hu (by constructor) w,fun op ox oy=> ?_⟩
    have hg:(Op.eqGuardIn Op.maxDepth t .nilIface .nilIface).run P w= .ok false w:=by
     show(Op.eqGuardIn (9999+1) t .nilIface .nilIface).run P w=_
     generalize 9999=D
     simp[Op.eqGuardIn,run_underlying hu,hms]
    cases op<;>simp only[eqGuard]<;>(try simp)<;>(try (split<;>simp[hg]))
   ·cases h;obtain rfl:=hy.aQ
    cases hx with
    | iface hp=>exact⟨cf hu (by constructor) w,grd (by simp) (by simp)⟩
   ·cases h
  ·cases he
 ·rename_i fs hu
  split at he
  ·rename_i hg
   obtain⟨ks,hks,rfl⟩:=Option.map_eq_some_iff.1 he
   simp only[aEq]at h
   split at h
   ·cases hx with
    | agg hl h1 hr=>
     cases hy with
     | agg hl' h1' hr'=>
      rename_i vs us
      have ht:∃n,dA P t=some (true,n):=by
       rw[leaves]at hks
       simp only[hu]at hks
       split at hks
       ·obtain⟨l,_,h2⟩:=Option.bind_eq_some_iff.1 hks
        split at h2
        ·exact⟨_,by assumption⟩
        ·cases h2
       ·cases hks
      obtain⟨n,ht⟩:=ht
      have:=mP (P:=P) w 20 t ks true n hks ht 10000 (by omega) _ _ vs.toList us.toList b (rP hl hr) (rP hl' hr') h
      refine⟨this,fun op ox oy=>run_eqGuard_agg w op t ox oy vs us hg⟩
   ·cases h
  ·cases he
 ·cases he
theorem binOp_eql {t:TypeId} {v u:Value} (hv:∀k n,v≠ .int k n) (hs:∀s,v≠ .string s) (hf:∀k n,v≠ .float k n) (hc:∀k a b,v≠ .complex k a b):
 binOp .eql t v u=(do pure (.bool (←Op.equal t v u)))∧binOp .neq t v u=(do pure (.bool (!(←Op.equal t v u)))):=by
 cases v<;>first
  | exact absurd rfl (hv _ _)
  | exact absurd rfl (hs _)
  | exact absurd rfl (hf _ _)
  | exact absurd rfl (hc _ _ _)
  | (cases u<;>exact⟨rfl,rfl⟩)
theorem wC {c:Ctx} {e x y b v} (h:aEq e x y=some b) (hx:aL c x v):(∀k n,v≠ .int k n)∧(∀s,v≠ .string s)∧(∀k n,v≠ .float k n)∧(∀k a b,v≠ .complex k a b):=by
 unfold aEq at h
 split at h<;>(try split at h)<;>first
  | (cases h;done)
  | (cases hx;simp;done)
theorem GC {c:Ctx} {P t e} (he:oo P t=some e) {op x y v u} (hx:aL c x v) (hy:aL c y u) {r} (h:qJ op e x y=some r) (ox oy:Operand) (w:World):
 ∃z,(do eqGuard op t ox oy v u;binOp op t v u:Sem Value).run P w= .ok z w∧aL c r z:=by
 unfold qJ at h
 split at h
 all_goals first
  | (cases h;done)
  | (obtain⟨b,hb,rfl⟩:=Option.map_eq_some_iff.1 h
     obtain⟨k1,k2⟩:=sEq he hx hy hb w
     obtain⟨s1,s2,s3,s4⟩:=wC hb hx
     obtain⟨b1,b2⟩:=binOp_eql (t:=t) (u:=u) s1 s2 s3 s4
     refine⟨_,?_,.val _⟩
     simp only[Sem.run_bind,k2,Result.andThen_ok,b1,b2,k1,Sem.run_pure])
theorem zT {c:Ctx} {P:Program} {t:TypeId} {op x y v u} (hx:aL c x v) (hy:aL c y u) {r} (h:kN op x y=some r) (ox oy:Operand) (w:World):
 ∃z,(do eqGuard op t ox oy v u;binOp op t v u:Sem Value).run P w= .ok z w∧aL c r z:=by
 unfold kN at h
 split at h
 ·rename_i k a k' b
  split at h
  ·rename_i e;subst e
   obtain⟨z,hz,rfl⟩:=Option.map_eq_some_iff.1 h
   obtain rfl:=hx.aQ
   obtain rfl:=hy.aQ
   refine⟨z,?_,.val _⟩
   have hg:(eqGuard op t ox oy (.int k a) (.int k b)).run P w= .ok () w:=by cases op<;>simp[eqGuard]
   simp only[Sem.run_bind,hg,Result.andThen_ok]
   exact uL hz t w
  ·cases h
 ·rename_i a b
  obtain⟨z,hz,rfl⟩:=Option.map_eq_some_iff.1 h
  obtain rfl:=hx.aQ
  obtain rfl:=hy.aQ
  refine⟨z,?_,.val _⟩
  have hg:(eqGuard op t ox oy (.string a) (.string b)).run P w= .ok () w:=by cases op<;>simp[eqGuard]
  simp only[Sem.run_bind,hg,Result.andThen_ok]
  exact uN hz t w
 ·cases h
theorem sBin {c:Ctx} {P t e} (he:oo P t=some e) {op x y v u} (hx:aL c x v) (hy:aL c y u) {r} (h:ar op e x y=some r) (ox oy:Operand) (w:World):
 ∃z,(do eqGuard op t ox oy v u;binOp op t v u:Sem Value).run P w= .ok z w∧aL c r z:=by
 cases e<;>first
  | exact zT hx hy h ox oy w
  | exact GC he hx hy h ox oy w
inductive rJ where
 | int (k:IntKind)
 | str
 | bytes
def jw (P:Program) (src dst:TypeId):Option rJ:=
 match P.underlying src,P.underlying dst with
 | some (.int _),some (.int k)=>some (.int k)
 | some .string,some .string=>some .str
 | some .string,some (.slice e)=>match P.underlying e with
  | some (.int .u8)=>some .bytes
  | _=>none
 | _,_=>none
def jo (s:ByteArray):List (List AV):=s.data.toList.map fun b=>[.val (.int .u8 b.toNat)]
def iW (k:rJ) (x:AV):Option AV:=
 match k,x with
 | .int k,.val (.int _ n)=>some (.val (.int k (k.wrap n)))
 | .str,.val (.string s)=>some (.val (.string s))
 | .bytes,.val (.string s)=>some (.sl false 1 (jo s))
 | _,_=>none
theorem sConv {c:Ctx} {P src dst k} (hk:jw P src dst=some k) (hnb:k≠ .bytes) {x v} (hx:aL c x v) {y} (h:iW k x=some y) (w:World):∃u,(convert src dst v).run P w= .ok u w∧aL c y u:=by
 unfold jw at hk
 split at hk
 ·rename_i ks kd h1 h2
  cases hk
  unfold iW at h
  split at h
  ·rename_i e;cases e;cases h;obtain rfl:=hx.aQ
   exact⟨_,by simp[convert,run_underlying h1,run_underlying h2,Conv.intToInt],.val _⟩
  ·rename_i e;cases e
  ·rename_i e;cases e
  ·cases h
 ·rename_i h1 h2
  cases hk
  unfold iW at h
  split at h
  ·rename_i e;cases e
  ·cases h;obtain rfl:=hx.aQ
   exact⟨_,by simp[convert,run_underlying h1,run_underlying h2],.val _⟩
  ·rename_i e;cases e
  ·cases h
 ·split at hk
  ·cases hk;exact absurd rfl hnb
  ·cases hk
 ·cases hk
def qK (x y:AV):Option AV:=
 match x,y with
 | .val (.int k a),.val (.int _ b)=>some (.val (.int k (if a<b then b else a)))
 | _,_=>none
def rO (x y:AV):Option AV:=
 match x,y with
 | .val (.int k a),.val (.int _ b)=>some (.val (.int k (if b<a then b else a)))
 | _,_=>none
theorem sMax {c:Ctx} {P:Program} {ts ty x y v u} (hx:aL c x v) (hy:aL c y u) {r} (h:qK x y=some r) (w:World):∃z,(Builtin.max_ ts ty #[v,u]).run P w= .ok z w∧aL c r z:=by
 unfold qK at h
 split at h
 ·cases h;obtain rfl:=hx.aQ;obtain rfl:=hy.aQ
  exact⟨_,by simp[Builtin.max_,Builtin.max2],.val _⟩
 ·cases h
theorem sMin {c:Ctx} {P:Program} {ts ty x y v u} (hx:aL c x v) (hy:aL c y u) {r} (h:rO x y=some r) (w:World):∃z,(Builtin.min_ ts ty #[v,u]).run P w= .ok z w∧aL c r z:=by
 unfold rO at h
 split at h
 ·cases h;obtain rfl:=hx.aQ;obtain rfl:=hy.aQ
  exact⟨_,by simp[Builtin.min_,Builtin.min2],.val _⟩
 ·cases h
end Go.Abs
