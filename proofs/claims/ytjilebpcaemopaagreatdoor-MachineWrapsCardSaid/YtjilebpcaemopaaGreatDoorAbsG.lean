import Derived.Test.YtjilebpcaemopaaGreatDoorAbsF
import Derived.MapKept
import Derived.Lib.AppendZerosOnto
namespace Go.Abs
open Go Go.MapKept
def cZ:List (MK×AV)→MK→Option AV
 | [],_=>none
 | (k,x)::r,q=>if k=q then some x else cZ r q
def du:List (MK×AV)→MK→AV→List (MK×AV)
 | [],q,y=>[(q,y)]
 | (k,x)::r,q,y=>if k=q then (q,y)::r else (k,x)::du r q y
def gp:List (MK×AV)→MK→List (MK×AV)
 | [],_=>[]
 | (k,x)::r,q=>if k=q then r else (k,x)::gp r q
def asKey:AV→Option MK
 | .val (.int k n)=>some (.i k n)
 | .val (.string s)=>some (.s s)
 | _=>none
theorem kl {c:Ctx} {x v k} (h:aL c x v) (hk:asKey x=some k):v=k.val:=by
 unfold asKey at hk
 split at hk<;>first | (cases hk;exact h.aQ) | cases hk
theorem MK.val_inj {a b:MK} (h:a.val=b.val):a=b:=by
 cases a<;>cases b<;>simp_all [MK.val]
def lA (P:Program) (t:TypeId):Option (TypeId×TypeDesc×TypeId):=
 match P.underlying t with
 | some (.map k e)=>match P.underlying k with
  | some (.int q)=>some (k,.int q,e)
  | some .string=>some (k,.string,e)
  | _=>none
 | _=>none
theorem kC {P t k d e} (h:lA P t=some (k,d,e)):P.underlying t=some (.map k e)∧P.underlying k=some d∧((∃q,d= .int q)∨d= .string):=by
 unfold lA at h
 split at h
 ·split at h<;>first | (cases h;exact⟨by assumption,by assumption,by simp⟩) | cases h
 ·cases h
def dD (d:TypeDesc):MK→Bool
 | .i k _=>match d with | .int q=>decide (k=q) | _=>false
 | .s _=>match d with | .string=>true | _=>false
theorem dL {d k} (h:dD d k=true):IsKey d k.val:=by
 cases k<;>cases d<;>simp_all [dD,IsKey,MK.val]
def rn (d:TypeDesc) (es:List (MK×AV)):Prop:=∀(i:Nat) (k:MK) (x:AV),es[i]?=some (k,x)→dD d k=true
theorem l8 {c:Ctx} {d:TypeDesc} {es:List (MK×AV)} {ents:Array MapEntry} (hl:ents.size=es.length) (hr:∀(i:Nat) (k:MK) (x:AV) (e:MapEntry),es[i]?=some (k,x)→ents[i]?=some e→e.key=k.val∧aL c x e.val)
 (q:MK) (hq:dD d q=true) (hf:rn d es):
 (cZ es q=none∧Instr.findNow d q.val ents.toList 0=some none∧∀(i:Nat) (k:MK) (x:AV),es[i]?=some (k,x)→k≠q)∨
 ∃j x e,cZ es q=some x∧Instr.findNow d q.val ents.toList 0=some (some (j,e.val))∧ents[j]?=some e∧e.key=q.val∧aL c x e.val∧es[j]?=some (q,x)∧∀(i:Nat) (k:MK) (y:AV),i<j→es[i]?=some (k,y)→k≠q:=by
 have key:∀(l:List MapEntry) (es:List (MK×AV)) (o:Nat),l.length=es.length→(∀(i:Nat) (k:MK) (x:AV) (e:MapEntry),es[i]?=some (k,x)→l[i]?=some e→e.key=k.val∧aL c x e.val)→rn d es→
  (cZ es q=none∧Instr.findNow d q.val l o=some none∧∀(i:Nat) (k:MK) (x:AV),es[i]?=some (k,x)→k≠q)∨
  ∃j x e,cZ es q=some x∧Instr.findNow d q.val l o=some (some (o+j,e.val))∧l[j]?=some e∧e.key=q.val∧aL c x e.val∧es[j]?=some (q,x)∧∀(i:Nat) (k:MK) (y:AV),i<j→es[i]?=some (k,y)→k≠q:=by
  intro l
  induction l with
  | nil=>
   intro es o hl hr hf
   have:es= []:=List.eq_nil_of_length_eq_zero hl.symm
   subst this
   exact .inl ⟨rfl,rfl,by simp⟩
  | cons e l ih=>
   intro es o hl hr hf
   cases es with
   | nil=>simp at hl
   | cons p es=>
    obtain⟨k,x⟩:=p
    obtain⟨h1,h2⟩:=hr 0 k x e rfl rfl
    have hk:=hf 0 k x rfl
    obtain⟨r,hr1,hr2⟩:=sameNow_of_keys (a:=q.val) (b:=e.key) (dL hq) (by rw[h1];exact dL hk)
    by_cases hkq:k=q
    ·subst hkq
     have:r=true:=hr2.2 h1.symm
     subst this
     exact .inr ⟨0,x,e,by simp[cZ],by simp[Instr.findNow,hr1],rfl,h1,h2,rfl,by intro i _ _ h;omega⟩
    ·have:r=false:=by
      cases r with
      | false=>rfl
      | true=>exact absurd (MK.val_inj (by rw[←h1];exact(hr2.1 rfl).symm)) hkq
     subst this
     rcases ih es (o+1) (by simpa using hl) (fun i k x e a b=>hr (i+1) k x e (by simpa using a) (by simpa using b)) (fun i k x a=>hf (i+1) k x (by simpa using a)) with ⟨a,b,c'⟩ | ⟨j,y,e',a,b,c',d',f',g',h'⟩
     ·refine .inl ⟨by simp[cZ,hkq,a],by simp[Instr.findNow,hr1,b],fun i k' x' hi=> ?_⟩
      cases i with
      | zero=>simp at hi;obtain⟨rfl,rfl⟩:=hi;exact hkq
      | succ i=>exact c' i k' x' (by simpa using hi)
     ·refine .inr ⟨j+1,y,e',by simp[cZ,hkq,a],by simp[Instr.findNow,hr1,b];omega,by simpa using c',d',f',by simpa using g',fun i k' x' hij hi=> ?_⟩
      cases i with
      | zero=>simp at hi;obtain⟨rfl,rfl⟩:=hi;exact hkq
      | succ i=>exact h' i k' x' (by omega) (by simpa using hi)
 rcases key ents.toList es 0 (by simpa using hl) (fun i k x e a b=>hr i k x e a (by simpa using b)) hf with h | ⟨j,x,e,a,b,c',d',f',g',h'⟩
 ·exact .inl h
 ·exact .inr ⟨j,x,e,a,by simpa using b,by simpa using c',d',f',g',h'⟩
def b9 (d:TypeDesc) (es:List (MK×AV)):Bool:=es.all fun p=>dD d p.1
theorem iK {d es} (h:b9 d es=true):rn d es:=by
 intro i k x hi
 have:=List.all_eq_true.1 h (k,x) (List.mem_of_getElem? hi)
 simpa using this
def mF (P:Program) (t:TypeId):Option AV:=
 match P.info? t with
 | some i=>match i.zero with
  | some (.agg cs)=>if tW cs=true then some (.agg (cs.toList.map .val)) else none
  | some z=>if z.oneCell'=true then some (.val z) else none
  | none=>none
 | none=>none
theorem m9 {P t z} (h:mF P t=some z) (w:World):∃v,(zeroValue t).run P w= .ok v w∧∀c,aL c z v:=by
 unfold mF at h
 split at h
 ·rename_i i hi
  split at h
  ·rename_i cs hz
   split at h
   ·rename_i h1
    cases h
    refine⟨.agg cs,by simp[zeroValue,typeInfo,hi,hz],fun c=>.agg (by simp) (jm h1) (fun j x v hx hv=> ?_)⟩
    simp only[List.getElem?_map,Array.getElem?_toList,hv,Option.map_some,Option.some.injEq]at hx
    subst hx;exact .val _
   ·cases h
  ·rename_i z' hne hz
   split at h
   ·cases h
    exact⟨z',by simp[zeroValue,typeInfo,hi,hz],fun c=>.val _⟩
   ·cases h
  ·cases h
 ·cases h
def dO (d:TypeDesc) (zero:AV) (ok:Bool) (x k:AV) (σ:ah):Option AV:=
 match asKey k with
 | some q=>if dD d q=true then
  match x with
  | .val (.map none)=>some (if ok=true then .tup [zero,.val (.bool false)] else zero)
  | .mp id=>match σ.get id with
   | some (.map es)=>if b9 d es=true then
    match cZ es q with
    | some y=>some (if ok=true then .tup [y,.val (.bool true)] else y)
    | none=>some (if ok=true then .tup [zero,.val (.bool false)] else zero)
    else none
   | _=>none
  | _=>none
  else none
 | none=>none
theorem GS {c:Ctx} {x y:AV} {u v:Value} (hx:aL c x u) (hy:aL c y v):aL c (.tup [x,y]) (.tuple #[u,v]):=by
 refine .tup rfl fun i a b ha hb=> ?_
 match i,ha,hb with
 | 0,ha,hb=>simp at ha hb;subst ha;subst hb;exact hx
 | 1,ha,hb=>simp at ha hb;subst ha;subst hb;exact hy
 | n+2,ha,_=>simp at ha
theorem C9 {ρ σ w} (hs:Sim ρ σ w) {P t kt d e zero} (ht:lA P t=some (kt,d,e)) (hz:mF P e=some zero) {ok x k v kv} (hx:aL (ctx ρ σ w) x v) (hk:aL (ctx ρ σ w) k kv) {y} (h:dO d zero ok x k σ=some y):
 ∃u,(Instr.lookup t v kv ok).run P w= .ok u w∧aL (ctx ρ σ w) y u:=by
 obtain⟨hu,hku,_⟩:=kC ht
 obtain⟨z,hzr,hzrel⟩:=m9 hz w
 unfold dO at h
 split at h
 ·rename_i q hq
  split at h
  ·rename_i hf
   obtain rfl:=kl hk hq
   have hck:=fun em=>run_checkKey (P:=P) (w:=w) hku (dL hf) em 9999
   split at h
   ·cases h
    obtain rfl:=hx.aQ
    have hfk:=run_findKey (P:=P) (w:=w) (l:=[]) (a:=none) hku (k:=q.val) rfl
    refine⟨_,by simp[Instr.lookup,run_underlying hu,hck,hfk,hzr];rfl,?_⟩
    cases ok with
    | true=>exact GS (hzrel _) (.val _)
    | false=>exact hzrel _
   ·rename_i id
    split at h
    ·rename_i es hg
     split at h
     ·rename_i hkf
      cases hx with
      | mp hp=>
       obtain⟨ents,clock,hb,hl,hr⟩:=hs.vO hg hp
       rcases l8 hl hr q hf (iK hkf) with ⟨h1,h2,_⟩ | ⟨j,y',e',h1,h2,_,_,h3,_,_⟩
       ·rw[h1]at h
        cases h
        have hfk:=run_findKey (P:=P) (w:=w) hku h2
        refine⟨_,by simp[Instr.lookup,run_underlying hu,Go.MapKept.run_getObj_map (P:=P) hb,hck,hfk,hzr];rfl,?_⟩
        cases ok with
        | true=>exact GS (hzrel _) (.val _)
        | false=>exact hzrel _
       ·rw[h1]at h
        cases h
        have hfk:=run_findKey (P:=P) (w:=w) hku h2
        refine⟨_,by simp[Instr.lookup,run_underlying hu,Go.MapKept.run_getObj_map (P:=P) hb,hck,hfk];rfl,?_⟩
        cases ok with
        | true=>exact GS h3 (.val _)
        | false=>exact h3
     ·cases h
    ·cases h
   ·cases h
  ·cases h
 ·cases h
theorem zX {ρ σ w} (hs:Sim ρ σ w) {P:Program} {t:TypeId}:∃u w' ρ',(Instr.makeMap t none).run P w= .ok u w'∧aL (ctx ρ' (σ.new (.map [])) w') (.mp σ.next) u∧Sim ρ' (σ.new (.map [])) w'∧Ext ρ σ w ρ' (σ.new (.map [])) w':=by
 have ha:=hs.alloc (.map #[] 0) (.map []) 0 (fun d _ hb=>.map #[] 0 hb rfl (by simp))
 exact⟨.map (some w.heap.size),w.alloc (.map #[] 0),_,by simp[Instr.makeMap],.mp (upρ_get _ _ _ _ _),ha.1,ha.2⟩
theorem sS {es:List (MK×AV)} {q:MK} {y:AV} {j:Nat} {x:AV} (h:es[j]?=some (q,x)) (hb:∀(i:Nat) (k:MK) (z:AV),i<j→es[i]?=some (k,z)→k≠q):du es q y=es.set j (q,y):=by
 induction es generalizing j with
 | nil=>simp at h
 | cons p es ih=>
  obtain⟨k,z⟩:=p
  cases j with
  | zero=>simp at h;obtain⟨rfl,rfl⟩:=h;simp[du]
  | succ j=>
   have hk:=hb 0 k z (by omega) rfl
   simp only[du,hk,if_false,List.set_cons_succ]
   rw[ih (by simpa using h) (fun i k z hi he=>hb (i+1) k z (by omega) (by simpa using he))]
theorem sT {es:List (MK×AV)} {q:MK} {y:AV} (h:∀(i:Nat) (k:MK) (x:AV),es[i]?=some (k,x)→k≠q):du es q y=es++ [(q,y)]:=by
 induction es with
 | nil=>rfl
 | cons p es ih=>
  obtain⟨k,z⟩:=p
  have hk:=h 0 k z rfl
  simp only[du,hk,if_false,List.cons_append]
  rw[ih fun i k x hi=>h (i+1) k x (by simpa using hi)]
theorem sO {es:List (MK×AV)} {q:MK} {j:Nat} {x:AV} (h:es[j]?=some (q,x)) (hb:∀(i:Nat) (k:MK) (z:AV),i<j→es[i]?=some (k,z)→k≠q):gp es q=es.eraseIdx j:=by
 induction es generalizing j with
 | nil=>simp at h
 | cons p es ih=>
  obtain⟨k,z⟩:=p
  cases j with
  | zero=>simp at h;obtain⟨rfl,rfl⟩:=h;simp[gp]
  | succ j=>
   have hk:=hb 0 k z (by omega) rfl
   simp only[gp,hk,if_false,List.eraseIdx_cons_succ]
   rw[ih (by simpa using h) (fun i k z hi he=>hb (i+1) k z (by omega) (by simpa using he))]
theorem qb {es:List (MK×AV)} {q:MK} (h:∀(i:Nat) (k:MK) (x:AV),es[i]?=some (k,x)→k≠q):gp es q=es:=by
 induction es with
 | nil=>rfl
 | cons p es ih=>
  obtain⟨k,z⟩:=p
  have hk:=h 0 k z rfl
  simp only[gp,hk,if_false]
  rw[ih fun i k x hi=>h (i+1) k x (by simpa using hi)]
def cX (d:TypeDesc) (x k y:AV) (σ:ah):Option ah:=
 match asKey k with
 | some q=>if dD d q=true then
  match x with
  | .mp id=>match σ.get id with
   | some (.map es)=>if b9 d es=true then some (σ.set id (.map (du es q y))) else none
   | _=>none
  | _=>none
  else none
 | none=>none
def eR (d:TypeDesc) (x k:AV) (σ:ah):Option ah:=
 match asKey k with
 | some q=>if dD d q=true then
  match x with
  | .mp id=>match σ.get id with
   | some (.map es)=>if b9 d es=true then some (σ.set id (.map (gp es q))) else none
   | _=>none
  | _=>none
  else none
 | none=>none
theorem Sim.lT {ρ σ w} (hs:Sim ρ σ w) {id es b sz ents clock} (hg:σ.get id=some (.map es)) (hp:ρ id=some (some b,sz)) (hb:w.heap[b]?=some (.map ents clock)) (ents':Array MapEntry) (clock':Nat) (es':List (MK×AV))
 (hl:ents'.size=es'.length) (hr:∀(i:Nat) (k:MK) (x:AV) (e:MapEntry),es'[i]?=some (k,x)→ents'[i]?=some e→e.key=k.val∧aL (ctx ρ σ w) x e.val):
 Sim ρ (σ.set id (.map es')) {w with heap:=w.heap.setIfInBounds b (.map ents' clock')}∧Ext ρ σ w ρ (σ.set id (.map es')) {w with heap:=w.heap.setIfInBounds b (.map ents' clock')}:=by
 have hset:=heap_set (o':=.map ents' clock') hb
 refine hs.write hg hp _ (.map es') (fun k hk=>hset.2 k hk) (by simp) (fun cs t f h=>by rw[hb]at h;cases h) rfl rfl rfl (Nat.le_refl _) (fun d hle hd=> ?_)
 exact .map ents' clock' (by rw[hd];exact hset.1) hl (fun i k x e a b=>⟨(hr i k x e a b).1,(hr i k x e a b).2.mono hle⟩)
theorem lj {P:Program} {w:World} {d:TypeDesc} {q:MK} (_h:dD d q=true):(Instr.keyThatStays q.val q.val).run P w= .ok q.val w:=by
 have:Instr.sameBits 10000 q.val q.val=true:=by
  cases q with
  | i k n=>simp[MK.val,Instr.sameBits]
  | s b=>simp only[MK.val,Instr.sameBits];rw[beq_toListBytes];simp
 simp[Instr.keyThatStays,this]
theorem pw {ρ σ w} (hs:Sim ρ σ w) {P t kt d e} (ht:lA P t=some (kt,d,e)) {x k y v kv u} (hx:aL (ctx ρ σ w) x v) (hk:aL (ctx ρ σ w) k kv) (hy:aL (ctx ρ σ w) y u) {σ'} (h:cX d x k y σ=some σ'):
 ∃w',(Instr.mapUpdate t v kv u).run P w= .ok () w'∧Sim ρ σ' w'∧Ext ρ σ w ρ σ' w':=by
 obtain⟨hu,hku,_⟩:=kC ht
 unfold cX at h
 split at h
 ·rename_i q hq
  split at h
  ·rename_i hf
   obtain rfl:=kl hk hq
   have hck:=fun em=>run_checkKey (P:=P) (w:=w) hku (dL hf) em 9999
   split at h
   ·rename_i id
    split at h
    ·rename_i es hg
     split at h
     ·rename_i hkf
      cases h
      cases hx with
      | mp hp=>
       obtain⟨ents,clock,hb,hl,hr⟩:=hs.vO hg hp
       rcases l8 hl hr q hf (iK hkf) with ⟨_,h2,h3⟩ | ⟨j,y',e',_,h2,h3,h4,_,h5,h6⟩
       ·have hfk:=run_findKey (P:=P) (w:=w) hku h2
        have hw:=hs.lT hg hp hb (ents.push {key:=q.val,val:=u,born:=clock}) (clock+1) (du es q y) (by rw[sT h3];simp[hl]) (fun i k x e a b=>by
         rw[sT h3]at a
         rw[List.getElem?_append]at a
         rw[Array.getElem?_push]at b
         split at a
         ·rw[if_neg (by omega)]at b;exact hr i k x e a b
         ·rename_i hi
          have:i - es.length=0:=by
           rcases Nat.eq_zero_or_pos (i - es.length) with h0 | h0
           ·exact h0
           ·rw[List.getElem?_eq_none (by simp;omega)]at a;cases a
          rw[this]at a
          simp at a
          obtain⟨rfl,rfl⟩:=a
          rw[if_pos (by omega)]at b
          cases b
          exact⟨rfl,hy⟩)
        exact⟨_,by simp[Instr.mapUpdate,run_underlying hu,Go.MapKept.run_getObj_map (P:=P) hb,hck,hfk,Go.MapKept.run_setObj_map (P:=P) _ hb],hw.1,hw.2⟩
       ·have hfk:=run_findKey (P:=P) (w:=w) hku h2
        have hj:j<es.length:=(List.getElem?_eq_some_iff.1 h5).1
        have hw:=hs.lT hg hp hb (ents.modify j fun e=>{e with key:=q.val,val:=u}) clock (du es q y) (by rw[sS h5 h6];simp[hl]) (fun i k x e a b=>by
         rw[sS h5 h6,List.getElem?_set]at a
         rw[Array.getElem?_modify]at b
         by_cases hij:j=i
         ·subst hij
          rw[if_pos rfl]at a
          simp only[hj,if_true]at a
          cases a
          rw[if_pos rfl,h3]at b
          cases b
          exact⟨rfl,hy⟩
         ·rw[if_neg hij]at a b
          exact hr i k x e a b)
        exact⟨_,by simp[Instr.mapUpdate,run_underlying hu,Go.MapKept.run_getObj_map (P:=P) hb,hck,hfk,h3,h4,lj hf,Go.MapKept.run_setObj_map (P:=P) _ hb],hw.1,hw.2⟩
     ·cases h
    ·cases h
   ·cases h
  ·cases h
 ·cases h
theorem uS {ρ σ w} (hs:Sim ρ σ w) {P t t2 ty kt d e} (ht:lA P t=some (kt,d,e)) {x k v kv} (hx:aL (ctx ρ σ w) x v) (hk:aL (ctx ρ σ w) k kv) {σ'} (h:eR d x k σ=some σ'):
 ∃w',(Builtin.delete_ #[t,t2] ty #[v,kv]).run P w= .ok (.tuple #[]) w'∧Sim ρ σ' w'∧Ext ρ σ w ρ σ' w':=by
 obtain⟨hu,hku,_⟩:=kC ht
 unfold eR at h
 split at h
 ·rename_i q hq
  split at h
  ·rename_i hf
   obtain rfl:=kl hk hq
   have hck:=fun em=>run_checkKey (P:=P) (w:=w) hku (dL hf) em 9999
   split at h
   ·rename_i id
    split at h
    ·rename_i es hg
     split at h
     ·rename_i hkf
      cases h
      cases hx with
      | mp hp=>
       obtain⟨ents,clock,hb,hl,hr⟩:=hs.vO hg hp
       rcases l8 hl hr q hf (iK hkf) with ⟨_,h2,h3⟩ | ⟨j,y',e',_,h2,h3,h4,_,h5,h6⟩
       ·have hfk:=run_findKey (P:=P) (w:=w) hku h2
        have hw:=hs.lT hg hp hb ents clock (gp es q) (by rw[qb h3];exact hl) (fun i k x e a b=>by rw[qb h3]at a;exact hr i k x e a b)
        exact⟨_,by simp[Builtin.delete_,run_underlying hu,Go.MapKept.run_getObj_map (P:=P) hb,hck,hfk,Go.MapKept.run_setObj_map (P:=P) _ hb],hw.1,hw.2⟩
       ·have hfk:=run_findKey (P:=P) (w:=w) hku h2
        have hj:j<es.length:=(List.getElem?_eq_some_iff.1 h5).1
        have hw:=hs.lT hg hp hb (ents.eraseIdxIfInBounds j) clock (gp es q) (by rw[sO h5 h6,Array.eraseIdxIfInBounds,dif_pos (by omega)];simp[List.length_eraseIdx,hl,hj]) (fun i k x e a b=>by
         rw[sO h5 h6,List.getElem?_eraseIdx]at a
         rw[Array.eraseIdxIfInBounds,dif_pos (by omega),Array.getElem?_eraseIdx]at b
         split at a
         ·rename_i hij;rw[if_pos hij]at b;exact hr i k x e a b
         ·rename_i hij;rw[if_neg hij]at b;exact hr (i+1) k x e a b)
        exact⟨_,by simp[Builtin.delete_,run_underlying hu,Go.MapKept.run_getObj_map (P:=P) hb,hck,hfk,Go.MapKept.run_setObj_map (P:=P) _ hb],hw.1,hw.2⟩
     ·cases h
    ·cases h
   ·cases h
  ·cases h
 ·cases h
end Go.Abs
namespace Go.Abs
open Go
def tS (sz:Nat) (zs:List AV) (x:AV) (σ:ah):Option ah:=
 match x with
 | .win id off s len=>if len=0 then some σ else match σ.get id with
  | some (.cells sz' els)=>if sz'=sz∧s=sz∧zs.length=sz∧off+len≤els.length then some (σ.set id (.cells sz (els.take off++List.replicate len zs++els.drop (off+len)))) else none
  | _=>none
 | _=>none
theorem GF {ρ σ w} (hs:Sim ρ σ w) {P t ty e sz bytes zs} (ht:fI P t=some (e,sz,bytes)) (hz:zeroOf P e=some zs) {x v} (hx:aL (ctx ρ σ w) x v) {σ'} (h:tS sz zs x σ=some σ'):
 ∃w',(Builtin.clear_ #[t] ty #[v]).run P w= .ok (.tuple #[]) w'∧Sim ρ σ' w'∧Ext ρ σ w ρ σ' w':=by
 obtain⟨hu,i,z0,hi,hzz,rfl,rfl⟩:=fg ht
 unfold tS at h
 split at h
 ·rename_i id off s len
  split at h
  ·rename_i h0
   subst h0
   cases h
   rcases hx.nI with ⟨b,s',cap,rfl,hp,_⟩ | ⟨_,a,cap,rfl⟩
   ·exact⟨w,by simp[Builtin.clear_,run_underlying hu],hs,Ext.refl _ _ _⟩
   ·cases a<;>exact⟨w,by simp[Builtin.clear_,run_underlying hu],hs,Ext.refl _ _ _⟩
  ·rename_i h0
   split at h
   ·rename_i sz' els hg
    split at h
    ·rename_i hc
     obtain⟨rfl,rfl,hzl,hfit⟩:=hc
     cases h
     rcases hx.nI with ⟨b,s',cap,rfl,hp,_⟩ | ⟨h1,_⟩
     ·obtain⟨p,hp',hor⟩:=hs.obj id _ hg
      have hp2:ρ id=some (some b,s'):=hp
      rw[hp2]at hp';cases hp'
      obtain⟨rfl,cs,te,hb,hcsz,hel,hone,hr⟩:=hor.eS
      have hb:w.heap[b]?=some (.cells cs te (0,0)):=hb
      obtain⟨z,hzr,z1,z2,z3⟩:=dX hz w
      have hlen:(Builtin.zeroCells z.cells len).size=len * i.size:=by simp[Builtin.zeroCells,z1,hzl]
      have hgetz:∀j,j<len * i.size→(Builtin.zeroCells z.cells len)[j]?=z.cells[j % i.size]?:=by
       intro j hj
       have hpos:0<i.size:=by rcases Nat.eq_zero_or_pos i.size with e | e;·rw[e]at hj;simp at hj
                              ·exact e
       have hm:j % z.cells.size<z.cells.size:=Nat.mod_lt _ (by omega)
       simp only[Builtin.zeroCells,Array.getElem?_map]
       rw[Array.getElem?_eq_getElem (by simp[z1,hzl];exact hj)]
       simp only[Array.getElem_range,Option.map_some]
       rw[getElem!_pos z.cells _ hm,←Array.getElem?_eq_getElem hm,z1,hzl]
      have hm:off * i.size+len * i.size≤els.length * i.size:=by rw[←Nat.add_mul];exact Nat.mul_le_mul_right _ hfit
      have h1:∀u∈(Builtin.zeroCells z.cells len).toList,u.oneCell'=true:=by
       intro u hu'
       obtain⟨j,hj,rfl⟩:=List.getElem_of_mem hu'
       have hj':j<len * i.size:=by rw[←hlen];simpa using hj
       have:=hgetz j hj'
       rw[Array.getElem?_eq_getElem (by omega)]at this
       exact z2 _ _ (by rw[←this];simp)
      have hst:=run_storeCells_at P b (off * i.size) te (Builtin.zeroCells z.cells len).toList 0 cs w hb (by simp[hlen];omega) h1
      simp only[Nat.add_zero]at hst
      have hsp:off * i.size+(Builtin.zeroCells z.cells len).size≤cs.size:=by omega
      refine⟨w.setRow b (cF cs (off * i.size) (Builtin.zeroCells z.cells len)),?_,?_⟩
      ·cases len with
       | zero=>exact absurd rfl h0
       | succ len=>
        simp only[Builtin.clear_,List.getElem?_toArray,List.getElem?_cons_zero,Sem.run_bind,run_underlying hu,Result.andThen_ok,hzr,hst,Sem.run_pure,cF]
        simp
      ·have r2:=setRow_heap w b cs (cF cs (off * i.size) (Builtin.zeroCells z.cells len)) te (0,0) hb
       refine hs.write hg hp _ _ (fun k hk=>setRow_other w b k _ hk) (by simp[World.setRow]) (fun cs' t' f' h'=> ?_) rfl rfl rfl (Nat.le_refl _) (fun d hle hd=> ?_)
       ·rw[hb]at h';cases h'
        exact⟨_,_,r2,dz hsp⟩
       ·refine .cells (cF cs (off * i.size) (Builtin.zeroCells z.cells len)) te (by rw[hd];exact r2) ?_ ?_ ?_ ?_
        ·rw[dz hsp]
         have:(els.take off++List.replicate len zs++els.drop (off+len)).length=els.length:=by simp;omega
         rw[this];exact hcsz
        ·intro k el hk
         rcases List.mem_append.1 (List.mem_of_getElem? hk) with hk | hk
         ·rcases List.mem_append.1 hk with hk | hk
          ·obtain⟨q,hq⟩:=List.getElem?_of_mem (List.mem_of_mem_take hk)
           exact hel q el hq
          ·rw[List.mem_replicate]at hk;rw[hk.2];exact hzl
         ·obtain⟨q,hq⟩:=List.getElem?_of_mem (List.mem_of_mem_drop hk)
          exact hel q el hq
        ·intro j u hu'
         rw[bZ hsp]at hu'
         split at hu'
         ·exact h1 u (by obtain⟨q1,q2⟩:=Array.getElem?_eq_some_iff.1 hu';rw[←q2];simp)
         ·exact hone _ _ hu'
        ·intro k el j y hk hy u hu'
         rw[bZ hsp,hlen]at hu'
         have hke:el.length=i.size:=by
          rcases List.mem_append.1 (List.mem_of_getElem? hk) with hk | hk
          ·rcases List.mem_append.1 hk with hk | hk
           ·obtain⟨q,hq⟩:=List.getElem?_of_mem (List.mem_of_mem_take hk)
            exact hel q el hq
           ·rw[List.mem_replicate]at hk;rw[hk.2];exact hzl
          ·obtain⟨q,hq⟩:=List.getElem?_of_mem (List.mem_of_mem_drop hk)
           exact hel q el hq
         have hj:j<i.size:=by rw[←hke];exact(List.getElem?_eq_some_iff.1 hy).1
         have hto:(els.take off).length=off:=by simp;omega
         by_cases c1:k<off
         ·have hrow:=da (sz:=i.size) c1
          rw[if_neg (by omega)]at hu'
          rw[List.append_assoc,List.getElem?_append_left (by omega),List.getElem?_take,if_pos c1]at hk
          exact(hr k el j y hk hy u hu').mono hle
         ·by_cases c2:k<off+len
          ·have e1:off * i.size≤k * i.size:=Nat.mul_le_mul_right _ (by omega)
           have hrow:=da (sz:=i.size) c2
           rw[Nat.add_mul]at hrow
           rw[if_pos ⟨by omega,by omega⟩,hgetz _ (by omega)]at hu'
           rw[List.getElem?_append_left (by simp;omega),List.getElem?_append_right (by omega)]at hk
           obtain⟨_,rfl⟩:=cm hk
           have e2:(k * i.size+j - off * i.size) % i.size=j:=by
            rw[show k * i.size+j - off * i.size=(k - off) * i.size+j by rw[Nat.sub_mul];omega,Nat.mul_comm,Nat.mul_add_mod,Nat.mod_eq_of_lt hj]
           rw[e2]at hu'
           exact z3 d j y u hy hu'
          ·have e1:(off+len) * i.size≤k * i.size:=Nat.mul_le_mul_right _ (by omega)
           rw[Nat.add_mul]at e1
           rw[if_neg (by omega)]at hu'
           have hlen2:(els.take off++List.replicate len zs).length=off+len:=by simp;omega
           rw[List.getElem?_append_right (by omega),List.getElem?_drop,hlen2,show off+len+(k - (off+len))=k by omega]at hk
           exact(hr k el j y hk hy u hu').mono hle
     ·exact absurd h1 h0
    ·cases h
   ·cases h
 ·cases h
def kM (sz bytes:Nat) (zs:List AV) (s x:AV) (σ:ah):Option (AV×ah):=
 match s,x with
 | .val (.slice none 0 0),.val (.int _ n)=>if 0<n∧n.toNat * bytes≤140737488355328∧n≤140737488355328∧zs.length=sz∧0<sz then some (.own σ.next n.toNat,σ.new (.cells sz (List.replicate n.toNat zs))) else none
 | _,_=>none
theorem pQ {z:Array Value} {len sz j:Nat} (hz:z.size=sz) (hj:j<len * sz):(Builtin.zeroCells z len)[j]?=z[j % sz]?:=by
 have hpos:0<sz:=by
  rcases Nat.eq_zero_or_pos sz with e | e
  ·rw[e]at hj;simp at hj
  ·exact e
 have hm:j % z.size<z.size:=Nat.mod_lt _ (by omega)
 simp only[Builtin.zeroCells,Array.getElem?_map]
 rw[Array.getElem?_eq_getElem (by simp[hz];exact hj)]
 simp only[Array.getElem_range,Option.map_some]
 rw[getElem!_pos z _ hm,←Array.getElem?_eq_getElem hm,hz]
theorem zS {ρ σ w} (hs:Sim ρ σ w) {P t ty e sz bytes zs} (ht:fI P t=some (e,sz,bytes)) (hz:zeroOf P e=some zs) {tn kn} (htn:P.underlying tn=some (.int kn)) {s x a v} (hx:aL (ctx ρ σ w) s a) (hy:aL (ctx ρ σ w) x v) {r σ'}
 (h:kM sz bytes zs s x σ=some (r,σ')):
 ∃u w' ρ',(Builtin.append_ #[t,tn] ty #[a,v]).run P w= .ok u w'∧aL (ctx ρ' σ' w') r u∧Sim ρ' σ' w'∧Ext ρ σ w ρ' σ' w':=by
 obtain⟨hu,i,z0,hi,hzz,rfl,rfl⟩:=fg ht
 unfold kM at h
 split at h
 ·rename_i kq n
  split at h
  ·rename_i hc
   obtain⟨h0,hb,hn,hzl,hsz⟩:=hc
   cases h
   obtain rfl:=hx.aQ
   obtain rfl:=hy.aQ
   obtain⟨m,rfl⟩:∃m:Nat,n=m:=⟨n.toNat,by omega⟩
   simp only[Int.toNat_natCast]at *
   obtain⟨z,hzr,z1,z2,z3⟩:=dX hz w
   have hz':z0=z:=by simp[zeroValue,typeInfo,hi,hzz]at hzr;exact hzr
   subst hz'
   have hrun:=Go.Lib.run_append_grow_zeros (P:=P) w t tn ty e i z0 kq kn hu htn hi hzz none 0 0 [] (by simp[Builtin.firstCells]) m (by omega) hsz (by omega) (by omega) (by omega) (by simpa using growslice_fits (show 0<0+m by omega) (by simpa using hb))
   simp only[Nat.zero_add]at hrun
   have hge:=grownCap_ge w m 0 e
   have hzs:z0.cells.size=i.size:=by omega
   generalize grownCap w m 0 e=g at hrun hge
   have he:(([]:List Value).toArray++Builtin.zeroCells z0.cells m++Builtin.zeroCells z0.cells (g - m)).size=g * i.size:=by
    have:m * i.size+(g - m) * i.size=g * i.size:=by rw[←Nat.add_mul];congr 1;omega
    simp[Builtin.zeroCells,hzs,this]
   obtain⟨hd1,hd2⟩:=hs.drawn w.drew.drawn (Nat.le_succ _)
   have hgetz:∀j,j<m * i.size→(([]:List Value).toArray++Builtin.zeroCells z0.cells m++Builtin.zeroCells z0.cells (g - m))[j]?=z0.cells[j % i.size]?:=by
    intro j hj
    rw[Array.getElem?_append_left (by simp[Builtin.zeroCells,hzs];exact hj)]
    simp only[Array.empty_append]
    exact pQ hzs hj
   have hor:∀d:Ctx,d.h[w.drew.heap.size]?=some (.cells (([]:List Value).toArray++Builtin.zeroCells z0.cells m++Builtin.zeroCells z0.cells (g - m)) e (0,0))→fw d (.cells i.size (List.replicate m zs)) (some w.drew.heap.size,i.size):=by
    intro d hd
    refine .cells _ e hd ?_ ?_ ?_ ?_
    ·rw[he,List.length_replicate];exact Nat.mul_le_mul_right _ hge
    ·intro k el hk;obtain⟨_,rfl⟩:=cm hk;exact hzl
    ·intro j v hv
     have hm:v∈(([]:List Value).toArray++Builtin.zeroCells z0.cells m++Builtin.zeroCells z0.cells (g - m)):=Array.mem_of_getElem? hv
     simp only[Array.mem_append]at hm
     rcases hm with (hm | hm) | hm
     ·simp at hm
     ·exact gW z2 m v (by simpa using hm)
     ·exact gW z2 (g - m) v (by simpa using hm)
    ·intro k el j x hk hx v hv
     obtain⟨hk1,rfl⟩:=cm hk
     have hj:j<i.size:=by rw[←hzl];exact(List.getElem?_eq_some_iff.1 hx).1
     have hrow:=da (sz:=i.size) hk1
     rw[hgetz _ (by omega),Nat.mul_comm,Nat.mul_add_mod,Nat.mod_eq_of_lt hj]at hv
     exact z3 d j x v hx hv
   have ha:=hd1.alloc (.cells (([]:List Value).toArray++Builtin.zeroCells z0.cells m++Builtin.zeroCells z0.cells (g - m)) e) (.cells i.size (List.replicate m zs)) i.size (fun d hle hd=>hor d hd)
   refine⟨_,_,_,hrun,?_,ha.1,hd2.trans ha.2⟩
   exact .own (upρ_get _ _ _ _ _) hge ⟨_,e,(0,0),heap_alloc_new _ _,by rw[he];exact Nat.le_refl _⟩
  ·cases h
 ·cases h
end Go.Abs
