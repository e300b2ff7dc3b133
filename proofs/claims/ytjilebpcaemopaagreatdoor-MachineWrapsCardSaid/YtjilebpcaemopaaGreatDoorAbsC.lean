import Derived.Test.YtjilebpcaemopaaGreatDoorAbsA
set_option linter.unusedVariables false
namespace Go.Abs
open Go
theorem ah.ext' {σ τ:ah} (h1:σ.next=τ.next) (h2:∀i,σ.get i=τ.get i):σ=τ:=by
 cases σ;cases τ;simp at h1 h2;subst h1;congr;funext i;exact h2 i
theorem ah.Dc (σ:ah) (id:Nat) (o:dm):(σ.set id o).del id=σ.del id:=by
 refine ah.ext' rfl fun i=> ?_
 by_cases e:i=id
 ·subst e;simp
 ·rw[ah.gQ e,ah.gQ e,ah.kI e]
theorem ah.vQ (σ:ah) (id:Nat) (o:dm) (h:id≠σ.next):(σ.new o).del id=(σ.del id).new o:=by
 refine ah.ext' rfl fun i=> ?_
 by_cases e:i=id
 ·subst e;rw[ah.od,ah.di (by simpa using h),ah.od]
 ·rw[ah.gQ e]
  by_cases e2:i=σ.next
  ·subst e2;rw[ah.im];exact(ah.im (σ.del id) o).symm
  ·rw[ah.di e2,ah.di (by simpa using e2),ah.gQ e]
theorem Sim.junk {ρ σ w} (hs:Sim ρ σ w) (o:Obj):Sim ρ σ (w.alloc o)∧Ext ρ σ w ρ σ (w.alloc o)∧Imm ρ σ (w.alloc o) w.heap.size∧(w.alloc o).heap[w.heap.size]?=some o:=by
 have hsz:(w.alloc o).heap.size=w.heap.size+1:=by show(w.heap.push o).size=_;simp
 have hold:∀b:Nat,b<w.heap.size→(w.alloc o).heap[b]?=w.heap[b]?:=fun b hb=>Go.RowKit.Below.heap_alloc w o b hb
 have hnew:(w.alloc o).heap[w.heap.size]?=some o:=by show(w.heap.push o)[w.heap.size]?=_;simp
 have hle:CLe (ctx ρ σ w) (ctx ρ σ (w.alloc o)):=by
  refine⟨fun _ _ h=>h,fun b hb=>⟨⟨by rw[hsz];exact Nat.lt_succ_of_lt hb.1,hb.2⟩,hold b hb.1⟩,fun b cs t f hb=> ?_⟩
  exact⟨cs,f,by rw[show(ctx ρ σ (w.alloc o)).h=(w.alloc o).heap from rfl,hold b (Array.getElem?_eq_some_iff.1 hb).1];exact hb,rfl⟩
 refine⟨⟨hs.fresh,fun id o' ho'=> ?_,hs.inj⟩,⟨hle,Nat.le_refl _,rfl,rfl,rfl,by rw[hsz];exact Nat.le_succ _⟩,⟨by rw[hsz];exact Nat.lt_succ_self _,fun id o' s ho' hp=> ?_⟩,hnew⟩
 ·obtain⟨p,hp,hor⟩:=hs.obj id o' ho'
  refine⟨p,hp,hor.mono hle fun b hb=>hold b ?_⟩
  obtain⟨pb,psz⟩:=p
  simp at hb;subst hb
  exact hor.lt
 ·exact Nat.lt_irrefl _ (hs.blk ho' hp)
theorem Sim.move {ρ σ w} (hs:Sim ρ σ w) {id:Nat} {ao:dm} {p} (hid:σ.get id=some ao) (hp:ρ id=some p):
 Sim (upρ ρ σ.next p) ((σ.del id).new ao) w∧Ext ρ σ w (upρ ρ σ.next p) ((σ.del id).new ao) w:=by
 have hne:id≠σ.next:=fun e=>by have:=hs.lt hid;omega
 have hρ:∀i q,ρ i=some q→upρ ρ σ.next p i=some q:=by
  intro i q hq
  rw[upρ_ne]
  ·exact hq
  ·intro e;subst e;rw[hs.fresh _ (Nat.le_refl _)]at hq;cases hq
 have hget:∀i o,((σ.del id).new ao).get i=some o→∃k,σ.get k=some o∧upρ ρ σ.next p i=ρ k∧(i=σ.next→k=id)∧(i≠σ.next→k=i):=by
  intro i o h
  by_cases e:i=σ.next
  ·subst e
   have h':=ah.im (σ.del id) ao
   simp only[ah.fZ]at h'
   rw[h']at h;cases h
   exact⟨id,hid,by rw[upρ_same,hp],fun _=>rfl,fun h=>absurd rfl h⟩
  ·rw[ah.di (by simpa using e)]at h
   have e2:i≠id:=by intro e2;subst e2;simp at h
   rw[ah.gQ e2]at h
   exact⟨i,h,upρ_ne e,fun h=>absurd h e,fun _=>rfl⟩
 have hle:CLe (ctx ρ σ w) (ctx (upρ ρ σ.next p) ((σ.del id).new ao) w):=by
  refine⟨hρ,fun b hb=>⟨⟨hb.1,fun i o s ho hpi=> ?_⟩,rfl⟩,fun b cs t f hb=>⟨cs,f,hb,rfl⟩⟩
  obtain⟨k,hk,e,_⟩:=hget i o ho
  rw[e]at hpi
  exact hb.2 k o s hk hpi
 refine⟨⟨fun i hi=> ?_,fun i o ho=> ?_,fun i j oi oj b s t hi hj pi pj=> ?_⟩,⟨hle,Nat.le_succ _,rfl,rfl,rfl,Nat.le_refl _⟩⟩
 ·have:i≠σ.next:=by intro e;subst e;simp at hi;omega
  rw[upρ_ne this];exact hs.fresh i (by simp at hi;omega)
 ·obtain⟨k,hk,e,_⟩:=hget i o ho
  obtain⟨q,hq,hor⟩:=hs.obj k o hk
  exact⟨q,by rw[e];exact hq,hor.mono hle fun _ _=>rfl⟩
 ·obtain⟨k,hk,e,h1,h2⟩:=hget i oi hi
  obtain⟨l,hl,f,h3,h4⟩:=hget j oj hj
  rw[e]at pi;rw[f]at pj
  have hkl:=hs.inj k l oi oj b s t hk hl pi pj
  by_cases ei:i=σ.next<;>by_cases ej:j=σ.next
  ·rw[ei,ej]
  ·have:=h1 ei;have:=h4 ej;subst_vars
   exact absurd (hget l oj hj) (by rintro⟨k',hk',e',_,h2'⟩;have:=h2' ej;subst this;rw[ah.di (by simpa using ej)]at hj;simp at hj)
  ·have:=h2 ei;have:=h3 ej;subst_vars
   exact absurd hi (by rw[ah.di (by simpa using ei)];simp)
  ·rw[←h2 ei,←h4 ej,hkl]
def eA (sz:Nat) (x:AV) (σ:ah):Option (List (List AV)):=
 match x with
 | .val (.slice none 0 0)=>some []
 | .sl _ sz' xs=>if sz'=sz then some xs else none
 | .own id len=>match σ.get id with
  | some (.cells sz' els)=>if sz'=sz∧len≤els.length then some (els.take len) else none
  | _=>none
 | _=>none
structure Src (c:Ctx) (w:World) (sz:Nat) (ys:List (List AV)) (xa:Option Addr) (news:List Value):Prop where
 len:news.length=ys.length * sz
 none:xa=none→ys= []
 cell:∀ad,xa=some ad→∀(j:Nat) u,news[j]?=some u→w.cell? (ad.add j)=some u
 one:∀u∈news,u.oneCell'=true
 rel:∀(i:Nat) el (j:Nat) x,ys[i]?=some el→el[j]?=some x→aL c x (news.getD (i * sz+j) undef)
 ll:∀(i:Nat) el,ys[i]?=some el→el.length=sz
theorem ga {k sz n:Nat} (h:k<n * sz):0<sz∧k / sz<n∧k % sz<sz∧k / sz * sz+k % sz=k:=by
 have h0:0<sz:=by
  rcases Nat.eq_zero_or_pos sz with e | e
  ·subst e;simp at h
  ·exact e
 exact⟨h0,(Nat.div_lt_iff_lt_mul h0).2 h,Nat.mod_lt _ h0,by rw[Nat.mul_comm];exact Nat.div_add_mod k sz⟩
theorem Sim.src {ρ σ w} (hs:Sim ρ σ w) {x v ys sz} (hv:aL (ctx ρ σ w) x v) (he:eA sz x σ=some ys):
 ∃xa xc news,v= .slice xa ys.length xc∧ys.length≤xc∧(xa=none→xc=0)∧Src (ctx ρ σ w) w sz ys xa news:=by
 unfold eA at he
 split at he
 ·cases he
  cases hv
  exact⟨none,0,[],rfl,Nat.le_refl _,fun _=>rfl,by simp,fun _=>rfl,(fun ad h=>by cases h),by simp,by simp,by simp⟩
 ·rename_i clip sz' xs
  split at he
  ·rename_i e
   subst e
   cases he
   cases hv with
   | sl f hl hn hcap hclip hc hr=>
    rename_i a len cap
    subst hl
    refine⟨a,cap,(List.range (ys.length * sz')).map fun k=>f (k / sz') (k % sz'),rfl,hcap,fun h=>(hn h).2,by simp,fun h=>(hn h).1,?_,?_,?_,fun i el he=>(hc i el he).1⟩
    ·intro ad had j u hu
     simp only[List.getElem?_map]at hu
     by_cases hj:j<ys.length * sz'
     ·simp only[List.getElem?_range hj,Option.map_some,Option.some.injEq]at hu
      subst hu
      obtain⟨h0,h1,h2,h3⟩:=ga hj
      obtain⟨el,hel⟩:∃el,ys[j / sz']?=some el:=⟨_,List.getElem?_eq_getElem h1⟩
      obtain⟨e2,b,o,e3,_,e4⟩:=hc _ _ hel
      rw[e3]at had;cases had
      have:=(e4 (j % sz') h2).1
      rw[add_lit,iC,←this,Nat.add_assoc,h3]
      rfl
     ·rw[List.getElem?_eq_none (by simp;omega)]at hu;cases hu
    ·intro u hu
     obtain⟨k,hk,rfl⟩:=List.mem_map.1 hu
     simp only[List.mem_range]at hk
     obtain⟨h0,h1,h2,h3⟩:=ga hk
     obtain⟨el,hel⟩:∃el,ys[k / sz']?=some el:=⟨_,List.getElem?_eq_getElem h1⟩
     obtain⟨e2,b,o,e3,_,e4⟩:=hc _ _ hel
     exact(e4 (k % sz') (by omega)).2
    ·intro i el j x hi hx
     have hil:=(List.getElem?_eq_some_iff.1 hi).1
     have e1:=(hc _ _ hi).1
     have hjl:j<sz':=by rw[←e1];exact(List.getElem?_eq_some_iff.1 hx).1
     have hlt:i * sz'+j<ys.length * sz':=by
      have:=Nat.mul_le_mul_right sz' (Nat.succ_le_of_lt hil);rw[Nat.succ_mul]at this;omega
     have h0:0<sz':=by omega
     have q1:(i * sz'+j) / sz'=i:=by rw[Nat.mul_comm,Nat.mul_add_div h0,Nat.div_eq_of_lt hjl];omega
     have q2:(i * sz'+j) % sz'=j:=by rw[Nat.mul_comm,Nat.mul_add_mod,Nat.mod_eq_of_lt hjl]
     simp only[List.getD_eq_getElem?_getD,List.getElem?_map,List.getElem?_range hlt,Option.map_some,Option.getD_some,q1,q2]
     exact hr i el j x hi hx
  ·cases he
 ·rename_i id len
  split at he
  ·rename_i sz' els hg
   split at he
   ·rename_i hle
    obtain⟨rfl,hle⟩:=hle
    cases he
    have hlen:(els.take len).length=len:=by simp;omega
    rcases hv.fP with ⟨b,sz2,cap,rfl,hp,hl,_⟩ | ⟨rfl,a,rfl,_⟩
    ·obtain⟨p,hp',hor⟩:=hs.obj id _ hg
     have hp2:ρ id=some (some b,sz2):=hp
     rw[hp2]at hp';cases hp'
     obtain⟨rfl,cs,t,hbb,hcsz,hel,hone,hr⟩:=hor.eS
     have hbb:w.heap[b]?=some (.cells cs t (0,0)):=hbb
     have hm:len * sz'≤els.length * sz':=Nat.mul_le_mul_right _ hle
     refine⟨some ⟨b,0,none⟩,cap,cs.toList.take (len * sz'),by rw[hlen],by rw[hlen];exact hl,(fun h=>by cases h),by rw[hlen,List.length_take,Array.length_toList];omega,(fun h=>by cases h),?_,?_,?_,fun i el hi=> ?_⟩
     ·intro ad had j u hu
      cases had
      rw[List.getElem?_take]at hu
      split at hu
      ·rw[add_lit,iC,cellOf,hbb];simpa using hu
      ·cases hu
     ·intro u hu
      obtain⟨j,hj,rfl⟩:=List.getElem_of_mem (List.mem_of_mem_take hu)
      exact hone j _ (by simp at hj;simp[hj])
     ·intro i el j x hi hx
      have hil:=(List.getElem?_eq_some_iff.1 hi).1
      rw[hlen]at hil
      rw[List.getElem?_take,if_pos hil]at hi
      have hjl:j<sz':=by rw[←hel _ _ hi];exact(List.getElem?_eq_some_iff.1 hx).1
      have hlt:i * sz'+j<len * sz':=by
       have:=Nat.mul_le_mul_right sz' (Nat.succ_le_of_lt hil);rw[Nat.succ_mul]at this;omega
      have hlt2:i * sz'+j<cs.size:=by omega
      have:=hr i el j x hi hx cs[i * sz'+j] (by simp[hlt2])
      simpa [List.getD_eq_getElem?_getD,List.getElem?_take,hlt,hlt2] using this
     ·rw[List.getElem?_take]at hi
      split at hi
      ·exact hel _ _ hi
      ·cases hi
    ·exact⟨a,0,[],by simp,by simp,fun _=>rfl,by simp,by simp,(fun ad h j u hu=>by simp at hu),by simp,by simp,by simp⟩
   ·cases he
  ·cases he
 ·cases he
def aY (sz bytes:Nat) (s x:AV) (σ:ah):Option (AV×ah):=
 match eA sz s σ,eA sz x σ with
 | some es,some ys=>
  if (es.length+ys.length) * bytes≤140737488355328∧es.length+ys.length≤140737488355328 then
   match s with
   | .val (.slice none 0 0)=>some (.own σ.next (es.length+ys.length),σ.new (.cells sz (es++ys)))
   | .own id _=>some (.own σ.next (es.length+ys.length),(σ.del id).new (.cells sz (es++ys)))
   | .sl true _ _=>if es.length=0∨0<ys.length then some (.own σ.next (es.length+ys.length),σ.new (.cells sz (es++ys))) else some (.sl true sz es,σ)
   | _=>none
  else none
 | _,_=>none
def fI (P:Program) (t:TypeId):Option (TypeId×Nat×Nat):=
 match P.underlying t with
 | some (.slice e)=>match P.info? e with
  | some i=>if i.zero.isSome then some (e,i.size,i.bytes) else none
  | none=>none
 | _=>none
theorem fg {P t e sz bytes} (h:fI P t=some (e,sz,bytes)):P.underlying t=some (.slice e)∧∃i z,P.info? e=some i∧i.zero=some z∧i.size=sz∧i.bytes=bytes:=by
 unfold fI at h
 split at h
 ·rename_i e' he
  split at h
  ·rename_i i hi
   split at h
   ·rename_i hz
    cases h
    obtain⟨z,hz⟩:=Option.isSome_iff_exists.1 hz
    exact⟨he,i,z,hi,hz,rfl,rfl⟩
   ·cases h
  ·cases h
 ·cases h
theorem oZ {c:Ctx} {sz:Nat} {es ys:List (List AV)} {olds news:List Value} (h1:olds.length=es.length * sz)
 (r1:∀(i:Nat) el (j:Nat) x,es[i]?=some el→el[j]?=some x→aL c x (olds.getD (i * sz+j) undef)) (r2:∀(i:Nat) el (j:Nat) x,ys[i]?=some el→el[j]?=some x→aL c x (news.getD (i * sz+j) undef))
 (l1:∀(i:Nat) el,es[i]?=some el→el.length=sz):
 ∀(i:Nat) el (j:Nat) x,(es++ys)[i]?=some el→el[j]?=some x→aL c x ((olds++news).getD (i * sz+j) undef):=by
 intro i el j x hi hx
 rw[List.getElem?_append]at hi
 split at hi
 ·rename_i hil
  have hjl:j<sz:=by rw[←l1 _ _ hi];exact(List.getElem?_eq_some_iff.1 hx).1
  have hlt:i * sz+j<olds.length:=by
   have:=Nat.mul_le_mul_right sz (Nat.succ_le_of_lt hil);rw[Nat.succ_mul]at this;omega
  rw[List.getD_eq_getElem?_getD,List.getElem?_append_left hlt,←List.getD_eq_getElem?_getD]
  exact r1 i el j x hi hx
 ·rename_i hil
  have hge:olds.length≤i * sz+j:=by
   have:=Nat.mul_le_mul_right sz (Nat.le_of_not_lt hil);omega
  have e:i * sz+j - olds.length=(i - es.length) * sz+j:=by
   rw[h1,Nat.sub_mul]
   have:=Nat.mul_le_mul_right sz (Nat.le_of_not_lt hil);omega
  rw[List.getD_eq_getElem?_getD,List.getElem?_append_right hge,←List.getD_eq_getElem?_getD,e]
  exact r2 _ el j x hi hx
theorem fw.ofList {c:Ctx} {b sz:Nat} {arr:Array Value} {t:TypeId} {els:List (List AV)} {vals:List Value} (hb:c.h[b]?=some (.cells arr t (0,0))) (hv:vals.length=els.length * sz)
 (hpre:∀j,j<vals.length→arr[j]?=vals[j]?) (hsz:vals.length≤arr.size) (hone:∀(j:Nat) v,arr[j]?=some v→v.oneCell'=true) (hl:∀(i:Nat) el,els[i]?=some el→el.length=sz)
 (hr:∀(i:Nat) el (j:Nat) x,els[i]?=some el→el[j]?=some x→aL c x (vals.getD (i * sz+j) undef)):fw c (.cells sz els) (some b,sz):=by
 refine .cells arr t hb (by omega) hl hone fun i el j x hi hx v hvv=> ?_
 have hil:=(List.getElem?_eq_some_iff.1 hi).1
 have hjl:j<sz:=by rw[←hl _ _ hi];exact(List.getElem?_eq_some_iff.1 hx).1
 have hlt:i * sz+j<vals.length:=by
  have:=Nat.mul_le_mul_right sz (Nat.succ_le_of_lt hil);rw[Nat.succ_mul]at this;omega
 have:=hr i el j x hi hx
 rw[hpre _ hlt]at hvv
 rwa [List.getD_eq_getElem?_getD,hvv]at this
theorem gW {z:Array Value} (h:∀(j:Nat) v,z[j]?=some v→v.oneCell'=true) (n:Nat):∀u∈(Builtin.zeroCells z n).toList,u.oneCell'=true:=by
 intro u hu
 simp only[Builtin.zeroCells,Array.toList_map,List.mem_map]at hu
 obtain⟨i,hi,rfl⟩:=hu
 have hi:i<n * z.size:=by simpa using hi
 obtain⟨h0,h1,h2,_⟩:=ga hi
 rw[getElem!_pos z (i % z.size) h2]
 exact h _ _ (Array.getElem?_eq_getElem h2)
theorem wY {P:Program} {sz:Nat} {e:TypeId} {i:TypeInfo} {z:Value} (hz:zeroOf P e≠none) (hi:P.info? e=some i) (hzz:i.zero=some z) {c:Ctx} {b:Nat} {es ys:List (List AV)} {olds news:List Value} {k:Nat}
 (hb:c.h[b]?=some (.cells (olds.toArray++news.toArray++Builtin.zeroCells z.cells k) e)) (ho:olds.length=es.length * sz) (hn:news.length=ys.length * sz)
 (o1:∀u∈olds,u.oneCell'=true) (n1:∀u∈news,u.oneCell'=true)
 (r1:∀(i:Nat) el (j:Nat) x,es[i]?=some el→el[j]?=some x→aL c x (olds.getD (i * sz+j) undef)) (r2:∀(i:Nat) el (j:Nat) x,ys[i]?=some el→el[j]?=some x→aL c x (news.getD (i * sz+j) undef))
 (l1:∀(i:Nat) el,es[i]?=some el→el.length=sz) (l2:∀(i:Nat) el,ys[i]?=some el→el.length=sz):fw c (.cells sz (es++ys)) (some b,sz):=by
 have hzo:∀(j:Nat) v,z.cells[j]?=some v→v.oneCell'=true:=by
  unfold zeroOf at hz
  rw[hi]at hz
  simp only[hzz]at hz
  split at hz
  ·rename_i h1;exact jm h1
  ·exact absurd rfl hz
 refine fw.ofList (vals:=olds++news) hb (by rw[List.length_append,List.length_append,ho,hn,Nat.add_mul]) (fun j hj=> ?_) (by simp) (fun j v hv=> ?_) (fun i el he=> ?_) (oZ ho r1 r2 l1)
 ·rw[Array.getElem?_append_left (by simpa using hj)]
  simp
 ·have:v∈(olds.toArray++news.toArray++Builtin.zeroCells z.cells k):=Array.mem_of_getElem? hv
  simp only[Array.mem_append,List.mem_toArray]at this
  rcases this with (h | h) | h
  ·exact o1 v h
  ·exact n1 v h
  ·exact gW hzo k v (by simpa using h)
 ·rw[List.getElem?_append]at he
  split at he
  ·exact l1 _ _ he
  ·exact l2 _ _ he
theorem Src.mono {c d:Ctx} {w:World} {sz ys xa news} (hle:CLe c d) (h:Src c w sz ys xa news):Src d w sz ys xa news:=
 ⟨h.len,h.none,h.cell,h.one,fun i el j x a b=>(h.rel i el j x a b).mono hle,h.ll⟩
theorem xP {P:Program} {e:TypeId} {i:TypeInfo} {z:Value} (hi:P.info? e=some i) (hzz:i.zero=some z) {zs} (hz0:zeroOf P e=some zs):z.cells.size=zs.length:=by
 unfold zeroOf at hz0
 rw[hi]at hz0
 simp only[hzz]at hz0
 split at hz0
 ·cases hz0;simp
 ·cases hz0
theorem fu {P:Program} {w:World} {t ty e:TypeId} {i:TypeInfo} (hu:P.underlying t=some (.slice e)) (hi:P.info? e=some i) (sa:Option Addr) (n sc:Nat) (hsc:n≤sc) (xa:Option Addr) (xc:Nat):
 (Builtin.append_ #[t,t] ty #[.slice sa n sc,.slice xa 0 xc]).run P w= .ok (.slice sa n sc) w:=by
 have hf:(Builtin.firstCells i.size 0 (.slice xa 0 xc)).run P w= .ok #[] w:=by
  cases xa with
  | none=>simp[Builtin.firstCells]
  | some ad=>have:=run_firstCells_some (P:=P) w i.size 0 ad 0 xc [] (by simp) (by simp);simpa using this
 cases sa with
 | none=>simp[Builtin.append_,run_underlying hu,sizeOf,typeInfo,hi,Builtin.lenOf,hf,hsc]
 | some ad=>simp[Builtin.append_,run_underlying hu,sizeOf,typeInfo,hi,Builtin.lenOf,hf,hsc,storeCells]
theorem tr {P:Program} {w:World} {c:Ctx} {t ty e:TypeId} {i:TypeInfo} {z:Value} (hu:P.underlying t=some (.slice e)) (hi:P.info? e=some i) (hzz:i.zero=some z) (hzs:z.cells.size=i.size)
 {es ys:List (List AV)} {sa:Option Addr} {sc:Nat} {olds:List Value} (hsn:sa=none→sc=0) (so:Src c w i.size es sa olds) {xa:Option Addr} {xc:Nat} {news:List Value} (sn:Src c w i.size ys xa news)
 (c3:(es.length+ys.length) * i.bytes≤140737488355328) (c4:es.length+ys.length≤140737488355328) (hg:sc<es.length+ys.length) (hsc:es.length≤sc):
 ∃k,(Builtin.append_ #[t,t] ty #[.slice sa es.length sc,.slice xa ys.length xc]).run P w=
  .ok (.slice (some ⟨w.heap.size,0,none⟩) (es.length+ys.length) (es.length+ys.length+k)) (w.drew.alloc (.cells (olds.toArray++news.toArray++Builtin.zeroCells z.cells k) e))∧
  (olds.toArray++news.toArray++Builtin.zeroCells z.cells k).size=(es.length+ys.length+k) * i.size:=by
 have hy0:0<ys.length:=by omega
 obtain⟨xb,rfl⟩:∃xb,xa=some xb:=by
  cases xa with
  | none=>have:=sn.none rfl;subst this;simp at hy0
  | some xb=>exact⟨xb,rfl⟩
 have hge:=grownCap_ge w (es.length+ys.length) sc e
 refine⟨grownCap w (es.length+ys.length) sc e - (es.length+ys.length),?_,?_⟩
 ·rw[Nat.add_sub_cancel' hge]
  cases sa with
  | none=>
   have:=so.none rfl;subst this
   have ho0:olds= []:=List.eq_nil_of_length_eq_zero (by rw[so.len];simp)
   subst ho0
   obtain rfl:=hsn rfl
   have:=run_append_nil (P:=P) w t ty e i z hu hi hzz xb ys.length xc news sn.len (sn.cell xb rfl) hy0 (by simp at c4;omega) (by simp at c3;omega)
   simpa using this
  | some sb=>
   exact run_append_grow (P:=P) w t ty e i z hu hi hzz sb es.length sc olds so.len (so.cell sb rfl) xb ys.length xc news sn.len (sn.cell xb rfl) hg (by omega) (growslice_fits hg c3)
 ·simp only[Array.size_append,List.size_toArray,size_zeroCells,so.len,sn.len,hzs,Nat.add_mul]
theorem upρ_get (ρ:Nat→Option (Option Nat×Nat)) (id:Nat) (p) (σ:ah) (w:World):(ctx (upρ ρ id p) σ w).ρ id=some p:=upρ_same ρ id p
theorem kH {ρ σ w} (hs:Sim ρ σ w) {P:Program} {t ty e:TypeId} {i:TypeInfo} {z:Value} (hz:zeroOf P e≠none) (hu:P.underlying t=some (.slice e)) (hi:P.info? e=some i) (hzz:i.zero=some z) (hzs:z.cells.size=i.size)
 {es ys:List (List AV)} {sa:Option Addr} {sc:Nat} {olds:List Value} (hsn:sa=none→sc=0) (so:Src (ctx ρ σ w) w i.size es sa olds) {xa:Option Addr} {xc:Nat} {news:List Value} (sn:Src (ctx ρ σ w) w i.size ys xa news)
 (l1:∀(k:Nat) el,es[k]?=some el→el.length=i.size) (l2:∀(k:Nat) el,ys[k]?=some el→el.length=i.size)
 (c3:(es.length+ys.length) * i.bytes≤140737488355328) (c4:es.length+ys.length≤140737488355328) (hg:sc<es.length+ys.length) (hsc:es.length≤sc):
 ∃u w' ρ',(Builtin.append_ #[t,t] ty #[.slice sa es.length sc,.slice xa ys.length xc]).run P w= .ok u w'∧
  aL (ctx ρ' (σ.new (.cells i.size (es++ys))) w') (.own σ.next (es.length+ys.length)) u∧Sim ρ' (σ.new (.cells i.size (es++ys))) w'∧Ext ρ σ w ρ' (σ.new (.cells i.size (es++ys))) w':=by
 obtain⟨k,hrun,hk⟩:=tr (ty:=ty) (c:=ctx ρ σ w) (xc:=xc) hu hi hzz hzs hsn so sn c3 c4 hg hsc
 have hd:=hs.drawn (w.drawn+1) (Nat.le_succ _)
 have ha:=hd.1.alloc (.cells (olds.toArray++news.toArray++Builtin.zeroCells z.cells k) e) (.cells i.size (es++ys)) i.size
  (fun d hle hb=>wY hz hi hzz hb so.len sn.len so.one sn.one (so.mono (d:=d) hle).rel (sn.mono (d:=d) hle).rel l1 l2)
 exact⟨_,_,_,hrun,.own (upρ_get _ _ _ _ _) (by omega) ⟨_,e,(0,0),heap_alloc_new w.drew _,by rw[hk];exact Nat.le_refl _⟩,ha.1,hd.2.trans ha.2⟩
theorem tt {ρ σ w} (hs:Sim ρ σ w) {P:Program} {t ty e:TypeId} {i:TypeInfo} (hu:P.underlying t=some (.slice e)) (hi:P.info? e=some i) {id b cap:Nat} {els es ys:List (List AV)} {olds news:List Value} {cs:Array Value} {te:TypeId}
 (hg:σ.get id=some (.cells i.size els)) (hp:ρ id=some (some b,i.size)) (hb:w.heap[b]?=some (.cells cs te (0,0))) (hcap:cap * i.size≤cs.size)
 (so:Src (ctx ρ σ w) w i.size es (some ⟨b,0,none⟩) olds) {xa:Option Addr} {xc:Nat} (sn:Src (ctx ρ σ w) w i.size ys xa news)
 (hone:∀(j:Nat) v,cs[j]?=some v→v.oneCell'=true) (l1:∀(k:Nat) el,es[k]?=some el→el.length=i.size) (l2:∀(k:Nat) el,ys[k]?=some el→el.length=i.size) (hroom:es.length+ys.length≤cap):
 ∃w' ρ',(Builtin.append_ #[t,t] ty #[.slice (some ⟨b,0,none⟩) es.length cap,.slice xa ys.length xc]).run P w= .ok (.slice (some ⟨b,0,none⟩) (es.length+ys.length) cap) w'∧
  aL (ctx ρ' ((σ.del id).new (.cells i.size (es++ys))) w') (.own σ.next (es.length+ys.length)) (.slice (some ⟨b,0,none⟩) (es.length+ys.length) cap)∧Sim ρ' ((σ.del id).new (.cells i.size (es++ys))) w'∧Ext ρ σ w ρ' ((σ.del id).new (.cells i.size (es++ys))) w':=by
 have hm:(es.length+ys.length) * i.size≤cap * i.size:=Nat.mul_le_mul_right _ hroom
 have hlen:olds.length+news.length≤cs.size:=by rw[so.len,sn.len,←Nat.add_mul];omega
 have ho:∀j,j<olds.length→cs[j]?=olds[j]?:=by
  intro j hj
  have:=so.cell _ rfl j olds[j] (by simp[hj])
  rw[add_lit,iC,cellOf,hb]at this
  simp only[Nat.zero_add]at this
  rw[this,List.getElem?_eq_getElem hj]
 -- the run,and the row behind it
 obtain⟨w',arr,hrun,h1,h2,h3,h4,h5,h6,h7⟩:∃w' arr,(Builtin.append_ #[t,t] ty #[.slice (some ⟨b,0,none⟩) es.length cap,.slice xa ys.length xc]).run P w= .ok (.slice (some ⟨b,0,none⟩) (es.length+ys.length) cap) w'∧
  w'.heap[b]?=some (.cells arr te (0,0))∧arr.size=cs.size∧(∀j,j<olds.length+news.length→arr[j]?=(olds++news)[j]?)∧(∀(j:Nat) v,arr[j]?=some v→v.oneCell'=true)∧(∀k,k≠b→w'.heap[k]?=w.heap[k]?)∧w'.heap.size=w.heap.size∧(w'.os=w.os∧w'.tape=w.tape∧w'.output=w.output∧w.drawn≤w'.drawn):=by
  cases xa with
  | none=>
   have hy:=sn.none rfl
   subst hy
   have hn0:news= []:=List.eq_nil_of_length_eq_zero (by rw[sn.len];simp)
   subst hn0
   refine⟨w,cs,by simpa using fu (P:=P) (w:=w) (ty:=ty) hu hi (some ⟨b,0,none⟩) es.length cap (by simpa using hroom) none xc,hb,rfl,fun j hj=>by simpa using ho j (by simpa using hj),hone,fun _ _=>rfl,rfl,rfl,rfl,rfl,Nat.le_refl _⟩
  | some xb=>
   have hf:=run_firstCells_some (P:=P) w i.size ys.length xb ys.length xc news sn.len (sn.cell xb rfl)
   have hst:=run_storeCells_at P b (es.length * i.size) te news 0 cs w hb (by rw[←so.len];simpa using hlen) sn.one
   simp only[Nat.add_zero]at hst
   have hsp:olds.length+news.toArray.size≤cs.size:=by simpa using hlen
   have earr:(cs.toList.take (es.length * i.size)++news++cs.toList.drop (es.length * i.size+news.length)).toArray=cF cs olds.length news.toArray:=by simp[cF,so.len]
   rw[earr]at hst
   refine⟨w.setRow b (cF cs olds.length news.toArray),cF cs olds.length news.toArray,by simp[Builtin.append_,run_underlying hu,sizeOf,typeInfo,hi,Builtin.lenOf,hroom,hf,add_lit,hst],?_,dz hsp,?_,?_,?_,by simp[World.setRow],rfl,rfl,rfl,Nat.le_refl _⟩
   ·exact setRow_heap w b cs _ te (0,0) hb
   ·intro j hj
    rw[bZ hsp]
    by_cases hj2:j<olds.length
    ·rw[if_neg (by omega),List.getElem?_append_left hj2];exact ho j hj2
    ·rw[if_pos ⟨by omega,by simpa using hj⟩,List.getElem?_append_right (by omega)];simp
   ·intro j v hv
    rw[bZ hsp]at hv
    split at hv
    ·exact sn.one v (by simpa using Array.mem_of_getElem? hv)
    ·exact hone j v hv
   ·intro k hk;exact setRow_other w b k _ hk
 have hw:=hs.write hg hp w' (.cells i.size (es++ys)) h5 h6 (fun cs' t' f' h=>by rw[hb]at h;cases h;exact⟨_,_,h1,h2⟩) h7.1 h7.2.1 h7.2.2.1 h7.2.2.2 (fun d hle hd=>by
  refine fw.ofList (vals:=olds++news) (arr:=arr) (t:=te) (by rw[hd];exact h1) (by rw[List.length_append,List.length_append,so.len,sn.len,Nat.add_mul]) (fun j hj=>h3 j (by simpa using hj)) (by rw[h2];simpa using hlen) h4 ?_ (oZ so.len (so.mono (d:=d) hle).rel (sn.mono (d:=d) hle).rel l1)
  intro k el he
  rw[List.getElem?_append]at he
  split at he
  ·exact l1 _ _ he
  ·exact l2 _ _ he)
 have hm2:=hw.1.move (id:=id) (ah.tz _ _ _) hp
 rw[ah.zY,ah.Dc]at hm2
 refine⟨w',_,hrun,?_,hm2.1,hw.2.trans hm2.2⟩
 exact .own (sz:=i.size) (upρ_get _ _ _ _ _) hroom ⟨arr,te,(0,0),h1,by rw[h2];exact hcap⟩
set_option maxHeartbeats 1000000 in
theorem C7 {ρ σ w} (hs:Sim ρ σ w) {P t ty e sz bytes} (ht:fI P t=some (e,sz,bytes)) {zs} (hz0:zeroOf P e=some zs) (hzl:zs.length=sz) {s x a v} (hx:aL (ctx ρ σ w) s a) (hy:aL (ctx ρ σ w) x v) {r σ'} (h:aY sz bytes s x σ=some (r,σ')):
 ∃u w' ρ',(Builtin.append_ #[t,t] ty #[a,v]).run P w= .ok u w'∧aL (ctx ρ' σ' w') r u∧Sim ρ' σ' w'∧Ext ρ σ w ρ' σ' w':=by
 obtain⟨hu,i,z,hi,hzz,hisz,hiby⟩:=fg ht
 have hz:zeroOf P e≠none:=by rw[hz0];simp
 have hzs:z.cells.size=i.size:=by rw[xP hi hzz hz0,hzl,hisz]
 unfold aY at h
 split at h
 ·rename_i es ys hes hys
  split at h
  ·rename_i hc
   obtain⟨c3,c4⟩:=hc
   subst hisz
   subst hiby
   obtain⟨sa,sc,olds,ea,hsc,hsn,so⟩:=hs.src hx hes
   obtain⟨xa,xc,news,rfl,hxc,hxn,sn⟩:=hs.src hy hys
   have l1:∀(k:Nat) el,es[k]?=some el→el.length=i.size:=so.ll
   have l2:∀(k:Nat) el,ys[k]?=some el→el.length=i.size:=sn.ll
   split at h
   · -- a nil slice
     cases h
     simp only[eA,Option.some.injEq]at hes
     subst hes
     rw[hx.aQ]at ea⊢
     cases ea
     by_cases h0:ys.length=0
     ·have hy0:ys= []:=List.eq_nil_of_length_eq_zero h0
      subst hy0
      have ha:=hs.lX i.size
      exact⟨_,w,upρ ρ σ.next (none,i.size),fu hu hi none 0 0 (Nat.le_refl _) xa xc,.ownNil (upρ_same ρ σ.next (none,i.size)),ha.1,ha.2⟩
     ·exact kH hs hz hu hi hzz hzs (es:=[]) hsn so sn l1 l2 c3 c4 (by simp;omega) (by simp)
   · -- a row in hand
     rename_i id len
     cases h
     have hes':=hes
     unfold eA at hes'
     simp only at hes'
     split at hes'
     ·rename_i sz0 els hg
      split at hes'
      ·rename_i hle
       obtain⟨rfl,hle⟩:=hle
       cases hes'
       have hne:id≠σ.next:=fun e=>by have:=hs.lt hg;omega
       subst ea
       by_cases hroom:(els.take len).length+ys.length≤sc
       ·rcases hx.fP with ⟨b,sz',cap,e1,hp,_,cs0,t0,f0,hb0,hcap⟩ | ⟨h0,a,e1,_⟩
        ·simp only[Value.slice.injEq]at e1
         obtain⟨rfl,_,rfl⟩:=e1
         obtain⟨p,hp2,hor⟩:=hs.obj id _ hg
         have hp3:ρ id=some (some b,sz'):=hp
         rw[hp3]at hp2;cases hp2
         cases hor with
         | cells cs te hb hcsz hel hone hr=>
          have hb:w.heap[b]?=some (.cells cs te (0,0)):=hb
          have hb0:w.heap[b]?=some (.cells cs0 t0 f0):=hb0
          rw[hb]at hb0;cases hb0
          obtain⟨w',ρ',k1,k2,k3,k4⟩:=tt (ty:=ty) (xc:=xc) hs hu hi hg hp3 hb hcap so sn hone l1 l2 hroom
          exact⟨_,w',ρ',k1,k2,k3,k4⟩
        ·simp only[Value.slice.injEq]at e1
         obtain⟨rfl,e2,rfl⟩:=e1
         have ey:ys= []:=List.eq_nil_of_length_eq_zero (by omega)
         have e0:els.take len= []:=List.eq_nil_of_length_eq_zero (by omega)
         rw[e0,ey]
         have ha:=hs.lX i.size
         have hdl:=ha.1.del id
         rw[ah.vQ _ _ _ hne]at hdl
         exact⟨_,w,upρ ρ σ.next (none,i.size),fu hu hi _ 0 0 (Nat.le_refl _) xa xc,.ownNil (upρ_same ρ σ.next (none,i.size)),hdl.1,ha.2.trans hdl.2⟩
       ·obtain⟨u,w',ρ',h1,h2,h3,h4⟩:=kH (ty:=ty) (xc:=xc) hs hz hu hi hzz hzs hsn so sn l1 l2 c3 c4 (by omega) hsc
        have hdl:=h3.del id
        rw[ah.vQ _ _ _ hne]at hdl
        exact⟨u,w',ρ',h1,h2.mono hdl.2.le,hdl.1,h4.trans hdl.2⟩
      ·cases hes'
     ·cases hes'
   · -- a clipped slice of what does not change
     rename_i sz' xs
     simp only[eA]at hes
     split at hes
     case isFalse=>cases hes
     rename_i esz
     subst esz
     cases hes
     subst ea
     split at h
     ·rename_i hcase
      cases h
      by_cases h0:ys.length=0
      ·have hy0:ys= []:=List.eq_nil_of_length_eq_zero h0
       subst hy0
       have he0:es= []:=List.eq_nil_of_length_eq_zero (by rcases hcase with h1 | h1<;>simp_all)
       subst he0
       have ha:=hs.lX i.size
       have hcl:sc=0:=by
        cases hx with
        | sl f hl hn hcap hclip hc hr=>exact hclip rfl
       subst hcl
       exact⟨_,w,upρ ρ σ.next (none,i.size),fu hu hi sa 0 0 (Nat.le_refl _) xa xc,.ownNil (upρ_same ρ σ.next (none,i.size)),ha.1,ha.2⟩
      ·have hcl:sc=es.length:=by
        cases hx with
        | sl f hl hn hcap hclip hc hr=>exact hclip rfl
       exact kH (ty:=ty) (xc:=xc) hs hz hu hi hzz hzs hsn so sn l1 l2 c3 c4 (by omega) hsc
     ·rename_i hcase
      cases h
      have hy0:ys= []:=List.eq_nil_of_length_eq_zero (by omega)
      subst hy0
      exact⟨_,w,ρ,fu hu hi sa _ sc hsc xa xc,hx,hs,Ext.refl _ _ _⟩
   ·cases h
  ·cases h
 ·cases h
end Go.Abs
