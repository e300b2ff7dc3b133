import Derived.Test.YtjilebpcaemopaaGreatDoorAbsN
set_option linter.unusedVariables false
namespace Go.Abs
open Go
inductive Low (n:Nat):AV→Prop
 | any:Low n .any
 | val (v:Value):Low n (.val v)
 | ptr {id i o:Nat} (h:id<n):Low n (.ptr id i o)
 | ref {cs:List AV} (h:∀(j:Nat) x,cs[j]?=some x→Low n x):Low n (.ref cs)
 | sl {c:Bool} {sz:Nat} {xs:List (List AV)} (h:∀(i:Nat) el (j:Nat) x,xs[i]?=some el→el[j]?=some x→Low n x):Low n (.sl c sz xs)
 | own {id len:Nat} (h:id<n):Low n (.own id len)
 | win {id off sz len:Nat} (h:id<n):Low n (.win id off sz len)
 | mp {id:Nat} (h:id<n):Low n (.mp id)
 | fn {f:Fn} {cap:List AV} (h:∀(j:Nat) x,cap[j]?=some x→Low n x):Low n (.fn f cap)
 | iface {t:TypeId} {x:AV} (h:Low n x):Low n (.iface t x)
 | agg {cs:List AV} (h:∀(j:Nat) x,cs[j]?=some x→Low n x):Low n (.agg cs)
 | tup {cs:List AV} (h:∀(j:Nat) x,cs[j]?=some x→Low n x):Low n (.tup cs)
theorem aL.low {c:Ctx} {n:Nat} (hn:∀id p,c.ρ id=some p→id<n) {x:AV} {v:Value} (h:aL c x v):Low n x:=by
 induction h with
 | any v=>exact .any
 | val v=>exact .val v
 | ptr h=>exact .ptr (hn _ _ h)
 | ref f hi hc _ ih=>exact .ref ih
 | sl f hl hne hcap hclip hc _ ih=>exact .sl ih
 | own h hl hb=>exact .own (hn _ _ h)
 | ownNil h=>exact .own (hn _ _ h)
 | win h hl=>exact .win (hn _ _ h)
 | winNil h=>exact .win (hn _ _ h)
 | mp h=>exact .mp (hn _ _ h)
 | fn hl hr ih=>
  rename_i f cap vs
  refine .fn fun j x hx=> ?_
  obtain⟨u,hu⟩:∃u,vs[j]?=some u:=⟨_,Array.getElem?_eq_getElem (by rw[←hl];exact(List.getElem?_eq_some_iff.1 hx).1)⟩
  exact ih j x u hx hu
 | iface h ih=>exact .iface ih
 | agg hl h1 hr ih=>
  rename_i cs vs
  refine .agg fun j x hx=> ?_
  obtain⟨u,hu⟩:∃u,vs[j]?=some u:=⟨_,Array.getElem?_eq_getElem (by rw[←hl];exact(List.getElem?_eq_some_iff.1 hx).1)⟩
  exact ih j x u hx hu
 | tup hl hr ih=>
  rename_i cs vs
  refine .tup fun j x hx=> ?_
  obtain⟨u,hu⟩:∃u,vs[j]?=some u:=⟨_,Array.getElem?_eq_getElem (by rw[←hl];exact(List.getElem?_eq_some_iff.1 hx).1)⟩
  exact ih j x u hx hu
structure xV (n:Nat) (c d:Ctx):Prop where
 ρ:∀id,id<n→d.ρ id=c.ρ id
 imm:∀b,c.imm b→d.imm b
 h:d.h=c.h
theorem aL.yG {n:Nat} {c d:Ctx} (hf:xV n c d) {x:AV} {v:Value} (h:aL c x v):Low n x→aL d x v:=by
 induction h with
 | any v=>exact fun _=>.any v
 | val v=>exact fun _=>.val v
 | ptr h=>intro hl;cases hl with | ptr hn=>exact .ptr (by rw[hf.ρ _ hn];exact h)
 | ref f hi hc _ ih=>
  intro hl;cases hl with
  | ref hx=>exact .ref f (hf.imm _ hi) (fun j hj=>by rw[hf.h];exact hc j hj) (fun j x hj=>ih j x hj (hx j x hj))
 | sl f hl hne hcap hclip hc _ ih=>
  intro hlow;cases hlow with
  | sl hx=>
   refine .sl f hl hne hcap hclip (fun i el he=> ?_) (fun i el j x hi hj=>ih i el j x hi hj (hx i el j x hi hj))
   obtain⟨h1,b,o,h2,h3,h4⟩:=hc i el he
   exact⟨h1,b,o,h2,hf.imm _ h3,fun j hj=>by rw[hf.h];exact h4 j hj⟩
 | own h hl hb=>intro hlow;cases hlow with | own hn=>exact .own (by rw[hf.ρ _ hn];exact h) hl (by rw[hf.h];exact hb)
 | ownNil h=>intro hlow;cases hlow with | own hn=>exact .ownNil (by rw[hf.ρ _ hn];exact h)
 | win h hl=>intro hlow;cases hlow with | win hn=>exact .win (by rw[hf.ρ _ hn];exact h) hl
 | winNil h=>intro hlow;cases hlow with | win hn=>exact .winNil (by rw[hf.ρ _ hn];exact h)
 | mp h=>intro hlow;cases hlow with | mp hn=>exact .mp (by rw[hf.ρ _ hn];exact h)
 | fn hl hr ih=>intro hlow;cases hlow with | fn hx=>exact .fn hl fun i x v h1 h2=>ih i x v h1 h2 (hx i x h1)
 | iface h ih=>intro hlow;cases hlow with | iface hx=>exact .iface (ih hx)
 | agg hl h1 hr ih=>intro hlow;cases hlow with | agg hx=>exact .agg hl h1 fun i x v h1 h2=>ih i x v h1 h2 (hx i x h1)
 | tup hl hr ih=>intro hlow;cases hlow with | tup hx=>exact .tup hl fun i x v h1 h2=>ih i x v h1 h2 (hx i x h1)
inductive Frz (τ:ah) (n:Nat):AV→AV→Prop
 | low {x:AV} (h:Low n x):Frz τ n x x
 | nil {c:Bool} {sz:Nat}:Frz τ n (.val (.slice none 0 0)) (.sl c sz [])
 | own {id len sz:Nat} {els ys:List (List AV)} (hn:n≤id) (hg:τ.get id=some (.cells sz els)) (hl:len≤els.length) (hy:ys.length=len)
  (hz:∀(i:Nat) el fl,els[i]?=some el→ys[i]?=some fl→fl.length=el.length)
  (hf:∀(i:Nat) el fl (j:Nat) x y,els[i]?=some el→ys[i]?=some fl→el[j]?=some x→fl[j]?=some y→Frz τ n x y):Frz τ n (.own id len) (.sl false sz ys)
 | ptr {id i o:Nat} {el fl:List AV} (hn:n≤id) (hg:iG τ id i=some el) (hl:fl.length=el.length - o)
  (hf:∀(j:Nat) x y,el[o+j]?=some x→fl[j]?=some y→Frz τ n x y):Frz τ n (.ptr id i o) (.ref fl)
 | sl {c:Bool} {sz:Nat} {xs ys:List (List AV)} (hl:ys.length=xs.length) (hz:∀(i:Nat) el fl,xs[i]?=some el→ys[i]?=some fl→fl.length=el.length)
  (hf:∀(i:Nat) el fl (j:Nat) x y,xs[i]?=some el→ys[i]?=some fl→el[j]?=some x→fl[j]?=some y→Frz τ n x y):Frz τ n (.sl c sz xs) (.sl false sz ys)
 | ref {cs ds:List AV} (hl:ds.length=cs.length) (hf:∀(j:Nat) x y,cs[j]?=some x→ds[j]?=some y→Frz τ n x y):Frz τ n (.ref cs) (.ref ds)
 | fn {f:Fn} {cs ds:List AV} (hl:ds.length=cs.length) (hf:∀(j:Nat) x y,cs[j]?=some x→ds[j]?=some y→Frz τ n x y):Frz τ n (.fn f cs) (.fn f ds)
 | iface {t:TypeId} {x y:AV} (h:Frz τ n x y):Frz τ n (.iface t x) (.iface t y)
 | agg {cs ds:List AV} (hl:ds.length=cs.length) (hf:∀(j:Nat) x y,cs[j]?=some x→ds[j]?=some y→Frz τ n x y):Frz τ n (.agg cs) (.agg ds)
 | tup {cs ds:List AV} (hl:ds.length=cs.length) (hf:∀(j:Nat) x y,cs[j]?=some x→ds[j]?=some y→Frz τ n x y):Frz τ n (.tup cs) (.tup ds)
theorem get_some {α:Type} {l:List α} {i:Nat} (h:i<l.length):∃x,l[i]?=some x:=⟨_,List.getElem?_eq_getElem h⟩
theorem Ct {ρ:Nat→Option (Option Nat×Nat)} {τ:ah} {w:World} (hs:Sim ρ τ w) {n:Nat} {d:Ctx} (hf:xV n (ctx ρ τ w) d) (himm:∀id o b sz,n≤id→τ.get id=some o→ρ id=some (some b,sz)→d.imm b) {x y:AV} (hx:Frz τ n x y):
 ∀v,aL (ctx ρ τ w) x v→aL d y v:=by
 induction hx with
 | low h=>exact fun v hv=>hv.yG hf h
 | nil=>
  intro v hv
  rw[hv.aQ]
  exact .sl (fun _ _=>undef) rfl (fun _=>⟨rfl,rfl⟩) (Nat.le_refl _) (by simp) (by simp) (by simp)
 | own hn hg hl hy hz hfr ih=>
  rename_i id len sz els ys
  intro v hv
  rcases hv.fP with ⟨b,sz',cap,rfl,hp,hlc,_⟩ | ⟨rfl,a,rfl,_⟩
  ·have hp':ρ id=some (some b,sz'):=hp
   obtain⟨p,hp2,hor⟩:=hs.obj id _ hg
   rw[hp']at hp2;cases hp2
   obtain⟨rfl,cs,t,hb,hsz,hel,hone,hr⟩:=hor.eS
   have hb':w.heap[b]?=some (.cells cs t (0,0)):=hb
   have hcell:∀i j,i<len→j<sz→∃u,cs[i * sz+j]?=some u∧cellOf d.h b (0+i * sz+j)=some u:=by
    intro i j hi hj
    have hrow:=da (sz:=sz) (Nat.lt_of_lt_of_le hi hl)
    have hlt:i * sz+j<cs.size:=by omega
    refine⟨cs[i * sz+j],Array.getElem?_eq_getElem hlt,?_⟩
    rw[hf.h]
    unfold cellOf
    rw[hb,Nat.zero_add]
    exact Array.getElem?_eq_getElem hlt
   refine .sl (fun i j=>cs[i * sz+j]?.getD undef) hy.symm (fun h=>by cases h) hlc (by simp) (fun i fl hi=> ?_) (fun i fl j x hi hj=> ?_)
   ·have hilt:i<len:=by rw[←hy];exact(List.getElem?_eq_some_iff.1 hi).1
    obtain⟨el,he⟩:=get_some (l:=els) (Nat.lt_of_lt_of_le hilt hl)
    refine⟨by rw[hz i el fl he hi];exact hel i el he,b,0,rfl,himm id _ b sz hn hg hp',fun j hj=> ?_⟩
    obtain⟨u,hu,hc⟩:=hcell i j hilt hj
    rw[hu]
    exact⟨hc,hone _ _ hu⟩
   ·have hilt:i<len:=by rw[←hy];exact(List.getElem?_eq_some_iff.1 hi).1
    obtain⟨el,he⟩:=get_some (l:=els) (Nat.lt_of_lt_of_le hilt hl)
    have hjl:j<el.length:=by rw[←hz i el fl he hi];exact(List.getElem?_eq_some_iff.1 hj).1
    obtain⟨z,hzz⟩:=get_some hjl
    obtain⟨u,hu,_⟩:=hcell i j hilt (by rw[←hel i el he];exact hjl)
    rw[hu]
    exact ih i el fl j z x he hi hzz hj u (hr i el j z he hzz u hu)
  ·have:ys= []:=List.length_eq_zero_iff.1 hy
   subst this
   exact .sl (fun _ _=>undef) rfl (fun _=>⟨rfl,rfl⟩) (Nat.le_refl _) (by simp) (by simp) (by simp)
 | ptr hn hg hl hfr ih=>
  rename_i id i o el fl
  intro v hv
  cases hv with
  | ptr hp=>
   rename_i b sz
   have hp':ρ id=some (some b,sz):=hp
   obtain⟨hel,els,cs,t,hgo,hei,hb,hsz,hi,hone,hr⟩:=hs.kW hg hp'
   have hcell:∀j,j<fl.length→∃u,cs[i * sz+(o+j)]?=some u∧cellOf d.h b (i * sz+o+j)=some u:=by
    intro j hj
    have hlt:i * sz+(o+j)<cs.size:=by omega
    refine⟨cs[i * sz+(o+j)],Array.getElem?_eq_getElem hlt,?_⟩
    rw[hf.h]
    unfold cellOf
    rw[show(ctx ρ τ w).h[b]?=some (.cells cs t (0,0)) from hb,show i * sz+o+j=i * sz+(o+j) by omega]
    exact Array.getElem?_eq_getElem hlt
   refine .ref (fun j=>cs[i * sz+(o+j)]?.getD undef) (himm id _ b sz hn hgo hp') (fun j hj=> ?_) (fun j x hj=> ?_)
   ·obtain⟨u,hu,hc⟩:=hcell j hj
    rw[hu]
    exact⟨hc,hone _ _ hu⟩
   ·have hjl:=(List.getElem?_eq_some_iff.1 hj).1
    obtain⟨u,hu,_⟩:=hcell j hjl
    obtain⟨z,hz⟩:=get_some (l:=el) (i:=o+j) (by omega)
    have:=hr (o+j) z hz
    rw[Array.getD_eq_getD_getElem?,hu]at this
    rw[hu]
    exact ih j z x hz hj u this
 | sl hl hz hfr ih=>
  rename_i c sz xs ys
  intro v hv
  cases hv with
  | sl f hlen hne hcap hclip hc hr=>
   refine .sl f (by rw[hl];exact hlen) (fun h=>⟨List.length_eq_zero_iff.1 (by rw[hl,(hne h).1];rfl),(hne h).2⟩) hcap (by simp) (fun i fl hi=> ?_) (fun i fl j x hi hj=> ?_)
   ·have hilt:i<xs.length:=by rw[←hl];exact(List.getElem?_eq_some_iff.1 hi).1
    obtain⟨el,he⟩:=get_some hilt
    obtain⟨h1,b,o,h2,h3,h4⟩:=hc i el he
    exact⟨by rw[hz i el fl he hi];exact h1,b,o,h2,hf.imm _ h3,fun j hj=>by rw[hf.h];exact h4 j hj⟩
   ·have hilt:i<xs.length:=by rw[←hl];exact(List.getElem?_eq_some_iff.1 hi).1
    obtain⟨el,he⟩:=get_some hilt
    obtain⟨z,hzz⟩:=get_some (l:=el) (i:=j) (by rw[←hz i el fl he hi];exact(List.getElem?_eq_some_iff.1 hj).1)
    exact ih i el fl j z x he hi hzz hj _ (hr i el j z he hzz)
 | ref hl hfr ih=>
  rename_i cs ds
  intro v hv
  cases hv with
  | ref f hi hc hr=>
   refine .ref f (hf.imm _ hi) (fun j hj=>by rw[hf.h];exact hc j (by omega)) (fun j x hj=> ?_)
   obtain⟨z,hz⟩:=get_some (l:=cs) (i:=j) (by rw[←hl];exact(List.getElem?_eq_some_iff.1 hj).1)
   exact ih j z x hz hj _ (hr j z hz)
 | fn hl hfr ih=>
  rename_i f cs ds
  intro v hv
  cases hv with
  | fn hlen hr=>
   refine .fn (by rw[hl];exact hlen) fun j x u hj hu=> ?_
   obtain⟨z,hz⟩:=get_some (l:=cs) (i:=j) (by rw[←hl];exact(List.getElem?_eq_some_iff.1 hj).1)
   exact ih j z x hz hj _ (hr j z u hz hu)
 | iface h ih=>intro v hv;cases hv with | iface hx=>exact .iface (ih _ hx)
 | agg hl hfr ih=>
  rename_i cs ds
  intro v hv
  cases hv with
  | agg hlen h1 hr=>
   refine .agg (by rw[hl];exact hlen) h1 fun j x u hj hu=> ?_
   obtain⟨z,hz⟩:=get_some (l:=cs) (i:=j) (by rw[←hl];exact(List.getElem?_eq_some_iff.1 hj).1)
   exact ih j z x hz hj _ (hr j z u hz hu)
 | tup hl hfr ih=>
  rename_i cs ds
  intro v hv
  cases hv with
  | tup hlen hr=>
   refine .tup (by rw[hl];exact hlen) fun j x u hj hu=> ?_
   obtain⟨z,hz⟩:=get_some (l:=cs) (i:=j) (by rw[←hl];exact(List.getElem?_eq_some_iff.1 hj).1)
   exact ih j z x hz hj _ (hr j z u hz hu)
theorem Ev.pure {P:Program} {f:FuncId} {args:List AV} {σ:ah} {k kp:AV→ah→Prop} (h:Ev P f args σ (fun x τ=>aq σ τ∧∃y,Frz τ σ.next x y∧k y σ) (fun _ _=>False)):Ev P f args σ k kp:=by
 refine fun ρ w vs hs ha=>(h ρ w vs hs ha).mono ?_
 rintro e w' ⟨ρ',τ,he,hs',hp⟩
 cases e with
 | returned v=>
  obtain⟨x,⟨hg,y,hfz,hk⟩,hv⟩:=hp
  have hmem:∀id,id<σ.next→τ.get id=σ.get id:=hg.get
  let ρ2:Nat→Option (Option Nat×Nat):=fun i=>if i<σ.next then ρ' i else none
  have hρ2:∀id,id<σ.next→ρ2 id=ρ' id:=fun id h=>by simp[ρ2,h]
  have hlow:∀id p,ρ id=some p→id<σ.next:=fun id p hp=>by
   rcases Nat.lt_or_ge id σ.next with h | h
   ·exact h
   ·rw[hs.fresh id h]at hp;cases hp
  have hfew:xV σ.next (ctx ρ' τ w') (ctx ρ2 σ w'):=by
   refine⟨hρ2,fun b hb=>⟨hb.1,fun id o sz ho hp=> ?_⟩,rfl⟩
   have hlt:=hs.lt ho
   rw[hρ2 id hlt]at hp
   exact hb.2 id o sz (by rw[hmem id hlt];exact ho) hp
  refine⟨ρ2,σ,⟨⟨fun id p hp=> ?_,fun b hb=> ?_,he.le.sz⟩,Nat.le_refl _,he.os,he.tape,he.output,he.size⟩,⟨fun id hid=> ?_,fun id o ho=> ?_,fun i j oi oj b s t hi hj pi pj=> ?_⟩,y,hk,?_⟩
  ·show ρ2 id=some p
   rw[hρ2 id (hlow id p hp)];exact he.le.ρ id p hp
  ·have:=he.le.imm b hb
   exact⟨hfew.imm b this.1,this.2⟩
  ·simp[ρ2,Nat.not_lt.2 hid]
  ·have hlt:=hs.lt ho
   obtain⟨p,hp,hor⟩:=hs'.obj id o (by rw[hmem id hlt];exact ho)
   refine⟨p,by rw[hρ2 id hlt];exact hp,?_⟩
   obtain⟨p0,hp0,hor0⟩:=hs.obj id o ho
   have hpp:p=p0:=by
    have:=he.le.ρ id p0 hp0
    have hp':(ctx ρ' τ w').ρ id=some p:=hp
    rw[this]at hp';cases hp';rfl
   subst hpp
   cases hor with
   | cells cs t hb hsz hel hone hr=>
    rename_i els b sz
    refine .cells cs t hb hsz hel hone fun i el j x h1 h2 u hu=>(hr i el j x h1 h2 u hu).yG hfew ?_
    obtain⟨_,cs0,t0,hb0,hsz0,hel0,_,hr0⟩:=hor0.eS
    have hjl:=(List.getElem?_eq_some_iff.1 h2).1
    have hil:=(List.getElem?_eq_some_iff.1 h1).1
    have hrow:=da (sz:=sz) hil
    rw[hel i el h1]at hjl
    have hlt:i * sz+j<cs0.size:=by omega
    exact(hr0 i el j x h1 h2 _ (Array.getElem?_eq_getElem hlt)).low hlow
   | none=>exact .none
   | map ents clock hb hl hr=>
    refine .map ents clock hb hl fun i k x e h1 h2=> ?_
    obtain⟨a,b⟩:=hr i k x e h1 h2
    refine⟨a,b.yG hfew ?_⟩
    cases hor0 with
    | map ents0 clock0 hb0 hl0 hr0=>
     have hil:=(List.getElem?_eq_some_iff.1 h1).1
     exact(hr0 i k x _ h1 (Array.getElem?_eq_getElem (by omega))).2.low hlow
   | raw hb hn=>exact .raw hb hn
  ·have hli:=hs.lt hi
   have hlj:=hs.lt hj
   rw[hρ2 i hli]at pi
   rw[hρ2 j hlj]at pj
   exact hs'.inj i j oi oj b s t (by rw[hmem i hli];exact hi) (by rw[hmem j hlj];exact hj) pi pj
  ·refine Ct hs' hfew (fun id o b sz hn ho hp=>⟨hs'.blk ho hp,fun id2 o2 sz2 ho2 hp2=> ?_⟩) hfz v hv
   have hlt:=hs.lt ho2
   rw[hρ2 id2 hlt]at hp2
   have:=hs'.inj id id2 o o2 b sz sz2 ho (by rw[hmem id2 hlt];exact ho2) hp hp2
   omega
 | panicked chain=>obtain⟨x,v,_,hf,_⟩:=hp;exact hf.elim
 | outgrown=>exact hp.elim
theorem Low.mono {n m:Nat} (h:n≤m) {x:AV} (hx:Low n x):Low m x:=by
 induction hx with
 | any=>exact .any
 | val v=>exact .val v
 | ptr hi=>exact .ptr (Nat.lt_of_lt_of_le hi h)
 | ref _ ih=>exact .ref ih
 | sl _ ih=>exact .sl ih
 | own hi=>exact .own (Nat.lt_of_lt_of_le hi h)
 | win hi=>exact .win (Nat.lt_of_lt_of_le hi h)
 | mp hi=>exact .mp (Nat.lt_of_lt_of_le hi h)
 | fn _ ih=>exact .fn ih
 | iface _ ih=>exact .iface ih
 | agg _ ih=>exact .agg ih
 | tup _ ih=>exact .tup ih
inductive dY (τ:ah) (n:Nat):List AV→List AV→Prop
 | nil:dY τ n [] []
 | cons {x y:AV} {xs ys:List AV} (h:Frz τ n x y) (hs:dY τ n xs ys):dY τ n (x::xs) (y::ys)
theorem dY.len {τ n}:∀ {xs ys:List AV},dY τ n xs ys→ys.length=xs.length
 | _,_,.nil=>rfl
 | _,_,.cons _ h=>by simp[dY.len h]
theorem dY.at {τ n}:∀ {xs ys:List AV},dY τ n xs ys→∀(j:Nat) x y,xs[j]?=some x→ys[j]?=some y→Frz τ n x y
 | _,_,.nil,j,x,y,h,_=>by simp at h
 | _,_,.cons h hs,0,x,y,h1,h2=>by simp at h1 h2;subst h1;subst h2;exact h
 | _,_,.cons h hs,j+1,x,y,h1,h2=>dY.at hs j x y (by simpa using h1) (by simpa using h2)
theorem dY.refl {τ n}:∀ {xs:List AV},(∀x∈xs,Low n x)→dY τ n xs xs
 | [],_=>.nil
 | x::xs,h=>.cons (.low (h x (by simp))) (dY.refl fun y hy=>h y (by simp[hy]))
theorem dY.agg {τ n} {xs ys:List AV} (h:dY τ n xs ys):Frz τ n (.agg xs) (.agg ys):=.agg h.len h.at
theorem dY.tup {τ n} {xs ys:List AV} (h:dY τ n xs ys):Frz τ n (.tup xs) (.tup ys):=.tup h.len h.at
inductive dp (τ:ah) (n:Nat):List (List AV)→List (List AV)→Prop
 | nil:dp τ n [] []
 | cons {x y:List AV} {xs ys:List (List AV)} (h:dY τ n x y) (hs:dp τ n xs ys):dp τ n (x::xs) (y::ys)
theorem dp.len {τ n}:∀ {xs ys:List (List AV)},dp τ n xs ys→ys.length=xs.length
 | _,_,.nil=>rfl
 | _,_,.cons _ h=>by simp[dp.len h]
theorem dp.at {τ n}:∀ {xs ys:List (List AV)},dp τ n xs ys→∀(j:Nat) x y,xs[j]?=some x→ys[j]?=some y→dY τ n x y
 | _,_,.nil,j,x,y,h,_=>by simp at h
 | _,_,.cons h hs,0,x,y,h1,h2=>by simp at h1 h2;subst h1;subst h2;exact h
 | _,_,.cons h hs,j+1,x,y,h1,h2=>dp.at hs j x y (by simpa using h1) (by simpa using h2)
theorem dp.refl {τ n}:∀ {xs:List (List AV)},(∀el∈xs,∀x∈el,Low n x)→dp τ n xs xs
 | [],_=>.nil
 | x::xs,h=>.cons (dY.refl (h x (by simp))) (dp.refl fun y hy=>h y (by simp[hy]))
theorem dp.append {τ n}:∀ {xs ys xs' ys':List (List AV)},dp τ n xs ys→dp τ n xs' ys'→dp τ n (xs++xs') (ys++ys')
 | _,_,_,_,.nil,h=>h
 | _,_,_,_,.cons h hs,h'=>.cons h (dp.append hs h')
theorem dp.set {τ n} {x y:List AV} (hxy:dY τ n x y):∀ {xs ys:List (List AV)} (i:Nat),dp τ n xs ys→dp τ n (xs.set i x) (ys.set i y)
 | _,_,_,.nil=>.nil
 | _,_,0,.cons h hs=>.cons hxy hs
 | _,_,i+1,.cons h hs=>.cons h (dp.set hxy i hs)
theorem dp.own {τ:ah} {n id len sz:Nat} {xs ys rest:List (List AV)} (h:dp τ n xs ys) (hn:n≤id) (hl:len=xs.length) (hg:τ.get id=some (.cells sz (xs++rest))):Frz τ n (.own id len) (.sl false sz ys):=by
 subst hl
 refine .own hn hg (by simp) h.len (fun i el fl h1 h2=> ?_) (fun i el fl j x y h1 h2 h3 h4=> ?_)
 ·have hi:i<xs.length:=by rw[←h.len];exact(List.getElem?_eq_some_iff.1 h2).1
  rw[List.getElem?_append_left hi]at h1
  exact(h.at i el fl h1 h2).len
 ·have hi:i<xs.length:=by rw[←h.len];exact(List.getElem?_eq_some_iff.1 h2).1
  rw[List.getElem?_append_left hi]at h1
  exact(h.at i el fl h1 h2).at j x y h3 h4
theorem dp.sl {τ:ah} {n sz:Nat} {c:Bool} {xs ys:List (List AV)} (h:dp τ n xs ys):Frz τ n (.sl c sz xs) (.sl false sz ys):=
 .sl h.len (fun i el fl h1 h2=>(h.at i el fl h1 h2).len) (fun i el fl j x y h1 h2 h3 h4=>(h.at i el fl h1 h2).at j x y h3 h4)
def Dat (x:AV):Prop:=Low 0 x
theorem Dat.low {x:AV} (h:Dat x) (n:Nat):Low n x:=Low.mono (Nat.zero_le n) h
theorem Dat.val (v:Value):Dat (.val v):=Low.val v
theorem Dat.sl {c:Bool} {sz:Nat} {xs:List (List AV)} (h:∀el∈xs,∀x∈el,Dat x):Dat (.sl c sz xs):=
 Low.sl fun i el j x h1 h2=>h el (List.mem_of_getElem? h1) x (List.mem_of_getElem? h2)
theorem Dat.agg {cs:List AV} (h:∀x∈cs,Dat x):Dat (.agg cs):=Low.agg fun j x h1=>h x (List.mem_of_getElem? h1)
theorem Dat.tup {cs:List AV} (h:∀x∈cs,Dat x):Dat (.tup cs):=Low.tup fun j x h1=>h x (List.mem_of_getElem? h1)
theorem Dat.ref {cs:List AV} (h:∀x∈cs,Dat x):Dat (.ref cs):=Low.ref fun j x h1=>h x (List.mem_of_getElem? h1)
theorem Ev.bB {P:Program} {f:FuncId} {args:List AV} {σ:ah} {k kp:AV→ah→Prop} {y:AV} (hk:k y σ) (hy:Low σ.next y) (h:∀k':AV→ah→Prop,(∀τ,aq σ τ→k' y τ)→Ev P f args σ k' (fun _ _=>False)):Ev P f args σ k kp:=
 Ev.pure (h _ fun τ hg=>⟨hg,y,.low hy,hk⟩)
theorem BY.dat {k:FK} {x:AV} (h:BY k x):Dat x:=by
 cases k with
 | i k=>obtain⟨n,rfl,_⟩:=h;exact .val _
 | b=>obtain⟨b,rfl⟩:=h;exact .val _
 | s=>obtain⟨b,rfl,_⟩:=h;exact .val _
theorem cA.dat:∀ {ks:List FK} {xs:List AV},cA ks xs→∀x∈xs,Dat x
 | [],xs,h,x,hx=>by simp only[cA]at h;subst h;simp at hx
 | k::ks,xs,h,x,hx=>by
  obtain⟨y,r,rfl,h1,h2⟩:=h
  rcases List.mem_cons.1 hx with rfl | hx
  ·exact BY.dat h1
  ·exact cA.dat h2 x hx
def lk:FK→LK
 | .i _=>.i | .b=>.b | .s=>.s
theorem cA.eq:∀ {ks:List FK} {xs:List AV},cA ks xs→bp (ks.map lk) xs xs=some true
 | [],xs,h=>by simp only[cA]at h;subst h;rfl
 | k::ks,xs,h=>by
  obtain⟨y,r,rfl,h1,h2⟩:=h
  simp only[List.map_cons,pJ,cA.eq h2]
  cases k with
  | i k=>obtain⟨n,rfl,_⟩:=h1;simp[lk]
  | b=>obtain⟨b,rfl⟩:=h1;simp[lk]
  | s=>obtain⟨b,rfl,_⟩:=h1;simp[lk]
def fieldsOf (P:Program) (t:TypeId):Option (List (TypeId×Nat×Nat)):=
 match P.underlying t with
 | some (.struct fs)=>some (fs.toList.map fun f=>(f.type,f.offset,P.cellsOf f.type))
 | _=>none
theorem DV.fields {P:Program} {t:TypeId} {l:List (TypeId×Nat×Nat)} {cs:List AV} (hf:fieldsOf P t=some l) (h:DV P t cs):∀p∈l,DV P p.1 ((cs.drop p.2.1).take p.2.2):=by
 unfold fieldsOf at hf
 split at hf
 ·rename_i fs hu
  cases hf
  cases h with
  | int h=>rw[hu]at h;cases h
  | bool h=>rw[hu]at h;cases h
  | str h=>rw[hu]at h;cases h
  | slice h=>rw[hu]at h;cases h
  | nilp h=>rw[hu]at h;cases h
  | ptr h=>rw[hu]at h;cases h
  | struct h hl hf=>
   rename_i fs'
   rw[hu]at h
   cases h
   intro p hp
   obtain⟨f,hfm,rfl⟩:=List.mem_map.1 hp
   obtain⟨i,hi1,hi2⟩:=List.getElem_of_mem hfm
   exact hf i f (by rw[Array.getElem?_eq_some_iff];exact⟨by simpa using hi1,by simpa using hi2⟩)
 ·cases hf
theorem DV.qy {P:Program} {t:TypeId} {l:List (TypeId×Nat×Nat)} {cs:List AV} (hf:fieldsOf P t=some l) (h:DV P t cs):cs.length=P.cellsOf t:=by
 unfold fieldsOf at hf
 split at hf
 ·rename_i fs hu
  cases h with
  | int h=>rw[hu]at h;cases h
  | bool h=>rw[hu]at h;cases h
  | str h=>rw[hu]at h;cases h
  | slice h=>rw[hu]at h;cases h
  | nilp h=>rw[hu]at h;cases h
  | ptr h=>rw[hu]at h;cases h
  | struct h hl hf=>exact hl
 ·cases hf
theorem Ev.jc {P:Program} {f:FuncId} {args:List AV} {σ:ah} {k kp:AV→ah→Prop} (h:Ev P f args σ (fun x τ=>aq σ τ∧Low σ.next x∧k x σ) (fun _ _=>False)):Ev P f args σ k kp:=
 Ev.pure (h.mono (fun x τ hh=>⟨hh.1,x,.low hh.2.1,hh.2.2⟩) fun _ _ hh=>hh)
end Go.Abs
set_option linter.unusedVariables false
namespace Go.Abs
open Go
inductive Fz (τ:ah) (D:Nat→Prop):AV→AV→Prop
 | refl (x:AV):Fz τ D x x
 | nil {c:Bool} {sz:Nat}:Fz τ D (.val (.slice none 0 0)) (.sl c sz [])
 | own {id len sz:Nat} {els ys:List (List AV)} (hD:D id) (hg:τ.get id=some (.cells sz els)) (hl:len≤els.length) (hy:ys.length=len)
  (hz:∀(i:Nat) el fl,els[i]?=some el→ys[i]?=some fl→fl.length=el.length)
  (hf:∀(i:Nat) el fl (j:Nat) x y,els[i]?=some el→ys[i]?=some fl→el[j]?=some x→fl[j]?=some y→Fz τ D x y):Fz τ D (.own id len) (.sl false sz ys)
 | sl {c:Bool} {sz:Nat} {xs ys:List (List AV)} (hl:ys.length=xs.length) (hz:∀(i:Nat) el fl,xs[i]?=some el→ys[i]?=some fl→fl.length=el.length)
  (hf:∀(i:Nat) el fl (j:Nat) x y,xs[i]?=some el→ys[i]?=some fl→el[j]?=some x→fl[j]?=some y→Fz τ D x y):Fz τ D (.sl c sz xs) (.sl false sz ys)
 | agg {cs ds:List AV} (hl:ds.length=cs.length) (hf:∀(j:Nat) x y,cs[j]?=some x→ds[j]?=some y→Fz τ D x y):Fz τ D (.agg cs) (.agg ds)
 | ptr {id i o n:Nat} {els:List (List AV)} {el:List AV} (hD:D id) (hg:τ.get id=some (.cells n els)) (he:els[i]?=some el):Fz τ D (.ptr id i o) (.ref (el.drop o))
 | tup {cs ds:List AV} (hl:ds.length=cs.length) (hf:∀(j:Nat) x y,cs[j]?=some x→ds[j]?=some y→Fz τ D x y):Fz τ D (.tup cs) (.tup ds)
 | fn {f:Fn} {cs ds:List AV} (hl:ds.length=cs.length) (hf:∀(j:Nat) x y,cs[j]?=some x→ds[j]?=some y→Fz τ D x y):Fz τ D (.fn f cs) (.fn f ds)
inductive FzL (τ:ah) (D:Nat→Prop):List AV→List AV→Prop
 | nil:FzL τ D [] []
 | cons {x y:AV} {xs ys:List AV} (h:Fz τ D x y) (hs:FzL τ D xs ys):FzL τ D (x::xs) (y::ys)
theorem FzL.len {τ D}:∀ {xs ys:List AV},FzL τ D xs ys→ys.length=xs.length
 | _,_,.nil=>rfl
 | _,_,.cons _ h=>by simp[FzL.len h]
theorem FzL.at {τ D}:∀ {xs ys:List AV},FzL τ D xs ys→∀(j:Nat) x y,xs[j]?=some x→ys[j]?=some y→Fz τ D x y
 | _,_,.nil,j,x,y,h,_=>by simp at h
 | _,_,.cons h hs,0,x,y,h1,h2=>by simp at h1 h2;subst h1;subst h2;exact h
 | _,_,.cons h hs,j+1,x,y,h1,h2=>FzL.at hs j x y (by simpa using h1) (by simpa using h2)
theorem FzL.refl {τ D}:∀(xs:List AV),FzL τ D xs xs
 | []=>.nil
 | x::xs=>.cons (.refl x) (FzL.refl xs)
theorem FzL.append {τ D}:∀ {xs ys xs' ys':List AV},FzL τ D xs ys→FzL τ D xs' ys'→FzL τ D (xs++xs') (ys++ys')
 | _,_,_,_,.nil,h=>h
 | _,_,_,_,.cons h hs,h'=>.cons h (FzL.append hs h')
theorem FzL.agg {τ D} {xs ys:List AV} (h:FzL τ D xs ys):Fz τ D (.agg xs) (.agg ys):=.agg h.len h.at
inductive FzR (τ:ah) (D:Nat→Prop):List (List AV)→List (List AV)→Prop
 | nil:FzR τ D [] []
 | cons {x y:List AV} {xs ys:List (List AV)} (h:FzL τ D x y) (hs:FzR τ D xs ys):FzR τ D (x::xs) (y::ys)
theorem FzR.len {τ D}:∀ {xs ys:List (List AV)},FzR τ D xs ys→ys.length=xs.length
 | _,_,.nil=>rfl
 | _,_,.cons _ h=>by simp[FzR.len h]
theorem FzR.at {τ D}:∀ {xs ys:List (List AV)},FzR τ D xs ys→∀(j:Nat) x y,xs[j]?=some x→ys[j]?=some y→FzL τ D x y
 | _,_,.nil,j,x,y,h,_=>by simp at h
 | _,_,.cons h hs,0,x,y,h1,h2=>by simp at h1 h2;subst h1;subst h2;exact h
 | _,_,.cons h hs,j+1,x,y,h1,h2=>FzR.at hs j x y (by simpa using h1) (by simpa using h2)
theorem FzR.refl {τ D}:∀(xs:List (List AV)),FzR τ D xs xs
 | []=>.nil
 | x::xs=>.cons (FzL.refl x) (FzR.refl xs)
theorem FzR.own {τ:ah} {D:Nat→Prop} {id len sz:Nat} {xs ys rest:List (List AV)} (h:FzR τ D xs ys) (hD:D id) (hl:len=xs.length) (hg:τ.get id=some (.cells sz (xs++rest))):Fz τ D (.own id len) (.sl false sz ys):=by
 subst hl
 refine .own hD hg (by simp) h.len (fun i el fl h1 h2=> ?_) (fun i el fl j x y h1 h2 h3 h4=> ?_)
 ·have hi:i<xs.length:=by rw[←h.len];exact(List.getElem?_eq_some_iff.1 h2).1
  rw[List.getElem?_append_left hi]at h1
  exact(h.at i el fl h1 h2).len
 ·have hi:i<xs.length:=by rw[←h.len];exact(List.getElem?_eq_some_iff.1 h2).1
  rw[List.getElem?_append_left hi]at h1
  exact(h.at i el fl h1 h2).at j x y h3 h4
inductive FzO (τ:ah) (D:Nat→Prop):dm→dm→Prop
 | refl (o:dm):FzO τ D o o
 | cells {sz:Nat} {xs ys:List (List AV)} (h:FzR τ D xs ys):FzO τ D (.cells sz xs) (.cells sz ys)
structure FzS (τ:ah) (D:Nat→Prop) (σ:ah):Prop where
 next:σ.next=τ.next
 gone:∀id,D id→σ.get id=none
 keep:∀id,¬D id→(τ.get id=none∧σ.get id=none)∨∃o o',τ.get id=some o∧σ.get id=some o'∧FzO τ D o o'
theorem F3 {ρ:Nat→Option (Option Nat×Nat)} {τ σ:ah} {w:World} {D:Nat→Prop} (hs:Sim ρ τ w) (hle:CLe (ctx ρ τ w) (ctx ρ σ w)) (himm:∀id o b sz,D id→τ.get id=some o→ρ id=some (some b,sz)→Imm ρ σ w b) {x y:AV} (hx:Fz τ D x y):
 ∀v,aL (ctx ρ τ w) x v→aL (ctx ρ σ w) y v:=by
 induction hx with
 | refl x=>exact fun v hv=>hv.mono hle
 | nil=>
  intro v hv
  rw[hv.aQ]
  exact .sl (fun _ _=>undef) rfl (fun _=>⟨rfl,rfl⟩) (Nat.le_refl _) (by simp) (by simp) (by simp)
 | own hD hg hl hy hz hfr ih=>
  rename_i id len sz els ys
  intro v hv
  rcases hv.fP with ⟨b,sz',cap,rfl,hp,hlc,_⟩ | ⟨rfl,a,rfl,_⟩
  ·have hp':ρ id=some (some b,sz'):=hp
   obtain⟨p,hp2,hor⟩:=hs.obj id _ hg
   rw[hp']at hp2;cases hp2
   obtain⟨rfl,cs,t,hb,hsz,hel,hone,hr⟩:=hor.eS
   have hb':w.heap[b]?=some (.cells cs t (0,0)):=hb
   have hcell:∀i j,i<len→j<sz→∃u,cs[i * sz+j]?=some u∧cellOf w.heap b (0+i * sz+j)=some u:=by
    intro i j hi hj
    have hrow:=da (sz:=sz) (Nat.lt_of_lt_of_le hi hl)
    have hlt:i * sz+j<cs.size:=by omega
    refine⟨cs[i * sz+j],Array.getElem?_eq_getElem hlt,?_⟩
    unfold cellOf
    rw[hb',Nat.zero_add]
    exact Array.getElem?_eq_getElem hlt
   refine .sl (fun i j=>cs[i * sz+j]?.getD undef) hy.symm (fun h=>by cases h) hlc (by simp) (fun i fl hi=> ?_) (fun i fl j x hi hj=> ?_)
   ·have hilt:i<len:=by rw[←hy];exact(List.getElem?_eq_some_iff.1 hi).1
    obtain⟨el,he⟩:=get_some (l:=els) (Nat.lt_of_lt_of_le hilt hl)
    refine⟨by rw[hz i el fl he hi];exact hel i el he,b,0,rfl,himm id _ b sz hD hg hp',fun j hj=> ?_⟩
    obtain⟨u,hu,hc⟩:=hcell i j hilt hj
    rw[hu]
    exact⟨hc,hone _ _ hu⟩
   ·have hilt:i<len:=by rw[←hy];exact(List.getElem?_eq_some_iff.1 hi).1
    obtain⟨el,he⟩:=get_some (l:=els) (Nat.lt_of_lt_of_le hilt hl)
    have hjl:j<el.length:=by rw[←hz i el fl he hi];exact(List.getElem?_eq_some_iff.1 hj).1
    obtain⟨z,hzz⟩:=get_some hjl
    obtain⟨u,hu,_⟩:=hcell i j hilt (by rw[←hel i el he];exact hjl)
    rw[hu]
    exact ih i el fl j z x he hi hzz hj u (hr i el j z he hzz u hu)
  ·have:ys= []:=List.length_eq_zero_iff.1 hy
   subst this
   exact .sl (fun _ _=>undef) rfl (fun _=>⟨rfl,rfl⟩) (Nat.le_refl _) (by simp) (by simp) (by simp)
 | sl hl hz hfr ih=>
  rename_i c sz xs ys
  intro v hv
  cases hv with
  | sl f hlen hne hcap hclip hc hr=>
   refine .sl f (by rw[hl];exact hlen) (fun h=>⟨List.length_eq_zero_iff.1 (by rw[hl,(hne h).1];rfl),(hne h).2⟩) hcap (by simp) (fun i fl hi=> ?_) (fun i fl j x hi hj=> ?_)
   ·have hilt:i<xs.length:=by rw[←hl];exact(List.getElem?_eq_some_iff.1 hi).1
    obtain⟨el,he⟩:=get_some hilt
    obtain⟨h1,b,o,h2,h3,h4⟩:=hc i el he
    exact⟨by rw[hz i el fl he hi];exact h1,b,o,h2,(hle.imm _ h3).1,h4⟩
   ·have hilt:i<xs.length:=by rw[←hl];exact(List.getElem?_eq_some_iff.1 hi).1
    obtain⟨el,he⟩:=get_some hilt
    obtain⟨z,hzz⟩:=get_some (l:=el) (i:=j) (by rw[←hz i el fl he hi];exact(List.getElem?_eq_some_iff.1 hj).1)
    exact ih i el fl j z x he hi hzz hj _ (hr i el j z he hzz)
 | agg hl hfr ih=>
  rename_i cs ds
  intro v hv
  cases hv with
  | agg hlen h1 hr=>
   refine .agg (by rw[hl];exact hlen) h1 fun j x u hj hu=> ?_
   obtain⟨z,hz⟩:=get_some (l:=cs) (i:=j) (by rw[←hl];exact(List.getElem?_eq_some_iff.1 hj).1)
   exact ih j z x hz hj _ (hr j z u hz hu)
 | ptr hD hg he=>
  rename_i id i o n els el
  intro v hv
  cases hv with
  | ptr hp=>
   rename_i b n
   have hp':ρ id=some (some b,n):=hp
   obtain⟨p,hp2,hor⟩:=hs.obj id _ hg
   rw[hp']at hp2;cases hp2
   obtain⟨rfl,cs,t,hb,hsz,hel,hone,hr⟩:=hor.eS
   have hb':w.heap[b]?=some (.cells cs t (0,0)):=hb
   have hil:i<els.length:=(List.getElem?_eq_some_iff.1 he).1
   have hel':=hel i el he
   refine .ref (fun j=>cs[i * n+(o+j)]?.getD undef) (himm id _ b n hD hg hp') (fun j hj=> ?_) (fun j x hj=> ?_)
   ·rw[List.length_drop,hel']at hj
    have hrow:=da (sz:=n) hil
    have hlt:i * n+(o+j)<cs.size:=by omega
    have hu:cs[i * n+(o+j)]?=some cs[i * n+(o+j)]:=Array.getElem?_eq_getElem hlt
    simp only[hu,Option.getD_some]
    refine⟨?_,hone _ _ hu⟩
    unfold cellOf
    show(match w.heap[b]? with | some (.cells c _ _)=>c[i * n+o+j]? | _=>none)=_
    rw[hb',Nat.add_assoc]
    exact hu
   ·rw[List.getElem?_drop]at hj
    have hjl:o+j<el.length:=(List.getElem?_eq_some_iff.1 hj).1
    have hrow:=da (sz:=n) hil
    have hlt:i * n+(o+j)<cs.size:=by omega
    have hu:cs[i * n+(o+j)]?=some cs[i * n+(o+j)]:=Array.getElem?_eq_getElem hlt
    simp only[hu,Option.getD_some]
    exact(hr i el (o+j) x he hj _ hu).mono hle
 | tup hl hfr ih=>
  rename_i cs ds
  intro v hv
  cases hv with
  | tup hlen hr=>
   refine .tup (by rw[hl];exact hlen) fun j x u hj hu=> ?_
   obtain⟨z,hz⟩:=get_some (l:=cs) (i:=j) (by rw[←hl];exact(List.getElem?_eq_some_iff.1 hj).1)
   exact ih j z x hz hj _ (hr j z u hz hu)
 | fn hl hfr ih=>
  rename_i f cs ds
  intro v hv
  cases hv with
  | fn hlen hr=>
   refine .fn (by rw[hl];exact hlen) fun j x u hj hu=> ?_
   obtain⟨z,hz⟩:=get_some (l:=cs) (i:=j) (by rw[←hl];exact(List.getElem?_eq_some_iff.1 hj).1)
   exact ih j z x hz hj _ (hr j z u hz hu)
theorem yK {ρ:Nat→Option (Option Nat×Nat)} {τ σ:ah} {w:World} {D:Nat→Prop} (hs:Sim ρ τ w) (hf:FzS τ D σ):Sim ρ σ w∧Ext ρ τ w ρ σ w∧∀x y v,Fz τ D x y→aL (ctx ρ τ w) x v→aL (ctx ρ σ w) y v:=by
 have hsome:∀id o',σ.get id=some o'→¬D id∧∃o,τ.get id=some o∧FzO τ D o o':=by
  intro id o' h
  have hD:¬D id:=fun hd=>by rw[hf.gone id hd]at h;cases h
  rcases hf.keep id hD with ⟨_,h2⟩ | ⟨o,o2,h1,h2,h3⟩
  ·rw[h2]at h;cases h
  ·rw[h2]at h;cases h;exact⟨hD,o,h1,h3⟩
 have hle:CLe (ctx ρ τ w) (ctx ρ σ w):=by
  refine⟨fun _ _ h=>h,fun b hb=>⟨⟨hb.1,fun id o' sz ho hp=> ?_⟩,rfl⟩,fun b cs t f hb=>⟨cs,f,hb,rfl⟩⟩
  obtain⟨_,o,h1,_⟩:=hsome id o' ho
  exact hb.2 id o sz h1 hp
 have himm:∀id o b sz,D id→τ.get id=some o→ρ id=some (some b,sz)→Imm ρ σ w b:=by
  intro id o b sz hD ho hp
  refine⟨hs.blk ho hp,fun id2 o2 sz2 ho2 hp2=> ?_⟩
  obtain⟨hnD,o3,h3,_⟩:=hsome id2 o2 ho2
  have:=hs.inj id id2 o o3 b sz sz2 ho h3 hp hp2
  subst this
  exact hnD hD
 have hrel:=fun x y v (hx:Fz τ D x y)=>F3 hs hle himm hx v
 refine⟨⟨fun id hid=>hs.fresh id (by rw[hf.next]at hid;exact hid),fun id o' ho=> ?_,fun i j oi oj b s t hi hj pi pj=> ?_⟩,⟨hle,Nat.le_of_eq hf.next.symm,rfl,rfl,rfl,Nat.le_refl _⟩,hrel⟩
 ·obtain⟨_,o,h1,h2⟩:=hsome id o' ho
  obtain⟨p,hp,hor⟩:=hs.obj id o h1
  refine⟨p,hp,?_⟩
  cases h2 with
  | refl=>exact hor.mono hle fun _ _=>rfl
  | cells hR=>
   rename_i sz xs ys
   cases hor with
   | cells cs t hb hsz hel hone hr=>
    refine .cells cs t hb (by rw[hR.len];exact hsz) (fun i fl hi=> ?_) hone (fun i fl j y hi hj v hv=> ?_)
    ·obtain⟨el,he⟩:=get_some (l:=xs) (i:=i) (by rw[←hR.len];exact(List.getElem?_eq_some_iff.1 hi).1)
     rw[(hR.at i el fl he hi).len];exact hel i el he
    ·obtain⟨el,he⟩:=get_some (l:=xs) (i:=i) (by rw[←hR.len];exact(List.getElem?_eq_some_iff.1 hi).1)
     have hL:=hR.at i el fl he hi
     obtain⟨x,hx⟩:=get_some (l:=el) (i:=j) (by rw[←hL.len];exact(List.getElem?_eq_some_iff.1 hj).1)
     exact hrel x y v (hL.at j x y hx hj) (hr i el j x he hx v hv)
   | none=>
    have:ys= []:=List.length_eq_zero_iff.1 (by rw[hR.len];rfl)
    subst this
    exact .none
 ·obtain⟨_,o1,h1,_⟩:=hsome i oi hi
  obtain⟨_,o2,h2,_⟩:=hsome j oj hj
  exact hs.inj i j o1 o2 b s t h1 h2 pi pj
theorem Ev.freeze {P:Program} {f:FuncId} {args args':List AV} {τ σ:ah} {D:Nat→Prop} {k kp:AV→ah→Prop} (hf:FzS τ D σ) (ha:FzL τ D args args') (h:Ev P f args' σ k kp):Ev P f args τ k kp:=by
 intro ρ w vs hs har
 obtain⟨h1,h2,h3⟩:=yK hs hf
 have har':ix (ctx ρ σ w) args' vs:=by
  refine⟨by rw[ha.len];exact har.1,fun i y v hy hv=> ?_⟩
  obtain⟨x,hx⟩:=get_some (l:=args) (i:=i) (by rw[←ha.len];exact(List.getElem?_eq_some_iff.1 hy).1)
  exact h3 x y v (ha.at i x y hx hy) (har.2 i x v hx hv)
 refine(h ρ w vs h1 har').mono ?_
 rintro e w' ⟨ρ',σ',he,hs',hp⟩
 exact⟨ρ',σ',h2.trans he,hs',hp⟩
end Go.Abs
set_option linter.unusedVariables false
namespace Go.Abs
open Go
theorem FzS.del (σ:ah) (id:Nat):FzS σ (fun i=>i=id) (σ.del id) where
 next:=rfl
 gone:=fun i h=>by subst h;exact ah.od σ i
 keep:=fun i h=>by
  rw[ah.gQ h]
  cases hg:σ.get i with
  | none=>exact .inl ⟨rfl,rfl⟩
  | some o=>exact .inr ⟨o,o,rfl,rfl,.refl o⟩
theorem Ev.ref2 {P:Program} {f:FuncId} {x:AV} {id n:Nat} {el:List AV} {σ:ah} {k kp:AV→ah→Prop} (hg:σ.get id=some (.cells n [el])) (h:Ev P f [x,.ref el] (σ.del id) k kp):Ev P f [x,.ptr id 0 0] σ k kp:=
 Ev.freeze (FzS.del σ id) (.cons (.refl x) (.cons (.ptr (el:=el) rfl hg rfl) .nil)) h
end Go.Abs
