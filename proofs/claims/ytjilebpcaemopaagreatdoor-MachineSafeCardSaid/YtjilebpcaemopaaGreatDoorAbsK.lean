import Derived.Test.YtjilebpcaemopaaGreatDoorAbsJ
import Derived.Laws.Externs
import Derived.IntWalk
namespace Go.Abs
open Go
structure AK where
 n:aB→ah→Prop
 ex:Nat→aB→ah→Prop
 ret:aB→ah→Prop
 pa:AV→ah→Prop
def ay (x:AV) (A B:Prop):Prop:=
 match x with
 | .val (.bool b)=>(b=true→A)∧(b=false→B)
 | _=>False
def bn (body:aB→ah→(aB→ah→Prop)→Prop) (fr:aB) (σ:ah):Prop:=
 ∃(I:aB→ah→Prop) (μ:aB→ah→Nat),I fr σ∧∀fr σ,I fr σ→body fr σ fun fr' σ'=>I fr' σ'∧μ fr' σ'<μ fr σ
def bj (B:aB→ah→Prop) (A:(aB→ah→Prop)→Prop):Prop:=
 ∃J:aB→ah→Prop,(∀fr σ,J fr σ→B fr σ)∧A J
def nA:Code→Nat
 | .region id _ _=>id+1
 | .seq a b=>match nA a with | 0=>nA b | n=>n
 | .cond _ a b=>match nA a with | 0=>nA b | n=>n
 | .block _ a=>nA a
 | .loop a=>nA a
 | .scope a=>nA a
 | _=>0
def eW:Code→Nat
 | .region id _ _=>id
 | .seq a _=>eW a
 | .cond _ a _=>eW a
 | .block _ a=>eW a
 | .loop a=>eW a
 | .scope a=>eW a
 | _=>0
def tA (keep:Nat→List Nat) (id:Nat):List ((Nat→List Nat)×List Nat):=
 (fun i=>keep (100000+1000 * id+i),keep (2000+id))::(keep (60000+id)).map fun q=>(fun i=>keep (10000000 * q+1000 * id+i),keep (10000000 * q+9000000+id))
def yu (P:Program) (ops:Array Oper):List ((Nat→List Nat)×List Nat)→aB→ah→(aB→ah→Prop)→(AV→ah→Prop)→Prop
 | [],_,_,_,_=>True
 | [o],fr,σ,k,kp=>qv P ops o.1 o.2 fr σ k kp
 | o::os,fr,σ,k,kp=>qv P ops o.1 o.2 fr σ k kp∧yu P ops os fr σ k kp
theorem qw {P ops fr σ k kp}:∀(os:List ((Nat→List Nat)×List Nat)),yu P ops os fr σ k kp→∀o∈os,qv P ops o.1 o.2 fr σ k kp
 | [],_,o,ho=>by simp at ho
 | [o],h,o',ho=>by simp at ho;subst ho;exact h
 | o::o2::os,h,o',ho=>by
  rcases List.mem_cons.1 ho with rfl | ho
  ·exact h.1
  ·exact qw (o2::os) h.2 o' ho
def zV (P:Program) (keep:Nat→List Nat) (id:Nat):Run:=match keep (4000+id) with
 | []=>fo P
 | _=>jt P
theorem zW (P:Program) (keep:Nat→List Nat) (id:Nat):lC P (zV P keep id):=by
 unfold zV
 split
 ·exact zX P
 ·exact wE P
def aw (P:Program) (keep:Nat→List Nat):Code→AK→aB→ah→Prop
 | .skip,k,fr,σ=>k.n fr σ
 | .region id ops false,k,fr,σ=>jN (zV P keep id) ops (List.range ops.size) fr σ (fun fr σ=>k.n (prune (keep id) fr) σ) k.pa
 | .region id ops true,k,fr,σ=>yu P ops (tA keep id) fr σ (fun fr σ=>k.n (prune (keep id) fr) σ) k.pa
 | .seq a b,k,fr,σ=>match keep (3000+nA b) with
  | []=>aw P keep a {k with n:=fun fr σ=>aw P keep b k fr σ} fr σ
  | l=>bj (fun fr σ=>aw P keep b k fr σ) (fun j=>aw P keep a {k with n:=fun fr σ=>j (prune l fr) σ} fr σ)
 | .cond c a b,k,fr,σ=>ay (ev fr c) (aw P keep a k fr σ) (aw P keep b k fr σ)
 | .block id c,k,fr,σ=>aw P keep c {k with ex:=fun m fr σ=>if m=id then k.n fr σ else k.ex m fr σ} fr σ
 | .exit id,k,fr,σ=>k.ex id fr σ
 | .ret,k,fr,σ=>k.ret fr σ
 | .loop c,k,fr,σ=>bn (fun fr σ again=>aw P keep c {k with n:=fun fr σ=>again (prune (keep (1000+eW c)) fr) σ} fr σ) (prune (keep (1000+eW c)) fr) σ
 | .scope c,k,fr,σ=>aw P keep c k fr σ
 | _,_,_,_=>False
def codeOk (keep:Nat→List Nat) (N:Nat):Code→Bool
 | .region _ ops false=>rK N ops&&v8 (keep 777777) ops
 | .region id ops true=>(rK N ops&&v8 (keep 777777) ops)&&uG ops (tA keep id)
 | .seq a b=>codeOk keep N a&&codeOk keep N b
 | .cond _ a b=>codeOk keep N a&&codeOk keep N b
 | .block _ c=>codeOk keep N c
 | .loop c=>codeOk keep N c
 | .scope c=>codeOk keep N c
 | _=>true
def QOf (D:Act→Prop) (ρ₀:Nat→Option (Option Nat×Nat)) (σ₀:ah) (w₀:World) (N:Nat) (k:AK) (e:Exit) (a:Act) (w:World):Prop:=
 ∃ρ σ fr,St D ρ₀ σ₀ w₀ N ρ σ w fr a∧match e with
  | .normal=>k.n fr σ
  | .exit id=>k.ex id fr σ
  | .ret=>k.ret fr σ
  | .panic chain=>∃x v,chain= [{v,recovered:=false}]∧aM (ctx ρ σ w) x v∧k.pa x σ
  | _=>False
theorem vC {D ρ₀ σ₀ w₀ N} {k:AK} {n:aB→ah→Prop} (keep:List Nat) (hn:∀fr σ,n fr σ↔k.n (prune keep fr) σ):Ends D ρ₀ σ₀ w₀ N n k.pa (QOf D ρ₀ σ₀ w₀ N k):=
 ⟨fun ρ σ _ fr _ hst h=>⟨ρ,σ,prune keep fr,⟨hst.ext,hst.sim,hst.frel.prune keep,hst.size,hst.defers⟩,(hn fr σ).1 h⟩,
  fun ρ σ _ fr _ x v hst hv h=>⟨ρ,σ,fr,hst,x,v,rfl,hv,h⟩⟩
theorem QOf.base {D ρ₀ σ₀ w₀ N ρ σ w fr a} (h:St D ρ₀ σ₀ w₀ N ρ σ w fr a) {k e a' w'} (hq:QOf D ρ σ w N k e a' w'):QOf D ρ₀ σ₀ w₀ N k e a' w':=by
 obtain⟨ρ',σ',fr',hst,hk⟩:=hq
 exact⟨ρ',σ',fr',⟨h.ext.trans hst.ext,hst.sim,hst.frel,hst.size,hst.defers⟩,hk⟩
theorem ui {P:Program} {Q:Exit→Act→World→Prop} {ι:Type} (I:ι→Act→World→Prop) (μ:ι→Nat) {c:Code}
 (round:∀i a w,I i a w→c.wp P (Exit.then (fun a' w'=>∃j,I j a' w'∧μ j<μ i) Q) a w) {i a w} (h₀:I i a w):(Code.loop c).wp P Q a w:=by
 intro b k cs
 have key:∀n i a w,μ i=n→I i a w→
  ∃e a' w',Q e a' w'∧Arrives P (lone (b.at a (.code c:: .inLoop c::k)) cs w) b k cs e a' w':=by
  intro n
  induction n using Nat.strongRecOn with
  | _ n ih=>
   intro i a w hn hI
   obtain⟨e,a₁,w₁,hq,harr⟩:=round i a w hI b (.inLoop c::k) cs
   cases e with
   | normal=>
    obtain⟨j,hI₁,hlt⟩:=hq
    obtain⟨e₂,a₂,w₂,hq₂,harr₂⟩:=ih (μ j) (hn▸hlt) j a₁ w₁ rfl hI₁
    exact⟨e₂,a₂,w₂,hq₂,.of_steps (Steps.trans harr (.one step_inLoop)) harr₂⟩
   | exit id=>exact⟨_,a₁,w₁,hq,.pass (x:=.inLoop c) rfl (fun _ _=>.inl (by simp)) harr⟩
   | goto l=>exact⟨_,a₁,w₁,hq,.pass (x:=.inLoop c) rfl (fun _ _=>.inl (by simp)) harr⟩
   | ret=>exact⟨_,a₁,w₁,hq,.pass (x:=.inLoop c) rfl (fun _ _=>.inl (by simp)) harr⟩
   | panic ch=>exact⟨_,a₁,w₁,hq,.pass (x:=.inLoop c) rfl (fun _ _=>.inl (by simp)) harr⟩
   | outgrown=>exact⟨_,a₁,w₁,hq,.pass (x:=.inLoop c) rfl (fun _ _=>.inl (by simp)) harr⟩
 obtain⟨e,a',w',hq,harr⟩:=key _ i a w rfl h₀
 exact⟨e,a',w',hq,.of_steps (.one step_loop) harr⟩
theorem and_l {a b:Bool} (h:(a&&b)=true):a=true:=(Bool.and_eq_true_iff.1 h).1
theorem and_r {a b:Bool} (h:(a&&b)=true):b=true:=(Bool.and_eq_true_iff.1 h).2
theorem da {P:Program} (hmix:P.follows .mixedOrders=true) {keep:Nat→List Nat} {N:Nat} {D:Act→Prop} (hD:DOk (keep 777777) D):∀(c:Code),codeOk keep N c=true→∀(k:AK) (ρ₀ σ₀ w₀ ρ) (σ:ah) (w:World) (fr:aB) (a:Act),
 St D ρ₀ σ₀ w₀ N ρ σ w fr a→aw P keep c k fr σ→c.wp P (QOf D ρ₀ σ₀ w₀ N k) a w
 | .skip,_,k,ρ₀,σ₀,w₀,ρ,σ,w,fr,a,hst,h=>wp_skip ⟨ρ,σ,fr,hst,h⟩
 | .region id ops false,hc,k,ρ₀,σ₀,w₀,ρ,σ,w,fr,a,hst,h=>wp_region (il (zW P keep id) (and_l hc) (and_r hc) hD (vC (keep id) fun _ _=>Iff.rfl) _ ρ σ w fr a hst h)
 | .region id ops true,hc,k,ρ₀,σ₀,w₀,ρ,σ,w,fr,a,hst,h=>by
  refine wp_region_draw fun t=> ?_
  rw[hmix]
  have hdr:=hst.sim.drawn (w.drawn+1) (Nat.le_succ _)
  simp only[codeOk,Bool.and_eq_true]at hc
  simp only[aw]at h
  exact uH hc.1.1 hc.1.2 hD hc.2 t (vC (keep id) fun _ _=>Iff.rfl) (fun fr fr' τ hl hk=>by show k.n (prune (keep id) fr') τ;rw[←tC (keep id) hl];exact hk) ⟨hst.ext.trans hdr.2,hdr.1,hst.frel.mono hdr.2.le,hst.size,hst.defers⟩ (qw _ h)
 | .seq x y,hc,k,ρ₀,σ₀,w₀,ρ,σ,w,fr,a,hst,h=>by
  simp only[codeOk,Bool.and_eq_true]at hc
  unfold aw at h
  split at h
  ·refine wp_seq (wp_mono (da hmix hD x hc.1 _ ρ₀ σ₀ w₀ ρ σ w fr a hst h) ?_)
   rintro e a' w' ⟨ρ',σ',fr',hst',hk⟩
   cases e with
   | normal=>exact da hmix hD y hc.2 k ρ₀ σ₀ w₀ ρ' σ' w' fr' a' hst' hk
   | exit id=>exact⟨ρ',σ',fr',hst',hk⟩
   | goto l=>exact hk.elim
   | ret=>exact⟨ρ',σ',fr',hst',hk⟩
   | panic ch=>exact⟨ρ',σ',fr',hst',hk⟩
   | outgrown=>exact hk.elim
  ·obtain⟨J,hJ,hA⟩:=h
   refine wp_seq (wp_mono (da hmix hD x hc.1 _ ρ₀ σ₀ w₀ ρ σ w fr a hst hA) ?_)
   rintro e a' w' ⟨ρ',σ',fr',hst',hk⟩
   cases e with
   | normal=>exact da hmix hD y hc.2 k ρ₀ σ₀ w₀ ρ' σ' w' _ a' ⟨hst'.ext,hst'.sim,hst'.frel.prune _,hst'.size,hst'.defers⟩ (hJ _ _ hk)
   | exit id=>exact⟨ρ',σ',fr',hst',hk⟩
   | goto l=>exact hk.elim
   | ret=>exact⟨ρ',σ',fr',hst',hk⟩
   | panic ch=>exact⟨ρ',σ',fr',hst',hk⟩
   | outgrown=>exact hk.elim
 | .cond c x y,hc,k,ρ₀,σ₀,w₀,ρ,σ,w,fr,a,hst,h=>by
  simp only[codeOk,Bool.and_eq_true]at hc
  simp only[aw,ay]at h
  split at h
  ·rename_i b hb
   have hv:=hst.frel.eval c
   rw[hb]at hv
   exact wp_cond_split hv.aR (fun e=>da hmix hD x hc.1 k ρ₀ σ₀ w₀ ρ σ w fr a hst (h.1 e)) (fun e=>da hmix hD y hc.2 k ρ₀ σ₀ w₀ ρ σ w fr a hst (h.2 e))
  ·exact h.elim
 | .block id c,hc,k,ρ₀,σ₀,w₀,ρ,σ,w,fr,a,hst,h=>by
  refine wp_block (wp_mono (da hmix hD c hc _ ρ₀ σ₀ w₀ ρ σ w fr a hst h) ?_)
  rintro e a' w' ⟨ρ',σ',fr',hst',hk⟩
  cases e with
  | normal=>exact⟨ρ',σ',fr',hst',hk⟩
  | exit m=>
   simp only at hk
   simp only[Exit.inBlock]
   split at hk
   ·rename_i e;rw[if_pos e];exact⟨ρ',σ',fr',hst',hk⟩
   ·rename_i e;rw[if_neg e];exact⟨ρ',σ',fr',hst',hk⟩
  | goto l=>exact hk.elim
  | ret=>exact⟨ρ',σ',fr',hst',hk⟩
  | panic ch=>exact⟨ρ',σ',fr',hst',hk⟩
  | outgrown=>exact hk.elim
 | .exit id,_,k,ρ₀,σ₀,w₀,ρ,σ,w,fr,a,hst,h=>wp_exit ⟨ρ,σ,fr,hst,h⟩
 | .ret,_,k,ρ₀,σ₀,w₀,ρ,σ,w,fr,a,hst,h=>wp_ret ⟨ρ,σ,fr,hst,h⟩
 | .loop c,hc,k,ρ₀,σ₀,w₀,ρ,σ,w,fr,a,hst,h=>by
  obtain⟨I,μ,h0,hround⟩:=h
  refine ui (ι:=aB×ah) (fun p a w=>∃ρ,St D ρ₀ σ₀ w₀ N ρ p.2 w p.1 a∧I p.1 p.2) (fun p=>μ p.1 p.2) ?_ (i:=(prune (keep (1000+eW c)) fr,σ)) ⟨ρ,⟨hst.ext,hst.sim,hst.frel.prune _,hst.size,hst.defers⟩,h0⟩
  rintro⟨fr,σ⟩ a w ⟨ρ,hst,hI⟩
  refine wp_mono (da hmix hD c hc _ ρ₀ σ₀ w₀ ρ σ w fr a hst (hround fr σ hI)) ?_
  rintro e a' w' ⟨ρ',σ',fr',hst',hk⟩
  cases e with
  | normal=>exact⟨(prune (keep (1000+eW c)) fr',σ'),⟨ρ',⟨hst'.ext,hst'.sim,hst'.frel.prune _,hst'.size,hst'.defers⟩,hk.1⟩,hk.2⟩
  | exit id=>exact⟨ρ',σ',fr',hst',hk⟩
  | goto l=>exact hk.elim
  | ret=>exact⟨ρ',σ',fr',hst',hk⟩
  | panic ch=>exact⟨ρ',σ',fr',hst',hk⟩
  | outgrown=>exact hk.elim
 | .scope c,hc,k,ρ₀,σ₀,w₀,ρ,σ,w,fr,a,hst,h=>by
  refine wp_scope_straight (wp_mono (da hmix hD c hc k ρ₀ σ₀ w₀ ρ σ w fr a hst h) ?_)
  rintro e a' w' ⟨ρ',σ',fr',hst',hk⟩
  cases e with
  | normal=>exact⟨ρ',σ',fr',hst',hk⟩
  | exit id=>exact⟨ρ',σ',fr',hst',hk⟩
  | goto l=>exact hk.elim
  | ret=>exact⟨ρ',σ',fr',hst',hk⟩
  | panic ch=>exact⟨ρ',σ',fr',hst',hk⟩
  | outgrown=>exact hk.elim
 | .rangeFunc ..,_,_,_,_,_,_,_,_,_,_,_,h=>h.elim
 | .label _,_,_,_,_,_,_,_,_,_,_,_,h=>h.elim
 | .goto _,_,_,_,_,_,_,_,_,_,_,_,h=>h.elim
 | .refuse _,_,_,_,_,_,_,_,_,_,_,_,h=>h.elim
end Go.Abs
namespace Go.Abs
open Go
def dD:Nat→List AV→aB
 | _,[]=>[]
 | i,x::r=>(i,x)::dD (i+1) r
theorem gv:∀(xs:List AV) (i k:Nat),aa (dD i xs) k=if i≤k then (xs[k - i]?).getD .any else .any
 | [],i,k=>by simp[dD,aa]
 | x::r,i,k=>by
  rw[dD,eL,gv r (i+1) k]
  by_cases h:k=i
  ·subst h;simp
  ·rw[if_neg h]
   by_cases h2:i≤k
   ·rw[if_pos (by omega),if_pos h2,show k - i=(k - (i+1))+1 by omega,List.getElem?_cons_succ]
   ·rw[if_neg (by omega),if_neg h2]
def fj (P:Program) (fr:aB) (σ:ah):List ResultVar→Option (List AV)
 | []=>some []
 | .tmp t::r=>(fj P fr σ r).map (aa fr t:: ·)
 | .cell a t::r=>match dO P t with
  | some (g,n)=>match aj g n (aa fr a) σ,fj P fr σ r with
   | some x,some l=>some (x::l)
   | _,_=>none
  | none=>none
def aX (r:Option AV) (k:AV→Prop):Prop:=
 match r with
 | some x=>k x
 | none=>False
def sd (P:Program) (fr:aB) (σ:ah):List ResultVar→(List AV→Prop)→Prop
 | [],K=>K []
 | .tmp t::r,K=>sd P fr σ r fun l=>K (aa fr t::l)
 | .cell a t::r,K=>match dO P t with
  | some (g,n)=>aX (aj g n (aa fr a) σ) fun x=>sd P fr σ r fun l=>K (x::l)
  | none=>False
theorem m8 {P fr σ}:∀(rs:List ResultVar) (K:List AV→Prop),sd P fr σ rs K→∃l,fj P fr σ rs=some l∧K l
 | [],K,h=>⟨[],rfl,h⟩
 | .tmp t::r,K,h=>by
  obtain⟨l,h1,h2⟩:=m8 r _ h
  exact⟨_,by simp[fj,h1],h2⟩
 | .cell a t::r,K,h=>by
  simp only[sd]at h
  split at h
  ·rename_i g n ht
   unfold aX at h
   split at h
   ·rename_i x hx
    obtain⟨l,h1,h2⟩:=m8 r _ h
    exact⟨_,by simp[fj,ht,hx,h1],h2⟩
   ·exact h.elim
  ·exact h.elim
def ml (l:List AV) (σ:ah) (k:AV→ah→Prop):Prop:=
 match l with
 | [x]=>k x σ
 | xs=>k (.tup xs) σ
def resK (vs:Option (List AV)) (σ:ah) (k:AV→ah→Prop):Prop:=
 match vs with
 | some [x]=>k x σ
 | some xs=>k (.tup xs) σ
 | none=>False
def retK (P:Program) (rs:List ResultVar) (k kp:AV→ah→Prop):AK:=
 {n:=fun fr σ=>sd P fr σ rs fun l=>ml l σ k,ex:=fun _ _ _=>False,ret:=fun fr σ=>sd P fr σ rs fun l=>ml l σ k,pa:=kp}
theorem vk {P:Program} {ρ σ w} (hs:Sim ρ σ w) {t g n} (ht:dO P t=some (g,n)) {x y:AV} (hy:aj g n x σ=some y) {v:Value} (hv:aM (ctx ρ σ w) x v):
 ∃u,(do loadVar t (←asAddr v):Sem Value).run P w= .ok u w∧aM (ctx ρ σ w) y u:=by
 obtain⟨u,hu,hr⟩:=Ee hs ht hv hy
 refine⟨u,?_,hr⟩
 unfold aj at hy
 split at hy
 ·cases hv with
  | ptr hp=>simpa [Instr.loadAt,Instr.sureAddr,asAddr] using hu
 ·cases hv with
  | ref f hi hc hr=>simpa [Instr.loadAt,Instr.sureAddr,asAddr] using hu
 ·cases hy
def pH (tmps:Array Value):ResultVar→Sem Value
 | .tmp t=>pure (tmps.getD t undef)
 | .cell a t=>do loadVar t (←asAddr (tmps.getD a undef))
theorem ki {P:Program} {ρ σ w} (hs:Sim ρ σ w) {fr} {a:Act} (hf:eR (ctx ρ σ w) fr a.tmps):∀(rs:List ResultVar) (l:List AV),fj P fr σ rs=some l→
 ∃us:List Value,(rs.mapM (pH a.tmps)).run P w= .ok us w∧us.length=l.length∧∀(i:Nat) x v,l[i]?=some x→us[i]?=some v→aM (ctx ρ σ w) x v
 | [],l,h=>by simp only[fj,Option.some.injEq]at h;subst h;exact⟨[],by simp,rfl,by simp⟩
 | .tmp t::r,l,h=>by
  simp only[fj]at h
  obtain⟨l',hl',rfl⟩:=Option.map_eq_some_iff.1 h
  obtain⟨us,h1,h2,h3⟩:=ki hs hf r l' hl'
  refine⟨a.tmps.getD t undef::us,by simp[List.mapM_cons,pH,h1],by simp[h2],fun i x v hx hv=> ?_⟩
  cases i with
  | zero=>simp only[List.getElem?_cons_zero,Option.some.injEq]at hx hv;subst hx;subst hv;exact hf t
  | succ i=>exact h3 i x v (by simpa using hx) (by simpa using hv)
 | .cell p t::r,l,h=>by
  simp only[fj]at h
  split at h
  ·rename_i g n ht
   split at h
   ·rename_i x l' hx' hl'
    cases h
    obtain⟨us,h1,h2,h3⟩:=ki hs hf r l' hl'
    obtain⟨u,hu,hr⟩:=vk hs ht hx' (hf p)
    refine⟨u::us,?_,by simp[h2],fun i x v hx hv=> ?_⟩
    ·have hu':(pH a.tmps (.cell p t)).run P w= .ok u w:=hu
     simp only[List.mapM_cons,Sem.run_bind,hu',h1,Result.andThen_ok,Sem.run_pure]
    ·cases i with
     | zero=>simp at hx hv;subst hx;subst hv;exact hr
     | succ i=>exact h3 i x v (by simpa using hx) (by simpa using hv)
   ·cases h
  ·cases h
theorem kj {P:Program} {ρ σ w} (hs:Sim ρ σ w) {fr} {a:Act} (hf:eR (ctx ρ σ w) fr a.tmps) {fn:Func} {k:AV→ah→Prop} (h0:sd P fr σ fn.results.toList fun l=>ml l σ k):
 ∃v x,(results fn a.tmps).run P w= .ok v w∧aM (ctx ρ σ w) x v∧k x σ:=by
 have h:resK (fj P fr σ fn.results.toList) σ k:=by
  obtain⟨l,h1,h2⟩:=m8 _ _ h0
  rw[h1]
  unfold ml at h2
  unfold resK
  split at h2<;>simp_all
 cases hv:fj P fr σ fn.results.toList with
 | none=>rw[hv]at h;exact h.elim
 | some l=>
  rw[hv]at h
  obtain⟨us,h1,h2,h3⟩:=ki hs hf _ _ hv
  have hrun:(fn.results.mapM (pH a.tmps)).run P w= .ok us.toArray w:=by
   rw[Array.mapM_eq_mapM_toList]
   simp only[Sem.run_map,h1,Result.andThen_ok]
  have hres:results fn a.tmps=(do let vs←fn.results.mapM (pH a.tmps);pure (if h:vs.size=1 then vs[0] else .tuple vs)):=by
   unfold results
   congr 1
  clear hv
  match l,us,h2,h,h3,hrun with
  | [x],[u],_,h,h3,hrun=>exact⟨u,x,by rw[hres];simp[hrun],h3 0 x u rfl rfl,h⟩
  | [],[],_,h,h3,hrun=>exact⟨.tuple #[],.tup [],by rw[hres];simp[hrun],.tup rfl (by simp),h⟩
  | x::y::l,u::v::us,hlen,h,h3,hrun=>
   refine⟨.tuple (u::v::us).toArray,.tup (x::y::l),by rw[hres];simp[hrun],.tup (by simpa using hlen.symm) (fun i x v hx hv=>h3 i x v hx (by simpa using hv)),h⟩
def fG:List (Nat×List Nat)→Nat→List Nat
 | [],_=>[]
 | (j,x)::r,i=>bif Nat.beq i j then x else fG r i
theorem ya {P:Program} (hmix:P.follows .mixedOrders=true) {f:FuncId} {fn:Func} {body:Code} (hf:P.funcs[f]?=some fn) (hb:fn.body=some body) (hname:(fn.name== "runtime.NumGoroutine")=false)
 {args:List AV} (hargs:args.length≤fn.ntmps) (keep:Nat→List Nat) (hok:codeOk keep fn.ntmps body=true) {σ:ah} {k kp:AV→ah→Prop}
 (h:aw P keep body (retK P fn.results.toList k kp) (dD 0 args) σ):Ev P f args σ k kp:=by
 refine fun ρ w vs hs hrel=>.inl ⟨⟨fn,hf,by rw[hb];rfl,hname⟩,?_⟩
 refine calls_of_wp hf hb ?_
 have hst:St (fun a=>a.defers= []) ρ σ w fn.ntmps ρ σ w (dD 0 args) {tmps:=vs++Array.replicate (fn.ntmps - vs.size) undef,defers:=[]}:=by
  refine⟨Ext.refl _ _ _,hs,fun q=> ?_,by simp;have:=hrel.1;omega,rfl⟩
  rw[gv]
  simp only[Nat.zero_le,if_true,Nat.sub_zero]
  cases hx:args[q]? with
  | none=>exact .any _
  | some x=>
   have hq:q<vs.size:=by rw[←hrel.1];exact(List.getElem?_eq_some_iff.1 hx).1
   simp only[Option.getD_some]
   rw[Array.getD_eq_getD_getElem?,Array.getElem?_append_left hq,Array.getElem?_eq_getElem hq]
   exact hrel.2 q x _ hx (Array.getElem?_eq_getElem hq)
 refine wp_mono (da hmix (DOk.plain _) body hok _ ρ σ w ρ σ w _ _ hst h) ?_
 rintro e a' w' ⟨ρ',σ',fr',hst',hk⟩
 cases e with
 | normal=>
  obtain⟨v,x,h1,h2,h3⟩:=kj hst'.sim hst'.frel hk
  exact⟨hst'.defers,v,h1,ρ',σ',hst'.ext,hst'.sim,x,h3,h2⟩
 | ret=>
  obtain⟨v,x,h1,h2,h3⟩:=kj hst'.sim hst'.frel hk
  exact⟨hst'.defers,v,h1,ρ',σ',hst'.ext,hst'.sim,x,h3,h2⟩
 | exit id=>exact hk.elim
 | goto l=>exact hk.elim
 | panic chain=>
  obtain⟨x,v,hc,hv,hp⟩:=hk
  exact⟨hst'.defers,ρ',σ',hst'.ext,hst'.sim,x,v,hc,hp,hv⟩
 | outgrown=>exact hk.elim
theorem Ev.ext {P:Program} {f:FuncId} {fn:Func} {e:Array Value→Sem Value} (hf:P.funcs[f]?=some fn) (hname:(fn.name== "runtime.NumGoroutine")=false) (hb:fn.body.isNone=true) (hn:Extern.findNext fn=none) (he:Extern.find fn=some e)
 {args:List AV} {σ:ah} {k kp:AV→ah→Prop} (h:∀(c:Ctx) w vs,iY c args vs→∃v x,(e vs).run P w= .ok v w∧k x σ∧aM c x v):Ev P f args σ k kp:=by
 intro ρ w vs hs ha
 obtain⟨v,x,h1,h2,h3⟩:=h _ w vs ha
 exact .inr ⟨v,w,by rw[run_callFunc_extern hf hname hb hn he,h1];rfl,ρ,σ,Ext.refl _ _ _,hs,x,h2,h3⟩
end Go.Abs
set_option linter.unusedVariables false
set_option linter.unusedSimpArgs false
set_option linter.deprecated false
namespace Go.Abs
open Go
theorem nr {α:Sort _} {a b:α} (h:a=b):a=b:=h
@[congr] theorem Ef {r r':Option (AV×ah)} {k:AV→ah→Prop} (h:r=r'):ab r k=ab r' k:=by rw[h]
@[simp ↓] theorem G2 (x:AV) (σ:ah) (k:AV→ah→Prop):ab (some (x,σ)) k=k x σ:=nr rfl
@[congr] theorem Eh {r r':Option AV} {k:AV→Prop} (h:r=r'):aX r k=aX r' k:=by rw[h]
@[simp ↓] theorem G4 (x:AV) (k:AV→Prop):aX (some x) k=k x:=nr rfl
@[congr] theorem DW {x x':AV} {A B:Prop} (h:x=x'):ay x A B=ay x' A B:=by rw[h]
@[simp ↓] theorem Ge (A B:Prop):ay (.val (.bool true)) A B=A:=by simp[ay]
@[simp ↓] theorem sR (A B:Prop):ay (.val (.bool false)) A B=B:=by simp[ay]
@[congr] theorem gK_congr {x x':AV} {w:Bool} {run:(AV→ah→Prop)→Prop} {K:AV→ah→Prop} {σ:ah} (h:x=x'):gK x w run K σ=gK x' w run K σ:=by rw[h]
@[simp ↓] theorem gK_tt (run:(AV→ah→Prop)→Prop) (K:AV→ah→Prop) (σ:ah):gK (.val (.bool true)) true run K σ=run K:=by simp[gK,iy]
@[simp ↓] theorem gK_ff (run:(AV→ah→Prop)→Prop) (K:AV→ah→Prop) (σ:ah):gK (.val (.bool false)) false run K σ=run K:=by simp[gK,iy]
@[simp ↓] theorem gK_tf (run:(AV→ah→Prop)→Prop) (K:AV→ah→Prop) (σ:ah):gK (.val (.bool true)) false run K σ=K (.val undef) σ:=by simp[gK,iy]
@[simp ↓] theorem gK_ft (run:(AV→ah→Prop)→Prop) (K:AV→ah→Prop) (σ:ah):gK (.val (.bool false)) true run K σ=K (.val undef) σ:=by simp[gK,iy]
@[simp ↓] theorem gK_un (w:Bool) (run:(AV→ah→Prop)→Prop) (K:AV→ah→Prop) (σ:ah):gK (.val undef) w run K σ=K (.val undef) σ:=by simp[gK,iy,undef]
@[congr] theorem Ev_congr {P:Program} {f:FuncId} {xs ys:List AV} {σ:ah} {k kp:AV→ah→Prop} (h:xs=ys):Ev P f xs σ k kp=Ev P f ys σ k kp:=by rw[h]
@[congr] theorem D2 {b:aB→ah→(aB→ah→Prop)→Prop} {fr fr':aB} {σ:ah} (h:fr=fr'):bn b fr σ=bn b fr' σ:=by rw[h]
@[congr] theorem GX {B:aB→ah→Prop} {A:(aB→ah→Prop)→Prop}:bj B A=bj B A:=rfl
theorem aL {B:aB→ah→Prop} {A:(aB→ah→Prop)→Prop} (h:A B):bj B A:=⟨B,fun _ _ h=>h,h⟩
theorem bx (J:aB→ah→Prop) {B:aB→ah→Prop} {A:(aB→ah→Prop)→Prop} (h1:A J) (h2:∀fr σ,J fr σ→B fr σ):bj B A:=⟨J,h2,h1⟩
theorem ba {ι:Type} (st:ι→aB) (I:ι→ah→Prop) (μ:aB→ah→Nat) {body:aB→ah→(aB→ah→Prop)→Prop} {fr:aB} {σ:ah} (i:ι) (e:fr=st i) (h0:I i σ)
 (h:∀i σ,I i σ→body (st i) σ fun fr' σ'=>(∃j,fr'=st j∧I j σ')∧μ fr' σ'<μ (st i) σ):bn body fr σ:=
 ⟨fun fr σ=>∃i,fr=st i∧I i σ,μ,⟨i,e,h0⟩,by rintro fr σ ⟨i,rfl,hI⟩;exact h i σ hI⟩
def intOf:AV→Int
 | .val (.int _ n)=>n
 | _=>0
@[simp] theorem intOf_val (k:IntKind) (n:Int):intOf (.val (.int k n))=n:=nr rfl
@[simp] theorem look_hit (k:Nat) (v:AV) (r:aB):aa ((k,v)::r) k=v:=by simp[eL]
@[simp] theorem look_miss {k j:Nat} (h:j≠k) (v:AV) (r:aB):aa ((k,v)::r) j=aa r j:=by simp[eL,h]
@[simp] theorem GA (σ:ah) (x:AV):ae σ (some x)=some (x,σ):=nr rfl
@[simp] theorem Ha (σ:ah):aH (some σ)=some (.val undef,σ):=nr rfl
@[simp] theorem DJ (zs:List AV) (σ:ah):aS zs σ=some (.ptr σ.next 0 0,σ.new (.cells zs.length [zs])):=nr rfl
@[simp] theorem Ax (σ:ah):oC σ=some (.mp σ.next,σ.new (.map [])):=nr rfl
@[simp] theorem FW (t:Bool) (a b:AV):aF (.val (.bool t)) a b=some (bif t then a else b):=nr rfl
@[simp] theorem yl (o id i p:Nat):ag o (.ptr id i p)=some (.ptr id i (p+o)):=nr rfl
@[simp] theorem ym (o:Nat) (cs:List AV):ag o (.ref cs)=some (.ref (cs.drop o)):=nr rfl
@[simp] theorem Ay (id i p:Nat):ax (.ptr id i p)=some (.ptr id i p):=nr rfl
@[simp] theorem Az (cs:List AV):ax (.ref cs)=some (.ref cs):=nr rfl
@[simp] theorem qt (g:Bool) (n id i o:Nat) (σ:ah):aj g n (.ptr id i o) σ=(jh σ id i).bind fun el=>ck g n (el.drop o):=nr rfl
@[simp] theorem aLoad_ref (g:Bool) (n:Nat) (cs:List AV) (σ:ah):aj g n (.ref cs) σ=ck g n cs:=nr rfl
@[simp] theorem Cj (k:Nat) (vs:List AV):bf k (.tup vs)=vs[k]?:=nr rfl
@[simp] theorem FR (o:Nat) (g:Bool) (n:Nat) (cs:List AV):fB o g n (.agg cs)=ck g n (cs.drop o):=nr rfl
@[simp] theorem aLenK_own (id n:Nat) (σ:ah):aD .slice (.own id n) σ=some (.val (.int .i64 n)):=nr rfl
@[simp] theorem aLenK_sl (c:Bool) (sz:Nat) (xs:List (List AV)) (σ:ah):aD .slice (.sl c sz xs) σ=some (.val (.int .i64 xs.length)):=nr rfl
@[simp] theorem aLenK_nil (σ:ah):aD .slice (.val (.slice none 0 0)) σ=some (.val (.int .i64 0)):=nr rfl
@[simp] theorem aLenK_str (b:ByteArray) (σ:ah):aD .str (.val (.string b)) σ=some (.val (.int .i64 b.size)):=nr rfl
@[simp] theorem FV (σ:ah):aD .map (.val (.map none)) σ=some (.val (.int .i64 0)):=nr rfl
theorem aE (n:Nat) (c:Bool) (sz:Nat) (xs:List (List AV)) (k:IntKind) (i:Int) (σ:ah):ak n (.sl c sz xs) (.val (.int k i)) σ=if 0≤i∧sz=n then (xs[i.toNat]?).map .ref else none:=rfl
@[simp] theorem aLenK_win (id off sz n:Nat) (σ:ah):aD .slice (.win id off sz n) σ=some (.val (.int .i64 n)):=nr rfl
@[simp] theorem F3 (a b c d:Nat):bq (.win a b c d)=some [.win a b c d]:=nr rfl
theorem cu (n id len:Nat) (k:IntKind) (i:Int) (σ:ah):
 ak n (.own id len) (.val (.int k i)) σ=if 0≤i∧i<len then (jh σ id i.toNat).bind fun el=>if el.length=n then some (.ptr id i.toNat 0) else none else none:=rfl
@[simp] theorem FY (k:IntKind) (n:Int):bq (.val (.int k n))=some [.val (.int k n)]:=nr rfl
@[simp] theorem DN (b:Bool):bq (.val (.bool b))=some [.val (.bool b)]:=nr rfl
@[simp] theorem uv (b:ByteArray):bq (.val (.string b))=some [.val (.string b)]:=nr rfl
@[simp] theorem Cr (a:Option Addr) (n m:Nat):bq (.val (.slice a n m))=some [.val (.slice a n m)]:=nr rfl
@[simp] theorem FZ (a:Option Nat):bq (.val (.map a))=some [.val (.map a)]:=nr rfl
@[simp] theorem yq (a:Option Addr):bq (.val (.pointer a))=some [.val (.pointer a)]:=nr rfl
@[simp] theorem yp:bq (.val .nilFunc)=some [.val .nilFunc]:=nr rfl
@[simp] theorem x7:bq (.val .nilIface)=some [.val .nilIface]:=nr rfl
@[simp] theorem FX (cs:List AV):bq (.agg cs)=some cs:=nr rfl
@[simp] theorem F1 (a b c:Nat):bq (.ptr a b c)=some [.ptr a b c]:=nr rfl
@[simp] theorem F2 (cs:List AV):bq (.ref cs)=some [.ref cs]:=nr rfl
@[simp] theorem acells_sl (c:Bool) (sz:Nat) (xs:List (List AV)):bq (.sl c sz xs)=some [.sl c sz xs]:=nr rfl
@[simp] theorem F0 (a b:Nat):bq (.own a b)=some [.own a b]:=nr rfl
@[simp] theorem acells_mp (a:Nat):bq (.mp a)=some [.mp a]:=nr rfl
@[simp] theorem acells_fn (f:Fn) (cap:List AV):bq (.fn f cap)=some [.fn f cap]:=nr rfl
@[simp] theorem Cq (t:TypeId) (x:AV):bq (.iface t x)=some [.iface t x]:=nr rfl
@[simp] theorem uu (n id i o:Nat) (v:AV) (σ:ah):az n (.ptr id i o) v σ=match σ.get id with
 | some (.cells sz els)=>match els[i]?,bq v with
  | some el,some vs=>if vs.length=n∧o+n≤el.length then some (σ.set id (.cells sz (els.set i (el.take o++vs++el.drop (o+n))))) else none
  | _,_=>none
 | _=>none:=nr rfl
theorem bL {r:Option (AV×ah)} {x:AV} {τ:ah} {k:AV→ah→Prop} (h:r=some (x,τ)) (hk:k x τ):ab r k:=by rw[h];exact hk
theorem gp {σ:ah} {r:Option AV} {x:AV} {k:AV→ah→Prop} (h:r=some x) (hk:k x σ):ab (ae σ r) k:=by rw[h];exact hk
theorem Eg {σ:ah} {r:Option ah} {k:AV→ah→Prop} (h:r=some σ) (hk:k (.val undef) σ):ab (aH r) k:=by rw[h];exact hk
@[simp] theorem AA (n id len:Nat) (k:IntKind) (h:Int):dZ n (.own id len) none (some (.val (.int k h))) none=if 0≤h∧h≤len then some (.own id h.toNat) else none:=by
 simp[dZ,fY]
@[simp] theorem rB (n:Nat) (c:Bool) (sz:Nat) (xs:List (List AV)) (k:IntKind) (h:Int):dZ n (.sl c sz xs) none (some (.val (.int k h))) none=if 0≤h∧h≤xs.length∧sz=n then some (.sl (c&&decide (h=xs.length)) sz (xs.take h.toNat)) else none:=by
 simp[dZ,fY]
@[simp] theorem Cp (n:Nat) (c:Bool) (sz:Nat) (xs:List (List AV)) (k:IntKind) (l:Int):dZ n (.sl c sz xs) (some (.val (.int k l))) none none=if 0≤l∧l≤xs.length∧sz=n then some (.sl c sz (xs.drop l.toNat)) else none:=by
 simp[dZ,fY]
@[simp] theorem Cn (n:Nat) (c:Bool) (sz:Nat) (xs:List (List AV)) (k k':IntKind) (l h:Int):dZ n (.sl c sz xs) (some (.val (.int k l))) (some (.val (.int k' h))) none=if 0≤l∧l≤h∧h≤xs.length∧sz=n then some (.sl (c&&decide (h=xs.length)) sz ((xs.take h.toNat).drop l.toNat)) else none:=by
 simp[dZ,fY]
theorem eF {σ:ah} {id i sz:Nat} {els:List (List AV)} (h:σ.get id=some (.cells sz els)):jh σ id i=els[i]?:=by simp[jh,h]
@[simp] theorem CM (n:Nat) (cs:List AV):ck false n cs=cs.head?:=nr rfl
@[simp] theorem CL (n:Nat) (cs:List AV):ck true n cs=if n≤cs.length then some (.agg (cs.take n)) else none:=nr rfl
@[simp] theorem mH (b:Bool):bD (.val (.bool b))=some (.val (.bool (!b))):=nr rfl
@[simp] theorem aNeg_int (k:IntKind) (n:Int):Cm (.val (.int k n))=some (.val (.int k (k.wrap (0 - n)))):=nr rfl
@[simp] theorem aMax_int (k k':IntKind) (a b:Int):rA (.val (.int k a)) (.val (.int k' b))=some (.val (.int k (if a<b then b else a))):=nr rfl
@[simp] theorem aMin_int (k k':IntKind) (a b:Int):sA (.val (.int k a)) (.val (.int k' b))=some (.val (.int k (if b<a then b else a))):=nr rfl
@[simp] theorem aConv_int (k k':IntKind) (n:Int):jy (.int k) (.val (.int k' n))=some (.val (.int k (k.wrap n))):=nr rfl
@[simp] theorem aConv_str (b:ByteArray):jy .str (.val (.string b))=some (.val (.string b)):=nr rfl
@[simp] theorem DL (b:ByteArray):jy .bytes (.val (.string b))=some (.sl false 1 (jO b)):=nr rfl
@[simp] theorem asKey_int (k:IntKind) (n:Int):asKey (.val (.int k n))=some (.i k n):=nr rfl
@[simp] theorem asKey_str (b:ByteArray):asKey (.val (.string b))=some (.s b):=nr rfl
theorem dH (op:BinOp) (k:IntKind) (a b:Int):ar op .prim (.val (.int k a)) (.val (.int k b))=(mO op k a b).map .val:=by simp[ar,lF]
@[simp] theorem aBin_add (k:IntKind) (a b:Int):ar .add .prim (.val (.int k a)) (.val (.int k b))=some (.val (.int k (k.wrap (a+b)))):=by rw[dH];rfl
@[simp] theorem aBin_sub (k:IntKind) (a b:Int):ar .sub .prim (.val (.int k a)) (.val (.int k b))=some (.val (.int k (k.wrap (a - b)))):=by rw[dH];rfl
@[simp] theorem aBin_mul (k:IntKind) (a b:Int):ar .mul .prim (.val (.int k a)) (.val (.int k b))=some (.val (.int k (k.wrap (a * b)))):=by rw[dH];rfl
@[simp] theorem aBin_quo (k:IntKind) (a b:Int):ar .quo .prim (.val (.int k a)) (.val (.int k b))=if b=0 then none else some (.val (.int k (k.wrap (a.tdiv b)))):=by
 rw[dH];simp only[mO];split<;>rfl
@[simp] theorem aBin_rem (k:IntKind) (a b:Int):ar .rem .prim (.val (.int k a)) (.val (.int k b))=if b=0 then none else some (.val (.int k (a.tmod b))):=by
 rw[dH];simp only[mO];split<;>rfl
@[simp] theorem aBin_eql (k:IntKind) (a b:Int):ar .eql .prim (.val (.int k a)) (.val (.int k b))=some (.val (.bool (decide (a=b)))):=by rw[dH];rfl
@[simp] theorem aBin_neq (k:IntKind) (a b:Int):ar .neq .prim (.val (.int k a)) (.val (.int k b))=some (.val (.bool (!decide (a=b)))):=by rw[dH];rfl
@[simp] theorem aBin_lss (k:IntKind) (a b:Int):ar .lss .prim (.val (.int k a)) (.val (.int k b))=some (.val (.bool (decide (a<b)))):=by rw[dH];rfl
@[simp] theorem aBin_leq (k:IntKind) (a b:Int):ar .leq .prim (.val (.int k a)) (.val (.int k b))=some (.val (.bool (decide (a≤b)))):=by rw[dH];rfl
@[simp] theorem aBin_gtr (k:IntKind) (a b:Int):ar .gtr .prim (.val (.int k a)) (.val (.int k b))=some (.val (.bool (decide (b<a)))):=by rw[dH];rfl
@[simp] theorem aBin_geq (k:IntKind) (a b:Int):ar .geq .prim (.val (.int k a)) (.val (.int k b))=some (.val (.bool (decide (b≤a)))):=by rw[dH];rfl
@[simp] theorem aBin_seql (a b:ByteArray):ar .eql .prim (.val (.string a)) (.val (.string b))=some (.val (.bool (decide (a=b)))):=nr rfl
@[simp] theorem aBin_sneq (a b:ByteArray):ar .neq .prim (.val (.string a)) (.val (.string b))=some (.val (.bool (!decide (a=b)))):=nr rfl
theorem sy (op:BinOp) (a b:ByteArray):ar op .prim (.val (.string a)) (.val (.string b))=(kl op a b).map .val:=nr rfl
@[simp] theorem aBin_beq (a b:Bool):ar .eql .bool (.val (.bool a)) (.val (.bool b))=some (.val (.bool (decide (a=b)))):=nr rfl
@[simp] theorem aBin_bne (a b:Bool):ar .neq .bool (.val (.bool a)) (.val (.bool b))=some (.val (.bool (!decide (a=b)))):=nr rfl
@[simp] theorem aBin_pp:ar .eql .ptr (.val (.pointer none)) (.val (.pointer none))=some (.val (.bool true)):=nr rfl
@[simp] theorem aBin_pn (a b c:Nat):ar .eql .ptr (.ptr a b c) (.val (.pointer none))=some (.val (.bool false)):=nr rfl
@[simp] theorem aBin_rn (cs:List AV):ar .eql .ptr (.ref cs) (.val (.pointer none))=some (.val (.bool false)):=nr rfl
@[simp] theorem aBin_pp':ar .neq .ptr (.val (.pointer none)) (.val (.pointer none))=some (.val (.bool false)):=nr rfl
@[simp] theorem aBin_pn' (a b c:Nat):ar .neq .ptr (.ptr a b c) (.val (.pointer none))=some (.val (.bool true)):=nr rfl
@[simp] theorem aBin_rn' (cs:List AV):ar .neq .ptr (.ref cs) (.val (.pointer none))=some (.val (.bool true)):=nr rfl
@[simp] theorem yh (ks:List LK) (cs ds:List AV):ar .eql (.agg ks) (.agg cs) (.agg ds)=(br ks cs ds).map fun b=>.val (.bool b):=nr rfl
@[simp] theorem aBin_agg' (ks:List LK) (cs ds:List AV):ar .neq (.agg ks) (.agg cs) (.agg ds)=(br ks cs ds).map fun b=>.val (.bool (!b)):=nr rfl
@[simp] theorem eqLeaf_i (k:IntKind) (a b:Int):jj .i (.val (.int k a)) (.val (.int k b))=some (decide (a=b)):=by simp[jj]
@[simp] theorem eqLeaf_b (a b:Bool):jj .b (.val (.bool a)) (.val (.bool b))=some (decide (a=b)):=nr rfl
@[simp] theorem eqLeaf_s (a b:ByteArray):jj .s (.val (.string a)) (.val (.string b))=some (decide (a=b)):=nr rfl
@[simp] theorem aBox_eq (x:AV) (σ:ah):bt x σ=(bq x).map fun cs=>(.ptr σ.next 0 0,σ.new (.cells cs.length [cs])):=nr rfl
@[simp] theorem elAt_new (σ:ah) (sz:Nat) (els:List (List AV)) (i:Nat):jh (σ.new (.cells sz els)) σ.next i=els[i]?:=eF (ah.iQ _ _)
@[simp] theorem vU (σ:ah) (id i:Nat):jh σ id i=match σ.get id with
 | some (.cells _ els)=>els[i]?
 | _=>none:=nr rfl
@[simp] theorem aBuild_eq (zs:List AV) (ps:List (Nat×Nat×AV)):aN zs ps=(lG zs ps).map .agg:=nr rfl
@[simp] theorem aFill_nil (cs:List AV):lG cs []=some cs:=nr rfl
@[simp] theorem FU (cs:List AV) (off sz:Nat) (x:AV) (r:List (Nat×Nat×AV)):lG cs ((off,sz,x)::r)=match bq x with
 | some vs=>if vs.length=sz∧off+sz≤cs.length then lG (cs.take off++vs++cs.drop (off+sz)) r else none
 | none=>none:=nr rfl
@[simp] theorem Ck (sz:Nat) (els:List (List AV)):dv sz els []=some els:=nr rfl
@[simp] theorem Aw (sz:Nat) (els:List (List AV)) (i:Nat) (x:AV) (r:List (Nat×AV)):dv sz els ((i,x)::r)=match bq x with
 | some vs=>if vs.length=sz∧i<els.length then dv sz (els.set i vs) r else none
 | none=>none:=nr rfl
@[simp] theorem yj (len sz:Nat) (zs:List AV) (parts:List (Nat×AV)) (σ:ah):aK len sz zs parts σ=
 if zs.length=sz∧len * sz≤16777216 then (dv sz (List.replicate len zs) parts).map fun els=>(.own σ.next len,σ.new (.cells sz els)) else none:=nr rfl
@[simp] theorem DK (len sz:Nat) (zs:List AV) (parts:List (Nat×AV)):aV len sz zs parts=
 if zs.length=sz∧len * sz≤16777216 then (dv sz (List.replicate len zs) parts).map fun els=>.sl true sz els else none:=nr rfl
@[simp] theorem CF:br [] [] []=some true:=nr rfl
@[simp] theorem qf (k:LK) (ks:List LK) (x y:AV) (xs ys:List AV):br (k::ks) (x::xs) (y::ys)=match jj k x y,br ks xs ys with
 | some a,some b=>some (a&&b)
 | _,_=>none:=nr rfl
@[simp] theorem Ci (sz bytes:Nat) (zs:List AV) (k:IntKind) (n:Int) (σ:ah):lE sz bytes zs (.val (.slice none 0 0)) (.val (.int k n)) σ=if 0<n∧n.toNat * bytes≤140737488355328∧n≤140737488355328∧zs.length=sz∧0<sz then some (.own σ.next n.toNat,σ.new (.cells sz (List.replicate n.toNat zs))) else none:=nr rfl
@[simp] theorem aBin_sn:ar .eql .slice (.val (.slice none 0 0)) (.val (.slice none 0 0))=some (.val (.bool true)):=nr rfl
@[simp] theorem aBin_so (id n:Nat):ar .eql .slice (.own id (n+1)) (.val (.slice none 0 0))=some (.val (.bool false)):=nr rfl
@[simp] theorem aCap0_nil (σ:ah):yk (.val (.slice none 0 0)) σ=some (.val (.int .i64 0),σ):=nr rfl
theorem gI {d:TypeDesc} {z:AV} {ok:Bool} {id:Nat} {x:AV} {q:MK} {σ:ah} {es:List (MK×AV)} (hk:asKey x=some q) (hf:dT d q=true) (h:σ.get id=some (.map es)) (hes:cm d es=true):
 eD d z ok (.mp id) x σ=some (match dp es q with | some y=>if ok=true then .tup [y,.val (.bool true)] else y | none=>if ok=true then .tup [z,.val (.bool false)] else z):=by
 simp only[eD,hk,hf,h,hes,if_true]
 cases dp es q<;>rfl
theorem iw {d:TypeDesc} {id:Nat} {x y:AV} {q:MK} {σ:ah} {es:List (MK×AV)} (hk:asKey x=some q) (hf:dT d q=true) (h:σ.get id=some (.map es)) (hes:cm d es=true):
 di d (.mp id) x y σ=some (σ.set id (.map (dJ es q y))):=by
 simp only[di,hk,hf,h,hes,if_true]
theorem qb {d:TypeDesc} {id:Nat} {x:AV} {q:MK} {σ:ah} {es:List (MK×AV)} (hk:asKey x=some q) (hf:dT d q=true) (h:σ.get id=some (.map es)) (hes:cm d es=true):
 fC d (.mp id) x σ=some (σ.set id (.map (gU es q))):=by
 simp only[fC,hk,hf,h,hes,if_true]
theorem wrap64 {n:Int} (h: -9223372036854775808≤n∧n≤9223372036854775807):IntKind.i64.wrap n=n:=Go.IntWalk.i64_in n h
@[simp] theorem wrap64_0:IntKind.i64.wrap 0=0:=wrap64 (by omega)
@[simp] theorem wrap64_1:IntKind.i64.wrap 1=1:=wrap64 (by omega)
structure aq (σ τ:ah):Prop where
 next:σ.next≤τ.next
 get:∀i,i<σ.next→τ.get i=σ.get i
theorem aq.refl (σ:ah):aq σ σ:=⟨Nat.le_refl _,fun _ _=>rfl⟩
theorem aq.trans {σ τ υ:ah} (h:aq σ τ) (k:aq τ υ):aq σ υ:=⟨Nat.le_trans h.next k.next,fun i hi=>(k.get i (Nat.lt_of_lt_of_le hi h.next)).trans (h.get i hi)⟩
theorem aq.new (σ:ah) (o:dF):aq σ (σ.new o):=⟨Nat.le_succ _,fun i hi=>ah.dB (Nat.ne_of_lt hi)⟩
theorem aq.set {σ τ:ah} (h:aq σ τ) {i:Nat} (hi:σ.next≤i) (o:dF):aq σ (τ.set i o):=⟨h.next,fun j hj=>(ah.lx (by omega)).trans (h.get j hj)⟩
theorem cn (es:List (MK×AV)) (q q':MK) (y:AV):dp (dJ es q y) q'=if q'=q then some y else dp es q':=by
 induction es with
 | nil=>simp only[dJ,dp,eq_comm (a:=q)]
 | cons p es ih=>
  obtain⟨k,x⟩:=p
  by_cases h:k=q
  ·subst h
   by_cases h':q'=k
   ·subst h';simp[dJ,dp]
   ·simp[dJ,dp,h',Ne.symm h']
  ·simp only[dJ,if_neg h,dp,ih]
   by_cases h':k=q'
   ·subst h';simp[h]
   ·simp[h']
def oA (es:List (MK×AV)):Prop:=(es.map (·.1)).Nodup
theorem xB (es:List (MK×AV)) (q:MK) (y:AV):(dJ es q y).map (·.1)=if q∈es.map (·.1) then es.map (·.1) else es.map (·.1)++ [q]:=by
 induction es with
 | nil=>simp[dJ]
 | cons p es ih=>
  obtain⟨k,x⟩:=p
  by_cases h:k=q
  ·subst h;simp[dJ]
  ·simp only[dJ,if_neg h,List.map_cons,ih,List.mem_cons]
   by_cases h':q∈es.map (·.1)
   ·rw[if_pos h',if_pos (.inr h')]
   ·rw[if_neg h',if_neg (by simp[h',Ne.symm h])];rfl
theorem oA.dJ {es:List (MK×AV)} (h:oA es) (q:MK) (y:AV):oA (dJ es q y):=by
 unfold oA at *
 rw[xB]
 split
 ·exact h
 ·rename_i hq
  rw[List.nodup_append]
  exact⟨h,by simp,by intro a ha b hb;simp at hb;subst hb;intro e;subst e;exact hq ha⟩
theorem jm {d:TypeDesc} {es:List (MK×AV)} (h:cm d es=true) {q:MK} (hq:dT d q=true) (y:AV):cm d (Abs.dJ es q y)=true:=by
 induction es with
 | nil=>simp only[Abs.dJ,cm,List.all_cons,List.all_nil,hq,Bool.and_self]
 | cons p es ih=>
  obtain⟨k,x⟩:=p
  simp only[cm,List.all_cons,Bool.and_eq_true]at h
  by_cases e:k=q
  ·simp only[Abs.dJ,if_pos e,cm,List.all_cons,Bool.and_eq_true];exact⟨hq,h.2⟩
  ·simp only[Abs.dJ,if_neg e,cm,List.all_cons,Bool.and_eq_true];exact⟨h.1,ih h.2⟩
theorem tq (es:List (MK×AV)) (q:MK):(gU es q).Sublist es:=by
 induction es with
 | nil=>simp[gU]
 | cons p es ih=>
  obtain⟨k,x⟩:=p
  by_cases h:k=q
  ·simp[gU,h]
  ·simp only[gU,if_neg h];exact ih.cons_cons _
theorem oA.gU {es:List (MK×AV)} (h:oA es) (q:MK):oA (gU es q):=List.Nodup.sublist ((tq es q).map _) h
theorem rR {d:TypeDesc} {es:List (MK×AV)} (h:cm d es=true) (q:MK):cm d (Abs.gU es q)=true:=by
 unfold cm at *
 rw[List.all_eq_true]at *
 exact fun p hp=>h p ((tq es q).subset hp)
theorem xy {es:List (MK×AV)} {q:MK} (h:q∉es.map (·.1)):dp es q=none:=by
 induction es with
 | nil=>rfl
 | cons p es ih=>
  obtain⟨k,x⟩:=p
  simp only[List.map_cons,List.mem_cons,not_or]at h
  simp[dp,Ne.symm h.1,ih h.2]
theorem iP {es:List (MK×AV)} (h:oA es) (q q':MK):dp (gU es q) q'=if q'=q then none else dp es q':=by
 induction es with
 | nil=>simp[gU,dp]
 | cons p es ih=>
  obtain⟨k,x⟩:=p
  unfold oA at h
  simp only[List.map_cons,List.nodup_cons]at h
  by_cases e:k=q
  ·subst e
   simp only[gU,if_pos,dp]
   by_cases e':q'=k
   ·subst e';simp[xy h.1]
   ·simp[e',Ne.symm e']
  ·simp only[gU,if_neg e,dp,ih h.2]
   by_cases e':k=q'
   ·subst e';simp[e]
   ·simp[e']
theorem an (σ:ah) (o:dF) (i:Nat):(σ.new o).get i=if i=σ.next then some o else σ.get i:=by
 by_cases h:i=σ.next
 ·subst h;simp
 ·rw[ah.dB h,if_neg h]
theorem au (σ:ah) (id:Nat) (o:dF) (i:Nat):(σ.set id o).get i=if i=id then some o else σ.get i:=by
 by_cases h:i=id
 ·subst h;simp
 ·rw[ah.lx h,if_neg h]
theorem bM (σ:ah) (id i:Nat):(σ.del id).get i=if i=id then none else σ.get i:=by
 by_cases h:i=id
 ·subst h;simp
 ·rw[ah.ix h,if_neg h]
theorem lt_next {a b:Nat} (h:a<b) (n:Nat):(a=b+n)=False:=by simp;omega
def lA (σ:ah) (p:AV) (cs:List AV):Prop:=p= .ref cs∨∃q i o el,p= .ptr q i o∧jh σ q i=some el∧cs=el.drop o
theorem lA.load {σ p cs} (h:lA σ p cs) (g:Bool) (n:Nat):aj g n p σ=ck g n cs:=by
 rcases h with rfl | ⟨q,i,o,el,rfl,h,rfl⟩
 ·rfl
 ·rw[qt,h];rfl
theorem lA.field {σ p cs} (h:lA σ p cs) (o:Nat):∃p',ag o p=some p'∧lA σ p' (cs.drop o):=by
 rcases h with rfl | ⟨q,i,o',el,rfl,h,rfl⟩
 ·exact⟨_,rfl,.inl rfl⟩
 ·exact⟨_,rfl,.inr ⟨q,i,o'+o,el,rfl,h,by rw[List.drop_drop]⟩⟩
theorem lA.nil {σ p cs} (h:lA σ p cs):ax p=some p:=by
 rcases h with rfl | ⟨q,i,o',el,rfl,h,rfl⟩<;>rfl
def Rows (σ:ah) (sz:Nat) (x:AV) (els:List (List AV)):Prop:=
 (x= .val (.slice none 0 0)∧els= [])∨(∃c,x= .sl c sz els)∨∃q rest,x= .own q els.length∧σ.get q=some (.cells sz (els++rest))
theorem Rows.len {σ sz x els} (h:Rows σ sz x els):aD .slice x σ=some (.val (.int .i64 els.length)):=by
 rcases h with ⟨rfl,rfl⟩ | ⟨c,rfl⟩ | ⟨q,rest,rfl,_⟩<;>rfl
theorem Rows.at {σ sz x els} (h:Rows σ sz x els) {i:Nat} {el:List AV} (he:els[i]?=some el) (hl:el.length=sz) (k:IntKind):
 ∃p,ak sz x (.val (.int k i)) σ=some p∧lA σ p el:=by
 have hi:=(List.getElem?_eq_some_iff.1 he).1
 rcases h with ⟨rfl,rfl⟩ | ⟨c,rfl⟩ | ⟨q,rest,rfl,hq⟩
 ·simp at hi
 ·exact⟨.ref el,by rw[aE];simp[he],.inl rfl⟩
 ·have:jh σ q i=some el:=by rw[eF hq,List.getElem?_append_left hi,he]
  exact⟨.ptr q i 0,by simp only[ak];rw[if_pos ⟨by omega,by omega⟩];simp only[Int.toNat_natCast,this,Option.bind_some,hl,if_true],.inr ⟨q,i,0,el,rfl,this,rfl⟩⟩
theorem Rows.eV {σ sz x els} (h:Rows σ sz x els):Abs.eV sz x σ=some els:=by
 rcases h with ⟨rfl,rfl⟩ | ⟨c,rfl⟩ | ⟨q,rest,rfl,hq⟩
 ·rfl
 ·simp[Abs.eV]
 ·simp[Abs.eV,hq]
def gone (x:AV) (σ:ah):ah:=
 match x with
 | .own q _=>σ.del q
 | _=>σ
theorem bX {σ sz by' x y xs ys} (hx:Rows σ sz x xs) (hn:∀c,x≠ .sl c sz xs) (hy:Rows σ sz y ys) (hb:(xs.length+ys.length) * by'≤140737488355328∧xs.length+ys.length≤140737488355328):
 aY sz by' x y σ=some (.own σ.next (xs.length+ys.length),(gone x σ).new (.cells sz (xs++ys))):=by
 unfold aY
 rw[hx.eV,hy.eV]
 simp only[hb,and_self,if_true]
 rcases hx with ⟨rfl,rfl⟩ | ⟨c,rfl⟩ | ⟨q,rest,rfl,hq⟩
 ·rfl
 ·exact absurd rfl (hn c)
 ·rfl
@[simp] theorem bP (x:AV) (σ:ah):(gone x σ).next=σ.next:=by cases x<;>rfl
end Go.Abs
