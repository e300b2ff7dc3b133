import Derived.Test.YtjilebpcaemopaaGreatDoorAbsJ
import Derived.Laws.Externs
import Derived.IntWalk
namespace Go.Abs
open Go
structure AK where
 n:aA→ah→Prop
 ex:Nat→aA→ah→Prop
 ret:aA→ah→Prop
 pa:AV→ah→Prop
def ay (x:AV) (A B:Prop):Prop:=
 match x with
 | .val (.bool b)=>(b=true→A)∧(b=false→B)
 | _=>False
def bj (body:aA→ah→(aA→ah→Prop)→Prop) (fr:aA) (σ:ah):Prop:=
 ∃(I:aA→ah→Prop) (μ:aA→ah→Nat),I fr σ∧∀fr σ,I fr σ→body fr σ fun fr' σ'=>I fr' σ'∧μ fr' σ'<μ fr σ
def bk (B:aA→ah→Prop) (A:(aA→ah→Prop)→Prop):Prop:=
 ∃J:aA→ah→Prop,(∀fr σ,J fr σ→B fr σ)∧A J
def mS:Code→Nat
 | .region id _ _=>id+1
 | .seq a b=>match mS a with | 0=>mS b | n=>n
 | .cond _ a b=>match mS a with | 0=>mS b | n=>n
 | .block _ a=>mS a
 | .loop a=>mS a
 | .scope a=>mS a
 | _=>0
def eB:Code→Nat
 | .region id _ _=>id
 | .seq a _=>eB a
 | .cond _ a _=>eB a
 | .block _ a=>eB a
 | .loop a=>eB a
 | .scope a=>eB a
 | _=>0
def sZ (keep:Nat→List Nat) (id:Nat):List ((Nat→List Nat)×List Nat):=
 (fun i=>keep (100000+1000 * id+i),keep (2000+id))::(keep (60000+id)).map fun q=>(fun i=>keep (10000000 * q+1000 * id+i),keep (10000000 * q+9000000+id))
def yg (P:Program) (ops:Array Oper):List ((Nat→List Nat)×List Nat)→aA→ah→(aA→ah→Prop)→(AV→ah→Prop)→Prop
 | [],_,_,_,_=>True
 | [o],fr,σ,k,kp=>pU P ops o.1 o.2 fr σ k kp
 | o::os,fr,σ,k,kp=>pU P ops o.1 o.2 fr σ k kp∧yg P ops os fr σ k kp
theorem pV {P ops fr σ k kp}:∀(os:List ((Nat→List Nat)×List Nat)),yg P ops os fr σ k kp→∀o∈os,pU P ops o.1 o.2 fr σ k kp
 | [],_,o,ho=>by simp at ho
 | [o],h,o',ho=>by simp at ho;subst ho;exact h
 | o::o2::os,h,o',ho=>by
  rcases List.mem_cons.1 ho with rfl | ho
  ·exact h.1
  ·exact pV (o2::os) h.2 o' ho
def zK (P:Program) (keep:Nat→List Nat) (id:Nat):Run:=match keep (4000+id) with
 | []=>eK P
 | _=>iP P
theorem zL (P:Program) (keep:Nat→List Nat) (id:Nat):j7 P (zK P keep id):=by
 unfold zK
 split
 ·exact zN P
 ·exact wj P
def aw (P:Program) (keep:Nat→List Nat):Code→AK→aA→ah→Prop
 | .skip,k,fr,σ=>k.n fr σ
 | .region id ops false,k,fr,σ=>jn (zK P keep id) ops (List.range ops.size) fr σ (fun fr σ=>k.n (prune (keep id) fr) σ) k.pa
 | .region id ops true,k,fr,σ=>yg P ops (sZ keep id) fr σ (fun fr σ=>k.n (prune (keep id) fr) σ) k.pa
 | .seq a b,k,fr,σ=>match keep (3000+mS b) with
  | []=>aw P keep a {k with n:=fun fr σ=>aw P keep b k fr σ} fr σ
  | l=>bk (fun fr σ=>aw P keep b k fr σ) (fun j=>aw P keep a {k with n:=fun fr σ=>j (prune l fr) σ} fr σ)
 | .cond c a b,k,fr,σ=>ay (ev fr c) (aw P keep a k fr σ) (aw P keep b k fr σ)
 | .block id c,k,fr,σ=>aw P keep c {k with ex:=fun m fr σ=>if m=id then k.n fr σ else k.ex m fr σ} fr σ
 | .exit id,k,fr,σ=>k.ex id fr σ
 | .ret,k,fr,σ=>k.ret fr σ
 | .loop c,k,fr,σ=>bj (fun fr σ again=>aw P keep c {k with n:=fun fr σ=>again (prune (keep (1000+eB c)) fr) σ} fr σ) (prune (keep (1000+eB c)) fr) σ
 | .scope c,k,fr,σ=>aw P keep c k fr σ
 | _,_,_,_=>False
def codeOk (keep:Nat→List Nat) (N:Nat):Code→Bool
 | .region _ ops false=>qV N ops&&vI (keep 777777) ops
 | .region id ops true=>(qV N ops&&vI (keep 777777) ops)&&ug ops (sZ keep id)
 | .seq a b=>codeOk keep N a&&codeOk keep N b
 | .cond _ a b=>codeOk keep N a&&codeOk keep N b
 | .block _ c=>codeOk keep N c
 | .loop c=>codeOk keep N c
 | .scope c=>codeOk keep N c
 | _=>true
def QOf (D:Act→Prop) (ρ₀:Nat→Option (Option Nat×Nat)) (σ₀:ah) (w₀:World) (N:Nat) (k:AK) (e:Exit) (a:Act) (w:World):Prop:=
 ∃ρ σ fr,St D ρ₀ σ₀ w₀ N ρ σ w fr a∧match e with
  | .normal=>k.n fr σ
  | .exit id=>k.ex id fr σ
  | .ret=>k.ret fr σ
  | .panic chain=>∃x v,chain= [{v,recovered:=false}]∧aL (ctx ρ σ w) x v∧k.pa x σ
  | _=>False
theorem u9 {D ρ₀ σ₀ w₀ N} {k:AK} {n:aA→ah→Prop} (keep:List Nat) (hn:∀fr σ,n fr σ↔k.n (prune keep fr) σ):Ends D ρ₀ σ₀ w₀ N n k.pa (QOf D ρ₀ σ₀ w₀ N k):=
 ⟨fun ρ σ _ fr _ hst h=>⟨ρ,σ,prune keep fr,⟨hst.ext,hst.sim,hst.frel.prune keep,hst.size,hst.defers⟩,(hn fr σ).1 h⟩,
  fun ρ σ _ fr _ x v hst hv h=>⟨ρ,σ,fr,hst,x,v,rfl,hv,h⟩⟩
theorem QOf.base {D ρ₀ σ₀ w₀ N ρ σ w fr a} (h:St D ρ₀ σ₀ w₀ N ρ σ w fr a) {k e a' w'} (hq:QOf D ρ σ w N k e a' w'):QOf D ρ₀ σ₀ w₀ N k e a' w':=by
 obtain⟨ρ',σ',fr',hst,hk⟩:=hq
 exact⟨ρ',σ',fr',⟨h.ext.trans hst.ext,hst.sim,hst.frel,hst.size,hst.defers⟩,hk⟩
theorem tL {P:Program} {Q:Exit→Act→World→Prop} {ι:Type} (I:ι→Act→World→Prop) (μ:ι→Nat) {c:Code}
 (round:∀i a w,I i a w→c.wp P (Exit.then (fun a' w'=>∃j,I j a' w'∧μ j<μ i) Q) a w) {i a w} (h₀:I i a w):(Code.loop c).wp P Q a w:=by
 intro b k cs
 have key:∀n i a w,μ i=n→I i a w→
  ∃e a' w',Q e a' w'∧Arrives P (lone (b.at a (.code c:: .inLoop c::k)) cs w) b k cs e a' w':=by
  intro n
  induction n using Nat.strongRecOn with
  | _ n ih=>
   intro i a w hn hI
   obtain⟨e,a₁,w₁,hq,harr⟩:=round i a w hI b (.inLoop c::k) cs
   cases e with
   | normal=>
    obtain⟨j,hI₁,hlt⟩:=hq
    obtain⟨e₂,a₂,w₂,hq₂,harr₂⟩:=ih (μ j) (hn▸hlt) j a₁ w₁ rfl hI₁
    exact⟨e₂,a₂,w₂,hq₂,.of_steps (Steps.trans harr (.one step_inLoop)) harr₂⟩
   | exit id=>exact⟨_,a₁,w₁,hq,.pass (x:=.inLoop c) rfl (fun _ _=>.inl (by simp)) harr⟩
   | goto l=>exact⟨_,a₁,w₁,hq,.pass (x:=.inLoop c) rfl (fun _ _=>.inl (by simp)) harr⟩
   | ret=>exact⟨_,a₁,w₁,hq,.pass (x:=.inLoop c) rfl (fun _ _=>.inl (by simp)) harr⟩
   | panic ch=>exact⟨_,a₁,w₁,hq,.pass (x:=.inLoop c) rfl (fun _ _=>.inl (by simp)) harr⟩
   | outgrown=>exact⟨_,a₁,w₁,hq,.pass (x:=.inLoop c) rfl (fun _ _=>.inl (by simp)) harr⟩
 obtain⟨e,a',w',hq,harr⟩:=key _ i a w rfl h₀
 exact⟨e,a',w',hq,.of_steps (.one step_loop) harr⟩
theorem and_l {a b:Bool} (h:(a&&b)=true):a=true:=(Bool.and_eq_true_iff.1 h).1
theorem and_r {a b:Bool} (h:(a&&b)=true):b=true:=(Bool.and_eq_true_iff.1 h).2
theorem cQ {P:Program} (hmix:P.follows .mixedOrders=true) {keep:Nat→List Nat} {N:Nat} {D:Act→Prop} (hD:DOk (keep 777777) D):∀(c:Code),codeOk keep N c=true→∀(k:AK) (ρ₀ σ₀ w₀ ρ) (σ:ah) (w:World) (fr:aA) (a:Act),
 St D ρ₀ σ₀ w₀ N ρ σ w fr a→aw P keep c k fr σ→c.wp P (QOf D ρ₀ σ₀ w₀ N k) a w
 | .skip,_,k,ρ₀,σ₀,w₀,ρ,σ,w,fr,a,hst,h=>wp_skip ⟨ρ,σ,fr,hst,h⟩
 | .region id ops false,hc,k,ρ₀,σ₀,w₀,ρ,σ,w,fr,a,hst,h=>wp_region (gG (zL P keep id) (and_l hc) (and_r hc) hD (u9 (keep id) fun _ _=>Iff.rfl) _ ρ σ w fr a hst h)
 | .region id ops true,hc,k,ρ₀,σ₀,w₀,ρ,σ,w,fr,a,hst,h=>by
  refine wp_region_draw fun t=> ?_
  rw[hmix]
  have hdr:=hst.sim.drawn (w.drawn+1) (Nat.le_succ _)
  simp only[codeOk,Bool.and_eq_true]at hc
  simp only[aw]at h
  exact uh hc.1.1 hc.1.2 hD hc.2 t (u9 (keep id) fun _ _=>Iff.rfl) (fun fr fr' τ hl hk=>by show k.n (prune (keep id) fr') τ;rw[←s5 (keep id) hl];exact hk) ⟨hst.ext.trans hdr.2,hdr.1,hst.frel.mono hdr.2.le,hst.size,hst.defers⟩ (pV _ h)
 | .seq x y,hc,k,ρ₀,σ₀,w₀,ρ,σ,w,fr,a,hst,h=>by
  simp only[codeOk,Bool.and_eq_true]at hc
  unfold aw at h
  split at h
  ·refine wp_seq (wp_mono (cQ hmix hD x hc.1 _ ρ₀ σ₀ w₀ ρ σ w fr a hst h) ?_)
   rintro e a' w' ⟨ρ',σ',fr',hst',hk⟩
   cases e with
   | normal=>exact cQ hmix hD y hc.2 k ρ₀ σ₀ w₀ ρ' σ' w' fr' a' hst' hk
   | exit id=>exact⟨ρ',σ',fr',hst',hk⟩
   | goto l=>exact hk.elim
   | ret=>exact⟨ρ',σ',fr',hst',hk⟩
   | panic ch=>exact⟨ρ',σ',fr',hst',hk⟩
   | outgrown=>exact hk.elim
  ·obtain⟨J,hJ,hA⟩:=h
   refine wp_seq (wp_mono (cQ hmix hD x hc.1 _ ρ₀ σ₀ w₀ ρ σ w fr a hst hA) ?_)
   rintro e a' w' ⟨ρ',σ',fr',hst',hk⟩
   cases e with
   | normal=>exact cQ hmix hD y hc.2 k ρ₀ σ₀ w₀ ρ' σ' w' _ a' ⟨hst'.ext,hst'.sim,hst'.frel.prune _,hst'.size,hst'.defers⟩ (hJ _ _ hk)
   | exit id=>exact⟨ρ',σ',fr',hst',hk⟩
   | goto l=>exact hk.elim
   | ret=>exact⟨ρ',σ',fr',hst',hk⟩
   | panic ch=>exact⟨ρ',σ',fr',hst',hk⟩
   | outgrown=>exact hk.elim
 | .cond c x y,hc,k,ρ₀,σ₀,w₀,ρ,σ,w,fr,a,hst,h=>by
  simp only[codeOk,Bool.and_eq_true]at hc
  simp only[aw,ay]at h
  split at h
  ·rename_i b hb
   have hv:=hst.frel.eval c
   rw[hb]at hv
   exact wp_cond_split hv.aQ (fun e=>cQ hmix hD x hc.1 k ρ₀ σ₀ w₀ ρ σ w fr a hst (h.1 e)) (fun e=>cQ hmix hD y hc.2 k ρ₀ σ₀ w₀ ρ σ w fr a hst (h.2 e))
  ·exact h.elim
 | .block id c,hc,k,ρ₀,σ₀,w₀,ρ,σ,w,fr,a,hst,h=>by
  refine wp_block (wp_mono (cQ hmix hD c hc _ ρ₀ σ₀ w₀ ρ σ w fr a hst h) ?_)
  rintro e a' w' ⟨ρ',σ',fr',hst',hk⟩
  cases e with
  | normal=>exact⟨ρ',σ',fr',hst',hk⟩
  | exit m=>
   simp only at hk
   simp only[Exit.inBlock]
   split at hk
   ·rename_i e;rw[if_pos e];exact⟨ρ',σ',fr',hst',hk⟩
   ·rename_i e;rw[if_neg e];exact⟨ρ',σ',fr',hst',hk⟩
  | goto l=>exact hk.elim
  | ret=>exact⟨ρ',σ',fr',hst',hk⟩
  | panic ch=>exact⟨ρ',σ',fr',hst',hk⟩
  | outgrown=>exact hk.elim
 | .exit id,_,k,ρ₀,σ₀,w₀,ρ,σ,w,fr,a,hst,h=>wp_exit ⟨ρ,σ,fr,hst,h⟩
 | .ret,_,k,ρ₀,σ₀,w₀,ρ,σ,w,fr,a,hst,h=>wp_ret ⟨ρ,σ,fr,hst,h⟩
 | .loop c,hc,k,ρ₀,σ₀,w₀,ρ,σ,w,fr,a,hst,h=>by
  obtain⟨I,μ,h0,hround⟩:=h
  refine tL (ι:=aA×ah) (fun p a w=>∃ρ,St D ρ₀ σ₀ w₀ N ρ p.2 w p.1 a∧I p.1 p.2) (fun p=>μ p.1 p.2) ?_ (i:=(prune (keep (1000+eB c)) fr,σ)) ⟨ρ,⟨hst.ext,hst.sim,hst.frel.prune _,hst.size,hst.defers⟩,h0⟩
  rintro⟨fr,σ⟩ a w ⟨ρ,hst,hI⟩
  refine wp_mono (cQ hmix hD c hc _ ρ₀ σ₀ w₀ ρ σ w fr a hst (hround fr σ hI)) ?_
  rintro e a' w' ⟨ρ',σ',fr',hst',hk⟩
  cases e with
  | normal=>exact⟨(prune (keep (1000+eB c)) fr',σ'),⟨ρ',⟨hst'.ext,hst'.sim,hst'.frel.prune _,hst'.size,hst'.defers⟩,hk.1⟩,hk.2⟩
  | exit id=>exact⟨ρ',σ',fr',hst',hk⟩
  | goto l=>exact hk.elim
  | ret=>exact⟨ρ',σ',fr',hst',hk⟩
  | panic ch=>exact⟨ρ',σ',fr',hst',hk⟩
  | outgrown=>exact hk.elim
 | .scope c,hc,k,ρ₀,σ₀,w₀,ρ,σ,w,fr,a,hst,h=>by
  refine wp_scope_straight (wp_mono (cQ hmix hD c hc k ρ₀ σ₀ w₀ ρ σ w fr a hst h) ?_)
  rintro e a' w' ⟨ρ',σ',fr',hst',hk⟩
  cases e with
  | normal=>exact⟨ρ',σ',fr',hst',hk⟩
  | exit id=>exact⟨ρ',σ',fr',hst',hk⟩
  | goto l=>exact hk.elim
  | ret=>exact⟨ρ',σ',fr',hst',hk⟩
  | panic ch=>exact⟨ρ',σ',fr',hst',hk⟩
  | outgrown=>exact hk.elim
 | .rangeFunc ..,_,_,_,_,_,_,_,_,_,_,_,h=>h.elim
 | .label _,_,_,_,_,_,_,_,_,_,_,_,h=>h.elim
 | .goto _,_,_,_,_,_,_,_,_,_,_,_,h=>h.elim
 | .refuse _,_,_,_,_,_,_,_,_,_,_,_,h=>h.elim
end Go.Abs
namespace Go.Abs
open Go
def dj:Nat→List AV→aA
 | _,[]=>[]
 | i,x::r=>(i,x)::dj (i+1) r
theorem fM:∀(xs:List AV) (i k:Nat),aa (dj i xs) k=if i≤k then (xs[k - i]?).getD .any else .any
 | [],i,k=>by simp[dj,aa]
 | x::r,i,k=>by
  rw[dj,dU,fM r (i+1) k]
  by_cases h:k=i
  ·subst h;simp
  ·rw[if_neg h]
   by_cases h2:i≤k
   ·rw[if_pos (by omega),if_pos h2,show k - i=(k - (i+1))+1 by omega,List.getElem?_cons_succ]
   ·rw[if_neg (by omega),if_neg h2]
def eH (P:Program) (fr:aA) (σ:ah):List ResultVar→Option (List AV)
 | []=>some []
 | .tmp t::r=>(eH P fr σ r).map (aa fr t:: ·)
 | .cell a t::r=>match dA P t with
  | some (g,n)=>match aj g n (aa fr a) σ,eH P fr σ r with
   | some x,some l=>some (x::l)
   | _,_=>none
  | none=>none
def aW (r:Option AV) (k:AV→Prop):Prop:=
 match r with
 | some x=>k x
 | none=>False
def ry (P:Program) (fr:aA) (σ:ah):List ResultVar→(List AV→Prop)→Prop
 | [],K=>K []
 | .tmp t::r,K=>ry P fr σ r fun l=>K (aa fr t::l)
 | .cell a t::r,K=>match dA P t with
  | some (g,n)=>aW (aj g n (aa fr a) σ) fun x=>ry P fr σ r fun l=>K (x::l)
  | none=>False
theorem mA {P fr σ}:∀(rs:List ResultVar) (K:List AV→Prop),ry P fr σ rs K→∃l,eH P fr σ rs=some l∧K l
 | [],K,h=>⟨[],rfl,h⟩
 | .tmp t::r,K,h=>by
  obtain⟨l,h1,h2⟩:=mA r _ h
  exact⟨_,by simp[eH,h1],h2⟩
 | .cell a t::r,K,h=>by
  simp only[ry]at h
  split at h
  ·rename_i g n ht
   unfold aW at h
   split at h
   ·rename_i x hx
    obtain⟨l,h1,h2⟩:=mA r _ h
    exact⟨_,by simp[eH,ht,hx,h1],h2⟩
   ·exact h.elim
  ·exact h.elim
def lE (l:List AV) (σ:ah) (k:AV→ah→Prop):Prop:=
 match l with
 | [x]=>k x σ
 | xs=>k (.tup xs) σ
def resK (vs:Option (List AV)) (σ:ah) (k:AV→ah→Prop):Prop:=
 match vs with
 | some [x]=>k x σ
 | some xs=>k (.tup xs) σ
 | none=>False
def retK (P:Program) (rs:List ResultVar) (k kp:AV→ah→Prop):AK:=
 {n:=fun fr σ=>ry P fr σ rs fun l=>lE l σ k,ex:=fun _ _ _=>False,ret:=fun fr σ=>ry P fr σ rs fun l=>lE l σ k,pa:=kp}
theorem uM {P:Program} {ρ σ w} (hs:Sim ρ σ w) {t g n} (ht:dA P t=some (g,n)) {x y:AV} (hy:aj g n x σ=some y) {v:Value} (hv:aL (ctx ρ σ w) x v):
 ∃u,(do loadVar t (←asAddr v):Sem Value).run P w= .ok u w∧aL (ctx ρ σ w) y u:=by
 obtain⟨u,hu,hr⟩:=DZ hs ht hv hy
 refine⟨u,?_,hr⟩
 unfold aj at hy
 split at hy
 ·cases hv with
  | ptr hp=>simpa [Instr.loadAt,Instr.sureAddr,asAddr] using hu
 ·cases hv with
  | ref f hi hc hr=>simpa [Instr.loadAt,Instr.sureAddr,asAddr] using hu
 ·cases hy
def o6 (tmps:Array Value):ResultVar→Sem Value
 | .tmp t=>pure (tmps.getD t undef)
 | .cell a t=>do loadVar t (←asAddr (tmps.getD a undef))
theorem jK {P:Program} {ρ σ w} (hs:Sim ρ σ w) {fr} {a:Act} (hf:dZ (ctx ρ σ w) fr a.tmps):∀(rs:List ResultVar) (l:List AV),eH P fr σ rs=some l→
 ∃us:List Value,(rs.mapM (o6 a.tmps)).run P w= .ok us w∧us.length=l.length∧∀(i:Nat) x v,l[i]?=some x→us[i]?=some v→aL (ctx ρ σ w) x v
 | [],l,h=>by simp only[eH,Option.some.injEq]at h;subst h;exact⟨[],by simp,rfl,by simp⟩
 | .tmp t::r,l,h=>by
  simp only[eH]at h
  obtain⟨l',hl',rfl⟩:=Option.map_eq_some_iff.1 h
  obtain⟨us,h1,h2,h3⟩:=jK hs hf r l' hl'
  refine⟨a.tmps.getD t undef::us,by simp[List.mapM_cons,o6,h1],by simp[h2],fun i x v hx hv=> ?_⟩
  cases i with
  | zero=>simp only[List.getElem?_cons_zero,Option.some.injEq]at hx hv;subst hx;subst hv;exact hf t
  | succ i=>exact h3 i x v (by simpa using hx) (by simpa using hv)
 | .cell p t::r,l,h=>by
  simp only[eH]at h
  split at h
  ·rename_i g n ht
   split at h
   ·rename_i x l' hx' hl'
    cases h
    obtain⟨us,h1,h2,h3⟩:=jK hs hf r l' hl'
    obtain⟨u,hu,hr⟩:=uM hs ht hx' (hf p)
    refine⟨u::us,?_,by simp[h2],fun i x v hx hv=> ?_⟩
    ·have hu':(o6 a.tmps (.cell p t)).run P w= .ok u w:=hu
     simp only[List.mapM_cons,Sem.run_bind,hu',h1,Result.andThen_ok,Sem.run_pure]
    ·cases i with
     | zero=>simp at hx hv;subst hx;subst hv;exact hr
     | succ i=>exact h3 i x v (by simpa using hx) (by simpa using hv)
   ·cases h
  ·cases h
theorem jL {P:Program} {ρ σ w} (hs:Sim ρ σ w) {fr} {a:Act} (hf:dZ (ctx ρ σ w) fr a.tmps) {fn:Func} {k:AV→ah→Prop} (h0:ry P fr σ fn.results.toList fun l=>lE l σ k):
 ∃v x,(results fn a.tmps).run P w= .ok v w∧aL (ctx ρ σ w) x v∧k x σ:=by
 have h:resK (eH P fr σ fn.results.toList) σ k:=by
  obtain⟨l,h1,h2⟩:=mA _ _ h0
  rw[h1]
  unfold lE at h2
  unfold resK
  split at h2<;>simp_all
 cases hv:eH P fr σ fn.results.toList with
 | none=>rw[hv]at h;exact h.elim
 | some l=>
  rw[hv]at h
  obtain⟨us,h1,h2,h3⟩:=jK hs hf _ _ hv
  have hrun:(fn.results.mapM (o6 a.tmps)).run P w= .ok us.toArray w:=by
   rw[Array.mapM_eq_mapM_toList]
   simp only[Sem.run_map,h1,Result.andThen_ok]
  have hres:results fn a.tmps=(do let vs←fn.results.mapM (o6 a.tmps);pure (if h:vs.size=1 then vs[0] else .tuple vs)):=by
   unfold results
   congr 1
  clear hv
  match l,us,h2,h,h3,hrun with
  | [x],[u],_,h,h3,hrun=>exact⟨u,x,by rw[hres];simp[hrun],h3 0 x u rfl rfl,h⟩
  | [],[],_,h,h3,hrun=>exact⟨.tuple #[],.tup [],by rw[hres];simp[hrun],.tup rfl (by simp),h⟩
  | x::y::l,u::v::us,hlen,h,h3,hrun=>
   refine⟨.tuple (u::v::us).toArray,.tup (x::y::l),by rw[hres];simp[hrun],.tup (by simpa using hlen.symm) (fun i x v hx hv=>h3 i x v hx (by simpa using hv)),h⟩
def eW:List (Nat×List Nat)→Nat→List Nat
 | [],_=>[]
 | (j,x)::r,i=>bif Nat.beq i j then x else eW r i
theorem xS {P:Program} (hmix:P.follows .mixedOrders=true) {f:FuncId} {fn:Func} {body:Code} (hf:P.funcs[f]?=some fn) (hb:fn.body=some body) (hname:(fn.name== "runtime.NumGoroutine")=false)
 {args:List AV} (hargs:args.length≤fn.ntmps) (keep:Nat→List Nat) (hok:codeOk keep fn.ntmps body=true) {σ:ah} {k kp:AV→ah→Prop}
 (h:aw P keep body (retK P fn.results.toList k kp) (dj 0 args) σ):Ev P f args σ k kp:=by
 refine fun ρ w vs hs hrel=>.inl ⟨⟨fn,hf,by rw[hb];rfl,hname⟩,?_⟩
 refine calls_of_wp hf hb ?_
 have hst:St (fun a=>a.defers= []) ρ σ w fn.ntmps ρ σ w (dj 0 args) {tmps:=vs++Array.replicate (fn.ntmps - vs.size) undef,defers:=[]}:=by
  refine⟨Ext.refl _ _ _,hs,fun q=> ?_,by simp;have:=hrel.1;omega,rfl⟩
  rw[fM]
  simp only[Nat.zero_le,if_true,Nat.sub_zero]
  cases hx:args[q]? with
  | none=>exact .any _
  | some x=>
   have hq:q<vs.size:=by rw[←hrel.1];exact(List.getElem?_eq_some_iff.1 hx).1
   simp only[Option.getD_some]
   rw[Array.getD_eq_getD_getElem?,Array.getElem?_append_left hq,Array.getElem?_eq_getElem hq]
   exact hrel.2 q x _ hx (Array.getElem?_eq_getElem hq)
 refine wp_mono (cQ hmix (DOk.plain _) body hok _ ρ σ w ρ σ w _ _ hst h) ?_
 rintro e a' w' ⟨ρ',σ',fr',hst',hk⟩
 cases e with
 | normal=>
  obtain⟨v,x,h1,h2,h3⟩:=jL hst'.sim hst'.frel hk
  exact⟨hst'.defers,v,h1,ρ',σ',hst'.ext,hst'.sim,x,h3,h2⟩
 | ret=>
  obtain⟨v,x,h1,h2,h3⟩:=jL hst'.sim hst'.frel hk
  exact⟨hst'.defers,v,h1,ρ',σ',hst'.ext,hst'.sim,x,h3,h2⟩
 | exit id=>exact hk.elim
 | goto l=>exact hk.elim
 | panic chain=>
  obtain⟨x,v,hc,hv,hp⟩:=hk
  exact⟨hst'.defers,ρ',σ',hst'.ext,hst'.sim,x,v,hc,hp,hv⟩
 | outgrown=>exact hk.elim
theorem Ev.ext {P:Program} {f:FuncId} {fn:Func} {e:Array Value→Sem Value} (hf:P.funcs[f]?=some fn) (hname:(fn.name== "runtime.NumGoroutine")=false) (hb:fn.body.isNone=true) (hn:Extern.findNext fn=none) (he:Extern.find fn=some e)
 {args:List AV} {σ:ah} {k kp:AV→ah→Prop} (h:∀(c:Ctx) w vs,ix c args vs→∃v x,(e vs).run P w= .ok v w∧k x σ∧aL c x v):Ev P f args σ k kp:=by
 intro ρ w vs hs ha
 obtain⟨v,x,h1,h2,h3⟩:=h _ w vs ha
 exact .inr ⟨v,w,by rw[run_callFunc_extern hf hname hb hn he,h1];rfl,ρ,σ,Ext.refl _ _ _,hs,x,h2,h3⟩
end Go.Abs
set_option linter.unusedVariables false
set_option linter.unusedSimpArgs false
set_option linter.deprecated false
namespace Go.Abs
open Go
theorem nr {α:Sort _} {a b:α} (h:a=b):a=b:=h
@[congr] theorem D0 {r r':Option (AV×ah)} {k:AV→ah→Prop} (h:r=r'):ab r k=ab r' k:=by rw[h]
@[simp ↓] theorem GP (x:AV) (σ:ah) (k:AV→ah→Prop):ab (some (x,σ)) k=k x σ:=nr rfl
@[congr] theorem D2 {r r':Option AV} {k:AV→Prop} (h:r=r'):aW r k=aW r' k:=by rw[h]
@[simp ↓] theorem GQ (x:AV) (k:AV→Prop):aW (some x) k=k x:=nr rfl
@[congr] theorem DH {x x':AV} {A B:Prop} (h:x=x'):ay x A B=ay x' A B:=by rw[h]
@[simp ↓] theorem FX (A B:Prop):ay (.val (.bool true)) A B=A:=by simp[ay]
@[simp ↓] theorem sk (A B:Prop):ay (.val (.bool false)) A B=B:=by simp[ay]
@[congr] theorem gK_congr {x x':AV} {w:Bool} {run:(AV→ah→Prop)→Prop} {K:AV→ah→Prop} {σ:ah} (h:x=x'):gK x w run K σ=gK x' w run K σ:=by rw[h]
@[simp ↓] theorem gK_tt (run:(AV→ah→Prop)→Prop) (K:AV→ah→Prop) (σ:ah):gK (.val (.bool true)) true run K σ=run K:=by simp[gK,gR]
@[simp ↓] theorem gK_ff (run:(AV→ah→Prop)→Prop) (K:AV→ah→Prop) (σ:ah):gK (.val (.bool false)) false run K σ=run K:=by simp[gK,gR]
@[simp ↓] theorem gK_tf (run:(AV→ah→Prop)→Prop) (K:AV→ah→Prop) (σ:ah):gK (.val (.bool true)) false run K σ=K (.val undef) σ:=by simp[gK,gR]
@[simp ↓] theorem gK_ft (run:(AV→ah→Prop)→Prop) (K:AV→ah→Prop) (σ:ah):gK (.val (.bool false)) true run K σ=K (.val undef) σ:=by simp[gK,gR]
@[simp ↓] theorem gK_un (w:Bool) (run:(AV→ah→Prop)→Prop) (K:AV→ah→Prop) (σ:ah):gK (.val undef) w run K σ=K (.val undef) σ:=by simp[gK,gR,undef]
@[congr] theorem Ev_congr {P:Program} {f:FuncId} {xs ys:List AV} {σ:ah} {k kp:AV→ah→Prop} (h:xs=ys):Ev P f xs σ k kp=Ev P f ys σ k kp:=by rw[h]
@[congr] theorem DL {b:aA→ah→(aA→ah→Prop)→Prop} {fr fr':aA} {σ:ah} (h:fr=fr'):bj b fr σ=bj b fr' σ:=by rw[h]
@[congr] theorem GK {B:aA→ah→Prop} {A:(aA→ah→Prop)→Prop}:bk B A=bk B A:=rfl
theorem aM {B:aA→ah→Prop} {A:(aA→ah→Prop)→Prop} (h:A B):bk B A:=⟨B,fun _ _ h=>h,h⟩
theorem bw (J:aA→ah→Prop) {B:aA→ah→Prop} {A:(aA→ah→Prop)→Prop} (h1:A J) (h2:∀fr σ,J fr σ→B fr σ):bk B A:=⟨J,h2,h1⟩
theorem aX {ι:Type} (st:ι→aA) (I:ι→ah→Prop) (μ:aA→ah→Nat) {body:aA→ah→(aA→ah→Prop)→Prop} {fr:aA} {σ:ah} (i:ι) (e:fr=st i) (h0:I i σ)
 (h:∀i σ,I i σ→body (st i) σ fun fr' σ'=>(∃j,fr'=st j∧I j σ')∧μ fr' σ'<μ (st i) σ):bj body fr σ:=
 ⟨fun fr σ=>∃i,fr=st i∧I i σ,μ,⟨i,e,h0⟩,by rintro fr σ ⟨i,rfl,hI⟩;exact h i σ hI⟩
def intOf:AV→Int
 | .val (.int _ n)=>n
 | _=>0
@[simp] theorem intOf_val (k:IntKind) (n:Int):intOf (.val (.int k n))=n:=nr rfl
@[simp] theorem look_hit (k:Nat) (v:AV) (r:aA):aa ((k,v)::r) k=v:=by simp[dU]
@[simp] theorem look_miss {k j:Nat} (h:j≠k) (v:AV) (r:aA):aa ((k,v)::r) j=aa r j:=by simp[dU,h]
@[simp] theorem Gm (σ:ah) (x:AV):ae σ (some x)=some (x,σ):=nr rfl
@[simp] theorem GU (σ:ah):aG (some σ)=some (.val undef,σ):=nr rfl
@[simp] theorem Dv (zs:List AV) (σ:ah):aR zs σ=some (.ptr σ.next 0 0,σ.new (.cells zs.length [zs])):=nr rfl
@[simp] theorem Ak (σ:ah):nQ σ=some (.mp σ.next,σ.new (.map [])):=nr rfl
@[simp] theorem FD (t:Bool) (a b:AV):aF (.val (.bool t)) a b=some (bif t then a else b):=nr rfl
@[simp] theorem x9 (o id i p:Nat):ag o (.ptr id i p)=some (.ptr id i (p+o)):=nr rfl
@[simp] theorem ya (o:Nat) (cs:List AV):ag o (.ref cs)=some (.ref (cs.drop o)):=nr rfl
@[simp] theorem Al (id i p:Nat):ax (.ptr id i p)=some (.ptr id i p):=nr rfl
@[simp] theorem Am (cs:List AV):ax (.ref cs)=some (.ref cs):=nr rfl
@[simp] theorem pT (g:Bool) (n id i o:Nat) (σ:ah):aj g n (.ptr id i o) σ=(iG σ id i).bind fun el=>b8 g n (el.drop o):=nr rfl
@[simp] theorem aLoad_ref (g:Bool) (n:Nat) (cs:List AV) (σ:ah):aj g n (.ref cs) σ=b8 g n cs:=nr rfl
@[simp] theorem B5 (k:Nat) (vs:List AV):bc k (.tup vs)=vs[k]?:=nr rfl
@[simp] theorem FA (o:Nat) (g:Bool) (n:Nat) (cs:List AV):ef o g n (.agg cs)=b8 g n (cs.drop o):=nr rfl
@[simp] theorem aLenK_own (id n:Nat) (σ:ah):aE .slice (.own id n) σ=some (.val (.int .i64 n)):=nr rfl
@[simp] theorem aLenK_sl (c:Bool) (sz:Nat) (xs:List (List AV)) (σ:ah):aE .slice (.sl c sz xs) σ=some (.val (.int .i64 xs.length)):=nr rfl
@[simp] theorem aLenK_nil (σ:ah):aE .slice (.val (.slice none 0 0)) σ=some (.val (.int .i64 0)):=nr rfl
@[simp] theorem aLenK_str (b:ByteArray) (σ:ah):aE .str (.val (.string b)) σ=some (.val (.int .i64 b.size)):=nr rfl
@[simp] theorem FC (σ:ah):aE .map (.val (.map none)) σ=some (.val (.int .i64 0)):=nr rfl
theorem aD (n:Nat) (c:Bool) (sz:Nat) (xs:List (List AV)) (k:IntKind) (i:Int) (σ:ah):ak n (.sl c sz xs) (.val (.int k i)) σ=if 0≤i∧sz=n then (xs[i.toNat]?).map .ref else none:=rfl
@[simp] theorem aLenK_win (id off sz n:Nat) (σ:ah):aE .slice (.win id off sz n) σ=some (.val (.int .i64 n)):=nr rfl
@[simp] theorem FL (a b c d:Nat):br (.win a b c d)=some [.win a b c d]:=nr rfl
theorem cg (n id len:Nat) (k:IntKind) (i:Int) (σ:ah):
 ak n (.own id len) (.val (.int k i)) σ=if 0≤i∧i<len then (iG σ id i.toNat).bind fun el=>if el.length=n then some (.ptr id i.toNat 0) else none else none:=rfl
@[simp] theorem FF (k:IntKind) (n:Int):br (.val (.int k n))=some [.val (.int k n)]:=nr rfl
@[simp] theorem Dz (b:Bool):br (.val (.bool b))=some [.val (.bool b)]:=nr rfl
@[simp] theorem tV (b:ByteArray):br (.val (.string b))=some [.val (.string b)]:=nr rfl
@[simp] theorem Cb (a:Option Addr) (n m:Nat):br (.val (.slice a n m))=some [.val (.slice a n m)]:=nr rfl
@[simp] theorem FG (a:Option Nat):br (.val (.map a))=some [.val (.map a)]:=nr rfl
@[simp] theorem ye (a:Option Addr):br (.val (.pointer a))=some [.val (.pointer a)]:=nr rfl
@[simp] theorem yd:br (.val .nilFunc)=some [.val .nilFunc]:=nr rfl
@[simp] theorem xQ:br (.val .nilIface)=some [.val .nilIface]:=nr rfl
@[simp] theorem FE (cs:List AV):br (.agg cs)=some cs:=nr rfl
@[simp] theorem FI (a b c:Nat):br (.ptr a b c)=some [.ptr a b c]:=nr rfl
@[simp] theorem FJ (cs:List AV):br (.ref cs)=some [.ref cs]:=nr rfl
@[simp] theorem acells_sl (c:Bool) (sz:Nat) (xs:List (List AV)):br (.sl c sz xs)=some [.sl c sz xs]:=nr rfl
@[simp] theorem FH (a b:Nat):br (.own a b)=some [.own a b]:=nr rfl
@[simp] theorem acells_mp (a:Nat):br (.mp a)=some [.mp a]:=nr rfl
@[simp] theorem acells_fn (f:Fn) (cap:List AV):br (.fn f cap)=some [.fn f cap]:=nr rfl
@[simp] theorem Ca (t:TypeId) (x:AV):br (.iface t x)=some [.iface t x]:=nr rfl
@[simp] theorem tT (n id i o:Nat) (v:AV) (σ:ah):az n (.ptr id i o) v σ=match σ.get id with
 | some (.cells sz els)=>match els[i]?,br v with
  | some el,some vs=>if vs.length=n∧o+n≤el.length then some (σ.set id (.cells sz (els.set i (el.take o++vs++el.drop (o+n))))) else none
  | _,_=>none
 | _=>none:=nr rfl
theorem bF {r:Option (AV×ah)} {x:AV} {τ:ah} {k:AV→ah→Prop} (h:r=some (x,τ)) (hk:k x τ):ab r k:=by rw[h];exact hk
theorem fJ {σ:ah} {r:Option AV} {x:AV} {k:AV→ah→Prop} (h:r=some x) (hk:k x σ):ab (ae σ r) k:=by rw[h];exact hk
theorem D1 {σ:ah} {r:Option ah} {k:AV→ah→Prop} (h:r=some σ) (hk:k (.val undef) σ):ab (aG r) k:=by rw[h];exact hk
@[simp] theorem An (n id len:Nat) (k:IntKind) (h:Int):dJ n (.own id len) none (some (.val (.int k h))) none=if 0≤h∧h≤len then some (.own id h.toNat) else none:=by
 simp[dJ,fC]
@[simp] theorem qL (n:Nat) (c:Bool) (sz:Nat) (xs:List (List AV)) (k:IntKind) (h:Int):dJ n (.sl c sz xs) none (some (.val (.int k h))) none=if 0≤h∧h≤xs.length∧sz=n then some (.sl (c&&decide (h=xs.length)) sz (xs.take h.toNat)) else none:=by
 simp[dJ,fC]
@[simp] theorem B9 (n:Nat) (c:Bool) (sz:Nat) (xs:List (List AV)) (k:IntKind) (l:Int):dJ n (.sl c sz xs) (some (.val (.int k l))) none none=if 0≤l∧l≤xs.length∧sz=n then some (.sl c sz (xs.drop l.toNat)) else none:=by
 simp[dJ,fC]
@[simp] theorem B8 (n:Nat) (c:Bool) (sz:Nat) (xs:List (List AV)) (k k':IntKind) (l h:Int):dJ n (.sl c sz xs) (some (.val (.int k l))) (some (.val (.int k' h))) none=if 0≤l∧l≤h∧h≤xs.length∧sz=n then some (.sl (c&&decide (h=xs.length)) sz ((xs.take h.toNat).drop l.toNat)) else none:=by
 simp[dJ,fC]
theorem dP {σ:ah} {id i sz:Nat} {els:List (List AV)} (h:σ.get id=some (.cells sz els)):iG σ id i=els[i]?:=by simp[iG,h]
@[simp] theorem Cx (n:Nat) (cs:List AV):b8 false n cs=cs.head?:=nr rfl
@[simp] theorem Cw (n:Nat) (cs:List AV):b8 true n cs=if n≤cs.length then some (.agg (cs.take n)) else none:=nr rfl
@[simp] theorem lW (b:Bool):bC (.val (.bool b))=some (.val (.bool (!b))):=nr rfl
@[simp] theorem aNeg_int (k:IntKind) (n:Int):B7 (.val (.int k n))=some (.val (.int k (k.wrap (0 - n)))):=nr rfl
@[simp] theorem aMax_int (k k':IntKind) (a b:Int):qK (.val (.int k a)) (.val (.int k' b))=some (.val (.int k (if a<b then b else a))):=nr rfl
@[simp] theorem aMin_int (k k':IntKind) (a b:Int):rO (.val (.int k a)) (.val (.int k' b))=some (.val (.int k (if b<a then b else a))):=nr rfl
@[simp] theorem aConv_int (k k':IntKind) (n:Int):iW (.int k) (.val (.int k' n))=some (.val (.int k (k.wrap n))):=nr rfl
@[simp] theorem aConv_str (b:ByteArray):iW .str (.val (.string b))=some (.val (.string b)):=nr rfl
@[simp] theorem Dx (b:ByteArray):iW .bytes (.val (.string b))=some (.sl false 1 (jo b)):=nr rfl
@[simp] theorem asKey_int (k:IntKind) (n:Int):asKey (.val (.int k n))=some (.i k n):=nr rfl
@[simp] theorem asKey_str (b:ByteArray):asKey (.val (.string b))=some (.s b):=nr rfl
theorem dq (op:BinOp) (k:IntKind) (a b:Int):ar op .prim (.val (.int k a)) (.val (.int k b))=(mc op k a b).map .val:=by simp[ar,kN]
@[simp] theorem aBin_add (k:IntKind) (a b:Int):ar .add .prim (.val (.int k a)) (.val (.int k b))=some (.val (.int k (k.wrap (a+b)))):=by rw[dq];rfl
@[simp] theorem aBin_sub (k:IntKind) (a b:Int):ar .sub .prim (.val (.int k a)) (.val (.int k b))=some (.val (.int k (k.wrap (a - b)))):=by rw[dq];rfl
@[simp] theorem aBin_mul (k:IntKind) (a b:Int):ar .mul .prim (.val (.int k a)) (.val (.int k b))=some (.val (.int k (k.wrap (a * b)))):=by rw[dq];rfl
@[simp] theorem aBin_quo (k:IntKind) (a b:Int):ar .quo .prim (.val (.int k a)) (.val (.int k b))=if b=0 then none else some (.val (.int k (k.wrap (a.tdiv b)))):=by
 rw[dq];simp only[mc];split<;>rfl
@[simp] theorem aBin_rem (k:IntKind) (a b:Int):ar .rem .prim (.val (.int k a)) (.val (.int k b))=if b=0 then none else some (.val (.int k (a.tmod b))):=by
 rw[dq];simp only[mc];split<;>rfl
@[simp] theorem aBin_eql (k:IntKind) (a b:Int):ar .eql .prim (.val (.int k a)) (.val (.int k b))=some (.val (.bool (decide (a=b)))):=by rw[dq];rfl
@[simp] theorem aBin_neq (k:IntKind) (a b:Int):ar .neq .prim (.val (.int k a)) (.val (.int k b))=some (.val (.bool (!decide (a=b)))):=by rw[dq];rfl
@[simp] theorem aBin_lss (k:IntKind) (a b:Int):ar .lss .prim (.val (.int k a)) (.val (.int k b))=some (.val (.bool (decide (a<b)))):=by rw[dq];rfl
@[simp] theorem aBin_leq (k:IntKind) (a b:Int):ar .leq .prim (.val (.int k a)) (.val (.int k b))=some (.val (.bool (decide (a≤b)))):=by rw[dq];rfl
@[simp] theorem aBin_gtr (k:IntKind) (a b:Int):ar .gtr .prim (.val (.int k a)) (.val (.int k b))=some (.val (.bool (decide (b<a)))):=by rw[dq];rfl
@[simp] theorem aBin_geq (k:IntKind) (a b:Int):ar .geq .prim (.val (.int k a)) (.val (.int k b))=some (.val (.bool (decide (b≤a)))):=by rw[dq];rfl
@[simp] theorem aBin_seql (a b:ByteArray):ar .eql .prim (.val (.string a)) (.val (.string b))=some (.val (.bool (decide (a=b)))):=nr rfl
@[simp] theorem aBin_sneq (a b:ByteArray):ar .neq .prim (.val (.string a)) (.val (.string b))=some (.val (.bool (!decide (a=b)))):=nr rfl
theorem rN (op:BinOp) (a b:ByteArray):ar op .prim (.val (.string a)) (.val (.string b))=(jM op a b).map .val:=nr rfl
@[simp] theorem aBin_beq (a b:Bool):ar .eql .bool (.val (.bool a)) (.val (.bool b))=some (.val (.bool (decide (a=b)))):=nr rfl
@[simp] theorem aBin_bne (a b:Bool):ar .neq .bool (.val (.bool a)) (.val (.bool b))=some (.val (.bool (!decide (a=b)))):=nr rfl
@[simp] theorem aBin_pp:ar .eql .ptr (.val (.pointer none)) (.val (.pointer none))=some (.val (.bool true)):=nr rfl
@[simp] theorem aBin_pn (a b c:Nat):ar .eql .ptr (.ptr a b c) (.val (.pointer none))=some (.val (.bool false)):=nr rfl
@[simp] theorem aBin_rn (cs:List AV):ar .eql .ptr (.ref cs) (.val (.pointer none))=some (.val (.bool false)):=nr rfl
@[simp] theorem aBin_pp':ar .neq .ptr (.val (.pointer none)) (.val (.pointer none))=some (.val (.bool false)):=nr rfl
@[simp] theorem aBin_pn' (a b c:Nat):ar .neq .ptr (.ptr a b c) (.val (.pointer none))=some (.val (.bool true)):=nr rfl
@[simp] theorem aBin_rn' (cs:List AV):ar .neq .ptr (.ref cs) (.val (.pointer none))=some (.val (.bool true)):=nr rfl
@[simp] theorem xZ (ks:List LK) (cs ds:List AV):ar .eql (.agg ks) (.agg cs) (.agg ds)=(bp ks cs ds).map fun b=>.val (.bool b):=nr rfl
@[simp] theorem aBin_agg' (ks:List LK) (cs ds:List AV):ar .neq (.agg ks) (.agg cs) (.agg ds)=(bp ks cs ds).map fun b=>.val (.bool (!b)):=nr rfl
@[simp] theorem eqLeaf_i (k:IntKind) (a b:Int):iH .i (.val (.int k a)) (.val (.int k b))=some (decide (a=b)):=by simp[iH]
@[simp] theorem eqLeaf_b (a b:Bool):iH .b (.val (.bool a)) (.val (.bool b))=some (decide (a=b)):=nr rfl
@[simp] theorem eqLeaf_s (a b:ByteArray):iH .s (.val (.string a)) (.val (.string b))=some (decide (a=b)):=nr rfl
@[simp] theorem aBox_eq (x:AV) (σ:ah):bq x σ=(br x).map fun cs=>(.ptr σ.next 0 0,σ.new (.cells cs.length [cs])):=nr rfl
@[simp] theorem elAt_new (σ:ah) (sz:Nat) (els:List (List AV)) (i:Nat):iG (σ.new (.cells sz els)) σ.next i=els[i]?:=dP (ah.im _ _)
@[simp] theorem vB (σ:ah) (id i:Nat):iG σ id i=match σ.get id with
 | some (.cells _ els)=>els[i]?
 | _=>none:=nr rfl
@[simp] theorem aBuild_eq (zs:List AV) (ps:List (Nat×Nat×AV)):aN zs ps=(kO zs ps).map .agg:=nr rfl
@[simp] theorem aFill_nil (cs:List AV):kO cs []=some cs:=nr rfl
@[simp] theorem FB (cs:List AV) (off sz:Nat) (x:AV) (r:List (Nat×Nat×AV)):kO cs ((off,sz,x)::r)=match br x with
 | some vs=>if vs.length=sz∧off+sz≤cs.length then kO (cs.take off++vs++cs.drop (off+sz)) r else none
 | none=>none:=nr rfl
@[simp] theorem B6 (sz:Nat) (els:List (List AV)):de sz els []=some els:=nr rfl
@[simp] theorem Aj (sz:Nat) (els:List (List AV)) (i:Nat) (x:AV) (r:List (Nat×AV)):de sz els ((i,x)::r)=match br x with
 | some vs=>if vs.length=sz∧i<els.length then de sz (els.set i vs) r else none
 | none=>none:=nr rfl
@[simp] theorem x6 (len sz:Nat) (zs:List AV) (parts:List (Nat×AV)) (σ:ah):aK len sz zs parts σ=
 if zs.length=sz∧len * sz≤16777216 then (de sz (List.replicate len zs) parts).map fun els=>(.own σ.next len,σ.new (.cells sz els)) else none:=nr rfl
@[simp] theorem Dw (len sz:Nat) (zs:List AV) (parts:List (Nat×AV)):aV len sz zs parts=
 if zs.length=sz∧len * sz≤16777216 then (de sz (List.replicate len zs) parts).map fun els=>.sl true sz els else none:=nr rfl
@[simp] theorem Cq:bp [] [] []=some true:=nr rfl
@[simp] theorem pJ (k:LK) (ks:List LK) (x y:AV) (xs ys:List AV):bp (k::ks) (x::xs) (y::ys)=match iH k x y,bp ks xs ys with
 | some a,some b=>some (a&&b)
 | _,_=>none:=nr rfl
@[simp] theorem B4 (sz bytes:Nat) (zs:List AV) (k:IntKind) (n:Int) (σ:ah):kM sz bytes zs (.val (.slice none 0 0)) (.val (.int k n)) σ=if 0<n∧n.toNat * bytes≤140737488355328∧n≤140737488355328∧zs.length=sz∧0<sz then some (.own σ.next n.toNat,σ.new (.cells sz (List.replicate n.toNat zs))) else none:=nr rfl
@[simp] theorem aBin_sn:ar .eql .slice (.val (.slice none 0 0)) (.val (.slice none 0 0))=some (.val (.bool true)):=nr rfl
@[simp] theorem aBin_so (id n:Nat):ar .eql .slice (.own id (n+1)) (.val (.slice none 0 0))=some (.val (.bool false)):=nr rfl
@[simp] theorem aCap0_nil (σ:ah):x7 (.val (.slice none 0 0)) σ=some (.val (.int .i64 0),σ):=nr rfl
theorem fU {d:TypeDesc} {z:AV} {ok:Bool} {id:Nat} {x:AV} {q:MK} {σ:ah} {es:List (MK×AV)} (hk:asKey x=some q) (hf:dD d q=true) (h:σ.get id=some (.map es)) (hes:b9 d es=true):
 dO d z ok (.mp id) x σ=some (match cZ es q with | some y=>if ok=true then .tup [y,.val (.bool true)] else y | none=>if ok=true then .tup [z,.val (.bool false)] else z):=by
 simp only[dO,hk,hf,h,hes,if_true]
 cases cZ es q<;>rfl
theorem gP {d:TypeDesc} {id:Nat} {x y:AV} {q:MK} {σ:ah} {es:List (MK×AV)} (hk:asKey x=some q) (hf:dD d q=true) (h:σ.get id=some (.map es)) (hes:b9 d es=true):
 cX d (.mp id) x y σ=some (σ.set id (.map (du es q y))):=by
 simp only[cX,hk,hf,h,hes,if_true]
theorem pG {d:TypeDesc} {id:Nat} {x:AV} {q:MK} {σ:ah} {es:List (MK×AV)} (hk:asKey x=some q) (hf:dD d q=true) (h:σ.get id=some (.map es)) (hes:b9 d es=true):
 eR d (.mp id) x σ=some (σ.set id (.map (gp es q))):=by
 simp only[eR,hk,hf,h,hes,if_true]
theorem wrap64 {n:Int} (h: -9223372036854775808≤n∧n≤9223372036854775807):IntKind.i64.wrap n=n:=Go.IntWalk.i64_in n h
@[simp] theorem wrap64_0:IntKind.i64.wrap 0=0:=wrap64 (by omega)
@[simp] theorem wrap64_1:IntKind.i64.wrap 1=1:=wrap64 (by omega)
structure aq (σ τ:ah):Prop where
 next:σ.next≤τ.next
 get:∀i,i<σ.next→τ.get i=σ.get i
theorem aq.refl (σ:ah):aq σ σ:=⟨Nat.le_refl _,fun _ _=>rfl⟩
theorem aq.trans {σ τ υ:ah} (h:aq σ τ) (k:aq τ υ):aq σ υ:=⟨Nat.le_trans h.next k.next,fun i hi=>(k.get i (Nat.lt_of_lt_of_le hi h.next)).trans (h.get i hi)⟩
theorem aq.new (σ:ah) (o:dm):aq σ (σ.new o):=⟨Nat.le_succ _,fun i hi=>ah.di (Nat.ne_of_lt hi)⟩
theorem aq.set {σ τ:ah} (h:aq σ τ) {i:Nat} (hi:σ.next≤i) (o:dm):aq σ (τ.set i o):=⟨h.next,fun j hj=>(ah.kI (by omega)).trans (h.get j hj)⟩
theorem cc (es:List (MK×AV)) (q q':MK) (y:AV):cZ (du es q y) q'=if q'=q then some y else cZ es q':=by
 induction es with
 | nil=>simp only[du,cZ,eq_comm (a:=q)]
 | cons p es ih=>
  obtain⟨k,x⟩:=p
  by_cases h:k=q
  ·subst h
   by_cases h':q'=k
   ·subst h';simp[du,cZ]
   ·simp[du,cZ,h',Ne.symm h']
  ·simp only[du,if_neg h,cZ,ih]
   by_cases h':k=q'
   ·subst h';simp[h]
   ·simp[h']
def nO (es:List (MK×AV)):Prop:=(es.map (·.1)).Nodup
theorem xm (es:List (MK×AV)) (q:MK) (y:AV):(du es q y).map (·.1)=if q∈es.map (·.1) then es.map (·.1) else es.map (·.1)++ [q]:=by
 induction es with
 | nil=>simp[du]
 | cons p es ih=>
  obtain⟨k,x⟩:=p
  by_cases h:k=q
  ·subst h;simp[du]
  ·simp only[du,if_neg h,List.map_cons,ih,List.mem_cons]
   by_cases h':q∈es.map (·.1)
   ·rw[if_pos h',if_pos (.inr h')]
   ·rw[if_neg h',if_neg (by simp[h',Ne.symm h])];rfl
theorem nO.du {es:List (MK×AV)} (h:nO es) (q:MK) (y:AV):nO (du es q y):=by
 unfold nO at *
 rw[xm]
 split
 ·exact h
 ·rename_i hq
  rw[List.nodup_append]
  exact⟨h,by simp,by intro a ha b hb;simp at hb;subst hb;intro e;subst e;exact hq ha⟩
theorem iJ {d:TypeDesc} {es:List (MK×AV)} (h:b9 d es=true) {q:MK} (hq:dD d q=true) (y:AV):b9 d (Abs.du es q y)=true:=by
 induction es with
 | nil=>simp only[Abs.du,b9,List.all_cons,List.all_nil,hq,Bool.and_self]
 | cons p es ih=>
  obtain⟨k,x⟩:=p
  simp only[b9,List.all_cons,Bool.and_eq_true]at h
  by_cases e:k=q
  ·simp only[Abs.du,if_pos e,b9,List.all_cons,Bool.and_eq_true];exact⟨hq,h.2⟩
  ·simp only[Abs.du,if_neg e,b9,List.all_cons,Bool.and_eq_true];exact⟨h.1,ih h.2⟩
theorem sP (es:List (MK×AV)) (q:MK):(gp es q).Sublist es:=by
 induction es with
 | nil=>simp[gp]
 | cons p es ih=>
  obtain⟨k,x⟩:=p
  by_cases h:k=q
  ·simp[gp,h]
  ·simp only[gp,if_neg h];exact ih.cons_cons _
theorem nO.gp {es:List (MK×AV)} (h:nO es) (q:MK):nO (gp es q):=List.Nodup.sublist ((sP es q).map _) h
theorem q8 {d:TypeDesc} {es:List (MK×AV)} (h:b9 d es=true) (q:MK):b9 d (Abs.gp es q)=true:=by
 unfold b9 at *
 rw[List.all_eq_true]at *
 exact fun p hp=>h p ((sP es q).subset hp)
theorem xi {es:List (MK×AV)} {q:MK} (h:q∉es.map (·.1)):cZ es q=none:=by
 induction es with
 | nil=>rfl
 | cons p es ih=>
  obtain⟨k,x⟩:=p
  simp only[List.map_cons,List.mem_cons,not_or]at h
  simp[cZ,Ne.symm h.1,ih h.2]
theorem il {es:List (MK×AV)} (h:nO es) (q q':MK):cZ (gp es q) q'=if q'=q then none else cZ es q':=by
 induction es with
 | nil=>simp[gp,cZ]
 | cons p es ih=>
  obtain⟨k,x⟩:=p
  unfold nO at h
  simp only[List.map_cons,List.nodup_cons]at h
  by_cases e:k=q
  ·subst e
   simp only[gp,if_pos,cZ]
   by_cases e':q'=k
   ·subst e';simp[xi h.1]
   ·simp[e',Ne.symm e']
  ·simp only[gp,if_neg e,cZ,ih h.2]
   by_cases e':k=q'
   ·subst e';simp[e]
   ·simp[e']
theorem an (σ:ah) (o:dm) (i:Nat):(σ.new o).get i=if i=σ.next then some o else σ.get i:=by
 by_cases h:i=σ.next
 ·subst h;simp
 ·rw[ah.di h,if_neg h]
theorem au (σ:ah) (id:Nat) (o:dm) (i:Nat):(σ.set id o).get i=if i=id then some o else σ.get i:=by
 by_cases h:i=id
 ·subst h;simp
 ·rw[ah.kI h,if_neg h]
theorem bD (σ:ah) (id i:Nat):(σ.del id).get i=if i=id then none else σ.get i:=by
 by_cases h:i=id
 ·subst h;simp
 ·rw[ah.gQ h,if_neg h]
theorem lt_next {a b:Nat} (h:a<b) (n:Nat):(a=b+n)=False:=by simp;omega
def kK (σ:ah) (p:AV) (cs:List AV):Prop:=p= .ref cs∨∃q i o el,p= .ptr q i o∧iG σ q i=some el∧cs=el.drop o
theorem kK.load {σ p cs} (h:kK σ p cs) (g:Bool) (n:Nat):aj g n p σ=b8 g n cs:=by
 rcases h with rfl | ⟨q,i,o,el,rfl,h,rfl⟩
 ·rfl
 ·rw[pT,h];rfl
theorem kK.field {σ p cs} (h:kK σ p cs) (o:Nat):∃p',ag o p=some p'∧kK σ p' (cs.drop o):=by
 rcases h with rfl | ⟨q,i,o',el,rfl,h,rfl⟩
 ·exact⟨_,rfl,.inl rfl⟩
 ·exact⟨_,rfl,.inr ⟨q,i,o'+o,el,rfl,h,by rw[List.drop_drop]⟩⟩
theorem kK.nil {σ p cs} (h:kK σ p cs):ax p=some p:=by
 rcases h with rfl | ⟨q,i,o',el,rfl,h,rfl⟩<;>rfl
def Rows (σ:ah) (sz:Nat) (x:AV) (els:List (List AV)):Prop:=
 (x= .val (.slice none 0 0)∧els= [])∨(∃c,x= .sl c sz els)∨∃q rest,x= .own q els.length∧σ.get q=some (.cells sz (els++rest))
theorem Rows.len {σ sz x els} (h:Rows σ sz x els):aE .slice x σ=some (.val (.int .i64 els.length)):=by
 rcases h with ⟨rfl,rfl⟩ | ⟨c,rfl⟩ | ⟨q,rest,rfl,_⟩<;>rfl
theorem Rows.at {σ sz x els} (h:Rows σ sz x els) {i:Nat} {el:List AV} (he:els[i]?=some el) (hl:el.length=sz) (k:IntKind):
 ∃p,ak sz x (.val (.int k i)) σ=some p∧kK σ p el:=by
 have hi:=(List.getElem?_eq_some_iff.1 he).1
 rcases h with ⟨rfl,rfl⟩ | ⟨c,rfl⟩ | ⟨q,rest,rfl,hq⟩
 ·simp at hi
 ·exact⟨.ref el,by rw[aD];simp[he],.inl rfl⟩
 ·have:iG σ q i=some el:=by rw[dP hq,List.getElem?_append_left hi,he]
  exact⟨.ptr q i 0,by simp only[ak];rw[if_pos ⟨by omega,by omega⟩];simp only[Int.toNat_natCast,this,Option.bind_some,hl,if_true],.inr ⟨q,i,0,el,rfl,this,rfl⟩⟩
theorem Rows.eA {σ sz x els} (h:Rows σ sz x els):Abs.eA sz x σ=some els:=by
 rcases h with ⟨rfl,rfl⟩ | ⟨c,rfl⟩ | ⟨q,rest,rfl,hq⟩
 ·rfl
 ·simp[Abs.eA]
 ·simp[Abs.eA,hq]
def gone (x:AV) (σ:ah):ah:=
 match x with
 | .own q _=>σ.del q
 | _=>σ
theorem bP {σ sz by' x y xs ys} (hx:Rows σ sz x xs) (hn:∀c,x≠ .sl c sz xs) (hy:Rows σ sz y ys) (hb:(xs.length+ys.length) * by'≤140737488355328∧xs.length+ys.length≤140737488355328):
 aY sz by' x y σ=some (.own σ.next (xs.length+ys.length),(gone x σ).new (.cells sz (xs++ys))):=by
 unfold aY
 rw[hx.eA,hy.eA]
 simp only[hb,and_self,if_true]
 rcases hx with ⟨rfl,rfl⟩ | ⟨c,rfl⟩ | ⟨q,rest,rfl,hq⟩
 ·rfl
 ·exact absurd rfl (hn c)
 ·rfl
@[simp] theorem bM (x:AV) (σ:ah):(gone x σ).next=σ.next:=by cases x<;>rfl
end Go.Abs
