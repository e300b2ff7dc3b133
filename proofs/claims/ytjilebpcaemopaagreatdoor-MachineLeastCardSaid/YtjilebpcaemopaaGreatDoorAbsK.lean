import Derived.Test.YtjilebpcaemopaaGreatDoorAbsH
import Derived.Laws.Externs
import Derived.IntWalk
import Derived.WalkKit
import Derived.ProofKit
import Derived.OpenShut
import Derived.ShutString
import Derived.ChangeOld
import Derived.Below
namespace Go.Abs
open Go
structure AK where
  n:AFrame→AHeap→Prop
  ex:Nat→AFrame→AHeap→Prop
  ret:AFrame→AHeap→Prop
  pa:AV→AHeap→Prop
def condK (x:AV) (A B:Prop):Prop :=
  match x with
  | .val (.bool b)=>(b=true→A)∧(b=false→B)
  | _=>False
def loopW (body:AFrame→AHeap→(AFrame→AHeap→Prop)→Prop) (fr:AFrame) (σ:AHeap):Prop :=
  ∃ (I:AFrame→AHeap→Prop) (μ:AFrame→AHeap→Nat),I fr σ∧∀ fr σ,I fr σ→body fr σ fun fr' σ'=>I fr' σ'∧μ fr' σ' < μ fr σ
def seqW (B:AFrame→AHeap→Prop) (A:(AFrame→AHeap→Prop)→Prop):Prop :=
  ∃ J:AFrame→AHeap→Prop,(∀ fr σ,J fr σ→B fr σ)∧A J
def regOf:Code→Nat
  | .region id _ _=>id+1
  | .seq a b=>match regOf a with | 0=>regOf b | n=>n
  | .cond _ a b=>match regOf a with | 0=>regOf b | n=>n
  | .block _ a=>regOf a
  | .loop a=>regOf a
  | .scope a=>regOf a
  | _=>0
def firstReg:Code→Nat
  | .region id _ _=>id
  | .seq a _=>firstReg a
  | .cond _ a _=>firstReg a
  | .block _ a=>firstReg a
  | .loop a=>firstReg a
  | .scope a=>firstReg a
  | _=>0
def ordersOf (keep:Nat→List Nat) (id:Nat):List ((Nat→List Nat) × List Nat) :=
  (fun i=>keep (100000+1000 * id+i),keep (2000+id)) :: (keep (60000+id)).map fun q=>(fun i=>keep (10000000 * q+1000 * id+i),keep (10000000 * q+9000000+id))
def aopsO (P:Program) (ops:Array Oper):List ((Nat→List Nat) × List Nat)→AFrame→AHeap→(AFrame→AHeap→Prop)→(AV→AHeap→Prop)→Prop
  | [],_,_,_,_=>True
  | [o],fr,σ,k,kp=>aopsD P ops o.1 o.2 fr σ k kp
  | o :: os,fr,σ,k,kp=>aopsD P ops o.1 o.2 fr σ k kp∧aopsO P ops os fr σ k kp
theorem aopsO_all {P ops fr σ k kp}:∀ (os:List ((Nat→List Nat) × List Nat)),aopsO P ops os fr σ k kp→∀ o ∈ os,aopsD P ops o.1 o.2 fr σ k kp
  | [],_,o,ho=>by simp at ho
  | [o],h,o',ho=>by simp at ho;subst ho;exact h
  | o :: o2 :: os,h,o',ho=>by
    rcases List.mem_cons.1 ho with rfl | ho
    · exact h.1
    · exact aopsO_all (o2 :: os) h.2 o' ho
def runOf (P:Program) (keep:Nat→List Nat) (id:Nat):Run:=match keep (4000+id) with
  | []=>runOp P
  | _=>runQ P
theorem runOf_ok (P:Program) (keep:Nat→List Nat) (id:Nat):RunOk P (runOf P keep id):=by
  unfold runOf
  split
  · exact runOp_ok P
  · exact runQ_ok P
def aw (P:Program) (keep:Nat→List Nat):Code→AK→AFrame→AHeap→Prop
  | .skip,k,fr,σ=>k.n fr σ
  | .region id ops false,k,fr,σ=>aopsI (runOf P keep id) ops (List.range ops.size) fr σ (fun fr σ=>k.n (prune (keep id) fr) σ) k.pa
  | .region id ops true,k,fr,σ=>aopsO P ops (ordersOf keep id) fr σ (fun fr σ=>k.n (prune (keep id) fr) σ) k.pa
  | .seq a b,k,fr,σ=>match keep (3000+regOf b) with
    | []=>aw P keep a { k with n:=fun fr σ=>aw P keep b k fr σ } fr σ
    | l=>seqW (fun fr σ=>aw P keep b k fr σ) (fun j=>aw P keep a { k with n:=fun fr σ=>j (prune l fr) σ } fr σ)
  | .cond c a b,k,fr,σ=>condK (ev fr c) (aw P keep a k fr σ) (aw P keep b k fr σ)
  | .block id c,k,fr,σ=>aw P keep c { k with ex:=fun m fr σ=>if m=id then k.n fr σ else k.ex m fr σ } fr σ
  | .exit id,k,fr,σ=>k.ex id fr σ
  | .ret,k,fr,σ=>k.ret fr σ
  | .loop c,k,fr,σ=>loopW (fun fr σ again=>aw P keep c { k with n:=fun fr σ=>again (prune (keep (1000+firstReg c)) fr) σ } fr σ) (prune (keep (1000+firstReg c)) fr) σ
  | .scope c,k,fr,σ=>aw P keep c k fr σ
  | _,_,_,_=>False
def codeOk (keep:Nat→List Nat) (N:Nat):Code→Bool
  | .region _ ops false=>dstsOk N ops && fixOk (keep 777777) ops
  | .region id ops true=>(dstsOk N ops && fixOk (keep 777777) ops) && drawOk ops (ordersOf keep id)
  | .seq a b=>codeOk keep N a && codeOk keep N b
  | .cond _ a b=>codeOk keep N a && codeOk keep N b
  | .block _ c=>codeOk keep N c
  | .loop c=>codeOk keep N c
  | .scope c=>codeOk keep N c
  | _=>true
def QOf (D:Act→Prop) (ρ₀:Nat→Option (Option Nat × Nat)) (σ₀:AHeap) (w₀:World) (N:Nat) (k:AK) (e:Exit) (a:Act) (w:World):Prop :=
  ∃ ρ σ fr,St D ρ₀ σ₀ w₀ N ρ σ w fr a∧match e with
    | .normal=>k.n fr σ
    | .exit id=>k.ex id fr σ
    | .ret=>k.ret fr σ
    | .panic chain=>∃ x v,chain=[{ v,recovered:=false }]∧VRel (ctx ρ σ w) x v∧k.pa x σ
    | _=>False
theorem Ends_of {D ρ₀ σ₀ w₀ N} {k:AK} {n:AFrame→AHeap→Prop} (keep:List Nat) (hn:∀ fr σ,n fr σ↔k.n (prune keep fr) σ):Ends D ρ₀ σ₀ w₀ N n k.pa (QOf D ρ₀ σ₀ w₀ N k) :=
  ⟨fun ρ σ _ fr _ hst h=>⟨ρ,σ,prune keep fr,⟨hst.ext,hst.sim,hst.frel.prune keep,hst.size,hst.defers⟩,(hn fr σ).1 h⟩,
   fun ρ σ _ fr _ x v hst hv h=>⟨ρ,σ,fr,hst,x,v,rfl,hv,h⟩⟩
theorem QOf.base {D ρ₀ σ₀ w₀ N ρ σ w fr a} (h:St D ρ₀ σ₀ w₀ N ρ σ w fr a) {k e a' w'} (hq:QOf D ρ σ w N k e a' w'):QOf D ρ₀ σ₀ w₀ N k e a' w':=by
  obtain ⟨ρ',σ',fr',hst,hk⟩:=hq
  exact ⟨ρ',σ',fr',⟨h.ext.trans hst.ext,hst.sim,hst.frel,hst.size,hst.defers⟩,hk⟩
theorem wp_loop_idx {P:Program} {Q:Exit→Act→World→Prop} {ι:Type} (I:ι→Act→World→Prop) (μ:ι→Nat) {c:Code}
    (round:∀ i a w,I i a w→c.wp P (Exit.then (fun a' w'=>∃ j,I j a' w'∧μ j < μ i) Q) a w) {i a w} (h₀:I i a w):(Code.loop c).wp P Q a w:=by
  intro b k cs
  have key:∀ n i a w,μ i=n→I i a w →
      ∃ e a' w',Q e a' w'∧Arrives P (lone (b.at a (.code c :: .inLoop c :: k)) cs w) b k cs e a' w':=by
    intro n
    induction n using Nat.strongRecOn with
    | _ n ih =>
      intro i a w hn hI
      obtain ⟨e,a₁,w₁,hq,harr⟩:=round i a w hI b (.inLoop c :: k) cs
      cases e with
      | normal =>
        obtain ⟨j,hI₁,hlt⟩:=hq
        obtain ⟨e₂,a₂,w₂,hq₂,harr₂⟩:=ih (μ j) (hn ▸ hlt) j a₁ w₁ rfl hI₁
        exact ⟨e₂,a₂,w₂,hq₂,.of_steps (Steps.trans harr (.one step_inLoop)) harr₂⟩
      | exit id=>exact ⟨_,a₁,w₁,hq,.pass (x:=.inLoop c) rfl (fun _ _=>.inl (by simp)) harr⟩
      | goto l=>exact ⟨_,a₁,w₁,hq,.pass (x:=.inLoop c) rfl (fun _ _=>.inl (by simp)) harr⟩
      | ret=>exact ⟨_,a₁,w₁,hq,.pass (x:=.inLoop c) rfl (fun _ _=>.inl (by simp)) harr⟩
      | panic ch=>exact ⟨_,a₁,w₁,hq,.pass (x:=.inLoop c) rfl (fun _ _=>.inl (by simp)) harr⟩
      | outgrown=>exact ⟨_,a₁,w₁,hq,.pass (x:=.inLoop c) rfl (fun _ _=>.inl (by simp)) harr⟩
  obtain ⟨e,a',w',hq,harr⟩:=key _ i a w rfl h₀
  exact ⟨e,a',w',hq,.of_steps (.one step_loop) harr⟩
theorem and_l {a b:Bool} (h:(a && b)=true):a=true:=(Bool.and_eq_true_iff.1 h).1
theorem and_r {a b:Bool} (h:(a && b)=true):b=true:=(Bool.and_eq_true_iff.1 h).2
theorem aw_sound {P:Program} (hmix:P.follows .mixedOrders=true) {keep:Nat→List Nat} {N:Nat} {D:Act→Prop} (hD:DOk (keep 777777) D):∀ (c:Code),codeOk keep N c=true→∀ (k:AK) (ρ₀ σ₀ w₀ ρ) (σ:AHeap) (w:World) (fr:AFrame) (a:Act),
    St D ρ₀ σ₀ w₀ N ρ σ w fr a→aw P keep c k fr σ→c.wp P (QOf D ρ₀ σ₀ w₀ N k) a w
  | .skip,_,k,ρ₀,σ₀,w₀,ρ,σ,w,fr,a,hst,h=>wp_skip ⟨ρ,σ,fr,hst,h⟩
  | .region id ops false,hc,k,ρ₀,σ₀,w₀,ρ,σ,w,fr,a,hst,h=>wp_region (aopsI_sound (runOf_ok P keep id) (and_l hc) (and_r hc) hD (Ends_of (keep id) fun _ _=>Iff.rfl) _ ρ σ w fr a hst h)
  | .region id ops true,hc,k,ρ₀,σ₀,w₀,ρ,σ,w,fr,a,hst,h=>by
    refine wp_region_draw fun t=>?_
    rw [hmix]
    have hdr:=hst.sim.drawn (w.drawn+1) (Nat.le_succ _)
    simp only [codeOk,Bool.and_eq_true] at hc
    simp only [aw] at h
    exact draw_sound hc.1.1 hc.1.2 hD hc.2 t (Ends_of (keep id) fun _ _=>Iff.rfl) (fun fr fr' τ hl hk=>by show k.n (prune (keep id) fr') τ;rw [← prune_congr (keep id) hl];exact hk) ⟨hst.ext.trans hdr.2,hdr.1,hst.frel.mono hdr.2.le,hst.size,hst.defers⟩ (aopsO_all _ h)
  | .seq x y,hc,k,ρ₀,σ₀,w₀,ρ,σ,w,fr,a,hst,h=>by
    simp only [codeOk,Bool.and_eq_true] at hc
    unfold aw at h
    split at h
    · refine wp_seq (wp_mono (aw_sound hmix hD x hc.1 _ ρ₀ σ₀ w₀ ρ σ w fr a hst h) ?_)
      rintro e a' w' ⟨ρ',σ',fr',hst',hk⟩
      cases e with
      | normal=>exact aw_sound hmix hD y hc.2 k ρ₀ σ₀ w₀ ρ' σ' w' fr' a' hst' hk
      | exit id=>exact ⟨ρ',σ',fr',hst',hk⟩
      | goto l=>exact hk.elim
      | ret=>exact ⟨ρ',σ',fr',hst',hk⟩
      | panic ch=>exact ⟨ρ',σ',fr',hst',hk⟩
      | outgrown=>exact hk.elim
    · obtain ⟨J,hJ,hA⟩:=h
      refine wp_seq (wp_mono (aw_sound hmix hD x hc.1 _ ρ₀ σ₀ w₀ ρ σ w fr a hst hA) ?_)
      rintro e a' w' ⟨ρ',σ',fr',hst',hk⟩
      cases e with
      | normal=>exact aw_sound hmix hD y hc.2 k ρ₀ σ₀ w₀ ρ' σ' w' _ a' ⟨hst'.ext,hst'.sim,hst'.frel.prune _,hst'.size,hst'.defers⟩ (hJ _ _ hk)
      | exit id=>exact ⟨ρ',σ',fr',hst',hk⟩
      | goto l=>exact hk.elim
      | ret=>exact ⟨ρ',σ',fr',hst',hk⟩
      | panic ch=>exact ⟨ρ',σ',fr',hst',hk⟩
      | outgrown=>exact hk.elim
  | .cond c x y,hc,k,ρ₀,σ₀,w₀,ρ,σ,w,fr,a,hst,h=>by
    simp only [codeOk,Bool.and_eq_true] at hc
    simp only [aw,condK] at h
    split at h
    · rename_i b hb
      have hv:=hst.frel.eval c
      rw [hb] at hv
      exact wp_cond_split hv.val_inv (fun e=>aw_sound hmix hD x hc.1 k ρ₀ σ₀ w₀ ρ σ w fr a hst (h.1 e)) (fun e=>aw_sound hmix hD y hc.2 k ρ₀ σ₀ w₀ ρ σ w fr a hst (h.2 e))
    · exact h.elim
  | .block id c,hc,k,ρ₀,σ₀,w₀,ρ,σ,w,fr,a,hst,h=>by
    refine wp_block (wp_mono (aw_sound hmix hD c hc _ ρ₀ σ₀ w₀ ρ σ w fr a hst h) ?_)
    rintro e a' w' ⟨ρ',σ',fr',hst',hk⟩
    cases e with
    | normal=>exact ⟨ρ',σ',fr',hst',hk⟩
    | exit m =>
      simp only at hk
      simp only [Exit.inBlock]
      split at hk
      · rename_i e;rw [if_pos e];exact ⟨ρ',σ',fr',hst',hk⟩
      · rename_i e;rw [if_neg e];exact ⟨ρ',σ',fr',hst',hk⟩
    | goto l=>exact hk.elim
    | ret=>exact ⟨ρ',σ',fr',hst',hk⟩
    | panic ch=>exact ⟨ρ',σ',fr',hst',hk⟩
    | outgrown=>exact hk.elim
  | .exit id,_,k,ρ₀,σ₀,w₀,ρ,σ,w,fr,a,hst,h=>wp_exit ⟨ρ,σ,fr,hst,h⟩
  | .ret,_,k,ρ₀,σ₀,w₀,ρ,σ,w,fr,a,hst,h=>wp_ret ⟨ρ,σ,fr,hst,h⟩
  | .loop c,hc,k,ρ₀,σ₀,w₀,ρ,σ,w,fr,a,hst,h=>by
    obtain ⟨I,μ,h0,hround⟩:=h
    refine wp_loop_idx (ι:=AFrame × AHeap) (fun p a w=>∃ ρ,St D ρ₀ σ₀ w₀ N ρ p.2 w p.1 a∧I p.1 p.2) (fun p=>μ p.1 p.2) ?_ (i:=(prune (keep (1000+firstReg c)) fr,σ)) ⟨ρ,⟨hst.ext,hst.sim,hst.frel.prune _,hst.size,hst.defers⟩,h0⟩
    rintro ⟨fr,σ⟩ a w ⟨ρ,hst,hI⟩
    refine wp_mono (aw_sound hmix hD c hc _ ρ₀ σ₀ w₀ ρ σ w fr a hst (hround fr σ hI)) ?_
    rintro e a' w' ⟨ρ',σ',fr',hst',hk⟩
    cases e with
    | normal=>exact ⟨(prune (keep (1000+firstReg c)) fr',σ'),⟨ρ',⟨hst'.ext,hst'.sim,hst'.frel.prune _,hst'.size,hst'.defers⟩,hk.1⟩,hk.2⟩
    | exit id=>exact ⟨ρ',σ',fr',hst',hk⟩
    | goto l=>exact hk.elim
    | ret=>exact ⟨ρ',σ',fr',hst',hk⟩
    | panic ch=>exact ⟨ρ',σ',fr',hst',hk⟩
    | outgrown=>exact hk.elim
  | .scope c,hc,k,ρ₀,σ₀,w₀,ρ,σ,w,fr,a,hst,h=>by
    refine wp_scope_straight (wp_mono (aw_sound hmix hD c hc k ρ₀ σ₀ w₀ ρ σ w fr a hst h) ?_)
    rintro e a' w' ⟨ρ',σ',fr',hst',hk⟩
    cases e with
    | normal=>exact ⟨ρ',σ',fr',hst',hk⟩
    | exit id=>exact ⟨ρ',σ',fr',hst',hk⟩
    | goto l=>exact hk.elim
    | ret=>exact ⟨ρ',σ',fr',hst',hk⟩
    | panic ch=>exact ⟨ρ',σ',fr',hst',hk⟩
    | outgrown=>exact hk.elim
  | .rangeFunc ..,_,_,_,_,_,_,_,_,_,_,_,h=>h.elim
  | .label _,_,_,_,_,_,_,_,_,_,_,_,h=>h.elim
  | .goto _,_,_,_,_,_,_,_,_,_,_,_,h=>h.elim
  | .refuse _,_,_,_,_,_,_,_,_,_,_,_,h=>h.elim
end Go.Abs
namespace Go.Abs
open Go
def frameOf:Nat→List AV→AFrame
  | _,[]=>[]
  | i,x :: r=>(i,x) :: frameOf (i+1) r
theorem look_frameOf:∀ (xs:List AV) (i k:Nat),look (frameOf i xs) k=if i≤k then (xs[k - i]?).getD .any else .any
  | [],i,k=>by simp [frameOf,look]
  | x :: r,i,k=>by
    rw [frameOf,look_cons,look_frameOf r (i+1) k]
    by_cases h:k=i
    · subst h;simp
    · rw [if_neg h]
      by_cases h2:i≤k
      · rw [if_pos (by omega),if_pos h2,show k - i=(k - (i+1))+1 by omega,List.getElem?_cons_succ]
      · rw [if_neg (by omega),if_neg h2]
def resVals (P:Program) (fr:AFrame) (σ:AHeap):List ResultVar→Option (List AV)
  | []=>some []
  | .tmp t :: r=>(resVals P fr σ r).map (look fr t :: ·)
  | .cell a t :: r=>match tinfo P t with
    | some (g,n)=>match aLoad g n (look fr a) σ,resVals P fr σ r with
      | some x,some l=>some (x :: l)
      | _,_=>none
    | none=>none
def stepV (r:Option AV) (k:AV→Prop):Prop :=
  match r with
  | some x=>k x
  | none=>False
def resC (P:Program) (fr:AFrame) (σ:AHeap):List ResultVar→(List AV→Prop)→Prop
  | [],K=>K []
  | .tmp t :: r,K=>resC P fr σ r fun l=>K (look fr t :: l)
  | .cell a t :: r,K=>match tinfo P t with
    | some (g,n)=>stepV (aLoad g n (look fr a) σ) fun x=>resC P fr σ r fun l=>K (x :: l)
    | none=>False
theorem resC_spec {P fr σ}:∀ (rs:List ResultVar) (K:List AV→Prop),resC P fr σ rs K→∃ l,resVals P fr σ rs=some l∧K l
  | [],K,h=>⟨[],rfl,h⟩
  | .tmp t :: r,K,h=>by
    obtain ⟨l,h1,h2⟩:=resC_spec r _ h
    exact ⟨_,by simp [resVals,h1],h2⟩
  | .cell a t :: r,K,h=>by
    simp only [resC] at h
    split at h
    · rename_i g n ht
      unfold stepV at h
      split at h
      · rename_i x hx
        obtain ⟨l,h1,h2⟩:=resC_spec r _ h
        exact ⟨_,by simp [resVals,ht,hx,h1],h2⟩
      · exact h.elim
    · exact h.elim
def oneOrTup (l:List AV) (σ:AHeap) (k:AV→AHeap→Prop):Prop :=
  match l with
  | [x]=>k x σ
  | xs=>k (.tup xs) σ
def resK (vs:Option (List AV)) (σ:AHeap) (k:AV→AHeap→Prop):Prop :=
  match vs with
  | some [x]=>k x σ
  | some xs=>k (.tup xs) σ
  | none=>False
def retK (P:Program) (rs:List ResultVar) (k kp:AV→AHeap→Prop):AK :=
  { n:=fun fr σ=>resC P fr σ rs fun l=>oneOrTup l σ k,ex:=fun _ _ _=>False,ret:=fun fr σ=>resC P fr σ rs fun l=>oneOrTup l σ k,pa:=kp }
theorem run_resVal {P:Program} {ρ σ w} (hs:Sim ρ σ w) {t g n} (ht:tinfo P t=some (g,n)) {x y:AV} (hy:aLoad g n x σ=some y) {v:Value} (hv:VRel (ctx ρ σ w) x v) :
    ∃ u,(do loadVar t (← asAddr v):Sem Value).run P w=.ok u w∧VRel (ctx ρ σ w) y u:=by
  obtain ⟨u,hu,hr⟩:=sLoad hs ht hv hy
  refine ⟨u,?_,hr⟩
  unfold aLoad at hy
  split at hy
  · cases hv with
    | ptr hp=>simpa [Instr.loadAt,Instr.sureAddr,asAddr] using hu
  · cases hv with
    | ref f hi hc hr=>simpa [Instr.loadAt,Instr.sureAddr,asAddr] using hu
  · cases hy
def resSem (tmps:Array Value):ResultVar→Sem Value
  | .tmp t=>pure (tmps.getD t undef)
  | .cell a t=>do loadVar t (← asAddr (tmps.getD a undef))
theorem run_resVals {P:Program} {ρ σ w} (hs:Sim ρ σ w) {fr} {a:Act} (hf:FRel (ctx ρ σ w) fr a.tmps):∀ (rs:List ResultVar) (l:List AV),resVals P fr σ rs=some l →
    ∃ us:List Value,(rs.mapM (resSem a.tmps)).run P w=.ok us w∧us.length=l.length∧∀ (i:Nat) x v,l[i]?=some x→us[i]?=some v→VRel (ctx ρ σ w) x v
  | [],l,h=>by simp only [resVals,Option.some.injEq] at h;subst h;exact ⟨[],by simp,rfl,by simp⟩
  | .tmp t :: r,l,h=>by
    simp only [resVals] at h
    obtain ⟨l',hl',rfl⟩:=Option.map_eq_some_iff.1 h
    obtain ⟨us,h1,h2,h3⟩:=run_resVals hs hf r l' hl'
    refine ⟨a.tmps.getD t undef :: us,by simp [List.mapM_cons,resSem,h1],by simp [h2],fun i x v hx hv=>?_⟩
    cases i with
    | zero=>simp only [List.getElem?_cons_zero,Option.some.injEq] at hx hv;subst hx;subst hv;exact hf t
    | succ i=>exact h3 i x v (by simpa using hx) (by simpa using hv)
  | .cell p t :: r,l,h=>by
    simp only [resVals] at h
    split at h
    · rename_i g n ht
      split at h
      · rename_i x l' hx' hl'
        cases h
        obtain ⟨us,h1,h2,h3⟩:=run_resVals hs hf r l' hl'
        obtain ⟨u,hu,hr⟩:=run_resVal hs ht hx' (hf p)
        refine ⟨u :: us,?_,by simp [h2],fun i x v hx hv=>?_⟩
        · have hu':(resSem a.tmps (.cell p t)).run P w=.ok u w:=hu
          simp only [List.mapM_cons,Sem.run_bind,hu',h1,Result.andThen_ok,Sem.run_pure]
        · cases i with
          | zero=>simp at hx hv;subst hx;subst hv;exact hr
          | succ i=>exact h3 i x v (by simpa using hx) (by simpa using hv)
      · cases h
    · cases h
theorem run_results {P:Program} {ρ σ w} (hs:Sim ρ σ w) {fr} {a:Act} (hf:FRel (ctx ρ σ w) fr a.tmps) {fn:Func} {k:AV→AHeap→Prop} (h0:resC P fr σ fn.results.toList fun l=>oneOrTup l σ k) :
    ∃ v x,(results fn a.tmps).run P w=.ok v w∧VRel (ctx ρ σ w) x v∧k x σ:=by
  have h:resK (resVals P fr σ fn.results.toList) σ k:=by
    obtain ⟨l,h1,h2⟩:=resC_spec _ _ h0
    rw [h1]
    unfold oneOrTup at h2
    unfold resK
    split at h2 <;> simp_all
  cases hv:resVals P fr σ fn.results.toList with
  | none=>rw [hv] at h;exact h.elim
  | some l =>
    rw [hv] at h
    obtain ⟨us,h1,h2,h3⟩:=run_resVals hs hf _ _ hv
    have hrun:(fn.results.mapM (resSem a.tmps)).run P w=.ok us.toArray w:=by
      rw [Array.mapM_eq_mapM_toList]
      simp only [Sem.run_map,h1,Result.andThen_ok]
    have hres:results fn a.tmps=(do let vs ← fn.results.mapM (resSem a.tmps);pure (if h:vs.size=1 then vs[0] else .tuple vs)):=by
      unfold results
      congr 1
    clear hv
    match l,us,h2,h,h3,hrun with
    | [x],[u],_,h,h3,hrun=>exact ⟨u,x,by rw [hres];simp [hrun],h3 0 x u rfl rfl,h⟩
    | [],[],_,h,h3,hrun=>exact ⟨.tuple #[],.tup [],by rw [hres];simp [hrun],.tup rfl (by simp),h⟩
    | x :: y :: l,u :: v :: us,hlen,h,h3,hrun =>
      refine ⟨.tuple (u :: v :: us).toArray,.tup (x :: y :: l),by rw [hres];simp [hrun],.tup (by simpa using hlen.symm) (fun i x v hx hv=>h3 i x v hx (by simpa using hv)),h⟩
def keepOf:List (Nat × List Nat)→Nat→List Nat
  | [],_=>[]
  | (j,x) :: r,i=>bif Nat.beq i j then x else keepOf r i
theorem Ev_of_aw {P:Program} (hmix:P.follows .mixedOrders=true) {f:FuncId} {fn:Func} {body:Code} (hf:P.funcs[f]?=some fn) (hb:fn.body=some body) (hname:(fn.name == "runtime.NumGoroutine")=false)
    {args:List AV} (hargs:args.length≤fn.ntmps) (keep:Nat→List Nat) (hok:codeOk keep fn.ntmps body=true) {σ:AHeap} {k kp:AV→AHeap→Prop}
    (h:aw P keep body (retK P fn.results.toList k kp) (frameOf 0 args) σ):Ev P f args σ k kp:=by
  refine fun ρ w vs hs hrel=>.inl ⟨⟨fn,hf,by rw [hb];rfl,hname⟩,?_⟩
  refine calls_of_wp hf hb ?_
  have hst:St (fun a=>a.defers=[]) ρ σ w fn.ntmps ρ σ w (frameOf 0 args) { tmps:=vs ++ Array.replicate (fn.ntmps - vs.size) undef,defers:=[] }:=by
    refine ⟨Ext.refl _ _ _,hs,fun q=>?_,by simp;have:=hrel.1;omega,rfl⟩
    rw [look_frameOf]
    simp only [Nat.zero_le,if_true,Nat.sub_zero]
    cases hx:args[q]? with
    | none=>exact .any _
    | some x =>
      have hq:q < vs.size:=by rw [← hrel.1];exact (List.getElem?_eq_some_iff.1 hx).1
      simp only [Option.getD_some]
      rw [Array.getD_eq_getD_getElem?,Array.getElem?_append_left hq,Array.getElem?_eq_getElem hq]
      exact hrel.2 q x _ hx (Array.getElem?_eq_getElem hq)
  refine wp_mono (aw_sound hmix (DOk.plain _) body hok _ ρ σ w ρ σ w _ _ hst h) ?_
  rintro e a' w' ⟨ρ',σ',fr',hst',hk⟩
  cases e with
  | normal =>
    obtain ⟨v,x,h1,h2,h3⟩:=run_results hst'.sim hst'.frel hk
    exact ⟨hst'.defers,v,h1,ρ',σ',hst'.ext,hst'.sim,x,h3,h2⟩
  | ret =>
    obtain ⟨v,x,h1,h2,h3⟩:=run_results hst'.sim hst'.frel hk
    exact ⟨hst'.defers,v,h1,ρ',σ',hst'.ext,hst'.sim,x,h3,h2⟩
  | exit id=>exact hk.elim
  | goto l=>exact hk.elim
  | panic chain =>
    obtain ⟨x,v,hc,hv,hp⟩:=hk
    exact ⟨hst'.defers,ρ',σ',hst'.ext,hst'.sim,x,v,hc,hp,hv⟩
  | outgrown=>exact hk.elim
theorem Ev.ext {P:Program} {f:FuncId} {fn:Func} {e:Array Value→Sem Value} (hf:P.funcs[f]?=some fn) (hname:(fn.name == "runtime.NumGoroutine")=false) (hb:fn.body.isNone=true) (hn:Extern.findNext fn=none) (he:Extern.find fn=some e)
    {args:List AV} {σ:AHeap} {k kp:AV→AHeap→Prop} (h:∀ (c:Ctx) w vs,ArgsRel c args vs→∃ v x,(e vs).run P w=.ok v w∧k x σ∧VRel c x v):Ev P f args σ k kp:=by
  intro ρ w vs hs ha
  obtain ⟨v,x,h1,h2,h3⟩:=h _ w vs ha
  exact .inr ⟨v,w,by rw [run_callFunc_extern hf hname hb hn he,h1];rfl,ρ,σ,Ext.refl _ _ _,hs,x,h2,h3⟩
abbrev KP:=AV→AHeap→Prop
abbrev lq (fr:AFrame) (n:Nat):AV:=Abs.look fr n
theorem nr0 {α:Sort _} {a b:α} (h:a=b):a=b:=h
def fA (o:Nat) (x:AV) (σ:AHeap) (k:AV→AHeap→Prop):Prop:=stepK (pureR σ (aFieldAddr o x)) k
def lT (n:Nat) (x:AV) (σ:AHeap) (k:AV→AHeap→Prop):Prop:=stepK (pureR σ (aLoad true n x σ)) k
def lF (x:AV) (σ:AHeap) (k:AV→AHeap→Prop):Prop:=stepK (pureR σ (aLoad false 1 x σ)) k
def sT (n:Nat) (x v:AV) (σ:AHeap) (k:AHeap→Prop):Prop:=stepK (unitR (aStore n x v σ)) fun _ σ=>k σ
def iA (n:Nat) (x i:AV) (σ:AHeap) (k:AV→AHeap→Prop):Prop:=stepK (pureR σ (aIndexAddr n x i σ)) k
def bP (o:BinOp) (x y:AV) (σ:AHeap) (k:AV→AHeap→Prop):Prop:=stepK (pureR σ (aBin o .prim x y)) k
def eX (n:Nat) (x:AV) (σ:AHeap) (k:AV→AHeap→Prop):Prop:=stepK (pureR σ (aExtract n x)) k
def aC (z:List AV) (σ:AHeap) (k:AV→AHeap→Prop):Prop:=stepK (aAlloc z σ) k
def pK (b c d:AV) (σ:AHeap) (k:AV→AHeap→Prop):Prop:=stepK (pureR σ (aPick b c d)) k
def rg (σ:AHeap) (r:Option AV) (t:AV) (P:Prop):Prop:=(stepK (pureR σ r) (fun y θ=>y=t∧θ=σ))∧P
def gR (x:AV) (w:Bool) (r:Option AV) (k:AV→AHeap→Prop) (σ:AHeap):Prop:=gK x w (fun K=>stepK (pureR σ r) K) k σ
@[simp ↓] theorem lk_eq (fr n):lq fr n=Abs.look fr n:=nr0 rfl
@[simp ↓] theorem fA_eq (o x σ k):fA o x σ k=stepK (pureR σ (aFieldAddr o x)) k:=nr0 rfl
@[simp ↓] theorem lT_eq (n x σ k):lT n x σ k=stepK (pureR σ (aLoad true n x σ)) k:=nr0 rfl
@[simp ↓] theorem lF_eq (x σ k):lF x σ k=stepK (pureR σ (aLoad false 1 x σ)) k:=nr0 rfl
@[simp ↓] theorem sT_eq (n x v σ k):sT n x v σ k=stepK (unitR (aStore n x v σ)) fun _ σ=>k σ:=nr0 rfl
@[simp ↓] theorem iA_eq (n x i σ k):iA n x i σ k=stepK (pureR σ (aIndexAddr n x i σ)) k:=nr0 rfl
@[simp ↓] theorem bP_eq (o x y σ k):bP o x y σ k=stepK (pureR σ (aBin o .prim x y)) k:=nr0 rfl
@[simp ↓] theorem eX_eq (n x σ k):eX n x σ k=stepK (pureR σ (aExtract n x)) k:=nr0 rfl
@[simp ↓] theorem aC_eq (z σ k):aC z σ k=stepK (aAlloc z σ) k:=nr0 rfl
@[simp ↓] theorem pK_eq (b c d σ k):pK b c d σ k=stepK (pureR σ (aPick b c d)) k:=nr0 rfl
@[simp ↓] theorem rg_eq (σ r t P):rg σ r t P=((stepK (pureR σ r) (fun y θ=>y=t∧θ=σ))∧P):=nr0 rfl
@[simp ↓] theorem gR_eq (x w r k σ):gR x w r k σ=gK x w (fun K=>stepK (pureR σ r) K) k σ:=nr0 rfl
def rt (n m:Nat) (a b x y:AV) (σ:AHeap) (k:AV→AHeap→Prop):Prop:=stepK (unitR (aStore n a x σ)) fun _ σ=>stepK (unitR (aStore m b y σ)) fun _ σ=>stepV (aLoad true n a σ) fun r0=>stepV (aLoad true m b σ) fun r1=>k (.tup [r0,r1]) σ
def rv (n m:Nat) (a b x:AV) (σ:AHeap) (k:AV→AHeap→Prop):Prop:=stepK (pureR σ (aExtract 0 x)) fun y σ=>stepK (pureR σ (aExtract 1 x)) fun z σ=>rt n m a b y z σ k
@[simp ↓] theorem rt_eq (n m a b x y σ k):rt n m a b x y σ k=stepK (unitR (aStore n a x σ)) fun _ σ=>stepK (unitR (aStore m b y σ)) fun _ σ=>stepV (aLoad true n a σ) fun r0=>stepV (aLoad true m b σ) fun r1=>k (.tup [r0,r1]) σ:=nr0 rfl
@[simp ↓] theorem rv_eq (n m a b x σ k):rv n m a b x σ k=stepK (pureR σ (aExtract 0 x)) fun y σ=>stepK (pureR σ (aExtract 1 x)) fun z σ=>rt n m a b y z σ k:=nr0 rfl
def chkA (fn:Func) (n:Nat) (L:List (Nat × List Nat)):Bool:=fn.body.isSome && (!(fn.name == "runtime.NumGoroutine") && (decide (n≤fn.ntmps) && codeOk (keepOf L) fn.ntmps (fn.body.getD .skip)))
theorem evA {P:Program} {f:FuncId} {fn:Func} (hm:P.follows .mixedOrders=true) (hf:P.funcs[f]?=some fn) {args:List AV} (L:List (Nat × List Nat)) {σ:AHeap} {k kp:AV→AHeap→Prop} {F:Prop} (hc:chkA fn args.length L=true)
    (he:aw P (keepOf L) (fn.body.getD .skip) (retK P fn.results.toList k kp) (frameOf 0 args) σ=F) (h:F):Ev P f args σ k kp:=by
  unfold chkA at hc
  simp only [Bool.and_eq_true,Bool.not_eq_true',decide_eq_true_eq] at hc
  obtain ⟨h1,h2,h3,h4⟩:=hc
  obtain ⟨b,hb⟩:=Option.isSome_iff_exists.1 h1
  rw [hb] at h4 he
  exact Ev_of_aw hm hf hb h2 h3 (keepOf L) h4 (by rw [show aw P (keepOf L) b (retK P fn.results.toList k kp) (frameOf 0 args) σ=F from he];exact h)
end Go.Abs
set_option linter.unusedVariables false
set_option linter.unusedSimpArgs false
set_option linter.deprecated false
namespace Go.Abs
open Go
theorem nr {α:Sort _} {a b:α} (h:a=b):a=b:=h
@[congr] theorem stepK_congr {r r':Option (AV × AHeap)} {k:AV→AHeap→Prop} (h:r=r'):stepK r k=stepK r' k:=by rw [h]
@[simp ↓] theorem stepK_some (x:AV) (σ:AHeap) (k:AV→AHeap→Prop):stepK (some (x,σ)) k=k x σ:=nr rfl
@[congr] theorem stepV_congr {r r':Option AV} {k:AV→Prop} (h:r=r'):stepV r k=stepV r' k:=by rw [h]
@[simp ↓] theorem stepV_some (x:AV) (k:AV→Prop):stepV (some x) k=k x:=nr rfl
@[congr] theorem condK_congr {x x':AV} {A B:Prop} (h:x=x'):condK x A B=condK x' A B:=by rw [h]
@[simp ↓] theorem condK_true (A B:Prop):condK (.val (.bool true)) A B=A:=by simp [condK]
@[simp ↓] theorem condK_false (A B:Prop):condK (.val (.bool false)) A B=B:=by simp [condK]
@[congr] theorem gK_congr {x x':AV} {w:Bool} {run:(AV→AHeap→Prop)→Prop} {K:AV→AHeap→Prop} {σ:AHeap} (h:x=x'):gK x w run K σ=gK x' w run K σ:=by rw [h]
@[simp ↓] theorem gK_tt (run:(AV→AHeap→Prop)→Prop) (K:AV→AHeap→Prop) (σ:AHeap):gK (.val (.bool true)) true run K σ=run K:=by simp [gK,guardK]
@[simp ↓] theorem gK_ff (run:(AV→AHeap→Prop)→Prop) (K:AV→AHeap→Prop) (σ:AHeap):gK (.val (.bool false)) false run K σ=run K:=by simp [gK,guardK]
@[simp ↓] theorem gK_tf (run:(AV→AHeap→Prop)→Prop) (K:AV→AHeap→Prop) (σ:AHeap):gK (.val (.bool true)) false run K σ=K (.val undef) σ:=by simp [gK,guardK]
@[simp ↓] theorem gK_ft (run:(AV→AHeap→Prop)→Prop) (K:AV→AHeap→Prop) (σ:AHeap):gK (.val (.bool false)) true run K σ=K (.val undef) σ:=by simp [gK,guardK]
@[simp ↓] theorem gK_un (w:Bool) (run:(AV→AHeap→Prop)→Prop) (K:AV→AHeap→Prop) (σ:AHeap):gK (.val undef) w run K σ=K (.val undef) σ:=by simp [gK,guardK,undef]
@[congr] theorem Ev_congr {P:Program} {f:FuncId} {xs ys:List AV} {σ:AHeap} {k kp:AV→AHeap→Prop} (h:xs=ys):Ev P f xs σ k kp=Ev P f ys σ k kp:=by rw [h]
@[congr] theorem loopW_congr {b:AFrame→AHeap→(AFrame→AHeap→Prop)→Prop} {fr fr':AFrame} {σ:AHeap} (h:fr=fr'):loopW b fr σ=loopW b fr' σ:=by rw [h]
@[congr] theorem seqW_congr {B:AFrame→AHeap→Prop} {A:(AFrame→AHeap→Prop)→Prop}:seqW B A=seqW B A:=rfl
theorem seqW_in {B:AFrame→AHeap→Prop} {A:(AFrame→AHeap→Prop)→Prop} (h:A B):seqW B A:=⟨B,fun _ _ h=>h,h⟩
theorem seqW_by (J:AFrame→AHeap→Prop) {B:AFrame→AHeap→Prop} {A:(AFrame→AHeap→Prop)→Prop} (h1:A J) (h2:∀ fr σ,J fr σ→B fr σ):seqW B A:=⟨J,h2,h1⟩
theorem loopW_by {ι:Type} (st:ι→AFrame) (I:ι→AHeap→Prop) (μ:AFrame→AHeap→Nat) {body:AFrame→AHeap→(AFrame→AHeap→Prop)→Prop} {fr:AFrame} {σ:AHeap} (i:ι) (e:fr=st i) (h0:I i σ)
    (h:∀ i σ,I i σ→body (st i) σ fun fr' σ'=>(∃ j,fr'=st j∧I j σ')∧μ fr' σ' < μ (st i) σ):loopW body fr σ :=
  ⟨fun fr σ=>∃ i,fr=st i∧I i σ,μ,⟨i,e,h0⟩,by rintro fr σ ⟨i,rfl,hI⟩;exact h i σ hI⟩
def intOf:AV→Int
  | .val (.int _ n)=>n
  | _=>0
@[simp] theorem intOf_val (k:IntKind) (n:Int):intOf (.val (.int k n))=n:=nr rfl
@[simp] theorem look_hit (k:Nat) (v:AV) (r:AFrame):look ((k,v) :: r) k=v:=by simp [look_cons]
@[simp] theorem look_miss {k j:Nat} (h:j ≠ k) (v:AV) (r:AFrame):look ((k,v) :: r) j=look r j:=by simp [look_cons,h]
@[simp] theorem pureR_some (σ:AHeap) (x:AV):pureR σ (some x)=some (x,σ):=nr rfl
@[simp] theorem unitR_some (σ:AHeap):unitR (some σ)=some (.val undef,σ):=nr rfl
@[simp] theorem aAlloc_some (zs:List AV) (σ:AHeap):aAlloc zs σ=some (.ptr σ.next 0 0,σ.new (.cells zs.length [zs])):=nr rfl
@[simp] theorem aMakeMap_some (σ:AHeap):aMakeMap σ=some (.mp σ.next,σ.new (.map [])):=nr rfl
@[simp] theorem aPick_some (t:Bool) (a b:AV):aPick (.val (.bool t)) a b=some (bif t then a else b):=nr rfl
@[simp] theorem aFieldAddr_ptr (o id i p:Nat):aFieldAddr o (.ptr id i p)=some (.ptr id i (p+o)):=nr rfl
@[simp] theorem aFieldAddr_ref (o:Nat) (cs:List AV):aFieldAddr o (.ref cs)=some (.ref (cs.drop o)):=nr rfl
@[simp] theorem aNilCheck_ptr (id i p:Nat):aNilCheck (.ptr id i p)=some (.ptr id i p):=nr rfl
@[simp] theorem aNilCheck_ref (cs:List AV):aNilCheck (.ref cs)=some (.ref cs):=nr rfl
@[simp] theorem aLoad_ptr (g:Bool) (n id i o:Nat) (σ:AHeap):aLoad g n (.ptr id i o) σ=(elAt σ id i).bind fun el=>getCells g n (el.drop o):=nr rfl
@[simp] theorem aLoad_ref (g:Bool) (n:Nat) (cs:List AV) (σ:AHeap):aLoad g n (.ref cs) σ=getCells g n cs:=nr rfl
@[simp] theorem aExtract_tup (k:Nat) (vs:List AV):aExtract k (.tup vs)=vs[k]?:=nr rfl
@[simp] theorem aField_agg (o:Nat) (g:Bool) (n:Nat) (cs:List AV):aField o g n (.agg cs)=getCells g n (cs.drop o):=nr rfl
@[simp] theorem aLenK_own (id n:Nat) (σ:AHeap):aLenK .slice (.own id n) σ=some (.val (.int .i64 n)):=nr rfl
@[simp] theorem aLenK_sl (c:Bool) (sz:Nat) (xs:List (List AV)) (σ:AHeap):aLenK .slice (.sl c sz xs) σ=some (.val (.int .i64 xs.length)):=nr rfl
@[simp] theorem aLenK_nil (σ:AHeap):aLenK .slice (.val (.slice none 0 0)) σ=some (.val (.int .i64 0)):=nr rfl
@[simp] theorem aLenK_str (b:ByteArray) (σ:AHeap):aLenK .str (.val (.string b)) σ=some (.val (.int .i64 b.size)):=nr rfl
@[simp] theorem aLenK_map0 (σ:AHeap):aLenK .map (.val (.map none)) σ=some (.val (.int .i64 0)):=nr rfl
theorem aIndexAddr_sl (n:Nat) (c:Bool) (sz:Nat) (xs:List (List AV)) (k:IntKind) (i:Int) (σ:AHeap):aIndexAddr n (.sl c sz xs) (.val (.int k i)) σ=if 0≤i∧sz=n then (xs[i.toNat]?).map .ref else none:=rfl
@[simp] theorem aLenK_win (id off sz n:Nat) (σ:AHeap):aLenK .slice (.win id off sz n) σ=some (.val (.int .i64 n)):=nr rfl
@[simp] theorem acells_win (a b c d:Nat):acells (.win a b c d)=some [.win a b c d]:=nr rfl
theorem aIndexAddr_own (n id len:Nat) (k:IntKind) (i:Int) (σ:AHeap) :
    aIndexAddr n (.own id len) (.val (.int k i)) σ=if 0≤i∧i < len then (elAt σ id i.toNat).bind fun el=>if el.length=n then some (.ptr id i.toNat 0) else none else none:=rfl
@[simp] theorem acells_int (k:IntKind) (n:Int):acells (.val (.int k n))=some [.val (.int k n)]:=nr rfl
@[simp] theorem acells_bool (b:Bool):acells (.val (.bool b))=some [.val (.bool b)]:=nr rfl
@[simp] theorem acells_str (b:ByteArray):acells (.val (.string b))=some [.val (.string b)]:=nr rfl
@[simp] theorem acells_slice (a:Option Addr) (n m:Nat):acells (.val (.slice a n m))=some [.val (.slice a n m)]:=nr rfl
@[simp] theorem acells_map (a:Option Nat):acells (.val (.map a))=some [.val (.map a)]:=nr rfl
@[simp] theorem acells_pointer (a:Option Addr):acells (.val (.pointer a))=some [.val (.pointer a)]:=nr rfl
@[simp] theorem acells_nilFunc:acells (.val .nilFunc)=some [.val .nilFunc]:=nr rfl
@[simp] theorem acells_nilIface:acells (.val .nilIface)=some [.val .nilIface]:=nr rfl
@[simp] theorem acells_agg (cs:List AV):acells (.agg cs)=some cs:=nr rfl
@[simp] theorem acells_ptr (a b c:Nat):acells (.ptr a b c)=some [.ptr a b c]:=nr rfl
@[simp] theorem acells_ref (cs:List AV):acells (.ref cs)=some [.ref cs]:=nr rfl
@[simp] theorem acells_sl (c:Bool) (sz:Nat) (xs:List (List AV)):acells (.sl c sz xs)=some [.sl c sz xs]:=nr rfl
@[simp] theorem acells_own (a b:Nat):acells (.own a b)=some [.own a b]:=nr rfl
@[simp] theorem acells_mp (a:Nat):acells (.mp a)=some [.mp a]:=nr rfl
@[simp] theorem acells_fn (f:Fn) (cap:List AV):acells (.fn f cap)=some [.fn f cap]:=nr rfl
@[simp] theorem acells_iface (t:TypeId) (x:AV):acells (.iface t x)=some [.iface t x]:=nr rfl
@[simp] theorem aStore_ptr (n id i o:Nat) (v:AV) (σ:AHeap):aStore n (.ptr id i o) v σ=match σ.get id with
    | some (.cells sz els)=>match els[i]?,acells v with
      | some el,some vs=>if vs.length=n∧o+n≤el.length then some (σ.set id (.cells sz (els.set i (el.take o ++ vs ++ el.drop (o+n))))) else none
      | _,_=>none
    | _=>none:=nr rfl
theorem stepK_of {r:Option (AV × AHeap)} {x:AV} {τ:AHeap} {k:AV→AHeap→Prop} (h:r=some (x,τ)) (hk:k x τ):stepK r k:=by rw [h];exact hk
theorem stepP {σ:AHeap} {r:Option AV} {x:AV} {k:AV→AHeap→Prop} (h:r=some x) (hk:k x σ):stepK (pureR σ r) k:=by rw [h];exact hk
theorem stepU {σ:AHeap} {r:Option AHeap} {k:AV→AHeap→Prop} (h:r=some σ) (hk:k (.val undef) σ):stepK (unitR r) k:=by rw [h];exact hk
@[simp] theorem aSlice_own_hi (n id len:Nat) (k:IntKind) (h:Int):aSlice n (.own id len) none (some (.val (.int k h))) none=if 0≤h∧h≤len then some (.own id h.toNat) else none:=by
  simp [aSlice,optInt]
@[simp] theorem aSlice_sl_hi (n:Nat) (c:Bool) (sz:Nat) (xs:List (List AV)) (k:IntKind) (h:Int):aSlice n (.sl c sz xs) none (some (.val (.int k h))) none=if 0≤h∧h≤xs.length∧sz=n then some (.sl (c && decide (h=xs.length)) sz (xs.take h.toNat)) else none:=by
  simp [aSlice,optInt]
@[simp] theorem aSlice_sl_lo (n:Nat) (c:Bool) (sz:Nat) (xs:List (List AV)) (k:IntKind) (l:Int):aSlice n (.sl c sz xs) (some (.val (.int k l))) none none=if 0≤l∧l≤xs.length∧sz=n then some (.sl c sz (xs.drop l.toNat)) else none:=by
  simp [aSlice,optInt]
@[simp] theorem aSlice_sl_lh (n:Nat) (c:Bool) (sz:Nat) (xs:List (List AV)) (k k':IntKind) (l h:Int):aSlice n (.sl c sz xs) (some (.val (.int k l))) (some (.val (.int k' h))) none=if 0≤l∧l≤h∧h≤xs.length∧sz=n then some (.sl (c && decide (h=xs.length)) sz ((xs.take h.toNat).drop l.toNat)) else none:=by
  simp [aSlice,optInt]
theorem elAt_cells {σ:AHeap} {id i sz:Nat} {els:List (List AV)} (h:σ.get id=some (.cells sz els)):elAt σ id i=els[i]?:=by simp [elAt,h]
@[simp] theorem getCells_one (n:Nat) (cs:List AV):getCells false n cs=cs.head?:=nr rfl
@[simp] theorem getCells_agg (n:Nat) (cs:List AV):getCells true n cs=if n≤cs.length then some (.agg (cs.take n)) else none:=nr rfl
@[simp] theorem aNot_bool (b:Bool):aNot (.val (.bool b))=some (.val (.bool (!b))):=nr rfl
@[simp] theorem aNeg_int (k:IntKind) (n:Int):aNeg (.val (.int k n))=some (.val (.int k (k.wrap (0 - n)))):=nr rfl
@[simp] theorem aMax_int (k k':IntKind) (a b:Int):aMax (.val (.int k a)) (.val (.int k' b))=some (.val (.int k (if a < b then b else a))):=nr rfl
@[simp] theorem aMin_int (k k':IntKind) (a b:Int):aMin (.val (.int k a)) (.val (.int k' b))=some (.val (.int k (if b < a then b else a))):=nr rfl
@[simp] theorem aConv_int (k k':IntKind) (n:Int):aConv (.int k) (.val (.int k' n))=some (.val (.int k (k.wrap n))):=nr rfl
@[simp] theorem aConv_str (b:ByteArray):aConv .str (.val (.string b))=some (.val (.string b)):=nr rfl
@[simp] theorem aConv_bytes (b:ByteArray):aConv .bytes (.val (.string b))=some (.sl false 1 (bytesV b)):=nr rfl
@[simp] theorem asKey_int (k:IntKind) (n:Int):asKey (.val (.int k n))=some (.i k n):=nr rfl
@[simp] theorem asKey_str (b:ByteArray):asKey (.val (.string b))=some (.s b):=nr rfl
theorem aBin_int (op:BinOp) (k:IntKind) (a b:Int):aBin op .prim (.val (.int k a)) (.val (.int k b))=(intBin op k a b).map .val:=by simp [aBin,aBinPrim]
@[simp] theorem aBin_add (k:IntKind) (a b:Int):aBin .add .prim (.val (.int k a)) (.val (.int k b))=some (.val (.int k (k.wrap (a+b)))):=by rw [aBin_int];rfl
@[simp] theorem aBin_sub (k:IntKind) (a b:Int):aBin .sub .prim (.val (.int k a)) (.val (.int k b))=some (.val (.int k (k.wrap (a - b)))):=by rw [aBin_int];rfl
@[simp] theorem aBin_mul (k:IntKind) (a b:Int):aBin .mul .prim (.val (.int k a)) (.val (.int k b))=some (.val (.int k (k.wrap (a * b)))):=by rw [aBin_int];rfl
@[simp] theorem aBin_quo (k:IntKind) (a b:Int):aBin .quo .prim (.val (.int k a)) (.val (.int k b))=if b=0 then none else some (.val (.int k (k.wrap (a.tdiv b)))):=by
  rw [aBin_int];simp only [intBin];split <;> rfl
@[simp] theorem aBin_rem (k:IntKind) (a b:Int):aBin .rem .prim (.val (.int k a)) (.val (.int k b))=if b=0 then none else some (.val (.int k (a.tmod b))):=by
  rw [aBin_int];simp only [intBin];split <;> rfl
@[simp] theorem aBin_eql (k:IntKind) (a b:Int):aBin .eql .prim (.val (.int k a)) (.val (.int k b))=some (.val (.bool (decide (a=b)))):=by rw [aBin_int];rfl
@[simp] theorem aBin_neq (k:IntKind) (a b:Int):aBin .neq .prim (.val (.int k a)) (.val (.int k b))=some (.val (.bool (!decide (a=b)))):=by rw [aBin_int];rfl
@[simp] theorem aBin_lss (k:IntKind) (a b:Int):aBin .lss .prim (.val (.int k a)) (.val (.int k b))=some (.val (.bool (decide (a < b)))):=by rw [aBin_int];rfl
@[simp] theorem aBin_leq (k:IntKind) (a b:Int):aBin .leq .prim (.val (.int k a)) (.val (.int k b))=some (.val (.bool (decide (a≤b)))):=by rw [aBin_int];rfl
@[simp] theorem aBin_gtr (k:IntKind) (a b:Int):aBin .gtr .prim (.val (.int k a)) (.val (.int k b))=some (.val (.bool (decide (b < a)))):=by rw [aBin_int];rfl
@[simp] theorem aBin_geq (k:IntKind) (a b:Int):aBin .geq .prim (.val (.int k a)) (.val (.int k b))=some (.val (.bool (decide (b≤a)))):=by rw [aBin_int];rfl
@[simp] theorem aBin_seql (a b:ByteArray):aBin .eql .prim (.val (.string a)) (.val (.string b))=some (.val (.bool (decide (a=b)))):=nr rfl
@[simp] theorem aBin_sneq (a b:ByteArray):aBin .neq .prim (.val (.string a)) (.val (.string b))=some (.val (.bool (!decide (a=b)))):=nr rfl
theorem aBin_str (op:BinOp) (a b:ByteArray):aBin op .prim (.val (.string a)) (.val (.string b))=(strBin op a b).map .val:=nr rfl
@[simp] theorem aBin_beq (a b:Bool):aBin .eql .bool (.val (.bool a)) (.val (.bool b))=some (.val (.bool (decide (a=b)))):=nr rfl
@[simp] theorem aBin_bne (a b:Bool):aBin .neq .bool (.val (.bool a)) (.val (.bool b))=some (.val (.bool (!decide (a=b)))):=nr rfl
@[simp] theorem aBin_pp:aBin .eql .ptr (.val (.pointer none)) (.val (.pointer none))=some (.val (.bool true)):=nr rfl
@[simp] theorem aBin_pn (a b c:Nat):aBin .eql .ptr (.ptr a b c) (.val (.pointer none))=some (.val (.bool false)):=nr rfl
@[simp] theorem aBin_rn (cs:List AV):aBin .eql .ptr (.ref cs) (.val (.pointer none))=some (.val (.bool false)):=nr rfl
@[simp] theorem aBin_pp':aBin .neq .ptr (.val (.pointer none)) (.val (.pointer none))=some (.val (.bool false)):=nr rfl
@[simp] theorem aBin_pn' (a b c:Nat):aBin .neq .ptr (.ptr a b c) (.val (.pointer none))=some (.val (.bool true)):=nr rfl
@[simp] theorem aBin_rn' (cs:List AV):aBin .neq .ptr (.ref cs) (.val (.pointer none))=some (.val (.bool true)):=nr rfl
@[simp] theorem aBin_agg (ks:List LK) (cs ds:List AV):aBin .eql (.agg ks) (.agg cs) (.agg ds)=(eqLeaves ks cs ds).map fun b=>.val (.bool b):=nr rfl
@[simp] theorem aBin_agg' (ks:List LK) (cs ds:List AV):aBin .neq (.agg ks) (.agg cs) (.agg ds)=(eqLeaves ks cs ds).map fun b=>.val (.bool (!b)):=nr rfl
@[simp] theorem eqLeaf_i (k:IntKind) (a b:Int):eqLeaf .i (.val (.int k a)) (.val (.int k b))=some (decide (a=b)):=by simp [eqLeaf]
@[simp] theorem eqLeaf_b (a b:Bool):eqLeaf .b (.val (.bool a)) (.val (.bool b))=some (decide (a=b)):=nr rfl
@[simp] theorem eqLeaf_s (a b:ByteArray):eqLeaf .s (.val (.string a)) (.val (.string b))=some (decide (a=b)):=nr rfl
@[simp] theorem aBox_eq (x:AV) (σ:AHeap):aBox x σ=(acells x).map fun cs=>(.ptr σ.next 0 0,σ.new (.cells cs.length [cs])):=nr rfl
@[simp] theorem elAt_new (σ:AHeap) (sz:Nat) (els:List (List AV)) (i:Nat):elAt (σ.new (.cells sz els)) σ.next i=els[i]?:=elAt_cells (AHeap.new_same _ _)
@[simp] theorem elAt_eq (σ:AHeap) (id i:Nat):elAt σ id i=match σ.get id with
    | some (.cells _ els)=>els[i]?
    | _=>none:=nr rfl
@[simp] theorem aBuild_eq (zs:List AV) (ps:List (Nat × Nat × AV)):aBuild zs ps=(aFill zs ps).map .agg:=nr rfl
@[simp] theorem aFill_nil (cs:List AV):aFill cs []=some cs:=nr rfl
@[simp] theorem aFill_cons (cs:List AV) (off sz:Nat) (x:AV) (r:List (Nat × Nat × AV)):aFill cs ((off,sz,x) :: r)=match acells x with
    | some vs=>if vs.length=sz∧off+sz≤cs.length then aFill (cs.take off ++ vs ++ cs.drop (off+sz)) r else none
    | none=>none:=nr rfl
@[simp] theorem aFillEls_nil (sz:Nat) (els:List (List AV)):aFillEls sz els []=some els:=nr rfl
@[simp] theorem aFillEls_cons (sz:Nat) (els:List (List AV)) (i:Nat) (x:AV) (r:List (Nat × AV)):aFillEls sz els ((i,x) :: r)=match acells x with
    | some vs=>if vs.length=sz∧i < els.length then aFillEls sz (els.set i vs) r else none
    | none=>none:=nr rfl
@[simp] theorem aBuildSlice_eq (len sz:Nat) (zs:List AV) (parts:List (Nat × AV)) (σ:AHeap):aBuildSlice len sz zs parts σ =
    if zs.length=sz∧len * sz≤16777216 then (aFillEls sz (List.replicate len zs) parts).map fun els=>(.own σ.next len,σ.new (.cells sz els)) else none:=nr rfl
@[simp] theorem aBuildSl_eq (len sz:Nat) (zs:List AV) (parts:List (Nat × AV)):aBuildSl len sz zs parts =
    if zs.length=sz∧len * sz≤16777216 then (aFillEls sz (List.replicate len zs) parts).map fun els=>.sl true sz els else none:=nr rfl
@[simp] theorem eqLeaves_nil:eqLeaves [] [] []=some true:=nr rfl
@[simp] theorem eqLeaves_cons (k:LK) (ks:List LK) (x y:AV) (xs ys:List AV):eqLeaves (k :: ks) (x :: xs) (y :: ys)=match eqLeaf k x y,eqLeaves ks xs ys with
    | some a,some b=>some (a && b)
    | _,_=>none:=nr rfl
@[simp] theorem aAppendZ_nil (sz bytes:Nat) (zs:List AV) (k:IntKind) (n:Int) (σ:AHeap):aAppendZ sz bytes zs (.val (.slice none 0 0)) (.val (.int k n)) σ=if 0 < n∧n.toNat * bytes≤140737488355328∧n≤140737488355328∧zs.length=sz∧0 < sz then some (.own σ.next n.toNat,σ.new (.cells sz (List.replicate n.toNat zs))) else none:=nr rfl
@[simp] theorem aBin_sn:aBin .eql .slice (.val (.slice none 0 0)) (.val (.slice none 0 0))=some (.val (.bool true)):=nr rfl
@[simp] theorem aBin_so (id n:Nat):aBin .eql .slice (.own id (n+1)) (.val (.slice none 0 0))=some (.val (.bool false)):=nr rfl
@[simp] theorem aCap0_nil (σ:AHeap):aCap0 (.val (.slice none 0 0)) σ=some (.val (.int .i64 0),σ):=nr rfl
theorem aLookup_mp {d:TypeDesc} {z:AV} {ok:Bool} {id:Nat} {x:AV} {q:MK} {σ:AHeap} {es:List (MK × AV)} (hk:asKey x=some q) (hf:keyFits d q=true) (h:σ.get id=some (.map es)) (hes:keysFit d es=true) :
    aLookup d z ok (.mp id) x σ=some (match mget es q with | some y=>if ok=true then .tup [y,.val (.bool true)] else y | none=>if ok=true then .tup [z,.val (.bool false)] else z):=by
  simp only [aLookup,hk,hf,h,hes,if_true]
  cases mget es q <;> rfl
theorem aMapUpdate_mp {d:TypeDesc} {id:Nat} {x y:AV} {q:MK} {σ:AHeap} {es:List (MK × AV)} (hk:asKey x=some q) (hf:keyFits d q=true) (h:σ.get id=some (.map es)) (hes:keysFit d es=true) :
    aMapUpdate d (.mp id) x y σ=some (σ.set id (.map (mset es q y))):=by
  simp only [aMapUpdate,hk,hf,h,hes,if_true]
theorem aMapDelete_mp {d:TypeDesc} {id:Nat} {x:AV} {q:MK} {σ:AHeap} {es:List (MK × AV)} (hk:asKey x=some q) (hf:keyFits d q=true) (h:σ.get id=some (.map es)) (hes:keysFit d es=true) :
    aMapDelete d (.mp id) x σ=some (σ.set id (.map (mdel es q))):=by
  simp only [aMapDelete,hk,hf,h,hes,if_true]
theorem wrap64 {n:Int} (h:-9223372036854775808≤n∧n≤9223372036854775807):IntKind.i64.wrap n=n:=Go.IntWalk.i64_in n h
@[simp] theorem wrap64_0:IntKind.i64.wrap 0=0:=wrap64 (by omega)
@[simp] theorem wrap64_1:IntKind.i64.wrap 1=1:=wrap64 (by omega)
structure Grows (σ τ:AHeap):Prop where
  next:σ.next≤τ.next
  get:∀ i,i < σ.next→τ.get i=σ.get i
theorem Grows.refl (σ:AHeap):Grows σ σ:=⟨Nat.le_refl _,fun _ _=>rfl⟩
theorem Grows.trans {σ τ υ:AHeap} (h:Grows σ τ) (k:Grows τ υ):Grows σ υ:=⟨Nat.le_trans h.next k.next,fun i hi=>(k.get i (Nat.lt_of_lt_of_le hi h.next)).trans (h.get i hi)⟩
theorem Grows.new (σ:AHeap) (o:AObj):Grows σ (σ.new o):=⟨Nat.le_succ _,fun i hi=>AHeap.new_ne (Nat.ne_of_lt hi)⟩
theorem Grows.set {σ τ:AHeap} (h:Grows σ τ) {i:Nat} (hi:σ.next≤i) (o:AObj):Grows σ (τ.set i o):=⟨h.next,fun j hj=>(AHeap.set_ne (by omega)).trans (h.get j hj)⟩
theorem mget_mset (es:List (MK × AV)) (q q':MK) (y:AV):mget (mset es q y) q'=if q'=q then some y else mget es q':=by
  induction es with
  | nil=>simp only [mset,mget,eq_comm (a:=q)]
  | cons p es ih =>
    obtain ⟨k,x⟩:=p
    by_cases h:k=q
    · subst h
      by_cases h':q'=k
      · subst h';simp [mset,mget]
      · simp [mset,mget,h',Ne.symm h']
    · simp only [mset,if_neg h,mget,ih]
      by_cases h':k=q'
      · subst h';simp [h]
      · simp [h']
def Uniq (es:List (MK × AV)):Prop:=(es.map (·.1)).Nodup
theorem mset_keys (es:List (MK × AV)) (q:MK) (y:AV):(mset es q y).map (·.1)=if q ∈ es.map (·.1) then es.map (·.1) else es.map (·.1) ++ [q]:=by
  induction es with
  | nil=>simp [mset]
  | cons p es ih =>
    obtain ⟨k,x⟩:=p
    by_cases h:k=q
    · subst h;simp [mset]
    · simp only [mset,if_neg h,List.map_cons,ih,List.mem_cons]
      by_cases h':q ∈ es.map (·.1)
      · rw [if_pos h',if_pos (.inr h')]
      · rw [if_neg h',if_neg (by simp [h',Ne.symm h])];rfl
theorem Uniq.mset {es:List (MK × AV)} (h:Uniq es) (q:MK) (y:AV):Uniq (mset es q y):=by
  unfold Uniq at *
  rw [mset_keys]
  split
  · exact h
  · rename_i hq
    rw [List.nodup_append]
    exact ⟨h,by simp,by intro a ha b hb;simp at hb;subst hb;intro e;subst e;exact hq ha⟩
theorem keysFit_mset {d:TypeDesc} {es:List (MK × AV)} (h:keysFit d es=true) {q:MK} (hq:keyFits d q=true) (y:AV):keysFit d (Abs.mset es q y)=true:=by
  induction es with
  | nil=>simp only [Abs.mset,keysFit,List.all_cons,List.all_nil,hq,Bool.and_self]
  | cons p es ih =>
    obtain ⟨k,x⟩:=p
    simp only [keysFit,List.all_cons,Bool.and_eq_true] at h
    by_cases e:k=q
    · simp only [Abs.mset,if_pos e,keysFit,List.all_cons,Bool.and_eq_true];exact ⟨hq,h.2⟩
    · simp only [Abs.mset,if_neg e,keysFit,List.all_cons,Bool.and_eq_true];exact ⟨h.1,ih h.2⟩
theorem mdel_sub (es:List (MK × AV)) (q:MK):(mdel es q).Sublist es:=by
  induction es with
  | nil=>simp [mdel]
  | cons p es ih =>
    obtain ⟨k,x⟩:=p
    by_cases h:k=q
    · simp [mdel,h]
    · simp only [mdel,if_neg h];exact ih.cons_cons _
theorem Uniq.mdel {es:List (MK × AV)} (h:Uniq es) (q:MK):Uniq (mdel es q):=List.Nodup.sublist ((mdel_sub es q).map _) h
theorem keysFit_mdel {d:TypeDesc} {es:List (MK × AV)} (h:keysFit d es=true) (q:MK):keysFit d (Abs.mdel es q)=true:=by
  unfold keysFit at *
  rw [List.all_eq_true] at *
  exact fun p hp=>h p ((mdel_sub es q).subset hp)
theorem mget_none {es:List (MK × AV)} {q:MK} (h:q ∉ es.map (·.1)):mget es q=none:=by
  induction es with
  | nil=>rfl
  | cons p es ih =>
    obtain ⟨k,x⟩:=p
    simp only [List.map_cons,List.mem_cons,not_or] at h
    simp [mget,Ne.symm h.1,ih h.2]
theorem mget_mdel {es:List (MK × AV)} (h:Uniq es) (q q':MK):mget (mdel es q) q'=if q'=q then none else mget es q':=by
  induction es with
  | nil=>simp [mdel,mget]
  | cons p es ih =>
    obtain ⟨k,x⟩:=p
    unfold Uniq at h
    simp only [List.map_cons,List.nodup_cons] at h
    by_cases e:k=q
    · subst e
      simp only [mdel,if_pos,mget]
      by_cases e':q'=k
      · subst e';simp [mget_none h.1]
      · simp [e',Ne.symm e']
    · simp only [mdel,if_neg e,mget,ih h.2]
      by_cases e':k=q'
      · subst e';simp [e]
      · simp [e']
theorem get_new (σ:AHeap) (o:AObj) (i:Nat):(σ.new o).get i=if i=σ.next then some o else σ.get i:=by
  by_cases h:i=σ.next
  · subst h;simp
  · rw [AHeap.new_ne h,if_neg h]
theorem get_set (σ:AHeap) (id:Nat) (o:AObj) (i:Nat):(σ.set id o).get i=if i=id then some o else σ.get i:=by
  by_cases h:i=id
  · subst h;simp
  · rw [AHeap.set_ne h,if_neg h]
theorem get_del (σ:AHeap) (id i:Nat):(σ.del id).get i=if i=id then none else σ.get i:=by
  by_cases h:i=id
  · subst h;simp
  · rw [AHeap.del_ne h,if_neg h]
theorem lt_next {a b:Nat} (h:a < b) (n:Nat):(a=b+n)=False:=by simp;omega
def PtrAt (σ:AHeap) (p:AV) (cs:List AV):Prop:=p=.ref cs∨∃ q i o el,p=.ptr q i o∧elAt σ q i=some el∧cs=el.drop o
theorem PtrAt.load {σ p cs} (h:PtrAt σ p cs) (g:Bool) (n:Nat):aLoad g n p σ=getCells g n cs:=by
  rcases h with rfl | ⟨q,i,o,el,rfl,h,rfl⟩
  · rfl
  · rw [aLoad_ptr,h];rfl
theorem PtrAt.field {σ p cs} (h:PtrAt σ p cs) (o:Nat):∃ p',aFieldAddr o p=some p'∧PtrAt σ p' (cs.drop o):=by
  rcases h with rfl | ⟨q,i,o',el,rfl,h,rfl⟩
  · exact ⟨_,rfl,.inl rfl⟩
  · exact ⟨_,rfl,.inr ⟨q,i,o'+o,el,rfl,h,by rw [List.drop_drop]⟩⟩
theorem PtrAt.nil {σ p cs} (h:PtrAt σ p cs):aNilCheck p=some p:=by
  rcases h with rfl | ⟨q,i,o',el,rfl,h,rfl⟩ <;> rfl
def Rows (σ:AHeap) (sz:Nat) (x:AV) (els:List (List AV)):Prop :=
  (x=.val (.slice none 0 0)∧els=[])∨(∃ c,x=.sl c sz els)∨∃ q rest,x=.own q els.length∧σ.get q=some (.cells sz (els ++ rest))
theorem Rows.len {σ sz x els} (h:Rows σ sz x els):aLenK .slice x σ=some (.val (.int .i64 els.length)):=by
  rcases h with ⟨rfl,rfl⟩ | ⟨c,rfl⟩ | ⟨q,rest,rfl,_⟩ <;> rfl
theorem Rows.at {σ sz x els} (h:Rows σ sz x els) {i:Nat} {el:List AV} (he:els[i]?=some el) (hl:el.length=sz) (k:IntKind) :
    ∃ p,aIndexAddr sz x (.val (.int k i)) σ=some p∧PtrAt σ p el:=by
  have hi:=(List.getElem?_eq_some_iff.1 he).1
  rcases h with ⟨rfl,rfl⟩ | ⟨c,rfl⟩ | ⟨q,rest,rfl,hq⟩
  · simp at hi
  · exact ⟨.ref el,by rw [aIndexAddr_sl];simp [he],.inl rfl⟩
  · have:elAt σ q i=some el:=by rw [elAt_cells hq,List.getElem?_append_left hi,he]
    exact ⟨.ptr q i 0,by simp only [aIndexAddr];rw [if_pos ⟨by omega,by omega⟩];simp only [Int.toNat_natCast,this,Option.bind_some,hl,if_true],.inr ⟨q,i,0,el,rfl,this,rfl⟩⟩
theorem Rows.elsOf {σ sz x els} (h:Rows σ sz x els):Abs.elsOf sz x σ=some els:=by
  rcases h with ⟨rfl,rfl⟩ | ⟨c,rfl⟩ | ⟨q,rest,rfl,hq⟩
  · rfl
  · simp [Abs.elsOf]
  · simp [Abs.elsOf,hq]
def gone (x:AV) (σ:AHeap):AHeap :=
  match x with
  | .own q _=>σ.del q
  | _=>σ
theorem aAppend_rows {σ sz by' x y xs ys} (hx:Rows σ sz x xs) (hn:∀ c,x ≠ .sl c sz xs) (hy:Rows σ sz y ys) (hb:(xs.length+ys.length) * by'≤140737488355328∧xs.length+ys.length≤140737488355328) :
    aAppend sz by' x y σ=some (.own σ.next (xs.length+ys.length),(gone x σ).new (.cells sz (xs ++ ys))):=by
  unfold aAppend
  rw [hx.elsOf,hy.elsOf]
  simp only [hb,and_self,if_true]
  rcases hx with ⟨rfl,rfl⟩ | ⟨c,rfl⟩ | ⟨q,rest,rfl,hq⟩
  · rfl
  · exact absurd rfl (hn c)
  · rfl
@[simp] theorem gone_next (x:AV) (σ:AHeap):(gone x σ).next=σ.next:=by cases x <;> rfl
end Go.Abs
namespace Go.Abs
open Go Go.RowKit
theorem Ext.below {ρ' σ' w w'} (h:Ext (fun _=>none) AHeap.empty w ρ' σ' w'):Below w.heap.size w w' :=
  ⟨h.os,h.tape,h.output,h.size,fun k hk=>(h.le.imm k ⟨hk,fun _ _ _ ho=>by simp [AHeap.empty] at ho⟩).2⟩
theorem Sim.empty (w:World):Sim (fun _=>none) AHeap.empty w :=
  ⟨fun _ _=>rfl,fun _ _ h=>by simp [AHeap.empty] at h,fun _ _ _ _ _ _ _ h=>by simp [AHeap.empty] at h⟩
inductive DV (P:Program):TypeId→List AV→Prop
  | int {t k n} (h:P.underlying t=some (.int k)) (hw:(Lit.int k n).wf=true):DV P t [.val (.int k n)]
  | bool {t b} (h:P.underlying t=some .bool):DV P t [.val (.bool b)]
  | str {t s} (h:P.underlying t=some .string) (hs:s.size≤maxLen):DV P t [.val (.string s)]
  | slice {t e xs} (h:P.underlying t=some (.slice e)) (hl:xs.length≤maxLen) (hx:∀ el ∈ xs,DV P e el) (hz:∀ el ∈ xs,el.length=P.cellsOf e):DV P t [.sl false (P.cellsOf e) xs]
  | nilp {t e} (h:P.underlying t=some (.pointer e)):DV P t [.val (.pointer none)]
  | ptr {t e cs} (h:P.underlying t=some (.pointer e)) (hx:DV P e cs) (hz:cs.length=P.cellsOf e):DV P t [.ref cs]
  | struct {t cs} {fs:Array Field} (h:P.underlying t=some (.struct fs)) (hl:cs.length=P.cellsOf t) (hf:∀ (i:Nat) (f:Field),fs[i]?=some f→DV P f.type ((cs.drop f.offset).take (P.cellsOf f.type))):DV P t cs
def tileB (P:Program) (n:Nat):List Field→Nat→Bool
  | [],o=>decide (o=n)
  | f :: fs,o=>decide (f.offset=o) && tileB P n fs (o+P.cellsOf f.type)
def closedB (P:Program) (S:List TypeId):Bool:=S.all fun t=>match P.underlying t with
  | some (.int _)=>true
  | some .bool=>true
  | some .string=>true
  | some (.slice e)=>decide (e ∈ S) && decide (0 < P.cellsOf e)
  | some (.pointer e)=>decide (e ∈ S) && decide (0 < P.cellsOf e)
  | some (.struct fs)=>tileB P (P.cellsOf t) fs.toList 0 && fs.toList.all fun f=>decide (f.type ∈ S)
  | _=>false
def Cells (c:Ctx) (els:List AV) (cs:List Value):Prop:=els.length=cs.length∧∀ (i:Nat) (a:AV) v,els[i]?=some a→cs[i]?=some v→VRel c a v∧v.oneCell'=true
theorem Cells.append {c els els' cs cs'} (h:Cells c els cs) (h':Cells c els' cs'):Cells c (els ++ els') (cs ++ cs'):=by
  refine ⟨by simp [h.1,h'.1],fun i a v ha hv=>?_⟩
  rw [List.getElem?_append] at ha hv
  rw [h.1] at ha
  split at ha
  · rename_i hi;rw [if_pos hi] at hv;exact h.2 i a v ha hv
  · rename_i hi;rw [if_neg hi] at hv;exact h'.2 _ a v ha hv
theorem tile {P:Program} {c:Ctx} {n:Nat}:∀ (fs:List Field) (o:Nat) (cs:List Value),tileB P n fs o=true→cs.length+o=n →
    (∀ f ∈ fs,o≤f.offset→∃ els,Cells c els ((cs.drop (f.offset - o)).take (P.cellsOf f.type))∧DV P f.type els) →
    ∃ els,Cells c els cs∧∀ f ∈ fs,o≤f.offset∧DV P f.type ((els.drop (f.offset - o)).take (P.cellsOf f.type))
  | [],o,cs,ht,hl,_=>by
    simp only [tileB,decide_eq_true_eq] at ht
    have:cs=[]:=List.length_eq_zero_iff.1 (by omega)
    subst this
    exact ⟨[],⟨rfl,by simp⟩,by simp⟩
  | f :: fs,o,cs,ht,hl,hf=>by
    simp only [tileB,Bool.and_eq_true,decide_eq_true_eq] at ht
    obtain ⟨e1,ht⟩:=ht
    obtain ⟨els1,h1,d1⟩:=hf f (by simp) (by omega)
    rw [e1,Nat.sub_self,List.drop_zero] at h1
    have hmono:∀ (fs:List Field) (o:Nat),tileB P n fs o=true→o≤n∧∀ g ∈ fs,o≤g.offset:=by
      intro fs
      induction fs with
      | nil=>intro o h;simp only [tileB,decide_eq_true_eq] at h;exact ⟨by omega,by simp⟩
      | cons g fs ih =>
        intro o h
        simp only [tileB,Bool.and_eq_true,decide_eq_true_eq] at h
        obtain ⟨a,b⟩:=ih _ h.2
        refine ⟨by omega,fun g' hg'=>?_⟩
        rcases List.mem_cons.1 hg' with rfl | h'
        · omega
        · have:=b g' h';omega
    obtain ⟨hn,hoff⟩:=hmono fs _ ht
    obtain ⟨els2,h2,d2⟩:=tile fs (o+P.cellsOf f.type) (cs.drop (P.cellsOf f.type)) ht (by simp;omega) (by
      intro g hg hgo
      obtain ⟨els,a,b⟩:=hf g (by simp [hg]) (by omega)
      refine ⟨els,?_,b⟩
      rw [List.drop_drop,show P.cellsOf f.type+(g.offset - (o+P.cellsOf f.type))=g.offset - o by omega]
      exact a)
    have hl1:els1.length=P.cellsOf f.type:=by rw [h1.1,List.length_take];omega
    refine ⟨els1 ++ els2,?_,?_⟩
    · have:=h1.append h2
      rwa [List.take_append_drop] at this
    · intro g hg
      rcases List.mem_cons.1 hg with rfl | hg'
      · refine ⟨by omega,?_⟩
        rw [e1,Nat.sub_self,List.drop_zero,List.take_append_of_le_length (by omega),List.take_of_length_le (by omega)]
        exact d1
      · obtain ⟨a,b⟩:=d2 g hg'
        refine ⟨by omega,?_⟩
        rw [show g.offset - o=els1.length+(g.offset - (o+P.cellsOf f.type)) by omega,← List.drop_drop,List.drop_left]
        exact b
theorem dv_of_trod {H:Type} {enc:TypeId × Value→H} {P:Program} {S:List TypeId} (hS:closedB P S=true) {w:World} {held:Bool} {c:Ctx} (hh:c.h=w.heap) (hi:∀ b,b < w.heap.size→c.imm b) :
    ∀ (fuel:Nat) (t:TypeId) (cs:List Value) x,t ∈ S→DataW.trod enc P w 0 (fun _=>true) held fuel t cs=some x→∃ els,Cells c els cs∧DV P t els:=by
  intro fuel
  induction fuel with
  | zero=>intro t cs x _ h;simp [DataW.trod] at h
  | succ fuel ih =>
    intro t cs x ht h
    have hc:=List.all_eq_true.1 hS t ht
    have hrow:∀ (a:Addr) (n:Nat) (vs:List Value),w.cells? 0 a n=some vs→∀ els,Cells c els vs→0 < n→a.spot=none∧c.imm a.block∧∀ j,j < n→cellOf c.h a.block (a.off+j)=vs[j]?:=by
      intro a n vs hv els hels hn
      obtain ⟨_,hl,hcell⟩:=World.cells?_some hv
      have hb:=World.cells?_block hv hn
      have h0:=hcell 0 hn
      obtain ⟨v0,hv0⟩:∃ v,vs[0]?=some v:=⟨_,List.getElem?_eq_getElem (by omega)⟩
      have hs:a.spot=none:=by simpa [Addr.add] using World.cell?_spot (h0.trans hv0)
      refine ⟨hs,hi _ hb,fun j hj=>?_⟩
      rw [hh,← cell_eq,← hcell j hj]
      obtain ⟨b,o,sp⟩:=a
      simp only at hs
      subst hs
      by_cases hj0:j=0
      · subst hj0;rfl
      · simp [Addr.add,hj0]
    split at hc
    · rename_i k hu
      obtain ⟨n,rfl,_,hw⟩:=DataW.trod_int hu h
      exact ⟨[.val (.int k n)],⟨rfl,fun i a v ha hv=>by cases i <;> simp at ha hv;subst ha;subst hv;exact ⟨.val _,rfl⟩⟩,.int hu hw⟩
    · rename_i hu
      obtain ⟨b,rfl,_⟩:=DataW.trod_bool hu h
      exact ⟨[.val (.bool b)],⟨rfl,fun i a v ha hv=>by cases i <;> simp at ha hv;subst ha;subst hv;exact ⟨.val _,rfl⟩⟩,.bool hu⟩
    · rename_i hu
      obtain ⟨s,rfl,_,hs⟩:=DataW.trod_string hu h
      exact ⟨[.val (.string s)],⟨rfl,fun i a v ha hv=>by cases i <;> simp at ha hv;subst ha;subst hv;exact ⟨.val _,rfl⟩⟩,.str hu hs⟩
    · rename_i e hu
      obtain ⟨he,hpos⟩:e ∈ S∧0 < P.cellsOf e:=by simpa using hc
      rcases DataW.trod_slice hu h with ⟨rfl,_⟩ | ⟨a,len,cap,elems,rest,n,hn,rfl,_,_,hlc,hcm,hel,helem,_,_⟩
      · exact ⟨[.sl false (P.cellsOf e) []],⟨rfl,fun i a v ha hv=>by
          cases i <;> simp at ha hv;subst ha;subst hv
          exact ⟨.sl (fun _ _=>undef) rfl (fun _=>⟨rfl,rfl⟩) (Nat.le_refl _) (by simp) (by simp) (by simp),rfl⟩⟩,.slice hu (by simp) (by simp) (by simp)⟩
      · cases hn
        have hall:∀ i,i < len→∃ vs els,w.cells? 0 (a.add (i * P.cellsOf e)) (P.cellsOf e)=some vs∧Cells c els vs∧DV P e els:=by
          intro i hlt
          have h1:=helem i hlt
          obtain ⟨y,hy⟩:∃ y,elems[i]?=some y:=⟨_,List.getElem?_eq_getElem (by omega)⟩
          rw [hy] at h1
          obtain ⟨vs,h2,h3⟩:=Option.bind_eq_some_iff.1 h1
          obtain ⟨els,h4,h5⟩:=ih e vs y he h3
          exact ⟨vs,els,h2,h4,h5⟩
        have hch:∃ (fv:Nat→List Value) (fe:Nat→List AV),∀ i,i < len→w.cells? 0 (a.add (i * P.cellsOf e)) (P.cellsOf e)=some (fv i)∧Cells c (fe i) (fv i)∧DV P e (fe i):=by
          refine ⟨fun i=>if h:i < len then (hall i h).choose else [],fun i=>if h:i < len then (hall i h).choose_spec.choose else [],fun i hlt=>?_⟩
          simp only [dif_pos hlt]
          exact (hall i hlt).choose_spec.choose_spec
        obtain ⟨fv,fe,hf⟩:=hch
        have hfl:∀ i,i < len→(fe i).length=P.cellsOf e:=fun i hlt=>by
          obtain ⟨h1,h2,_⟩:=hf i hlt
          rw [h2.1];exact (World.cells?_some h1).2.1
        have hmem:∀ el ∈ (List.range len).map fe,∃ i,i < len∧el=fe i:=by
          intro el hm
          obtain ⟨i,hi1,hi2⟩:=List.mem_map.1 hm
          exact ⟨i,List.mem_range.1 hi1,hi2.symm⟩
        have hgi:∀ i el,((List.range len).map fe)[i]?=some el→i < len∧el=fe i:=by
          intro i el hg
          simp only [List.getElem?_map,Option.map_eq_some_iff] at hg
          obtain ⟨q,hq,rfl⟩:=hg
          have:=(List.getElem?_eq_some_iff.1 hq)
          obtain ⟨h1,h2⟩:=this
          simp at h1 h2
          subst h2
          exact ⟨h1,rfl⟩
        have hsp:(∀ i,i < len→0 < P.cellsOf e→a.spot=none∧c.imm a.block∧∀ j,j < P.cellsOf e→cellOf c.h a.block (a.off+i * P.cellsOf e+j)=(fv i)[j]?):=by
          intro i hlt hpos
          obtain ⟨h1,h2,_⟩:=hf i hlt
          have:=hrow _ _ _ h1 _ h2 hpos
          by_cases hi0:i * P.cellsOf e=0
          · simpa [Addr.add,hi0] using this
          · obtain ⟨g1,g2,_⟩:=hf 0 (by omega)
            have h0:=hrow _ _ _ g1 _ g2 hpos
            simp [Addr.add] at h0
            refine ⟨h0.1,?_⟩
            simpa [Addr.add,hi0] using this
        by_cases hz:len=0
        · subst hz
          exact ⟨[.sl false (P.cellsOf e) []],⟨rfl,fun i x v hx hv=>by
            cases i <;> simp at hx hv;subst hx;subst hv
            exact ⟨.sl (fun _ _=>undef) rfl (fun h=>by cases h) hlc (by simp) (by simp) (by simp),rfl⟩⟩,.slice hu (by simp) (by simp) (by simp)⟩
        · refine ⟨[.sl false (P.cellsOf e) ((List.range len).map fe)],⟨rfl,fun i x v hx hv=>?_⟩,.slice hu (by simp;omega) ?_ ?_⟩
          · cases i <;> simp at hx hv
            subst hx;subst hv
            have h0:=hsp 0 (by omega) (by omega)
            obtain ⟨b,o,sp⟩:=a
            obtain ⟨hs0,himm,_⟩:=h0
            simp only at hs0
            subst hs0
            refine ⟨.sl (fun i j=>(fv i)[j]?.getD undef) (by simp) (fun h=>by cases h) hlc (by simp) ?_ ?_,rfl⟩
            · intro i el he'
              obtain ⟨hlt,rfl⟩:=hgi i el he'
              refine ⟨hfl i hlt,b,o,rfl,himm,fun j hj=>?_⟩
              have h3:=(hsp i hlt (by omega)).2.2 j hj
              obtain ⟨h1,h2,_⟩:=hf i hlt
              have hvl:(fv i).length=P.cellsOf e:=(World.cells?_some h1).2.1
              obtain ⟨v,hv⟩:∃ v,(fv i)[j]?=some v:=⟨_,List.getElem?_eq_getElem (by omega)⟩
              obtain ⟨y,hy⟩:∃ y,(fe i)[j]?=some y:=⟨_,List.getElem?_eq_getElem (by rw [hfl i hlt];omega)⟩
              rw [hv] at h3 ⊢
              exact ⟨h3,(h2.2 j y v hy hv).2⟩
            · intro i el j x he' hx
              obtain ⟨hlt,rfl⟩:=hgi i el he'
              obtain ⟨h1,h2,_⟩:=hf i hlt
              have hvl:(fv i).length=P.cellsOf e:=(World.cells?_some h1).2.1
              have hj:j < P.cellsOf e:=by rw [← hfl i hlt];exact (List.getElem?_eq_some_iff.1 hx).1
              obtain ⟨v,hv⟩:∃ v,(fv i)[j]?=some v:=⟨_,List.getElem?_eq_getElem (by omega)⟩
              rw [hv]
              exact (h2.2 j x v hx hv).1
          · intro el hm
            obtain ⟨i,hlt,rfl⟩:=hmem el hm
            exact (hf i hlt).2.2
          · intro el hm
            obtain ⟨i,hlt,rfl⟩:=hmem el hm
            exact hfl i hlt
    · rename_i e hu
      obtain ⟨he,hpos⟩:e ∈ S∧0 < P.cellsOf e:=by simpa using hc
      rcases DataW.trod_pointer hu h with ⟨rfl,_⟩ | ⟨a,vs,y,n,hn,rfl,_,h1,h2⟩
      · exact ⟨[.val (.pointer none)],⟨rfl,fun i a v ha hv=>by cases i <;> simp at ha hv;subst ha;subst hv;exact ⟨.val _,rfl⟩⟩,.nilp hu⟩
      · cases hn
        obtain ⟨els,h4,h5⟩:=ih e vs y he h2
        obtain ⟨hs,himm,hcell⟩:=hrow _ _ _ h1 _ h4 hpos
        have hvl:vs.length=P.cellsOf e:=(World.cells?_some h1).2.1
        have hel:els.length=P.cellsOf e:=by rw [h4.1,hvl]
        obtain ⟨b,o,sp⟩:=a
        simp only at hs
        subst hs
        refine ⟨[.ref els],⟨rfl,fun i x v hx hv=>?_⟩,.ptr hu h5 hel⟩
        cases i <;> simp at hx hv
        subst hx;subst hv
        refine ⟨.ref (fun j=>vs[j]?.getD undef) himm (fun j hj=>?_) (fun j x hx=>?_),rfl⟩
        · obtain ⟨v,hv⟩:∃ v,vs[j]?=some v:=⟨_,List.getElem?_eq_getElem (by omega)⟩
          obtain ⟨y,hy⟩:∃ y,els[j]?=some y:=⟨_,List.getElem?_eq_getElem hj⟩
          have h3:=hcell j (by omega)
          rw [hv] at h3 ⊢
          exact ⟨h3,(h4.2 j y v hy hv).2⟩
        · have hj:=(List.getElem?_eq_some_iff.1 hx).1
          obtain ⟨v,hv⟩:∃ v,vs[j]?=some v:=⟨_,List.getElem?_eq_getElem (by omega)⟩
          rw [hv]
          exact (h4.2 j x v hx hv).1
    · rename_i fs hu
      simp only [Bool.and_eq_true,List.all_eq_true,decide_eq_true_eq] at hc
      obtain ⟨xs,n,hn,_,hl,hxl,hfs⟩:=DataW.trod_struct hu h
      cases hn
      obtain ⟨els,h1,h2⟩:=tile fs.toList 0 cs hc.1 (by omega) (c:=c) (fun f hf _=>by
        obtain ⟨i,hi1,hi2⟩:=List.getElem_of_mem hf
        have hfi:fs[i]?=some f:=by
          rw [Array.getElem?_eq_some_iff];exact ⟨by simpa using hi1,by simpa using hi2⟩
        have h3:=hfs i f hfi
        obtain ⟨y,hy⟩:∃ y,xs[i]?=some y:=⟨_,List.getElem?_eq_getElem (by rw [hxl];simpa using hi1)⟩
        rw [hy] at h3
        obtain ⟨els,a,b⟩:=ih f.type _ y (hc.2 f hf) h3
        exact ⟨els,by simpa using a,b⟩)
      refine ⟨els,h1,.struct hu (by rw [h1.1,hl]) fun i f hf=>?_⟩
      have:=(h2 f (by obtain ⟨hlt,rfl⟩:=Array.getElem?_eq_some_iff.1 hf;simp)).2
      simpa using this
    · simp at hc
theorem arg_of_trod {H:Type} {enc:TypeId × Value→H} {P:Program} {S:List TypeId} (hS:closedB P S=true) {w:World} {held:Bool} {t:TypeId} {v:Value} {d:DataW H} {ps:List MemPlace} (ht:t ∈ S)
    (h1:v.oneCell'=true) (h:DataW.Trod enc P w 0 (fun _=>true) held t v d ps):∃ x,VRel (ctx (fun _=>none) AHeap.empty w) x v∧DV P t [x]:=by
  obtain ⟨fuel,hf⟩:=h
  obtain ⟨els,h2,h3⟩:=dv_of_trod hS (c:=ctx (fun _=>none) AHeap.empty w) rfl (fun b hb=>⟨hb,fun _ _ _ ho=>by simp [AHeap.empty] at ho⟩) fuel t _ _ ht hf
  rw [cells_one h1] at h2
  obtain ⟨x,rfl⟩:=List.length_eq_one_iff.1 h2.1
  exact ⟨x,(h2.2 0 x v rfl rfl).1,h3⟩
theorem arg_of_struct {H:Type} {enc:TypeId × Value→H} {P:Program} {S:List TypeId} (hS:closedB P S=true) {w:World} {held:Bool} {t:TypeId} {cs:Array Value} {d:DataW H} {ps:List MemPlace} (ht:t ∈ S)
    (h:DataW.Trod enc P w 0 (fun _=>true) held t (.agg cs) d ps):∃ els,VRel (ctx (fun _=>none) AHeap.empty w) (.agg els) (.agg cs)∧DV P t els:=by
  obtain ⟨fuel,hf⟩:=h
  obtain ⟨els,h2,h3⟩:=dv_of_trod hS (c:=ctx (fun _=>none) AHeap.empty w) rfl (fun b hb=>⟨hb,fun _ _ _ ho=>by simp [AHeap.empty] at ho⟩) fuel t _ _ ht hf
  refine ⟨els,?_,h3⟩
  simp only [Value.cells] at h2
  refine .agg (by simpa using h2.1) (fun i v hv=>?_) (fun i x v hx hv=>(h2.2 i x v hx (by simpa using hv)).1)
  obtain ⟨x,hx⟩:∃ x,els[i]?=some x:=⟨_,List.getElem?_eq_getElem (by have:=(Array.getElem?_eq_some_iff.1 hv).1;have:=h2.1;simp at this;omega)⟩
  exact (h2.2 i x v hx (by simpa using hv)).2
theorem calls_of_law {P:Program} {f:FuncId} {xs:List AV} {vs:Array Value} {w:World} (hr:ArgsRel (ctx (fun _=>none) AHeap.empty w) xs vs)
    (hc:Callable P f) (h:Ev P f xs AHeap.empty (fun x _=>x=.val (.bool true)) (fun _ _=>False)):Calls P f vs w fun e w'=>e=.returned (.bool true)∧Below w.heap.size w w':=by
  refine ((h _ w vs (Sim.empty w) hr).calls hc).mono ?_
  rintro e w' ⟨ρ',σ',he,_,hp⟩
  cases e with
  | returned v=>obtain ⟨x,rfl,hv⟩:=hp;cases hv;exact ⟨rfl,he.below⟩
  | panicked chain=>obtain ⟨x,v,_,hf,_⟩:=hp;exact hf.elim
  | outgrown=>exact hp.elim
inductive FK where
  | i (k:IntKind) | b | s
def FkOk:FK→AV→Prop
  | .i k,x=>∃ n,x=.val (.int k n)∧(Lit.int k n).wf=true
  | .b,x=>∃ b,x=.val (.bool b)
  | .s,x=>∃ s,x=.val (.string s)∧s.size≤maxLen
def FlatOk:List FK→List AV→Prop
  | [],xs=>xs=[]
  | k :: ks,xs=>∃ x r,xs=x :: r∧FkOk k x∧FlatOk ks r
def flatS (P:Program) (rec:TypeId→Option (List FK)):List Field→Nat→Option (List FK)
  | [],_=>some []
  | f :: fs,o=>if f.offset=o then match rec f.type with
      | some l=>if l.length=P.cellsOf f.type then (flatS P rec fs (o+l.length)).map (l ++ ·) else none
      | none=>none
    else none
def flat (P:Program):Nat→TypeId→Option (List FK)
  | 0,_=>none
  | d+1,t=>match P.underlying t with
    | some (.int k)=>some [.i k]
    | some .bool=>some [.b]
    | some .string=>some [.s]
    | some (.struct fs)=>match flatS P (flat P d) fs.toList 0 with
      | some l=>if l.length=P.cellsOf t then some l else none
      | none=>none
    | _=>none
theorem FlatOk.len:∀ {ks xs},FlatOk ks xs→xs.length=ks.length
  | [],xs,h=>by simp only [FlatOk] at h;subst h;rfl
  | k :: ks,xs,h=>by obtain ⟨x,r,rfl,_,h⟩:=h;simp [FlatOk.len h]
theorem FlatOk.append:∀ {ks ls xs ys},FlatOk ks xs→FlatOk ls ys→FlatOk (ks ++ ls) (xs ++ ys)
  | [],ls,xs,ys,h,h'=>by simp only [FlatOk] at h;subst h;exact h'
  | k :: ks,ls,xs,ys,h,h'=>by
    obtain ⟨x,r,rfl,h1,h2⟩:=h
    exact ⟨x,r ++ ys,rfl,h1,FlatOk.append h2 h'⟩
theorem flatS_spec {P:Program} {rec:TypeId→Option (List FK)}:∀ (fs:List Field) (o:Nat) (ks:List FK) (cs:List AV),flatS P rec fs o=some ks→cs.length=ks.length →
    (∀ f ∈ fs,∀ l,rec f.type=some l→o≤f.offset→FlatOk l ((cs.drop (f.offset - o)).take (P.cellsOf f.type)))→FlatOk ks cs
  | [],o,ks,cs,h,hl,_=>by
    simp only [flatS,Option.some.injEq] at h
    subst h
    exact List.length_eq_zero_iff.1 (by simpa using hl)
  | f :: fs,o,ks,cs,h,hl,hf=>by
    simp only [flatS] at h
    split at h
    · rename_i e
      split at h
      · rename_i l hr
        split at h
        · rename_i hn
          obtain ⟨m,hm,rfl⟩:=Option.map_eq_some_iff.1 h
          have h1:=hf f (by simp) l hr (by omega)
          rw [e,Nat.sub_self,List.drop_zero,← hn] at h1
          have h2:=flatS_spec fs (o+l.length) m (cs.drop l.length) hm (by simp at hl ⊢;omega) (by
            intro g hg l' hr' ho
            have:=hf g (by simp [hg]) l' hr' (by omega)
            rw [List.drop_drop,show l.length+(g.offset - (o+l.length))=g.offset - o by omega]
            exact this)
          have:=h1.append h2
          rwa [List.take_append_drop] at this
        · cases h
      · cases h
    · cases h
theorem flat_spec {P:Program}:∀ (d:Nat) (t:TypeId) (ks:List FK) (cs:List AV),flat P d t=some ks→DV P t cs→FlatOk ks cs
  | 0,_,_,_,h,_=>by simp [flat] at h
  | d+1,t,ks,cs,h,hd=>by
    unfold flat at h
    cases hd with
    | int hu hw=>rw [hu] at h;cases h;exact ⟨_,_,rfl,⟨_,rfl,hw⟩,rfl⟩
    | bool hu=>rw [hu] at h;cases h;exact ⟨_,_,rfl,⟨_,rfl⟩,rfl⟩
    | str hu hs=>rw [hu] at h;cases h;exact ⟨_,_,rfl,⟨_,rfl,hs⟩,rfl⟩
    | slice hu=>rw [hu] at h;cases h
    | nilp hu=>rw [hu] at h;cases h
    | ptr hu=>rw [hu] at h;cases h
    | struct hu hl hf =>
      rename_i fs
      rw [hu] at h
      simp only at h
      split at h
      · rename_i l hs
        split at h
        · rename_i hn
          cases h
          refine flatS_spec fs.toList 0 ks cs hs (by rw [hl,hn]) ?_
          intro f hm l' hr _
          obtain ⟨i,hi1,hi2⟩:=List.getElem_of_mem hm
          have hfi:fs[i]?=some f:=by
            rw [Array.getElem?_eq_some_iff];exact ⟨by simpa using hi1,by simpa using hi2⟩
          exact flat_spec d f.type l' _ hr (by simpa using hf i f hfi)
        · cases h
      · cases h
theorem DV.slice_inv {P:Program} {t e:TypeId} {cs:List AV} (h:DV P t cs) (hu:P.underlying t=some (.slice e)):∃ xs,cs=[.sl false (P.cellsOf e) xs]∧xs.length≤maxLen∧∀ el ∈ xs,DV P e el∧el.length=P.cellsOf e:=by
  cases h with
  | int h=>rw [hu] at h;cases h
  | bool h=>rw [hu] at h;cases h
  | str h=>rw [hu] at h;cases h
  | slice h hl hx hz =>
    rename_i e' xs
    rw [hu] at h
    simp only [Option.some.injEq,TypeDesc.slice.injEq] at h
    subst h
    exact ⟨xs,rfl,hl,fun el he=>⟨hx el he,hz el he⟩⟩
  | nilp h=>rw [hu] at h;cases h
  | ptr h=>rw [hu] at h;cases h
  | struct h=>rw [hu] at h;cases h
theorem okWide_struct_agg {P:Program} {w:World} {r:Reach} {base:Nat} {t:TypeId} {v:Value} {fs:Array Field} (hu:P.underlying t=some (.struct fs)) (h:Value.okWide P w r base t v):∃ cs,v=.agg cs:=by
  simp only [Value.okWide,hu] at h
  exact h.imp fun _ h=>h.1
end Go.Abs
namespace Go.Abs
open Go
theorem argsRel_three {c:Ctx} {x0 v0 x1 v1 x2 v2} (h0:VRel c x0 v0) (h1:VRel c x1 v1) (h2:VRel c x2 v2):ArgsRel c [x0,x1,x2] #[v0,v1,v2]:=⟨rfl,fun i y u hy hu=>by
  match i with
  | 0=>simp at hy hu;subst hy;subst hu;exact h0
  | 1=>simp at hy hu;subst hy;subst hu;exact h1
  | 2=>simp at hy hu;subst hy;subst hu;exact h2
  | i+3=>simp at hy⟩
end Go.Abs
