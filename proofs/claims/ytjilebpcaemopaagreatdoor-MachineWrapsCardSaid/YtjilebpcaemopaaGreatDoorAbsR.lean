import Derived.Test.YtjilebpcaemopaaGreatDoorAbsK
import Derived.Recover
set_option linter.unusedVariables false
set_option linter.unusedSimpArgs false
namespace Go.Abs
open Go
def iD (P:Program) (keepg:Nat→List Nat) (restg:Code) (r:Nat) (g:Bool) (n:Nat) (k:AV→ah→Prop) (x y:AV) (σ:ah):Prop:=
 aw P keepg restg {n:=fun _ σ=>∃z,aj g n x σ=some z∧k z σ,ex:=fun _ _ _=>False,ret:=fun _ σ=>∃z,aj g n x σ=some z∧k z σ,pa:=fun _ _=>False} (put (dj 0 [x]) (some r) y) σ
section
variable {P:Program} (hmix:P.follows .mixedOrders=true) {g:FuncId} {gn:Func} {idg:Nat} {restg:Code} {r:Nat} {tyr:TypeId} {posr:String} {afr:Array Edge}
 (hg:P.funcs[g]?=some gn) (hgb:gn.body=some (.seq (.region idg #[{dst:=some r,op:=.call {callee:=.builtin .recover,args:=#[],argTypes:=#[]},type:=tyr,pos:=posr,after:=afr,guard:=none}] false) restg))
 (hgr:gn.results= #[]) (hgn:1≤gn.ntmps) (hrl:r<gn.ntmps) (keepg:Nat→List Nat) (hgok:codeOk keepg gn.ntmps restg=true)
include hmix hg hgb hgr hgn hrl hgok
theorem sf {ρ σ w} (hs:Sim ρ σ w) {x y:AV} {vx vy:Value} (hx:aL (ctx ρ σ w) x vx) (hy:aL (ctx ρ σ w) y vy) {gg:Bool} {n:Nat} {k:AV→ah→Prop} (u:FrameMode) (u':FrameMode)
 (hu:∀(c₀:Frame) (cs:List Frame),c₀.mode=u→(match recoverD (c₀::cs) with | some (v,cs')=>v=vy∧cs'= {c₀ with mode:=u'}::cs | none=>vy= .nilIface∧u'=u))
 (h:iD P keepg restg r gg n k x y σ):CallsD P g #[vx] u w fun e v w'=>∃ρ' σ',Ext ρ σ w ρ' σ' w'∧Sim ρ' σ' w'∧v=u'∧(∃q,e= .returned q)∧∃z,aj gg n x σ'=some z∧k z σ':=by
 refine callsD_of_wpS hg hgb fun c₀ cs hc=> ?_
 refine wpS_seq (wpS_region ?_)
 have h0:=hu c₀ cs hc
 have fin:∀(cs':List Frame),cs'= {c₀ with mode:=u'}::cs→restg.wpS P (bodyPostS P gn c₀ cs fun e v w'=>∃ρ' σ',Ext ρ σ w ρ' σ' w'∧Sim ρ' σ' w'∧v=u'∧(∃q,e= .returned q)∧∃z,aj gg n x σ'=some z∧k z σ') (({tmps:=#[vx]++Array.replicate (gn.ntmps - 1) undef,defers:=[]}:Act).put (some r) vy) cs' w:=by
  intro cs' hcs
  refine wpS_of_wp ?_
  have hst:St (fun a=>a.defers= []) ρ σ w gn.ntmps ρ σ w (put (dj 0 [x]) (some r) y) (({tmps:=#[vx]++Array.replicate (gn.ntmps - 1) undef,defers:=[]}:Act).put (some r) vy):=by
   refine⟨Ext.refl _ _ _,hs,?_,?_,by rw[put_defers]⟩
   ·refine dZ.put (a:={tmps:=#[vx]++Array.replicate (gn.ntmps - 1) undef,defers:=[]}) ?_ hy ?_
    ·intro q
     rw[fM]
     simp only[Nat.zero_le,if_true,Nat.sub_zero]
     cases q with
     | zero=>
      have:(#[vx]++Array.replicate (gn.ntmps - 1) undef).getD 0 undef=vx:=by simp[Array.getD_eq_getD_getElem?,Array.getElem?_append]
      show aL _ x ((#[vx]++Array.replicate (gn.ntmps - 1) undef).getD 0 undef)
      rw[this];exact hx
     | succ q=>exact .any _
    ·intro k hk
     cases hk
     simp;omega
   ·rw[oX];simp;omega
  refine wp_mono (cQ hmix (DOk.plain _) restg hgok _ ρ σ w ρ σ w _ _ hst h) ?_
  rintro e a' w' ⟨ρ',σ',fr',hst',hk⟩
  have hres:∀tm:Array Value,∃v,(results gn tm).run P w'= .ok v w':=fun tm=>⟨.tuple #[],by simp[results,hgr]⟩
  cases e with
  | normal=>exact⟨hst'.defers,u',hcs,(hres _).choose,(hres _).choose_spec,ρ',σ',hst'.ext,hst'.sim,rfl,⟨_,rfl⟩,hk⟩
  | ret=>exact⟨hst'.defers,u',hcs,(hres _).choose,(hres _).choose_spec,ρ',σ',hst'.ext,hst'.sim,rfl,⟨_,rfl⟩,hk⟩
  | exit id=>exact hk.elim
  | goto l=>exact hk.elim
  | panic ch=>obtain⟨_,_,_,_,hk⟩:=hk;exact hk.elim
  | outgrown=>exact hk.elim
 have hrun:∀(a:Act) (o:Oper),o.op= .call {callee:=.builtin .recover,args:=#[],argTypes:=#[]}→(execOp a.eval o).run P w= .ok .recover w:=by
  intro a o ho
  simp[execOp,ho,resolve,invoke,builtin]
 show wpOpsS P _ _ [0] _ _ _
 unfold wpOpsS
 have e0:(#[({dst:=some r,op:=.call {callee:=.builtin .recover,args:=#[],argTypes:=#[]},type:=tyr,pos:=posr,after:=afr,guard:=none}:Oper)]:Array Oper)[0]?=some {dst:=some r,op:=.call {callee:=.builtin .recover,args:=#[],argTypes:=#[]},type:=tyr,pos:=posr,after:=afr,guard:=none}:=rfl
 rw[e0]
 simp only
 rw[if_pos (by rfl),hrun _ _ rfl]
 simp only
 cases hrec:recoverD (c₀::cs) with
 | some p=>
  obtain⟨v,cs'⟩:=p
  rw[hrec]at h0
  obtain⟨rfl,hcs⟩:=h0
  exact fin cs' hcs
 | none=>
  rw[hrec]at h0
  obtain⟨rfl,rfl⟩:=h0
  exact fin (c₀::cs) (by rw[←hc])
theorem wy {f:FuncId} {fn:Func} {c0 rest:Code} {id1 d e:Nat} {t1 t2 te:TypeId} {p1 p2:String} {a1 a2:Array Edge}
 (hf:P.funcs[f]?=some fn) (hname:(fn.name== "runtime.NumGoroutine")=false) (hgname:(gn.name== "runtime.NumGoroutine")=false)
 (hb:fn.body=some (.seq c0 (.seq (.region id1 #[{dst:=some d,op:=.makeFunc (.func g) #[] #[.tmp e],type:=t1,pos:=p1,after:=a1,guard:=none},{dst:=none,op:=.defer {callee:=.value (.tmp d),args:=#[],argTypes:=#[]},type:=t2,pos:=p2,after:=a2,guard:=none}] false) rest)))
 (hres:fn.results= #[.cell e te]) {gg:Bool} {n:Nat} (hte:dA P te=some (gg,n)) (hd:d<fn.ntmps) (hde:d≠e) {args:List AV} (hargs:args.length≤fn.ntmps) (keep keep0:Nat→List Nat)
 (hok0:codeOk keep0 fn.ntmps c0=true) (hok:codeOk keep fn.ntmps rest=true) (hfix:e∈keep 777777) {σ:ah} {k kp:AV→ah→Prop}
 (h:aw P keep0 c0 {n:=fun fr σ=>aw P keep rest {n:=fun _ _=>False,ex:=fun _ _ _=>False,ret:=fun _ σ=>iD P keepg restg r gg n k (aa fr e) (.val .nilIface) σ,pa:=fun y σ=>iD P keepg restg r gg n k (aa fr e) y σ} (put fr (some d) .any) σ,ex:=fun _ _ _=>False,ret:=fun _ _=>False,pa:=fun _ _=>False} (dj 0 args) σ):Ev P f args σ k kp:=by
 refine fun ρ w vs hs hrel=>.inl ⟨⟨fn,hf,by rw[hb];rfl,hname⟩,?_⟩
 refine calls_of_wp_defers hf hb ?_
 have hst:St (fun a=>a.defers= []) ρ σ w fn.ntmps ρ σ w (dj 0 args) {tmps:=vs++Array.replicate (fn.ntmps - vs.size) undef,defers:=[]}:=by
  refine⟨Ext.refl _ _ _,hs,fun q=> ?_,by simp;have:=hrel.1;omega,rfl⟩
  rw[fM]
  simp only[Nat.zero_le,if_true,Nat.sub_zero]
  cases hx:args[q]? with
  | none=>exact .any _
  | some x=>
   have hq:q<vs.size:=by rw[←hrel.1];exact(List.getElem?_eq_some_iff.1 hx).1
   simp only[Option.getD_some]
   rw[Array.getD_eq_getD_getElem?,Array.getElem?_append_left hq,Array.getElem?_eq_getElem hq]
   exact hrel.2 q x _ hx (Array.getElem?_eq_getElem hq)
 refine wp_seq (wp_mono (cQ hmix (DOk.plain _) c0 hok0 _ ρ σ w ρ σ w _ _ hst h) ?_)
 rintro ex a' w' ⟨ρ',σ',fr,hst',hk⟩
 cases ex with
 | exit id=>exact hk.elim
 | goto l=>exact hk.elim
 | ret=>exact hk.elim
 | panic ch=>obtain⟨_,_,_,_,hk⟩:=hk;exact hk.elim
 | outgrown=>exact hk.elim
 | normal=>
  have hdef:a'.defers= []:=hst'.defers
  let ve:=a'.tmps.getD e undef
  have hve:aL (ctx ρ' σ' w') (aa fr e) ve:=hst'.frel e
  let dd:Deferred:={target:=.fn (.func g) #[ve],args:=#[]}
  let a2':Act:={tmps:=(a'.put (some d) (.func (.func g) #[] #[ve])).tmps,defers:=[dd]}
  have hDok:DOk (keep 777777) (fun a=>a.defers= [dd]∧a.tmps.getD e undef=ve):=by
   refine⟨fun a d' v hn hD=>⟨by rw[put_defers];exact hD.1,?_⟩⟩
   cases d' with
   | none=>exact hD.2
   | some d'=>
    have:d'≠e:=fun h=>hn d' rfl (by rw[h];exact hfix)
    show(a.tmps.setIfInBounds d' v).getD e undef=ve
    rw[Array.getD_eq_getD_getElem?,Array.getElem?_setIfInBounds_ne this,←Array.getD_eq_getD_getElem?]
    exact hD.2
  have hst2:St (fun a=>a.defers= [dd]∧a.tmps.getD e undef=ve) ρ' σ' w' fn.ntmps ρ' σ' w' (put fr (some d) .any) a2':=by
   refine⟨Ext.refl _ _ _,hst'.sim,?_,?_,rfl,?_⟩
   ·exact dZ.put (a:=a') hst'.frel (.any _) (fun k hk=>by cases hk;rw[hst'.size];exact hd)
   ·show(a'.put (some d) _).tmps.size=_;rw[oX,hst'.size]
   ·show(a'.tmps.setIfInBounds d _).getD e undef=ve
    rw[Array.getD_eq_getD_getElem?,Array.getElem?_setIfInBounds_ne hde,←Array.getD_eq_getD_getElem?]
  have last:∀(u u':FrameMode) (ρ3:Nat→Option (Option Nat×Nat)) (σ3:ah) (w3:World) (a3:Act) (y:AV) (vy:Value),u≠ .run→settle u'= .returning→Ext ρ' σ' w' ρ3 σ3 w3→Sim ρ3 σ3 w3→aL (ctx ρ3 σ3 w3) y vy→a3.defers= [dd]→a3.tmps.getD e undef=ve→
   (∀(c₀:Frame) (cs:List Frame),c₀.mode=u→(match recoverD (c₀::cs) with | some (v,cs')=>v=vy∧cs'= {c₀ with mode:=u'}::cs | none=>vy= .nilIface∧u'=u))→
   iD P keepg restg r gg n k (aa fr e) y σ3→Leaves P fn a3.tmps (tO ρ σ w k kp) a3.defers u w3:=by
   intro u u' ρ3 σ3 w3 a3 y vy hrun hset hext hsim hy hd3 he3 hu hk3
   rw[hd3]
   refine leaves_cons hrun ?_ ((sf hmix hg hgb hgr hgn hrl keepg hgok hsim (hve.mono hext.le) hy u u' hu hk3).mono ?_)
   ·have hn2:¬gn.name= "runtime.NumGoroutine" :=by simpa using hgname
    simp[invoke,callFunc,hg,hn2,hgb,dd]
   ·rintro ed u4 w4 ⟨ρ4,σ4,hext4,hsim4,rfl,⟨q,rfl⟩,z,hz,hkz⟩
    simp only
    rw[hset]
    have hfr:dZ (ctx ρ4 σ4 w4) [(e,aa fr e)] a3.tmps:=by
     intro j
     rw[dU]
     by_cases hj:j=e
     ·rw[if_pos hj,hj,he3];exact(hve.mono hext.le).mono hext4.le
     ·rw[if_neg hj];exact .any _
    obtain⟨v,x,h1,h2,h3⟩:=jL (P:=P) (fn:=fn) (a:={tmps:=a3.tmps,defers:=[]}) (k:=k) hsim4 hfr (by
     rw[hres]
     show ry P _ σ4 [.cell e te] _
     simp only[ry,hte]
     rw[show aa [(e,aa fr e)] e=aa fr e by simp[dU],hz]
     exact hkz)
    exact⟨v,h1,ρ4,σ4,(hst'.ext.trans hext).trans hext4,hsim4,x,h3,h2⟩
  have hgoal:rest.wp P (bodyPostD P fn (tO ρ σ w k kp)) a2' w':=by
   refine wp_mono (cQ hmix hDok rest hok _ ρ' σ' w' ρ' σ' w' _ _ hst2 hk) ?_
   rintro ex a3 w3 ⟨ρ3,σ3,fr3,hst3,hk3⟩
   obtain⟨hd3,he3⟩:=hst3.defers
   cases ex with
   | normal=>exact hk3.elim
   | exit id=>exact hk3.elim
   | goto l=>exact hk3.elim
   | outgrown=>exact hk3.elim
   | ret=>
    refine last .returning .returning ρ3 σ3 w3 a3 (.val .nilIface) .nilIface (by simp) rfl hst3.ext hst3.sim (.val _) hd3 he3 ?_ hk3
    intro c₀ cs hc
    simp[recoverD,hc]
   | panic chain=>
    obtain⟨y,v,rfl,hv,hk3⟩:=hk3
    refine last (.panicking [{v,recovered:=false}]) (.panicking [{v,recovered:=true}]) ρ3 σ3 w3 a3 y v (by simp) rfl hst3.ext hst3.sim hv hd3 he3 ?_ hk3
    intro c₀ cs hc
    simp[recoverD,hc]
  refine wp_seq (wp_region ?_)
  show wpOps P _ _ [0,1] _ _
  unfold wpOps
  have e0:∀o1 o2:Oper,(#[o1,o2]:Array Oper)[0]?=some o1:=fun _ _=>rfl
  have e1:∀o1 o2:Oper,(#[o1,o2]:Array Oper)[1]?=some o2:=fun _ _=>rfl
  rw[e0]
  simp only
  rw[if_pos (by rfl)]
  refine .inl ?_
  unfold Oper.wp
  have hm:∀o:Oper,o.op= .makeFunc (.func g) #[] #[.tmp e]→(execOp a'.eval o).run P w'= .ok (.value (.func (.func g) #[] #[ve])) w':=by
   intro o ho
   simp[execOp,ho,Instr.makeFunc,ve,Act.eval]
  rw[hm _ rfl,Oper.upon_value]
  unfold wpOps
  rw[e1]
  simp only
  rw[if_pos (by rfl)]
  refine .inl ?_
  unfold Oper.wp
  have hm2:∀(a:Act) (o:Oper),a.eval (.tmp d)= .func (.func g) #[] #[ve]→o.op= .defer {callee:=.value (.tmp d),args:=#[],argTypes:=#[]}→(execOp a.eval o).run P w'= .ok (.defer dd) w':=by
   intro a o hev ho
   simp[execOp,ho,resolve,hev,Deferred.ofValue,dd]
  rw[hm2 _ _ ?_ rfl,Oper.upon_defer]
  ·unfold wpOps
   show Exit.then _ _ .normal _ _
   have:({(a'.put (some d) (.func (.func g) #[] #[ve])) with defers:=dd::(a'.put (some d) (.func (.func g) #[] #[ve])).defers}:Act).put none undef=a2':=by
    show({tmps:=_,defers:=dd::a'.defers}:Act)=_
    rw[hdef]
   rw[this]
   exact hgoal
  ·show(a'.tmps.setIfInBounds d _).getD d undef=_
   simp[Array.getD_eq_getD_getElem?,hst'.size,hd]
end
end Go.Abs
set_option linter.unusedVariables false
set_option linter.unusedSimpArgs false
namespace Go.Abs
open Go
def me (r:Nat):Code→Bool
 | .region _ ops false=>match ops.toList with
  | [⟨some r',.call ⟨.builtin .recover,args,ts⟩,_,_,_,none⟩]=>r'==r&&args.size==0&&ts.size==0
  | _=>false
 | _=>false
theorem oD {r:Nat} {c:Code} (h:me r c=true):∃id ty pos af,c= .region id #[{dst:=some r,op:=.call {callee:=.builtin .recover,args:=#[],argTypes:=#[]},type:=ty,pos:=pos,after:=af,guard:=none}] false:=by
 unfold me at h
 split at h
 ·rename_i id ops
  split at h
  ·rename_i r' args ts ty pos af hl
   simp only[Bool.and_eq_true,beq_iff_eq]at h
   obtain⟨⟨rfl,h2⟩,h3⟩:=h
   obtain rfl:=Array.eq_empty_of_size_eq_zero h2
   obtain rfl:=Array.eq_empty_of_size_eq_zero h3
   obtain rfl:=bz hl
   exact⟨id,ty,pos,af,rfl⟩
  ·cases h
 ·cases h
def qZ (g e d:Nat):Code→Bool
 | .region _ ops false=>match ops.toList with
  | [⟨some d',.makeFunc (.func g') fs cap,_,_,_,none⟩,⟨none,.defer ⟨.value (.tmp d''),args,ts⟩,_,_,_,none⟩]=>match cap.toList with
   | [.tmp e']=>d'==d&&g'==g&&fs.size==0&&e'==e&&d''==d&&args.size==0&&ts.size==0
   | _=>false
  | _=>false
 | _=>false
theorem q7 {g e d:Nat} {c:Code} (h:qZ g e d c=true):∃id t1 p1 a1 t2 p2 a2,c= .region id #[{dst:=some d,op:=.makeFunc (.func g) #[] #[.tmp e],type:=t1,pos:=p1,after:=a1,guard:=none},{dst:=none,op:=.defer {callee:=.value (.tmp d),args:=#[],argTypes:=#[]},type:=t2,pos:=p2,after:=a2,guard:=none}] false:=by
 unfold qZ at h
 split at h
 ·rename_i id ops
  split at h
  ·rename_i d' g' fs cap t1 p1 a1 d'' args ts t2 p2 a2 hl
   split at h
   ·rename_i e' hc
    simp only[Bool.and_eq_true,beq_iff_eq]at h
    obtain⟨⟨⟨⟨⟨⟨rfl,rfl⟩,h2⟩,rfl⟩,rfl⟩,h3⟩,h4⟩:=h
    obtain rfl:=Array.eq_empty_of_size_eq_zero h2
    obtain rfl:=Array.eq_empty_of_size_eq_zero h3
    obtain rfl:=Array.eq_empty_of_size_eq_zero h4
    obtain rfl:=bz hc
    obtain rfl:=bz hl
    exact⟨id,t1,p1,a1,t2,p2,a2,rfl⟩
   ·cases h
  ·cases h
 ·cases h
def uw (e:Nat) (te:TypeId) (rs:Array ResultVar):Bool:=
 match rs.toList with
 | [.cell e' t']=>e'==e&&t'==te
 | _=>false
theorem sE {e te rs} (h:uw e te rs=true):rs= #[.cell e te]:=by
 unfold uw at h
 split at h
 ·rename_i e' t' hl
  simp only[Bool.and_eq_true,beq_iff_eq]at h
  obtain⟨rfl,rfl⟩:=h
  exact bz hl
 ·cases h
theorem tP {P:Program} (hmix:P.follows .mixedOrders=true) {g:FuncId} {gn:Func} {cr restg:Code} {r:Nat}
 (hg:P.funcs[g]?=some gn) (hgb:gn.body=some (.seq cr restg)) (hcr:me r cr=true)
 (hgr:gn.results.size=0) (hgn:1≤gn.ntmps) (hrl:r<gn.ntmps) (keepg:Nat→List Nat) (hgok:codeOk keepg gn.ntmps restg=true)
 {f:FuncId} {fn:Func} {c0 cd rest:Code} {d e:Nat} {te:TypeId}
  (hf:P.funcs[f]?=some fn) (hname:(fn.name== "runtime.NumGoroutine")=false) (hgname:(gn.name== "runtime.NumGoroutine")=false)
  (hb:fn.body=some (.seq c0 (.seq cd rest))) (hcd:qZ g e d cd=true)
  (hres:uw e te fn.results=true) {gg:Bool} {n:Nat} (hte:dA P te=some (gg,n)) (hd:d<fn.ntmps) (hde:d≠e) {args:List AV} (hargs:args.length≤fn.ntmps) (keep keep0:Nat→List Nat)
  (hok0:codeOk keep0 fn.ntmps c0=true) (hok:codeOk keep fn.ntmps rest=true) (hfix:e∈keep 777777) {σ:ah} {k kp:AV→ah→Prop}
  (h:aw P keep0 c0 {n:=fun fr σ=>aw P keep rest {n:=fun _ _=>False,ex:=fun _ _ _=>False,ret:=fun _ σ=>iD P keepg restg r gg n k (aa fr e) (.val .nilIface) σ,pa:=fun y σ=>iD P keepg restg r gg n k (aa fr e) y σ} (put fr (some d) .any) σ,ex:=fun _ _ _=>False,ret:=fun _ _=>False,pa:=fun _ _=>False} (dj 0 args) σ):Ev P f args σ k kp:=by
 obtain⟨id,ty,pos,af,rfl⟩:=oD hcr
 obtain⟨id1,t1,p1,a1,t2,p2,a2,rfl⟩:=q7 hcd
 exact wy hmix hg hgb (Array.eq_empty_of_size_eq_zero hgr) hgn hrl keepg hgok hf hname hgname hb (sE hres) hte hd hde hargs keep keep0 hok0 hok hfix h
end Go.Abs
