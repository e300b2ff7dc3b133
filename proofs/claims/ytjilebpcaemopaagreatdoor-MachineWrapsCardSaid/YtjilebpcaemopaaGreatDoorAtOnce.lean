import Derived.Test.YtjilebpcaemopaaGreatDoorAtPN
import Derived.Test.YtjilebpcaemopaaGreatDoorOnceLays
set_option linter.unusedVariables false
set_option linter.unusedSimpArgs false
namespace Go.Abs
open Go Go.RowKit
theorem Sim.zi {ρ σ w w'} (hs:Sim ρ σ w) (hb:Below w.heap.size w w'):Sim ρ σ w'∧Ext ρ σ w ρ σ w':=by
 have hle:CLe (ctx ρ σ w) (ctx ρ σ w'):=by
  refine⟨fun _ _ h=>h,fun b hi=>⟨⟨Nat.lt_of_lt_of_le hi.1 hb.size,hi.2⟩,hb.block b hi.1⟩,fun b cs t f h=>⟨cs,f,?_,rfl⟩⟩
  exact(hb.block b (Array.getElem?_eq_some_iff.1 h).1).trans h
 refine⟨⟨hs.fresh,fun id o ho=> ?_,hs.inj⟩,⟨hle,Nat.le_refl _,hb.os,hb.tape,hb.output,hb.size⟩⟩
 obtain⟨p,hp,ho'⟩:=hs.obj id o ho
 refine⟨p,hp,ho'.mono hle fun b hpb=> ?_⟩
 have hlt:b<w.heap.size:=by
  cases ho' with
  | cells cs t hb'=>cases hpb;exact(Array.getElem?_eq_some_iff.1 hb').1
  | none=>cases hpb
  | map ents clock hb'=>cases hpb;exact(Array.getElem?_eq_some_iff.1 hb').1
  | raw hb'=>cases hpb;exact(Array.getElem?_eq_some_iff.1 hb').1
 exact hb.block b hlt
theorem rK {P:Program} {f:FuncId} {args:List AV} {σ:ah} {k kp:AV→ah→Prop} {v:Value} (hc:gX P f)
 (h:∀ρ w vs,Sim ρ σ w→ix (ctx ρ σ w) args vs→Calls P f vs w fun e w'=>e= .returned v∧Below w.heap.size w w') (hk:k (.val v) σ):Ev P f args σ k kp:=by
 intro ρ w vs hs ha
 refine .inl ⟨hc,(h ρ w vs hs ha).mono ?_⟩
 rintro e w' ⟨rfl,hb⟩
 obtain⟨h1,h2⟩:=hs.zi hb
 exact⟨ρ,σ,h2,h1,.val v,hk,.val v⟩
end Go.Abs
namespace Go.Abs.At
open Go Go.Abs Go.Proofs Go.RowKit
theorem CU (H:Once.vp) {l:List Int} (hb:l.length≤50) {σ:ah} {k kp:AV→ah→Prop} (hk:k (bool (decide l.Nodup)) σ):Ev PR 75 [aO l] σ k kp:=by
 refine rK ⟨_,Tryz.func75,by kernel_rfl,by kernel_rfl⟩ (v:=.bool (decide l.Nodup)) (fun ρ w vs hs ha=> ?_) hk
 obtain⟨v,rfl,hv⟩:∃v,vs= #[v]∧aL (ctx ρ σ w) (aO l) v:=by
  obtain⟨h1,h2⟩:=ha
  have hsz:vs.size=1:=h1.symm
  refine⟨vs[0],?_,h2 0 _ _ rfl (by simp[hsz])⟩
  apply Array.ext
  ·simpa using hsz
  ·intro i hi1 hi2
   have:i=0:=by omega
   subst this;rfl
 unfold aO at hv
 cases hv with
 | sl f hl hn hcap hclip hc hr=>
  rename_i a len cap
  simp only[List.length_map]at hl
  subst hl
  refine Once.uD H a cap l (by omega) w fun j x hj=> ?_
  have hel:(l.map fun r=>[int r])[j]?=some [int x]:=by simp[hj]
  obtain⟨_,b,o,rfl,_,hcell⟩:=hc j _ hel
  have h1:=(hcell 0 (by omega)).1
  have h2:=hr j _ 0 (int x) hel rfl
  generalize f j 0=y at h1 h2
  cases h2
  refine⟨b,o,rfl,?_⟩
  have h1':cellOf w.heap b (o+j * 1+0)=some (.int .i64 x):=h1
  rw[Nat.mul_one,Nat.add_zero]at h1'
  unfold cellOf at h1'
  unfold World.cell?
  simp only
  revert h1'
  cases w.heap[b]? with
  | none=>intro h;cases h
  | some ob=>cases ob<;>intro h<;>first | exact h | cases h
theorem leans:Once.vp where
 sort:=Any.slices_Sort_int Tryz.vL
 sortNone:=Any.slices_Sort_int_none Tryz.vL
 compact:=Any.slices_Compact_int Tryz.p8
 compactNone:=Any.slices_Compact_int_empty Tryz.p8
theorem zj:nL:=fun hb _ _ _ hk=>CU leans hb hk
end Go.Abs.At
