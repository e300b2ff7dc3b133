import Derived.Test.YtjilebpcaemopaaGreatDoorChkG
import Derived.Test.YtjilebpcaemopaaGreatDoorSafeA
set_option linter.unusedVariables false
set_option linter.unusedSimpArgs false
set_option linter.deprecated false
namespace Go.Abs.Chk
open Go Go.Abs Go.Abs.At Go.Proofs.ChkD
attribute [local simp] Nat.add_assoc
variable {σ φ:ah} {k kp:AV→ah→Prop}
mutual
def Shp:RT→Prop
 | .mk k r e ks=>(k=2→ks.length=2)∧(k=3→ks.length=1)∧(k=4→ks.length=2)∧qI ks
def qI:List RT→Prop
 | []=>True
 | t::ts=>Shp t∧qI ts
end
structure FT (t:RT):Prop where
 ok:Ok5 t
 shp:Shp t
theorem Shp.h {t:RT} (h:Shp t):(t.kind=2→t.kids.length=2)∧(t.kind=3→t.kids.length=1)∧(t.kind=4→t.kids.length=2)∧qI t.kids:=by cases t;exact h
theorem oA (ks:List Rr) (B:Nat) (h:∀r∈ks,r.e.length≤B):(ks.flatMap Rr.e).length≤B * ks.length:=by
 induction ks with
 | nil=>simp
 | cons r ks ih=>
  have h1:=h r (by simp)
  have h2:=ih fun x hx=>h x (by simp[hx])
  simp only[List.flatMap_cons,List.length_append,List.length_cons,Nat.mul_succ]
  omega
theorem z8 {t:RT} (h:FT t):(t.kind=2→1<t.kids.length)∧(t.kind=3→0<t.kids.length)∧(t.kind=4→1<t.kids.length):=by
 obtain⟨h1,h2,h3,_⟩:=h.shp.h
 exact⟨fun h=>by have:=h1 h;omega,fun h=>by have:=h2 h;omega,fun h=>by have:=h3 h;omega⟩
theorem Ok5.eff5 {t:RT} (h:Ok5 t):t.eff.length≤100:=by
 obtain⟨k,r,e,ks⟩:=t
 exact h.1.1.1
theorem m8 (l:List Atom) (rs:List Int):(fo l rs).length≤l.length:=by
 have:∀(l acc:List Atom),(l.foldl (fun o a=>if a.kind=3∨a.rho∉rs then dc o a else o) acc).length≤acc.length+l.length:=by
  intro l
  induction l with
  | nil=>intro acc;simp
  | cons a l ih=>
   intro acc
   simp only[List.foldl_cons,List.length_cons]
   refine Nat.le_trans (ih _) ?_
   split
   ·have:=@eG a acc;omega
   ·omega
 simpa [fo] using this l []
theorem zt {ks:List Rr} {B:Nat} (he:∀r∈ks,r.e.length≤B) (i:Nat):(r0 ks i).e.length≤B:=by
 unfold r0
 cases h:ks[i]? with
 | none=>simp
 | some r=>exact he r (List.mem_of_getElem? h)
theorem Gr {ks:List Rr} (he:∀r∈ks,r.t.eff.length≤100) (i:Nat):(r0 ks i).t.eff.length≤100:=by
 unfold r0
 cases h:ks[i]? with
 | none=>simp[bU,RT.eff]
 | some r=>exact he r (List.mem_of_getElem? h)
theorem uI {t:AT} {ks:List Rr} {B:Nat} (he:(ks.flatMap Rr.e).length≤B) (h0:(r0 ks 0).e.length+(r0 ks 1).e.length≤B) (h1:(r0 ks 0).t.eff.length≤100):(dy t ks).2.2.2.length≤B+101:=by
 unfold dy
 have hh:=jA (r0 ks 0).e [t.h.exn]
 have hw:=m8 (r0 ks 0).e [t.rho]
 dsimp only
 by_cases c3:t.h.kind=3
 ·simp[c3];simp at he;omega
 by_cases c4:t.h.kind=4∨t.h.kind=5
 ·rw[if_neg c3,if_pos c4];split<;>simp<;>simp at he<;>omega
 by_cases c6:t.h.kind=6
 ·simp[c6];simp at he;omega
 by_cases c7:t.h.kind=7
 ·rw[if_neg c3,if_neg c4,if_neg c6,if_pos c7];split<;>simp<;>simp at he<;>omega
 by_cases c8:t.h.kind=8
 ·simp[c8];simp at he;omega
 by_cases c9:t.h.kind=9
 ·simp[c9];simp at he;omega
 by_cases c10:t.h.kind=10
 ·rw[if_neg c3,if_neg c4,if_neg c6,if_neg c7,if_neg c8,if_neg c9,if_pos c10];split<;>simp<;>simp at he<;>omega
 by_cases c11:t.h.kind=11
 ·simp[c11]
 by_cases c12:t.h.kind=12
 ·simp[c12];simp at he;omega
 by_cases c13:t.h.kind=13
 ·simp[c13];omega
 by_cases c14:t.h.kind=14
 ·simp[c14];simp at he;omega
 by_cases c15:t.h.kind=15
 ·simp[c15];simp at he;omega
 by_cases c16:t.h.kind=16
 ·simp[c16];omega
 by_cases c17:t.h.kind=17
 ·simp[c17];omega
 ·simp[c3,c4,c6,c7,c8,c9,c10,c11,c12,c13,c14,c15,c16,c17];simp at he;omega
theorem xy {t:AT} {ks:List Rr} (he:∀r∈ks,r.e.length≤50000) (h1:∀r∈ks,r.t.eff.length≤100) (hn:ks.length≤3):(dy t ks).2.2.2.length≤1000000:=by
 have:=oA ks 50000 he
 have a0:=zt he 0
 have a1:=zt he 1
 have:=uI (t:=t) (ks:=ks) (B:=150000) (by omega) (by omega) (Gr h1 0)
 omega
theorem zJ {t:AT} {ks:List Rr} (ht:t.Ok) (hk:1≤t.h.kind∧t.h.kind≤18) (hn:ks.length=Mac.nk t.h.kind) (hf:∀r∈ks,FT r.t) (he:∀r∈ks,r.e.length≤50000)
 (hK:k (jJ t ks).v σ):Ev PR 110 [t.v,.sl false 7 (ks.map Rr.av)] σ k kp:=by
 refine Ev.pure ?_
 apply Aw;unfold F110
 have hkn:=Safe.ml hk
 have hn3:ks.length≤3:=by omega
 have hfl:=oA ks 50000 he
 simp[an]
 refine aM ?_
 generalize hτ:ah.new _ (.cells 3 [])=τ
 have hg:aq σ τ:=by rw[←hτ];exact((aq.new _ _).trans (aq.new _ _)).trans (aq.new _ _)
 have hnx:τ.next=σ.next+3:=by rw[←hτ];rfl
 have g0:τ.get σ.next=some (.cells 19 [t.av]):=by rw[←hτ];simp[an]
 have g1:τ.get (σ.next+1)=some (.cells 7 [[u8 0,int 0,bf,bf,bf,int 0,int 0]]):=by rw[←hτ];simp[an]
 have hy0:Ek σ τ (.own (σ.next+2) 0) []:=.inr ⟨σ.next+2,[],rfl,by rw[←hτ];simp[an],by omega,by omega⟩
 clear hτ
 obtain⟨I,hI⟩:∃I:aA→ah→Prop,∀f φ,I f φ↔∃(i:Nat) (y:AV),f= [(1,.sl false 7 (ks.map Rr.av)),(2,.ptr σ.next 0 0),(4,.ptr (σ.next+1) 0 0),(5,y),(12,int ks.length),(13,int i)]∧i≤ks.length∧
  Ek σ φ y ((ks.take i).flatMap Rr.e)∧(∀j,j<σ.next+2→φ.get j=τ.get j)∧τ.next≤φ.next:=⟨_,fun _ _=>Iff.rfl⟩
 refine bI I (fun f _=>ks.length - (intOf (aa f 13)).toNat) ((hI _ _).2 ⟨0,_,rfl,Nat.zero_le _,hy0,fun _ _=>rfl,Nat.le_refl _⟩) ?_
 intro f φ hi
 obtain⟨i,y,rfl,hi,hy,hg2,hnx2⟩:=(hI _ _).1 hi
 by_cases hil:i<ks.length
 ·obtain⟨r,hr⟩:=get_some hil
  have hia:∀ω,ak 7 (.sl false 7 (ks.map Rr.av)) (int i) ω=some (.ref r.av):=fun ω=>by rw[aD];simp[hr]
  have hwi:IntKind.i64.wrap ((i:Int)+1)=((i+1:Nat):Int):=by rw[wrap64 (by omega)];omega
  have hre:=he r (List.mem_of_getElem? hr)
  have htl:((ks.take i).flatMap Rr.e).length≤50000 * 3:=by
   have:=oA (ks.take i) 50000 fun x hx=>he x (List.mem_of_mem_take hx)
   have h2:(ks.take i).length≤3:=by rw[List.length_take];omega
   omega
  obtain⟨E0,hE0⟩:∃E0,(ks.take i).flatMap Rr.e=E0:=⟨_,rfl⟩
  rw[hE0]at hy htl
  simp[hil,hia,C5,zI]
  refine bF (bP (by':=32) hy.rows hy.ns (ys:=r.e.map Atom.av) (.inr (.inl ⟨_,rfl⟩)) (by simp only[List.length_map];omega)) ?_
  obtain⟨p1,p2,p3⟩:=hy.app (by omega) (r.e.map Atom.av)
  simp[hwi]
  refine⟨(hI _ _).2 ⟨i+1,.own φ.next (E0.length+r.e.length),by simp,hil,?_,fun j hj=>(p2 j (by omega)).trans (hg2 j hj),by rw[p3];omega⟩,by omega⟩
  unfold Ek
  rw[List.take_add_one,hr,List.flatMap_append,hE0]
  simpa using p1
 ·have hin:i=ks.length:=by omega
  subst hin
  rw[List.take_length]at hy
  simp
  refine vS ?_
  have z0:σ.next≠φ.next:=by omega
  have h0:=(hg2 σ.next (by omega)).trans g0
  have h1:=(hg2 (σ.next+1) (by omega)).trans g1
  simp[an,au,z0,h0]
  have hr0:RS σ ((φ.new (.cells 4 [[u8 0,int 0,bf,bf]])).set φ.next (.cells 4 [one.av])) t φ.next one:=by
   refine⟨⟨by simp;omega,fun j hj=> ?_⟩,by simp;omega,?_,?_,by omega,by simp,by simp[au]⟩
   ·rw[au,if_neg (by omega),an,if_neg (by omega),hg2 j (by omega)];exact hg.get j hj
   ·rw[au,if_neg (by omega),an,if_neg (by omega)];exact h0
   ·rw[au,if_neg (by omega),an,if_neg (by omega)];exact h1
  have hyo:Ek σ ((φ.new (.cells 4 [[u8 0,int 0,bf,bf]])).set φ.next (.cells 4 [one.av])) y (ks.flatMap Rr.e):=by
   rcases hy with h | ⟨q,rest,h1,h2,h3,h4⟩
   ·exact .inl h
   ·exact .inr ⟨q,rest,h1,by rw[au,if_neg (by omega),an,if_neg (by omega)];exact h2,h3,by simp;omega⟩
  rw[show ah.set (φ.new (.cells 4 [[.val (.int .u8 0),.val (.int .i64 0),.val (.slice none 0 0),.val (.slice none 0 0)]])) φ.next (.cells 4 [one.av])=(φ.new (.cells 4 [[u8 0,int 0,bf,bf]])).set φ.next (.cells 4 [one.av]) from rfl]
  generalize (φ.new (.cells 4 [[u8 0,int 0,bf,bf]])).set φ.next (.cells 4 [one.av])=ψ at hr0 hyo
  generalize φ.next=p at hr0
  refine bw (Jn σ t p (dy t ks)) ?_ ?_
  ·rcases hkn with ⟨n0,c⟩ | ⟨n1,c⟩ | ⟨n2,c⟩ | ⟨n3,c⟩
   ·have:ks= []:=List.length_eq_zero_iff.1 (by omega)
    subst this
    have e:dy t []=(true,true,one,[]):=by unfold dy;rcases c with c | c | c<;>simp[c]
    rw[e]
    rcases c with c | c | c<;>(simp[c];refine aM ?_;simp;exact Jn.of hr0 hyo true true)
   ·obtain⟨a,rfl⟩:∃a,ks= [a]:=List.length_eq_one_iff.1 (by omega)
    have fa:=hf a (by simp)
    have ea:=he a (by simp)
    obtain⟨s2,s3,s4⟩:=z8 fa
    have hb:r0 [a] 0=a:=rfl
    have hfl1:[a].flatMap Rr.e=a.e:=by simp
    rw[hfl1]at hyo
    unfold dy
    rw[hfl1,hb]
    rcases c with c | c | c | c | c | c | c
    ·simp[c];refine aM ?_;simp
     refine xW (kd:=4) (bb:=true) hr0 hyo (.inl c) (by omega) s2 fun fr ω h=> ?_
     rw[c]at h;simpa [c] using h
    ·simp[c];refine aM ?_;simp
     refine xW (kd:=5) (bb:=true) hr0 hyo (.inr c) (by omega) s2 fun fr ω h=> ?_
     rw[c]at h;simpa [c] using h
    ·simp[c];refine aM ?_;simp
     exact G6_ok (kd:=6) (bb:=false) hr0 hyo (by omega) fun fr ω h=>h
    ·simp[c];refine aM ?_;simp
     refine G7_ok (kd:=7) (bb:=false) hr0 hyo (by omega) s3 fun fr ω h=> ?_
     simpa [c] using h
    ·simp[c];refine aM ?_;simp
     exact Fq (kd:=11) (bb:=false) hr0 hyo ht (by omega) fun fr ω h=>h
    ·simp[c];refine aM ?_;simp
     exact Fv (kd:=15) (bb:=false) hr0 hyo (by omega) fun fr ω h=>h
    ·simp[c];refine aM ?_;simp
     exact Fx (kd:=17) (bb:=false) hr0 hyo fa.ok (by omega) fun fr ω h=>h
   ·obtain⟨a,b,rfl⟩:∃a b,ks= [a,b]:=by
     have h2:ks.length=2:=by omega
     match ks,h2 with
     | [a,b],_=>exact⟨a,b,rfl⟩
    have fa:=hf a (by simp)
    have fb:=hf b (by simp)
    have ea:=he a (by simp)
    have eb:=he b (by simp)
    obtain⟨s2,s3,s4⟩:=z8 fa
    have ha0:r0 [a,b] 0=a:=rfl
    have hb0:r0 [a,b] 1=b:=rfl
    have hfl1:[a,b].flatMap Rr.e=a.e++b.e:=by simp
    have hl:(a.e++b.e).length≤100000:=by simp;omega
    have hae:=fa.ok.eff5
    rw[hfl1]at hyo
    unfold dy
    rw[hfl1,ha0,hb0]
    rcases c with c | c | c | c | c | c | c
    ·simp[c]
     refine G3_ok hr0 hyo hl fun fr ω h=> ?_
     simpa using h
    ·simp[c];refine aM ?_;simp
     refine G8_ok (kd:=8) (bb:=false) hr0 hyo hl s3 fa.ok fb.ok fun fr ω h=> ?_
     simpa using h
    ·simp[c];refine aM ?_;simp
     exact G9_ok (kd:=9) (bb:=false) hr0 hyo fun fr ω h=>h
    ·simp[c];refine aM ?_;simp
     refine Fp (kd:=10) (bb:=false) hr0 hyo hl (by omega) s4 fa.ok fb.ok fun fr ω h=> ?_
     simpa using h
    ·simp[c];refine aM ?_;simp
     exact Fs (kd:=12) (bb:=false) hr0 hyo fun fr ω h=>h
    ·simp[c];refine aM ?_;simp
     exact Ft (kd:=13) (bb:=false) hr0 hyo ht fa.ok (by omega) (by omega) fun fr ω h=>h
    ·simp[c];refine aM ?_;simp
     exact Fw (kd:=16) (bb:=false) hr0 hyo fa.ok fb.ok (by omega) (by omega) fun fr ω h=>h
   ·obtain⟨a,b,d,rfl⟩:∃a b d,ks= [a,b,d]:=by
     have h2:ks.length=3:=by omega
     match ks,h2 with
     | [a,b,d],_=>exact⟨a,b,d,rfl⟩
    have fb:=hf b (by simp)
    have fd:=hf d (by simp)
    have ha0:r0 [a,b,d] 0=a:=rfl
    have hb0:r0 [a,b,d] 1=b:=rfl
    have hd0:r0 [a,b,d] 2=d:=rfl
    unfold dy
    rw[ha0,hb0,hd0]
    generalize [a,b,d].flatMap Rr.e=E0 at hyo
    simp[c];refine aM ?_;simp
    exact Fu (kd:=14) (bb:=false) hr0 hyo fb.ok fd.ok fun fr ω h=>h
  ·intro fr ω hJ
   obtain⟨ty,fi,out,e,y2,rfl,h,hy2,hR⟩:=hJ
   have fin:∀(r:Rr) (φ:ah),jJ t ks=r→aq σ φ→aq σ (φ.set (σ.next+1) (.cells 7 [r.av]))∧∃y,Frz (φ.set (σ.next+1) (.cells 7 [r.av])) σ.next (.agg r.av) y∧k y σ:=fun r φ e h=>⟨h.set (by omega) _,_,.low ((Dat.agg r.dat).low _),by rw[←e];exact hK⟩
   have hM:jJ t ks=(if ty=false then bad t 5 else if fi=false then bad t 6 else ⟨out,ofA e,0,0⟩):=by unfold jJ;rw[hR]
   have hl:=xy (t:=t) (ks:=ks) he (fun r hr=>(hf r hr).ok.eff5) hn3
   rw[hR]at hl
   simp only at hl
   unfold frJ
   cases ty with
   | false=>
    rw[if_pos rfl]at hM
    simp[h.t0]
    refine fK ?_
    simp[h.r,au]
    exact fin _ _ hM h.g
   | true=>
    rw[if_neg (by simp)]at hM
    cases fi with
    | false=>
     rw[if_pos rfl]at hM
     simp[h.t0]
     refine fK ?_
     simp[h.r,au]
     exact fin _ _ hM h.g
    | true=>
     rw[if_neg (by simp)]at hM
     simp[h.o]
     have hp0:=h.p0
     rcases hy2 with (rfl | ⟨rfl,h0⟩ | ⟨q,rest,rfl,q2,q3,q4⟩) | rfl
     ·refine oQ (l:=e) (by omega) ?_
      have:=fin ⟨out,ofA e,0,0⟩ ω hM h.g
      rw[th]at this
      simp only[iq]at this⊢
      have ho:=h.o
      simp only[iq]at ho
      simp[ho,h.r,au]
      exact this
     ·have he0:e= []:=by simpa using h0
      subst he0
      refine Ev.iw (args':=[aT []]) (.cons .nil .nil) ?_
      refine oQ (by simp) ?_
      have:=fin ⟨out,ofA [],0,0⟩ ω hM h.g
      rw[th]at this
      simp only[iq]at this⊢
      have ho:=h.o
      simp only[iq]at ho
      simp[ho,h.r,au]
      exact this
     ·have hqp:p≠q:=by rintro rfl;rw[h.o]at q2;cases q2
      refine Ev.freeze (FzS.del ω q) (.cons ((FzR.refl _).own rfl rfl q2) .nil) ?_
      refine oQ (l:=e) (by omega) ?_
      have hz:σ.next+1≠q:=by omega
      have:=fin ⟨out,ofA e,0,0⟩ (ω.del q) hM ⟨h.g.next,fun j hj=>by rw[bD,if_neg (by omega)];exact h.g.get j hj⟩
      rw[th]at this
      simp only[iq]at this⊢
      have ho:=h.o
      simp only[iq]at ho
      simp[ho,h.r,au,bD,hqp,hz]
      exact this
     ·refine Ev.iw (args':=[aT e]) (.cons ki .nil) ?_
      refine oQ (l:=e) (by omega) ?_
      have:=fin ⟨out,ofA e,0,0⟩ ω hM h.g
      rw[th]at this
      simp only[iq]at this⊢
      have ho:=h.o
      simp only[iq]at ho
      simp[ho,h.r,au]
      exact this
end Go.Abs.Chk
