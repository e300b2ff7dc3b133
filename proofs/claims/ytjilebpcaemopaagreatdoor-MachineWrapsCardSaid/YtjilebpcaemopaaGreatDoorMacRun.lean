import Derived.Test.YtjilebpcaemopaaGreatDoorMacC8
import Derived.Test.YtjilebpcaemopaaGreatDoorMacDec
import Derived.Test.YtjilebpcaemopaaGreatDoorAbsO
set_option linter.unusedVariables false
set_option linter.unusedSimpArgs false
set_option linter.deprecated false
namespace Go.Abs
theorem y5 {p:Nat→Prop}:∀n,p n→∃j,p j∧∀i,p i→j≤i:=by
 intro n
 induction n using Nat.strongRecOn with
 | _ n ih=>
  intro h
  by_cases hm:∃m,m<n∧p m
  ·obtain⟨m,h1,h2⟩:=hm
   exact ih m h1 h2
  ·exact⟨n,h,fun i hi=>Nat.not_lt.1 fun hl=>hm ⟨i,hl,hi⟩⟩
theorem xf (Inv:Nat→aA→ah→Prop) {body:aA→ah→(aA→ah→Prop)→Prop} {fr:aA} {σ:ah} {j:Nat} (h0:Inv j fr σ)
 (h:∀j fr σ again,Inv j fr σ→(∀fr' σ' j',j'<j→Inv j' fr' σ'→again fr' σ')→body fr σ again):bj body fr σ:=by
 classical
 have key:∀fr σ,∃μ:Nat,∀j,Inv j fr σ→Inv μ fr σ∧μ≤j:=by
  intro fr σ
  by_cases hI:∃j,Inv j fr σ
  ·obtain⟨j,hj⟩:=hI
   obtain⟨m,h1,h2⟩:=y5 (p:=fun j=>Inv j fr σ) j hj
   exact⟨m,fun i hi=>⟨h1,h2 i hi⟩⟩
  ·exact⟨0,fun j hj=>absurd ⟨j,hj⟩ hI⟩
 refine⟨fun fr σ=>∃j,Inv j fr σ,fun fr σ=>Classical.choose (key fr σ),⟨j,h0⟩,fun fr σ hI=> ?_⟩
 obtain⟨i,hi⟩:=hI
 have hs:=Classical.choose_spec (key fr σ) i hi
 refine h _ fr σ _ hs.1 fun fr' σ' j' hj hi'=>⟨⟨j',hi'⟩,?_⟩
 have:=(Classical.choose_spec (key fr' σ') j' hi').2
 exact Nat.lt_of_le_of_lt this hj
end Go.Abs
namespace Go.Abs.Mac
open Go Go.Abs Go.Abs.Stk Go.Abs.At Go.Proofs.MacD
variable {σ τ:ah} {mid sid fuel:Nat} {cv fv:AV} {vv:List AV} {T:Nat→Nat} {s:Sa} {k:List Fr} {K kp:AV→ah→Prop}
def WK (f:Fr):Prop:=¬bu f.t.h.kind∧f.t.h.kind≠13
theorem Cz {x:Re Nx} {k:List Fr} {m:M} (h:x.go k= .on m):m.k=k:=by
 cases x with
 | ok a s=>cases h;rfl
 | over s k=>cases h
theorem s6 {n x}:∀ {k:List Fr} {s:Sa} {m:M},(∀f∈k,WK f)→raise s n x k= .on m→∀f∈m.k,WK f
 | [],s,m,_,h=>by cases h
 | f::k,s,m,hk,h=>by
  unfold raise at h
  simp only at h
  split at h
  ·cases h;exact fun f hf=>hk f (by simp at hf;simp[hf])
  ·exact s6 (fun f hf=>hk f (by simp[hf])) h
theorem Di {fuel:Nat} {m m':M} (hk:∀f∈m.k,WK f) (h:step fuel m= .on m'):∀f∈m'.k,WK f:=by
 obtain⟨x,s,k⟩:=m
 cases x with
 | node t e=>
  simp only[step]at h
  unfold enter at h
  split at h
  ·rename_i h17
   split at h
   ·cases h
   ·cases h
    intro f hf
    rcases List.mem_cons.1 hf with rfl | hf
    ·exact⟨by unfold bu;simp only;omega,by simp only;omega⟩
    ·exact hk f hf
  ·split at h
   ·cases h
   ·split at h
    ·rw[Cz h];exact hk
    ·split at h
     ·rw[Cz h];exact hk
     ·rename_i h17 _ hl h13
      cases h
      intro f hf
      rcases List.mem_cons.1 hf with rfl | hf
      ·exact⟨hl,h13⟩
      ·exact hk f hf
 | exn n x=>exact s6 hk h
 | val v=>
  simp only[step]at h
  cases k with
  | nil=>simp only at h;split at h<;>cases h
  | cons f k=>
   simp only at h
   unfold je at h
   have hk':∀f∈k,WK f:=fun g hg=>hk g (by simp[hg])
   split at h
   ·cases h;exact hk'
   ·split at h
    ·cases h;exact hk'
    ·split at h
     ·cases h;exact hk'
     ·split at h
      ·rw[Cz h];exact hk'
      ·split at h
       ·cases h
        intro g hg
        rcases List.mem_cons.1 hg with rfl | hg
        ·exact hk f (by simp)
        ·exact hk' g hg
       ·rw[Cz h];exact hk'
def nxC:Nx→List AV
 | .node t e=>[.ref t.av,bO e.names,fD e.aH,u8 0,int 0,int 0,int 0,bool false,str ByteArray.empty]
 | .val v=>[fq,fq,fq,u8 v.kind,int v.n,int v.r,int v.a,bool false,str ByteArray.empty]
 | .exn n x=>[fq,fq,fq,u8 1,int n,int 0,int 0,bool true,str x]
theorem ru (x:Nx):x.av= .agg (nxC x):=by cases x<;>rfl
theorem Fits.bnd {fuel N B:Nat} {m:M} (h:Fits N B m) (hB:B≤1000000000000) (hf:fuel≤1099511627776):Bnd fuel m.s m.k:=
 ⟨h.eM.ok,Nat.le_trans h.len hB,Nat.le_trans h.aC hB,Nat.le_trans h.k hB,hf⟩
end Go.Abs.Mac
set_option linter.unusedVariables false
set_option linter.unusedSimpArgs false
set_option linter.deprecated false
namespace Go.Abs.Mac
open Go Go.Abs Go.Abs.Stk Go.Abs.At Go.Proofs.MacD
variable {σ τ:ah} {mid sid fuel:Nat} {cv fv:AV} {vv:List AV} {T:Nat→Nat} {s:Sa} {k:List Fr} {K kp:AV→ah→Prop}
@[simp] theorem ifc_nil:ar .eql .ifc (.val .nilIface) (.val .nilIface)=some (bool true):=nr rfl
@[simp] theorem ifc_some (t:TypeId) (x:AV):ar .eql .ifc (.iface t x) (.val .nilIface)=some (bool false):=nr rfl
@[simp] theorem FN (z:AV) (t:TypeId) (x:AV):jN z t (.iface t x)=some (.tup [x,bool true]):=nr (by simp[jN])
abbrev Dp:List AV:=[u8 0,bool false,int 0,str ByteArray.empty]
def pI (kind:Int) (i:Bool) (n:Int) (x:ByteArray):List AV:=[u8 kind,bool i,int n,str x]
theorem wO {x:Nat} {kd:Int} {i:Bool} {n:Int} {e:ByteArray} (hg:τ.get x=some (.cells 4 [pI kd i n e])) (h:K (nc kd i n e) τ):F42 (.ptr x 0 0) (.val .nilIface) τ (fun σ=>∃z,aj true 4 (.ptr x 0 0) σ=some z∧K z σ) kp:=by
 unfold F42
 simp[hg,pI]
 exact h
theorem ub {x:Nat} {kd:Int} (hx:x<τ.next) (hg:τ.get x=some (.cells 4 [Dp])) (h:∀υ,υ.next=τ.next+1→(∀i,i<τ.next→i≠x→υ.get i=τ.get i)→K (nc kd false 0 ByteArray.empty) υ):
 F42 (.ptr x 0 0) (.iface 102 (.agg [u8 kd])) τ (fun σ=>∃z,aj true 4 (.ptr x 0 0) σ=some z∧K z σ) kp:=by
 unfold F42
 simp[an,au,Nat.ne_of_lt hx,hg]
 refine h _ rfl fun i hi hix=> ?_
 simp[au,an,hix,Nat.ne_of_lt hi]
theorem qX {x:Re Nx} {k:List Fr} {s1 kd b n xx} (h:x.go k= .end_ s1 kd b n xx):b=false∧n=0∧xx=ByteArray.empty:=by
 cases x with
 | ok a s=>cases h
 | over s k=>cases h;exact⟨rfl,rfl,rfl⟩
theorem wS {t:AT} {e:En} {s1 kd b n xx} (h:enter fuel s k t e= .end_ s1 kd b n xx):b=false∧n=0∧xx=ByteArray.empty:=by
 unfold enter at h
 split at h
 ·split at h
  ·cases h;exact⟨rfl,rfl,rfl⟩
  ·cases h
 ·split at h
  ·cases h;exact⟨rfl,rfl,rfl⟩
  ·split at h
   ·exact qX h
   ·split at h
    ·exact qX h
    ·cases h
theorem yL {f:Fr} {v:V} {s1 kd b n xx} (h:je s k f v= .end_ s1 kd b n xx):b=false∧n=0∧xx=ByteArray.empty:=by
 unfold je at h
 split at h
 ·cases h
 ·split at h
  ·cases h
  ·split at h
   ·cases h
   ·split at h
    ·exact qX h
    ·split at h
     ·cases h
     ·exact qX h
theorem qi {n:Int} {x:ByteArray}:∀ {k:List Fr} {s s1:Sa} {kd b n1 xx},raise s n x k= .end_ s1 kd b n1 xx→kd=2∧b=false∧n1=n∧xx=x
 | [],s,s1,kd,b,n1,xx,h=>by cases h;exact⟨rfl,rfl,rfl,rfl⟩
 | f::k,s,s1,kd,b,n1,xx,h=>by
  unfold raise at h
  simp only at h
  split at h
  ·cases h
  ·exact qi h
theorem Gz {t:AT} {N B j:Nat} {r:Res} (h:MA σ mid T fuel s k) (hB:B≤1000000000000) (hf:fuel≤1099511627776) (hwk:∀f∈k,WK f) (hr:mG fuel N B ⟨.node t En.nil,s,k⟩ j r)
 (hk:∀τ T' k',MA τ mid T' fuel r.s k'→ba T σ T' τ→K (nc r.kind r.isInt r.n r.exn) τ):Ev PR 26 [.ptr mid 0 0,.ref t.av] σ K kp:=by
 obtain⟨R,hR⟩:∃R:AV→ah→Prop,R=(fun x σ=>F42 x (.val .nilIface) σ (fun σ=>∃z,aj true 4 x σ=some z∧K z σ) (fun _ _=>False)):=⟨_,rfl⟩
 obtain⟨Pa,hPa⟩:∃Pa:AV→AV→ah→Prop,Pa=(fun x y σ=>F42 x y σ (fun σ=>∃z,aj true 4 x σ=some z∧K z σ) (fun _ _=>False)):=⟨_,rfl⟩
 apply Eu
 rw[←hR,←hPa]
 unfold F26
 simp[Nat.add_assoc,an]
 generalize hτ:ah.set _ _ _=τ
 have hn:τ.next=σ.next+2:=by rw[←hτ];rfl
 have hg:aq σ τ:=by rw[←hτ];exact((aq.new _ _).trans (aq.new _ _)).set (by simp) _
 have g0:τ.get σ.next=some (.cells 4 [Dp]):=by rw[←hτ];simp[an,au]
 have g1:τ.get (σ.next+1)=some (.cells 9 [nxC (.node t En.nil)]):=by rw[←hτ];simp[an,au,nxC,En.nil,bO,fD]
 clear hτ
 have z:∀i,σ.next≤i→T i=0:=fun i hi=>h.zero hi
 obtain⟨Inv,hI⟩:∃Inv:Nat→aA→ah→Prop,∀j fr υ,Inv j fr υ↔∃(m:M) (T':Nat→Nat),fr= [(0,.ptr mid 0 0),(4,.ptr σ.next 0 0),(5,.ptr (σ.next+1) 0 0)]∧mG fuel N B m j r∧(∀f∈m.k,WK f)∧MA υ mid T' fuel m.s m.k∧ba T σ T' υ∧σ.next+2≤υ.next∧T' σ.next=0∧T' (σ.next+1)=0∧υ.get σ.next=some (.cells 4 [Dp])∧υ.get (σ.next+1)=some (.cells 9 [nxC m.x]):=⟨_,fun _ _ _=>Iff.rfl⟩
 refine xf Inv (j:=j) ((hI _ _ _).2 ⟨_,T,rfl,hr,hwk,h.aP hg,ba.aP hg,by omega,z _ (Nat.le_refl _),z _ (by omega),g0,g1⟩) ?_
 clear hr hwk g0 g1 hn hg
 intro j fr υ again hi hag
 obtain⟨m,T',rfl,hr,hwk,hm,hkp,hn,z0,z1,g0,g1⟩:=(hI _ _ _).1 hi
 obtain⟨x,s',k'⟩:=m
 simp only at hm hwk g1
 have hnR:∀kd i n x υ,υ.get σ.next=some (.cells 4 [pI kd i n x])→K (nc kd i n x) υ→R (.ptr σ.next 0 0) υ:=fun kd i n x υ h1 h2=>by rw[hR];exact wO h1 h2
 have fits:Fits N B ⟨x,s',k'⟩:=by cases hr<;>assumption
 have bd:=fits.bnd hB hf
 -- a step that goes on
 have on:∀(m1:M) (υ1:ah) (T1:Nat→Nat),step fuel ⟨x,s',k'⟩= .on m1→MA υ1 mid T1 fuel m1.s m1.k→ba T' υ T1 υ1→again [(0,.ptr mid 0 0),(4,.ptr σ.next 0 0),(5,.ptr (σ.next+1) 0 0)] (υ1.set (σ.next+1) (.cells 9 [nxC m1.x])):=by
  intro m1 υ1 T1 hst hm1 hk1
  cases hr with
  | end_ _ h2=>rw[hst]at h2;cases h2
  | on _ h2 h3=>
   rw[hst]at h2
   cases h2
   have a0:=hk1.get σ.next (by omega) z0
   have a1:=hk1.get (σ.next+1) (by omega) z1
   have hn1:=hk1.next
   have l:Loc σ.next T1 υ1 (υ1.set (σ.next+1) (.cells 9 [nxC m1.x])):=Loc.set (.refl _ _ _) (.inr ⟨by omega,a1.1⟩)
   refine hag _ _ _ (Nat.lt_succ_self _) ((hI _ _ _).2 ⟨m1,T1,rfl,h3,Di hwk hst,hm1.loc l,(hkp.trans hk1).loc l,by simp;omega,a0.1,a1.1,?_,?_⟩)
   ·rw[au,if_neg (by omega),a0.2,g0]
   ·rw[au,if_pos rfl]
 have over:∀(s1:Sa) (kd:Int) (b:Bool) (n:Int) (xx:ByteArray) (υ1:ah) (T1:Nat→Nat) (k1:List Fr),step fuel ⟨x,s',k'⟩= .end_ s1 kd b n xx→MA υ1 mid T1 fuel s1 k1→ba T' υ T1 υ1→b=false→n=0→xx=ByteArray.empty→Pa (.ptr σ.next 0 0) (.iface 102 (.agg [u8 kd])) υ1:=by
  intro s1 kd b n xx υ1 T1 k1 hst hm1 hk1 e1 e2 e3
  subst e1;subst e2;subst e3
  cases hr with
  | on _ h2 _=>rw[hst]at h2;cases h2
  | end_ _ h2=>
   rw[hst]at h2
   cases h2
   have a0:=hk1.get σ.next (by omega) z0
   have hn1:=hk1.next
   rw[hPa]
   refine ub (by omega) (by rw[a0.2,g0]) fun υ2 h1 h2=> ?_
   have l:Loc σ.next T1 υ1 υ2:=⟨by omega,fun i hi hor=>h2 i hi (by rintro rfl;rcases hor with h | h;exact Nat.lt_irrefl _ h;exact h a0.1)⟩
   exact hk _ T1 k1 (hm1.loc l) ((hkp.trans hk1).loc l)
 have done:∀(kd:Int) (b:Bool) (n:Int) (xx:ByteArray) (s1:Sa) (υ1:ah) (T1:Nat→Nat) (k1:List Fr),step fuel ⟨x,s',k'⟩= .end_ s1 kd b n xx→MA υ1 mid T1 fuel s1 k1→ba T' υ T1 υ1→R (.ptr σ.next 0 0) (υ1.set σ.next (.cells 4 [pI kd b n xx])):=by
  intro kd b n xx s1 υ1 T1 k1 hst hm1 hk1
  cases hr with
  | on _ h2 _=>rw[hst]at h2;cases h2
  | end_ _ h2=>
   rw[hst]at h2
   cases h2
   have a0:=hk1.get σ.next (by omega) z0
   have hn1:=hk1.next
   have l:Loc σ.next T1 υ1 (υ1.set σ.next (.cells 4 [pI kd b n xx])):=Loc.set (.refl _ _ _) (.inr ⟨Nat.le_refl _,a0.1⟩)
   exact hnR _ _ _ _ _ (by rw[au,if_pos rfl]) (hk _ T1 k1 (hm1.loc l) ((hkp.trans hk1).loc l))
 have gx:∀T1 υ1,ba T' υ T1 υ1→υ1.get (σ.next+1)=some (.cells 9 [nxC x])∧υ1.get σ.next=some (.cells 4 [Dp]):=fun T1 υ1 hk1=>by
  have a0:=hk1.get σ.next (by omega) z0
  have a1:=hk1.get (σ.next+1) (by omega) z1
  rw[g0]at a0;rw[g1]at a1
  exact⟨a1.2,a0.2⟩
 have n9:∀x:Nx,(nxC x).length=9:=fun x=>by cases x<;>rfl
 have d9:∀x:Nx,List.drop 9 (nxC x)= []:=fun x=>List.drop_of_length_le (Nat.le_of_eq (n9 x))
 have t9:∀x:Nx,List.take 9 (nxC x)=nxC x:=fun x=>List.take_of_length_le (Nat.le_of_eq (n9 x))
 have nl:∀(υ1:ah) (o o':dm) (T1:Nat→Nat),Loc υ.next T1 υ1 ((υ1.new o).set υ1.next o'):=fun υ1 o o' T1=>(Loc.new (.refl _ _ _) _).set (.inl (Nat.le_refl _))
 cases x with
 | node t e=>
  simp[g1,nxC]
  refine yy hm bd fits.eM.idx (fits.node _ _ rfl) ?_
  cases hst:enter fuel s' k' t e with
  | end_ s1 kd b n xx=>
   intro υ1 T1 k1 hm1 hk1
   obtain⟨e1,e2,e3⟩:=wS hst
   exact over s1 kd b n xx υ1 T1 k1 hst hm1 hk1 e1 e2 e3
  | on m1=>
   intro υ1 T1 hm1 hk1
   have:=on m1 υ1 T1 hst hm1 hk1
   simp[ru,(gx _ _ hk1).1,n9,d9]
   exact this
 | exn n xx=>
  simp[g1,nxC]
  refine zu hm bd fits.fr ?_
  cases hst:raise s' n xx k' with
  | end_ s1 kd b n1 xx1=>
   intro υ1 T1 k1 hm1 hk1
   have hn1:=hk1.next
   obtain⟨rfl,rfl,rfl,rfl⟩:=qi hst
   simp[ru,n9,d9,au,an,Nat.ne_of_lt,show σ.next+1≠υ1.next by omega,(gx _ _ hk1).1]
   simp[nxC]
   refine tC ?_
   simp[au,an,show σ.next≠υ1.next by omega,(gx _ _ hk1).2,nc]
   exact done 2 false n1 xx1 s1 _ T1 k1 hst (hm1.loc (nl _ _ _ _)) (hk1.loc (nl _ _ _ _))
  | on m1=>
   intro υ1 T1 hm1 hk1
   have hn1:=hk1.next
   simp[ru,n9,d9,t9,au,an,show σ.next+1≠υ1.next by omega,(gx _ _ hk1).1]
   exact on m1 _ T1 hst (hm1.loc (nl _ _ _ _)) (hk1.loc (nl _ _ _ _))
 | val v=>
  simp[g1,nxC]
  obtain⟨sid,cv,fv,vv,hx⟩:=id hm
  have hfl:aE .slice fv υ=some (int ((k'.length:Nat):Int)):=by
   have hl:=fj hx.vals
   rcases hx.frames with ⟨rfl,h0⟩ | ⟨q,rest,rfl,_⟩
   ·rw[←hl,h0];rfl
   ·rw[hl];rfl
  simp[hx.obj,hfl]
  cases k' with
  | nil=>
   simp[g1,nxC]
   by_cases hv:v.kind=1
   ·simp[hv,g1,nxC]
    refine wR ?_
    simp[g0,nc]
    exact done 1 true v.n ByteArray.empty s' υ T' [] (by simp[step,hv]) hm (ba.refl _ _)
   ·simp[hv,hx.obj,hfl]
    refine zl ?_
    simp[g0,nc]
    exact done 1 false 0 ByteArray.empty s' υ T' [] (by simp[step,hv]) hm (ba.refl _ _)
  | cons f k''=>
   have hne:¬((k''.length:Int)+1=0):=by omega
   simp[hne,hx.obj,hfl,g1,nxC]
   refine Cy (v:=v) hm bd fits.eM.idx (fits.fr f (by simp)) (hwk f (by simp)) ?_
   cases hst:je s' k'' f v with
   | end_ s1 kd b n xx=>
    intro υ1 T1 k1 hm1 hk1
    obtain⟨e1,e2,e3⟩:=yL hst
    exact over s1 kd b n xx υ1 T1 k1 hst hm1 hk1 e1 e2 e3
   | on m1=>
    intro υ1 T1 hm1 hk1
    have:=on m1 υ1 T1 hst hm1 hk1
    simp[ru,(gx _ _ hk1).1,n9,d9]
    exact this
end Go.Abs.Mac
