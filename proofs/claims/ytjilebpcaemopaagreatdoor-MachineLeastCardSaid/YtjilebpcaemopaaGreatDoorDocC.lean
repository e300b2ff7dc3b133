import Derived.Test.YtjilebpcaemopaaGreatDoorDocA
import Derived.Test.YtjilebpcaemopaaGreatDoorMacM
import Derived.Test.YtjilebpcaemopaaGreatDoorAbsO
set_option linter.unusedVariables false
set_option linter.unusedSimpArgs false
set_option linter.deprecated false
namespace Go.Abs.Mac
open Go Go.Abs Go.Abs.Stk Go.Abs.At Go.Proofs.DocD
variable {σ τ:AHeap} {K kp:AV→AHeap→Prop}
attribute [local simp] Nat.add_assoc
theorem cl_ok (c:Cl):CellOk c.av:=⟨c.av_len,by simp [Cl.av,V.av,Dat.val]⟩
theorem cok (s:SG Cl):Cok (avS s).L:=by
  intro p hp c hc
  simp only [avS,List.mem_map] at hp
  obtain ⟨q,_,rfl⟩:=hp
  simp only [List.mem_map] at hc
  obtain ⟨d,_,rfl⟩:=hc
  exact cl_ok d
theorem coC_dat (c:Co):∀ x ∈ coC c,Dat x:=by
  intro x hx
  simp only [coC,List.mem_append,List.mem_cons,List.mem_nil_iff,or_false] at hx
  rcases hx with hx | rfl | hx | rfl
  · exact c.body.dat x hx
  · exact .val _
  · exact eC_dat _ x hx
  · exact rhosV_dat _
theorem coC_len (c:Co):(coC c).length=23:=by simp [coC,eC]
theorem sC_dat (fuel:Nat) (s:Sa) (o:Out):∀ x ∈ sC fuel s o,Dat x:=by
  simp only [sC,List.mem_cons,List.mem_nil_iff,or_false]
  rintro x (rfl | rfl | rfl | rfl | rfl | rfl | rfl | rfl | rfl | rfl | rfl) <;> first
    | exact .val _
    | exact .sl fun el hel x hx=>rowsV_dat (cok s.store) el hel x hx
    | (refine .sl fun el hel x hx=>?_
       obtain ⟨c,_,rfl⟩:=List.mem_map.1 hel
       exact coC_dat c x hx)
theorem sV_dat (fuel s o):Dat (sV fuel s o):=.agg (sC_dat fuel s o)
theorem resV_dat (fuel s o):Dat (resV fuel s o):=.tup fun x hx=>by
  simp only [List.mem_cons,List.mem_nil_iff,or_false] at hx
  rcases hx with rfl | rfl
  · exact sV_dat _ _ _
  · exact .agg (av_dat _)
theorem over_ref {fuel:Nat} {s:Sa} {k:Int} (hk:K (resV fuel s (.over k)) σ):Ev PR 51 [sV fuel s O0,u8 k] σ K kp:=by
  refine Ev.pureD hk ((resV_dat _ _ _).low _) fun k' hk'=>?_
  apply F51_ev;unfold F51
  simp [sC,get_new,get_set]
  exact hk' _ ⟨by simp,fun i hi=>by simp [get_set,get_new,show i ≠ σ.next by omega,show i ≠ σ.next+1 by omega,show i ≠ σ.next+2 by omega]⟩
def resR (fuel:Nat):Re V→AV
  | .ok v s=>resV fuel s (.val v)
  | .over s k=>resV fuel s (.over k)
theorem resR_dat (fuel:Nat) (r:Re V):Dat (resR fuel r):=by cases r <;> exact resV_dat _ _ _
structure SB (s:Sa):Prop where
  len:s.store.L.length < 1000000000000
  cells:s.store.cells < 1000000000
  codes:s.codes.length < 999999999
structure EB (e:En):Prop where
  names:e.names.length < 1000000000
  rhos:e.rhos.length < 100000000000
section
variable (fuel:Nat) (s:Sa) (o:Out)
@[simp] theorem sC_len:(sC fuel s o).length=11:=nr rfl
@[simp] theorem sC_t11:List.take 11 (sC fuel s o)=sC fuel s o:=nr rfl
@[simp] theorem sC_d11:List.drop 11 (sC fuel s o)=[]:=nr rfl
@[simp] theorem sC_t4:List.take 4 (sC fuel s o)=[int s.store.R,int s.store.C,.sl false 2 (rowsV (avS s.store).L),int s.store.most]:=nr rfl
@[simp] theorem sC_4:(sC fuel s o)[4]?=some (int fuel):=nr rfl
@[simp] theorem sC_5:(sC fuel s o)[5]?=some (int s.steps):=nr rfl
@[simp] theorem sC_6:(sC fuel s o)[6]?=some (.sl false 23 (s.codes.map coC)):=nr rfl
@[simp] theorem sC_7:(sC fuel s o)[7]?=some (u8 (endO o)):=nr rfl
@[simp] theorem sC_8:(sC fuel s o)[8]?=some (bool (raisesO o)):=nr rfl
@[simp] theorem sC_9:(sC fuel s o)[9]?=some (str (exnO o)):=nr rfl
@[simp] theorem sC_10:(sC fuel s o)[10]?=some (int (nO o)):=nr rfl
@[simp] theorem sC_4' (h:4 < (sC fuel s o).length):(sC fuel s o)[4]'h=int fuel:=nr rfl
@[simp] theorem sC_5' (h:5 < (sC fuel s o).length):(sC fuel s o)[5]'h=int s.steps:=nr rfl
@[simp] theorem sC_6' (h:6 < (sC fuel s o).length):(sC fuel s o)[6]'h=.sl false 23 (s.codes.map coC):=nr rfl
@[simp] theorem sC_7' (h:7 < (sC fuel s o).length):(sC fuel s o)[7]'h=u8 (endO o):=nr rfl
@[simp] theorem sC_8' (h:8 < (sC fuel s o).length):(sC fuel s o)[8]'h=bool (raisesO o):=nr rfl
@[simp] theorem sC_9' (h:9 < (sC fuel s o).length):(sC fuel s o)[9]'h=str (exnO o):=nr rfl
@[simp] theorem sC_10' (h:10 < (sC fuel s o).length):(sC fuel s o)[10]'h=int (nO o):=nr rfl
@[simp] theorem sC_store' (st:SG Cl):(int st.R :: int st.C :: .sl false 2 (rowsV (avS st).L) :: int st.most :: List.drop 4 (sC fuel s o))=sC fuel { s with store:=st } o:=nr rfl
theorem sC_val (v:V):sC fuel s (.val v)=sC fuel s O0:=rfl
end
@[simp] theorem eC_len (e:En):(eC e).length=2:=nr rfl
@[simp] theorem eC_t2 (e:En):List.take 2 (eC e)=eC e:=nr rfl
@[simp] theorem cl_len (c:Cl):c.av.length=10:=nr rfl
@[simp] theorem cl_t10 (c:Cl):List.take 10 c.av=c.av:=nr rfl
@[simp] theorem cl_d10 (c:Cl):List.drop 10 c.av=[]:=nr rfl
@[simp] theorem cl_9' (c:Cl) (h:9 < c.av.length):c.av[9]'h=int c.code:=nr rfl
@[simp] theorem cl_9 (c:Cl):c.av[9]?=some (int c.code):=nr rfl
@[simp] theorem v_len (v:V):v.av.length=4:=nr rfl
@[simp] theorem v_t4 (v:V):List.take 4 v.av=v.av:=nr rfl
@[simp] theorem v_d4 (v:V):List.drop 4 v.av=[]:=nr rfl
theorem cput_ref {fuel:Nat} {s:Sa} {e:En} {rho:Int} {c:Cl} (hs1:s.store.L.length < 1000000000000) (hs2:s.store.cells < 1000000000) (he:EB e) (hk:K (resR fuel (make s e rho c)) σ):Ev PR 98 [sV fuel s O0,eV e,int rho,.agg c.av] σ K kp:=by
  refine Ev.pureD hk ((resR_dat _ _).low _) fun k' hk'=>?_
  apply F98_ev;unfold F98
  simp [get_new]
  generalize hτ:AHeap.new _ (.cells 4 [[_,_,_,_]])=τ
  have hn:τ.next=σ.next+5:=by rw [← hτ];rfl
  have hg:Grows σ τ:=by rw [← hτ];exact ((((Grows.new _ _).trans (Grows.new _ _)).trans (Grows.new _ _)).trans (Grows.new _ _)).trans (Grows.new _ _)
  have g0:τ.get σ.next=some (.cells 11 [sC fuel s O0]):=by rw [← hτ];simp [get_new]
  have g2:τ.get (σ.next+2)=some (.cells 10 [c.av]):=by rw [← hτ];simp [get_new]
  have g3:τ.get (σ.next+3)=some (.cells 11 [[int 0,int 0,nilSl,int 0,int 0,int 0,nilSl,u8 0,bool false,str ByteArray.empty,int 0]]):=by rw [← hτ];simp [get_new]
  have g4:τ.get (σ.next+4)=some (.cells 4 [V.zero.av]):=by rw [← hτ];simp [get_new,V.av,V.zero]
  clear hτ
  refine region_ref (by have:=he.rhos;omega) ?_
  unfold make at hk'
  have fin:∀ (s':Sa) (o:Out) (υ:AHeap),Grows σ υ→(∀ τ,Grows σ τ→k' (resV fuel s' o) τ)→k' (.tup [sV fuel s' o,.agg (vO o).av]) ((υ.set (σ.next+3) (.cells 11 [sC fuel s' o])).set (σ.next+4) (.cells 4 [(vO o).av])):=fun s' o υ h1 h2 =>
    h2 _ ((h1.set (by omega) _).set (by omega) _)
  by_cases h1:(e.region rho).2=true
  · simp [h1,g0]
    refine live_ref (s:=avS s.store) ?_
    rw [avS_row]
    by_cases h2:liveS s.store (e.region rho).1=true
    · have h2':(s.store.row (e.region rho).1).isSome=true:=h2
      rw [if_pos ⟨h1,h2⟩] at hk'
      simp [h2',g0,g2]
      obtain ⟨row,hr⟩:=Option.isSome_iff_exists.1 h2'
      refine Stk.put_ref (s:=avS s.store) (cok _) (by rw [avS_len];omega) (by rw [avS_cells];omega) (cl_ok c) ?_
      rw [avS_row,hr]
      simp only [Option.map_some]
      by_cases hc:s.store.C≤s.store.cells
      · have hp:putS s.store (e.region rho).1 c=none:=by simp [putS,hr,hc]
        rw [hp] at hk'
        rw [if_pos (by simpa using hc)]
        simp [zeroV,get_set,get_new,g0,hn]
        refine over_ref ?_
        simp [g3,g4,get_set,get_new,hn]
        exact fin s (.over 4) _ (hg.trans ((((Grows.new _ _).trans (Grows.new _ _)).set (by omega) _).set (by omega) _)) hk'
      · have hp:putS s.store (e.region rho).1 c=some (⟨2,0,(e.region rho).1,row.length⟩,s.store.putC (e.region rho).1.toNat row c):=by simp [putS,hr,hc]
        rw [hp] at hk'
        rw [if_neg (by simpa using hc)]
        intro i hi hL
        obtain ⟨j,hj,hLj,_⟩:=SG.row_nat hr
        have hij:i=(e.region rho).1.toNat:=by omega
        subst hij
        rw [avS_putC]
        generalize s.store.putC (e.region rho).1.toNat row c=st at hk'
        simp [get_set,get_new,g0,hn,g3,g4]
        exact fin { s with store:=st } (.val ⟨2,0,(e.region rho).1,row.length⟩) _ ((hg.trans ((((Grows.new _ _).trans (Grows.new _ _)).set (by omega) _).set (by omega) _)).set (Nat.le_refl _) _) hk'
    · have h2':(s.store.row (e.region rho).1).isSome=false:=by simpa [liveS] using h2
      rw [if_neg (fun h=>h2 h.2)] at hk'
      rw [Option.isSome_map,h2']
      simp [g0]
      refine over_ref ?_
      simp [g3,g4,get_set]
      exact fin s (.over 5) τ hg hk'
  · rw [if_neg (fun h=>h1 h.1)] at hk'
    simp at h1
    simp [h1,g0]
    refine over_ref ?_
    simp [g3,g4,get_set]
    exact fin s (.over 5) τ hg hk'
def zCl:Cl:=⟨0,V.zero,V.zero,0⟩
theorem zCl_av:zCl.av=zeroC:=rfl
theorem take_dat (c:Cl) (k:Int) (n:Nat):Low n (.tup [.agg c.av,u8 k]):=Dat.low (.tup fun x hx=>by
  simp only [List.mem_cons,List.mem_nil_iff,or_false] at hx
  rcases hx with rfl | rfl
  · exact .agg (cl_ok c).2
  · exact .val _) _
theorem ctake_ref {fuel:Nat} {s:Sa} {v:V} {kind:Int} (hk:match take s v kind with | .ok c _=>K (.tup [.agg c.av,u8 0]) σ | .over _ k=>∀ c:Cl,K (.tup [.agg c.av,u8 k]) σ):Ev PR 99 [sV fuel s O0,.agg v.av,u8 kind] σ K kp:=by
  refine Ev.pureE ?_
  apply F99_ev;unfold F99
  simp [get_new]
  generalize hτ:AHeap.new _ (.cells 10 [[_,_,_,_,_,_,_,_,_,_]])=τ
  have hn:τ.next=σ.next+3:=by rw [← hτ];rfl
  have hg:Grows σ τ:=by rw [← hτ];exact ((Grows.new _ _).trans (Grows.new _ _)).trans (Grows.new _ _)
  have g0:τ.get σ.next=some (.cells 11 [sC fuel s O0]):=by rw [← hτ];simp [get_new]
  have g1:τ.get (σ.next+1)=some (.cells 4 [v.av]):=by rw [← hτ];simp [get_new]
  have g2:τ.get (σ.next+2)=some (.cells 10 [zCl.av]):=by rw [← hτ];simp [get_new,zCl_av,zeroC]
  clear hτ
  have v0:v.av.head?=some (u8 v.kind):=rfl
  unfold take at hk
  by_cases h2:v.kind=2
  · rw [if_pos h2] at hk
    simp [v0,h2,g0,g1]
    rw [show AV.agg v.av=valV v.kind v.n v.r v.a from rfl]
    have hfd:=avS_find s.store v.kind v.n v.r v.a
    refine Stk.get_ref (s:=avS s.store) (cok _) (fun hne=>?_) (fun h0 row i c hrow hi hc=>?_)
    · rw [hfd] at hne ⊢
      by_cases h6:s.store.find v.kind v.n v.r v.a=6
      · rw [if_pos h6] at hk
        simp [h6,get_new,get_set,hn,g2,← zCl_av]
        exact ⟨(hg.trans ((Grows.new _ _).set (by omega) _)).set (by omega) _,take_dat _ _ _,hk _⟩
      · rw [if_neg h6,if_neg hne] at hk
        simp [h6,hne,get_new,get_set,hn,g2,← zCl_av]
        exact ⟨(hg.trans ((Grows.new _ _).set (by omega) _)).set (by omega) _,take_dat _ _ _,hk _⟩
    · rw [hfd] at h0
      rw [avS_row] at hrow
      obtain ⟨row',hr',rfl⟩:=Option.map_eq_some_iff.1 hrow
      rw [List.getElem?_map] at hc
      obtain ⟨d,hd,rfl⟩:=Option.map_eq_some_iff.1 hc
      have hcell:cellAt s.store v=some d:=by unfold cellAt;rw [hr'];simp [hi,hd]
      rw [if_neg (by omega),if_pos h0,hcell] at hk
      simp only at hk
      have d0:d.av.head?=some (u8 d.kind):=rfl
      by_cases hkd:d.kind=kind
      · rw [if_pos hkd] at hk
        simp [get_new,get_set,hn,g2,d0,hkd]
        exact ⟨(hg.trans ((Grows.new _ _).set (by omega) _)).set (by omega) _,take_dat _ _ _,hk⟩
      · rw [if_neg hkd] at hk
        simp [get_new,get_set,hn,g2,d0,hkd]
        exact ⟨(hg.trans ((Grows.new _ _).set (by omega) _)).set (by omega) _,take_dat _ _ _,hk _⟩
  · rw [if_neg h2] at hk
    simp [v0,h2,g1,g2,get_set]
    exact ⟨hg.set (by omega) _,take_dat zCl 6 _,hk zCl⟩
def sX (fuel:Nat) (s:Sa) (o:Out) (x:AV):List AV :=
  [int s.store.R,int s.store.C,.sl false 2 (rowsV (avS s.store).L),int s.store.most,int fuel,int s.steps,x,u8 (endO o),bool (raisesO o),str (exnO o),int (nO o)]
section
variable (fuel:Nat) (s:Sa) (o:Out) (x:AV)
@[simp] theorem sX_eq:List.take 6 (sC fuel s o) ++ x :: List.drop 7 (sC fuel s o)=sX fuel s o x:=nr rfl
@[simp] theorem sX_len:(sX fuel s o x).length=11:=nr rfl
@[simp] theorem sX_t11:List.take 11 (sX fuel s o x)=sX fuel s o x:=nr rfl
@[simp] theorem sX_6' (h:6 < (sX fuel s o x).length):(sX fuel s o x)[6]'h=x:=nr rfl
@[simp] theorem sX_6:(sX fuel s o x)[6]?=some x:=nr rfl
end
theorem ccode_ref {fuel:Nat} {s:Sa} {e:En} {rho:Int} {c:Co} (hs:SB s) (he:EB e) (hk:K (resR fuel (code s e rho c)) σ):Ev PR 54 [sV fuel s O0,eV e,int rho,.agg (coC c)] σ K kp:=by
  refine Ev.pureD hk ((resR_dat _ _).low _) fun k' hk'=>?_
  apply F54_ev;unfold F54
  have lc:=coC_len c
  have tc:List.take 23 (coC c)=coC c:=List.take_of_length_le (by omega)
  simp [get_new,lc,tc]
  generalize hτ:AHeap.new _ (.cells 4 [[_,_,_,_]])=τ
  have hn:τ.next=σ.next+5:=by rw [← hτ];rfl
  have hg:Grows σ τ:=by rw [← hτ];exact ((((Grows.new _ _).trans (Grows.new _ _)).trans (Grows.new _ _)).trans (Grows.new _ _)).trans (Grows.new _ _)
  have g0:τ.get σ.next=some (.cells 11 [sC fuel s O0]):=by rw [← hτ];simp [get_new]
  have g1:τ.get (σ.next+1)=some (.cells 2 [eC e]):=by rw [← hτ];simp [get_new]
  have g2:τ.get (σ.next+2)=some (.cells 23 [coC c]):=by rw [← hτ];simp [get_new,lc]
  have g3:τ.get (σ.next+3)=some (.cells 11 [[int 0,int 0,nilSl,int 0,int 0,int 0,nilSl,u8 0,bool false,str ByteArray.empty,int 0]]):=by rw [← hτ];simp [get_new]
  have g4:τ.get (σ.next+4)=some (.cells 4 [V.zero.av]):=by rw [← hτ];simp [get_new,V.av,V.zero]
  clear hτ
  have hcl:=hs.codes
  refine stepK_of (app_sl0 (by simp;omega)) ?_
  simp [get_new,hn,g2,tc,lc]
  have ha:=app_own (σ:=τ.new (.cells 23 (s.codes.map coC))) (sz:=23) (bytes:=368) (id:=τ.next) (c:=true) (xs:=s.codes.map coC) (ys:=[coC c]) (by simp [get_new]) (by simp;omega)
  simp [hn] at ha
  refine stepK_of ha ?_
  simp [get_new,get_del,get_set,hn,g0,g1]
  have hw:IntKind.i64.wrap (s.codes.length:Int)=s.codes.length:=wrap64 (by omega)
  simp only [hw]
  generalize hυ:AHeap.set _ σ.next _=υ
  have un:υ.next=σ.next+7:=by rw [← hυ];simp [hn]
  have u6:υ.get (σ.next+6)=some (.cells 23 (s.codes.map coC ++ [coC c])):=by rw [← hυ];simp [get_new,get_set,hn]
  have u3:υ.get (σ.next+3)=some (.cells 11 [[int 0,int 0,nilSl,int 0,int 0,int 0,nilSl,u8 0,bool false,str ByteArray.empty,int 0]]):=by rw [← hυ];simp [get_new,get_set,get_del,hn,g3]
  have u4:υ.get (σ.next+4)=some (.cells 4 [V.zero.av]):=by rw [← hυ];simp [get_new,get_set,get_del,hn,g4]
  have ug:Grows σ υ:=by
    refine ⟨by omega,fun i hi=>?_⟩
    rw [← hυ]
    simp only [get_set,get_new,get_del,AHeap.new_next,AHeap.del_next,hn]
    repeat' rw [if_neg (by omega)]
    exact hg.get i hi
  clear hυ
  have e1:(coded s c).2.codes.map coC=s.codes.map coC ++ [coC c]:=by simp [coded]
  have fz:FzL υ (fun i=>i=σ.next+6) (sX fuel s O0 (.own (σ.next+6) (s.codes.length+1))) (sC fuel (coded s c).2 O0):=by
    have:sC fuel (coded s c).2 O0=sX fuel s O0 (.sl false 23 (s.codes.map coC ++ [coC c])):=by unfold sC sX;rw [e1];rfl
    rw [this]
    unfold sX
    refine .cons (.refl _) (.cons (.refl _) (.cons (.refl _) (.cons (.refl _) (.cons (.refl _) (.cons (.refl _) (.cons ?_ (.cons (.refl _) (.cons (.refl _) (.cons (.refl _) (.cons (.refl _) .nil))))))))))
    exact (FzR.refl _).own rfl (by simp) (rest:=[]) (by simpa using u6)
  refine Ev.freeze (args':=[sV fuel (coded s c).2 O0,eV e,int rho,.agg (coded s c).1.av]) (FzS.del υ (σ.next+6)) (.cons fz.agg (.cons (.refl _) (.cons (.refl _) (.cons (.refl _) .nil)))) ?_
  refine cput_ref hs.len hs.cells he ?_
  rw [show make (coded s c).2 e rho (coded s c).1=code s e rho c from rfl]
  have ug':Grows σ (υ.del (σ.next+6)):=⟨by simp;omega,fun i hi=>by rw [get_del,if_neg (by omega)];exact ug.get i hi⟩
  cases hr:code s e rho c with
  | ok v s' =>
    rw [hr] at hk'
    simp [resR,get_set,get_del,u3,u4]
    exact hk' _ ((ug'.set (by omega) _).set (by omega) _)
  | over s' k =>
    rw [hr] at hk'
    simp [resR,get_set,get_del,u3,u4]
    exact hk' _ ((ug'.set (by omega) _).set (by omega) _)
end Go.Abs.Mac
