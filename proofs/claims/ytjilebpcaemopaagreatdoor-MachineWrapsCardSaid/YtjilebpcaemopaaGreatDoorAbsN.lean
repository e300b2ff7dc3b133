import Derived.Test.YtjilebpcaemopaaGreatDoorAbsK
import Derived.WalkKit
import Derived.ProofKit
import Derived.OpenShut
import Derived.ShutString
import Derived.ChangeOld
import Derived.Below
set_option linter.unusedVariables false
set_option linter.unusedSimpArgs false
set_option linter.deprecated false
namespace Go.Abs
open Go Go.RowKit
theorem Ext.below {ρ' σ' w w'} (h:Ext (fun _=>none) ah.empty w ρ' σ' w'):Below w.heap.size w w':=
 ⟨h.os,h.tape,h.output,h.size,fun k hk=>(h.le.imm k ⟨hk,fun _ _ _ ho=>by simp[ah.empty]at ho⟩).2⟩
theorem Sim.empty (w:World):Sim (fun _=>none) ah.empty w:=
 ⟨fun _ _=>rfl,fun _ _ h=>by simp[ah.empty]at h,fun _ _ _ _ _ _ _ h=>by simp[ah.empty]at h⟩
inductive DV (P:Program):TypeId→List AV→Prop
 | int {t k n} (h:P.underlying t=some (.int k)) (hw:(Lit.int k n).wf=true):DV P t [.val (.int k n)]
 | bool {t b} (h:P.underlying t=some .bool):DV P t [.val (.bool b)]
 | str {t s} (h:P.underlying t=some .string) (hs:s.size≤maxLen):DV P t [.val (.string s)]
 | slice {t e xs} (h:P.underlying t=some (.slice e)) (hl:xs.length≤maxLen) (hx:∀el∈xs,DV P e el) (hz:∀el∈xs,el.length=P.cellsOf e):DV P t [.sl false (P.cellsOf e) xs]
 | nilp {t e} (h:P.underlying t=some (.pointer e)):DV P t [.val (.pointer none)]
 | ptr {t e cs} (h:P.underlying t=some (.pointer e)) (hx:DV P e cs) (hz:cs.length=P.cellsOf e):DV P t [.ref cs]
 | struct {t cs} {fs:Array Field} (h:P.underlying t=some (.struct fs)) (hl:cs.length=P.cellsOf t) (hf:∀(i:Nat) (f:Field),fs[i]?=some f→DV P f.type ((cs.drop f.offset).take (P.cellsOf f.type))):DV P t cs
def m6 (P:Program) (n:Nat):List Field→Nat→Bool
 | [],o=>decide (o=n)
 | f::fs,o=>decide (f.offset=o)&&m6 P n fs (o+P.cellsOf f.type)
def qT (P:Program) (S:List TypeId):Bool:=S.all fun t=>match P.underlying t with
 | some (.int _)=>true
 | some .bool=>true
 | some .string=>true
 | some (.slice e)=>decide (e∈S)&&decide (0<P.cellsOf e)
 | some (.pointer e)=>decide (e∈S)&&decide (0<P.cellsOf e)
 | some (.struct fs)=>m6 P (P.cellsOf t) fs.toList 0&&fs.toList.all fun f=>decide (f.type∈S)
 | _=>false
def Cells (c:Ctx) (els:List AV) (cs:List Value):Prop:=els.length=cs.length∧∀(i:Nat) (a:AV) v,els[i]?=some a→cs[i]?=some v→aL c a v∧v.oneCell'=true
theorem Cells.append {c els els' cs cs'} (h:Cells c els cs) (h':Cells c els' cs'):Cells c (els++els') (cs++cs'):=by
 refine⟨by simp[h.1,h'.1],fun i a v ha hv=> ?_⟩
 rw[List.getElem?_append]at ha hv
 rw[h.1]at ha
 split at ha
 ·rename_i hi;rw[if_pos hi]at hv;exact h.2 i a v ha hv
 ·rename_i hi;rw[if_neg hi]at hv;exact h'.2 _ a v ha hv
theorem tile {P:Program} {c:Ctx} {n:Nat}:∀(fs:List Field) (o:Nat) (cs:List Value),m6 P n fs o=true→cs.length+o=n→
 (∀f∈fs,o≤f.offset→∃els,Cells c els ((cs.drop (f.offset - o)).take (P.cellsOf f.type))∧DV P f.type els)→
 ∃els,Cells c els cs∧∀f∈fs,o≤f.offset∧DV P f.type ((els.drop (f.offset - o)).take (P.cellsOf f.type))
 | [],o,cs,ht,hl,_=>by
  simp only[m6,decide_eq_true_eq]at ht
  have:cs= []:=List.length_eq_zero_iff.1 (by omega)
  subst this
  exact⟨[],⟨rfl,by simp⟩,by simp⟩
 | f::fs,o,cs,ht,hl,hf=>by
  simp only[m6,Bool.and_eq_true,decide_eq_true_eq]at ht
  obtain⟨e1,ht⟩:=ht
  obtain⟨els1,h1,d1⟩:=hf f (by simp) (by omega)
  rw[e1,Nat.sub_self,List.drop_zero]at h1
  have hmono:∀(fs:List Field) (o:Nat),m6 P n fs o=true→o≤n∧∀g∈fs,o≤g.offset:=by
   intro fs
   induction fs with
   | nil=>intro o h;simp only[m6,decide_eq_true_eq]at h;exact⟨by omega,by simp⟩
   | cons g fs ih=>
    intro o h
    simp only[m6,Bool.and_eq_true,decide_eq_true_eq]at h
    obtain⟨a,b⟩:=ih _ h.2
    refine⟨by omega,fun g' hg'=> ?_⟩
    rcases List.mem_cons.1 hg' with rfl | h'
    ·omega
    ·have:=b g' h';omega
  obtain⟨hn,hoff⟩:=hmono fs _ ht
  obtain⟨els2,h2,d2⟩:=tile fs (o+P.cellsOf f.type) (cs.drop (P.cellsOf f.type)) ht (by simp;omega) (by
   intro g hg hgo
   obtain⟨els,a,b⟩:=hf g (by simp[hg]) (by omega)
   refine⟨els,?_,b⟩
   rw[List.drop_drop,show P.cellsOf f.type+(g.offset - (o+P.cellsOf f.type))=g.offset - o by omega]
   exact a)
  have hl1:els1.length=P.cellsOf f.type:=by rw[h1.1,List.length_take];omega
  refine⟨els1++els2,?_,?_⟩
  ·have:=h1.append h2
   rwa [List.take_append_drop]at this
  ·intro g hg
   rcases List.mem_cons.1 hg with rfl | hg'
   ·refine⟨by omega,?_⟩
    rw[e1,Nat.sub_self,List.drop_zero,List.take_append_of_le_length (by omega),List.take_of_length_le (by omega)]
    exact d1
   ·obtain⟨a,b⟩:=d2 g hg'
    refine⟨by omega,?_⟩
    rw[show g.offset - o=els1.length+(g.offset - (o+P.cellsOf f.type)) by omega,←List.drop_drop,List.drop_left]
    exact b
theorem ui {H:Type} {enc:TypeId×Value→H} {P:Program} {S:List TypeId} (hS:qT P S=true) {w:World} {held:Bool} {c:Ctx} (hh:c.h=w.heap) (hi:∀b,b<w.heap.size→c.imm b):
 ∀(fuel:Nat) (t:TypeId) (cs:List Value) x,t∈S→DataW.trod enc P w 0 (fun _=>true) held fuel t cs=some x→∃els,Cells c els cs∧DV P t els:=by
 intro fuel
 induction fuel with
 | zero=>intro t cs x _ h;simp[DataW.trod]at h
 | succ fuel ih=>
  intro t cs x ht h
  have hc:=List.all_eq_true.1 hS t ht
  have hrow:∀(a:Addr) (n:Nat) (vs:List Value),w.cells? 0 a n=some vs→∀els,Cells c els vs→0<n→a.spot=none∧c.imm a.block∧∀j,j<n→cellOf c.h a.block (a.off+j)=vs[j]?:=by
   intro a n vs hv els hels hn
   obtain⟨_,hl,hcell⟩:=World.cells?_some hv
   have hb:=World.cells?_block hv hn
   have h0:=hcell 0 hn
   obtain⟨v0,hv0⟩:∃v,vs[0]?=some v:=⟨_,List.getElem?_eq_getElem (by omega)⟩
   have hs:a.spot=none:=by simpa [Addr.add] using World.cell?_spot (h0.trans hv0)
   refine⟨hs,hi _ hb,fun j hj=> ?_⟩
   rw[hh,←iC,←hcell j hj]
   obtain⟨b,o,sp⟩:=a
   simp only at hs
   subst hs
   by_cases hj0:j=0
   ·subst hj0;rfl
   ·simp[Addr.add,hj0]
  split at hc
  ·rename_i k hu
   obtain⟨n,rfl,_,hw⟩:=DataW.trod_int hu h
   exact⟨[.val (.int k n)],⟨rfl,fun i a v ha hv=>by cases i<;>simp at ha hv;subst ha;subst hv;exact⟨.val _,rfl⟩⟩,.int hu hw⟩
  ·rename_i hu
   obtain⟨b,rfl,_⟩:=DataW.trod_bool hu h
   exact⟨[.val (.bool b)],⟨rfl,fun i a v ha hv=>by cases i<;>simp at ha hv;subst ha;subst hv;exact⟨.val _,rfl⟩⟩,.bool hu⟩
  ·rename_i hu
   obtain⟨s,rfl,_,hs⟩:=DataW.trod_string hu h
   exact⟨[.val (.string s)],⟨rfl,fun i a v ha hv=>by cases i<;>simp at ha hv;subst ha;subst hv;exact⟨.val _,rfl⟩⟩,.str hu hs⟩
  ·rename_i e hu
   obtain⟨he,hpos⟩:e∈S∧0<P.cellsOf e:=by simpa using hc
   rcases DataW.trod_slice hu h with ⟨rfl,_⟩ | ⟨a,len,cap,elems,rest,n,hn,rfl,_,_,hlc,hcm,hel,helem,_,_⟩
   ·exact⟨[.sl false (P.cellsOf e) []],⟨rfl,fun i a v ha hv=>by
     cases i<;>simp at ha hv;subst ha;subst hv
     exact⟨.sl (fun _ _=>undef) rfl (fun _=>⟨rfl,rfl⟩) (Nat.le_refl _) (by simp) (by simp) (by simp),rfl⟩⟩,.slice hu (by simp) (by simp) (by simp)⟩
   ·cases hn
    have hall:∀i,i<len→∃vs els,w.cells? 0 (a.add (i * P.cellsOf e)) (P.cellsOf e)=some vs∧Cells c els vs∧DV P e els:=by
     intro i hlt
     have h1:=helem i hlt
     obtain⟨y,hy⟩:∃y,elems[i]?=some y:=⟨_,List.getElem?_eq_getElem (by omega)⟩
     rw[hy]at h1
     obtain⟨vs,h2,h3⟩:=Option.bind_eq_some_iff.1 h1
     obtain⟨els,h4,h5⟩:=ih e vs y he h3
     exact⟨vs,els,h2,h4,h5⟩
    have hch:∃(fv:Nat→List Value) (fe:Nat→List AV),∀i,i<len→w.cells? 0 (a.add (i * P.cellsOf e)) (P.cellsOf e)=some (fv i)∧Cells c (fe i) (fv i)∧DV P e (fe i):=by
     refine⟨fun i=>if h:i<len then (hall i h).choose else [],fun i=>if h:i<len then (hall i h).choose_spec.choose else [],fun i hlt=> ?_⟩
     simp only[dif_pos hlt]
     exact(hall i hlt).choose_spec.choose_spec
    obtain⟨fv,fe,hf⟩:=hch
    have hfl:∀i,i<len→(fe i).length=P.cellsOf e:=fun i hlt=>by
     obtain⟨h1,h2,_⟩:=hf i hlt
     rw[h2.1];exact(World.cells?_some h1).2.1
    have hmem:∀el∈(List.range len).map fe,∃i,i<len∧el=fe i:=by
     intro el hm
     obtain⟨i,hi1,hi2⟩:=List.mem_map.1 hm
     exact⟨i,List.mem_range.1 hi1,hi2.symm⟩
    have hgi:∀i el,((List.range len).map fe)[i]?=some el→i<len∧el=fe i:=by
     intro i el hg
     simp only[List.getElem?_map,Option.map_eq_some_iff]at hg
     obtain⟨q,hq,rfl⟩:=hg
     have:=(List.getElem?_eq_some_iff.1 hq)
     obtain⟨h1,h2⟩:=this
     simp at h1 h2
     subst h2
     exact⟨h1,rfl⟩
    have hsp:(∀i,i<len→0<P.cellsOf e→a.spot=none∧c.imm a.block∧∀j,j<P.cellsOf e→cellOf c.h a.block (a.off+i * P.cellsOf e+j)=(fv i)[j]?):=by
     intro i hlt hpos
     obtain⟨h1,h2,_⟩:=hf i hlt
     have:=hrow _ _ _ h1 _ h2 hpos
     by_cases hi0:i * P.cellsOf e=0
     ·simpa [Addr.add,hi0] using this
     ·obtain⟨g1,g2,_⟩:=hf 0 (by omega)
      have h0:=hrow _ _ _ g1 _ g2 hpos
      simp[Addr.add]at h0
      refine⟨h0.1,?_⟩
      simpa [Addr.add,hi0] using this
    by_cases hz:len=0
    ·subst hz
     exact⟨[.sl false (P.cellsOf e) []],⟨rfl,fun i x v hx hv=>by
      cases i<;>simp at hx hv;subst hx;subst hv
      exact⟨.sl (fun _ _=>undef) rfl (fun h=>by cases h) hlc (by simp) (by simp) (by simp),rfl⟩⟩,.slice hu (by simp) (by simp) (by simp)⟩
    ·refine⟨[.sl false (P.cellsOf e) ((List.range len).map fe)],⟨rfl,fun i x v hx hv=> ?_⟩,.slice hu (by simp;omega) ?_ ?_⟩
     ·cases i<;>simp at hx hv
      subst hx;subst hv
      have h0:=hsp 0 (by omega) (by omega)
      obtain⟨b,o,sp⟩:=a
      obtain⟨hs0,himm,_⟩:=h0
      simp only at hs0
      subst hs0
      refine⟨.sl (fun i j=>(fv i)[j]?.getD undef) (by simp) (fun h=>by cases h) hlc (by simp) ?_ ?_,rfl⟩
      ·intro i el he'
       obtain⟨hlt,rfl⟩:=hgi i el he'
       refine⟨hfl i hlt,b,o,rfl,himm,fun j hj=> ?_⟩
       have h3:=(hsp i hlt (by omega)).2.2 j hj
       obtain⟨h1,h2,_⟩:=hf i hlt
       have hvl:(fv i).length=P.cellsOf e:=(World.cells?_some h1).2.1
       obtain⟨v,hv⟩:∃v,(fv i)[j]?=some v:=⟨_,List.getElem?_eq_getElem (by omega)⟩
       obtain⟨y,hy⟩:∃y,(fe i)[j]?=some y:=⟨_,List.getElem?_eq_getElem (by rw[hfl i hlt];omega)⟩
       rw[hv]at h3⊢
       exact⟨h3,(h2.2 j y v hy hv).2⟩
      ·intro i el j x he' hx
       obtain⟨hlt,rfl⟩:=hgi i el he'
       obtain⟨h1,h2,_⟩:=hf i hlt
       have hvl:(fv i).length=P.cellsOf e:=(World.cells?_some h1).2.1
       have hj:j<P.cellsOf e:=by rw[←hfl i hlt];exact(List.getElem?_eq_some_iff.1 hx).1
       obtain⟨v,hv⟩:∃v,(fv i)[j]?=some v:=⟨_,List.getElem?_eq_getElem (by omega)⟩
       rw[hv]
       exact(h2.2 j x v hx hv).1
     ·intro el hm
      obtain⟨i,hlt,rfl⟩:=hmem el hm
      exact(hf i hlt).2.2
     ·intro el hm
      obtain⟨i,hlt,rfl⟩:=hmem el hm
      exact hfl i hlt
  ·rename_i e hu
   obtain⟨he,hpos⟩:e∈S∧0<P.cellsOf e:=by simpa using hc
   rcases DataW.trod_pointer hu h with ⟨rfl,_⟩ | ⟨a,vs,y,n,hn,rfl,_,h1,h2⟩
   ·exact⟨[.val (.pointer none)],⟨rfl,fun i a v ha hv=>by cases i<;>simp at ha hv;subst ha;subst hv;exact⟨.val _,rfl⟩⟩,.nilp hu⟩
   ·cases hn
    obtain⟨els,h4,h5⟩:=ih e vs y he h2
    obtain⟨hs,himm,hcell⟩:=hrow _ _ _ h1 _ h4 hpos
    have hvl:vs.length=P.cellsOf e:=(World.cells?_some h1).2.1
    have hel:els.length=P.cellsOf e:=by rw[h4.1,hvl]
    obtain⟨b,o,sp⟩:=a
    simp only at hs
    subst hs
    refine⟨[.ref els],⟨rfl,fun i x v hx hv=> ?_⟩,.ptr hu h5 hel⟩
    cases i<;>simp at hx hv
    subst hx;subst hv
    refine⟨.ref (fun j=>vs[j]?.getD undef) himm (fun j hj=> ?_) (fun j x hx=> ?_),rfl⟩
    ·obtain⟨v,hv⟩:∃v,vs[j]?=some v:=⟨_,List.getElem?_eq_getElem (by omega)⟩
     obtain⟨y,hy⟩:∃y,els[j]?=some y:=⟨_,List.getElem?_eq_getElem hj⟩
     have h3:=hcell j (by omega)
     rw[hv]at h3⊢
     exact⟨h3,(h4.2 j y v hy hv).2⟩
    ·have hj:=(List.getElem?_eq_some_iff.1 hx).1
     obtain⟨v,hv⟩:∃v,vs[j]?=some v:=⟨_,List.getElem?_eq_getElem (by omega)⟩
     rw[hv]
     exact(h4.2 j x v hx hv).1
  ·rename_i fs hu
   simp only[Bool.and_eq_true,List.all_eq_true,decide_eq_true_eq]at hc
   obtain⟨xs,n,hn,_,hl,hxl,hfs⟩:=DataW.trod_struct hu h
   cases hn
   obtain⟨els,h1,h2⟩:=tile fs.toList 0 cs hc.1 (by omega) (c:=c) (fun f hf _=>by
    obtain⟨i,hi1,hi2⟩:=List.getElem_of_mem hf
    have hfi:fs[i]?=some f:=by
     rw[Array.getElem?_eq_some_iff];exact⟨by simpa using hi1,by simpa using hi2⟩
    have h3:=hfs i f hfi
    obtain⟨y,hy⟩:∃y,xs[i]?=some y:=⟨_,List.getElem?_eq_getElem (by rw[hxl];simpa using hi1)⟩
    rw[hy]at h3
    obtain⟨els,a,b⟩:=ih f.type _ y (hc.2 f hf) h3
    exact⟨els,by simpa using a,b⟩)
   refine⟨els,h1,.struct hu (by rw[h1.1,hl]) fun i f hf=> ?_⟩
   have:=(h2 f (by obtain⟨hlt,rfl⟩:=Array.getElem?_eq_some_iff.1 hf;simp)).2
   simpa using this
  ·simp at hc
theorem j8 {H:Type} {enc:TypeId×Value→H} {P:Program} {S:List TypeId} (hS:qT P S=true) {w:World} {held:Bool} {t:TypeId} {cs:Array Value} {d:DataW H} {ps:List MemPlace} (ht:t∈S)
 (h:DataW.Trod enc P w 0 (fun _=>true) held t (.agg cs) d ps):∃els,aL (ctx (fun _=>none) ah.empty w) (.agg els) (.agg cs)∧DV P t els:=by
 obtain⟨fuel,hf⟩:=h
 obtain⟨els,h2,h3⟩:=ui hS (c:=ctx (fun _=>none) ah.empty w) rfl (fun b hb=>⟨hb,fun _ _ _ ho=>by simp[ah.empty]at ho⟩) fuel t _ _ ht hf
 refine⟨els,?_,h3⟩
 simp only[Value.cells]at h2
 refine .agg (by simpa using h2.1) (fun i v hv=> ?_) (fun i x v hx hv=>(h2.2 i x v hx (by simpa using hv)).1)
 obtain⟨x,hx⟩:∃x,els[i]?=some x:=⟨_,List.getElem?_eq_getElem (by have:=(Array.getElem?_eq_some_iff.1 hv).1;have:=h2.1;simp at this;omega)⟩
 exact(h2.2 i x v hx (by simpa using hv)).2
theorem qS {P:Program} {f:FuncId} {xs:List AV} {vs:Array Value} {w:World} (hr:ix (ctx (fun _=>none) ah.empty w) xs vs)
 (hc:gX P f) (h:Ev P f xs ah.empty (fun x _=>x= .val (.bool true)) (fun _ _=>False)):Calls P f vs w fun e w'=>e= .returned (.bool true)∧Below w.heap.size w w':=by
 refine((h _ w vs (Sim.empty w) hr).calls hc).mono ?_
 rintro e w' ⟨ρ',σ',he,_,hp⟩
 cases e with
 | returned v=>obtain⟨x,rfl,hv⟩:=hp;cases hv;exact⟨rfl,he.below⟩
 | panicked chain=>obtain⟨x,v,_,hf,_⟩:=hp;exact hf.elim
 | outgrown=>exact hp.elim
inductive FK where
 | i (k:IntKind) | b | s
def BY:FK→AV→Prop
 | .i k,x=>∃n,x= .val (.int k n)∧(Lit.int k n).wf=true
 | .b,x=>∃b,x= .val (.bool b)
 | .s,x=>∃s,x= .val (.string s)∧s.size≤maxLen
def cA:List FK→List AV→Prop
 | [],xs=>xs= []
 | k::ks,xs=>∃x r,xs=x::r∧BY k x∧cA ks r
def sy (P:Program) (rec:TypeId→Option (List FK)):List Field→Nat→Option (List FK)
 | [],_=>some []
 | f::fs,o=>if f.offset=o then match rec f.type with
  | some l=>if l.length=P.cellsOf f.type then (sy P rec fs (o+l.length)).map (l++ ·) else none
  | none=>none
  else none
def flat (P:Program):Nat→TypeId→Option (List FK)
 | 0,_=>none
 | d+1,t=>match P.underlying t with
  | some (.int k)=>some [.i k]
  | some .bool=>some [.b]
  | some .string=>some [.s]
  | some (.struct fs)=>match sy P (flat P d) fs.toList 0 with
   | some l=>if l.length=P.cellsOf t then some l else none
   | none=>none
  | _=>none
theorem cA.len:∀ {ks xs},cA ks xs→xs.length=ks.length
 | [],xs,h=>by simp only[cA]at h;subst h;rfl
 | k::ks,xs,h=>by obtain⟨x,r,rfl,_,h⟩:=h;simp[cA.len h]
theorem cA.append:∀ {ks ls xs ys},cA ks xs→cA ls ys→cA (ks++ls) (xs++ys)
 | [],ls,xs,ys,h,h'=>by simp only[cA]at h;subst h;exact h'
 | k::ks,ls,xs,ys,h,h'=>by
  obtain⟨x,r,rfl,h1,h2⟩:=h
  exact⟨x,r++ys,rfl,h1,cA.append h2 h'⟩
theorem oz {P:Program} {rec:TypeId→Option (List FK)}:∀(fs:List Field) (o:Nat) (ks:List FK) (cs:List AV),sy P rec fs o=some ks→cs.length=ks.length→
 (∀f∈fs,∀l,rec f.type=some l→o≤f.offset→cA l ((cs.drop (f.offset - o)).take (P.cellsOf f.type)))→cA ks cs
 | [],o,ks,cs,h,hl,_=>by
  simp only[sy,Option.some.injEq]at h
  subst h
  exact List.length_eq_zero_iff.1 (by simpa using hl)
 | f::fs,o,ks,cs,h,hl,hf=>by
  simp only[sy]at h
  split at h
  ·rename_i e
   split at h
   ·rename_i l hr
    split at h
    ·rename_i hn
     obtain⟨m,hm,rfl⟩:=Option.map_eq_some_iff.1 h
     have h1:=hf f (by simp) l hr (by omega)
     rw[e,Nat.sub_self,List.drop_zero,←hn]at h1
     have h2:=oz fs (o+l.length) m (cs.drop l.length) hm (by simp at hl⊢;omega) (by
      intro g hg l' hr' ho
      have:=hf g (by simp[hg]) l' hr' (by omega)
      rw[List.drop_drop,show l.length+(g.offset - (o+l.length))=g.offset - o by omega]
      exact this)
     have:=h1.append h2
     rwa [List.take_append_drop]at this
    ·cases h
   ·cases h
  ·cases h
theorem dC {P:Program}:∀(d:Nat) (t:TypeId) (ks:List FK) (cs:List AV),flat P d t=some ks→DV P t cs→cA ks cs
 | 0,_,_,_,h,_=>by simp[flat]at h
 | d+1,t,ks,cs,h,hd=>by
  unfold flat at h
  cases hd with
  | int hu hw=>rw[hu]at h;cases h;exact⟨_,_,rfl,⟨_,rfl,hw⟩,rfl⟩
  | bool hu=>rw[hu]at h;cases h;exact⟨_,_,rfl,⟨_,rfl⟩,rfl⟩
  | str hu hs=>rw[hu]at h;cases h;exact⟨_,_,rfl,⟨_,rfl,hs⟩,rfl⟩
  | slice hu=>rw[hu]at h;cases h
  | nilp hu=>rw[hu]at h;cases h
  | ptr hu=>rw[hu]at h;cases h
  | struct hu hl hf=>
   rename_i fs
   rw[hu]at h
   simp only at h
   split at h
   ·rename_i l hs
    split at h
    ·rename_i hn
     cases h
     refine oz fs.toList 0 ks cs hs (by rw[hl,hn]) ?_
     intro f hm l' hr _
     obtain⟨i,hi1,hi2⟩:=List.getElem_of_mem hm
     have hfi:fs[i]?=some f:=by
      rw[Array.getElem?_eq_some_iff];exact⟨by simpa using hi1,by simpa using hi2⟩
     exact dC d f.type l' _ hr (by simpa using hf i f hfi)
    ·cases h
   ·cases h
theorem DV.iu {P:Program} {t e:TypeId} {cs:List AV} (h:DV P t cs) (hu:P.underlying t=some (.slice e)):∃xs,cs= [.sl false (P.cellsOf e) xs]∧xs.length≤maxLen∧∀el∈xs,DV P e el∧el.length=P.cellsOf e:=by
 cases h with
 | int h=>rw[hu]at h;cases h
 | bool h=>rw[hu]at h;cases h
 | str h=>rw[hu]at h;cases h
 | slice h hl hx hz=>
  rename_i e' xs
  rw[hu]at h
  simp only[Option.some.injEq,TypeDesc.slice.injEq]at h
  subst h
  exact⟨xs,rfl,hl,fun el he=>⟨hx el he,hz el he⟩⟩
 | nilp h=>rw[hu]at h;cases h
 | ptr h=>rw[hu]at h;cases h
 | struct h=>rw[hu]at h;cases h
theorem gM {P:Program} {w:World} {r:Reach} {base:Nat} {t:TypeId} {v:Value} {fs:Array Field} (hu:P.underlying t=some (.struct fs)) (h:Value.okWide P w r base t v):∃cs,v= .agg cs:=by
 simp only[Value.okWide,hu]at h
 exact h.imp fun _ h=>h.1
end Go.Abs
set_option linter.unusedVariables false
namespace Go.Abs
open Go
theorem qO {c:Ctx} {x0 v0 x1 v1 x2 v2 x3 v3} (h0:aL c x0 v0) (h1:aL c x1 v1) (h2:aL c x2 v2) (h3:aL c x3 v3):ix c [x0,x1,x2,x3] #[v0,v1,v2,v3]:=⟨rfl,fun i y u hy hu=>by
 match i with
 | 0=>simp at hy hu;subst hy;subst hu;exact h0
 | 1=>simp at hy hu;subst hy;subst hu;exact h1
 | 2=>simp at hy hu;subst hy;subst hu;exact h2
 | 3=>simp at hy hu;subst hy;subst hu;exact h3
 | i+4=>simp at hy⟩
end Go.Abs
