import Derived.Test.YtjilebpcaemopaaGreatDoorAtermDecC
import Derived.Test.YtjilebpcaemopaaGreatDoorAtB
import Derived.Lib.Bytealg
set_option linter.unusedVariables false
set_option linter.unusedSimpArgs false
namespace Go.Abs.At
open Go Go.Abs Go.Proofs.AtD
attribute [local simp] Nat.add_assoc
def Byte (c:Int):Prop:=0≤c∧c≤255
theorem bytesOf_byte {s:ByteArray} {c:Int} (h:c ∈ bytesOf s):Byte c:=by
  obtain ⟨b,_,rfl⟩:=List.mem_map.1 h
  have:=b.toNat_lt
  exact ⟨by omega,by omega⟩
@[simp] theorem bytesOf_len (s:ByteArray):(bytesOf s).length=s.size:=by simp [bytesOf]
theorem aIndexStr_at {s:ByteArray} {i:Nat} {c:Int} (h:(bytesOf s)[i]?=some c) (k:IntKind):aIndexStr (str s) (.val (.int k i))=some (u8 c):=by
  simp only [bytesOf,List.getElem?_map,Option.map_eq_some_iff] at h
  obtain ⟨b,hb,rfl⟩:=h
  have hb':s[i]?=some b:=by
    have hi:=(List.getElem?_eq_some_iff.1 hb).1
    have hi':i < s.size:=by simpa using hi
    rw [getElem?_pos s i hi']
    rw [List.getElem?_eq_getElem hi] at hb
    rw [← Option.some.inj hb]
    rfl
  simp [aIndexStr,hb']
theorem indexByte_mem (l:List UInt8) (c:UInt8):0≤Go.Lib.indexByte l c↔c ∈ l:=by
  induction l with
  | nil=>simp [Go.Lib.indexByte]
  | cons b l ih =>
    unfold Go.Lib.indexByte
    by_cases hb:b=c
    · subst hb;simp
    · have:(b == c)=false:=by simpa using hb
      simp only [this,Bool.false_eq_true,if_false]
      have hge:=Go.Lib.indexByte_ge l c
      by_cases h1:Go.Lib.indexByte l c=-1
      · have hn:c ∉ l:=fun h=>by have:=ih.2 h;omega
        simp [h1,hn,Ne.symm hb]
      · have hn:c ∈ l:=ih.1 (by omega)
        have h2:(Go.Lib.indexByte l c == -1)=false:=by simpa using h1
        simp [h2,hn];omega
theorem mem_bytes {s:ByteArray} {c:Int} (hc:Byte c):c.toNat.toUInt8 ∈ s.data.toList↔c ∈ bytesOf s:=by
  obtain ⟨h0,h1⟩:=hc
  constructor
  · intro h
    refine List.mem_map.2 ⟨_,h,?_⟩
    have:c.toNat.toUInt8.toNat=c.toNat:=by
      rw [Nat.toUInt8_eq,UInt8.toNat_ofNat']
      omega
    omega
  · intro h
    obtain ⟨b,hb,rfl⟩:=List.mem_map.1 h
    simpa using hb
theorem indexByteStr_ev {s:ByteArray} {c:Int} (hc:Byte c) {σ:AHeap} {k kp:AV→AHeap→Prop} (hk:∀ r:Int,(0≤r↔c ∈ bytesOf s)→k (int r) σ):Ev PR 220 [str s,u8 c] σ k kp:=by
  apply F220_ev;unfold F220
  apply F225_ev;unfold F225
  refine Ev.ext (fn:=Go.Proofs.Tryz.f227) (e:=Extern.BytealgIndexByte.indexByte) Go.Proofs.Tryz.func227 (by kernel_rfl) (by kernel_rfl) (by kernel_rfl) (by kernel_rfl) (fun ctx w vs ha=>?_)
  obtain ⟨h1,h2⟩:=ha
  obtain ⟨a,b,rfl⟩:∃ a b,vs=#[a,b]:=by
    match vs,h1 with
    | ⟨[a,b]⟩,_=>exact ⟨a,b,rfl⟩
  obtain rfl:=(h2 0 _ a rfl rfl).val_inv
  obtain rfl:=(h2 1 _ b rfl rfl).val_inv
  exact ⟨_,_,Go.Lib.run_indexByteString s c w,hk _ ((indexByte_mem _ _).trans (mem_bytes hc)),.val _⟩
def classM (c:Int):Int :=
  if c=32∨c=9∨c=10 then 1
  else if 48≤c∧c≤57 then 2
  else if 97≤c∧c≤122 then 3
  else if 65≤c∧c≤90 then 4
  else if c ∈ [(40:Int),41,44,33,58,61,62,43,45,42,60,59] then 5
  else 0
theorem class_ev {c:Int} (hc:Byte c) {σ:AHeap} {k kp:AV→AHeap→Prop} (hk:k (u8 (classM c)) σ):Ev PR 209 [u8 c] σ k kp:=by
  apply F209_ev;unfold F209
  refine indexByteStr_ev hc fun r hr=>?_
  have e1:(0≤r)=(c=32∨c=9∨c=10):=by
    rw [hr];simp [bytesOf]
  by_cases h1:c=32∨c=9∨c=10
  · have:(0:Int)≤r:=by rw [e1];exact h1
    simp [this]
    simpa [classM,h1] using hk
  · have:¬ (0:Int)≤r:=by rw [e1];exact h1
    simp [this]
    have fin:∀ v,classM c=v→k (u8 v) σ:=fun v h=>by rw [← h];exact hk
    have go:¬ (48≤c∧c≤57)→¬ (97≤c∧c≤122)→¬ (65≤c∧c≤90)→Ev PR 220 [str ⟨#[40,41,44,33,58,61,62,43,45,42,60,59]⟩,u8 c] σ (fun t30 σ_1=>stepK (pureR σ_1 (aBin .geq .prim t30 (int 0))) fun t31 σ_2=>condK t31 (k (u8 5) σ_2) (k (u8 0) σ_2)) kp:=fun b1 b2 b3=>by
      refine indexByteStr_ev hc fun r hr=>?_
      have e2:(0≤r)=(c ∈ [(40:Int),41,44,33,58,61,62,43,45,42,60,59]):=by
        rw [hr];simp [bytesOf]
      by_cases h5:c ∈ [(40:Int),41,44,33,58,61,62,43,45,42,60,59]
      · have:(0:Int)≤r:=by rw [e2];exact h5
        simp [this]
        exact fin 5 (by unfold classM;rw [if_neg h1,if_neg b1,if_neg b2,if_neg b3,if_pos h5])
      · have:¬ (0:Int)≤r:=by rw [e2];exact h5
        simp [this]
        exact fin 0 (by unfold classM;rw [if_neg h1,if_neg b1,if_neg b2,if_neg b3,if_neg h5])
    by_cases a1:48≤c <;> by_cases a2:c≤57 <;> by_cases a3:97≤c <;> by_cases a4:c≤122 <;> by_cases a5:65≤c <;> by_cases a6:c≤90 <;> simp [a1,a2,a3,a4,a5,a6]
    all_goals first
      | (exfalso;omega)
      | exact go (by omega) (by omega) (by omega)
      | exact fin 2 (by unfold classM;rw [if_neg h1,if_pos (by omega)])
      | exact fin 3 (by unfold classM;rw [if_neg h1,if_neg (by omega),if_pos (by omega)])
      | exact fin 4 (by unfold classM;rw [if_neg h1,if_neg (by omega),if_neg (by omega),if_pos (by omega)])
def tab:List Int:=[40,41,44,33,58,61,62,43,45,42,60,59]
theorem class_ref {c:Int} {σ:AHeap} {k kp:AV→AHeap→Prop} (hk:k (u8 (classM c)) σ):Ev PR 173 [u8 c] σ k kp:=by
  refine Ev.pureD hk ((Dat.val _).low _) fun k' hk'=>?_
  have fin:∀ v,classM c=v→k' (u8 v) σ:=fun v h=>by rw [← h];exact hk' _ (Grows.refl _)
  apply F173_ev;unfold F173
  by_cases b1:c=32 <;> by_cases b2:c=9 <;> by_cases b3:c=10 <;> by_cases a1:48≤c <;> by_cases a2:c≤57 <;> by_cases a3:97≤c <;> by_cases a4:c≤122 <;> by_cases a5:65≤c <;> by_cases a6:c≤90
  all_goals first
    | (exfalso;omega)
    | (simp [b1,b2,b3,a1,a2,a3,a4,a5,a6];exact fin 1 (by unfold classM;rw [if_pos (by omega)]))
    | (simp [b1,b2,b3,a1,a2,a3,a4,a5,a6];exact fin 2 (by unfold classM;rw [if_neg (by omega),if_pos (by omega)]))
    | (simp [b1,b2,b3,a1,a2,a3,a4,a5,a6];exact fin 3 (by unfold classM;rw [if_neg (by omega),if_neg (by omega),if_pos (by omega)]))
    | (simp [b1,b2,b3,a1,a2,a3,a4,a5,a6];exact fin 4 (by unfold classM;rw [if_neg (by omega),if_neg (by omega),if_neg (by omega),if_pos (by omega)]))
    | skip
  all_goals
    have e5:c ∈ tab→classM c=5:=fun h=>by unfold classM;rw [if_neg (by omega),if_neg (by omega),if_neg (by omega),if_neg (by omega)];exact if_pos h
    have e0:c ∉ tab→classM c=0:=fun h=>by unfold classM;rw [if_neg (by omega),if_neg (by omega),if_neg (by omega),if_neg (by omega)];exact if_neg h
    have hl:tab.length=12:=rfl
    simp [b1,b2,b3,a1,a2,a3,a4,a5,a6]
    refine seqW_in ?_
    refine loopW_by (fun j:Nat=>[(0,u8 c),(3,.sl true 1 (tab.map fun b=>[u8 b])),(35,int 12),(36,int j)]) (fun j φ=>φ=σ∧j≤12∧c ∉ tab.take j) (fun fr _=>12 - (intOf (look fr 36)).toNat) 0 (by simp [tab]) ⟨rfl,by simp,by simp⟩ ?_
    rintro j φ ⟨rfl,hj,hne⟩
    simp
    by_cases hjl:j < 12
    · obtain ⟨t,ht⟩:=get_some (l:=tab) (i:=j) (by omega)
      have hix:∀ ω,aIndexAddr 1 (.sl true 1 (tab.map fun b=>[u8 b])) (int j) ω=some (.ref [u8 t]):=fun ω=>by rw [aIndexAddr_sl];simp [ht]
      have hjl':(j:Int) < 12:=by omega
      simp [hjl',hix]
      by_cases hc:t=c
      · subst hc
        simp
        exact fin 5 (e5 (List.mem_of_getElem? ht))
      · simp [hc]
        rw [wrap64 (by omega)]
        refine ⟨⟨j+1,by simp,by omega,fun h=>?_⟩,by omega⟩
        rw [List.take_add_one,ht] at h
        rcases List.mem_append.1 h with h | h
        · exact hne h
        · simp at h;exact hc h.symm
    · have hall:tab.take j=tab:=List.take_of_length_le (by omega)
      rw [hall] at hne
      have hjl':¬ (j:Int) < 12:=by omega
      simp [hjl']
      exact fin 0 (e0 hne)
def shapeM (s:ByteArray) (first:Int):Bool:=match bytesOf s with
  | []=>false
  | c :: l=>decide (l.length < 16) && decide (classM c=first) && (c :: l).all fun c=>decide (2≤classM c∧classM c≤4)
theorem shape_ref {s:ByteArray} {f:Int} {σ:AHeap} {k kp:AV→AHeap→Prop} (hk:k (bool (shapeM s f)) σ):Ev PR 134 [str s,u8 f] σ k kp:=by
  have fin:∀ v,shapeM s f=v→k (bool v) σ:=fun v h=>by rw [← h];exact hk
  apply F134_ev;unfold F134
  have hbl:=bytesOf_len s
  cases hb:bytesOf s with
  | nil =>
    have h0:s.size=0:=by rw [← hbl,hb];rfl
    obtain rfl:s=ByteArray.empty:=by simpa using h0
    simp
    exact fin false (by unfold shapeM;rw [hb])
  | cons c l =>
    have h1:s.size=l.length+1:=by rw [← hbl,hb];rfl
    have h0:¬ s=ByteArray.empty:=by rintro rfl;simp at h1
    by_cases h16:(16:Int) < s.size
    · simp [h0,h16]
      exact fin false (by unfold shapeM;rw [hb];simp;omega)
    · have hix:aIndexStr (str s) (int 0)=some (u8 c):=aIndexStr_at (i:=0) (by rw [hb];rfl) .i64
      simp [h0,h16,hix]
      have hl16:l.length < 16:=by omega
      refine class_ref ?_
      by_cases hcf:classM c=f
      · simp [hcf]
        refine seqW_in ?_
        refine loopW_by (fun j:Nat=>[(0,str s),(5,int j)]) (fun j φ=>φ=σ∧j≤s.size∧∀ x ∈ (bytesOf s).take j,2≤classM x∧classM x≤4) (fun fr _=>s.size - (intOf (look fr 5)).toNat) 0 (by simp) ⟨rfl,by simp,by simp⟩ ?_
        rintro j φ ⟨rfl,hj,hall⟩
        simp
        by_cases hjl:j < s.size
        · obtain ⟨x,hx⟩:=get_some (l:=bytesOf s) (i:=j) (by omega)
          simp [hjl,aIndexStr_at hx]
          refine class_ref ?_
          by_cases k1:2≤classM x
          · by_cases k2:classM x≤4
            · have n1:¬ classM x < 2:=by omega
              have n2:¬ 4 < classM x:=by omega
              simp [n1,n2]
              rw [wrap64 (by omega)]
              refine ⟨⟨j+1,by simp,by omega,fun y hy=>?_⟩,by omega⟩
              rw [List.take_add_one,hx] at hy
              rcases List.mem_append.1 hy with h | h
              · exact hall y h
              · simp at h;subst h;exact ⟨k1,k2⟩
            · have n1:¬ classM x < 2:=by omega
              have n2:4 < classM x:=by omega
              simp [n1,n2]
              refine fin false ?_
              have hm:=List.mem_of_getElem? hx
              unfold shapeM
              rw [hb] at hm ⊢
              simp only [Bool.and_eq_false_iff]
              exact .inr (List.all_eq_false.2 ⟨x,hm,by simp;omega⟩)
          · have n1:classM x < 2:=by omega
            simp [n1]
            refine fin false ?_
            have hm:=List.mem_of_getElem? hx
            unfold shapeM
            rw [hb] at hm ⊢
            simp only [Bool.and_eq_false_iff]
            exact .inr (List.all_eq_false.2 ⟨x,hm,by simp;omega⟩)
        · rw [List.take_of_length_le (by omega)] at hall
          simp [hjl]
          refine fin true ?_
          unfold shapeM
          rw [hb] at hall ⊢
          simp only [Bool.and_eq_true]
          exact ⟨⟨by simpa using hl16,by simpa using hcf⟩,List.all_eq_true.2 fun x hx=>by simpa using hall x hx⟩
      · simp [hcf]
        refine fin false ?_
        unfold shapeM
        rw [hb]
        simp [hcf]
def Good (c:Int):Prop:=2≤classM c∧classM c≤4
instance (c:Int):Decidable (Good c):=inferInstanceAs (Decidable (_∧_))
abbrev cls3:AV:=.sl true 1 [[u8 3],[u8 4],[u8 2]]
theorem findBad_ev {s:ByteArray} {q:Nat} (hb:s.size < 1000000000000) {σ:AHeap} (hq:σ.get q=some (.cells 1 [[cls3]])) {k kp:AV→AHeap→Prop}
    (hk:∀ r:Int,(if (∀ x ∈ bytesOf s,Good x) then r=-1 else 0≤r∧r < s.size)→k (int r) σ):Ev PR 221 [u8V (bytesOf s),.fn (.func 222) [.ptr q 0 0]] σ k kp:=by
  apply F221_ev;unfold F221
  have hbl:=bytesOf_len s
  simp
  refine seqW_in ?_
  refine loopW_by (fun j:Nat=>[(0,u8V (bytesOf s)),(1,.fn (.func 222) [.ptr q 0 0]),(7,int s.size),(8,int j)]) (fun j φ=>φ=σ∧j≤s.size∧∀ x ∈ (bytesOf s).take j,Good x) (fun fr _=>s.size - (intOf (look fr 8)).toNat) 0 (by simp) ⟨rfl,by simp,by simp⟩ ?_
  rintro j φ ⟨rfl,hj,hall⟩
  simp
  by_cases hjl:j < s.size
  · obtain ⟨x,hx⟩:=get_some (l:=bytesOf s) (i:=j) (by omega)
    have hxb:=bytesOf_byte (List.mem_of_getElem? hx)
    have hix:∀ ω,aIndexAddr 1 (u8V (bytesOf s)) (int j) ω=some (.ref [u8 x]):=fun ω=>by rw [aIndexAddr_sl];simp [hx]
    simp [hjl,hix]
    show Ev PR 222 _ _ _ _
    apply F222_ev;unfold F222
    simp [hq]
    refine class_ev hxb ?_
    simp [hq]
    refine Ev.weak (args':=[u8V [3,4,2],u8 (classM x)]) (.cons Fz.clip (.cons (.refl _) .nil)) ?_
    refine contains_ev (by simp) ?_
    by_cases hg:Good x
    · have:classM x ∈ [(3:Int),4,2]:=by
        have h1:=hg.1;have h2:=hg.2
        simp;omega
      simp only [this,decide_true,aNot_bool,Bool.not_true]
      simp
      rw [wrap64 (by omega)]
      refine ⟨⟨j+1,by simp,by omega,fun y hy=>?_⟩,by omega⟩
      rw [List.take_add_one,hx] at hy
      rcases List.mem_append.1 hy with h | h
      · exact hall y h
      · simp at h;subst h;exact hg
    · have:classM x ∉ [(3:Int),4,2]:=by
        intro h
        apply hg
        simp at h
        unfold Good
        omega
      simp only [this,decide_false,aNot_bool,Bool.not_false]
      simp
      refine hk _ ?_
      rw [if_neg (fun h=>hg (h x (List.mem_of_getElem? hx)))]
      omega
  · rw [List.take_of_length_le (by omega)] at hall
    simp [hjl]
    refine hk _ ?_
    rw [if_pos hall]
theorem span_ev {s:ByteArray} (hs:0 < s.size) (hb:s.size < 1000000000000) {σ:AHeap} {k kp:AV→AHeap→Prop}
    (hk:∀ r:Int,(r=s.size↔∀ x ∈ bytesOf s,Good x)→k (int r) σ):Ev PR 210 [u8V (bytesOf s),int 0,cls3] σ k kp:=by
  refine Ev.pureE ?_
  apply F210_ev;unfold F210
  have hbl:=bytesOf_len s
  have h0:¬ s=ByteArray.empty:=by rintro rfl;simp at hs
  have h0':¬ ((s.size:Int)≤0):=by omega
  simp [h0,h0',hbl]
  have w:IntKind.i64.wrap (s.size:Int)=s.size:=wrap64 (by omega)
  refine findBad_ev hb (by simp [get_new]) fun r hr=>?_
  by_cases hall:∀ x ∈ bytesOf s,Good x
  · rw [if_pos hall] at hr
    subst hr
    simp [w]
    exact ⟨Grows.new _ _,.val _,hk _ ⟨fun _=>hall,fun _=>rfl⟩⟩
  · rw [if_neg hall] at hr
    have:¬ r < 0:=by omega
    simp [this]
    exact ⟨Grows.new _ _,.val _,hk _ ⟨fun h=>by omega,fun h=>absurd h hall⟩⟩
theorem shaped_ev {s:ByteArray} {f:Int} {σ:AHeap} {k kp:AV→AHeap→Prop} (hk:k (bool (shapeM s f)) σ):Ev PR 188 [str s,u8 f] σ k kp:=by
  have fin:∀ v,shapeM s f=v→k (bool v) σ:=fun v h=>by rw [← h];exact hk
  apply F188_ev;unfold F188
  have hbl:=bytesOf_len s
  cases hb:bytesOf s with
  | nil =>
    have h0:s.size=0:=by rw [← hbl,hb];rfl
    obtain rfl:s=ByteArray.empty:=by simpa using h0
    simp [empty_eq]
    exact fin false (by unfold shapeM;rw [hb])
  | cons c l =>
    have h1:s.size=l.length+1:=by rw [← hbl,hb];rfl
    have h0:¬ s=ByteArray.empty:=by rintro rfl;simp at h1
    by_cases h16:(16:Int) < s.size
    · simp [h0,h16,empty_eq]
      exact fin false (by unfold shapeM;rw [hb];simp;omega)
    · have hix:aIndexStr (str s) (int 0)=some (u8 c):=aIndexStr_at (i:=0) (by rw [hb];rfl) .i64
      simp [h0,h16,hix,empty_eq]
      have hl16:l.length < 16:=by omega
      refine class_ev (bytesOf_byte (s:=s) (by rw [hb];simp)) ?_
      by_cases hcf:classM c=f
      · simp [hcf,bytesV_of]
        refine span_ev (by omega) (by omega) fun r hr=>?_
        have e:shapeM s f=decide (r=s.size):=by
          rw [hb] at hr
          unfold shapeM
          rw [hb]
          simp only [hl16,hcf,decide_true,Bool.true_and]
          rw [Bool.eq_iff_iff,List.all_eq_true,decide_eq_true_iff,hr]
          constructor
          · intro h x hx;exact of_decide_eq_true (h x hx)
          · intro h x hx;exact decide_eq_true (h x hx)
        simp
        exact fin _ e
      · simp [hcf]
        refine fin false ?_
        unfold shapeM
        rw [hb]
        simp [hcf]
theorem exn_ref {s:ByteArray} {σ:AHeap} {k kp:AV→AHeap→Prop} (hk:k (bool (shapeM s 4)) σ):Ev PR 138 [str s] σ k kp:=by
  apply F138_ev;unfold F138
  exact shape_ref hk
theorem all1_ev {s:ByteArray} {g:FuncId} {b:Bool} (hg:∀ (σ:AHeap) (k kp:AV→AHeap→Prop),k (bool b) σ→Ev PR g [str s] σ k kp) {σ:AHeap} {k kp:AV→AHeap→Prop} (hk:k (bool b) σ):Ev PR 186 [.fn (.func g) [],.sl true 1 [[str s]]] σ k kp:=by
  refine Ev.pureD hk ((Dat.val _).low _) fun k' hk'=>?_
  apply F186_ev;unfold F186
  simp
  apply F207_ev;unfold F207
  apply F219_ev;unfold F219
  simp
  refine seqW_in ?_
  generalize hτ:σ.new _=τ
  have hG:Grows σ τ:=by rw [← hτ];exact Grows.new _ _
  have hq:τ.get σ.next=some (.cells 1 [[.fn (.func g) []]]):=by rw [← hτ];simp [get_new]
  clear hτ
  refine loopW_by (fun j:Nat=>[(0,.sl true 1 [[str s]]),(1,.fn (.func 208) [.ptr σ.next 0 0]),(7,int 1),(8,int j)]) (fun j φ=>φ=τ∧(j=0∨j=1∧b=true)) (fun fr _=>1 - (intOf (look fr 8)).toNat) 0 (by simp) ⟨rfl,.inl rfl⟩ ?_
  rintro j φ ⟨rfl,rfl | ⟨rfl,hb⟩⟩
  · simp [aIndexAddr_sl]
    show Ev PR 208 _ _ _ _
    apply F208_ev;unfold F208
    simp [hq]
    show Ev PR g _ _ _ _
    refine hg _ _ _ ?_
    cases b with
    | true =>
      simp
      exact ⟨1,rfl,.inr rfl⟩
    | false =>
      simp
      exact hk' _ hG
  · subst hb
    simp
    exact hk' _ hG
theorem exn_ev {s:ByteArray} {σ:AHeap} {k kp:AV→AHeap→Prop} (hk:k (bool (shapeM s 4)) σ):Ev PR 163 [.sl true 1 [[str s]]] σ k kp:=by
  apply F163_ev;unfold F163
  refine all1_ev (fun σ k kp hk=>?_) hk
  apply F187_ev;unfold F187
  exact shaped_ev hk
end Go.Abs.At
namespace Go.Abs.At
open Go Go.Abs Go.Proofs.AtD
attribute [local simp] Nat.add_assoc
def atomM (a:Atom):Bool :=
  if a.kind=3 then decide (a.rho=0) && shapeM a.exn 4
  else (decide (a.kind=1) || decide (a.kind=2)) && decide (0≤a.rho) && decide (a.exn=ByteArray.empty)
abbrev Atom.v (a:Atom):AV:=.agg a.av
theorem Atom.av_eq (a:Atom):a.av=[u8 a.kind,int a.rho,str a.exn]:=rfl
theorem atom_ref {a:Atom} {σ:AHeap} {k kp:AV→AHeap→Prop} (hk:k (bool (atomM a)) σ):Ev PR 105 [a.v] σ k kp:=by
  refine Ev.pureD hk ((Dat.val _).low _) fun k' hk'=>?_
  apply F105_ev;unfold F105
  obtain ⟨kd,rho,exn⟩:=a
  simp [Atom.av,empty_eq]
  generalize hτ:σ.new _=τ
  have g0:τ.get σ.next=some (.cells 3 [[u8 kd,int rho,str exn]]):=by rw [← hτ];simp [get_new]
  have hG:Grows σ τ:=by rw [← hτ];exact Grows.new _ _
  clear hτ
  have fin:∀ v,atomM ⟨kd,rho,exn⟩=v→k' (bool v) τ:=fun v h=>by rw [← h];exact hk' _ hG
  by_cases h3:kd=3
  · by_cases h00:rho=0
    · simp [g0,h3,h00]
      refine exn_ref ?_
      exact fin _ (by simp [atomM,h3,h00])
    · simp [g0,h3,h00]
      exact fin _ (by simp [atomM,h3,h00])
  · by_cases h1:kd=1 <;> by_cases h2:kd=2 <;> by_cases h0:0≤rho <;> by_cases he:exn=ByteArray.empty
    all_goals first
      | (exfalso;omega)
      | (simp [g0,h3,h1,h2,h0,he];exact fin _ (by simp [atomM,h3,h1,h2,h0,he]))
theorem atom_ev {a:Atom} {σ:AHeap} {k kp:AV→AHeap→Prop} (hk:k (bool (atomM a)) σ):Ev PR 120 [a.v] σ k kp:=by
  refine Ev.pureD hk ((Dat.val _).low _) fun k' hk'=>?_
  apply F120_ev;unfold F120
  obtain ⟨kd,rho,exn⟩:=a
  simp [Atom.av,empty_eq]
  generalize hτ:σ.new _=τ
  have g0:τ.get σ.next=some (.cells 3 [[u8 kd,int rho,str exn]]):=by rw [← hτ];simp [get_new]
  have hG:Grows σ τ:=by rw [← hτ];exact Grows.new _ _
  clear hτ
  have fin:∀ v,atomM ⟨kd,rho,exn⟩=v→k' (bool v) τ:=fun v h=>by rw [← h];exact hk' _ hG
  refine seqW_in ?_
  by_cases h1:kd=1 <;> by_cases h2:kd=2 <;> by_cases h3:kd=3 <;> by_cases h0:0≤rho <;> by_cases h00:rho=0 <;> by_cases he:exn=ByteArray.empty
  all_goals first
    | (exfalso;omega)
    | (simp [g0,h3,h1,h2,h0,h00,he];exact fin _ (by simp [atomM,h3,h1,h2,h0,h00,he]))
    | skip
  all_goals
    simp [g0,h3,h1,h2,h0,h00]
    refine exn_ev ?_
    exact fin _ (by simp [atomM,h3,h1,h2,h0,h00])
@[simp] theorem Atom.av_len (a:Atom):a.av.length=3:=rfl
theorem eff_at {l:List Atom} {j:Nat} {t:Atom} (h:l[j]?=some t) (ω:AHeap):aIndexAddr 3 (effV l) (int j) ω=some (.ref t.av):=by
  rw [effV,aIndexAddr_sl];simp [h]
theorem Atom.take3 (a:Atom):a.av.take 3=a.av:=rfl
def withinM (a b:List Atom):Bool:=a.all fun x=>!atomM x || decide (x ∈ b)
end Go.Abs.At
namespace Go.Abs.At
open Go Go.Abs Go.Proofs.AtD
attribute [local simp] Nat.add_assoc
@[simp] theorem RT.av_head (t:RT):t.av.head?=some (u8 t.kind):=by cases t;rfl
mutual
def RT.same:RT→RT→Bool
  | .mk k r e ks,.mk k' r' e' ks'=>decide (k=k') && decide (r=r') && (withinM e e' && withinM e' e) && RT.sames ks ks'
def RT.sames:List RT→List RT→Bool
  | [],[]=>true
  | a :: l,b :: m=>RT.same a b && RT.sames l m
  | [],_ :: _=>false
  | _ :: _,[]=>false
end
theorem RT.kids_len (t:RT):t.kids.length < t.size:=by
  obtain ⟨k,r,e,ks⟩:=t
  have:∀ l:List RT,l.length≤RT.sizes l:=by
    intro l
    induction l with
    | nil=>simp
    | cons a l ih=>have:=a.size_pos;simp [RT.sizes];omega
  have:=this ks
  simp [RT.size,RT.kids];omega
theorem RT.smalls_mem {l:List RT} (h:RT.smalls l):∀ t ∈ l,t.small:=by
  induction l with
  | nil=>simp
  | cons a l ih =>
    intro t ht
    simp only [RT.smalls] at h
    rcases List.mem_cons.1 ht with rfl | ht
    · exact h.1
    · exact ih h.2 t ht
structure RT.Ok (t:RT):Prop where
  small:t.small
  size:t.size≤100
theorem RT.Ok.eff {t:RT} (h:t.Ok):t.eff.length < 1000000000000:=by
  obtain ⟨k,r,e,ks⟩:=t
  have:=h.1
  simp only [RT.small,effOk] at this
  simp only [RT.eff]
  omega
theorem RT.Ok.kid {t k:RT} (h:t.Ok) (hk:k ∈ t.kids):k.Ok:=by
  have:=RT.kids_lt hk
  obtain ⟨k1,r,e,ks⟩:=t
  exact ⟨RT.smalls_mem h.1.2 k hk,by have:=h.2;omega⟩
end Go.Abs.At
namespace Go.Abs.At
open Go Go.Abs Go.Proofs.AtD
attribute [local simp] Nat.add_assoc
mutual
def AT.same:AT→AT→Bool
  | .mk h r rs e t s ks,.mk h' r' rs' e' t' s' ks'=>decide (h=h') && decide (r=r') && decide (rs=rs') && (withinM e e' && withinM e' e) && RT.same t t' && RT.same s s' && AT.sames ks ks'
def AT.sames:List AT→List AT→Bool
  | [],[]=>true
  | a :: l,b :: m=>AT.same a b && AT.sames l m
  | [],_ :: _=>false
  | _ :: _,[]=>false
end
theorem eqHead (x a:Head):eqLeaves [.i,.i,.i,.i,.s,.s,.s] x.av a.av=some (decide (x=a)):=by
  obtain ⟨a1,a2,a3,a4,a5,a6,a7⟩:=x
  obtain ⟨b1,b2,b3,b4,b5,b6,b7⟩:=a
  simp [Head.av,Bool.and_assoc]
structure AT.Ok (t:AT):Prop where
  small:t.small
  size:t.size≤400
theorem AT.Ok.rhos {t:AT} (h:t.Ok):t.rhos.length < 1000000000000:=by
  obtain ⟨a,b,c,d,e,f,g⟩:=t
  have:=h.1
  simp only [AT.small] at this
  simp only [AT.rhos]
  omega
theorem AT.Ok.eff {t:AT} (h:t.Ok):t.eff.length < 1000000000000:=by
  obtain ⟨a,b,c,d,e,f,g⟩:=t
  have:=h.1
  simp only [AT.small,effOk] at this
  simp only [AT.eff]
  omega
theorem AT.Ok.type {t:AT} (h:t.Ok):t.type.Ok:=by
  obtain ⟨a,b,c,d,e,f,g⟩:=t
  have:=h.1
  simp only [AT.small] at this
  exact ⟨this.2.2.2.1.2,this.2.2.2.1.1⟩
theorem AT.Ok.res {t:AT} (h:t.Ok):t.res.Ok:=by
  obtain ⟨a,b,c,d,e,f,g⟩:=t
  have:=h.1
  simp only [AT.small] at this
  exact ⟨this.2.2.2.2.1.2,this.2.2.2.2.1.1⟩
theorem AT.Ok.kid {t k:AT} (h:t.Ok) (hk:k ∈ t.kids):k.Ok:=by
  have:=AT.kids_lt hk
  obtain ⟨a,b,c,d,e,f,g⟩:=t
  have h1:=h.1
  simp only [AT.small] at h1
  exact ⟨AT.smalls_mem h1.2.2.2.2.2 k hk,by have:=h.2;omega⟩
end Go.Abs.At
