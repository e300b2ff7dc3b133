import Derived.Test.YtjilebpcaemopaaGreatDoorMStkC
import Derived.Test.YtjilebpcaemopaaGreatDoorDocDec
import Derived.Test.YtjilebpcaemopaaGreatDoorAbsO
set_option linter.unusedVariables false
set_option linter.unusedSimpArgs false
namespace Go.Abs.Stk
open Go Go.Abs Go.Proofs.DocD
variable {σ:AHeap} {k kp:AV→AHeap→Prop}
attribute [local simp] Nat.add_assoc
def CellOk (c:List AV):Prop:=c.length=10∧∀ x ∈ c,Dat x
theorem CellOk.len {c:List AV} (h:CellOk c):c.length=10:=h.1
theorem CellOk.dat {c:List AV} (h:CellOk c):∀ x ∈ c,Dat x:=h.2
def rowV (p:Bool × Row):List AV:=[.val (.bool p.1),.sl false 10 p.2]
def rowsV (l:List (Bool × Row)):List (List AV):=l.map rowV
abbrev avR (R C:Int) (rows:List (List AV)) (most:Int):AV:=.agg [int R,int C,.sl false 2 rows,int most]
abbrev avS (s:S):AV:=avR s.R s.C (rowsV s.L) s.most
@[simp] theorem rowsV_len (l:List (Bool × Row)):(rowsV l).length=l.length:=by simp [rowsV]
def Cok (l:List (Bool × Row)):Prop:=∀ p ∈ l,∀ c ∈ p.2,CellOk c
theorem rowsV_dat {l:List (Bool × Row)} (h:Cok l):∀ el ∈ rowsV l,∀ x ∈ el,Dat x:=by
  intro el hel x hx
  obtain ⟨p,hp,rfl⟩:=List.mem_map.1 hel
  simp only [rowV,List.mem_cons,List.not_mem_nil,or_false] at hx
  rcases hx with rfl | rfl
  · exact .val _
  · exact .sl fun c hc y hy=>(h p hp c hc).dat y hy
theorem avS_dat {s:S} (h:Cok s.L):Dat (avS s):=.agg fun x hx=>by
  simp only [List.mem_cons,List.not_mem_nil,or_false] at hx
  rcases hx with rfl | rfl | rfl | rfl
  · exact .val _
  · exact .val _
  · exact .sl (rowsV_dat h)
  · exact .val _
theorem in_ev {n lo hi:Int} (hk:k (int (clampI n lo hi)) σ):Ev PR 49 [int n,int lo,int hi] σ k kp:=by
  apply F49_ev;unfold F49
  unfold clampI at hk
  by_cases h1:n < lo
  · rw [if_pos h1] at hk;simpa [h1] using hk
  · rw [if_neg h1] at hk
    by_cases h2:hi < n
    · rw [if_pos h2] at hk;simpa [h1,h2] using hk
    · rw [if_neg h2] at hk;simpa [h1,h2] using hk
theorem frzS {τ:AHeap} {n:Nat} {R C:Int} {x:AV} {rows:List (List AV)} {most:Int} (h:Frz τ n x (.sl false 2 rows)):Frz τ n (.agg [int R,int C,x,int most]) (avR R C rows most) :=
  (FrzL.cons (.low (.val _)) (.cons (.low (.val _)) (.cons h (.cons (.low (.val _)) .nil)))).agg
theorem new_ref {r c:Int} (hk:k (avS (SG.new r c)) σ):Ev PR 30 [.agg [int r,int c]] σ k kp:=by
  refine Ev.pure ?_
  apply F30_ev;unfold F30
  simp [get_new]
  refine in_ev ?_
  simp [get_new]
  refine in_ev ?_
  simp [get_new]
  refine ⟨((Grows.new _ _).trans (Grows.new _ _)).set (by simp) _,_,frzS (.sl (ys:=rowsV [(true,[])]) rfl (fun i el fl h1 h2=>?_) (fun i el fl j x y h1 h2 h3 h4=>?_)),hk⟩
  · cases i <;> simp [rowsV,rowV] at h1 h2
    subst h1;subst h2;rfl
  · cases i <;> simp [rowsV,rowV] at h1 h2
    subst h1;subst h2
    match j with
    | 0=>simp at h3 h4;subst h3;subst h4;exact .low (.val _)
    | 1=>simp at h3 h4;subst h3;subst h4;exact .nil
    | j+2=>simp at h3
theorem count_ref {s:S} (hl:s.L.length < 4611686018427387904) (hc:s.cells < 4611686018427387904) (hk:k (.tup [int s.live.length,int s.cells]) σ):Ev PR 32 [avS s] σ k kp:=by
  refine Ev.pureD hk (Dat.low (.tup fun x hx=>by simp only [List.mem_cons,List.not_mem_nil,or_false] at hx;rcases hx with rfl | rfl <;> exact .val _) _) fun k' hk'=>?_
  apply F32_ev;unfold F32
  simp
  refine seqW_in ?_
  have hrows:∀ ω,aLenK .slice (.sl false 2 (rowsV s.L)) ω=some (int s.L.length):=fun ω=>by simp
  simp [hrows]
  refine loopW_by (fun j:Nat=>[(1,AV.ptr σ.next 0 0),(4,int (idx (s.L.take j) 0).length),(5,int (tot (s.L.take j))),(9,int s.L.length),(10,int j)])
    (fun j τ=>j≤s.L.length∧τ=σ.new (.cells 4 [[int s.R,int s.C,.sl false 2 (rowsV s.L),int s.most]])) (fun fr _=>s.L.length - (intOf (look fr 10)).toNat) 0 (by simp [idx,tot]) ⟨by simp,rfl⟩ ?_
  rintro j τ ⟨hj,rfl⟩
  simp
  by_cases hjl:j < s.L.length
  · obtain ⟨⟨b,c⟩,hp⟩:=get_some hjl
    have hix:∀ ω,aIndexAddr 2 (.sl false 2 (rowsV s.L)) (int j) ω=some (.ref [.val (.bool b),.sl false 10 c]):=fun ω=>by rw [aIndexAddr_sl];simp [rowsV,hp,rowV]
    have htake:s.L.take (j+1)=s.L.take j ++ [(b,c)]:=by rw [List.take_add_one,hp];rfl
    have e1:(idx (s.L.take (j+1)) 0).length=(idx (s.L.take j) 0).length+(if b=true then 1 else 0):=by rw [htake,idx_append];cases b <;> simp [idx]
    have e2:tot (s.L.take (j+1))=tot (s.L.take j)+(if b=true then c.length else 0):=by rw [htake,tot_append];cases b <;> simp [tot]
    have b1:(idx (s.L.take (j+1)) 0).length≤s.L.length:=by
      have:(idx (s.L.take (j+1)) 0).length≤(idx s.L 0).length:=by
        conv=>rhs;rw [← List.take_append_drop (j+1) s.L,idx_append]
        simp
      have h2:=live_len s
      exact Nat.le_trans this h2
    have b2:tot (s.L.take (j+1))≤s.cells:=by
      show _≤tot s.L
      conv=>rhs;rw [← List.take_append_drop (j+1) s.L,tot_append]
      omega
    simp [hjl]
    refine seqW_in ?_
    simp [hix]
    cases b with
    | true =>
      simp only [if_true] at e1 e2
      simp [hix]
      rw [wrap64 (by omega),wrap64 (by omega),wrap64 (by omega)]
      exact ⟨⟨j+1,⟨by omega,by omega,rfl⟩,by omega⟩,by omega⟩
    | false =>
      simp at e1 e2
      simp
      rw [wrap64 (by omega)]
      exact ⟨⟨j+1,⟨by omega,by omega,rfl⟩,by omega⟩,by omega⟩
  · have:s.L.take j=s.L:=List.take_of_length_le (by omega)
    simp [hjl,this]
    exact hk' _ (Grows.new _ _)
theorem live_ref {s:S} {r:Int} (hk:k (.val (.bool (s.row r).isSome)) σ):Ev PR 130 [avS s,int r] σ k kp:=by
  refine Ev.pureD hk (Dat.low (.val _) _) fun k' hk'=>?_
  apply F130_ev;unfold F130
  simp
  have hk2:=hk' _ (Grows.new σ (.cells 4 [[int s.R,int s.C,.sl false 2 (rowsV s.L),int s.most]]))
  by_cases h0:0≤r
  · obtain ⟨n,rfl⟩:=Int.eq_ofNat_of_zero_le h0
    have hlen:∀ ω,aLenK .slice (.sl false 2 (rowsV s.L)) ω=some (int s.L.length):=fun ω=>by simp
    simp [hlen]
    by_cases hn:n < s.L.length
    · obtain ⟨⟨b,c⟩,hp⟩:=get_some hn
      have hix:∀ ω,aIndexAddr 2 (.sl false 2 (rowsV s.L)) (int n) ω=some (.ref [.val (.bool b),.sl false 10 c]):=fun ω=>by rw [aIndexAddr_sl];simp [rowsV,hp,rowV]
      simp [hn,hix]
      have:(s.row n).isSome=b:=by unfold SG.row;rw [at_nat];unfold rowAt;rw [hp];cases b <;> rfl
      rwa [this] at hk2
    · have:(s.row n).isSome=false:=by unfold SG.row;rw [at_nat];unfold rowAt;rw [List.getElem?_eq_none (by omega)];rfl
      rw [this] at hk2
      simpa [hn] using hk2
  · have:(s.row r).isSome=false:=by unfold SG.row at';rw [if_neg h0];rfl
    rw [this] at hk2
    simpa [h0] using hk2
theorem with_ref {R C most:Int} {rows:List (List AV)} {i:Nat} {b:Bool} {x:AV} (hx:acells x=some [x]) (hlow:Low σ.next x) (hrows:∀ el ∈ rows,el.length=2∧∀ y ∈ el,Low σ.next y) (hi:i < rows.length) (hl:rows.length < 1099511627776)
    (hk:k (avR R C (rows.set i [.val (.bool b),x]) most) σ):Ev PR 129 [avR R C rows most,int i,.agg [.val (.bool b),x]] σ k kp:=by
  refine Ev.pure ?_
  apply F129_ev;unfold F129
  simp
  generalize hτ:(((σ.new (.cells 4 [[int R,int C,.sl false 2 rows,int most]])).new (.cells 2 [[.val (.bool b),x]])).new (.cells 4 [[int 0,int 0,nilSl,int 0]])).new (.cells 2 [])=τ
  have hg:Grows σ τ:=by rw [← hτ];exact (((Grows.new _ _).trans (Grows.new _ _)).trans (Grows.new _ _)).trans (Grows.new _ _)
  have hn:τ.next=σ.next+4:=by rw [← hτ];rfl
  have g0:τ.get σ.next=some (.cells 4 [[int R,int C,.sl false 2 rows,int most]]):=by rw [← hτ];simp [get_new]
  have g1:τ.get (σ.next+1)=some (.cells 2 [[.val (.bool b),x]]):=by rw [← hτ];simp [get_new]
  have g2:τ.get (σ.next+2)=some (.cells 4 [[int 0,int 0,nilSl,int 0]]):=by rw [← hτ];simp [get_new]
  have g3:τ.get (σ.next+3)=some (.cells 2 []):=by rw [← hτ];simp [get_new]
  simp [g0]
  refine stepK_of (aAppend_rows (by':=32) (xs:=[]) (ys:=rows) (.inr (.inr ⟨σ.next+3,[],rfl,by simpa using g3⟩)) (by simp) (.inr (.inl ⟨false,rfl⟩)) (by simp;omega)) ?_
  generalize hυ:(gone (.own (σ.next+3) 0) τ).new (.cells 2 ([] ++ rows))=υ
  have v0:υ.get σ.next=some (.cells 4 [[int R,int C,.sl false 2 rows,int most]]):=by rw [← hυ];simp [gone,get_new,get_del,hn,g0,g1,g2,g3]
  have v1:υ.get (σ.next+1)=some (.cells 2 [[.val (.bool b),x]]):=by rw [← hυ];simp [gone,get_new,get_del,hn,g0,g1,g2,g3]
  have v2:υ.get (σ.next+2)=some (.cells 4 [[int 0,int 0,nilSl,int 0]]):=by rw [← hυ];simp [gone,get_new,get_del,hn,g0,g1,g2,g3]
  have v4:υ.get (σ.next+4)=some (.cells 2 rows):=by rw [← hυ];simp [gone,get_new,get_del,hn,g0,g1,g2,g3]
  have vn:υ.next=σ.next+5:=by rw [← hυ];simp [hn]
  have vg:Grows σ υ:=by
    refine ⟨by omega,fun j hj=>?_⟩
    rw [← hυ]
    simp only [gone,get_new,get_del,AHeap.del_next,hn]
    rw [if_neg (by omega),if_neg (by omega)]
    exact hg.get j hj
  obtain ⟨el,hel⟩:=get_some hi
  have hel2:=(hrows el (List.mem_of_getElem? hel)).1
  have e4:elAt υ (σ.next+4) i=some el:=by rw [elAt_cells v4];exact hel
  have hix:aIndexAddr 2 (.own (σ.next+4) rows.length) (int i) υ=some (.ptr (σ.next+4) i 0):=by
    rw [aIndexAddr_own,if_pos (by omega)]
    simp only [Int.toNat_natCast,e4,Option.bind_some,hel2,if_true]
  simp [v1,hn,hix,v4,hel,hel2,hx]
  have w0:(υ.set (σ.next+4) (.cells 2 (rows.set i (.val (.bool b) :: x :: List.drop 2 el)))).get σ.next=some (.cells 4 [[int R,int C,.sl false 2 rows,int most]]):=by rw [get_set,if_neg (by omega)];exact v0
  simp [w0,get_set,v2]
  refine ⟨((vg.set (by omega) _).set (Nat.le_refl _) _).set (by omega) _,_,frzS ?_,hk⟩
  refine FrzR.own (xs:=rows.set i (.val (.bool b) :: x :: List.drop 2 el)) (rest:=[]) ?_ (by omega) (by simp) (by simp [get_set])
  have hd:List.drop 2 el=[]:=List.drop_of_length_le (by omega)
  rw [hd]
  refine FrzR.set ?_ i (FrzR.refl fun el hel y hy=>(hrows el hel).2 y hy)
  exact .cons (.low (.val _)) (.cons (.low hlow) .nil)
theorem find_ref {s:S} {kd n r a:Int} (hk:k (int (s.find kd n r a)) σ):Ev PR 133 [avS s,valV kd n r a] σ k kp:=by
  refine Ev.pureD hk (Dat.low (.val _) _) fun k' hk'=>?_
  apply F133_ev;unfold F133
  simp
  generalize hτ:(σ.new (.cells 4 [[int s.R,int s.C,.sl false 2 (rowsV s.L),int s.most]])).new (.cells 4 [[u8 kd,int n,int r,int a]])=τ
  have hg:Grows σ τ:=by rw [← hτ];exact (Grows.new _ _).trans (Grows.new _ _)
  have g0:τ.get σ.next=some (.cells 4 [[int s.R,int s.C,.sl false 2 (rowsV s.L),int s.most]]):=by rw [← hτ];simp [get_new]
  have g1:τ.get (σ.next+1)=some (.cells 4 [[u8 kd,int n,int r,int a]]):=by rw [← hτ];simp [get_new]
  have hk2:=hk' τ hg
  by_cases h1:kd ≠ 2∨n ≠ 0
  · have hf:s.find kd n r a=1:=by simp only [SG.find,if_pos h1]
    rw [hf] at hk2
    by_cases h2:kd=2
    · have h3:n ≠ 0:=by omega
      simpa [h2,h3,g1] using hk2
    · simpa [h2,g1] using hk2
  · have h2:kd=2:=by omega
    have h3:n=0:=by omega
    subst h2;subst h3
    have hf:s.find 2 0 r a=match s.row r with | none=>6 | some row=>if a < 0∨row.length≤a then 1 else 0:=by simp only [SG.find,if_neg h1];cases s.row r <;> rfl
    simp [g0,g1]
    refine live_ref ?_
    cases hrow:s.row r with
    | none =>
      rw [hf,hrow] at hk2
      simpa using hk2
    | some row =>
      rw [hf,hrow] at hk2
      simp only at hk2
      obtain ⟨ri,rfl,hL,hri⟩:=SG.row_nat hrow
      have hix:∀ ω,aIndexAddr 2 (.sl false 2 (rowsV s.L)) (int ri) ω=some (.ref [.val (.bool true),.sl false 10 row]):=fun ω=>by rw [aIndexAddr_sl];simp [rowsV,hL,rowV]
      by_cases ha:a < 0
      · rw [if_pos (.inl ha)] at hk2
        simpa [ha,g0,g1] using hk2
      · by_cases hb:(row.length:Int)≤a
        · rw [if_pos (.inr hb)] at hk2
          simpa [ha,hb,g0,g1,hix] using hk2
        · rw [if_neg (by omega)] at hk2
          simpa [ha,hb,g0,g1,hix] using hk2
theorem get_ref {s:S} (hs:Cok s.L) {kd n r a:Int}
    (hk1:s.find kd n r a ≠ 0→k (.tup [.agg zeroC,int (s.find kd n r a)]) σ)
    (hk0:s.find kd n r a=0→∀ row (i:Nat) c,s.row r=some row→a=i→row[i]?=some c→k (.tup [.agg c,int 0]) σ):Ev PR 132 [avS s,valV kd n r a] σ k kp:=by
  by_cases hf:s.find kd n r a=0
  · have hf0:=hf
    unfold SG.find at hf0
    split at hf0
    · cases hf0
    · split at hf0
      · cases hf0
      · rename_i h1 row hrow
        split at hf0
        · cases hf0
        · rename_i ha
          obtain ⟨i,rfl⟩:=Int.eq_ofNat_of_zero_le (a:=a) (by omega)
          obtain ⟨c,hc⟩:=get_some (l:=row) (i:=i) (by omega)
          obtain ⟨ri,rfl,hL,hri⟩:=SG.row_nat hrow
          have hcc:CellOk c:=hs _ (List.mem_of_getElem? hL) c (List.mem_of_getElem? hc)
          refine Ev.pureD (hk0 hf row i c hrow rfl hc) (Dat.low (.tup fun x hx=>?_) _) fun k' hk'=>?_
          · simp only [List.mem_cons,List.not_mem_nil,or_false] at hx
            rcases hx with rfl | rfl
            · exact .agg hcc.dat
            · exact .val _
          apply F132_ev;unfold F132
          simp
          generalize hτ:((σ.new (.cells 4 [[int s.R,int s.C,.sl false 2 (rowsV s.L),int s.most]])).new (.cells 4 [[u8 kd,int n,int ri,int i]])).new (.cells 10 [zeroC])=τ
          have hg:Grows σ τ:=by rw [← hτ];exact ((Grows.new _ _).trans (Grows.new _ _)).trans (Grows.new _ _)
          have g0:τ.get σ.next=some (.cells 4 [[int s.R,int s.C,.sl false 2 (rowsV s.L),int s.most]]):=by rw [← hτ];simp [get_new]
          have g1:τ.get (σ.next+1)=some (.cells 4 [[u8 kd,int n,int ri,int i]]):=by rw [← hτ];simp [get_new]
          have g2:τ.get (σ.next+2)=some (.cells 10 [zeroC]):=by rw [← hτ];simp [get_new]
          have hix:∀ ω,aIndexAddr 2 (.sl false 2 (rowsV s.L)) (int ri) ω=some (.ref [.val (.bool true),.sl false 10 row]):=fun ω=>by rw [aIndexAddr_sl];simp [rowsV,hL,rowV]
          have hix2:∀ ω,aIndexAddr 10 (.sl false 10 row) (int i) ω=some (.ref c):=fun ω=>by rw [aIndexAddr_sl];simp [hc]
          simp [g0,g1]
          refine find_ref ?_
          simp [hf,g0,g1,g2,hix,hix2,hcc.len,List.take_of_length_le (Nat.le_of_eq hcc.len),List.drop_of_length_le (Nat.le_of_eq hcc.len)]
          exact hk' _ (hg.set (by omega) _)
  · refine Ev.pureD (hk1 hf) (Dat.low (.tup fun x hx=>?_) _) fun k' hk'=>?_
    · simp only [List.mem_cons,List.not_mem_nil,or_false] at hx
      rcases hx with rfl | rfl
      · exact .agg fun y hy=>by
          simp only [List.mem_cons,List.not_mem_nil,or_false] at hy
          rcases hy with rfl | rfl | rfl | rfl | rfl | rfl | rfl | rfl | rfl | rfl <;> exact .val _
      · exact .val _
    apply F132_ev;unfold F132
    simp
    generalize hτ:((σ.new (.cells 4 [[int s.R,int s.C,.sl false 2 (rowsV s.L),int s.most]])).new (.cells 4 [[u8 kd,int n,int r,int a]])).new (.cells 10 [zeroC])=τ
    have hg:Grows σ τ:=by rw [← hτ];exact ((Grows.new _ _).trans (Grows.new _ _)).trans (Grows.new _ _)
    have g0:τ.get σ.next=some (.cells 4 [[int s.R,int s.C,.sl false 2 (rowsV s.L),int s.most]]):=by rw [← hτ];simp [get_new]
    have g1:τ.get (σ.next+1)=some (.cells 4 [[u8 kd,int n,int r,int a]]):=by rw [← hτ];simp [get_new]
    have g2:τ.get (σ.next+2)=some (.cells 10 [zeroC]):=by rw [← hτ];simp [get_new]
    simp [g0,g1]
    refine find_ref ?_
    simp [hf,g2]
    exact hk' _ (hg.set (by omega) _)
theorem rowsV_low {l:List (Bool × Row)} (h:Cok l) (n:Nat):∀ el ∈ rowsV l,el.length=2∧∀ y ∈ el,Low n y:=by
  intro el hel
  refine ⟨?_,fun y hy=>(rowsV_dat h el hel y hy).low n⟩
  obtain ⟨p,_,rfl⟩:=List.mem_map.1 hel
  rfl
theorem rowsV_set (l:List (Bool × Row)) (i:Nat) (b:Bool) (c:Row):(rowsV l).set i [.val (.bool b),.sl false 10 c]=rowsV (l.set i (b,c)):=by
  simp [rowsV,List.map_set,rowV]
theorem push_ref {s:S} (hs:Cok s.L) (hl:s.L.length < 1099511627776) (hc:s.cells < 4611686018427387904)
    (hk:if s.live.length < s.R then k (.tup [avS s.more,int s.L.length,.val (.bool true)]) σ else k (.tup [avS s,int 0,.val (.bool false)]) σ):Ev PR 95 [avS s] σ k kp:=by
  have hd:=avS_dat hs
  by_cases hR:(s.live.length:Int) < s.R
  · rw [if_pos hR] at hk
    refine Ev.pure ?_
    apply F95_ev;unfold F95
    simp
    generalize hτ:(σ.new (.cells 4 [[int s.R,int s.C,.sl false 2 (rowsV s.L),int s.most]])).new (.cells 4 [[int 0,int 0,nilSl,int 0]])=τ
    have hg:Grows σ τ:=by rw [← hτ];exact (Grows.new _ _).trans (Grows.new _ _)
    have hn:τ.next=σ.next+2:=by rw [← hτ];rfl
    have g0:τ.get σ.next=some (.cells 4 [[int s.R,int s.C,.sl false 2 (rowsV s.L),int s.most]]):=by rw [← hτ];simp [get_new]
    have g1:τ.get (σ.next+1)=some (.cells 4 [[int 0,int 0,nilSl,int 0]]):=by rw [← hτ];simp [get_new]
    simp [g0]
    refine count_ref (by omega) hc ?_
    simp [g0,show ¬ s.R≤(s.live.length:Int) by omega,get_new,hn]
    refine stepK_of (aAppend_rows (by':=32) (xs:=[]) (ys:=rowsV s.L) (.inr (.inr ⟨σ.next+2,[],rfl,by simp [get_new,hn]⟩)) (by simp) (.inr (.inl ⟨false,rfl⟩)) (by simp;omega)) ?_
    simp [gone,get_new,get_del,hn,g0]
    generalize hυ:(((τ.new (.cells 2 [])).del (σ.next+2)).new (.cells 2 (rowsV s.L))).new (.cells 2 [[.val (.bool true),nilSl]])=υ
    have u0:υ.get σ.next=some (.cells 4 [[int s.R,int s.C,.sl false 2 (rowsV s.L),int s.most]]):=by rw [← hυ];simp [get_new,get_del,hn,g0]
    have u1:υ.get (σ.next+1)=some (.cells 4 [[int 0,int 0,nilSl,int 0]]):=by rw [← hυ];simp [get_new,get_del,hn,g1]
    have u3:υ.get (σ.next+3)=some (.cells 2 (rowsV s.L)):=by rw [← hυ];simp [get_new,get_del,hn]
    have u4:υ.get (σ.next+4)=some (.cells 2 [[.val (.bool true),nilSl]]):=by rw [← hυ];simp [get_new,get_del,hn]
    have un:υ.next=σ.next+5:=by rw [← hυ];simp [hn]
    have ug:Grows σ υ:=by
      refine ⟨by omega,fun j hj=>?_⟩
      rw [← hυ]
      simp only [get_new,get_del,AHeap.new_next,AHeap.del_next,hn]
      rw [if_neg (by omega),if_neg (by omega),if_neg (by omega),if_neg (by omega)]
      exact hg.get j hj
    refine stepK_of (aAppend_rows (by':=32) (xs:=rowsV s.L) (ys:=[[.val (.bool true),nilSl]]) (.inr (.inr ⟨σ.next+3,[],by simp,by simpa using u3⟩)) (by simp) (.inr (.inr ⟨σ.next+4,[],rfl,by simpa using u4⟩)) (by simp;omega)) ?_
    generalize hω:(gone (.own (σ.next+3) s.L.length) υ).new (.cells 2 (rowsV s.L ++ [[.val (.bool true),nilSl]]))=ω
    have w0:ω.get σ.next=some (.cells 4 [[int s.R,int s.C,.sl false 2 (rowsV s.L),int s.most]]):=by rw [← hω];simp [gone,get_new,get_del,un,u0]
    have w1:ω.get (σ.next+1)=some (.cells 4 [[int 0,int 0,nilSl,int 0]]):=by rw [← hω];simp [gone,get_new,get_del,un,u1]
    have w5:ω.get (σ.next+5)=some (.cells 2 (rowsV s.L ++ [[.val (.bool true),nilSl]])):=by rw [← hω];simp [gone,get_new,get_del,un]
    have wg:Grows σ ω:=by
      refine ⟨by rw [← hω];simp [un],fun j hj=>?_⟩
      rw [← hω]
      simp only [gone,get_new,get_del,AHeap.del_next,un]
      rw [if_neg (by omega),if_neg (by omega)]
      exact ug.get j hj
    simp [w0,un,get_set,w1,wrap64 (n:=(s.L.length:Int)) (by omega)]
    refine ⟨(wg.set (Nat.le_refl _) _).set (by omega) _,_,(FrzL.cons (frzS (rows:=rowsV s.more.L) ?_) (.cons (.low (.val _)) (.cons (.low (.val _)) .nil))).tup,hk⟩
    refine FrzR.own (xs:=rowsV s.L ++ [[.val (.bool true),nilSl]]) (rest:=[]) ?_ (by omega) (by simp) (by simp [get_set,w5])
    have:rowsV s.more.L=rowsV s.L ++ [[.val (.bool true),.sl false 10 []]]:=by simp [SG.more,rowsV,rowV]
    rw [this]
    refine FrzR.append (FrzR.refl fun el hel y hy=>(rowsV_dat hs el hel y hy).low _) (.cons (.cons (.low (.val _)) (.cons .nil .nil)) .nil)
  · rw [if_neg hR] at hk
    refine Ev.pureD hk (Dat.low (.tup fun x hx=>?_) _) fun k' hk'=>?_
    · simp only [List.mem_cons,List.not_mem_nil,or_false] at hx
      rcases hx with rfl | rfl | rfl
      · exact hd
      · exact .val _
      · exact .val _
    apply F95_ev;unfold F95
    simp
    generalize hτ:(σ.new (.cells 4 [[int s.R,int s.C,.sl false 2 (rowsV s.L),int s.most]])).new (.cells 4 [[int 0,int 0,nilSl,int 0]])=τ
    have hg:Grows σ τ:=by rw [← hτ];exact (Grows.new _ _).trans (Grows.new _ _)
    have g0:τ.get σ.next=some (.cells 4 [[int s.R,int s.C,.sl false 2 (rowsV s.L),int s.most]]):=by rw [← hτ];simp [get_new]
    have g1:τ.get (σ.next+1)=some (.cells 4 [[int 0,int 0,nilSl,int 0]]):=by rw [← hτ];simp [get_new]
    simp [g0]
    refine count_ref (by omega) hc ?_
    simp [g0,g1,show s.R≤(s.live.length:Int) by omega]
    exact hk' _ (hg.set (by omega) _)
theorem last_live {s:S} {i:Nat} (h:s.live.getLast?=some i) {j:Nat} {c:Row} (hj:s.L[j]?=some (true,c)):j≤i:=by
  obtain ⟨m,hm⟩:=List.getLast?_eq_some_iff.1 h
  have hmem:j ∈ s.live:=mem_idx.2 ⟨j,c,by omega,hj⟩
  have hp:=idx_pairwise s.L 0
  rw [show idx s.L 0=s.live from rfl,hm,List.pairwise_append] at hp
  rw [hm] at hmem
  rcases List.mem_append.1 hmem with h1 | h1
  · exact Nat.le_of_lt (hp.2.2 j h1 i (by simp))
  · simp at h1;omega
theorem pop_ref {s:S} (hs:Cok s.L) (hl:s.L.length < 1099511627776) (hc:s.cells < 4611686018427387904)
    (hk:if s.live.length < 2 then k (.tup [avS s,.val (.bool false)]) σ else ∀ i,s.live.getLast?=some i→k (.tup [avS (s.less i),.val (.bool true)]) σ):Ev PR 97 [avS s] σ k kp:=by
  have hd:=avS_dat hs
  by_cases h2:s.live.length < 2
  · rw [if_pos h2] at hk
    refine Ev.pureD hk (Dat.low (.tup fun x hx=>?_) _) fun k' hk'=>?_
    · simp only [List.mem_cons,List.not_mem_nil,or_false] at hx
      rcases hx with rfl | rfl
      · exact hd
      · exact .val _
    apply F97_ev;unfold F97
    simp
    generalize hτ:(σ.new (.cells 4 [[int s.R,int s.C,.sl false 2 (rowsV s.L),int s.most]])).new (.cells 4 [[int 0,int 0,nilSl,int 0]])=τ
    have hg:Grows σ τ:=by rw [← hτ];exact (Grows.new _ _).trans (Grows.new _ _)
    have g0:τ.get σ.next=some (.cells 4 [[int s.R,int s.C,.sl false 2 (rowsV s.L),int s.most]]):=by rw [← hτ];simp [get_new]
    have g1:τ.get (σ.next+1)=some (.cells 4 [[int 0,int 0,nilSl,int 0]]):=by rw [← hτ];simp [get_new]
    simp [g0]
    refine count_ref (by omega) hc ?_
    simp [g0,g1,show (s.live.length:Int) < 2 by omega]
    exact hk' _ (hg.set (by omega) _)
  · rw [if_neg h2] at hk
    obtain ⟨i,hi⟩:∃ i,s.live.getLast?=some i:=by
      cases hh:s.live.getLast? with
      | none=>rw [List.getLast?_eq_none_iff] at hh;rw [hh] at h2;simp at h2
      | some i=>exact ⟨i,rfl⟩
    obtain ⟨c,hcc⟩:=SG.last_mem hi
    have hil:=(List.getElem?_eq_some_iff.1 hcc).1
    have hk:=hk i hi
    refine Ev.pure ?_
    apply F97_ev;unfold F97
    simp
    generalize hτ:(σ.new (.cells 4 [[int s.R,int s.C,.sl false 2 (rowsV s.L),int s.most]])).new (.cells 4 [[int 0,int 0,nilSl,int 0]])=τ
    have hg:Grows σ τ:=by rw [← hτ];exact (Grows.new _ _).trans (Grows.new _ _)
    have hn:τ.next=σ.next+2:=by rw [← hτ];rfl
    have g0:τ.get σ.next=some (.cells 4 [[int s.R,int s.C,.sl false 2 (rowsV s.L),int s.most]]):=by rw [← hτ];simp [get_new]
    have g1:τ.get (σ.next+1)=some (.cells 4 [[int 0,int 0,nilSl,int 0]]):=by rw [← hτ];simp [get_new]
    simp [g0]
    refine count_ref (by omega) hc ?_
    have hw:IntKind.i64.wrap ((s.L.length:Int) - 1)=((s.L.length - 1:Nat):Int):=by rw [wrap64 (by omega)];omega
    simp [g0,show ¬ ((s.live.length:Int) < 2) by omega,hw]
    refine seqW_by (fun fr ω=>fr=[(1,AV.ptr σ.next 0 0),(2,.ptr (σ.next+1) 0 0),(6,int i)]∧ω=τ) ?_ ?_
    · refine loopW_by (fun j:Nat=>[(1,AV.ptr σ.next 0 0),(2,.ptr (σ.next+1) 0 0),(6,int j)]) (fun j ω=>ω=τ∧i≤j∧j < s.L.length) (fun fr _=>(intOf (look fr 6)).toNat) (s.L.length - 1) (by simp) ⟨rfl,by omega,by omega⟩ ?_
      rintro j ω ⟨rfl,hij,hjl⟩
      obtain ⟨⟨b,d⟩,hp⟩:=get_some hjl
      have hix:∀ ω,aIndexAddr 2 (.sl false 2 (rowsV s.L)) (int j) ω=some (.ref [.val (.bool b),.sl false 10 d]):=fun ω=>by rw [aIndexAddr_sl];simp [rowsV,hp,rowV]
      simp [g0,hix]
      cases b with
      | true =>
        have:=last_live hi hp
        have:j=i:=by omega
        simp [this]
      | false =>
        have hne:j ≠ i:=by intro e;subst e;rw [hcc] at hp;cases hp
        simp
        rw [wrap64 (by omega)]
        exact ⟨⟨j - 1,by omega,by omega,by omega⟩,by omega⟩
    · rintro fr ω ⟨rfl,rfl⟩
      simp [g0]
      refine with_ref (i:=i) (b:=false) (x:=nilSl) rfl (.val _) (rowsV_low hs _) (by simpa using hil) (by simpa using hl) ?_
      simp [g1]
      refine ⟨hg.set (by omega) _,_,(FrzL.cons (frzS (rows:=rowsV (s.less i).L) ?_) (.cons (.low (.val _)) .nil)).tup,hk⟩
      have:rowsV (s.less i).L=(rowsV s.L).set i [.val (.bool false),.sl false 10 []]:=(rowsV_set s.L i false []).symm
      rw [this]
      exact (FrzR.set (.cons (.low (.val _)) (.cons .nil .nil)) i (FrzR.refl fun el hel y hy=>(rowsV_dat hs el hel y hy).low _)).sl
theorem zeroV_dat:Dat zeroV:=.agg fun y hy=>by
  simp only [List.mem_cons,List.not_mem_nil,or_false] at hy
  rcases hy with rfl | rfl | rfl | rfl <;> exact .val _
theorem three_low {a b c:AV} {n:Nat} (ha:Dat a) (hb:Dat b) (hc:Dat c):Low n (.tup [a,b,c]):=Dat.low (.tup fun x hx=>by
  simp only [List.mem_cons,List.not_mem_nil,or_false] at hx
  rcases hx with rfl | rfl | rfl
  · exact ha
  · exact hb
  · exact hc) n
theorem two_low {a b:AV} {n:Nat} (ha:Dat a) (hb:Dat b):Low n (.tup [a,b]):=Dat.low (.tup fun x hx=>by
  simp only [List.mem_cons,List.not_mem_nil,or_false] at hx
  rcases hx with rfl | rfl
  · exact ha
  · exact hb) n
theorem put_ref {s:S} (hs:Cok s.L) (hl:s.L.length < 1099511627776) (hc:s.cells < 1099511627776) {r:Int} {c:List AV} (hcc:CellOk c)
    (hk:match s.row r with
      | none=>k (.tup [avS s,zeroV,int 6]) σ
      | some row=>if s.C≤s.cells then k (.tup [avS s,zeroV,int 3]) σ
        else ∀ i:Nat,r=i→s.L[i]?=some (true,row)→k (.tup [avS (s.putC i row c),.agg [u8 2,int 0,int r,int row.length],int 0]) σ):Ev PR 131 [avS s,int r,.agg c] σ k kp:=by
  have hd:=avS_dat hs
  have h10:=hcc.len
  cases hrow:s.row r with
  | none =>
    rw [hrow] at hk
    refine Ev.pureD hk (three_low hd zeroV_dat (.val _)) fun k' hk'=>?_
    apply F131_ev;unfold F131
    simp [h10]
    generalize hτ:(((σ.new (.cells 4 [[int s.R,int s.C,.sl false 2 (rowsV s.L),int s.most]])).new (.cells 10 [c])).new (.cells 4 [[int 0,int 0,nilSl,int 0]])).new (.cells 4 [[u8 0,int 0,int 0,int 0]])=τ
    have hg:Grows σ τ:=by rw [← hτ];exact (((Grows.new _ _).trans (Grows.new _ _)).trans (Grows.new _ _)).trans (Grows.new _ _)
    have g0:τ.get σ.next=some (.cells 4 [[int s.R,int s.C,.sl false 2 (rowsV s.L),int s.most]]):=by rw [← hτ];simp [get_new]
    have g2:τ.get (σ.next+2)=some (.cells 4 [[int 0,int 0,nilSl,int 0]]):=by rw [← hτ];simp [get_new]
    have g3:τ.get (σ.next+3)=some (.cells 4 [[u8 0,int 0,int 0,int 0]]):=by rw [← hτ];simp [get_new]
    simp [g0]
    refine live_ref ?_
    simp [hrow,g0,g2,g3,get_set]
    exact hk' _ ((hg.set (by omega) _).set (by omega) _)
  | some row =>
    rw [hrow] at hk
    simp only at hk
    by_cases hC:s.C≤s.cells
    · rw [if_pos hC] at hk
      refine Ev.pureD hk (three_low hd zeroV_dat (.val _)) fun k' hk'=>?_
      apply F131_ev;unfold F131
      simp [h10]
      generalize hτ:(((σ.new (.cells 4 [[int s.R,int s.C,.sl false 2 (rowsV s.L),int s.most]])).new (.cells 10 [c])).new (.cells 4 [[int 0,int 0,nilSl,int 0]])).new (.cells 4 [[u8 0,int 0,int 0,int 0]])=τ
      have hg:Grows σ τ:=by rw [← hτ];exact (((Grows.new _ _).trans (Grows.new _ _)).trans (Grows.new _ _)).trans (Grows.new _ _)
      have g0:τ.get σ.next=some (.cells 4 [[int s.R,int s.C,.sl false 2 (rowsV s.L),int s.most]]):=by rw [← hτ];simp [get_new]
      have g2:τ.get (σ.next+2)=some (.cells 4 [[int 0,int 0,nilSl,int 0]]):=by rw [← hτ];simp [get_new]
      have g3:τ.get (σ.next+3)=some (.cells 4 [[u8 0,int 0,int 0,int 0]]):=by rw [← hτ];simp [get_new]
      simp [g0]
      refine live_ref ?_
      simp [hrow,g0]
      refine count_ref (by omega) (by omega) ?_
      simp [g0,g2,g3,get_set,hC]
      exact hk' _ ((hg.set (by omega) _).set (by omega) _)
    · rw [if_neg hC] at hk
      obtain ⟨ri,rfl,hL,hri⟩:=SG.row_nat hrow
      have hk:=hk ri rfl hL
      have hrl:row.length≤s.cells:=tot_row hL
      refine Ev.pure ?_
      apply F131_ev;unfold F131
      simp [h10]
      generalize hτ:(((σ.new (.cells 4 [[int s.R,int s.C,.sl false 2 (rowsV s.L),int s.most]])).new (.cells 10 [c])).new (.cells 4 [[int 0,int 0,nilSl,int 0]])).new (.cells 4 [[u8 0,int 0,int 0,int 0]])=τ
      have hg:Grows σ τ:=by rw [← hτ];exact (((Grows.new _ _).trans (Grows.new _ _)).trans (Grows.new _ _)).trans (Grows.new _ _)
      have hn:τ.next=σ.next+4:=by rw [← hτ];rfl
      have g0:τ.get σ.next=some (.cells 4 [[int s.R,int s.C,.sl false 2 (rowsV s.L),int s.most]]):=by rw [← hτ];simp [get_new]
      have g1:τ.get (σ.next+1)=some (.cells 10 [c]):=by rw [← hτ];simp [get_new]
      have g2:τ.get (σ.next+2)=some (.cells 4 [[int 0,int 0,nilSl,int 0]]):=by rw [← hτ];simp [get_new]
      have g3:τ.get (σ.next+3)=some (.cells 4 [[u8 0,int 0,int 0,int 0]]):=by rw [← hτ];simp [get_new]
      have hix:∀ ω,aIndexAddr 2 (.sl false 2 (rowsV s.L)) (int ri) ω=some (.ref [.val (.bool true),.sl false 10 row]):=fun ω=>by rw [aIndexAddr_sl];simp [rowsV,hL,rowV]
      simp [g0]
      refine live_ref ?_
      simp [hrow,g0]
      refine count_ref (by omega) (by omega) ?_
      simp [g0,hC,hix,g1,h10,List.take_of_length_le (Nat.le_of_eq h10)]
      refine stepK_of (x:=.own τ.next row.length) (τ:=τ.new (.cells 10 row)) (by simp [aAppend,elsOf];omega) ?_
      simp [get_new,hn,g1,h10,List.take_of_length_le (Nat.le_of_eq h10)]
      refine stepK_of (aAppend_rows (by':=80) (xs:=row) (ys:=[c]) (.inr (.inr ⟨σ.next+4,[],rfl,by simp [get_new,hn]⟩)) (by simp) (.inr (.inl ⟨true,rfl⟩)) (by simp;omega)) ?_
      generalize hυ:(gone (.own (σ.next+4) row.length) (τ.new (.cells 10 row))).new (.cells 10 (row ++ [c]))=υ
      have u0:υ.get σ.next=some (.cells 4 [[int s.R,int s.C,.sl false 2 (rowsV s.L),int s.most]]):=by rw [← hυ];simp [gone,get_new,get_del,hn,g0]
      have u2:υ.get (σ.next+2)=some (.cells 4 [[int 0,int 0,nilSl,int 0]]):=by rw [← hυ];simp [gone,get_new,get_del,hn,g2]
      have u3:υ.get (σ.next+3)=some (.cells 4 [[u8 0,int 0,int 0,int 0]]):=by rw [← hυ];simp [gone,get_new,get_del,hn,g3]
      have u5:υ.get (σ.next+5)=some (.cells 10 (row ++ [c])):=by rw [← hυ];simp [gone,get_new,get_del,hn]
      have un:υ.next=σ.next+6:=by rw [← hυ];simp [hn]
      have ug:Grows σ υ:=by
        refine ⟨by omega,fun j hj=>?_⟩
        rw [← hυ]
        simp only [gone,get_new,get_del,AHeap.new_next,AHeap.del_next,hn]
        rw [if_neg (by omega),if_neg (by omega),if_neg (by omega)]
        exact hg.get j hj
      simp [u0,hn]
      refine with_ref (i:=ri) (b:=true) (x:=.own (σ.next+5) (row.length+1)) rfl (.own (by omega)) (rowsV_low hs _) (by simpa using hri) (by simpa using hl) ?_
      simp [u0]
      generalize hω:υ.set σ.next (.cells 4 [[int s.R,int s.C,.sl false 2 ((rowsV s.L).set ri [.val (.bool true),.own (σ.next+5) (row.length+1)]),int s.most]])=ω
      have w0:ω.get σ.next=some (.cells 4 [[int s.R,int s.C,.sl false 2 ((rowsV s.L).set ri [.val (.bool true),.own (σ.next+5) (row.length+1)]),int s.most]]):=by rw [← hω];simp
      have w2:ω.get (σ.next+2)=some (.cells 4 [[int 0,int 0,nilSl,int 0]]):=by rw [← hω];simp [get_set,u2]
      have w3:ω.get (σ.next+3)=some (.cells 4 [[u8 0,int 0,int 0,int 0]]):=by rw [← hω];simp [get_set,u3]
      have w5:ω.get (σ.next+5)=some (.cells 10 (row ++ [c])):=by rw [← hω];simp [get_set,u5]
      have wg:Grows σ ω:=by rw [← hω];exact ug.set (Nat.le_refl _) _
      refine seqW_in ?_
      have hw1:IntKind.i64.wrap ((s.cells:Int)+1)=(s.cells:Int)+1:=wrap64 (by omega)
      have hfin:∀ (υ:AHeap) (m:Int),υ.get (σ.next+5)=some (.cells 10 (row ++ [c]))→m=(s.putC ri row c).most→Frz υ σ.next (.tup [avR s.R s.C ((rowsV s.L).set ri [.val (.bool true),.own (σ.next+5) (row.length+1)]) m,.agg [u8 2,int 0,int ri,int row.length],int 0]) (.tup [avS (s.putC ri row c),.agg [u8 2,int 0,int ri,int row.length],int 0]):=by
        intro υ m h5 hm
        subst hm
        refine (FrzL.cons (frzS (rows:=rowsV (s.putC ri row c).L) ?_) (.cons (.low (.agg ?_)) (.cons (.low (.val _)) .nil))).tup
        · have e:rowsV (s.putC ri row c).L=(rowsV s.L).set ri [.val (.bool true),.sl false 10 (row ++ [c])]:=(rowsV_set s.L ri true (row ++ [c])).symm
          rw [e]
          refine (FrzR.set (.cons (.low (.val _)) (.cons ?_ .nil)) ri (FrzR.refl fun el hel y hy=>(rowsV_dat hs el hel y hy).low _)).sl
          refine FrzR.own (xs:=row ++ [c]) (rest:=[]) (FrzR.refl fun el hel y hy=>?_) (by omega) (by simp) (by simpa using h5)
          rcases List.mem_append.1 hel with h | h
          · exact ((hs _ (List.mem_of_getElem? hL) el h).dat y hy).low _
          · simp at h;subst h;exact (hcc.dat y hy).low _
        · intro j x hx
          have hm:=List.mem_of_getElem? hx
          simp only [List.mem_cons,List.not_mem_nil,or_false] at hm
          rcases hm with rfl | rfl | rfl | rfl <;> exact .val _
      simp [w0,hw1]
      by_cases hmst:s.most < (s.cells:Int)+1
      · simp [hmst,w0,w2,w3,get_set,wrap64 (n:=(row.length:Int)) (by omega)]
        exact ⟨((wg.set (Nat.le_refl _) _).set (by omega) _).set (by omega) _,_,hfin _ _ (by simp [get_set,w5]) (by simp [SG.putC,hmst]),hk⟩
      · simp [hmst,w0,w2,w3,get_set,wrap64 (n:=(row.length:Int)) (by omega)]
        exact ⟨(wg.set (by omega) _).set (by omega) _,_,hfin _ _ (by simp [get_set,w5]) (by simp [SG.putC,hmst]),hk⟩
theorem set_ref {s:S} (hs:Cok s.L) (hl:s.L.length < 1099511627776) (hc:s.cells < 1099511627776) {kd n r a:Int} {c:List AV} (hcc:CellOk c)
    (hk1:s.find kd n r a ≠ 0→k (.tup [avS s,int (s.find kd n r a)]) σ)
    (hk0:s.find kd n r a=0→∀ row (ri i:Nat),r=ri→s.L[ri]?=some (true,row)→a=i→i < row.length→k (.tup [avS (s.put ri (row.set i c)),int 0]) σ):Ev PR 102 [avS s,valV kd n r a,.agg c] σ k kp:=by
  have hd:=avS_dat hs
  have h10:=hcc.len
  by_cases hf:s.find kd n r a=0
  · have hf0:=hf
    unfold SG.find at hf0
    split at hf0
    · cases hf0
    · split at hf0
      · cases hf0
      · rename_i h1 row hrow
        split at hf0
        · cases hf0
        · rename_i ha
          obtain ⟨i,rfl⟩:=Int.eq_ofNat_of_zero_le (a:=a) (by omega)
          have hi:i < row.length:=by omega
          obtain ⟨ri,rfl,hL,hri⟩:=SG.row_nat hrow
          have hk:=hk0 hf row ri i rfl hL rfl hi
          have hrl:row.length≤s.cells:=tot_row hL
          refine Ev.pure ?_
          apply F102_ev;unfold F102
          simp [h10]
          generalize hτ:(((σ.new (.cells 4 [[int s.R,int s.C,.sl false 2 (rowsV s.L),int s.most]])).new (.cells 4 [[u8 kd,int n,int ri,int i]])).new (.cells 10 [c])).new (.cells 4 [[int 0,int 0,nilSl,int 0]])=τ
          have hg:Grows σ τ:=by rw [← hτ];exact (((Grows.new _ _).trans (Grows.new _ _)).trans (Grows.new _ _)).trans (Grows.new _ _)
          have hn:τ.next=σ.next+4:=by rw [← hτ];rfl
          have g0:τ.get σ.next=some (.cells 4 [[int s.R,int s.C,.sl false 2 (rowsV s.L),int s.most]]):=by rw [← hτ];simp [get_new]
          have g1:τ.get (σ.next+1)=some (.cells 4 [[u8 kd,int n,int ri,int i]]):=by rw [← hτ];simp [get_new]
          have g2:τ.get (σ.next+2)=some (.cells 10 [c]):=by rw [← hτ];simp [get_new]
          have g3:τ.get (σ.next+3)=some (.cells 4 [[int 0,int 0,nilSl,int 0]]):=by rw [← hτ];simp [get_new]
          have hix:∀ ω,aIndexAddr 2 (.sl false 2 (rowsV s.L)) (int ri) ω=some (.ref [.val (.bool true),.sl false 10 row]):=fun ω=>by rw [aIndexAddr_sl];simp [rowsV,hL,rowV]
          simp [g0,g1]
          refine find_ref ?_
          simp [hf,g0,g1,hix,get_new,hn]
          refine stepK_of (aAppend_rows (by':=80) (xs:=[]) (ys:=row) (.inr (.inr ⟨σ.next+4,[],rfl,by simp [get_new,hn]⟩)) (by simp) (.inr (.inl ⟨false,rfl⟩)) (by simp;omega)) ?_
          generalize hυ:(gone (.own (σ.next+4) 0) (τ.new (.cells 10 []))).new (.cells 10 ([] ++ row))=υ
          have u0:υ.get σ.next=some (.cells 4 [[int s.R,int s.C,.sl false 2 (rowsV s.L),int s.most]]):=by rw [← hυ];simp [gone,get_new,get_del,hn,g0]
          have u1:υ.get (σ.next+1)=some (.cells 4 [[u8 kd,int n,int ri,int i]]):=by rw [← hυ];simp [gone,get_new,get_del,hn,g1]
          have u2:υ.get (σ.next+2)=some (.cells 10 [c]):=by rw [← hυ];simp [gone,get_new,get_del,hn,g2]
          have u3:υ.get (σ.next+3)=some (.cells 4 [[int 0,int 0,nilSl,int 0]]):=by rw [← hυ];simp [gone,get_new,get_del,hn,g3]
          have u5:υ.get (σ.next+5)=some (.cells 10 row):=by rw [← hυ];simp [gone,get_new,get_del,hn]
          have un:υ.next=σ.next+6:=by rw [← hυ];simp [hn]
          have ug:Grows σ υ:=by
            refine ⟨by omega,fun j hj=>?_⟩
            rw [← hυ]
            simp only [gone,get_new,get_del,AHeap.new_next,AHeap.del_next,hn]
            rw [if_neg (by omega),if_neg (by omega),if_neg (by omega)]
            exact hg.get j hj
          obtain ⟨el,hel⟩:=get_some hi
          have hel10:el.length=10:=(hs _ (List.mem_of_getElem? hL) el (List.mem_of_getElem? hel)).len
          have hix2:aIndexAddr 10 (.own (σ.next+5) row.length) (int i) υ=some (.ptr (σ.next+5) i 0):=by
            rw [aIndexAddr_own,if_pos (by omega)]
            have:elAt υ (σ.next+5) i=some el:=by rw [elAt_cells u5];exact hel
            simp only [Int.toNat_natCast,this,Option.bind_some,hel10,if_true]
          simp [u0,u1,u2,u5,hn,hix2,hel,h10,hel10,get_set,List.take_of_length_le (Nat.le_of_eq h10),List.drop_of_length_le (Nat.le_of_eq hel10)]
          refine with_ref (i:=ri) (b:=true) (x:=.own (σ.next+5) row.length) rfl (.own (by show _ < υ.next;omega)) (rowsV_low hs _) (by simpa using hri) (by simpa using hl) ?_
          simp [get_set,u3]
          refine ⟨(ug.set (by omega) _).set (by omega) _,_,(FrzL.cons (frzS (rows:=rowsV (s.put ri (row.set i c)).L) ?_) (.cons (.low (.val _)) .nil)).tup,hk⟩
          have e:rowsV (s.put ri (row.set i c)).L=(rowsV s.L).set ri [.val (.bool true),.sl false 10 (row.set i c)]:=(rowsV_set s.L ri true (row.set i c)).symm
          rw [e]
          refine (FrzR.set (.cons (.low (.val _)) (.cons ?_ .nil)) ri (FrzR.refl fun el hel y hy=>(rowsV_dat hs el hel y hy).low _)).sl
          refine FrzR.own (xs:=row.set i c) (rest:=[]) (FrzR.refl fun el hel y hy=>?_) (by omega) (by simp) (by simp [get_set])
          rcases List.mem_or_eq_of_mem_set hel with h | h
          · exact ((hs _ (List.mem_of_getElem? hL) el h).dat y hy).low _
          · subst h;exact (hcc.dat y hy).low _
  · refine Ev.pureD (hk1 hf) (two_low hd (.val _)) fun k' hk'=>?_
    apply F102_ev;unfold F102
    simp [h10]
    generalize hτ:(((σ.new (.cells 4 [[int s.R,int s.C,.sl false 2 (rowsV s.L),int s.most]])).new (.cells 4 [[u8 kd,int n,int r,int a]])).new (.cells 10 [c])).new (.cells 4 [[int 0,int 0,nilSl,int 0]])=τ
    have hg:Grows σ τ:=by rw [← hτ];exact (((Grows.new _ _).trans (Grows.new _ _)).trans (Grows.new _ _)).trans (Grows.new _ _)
    have g0:τ.get σ.next=some (.cells 4 [[int s.R,int s.C,.sl false 2 (rowsV s.L),int s.most]]):=by rw [← hτ];simp [get_new]
    have g1:τ.get (σ.next+1)=some (.cells 4 [[u8 kd,int n,int r,int a]]):=by rw [← hτ];simp [get_new]
    have g3:τ.get (σ.next+3)=some (.cells 4 [[int 0,int 0,nilSl,int 0]]):=by rw [← hτ];simp [get_new]
    simp [g0,g1]
    refine find_ref ?_
    simp [hf,g0,g3]
    exact hk' _ (hg.set (by omega) _)
end Go.Abs.Stk
