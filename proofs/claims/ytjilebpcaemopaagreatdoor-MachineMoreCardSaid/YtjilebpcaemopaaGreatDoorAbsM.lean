import Derived.Test.YtjilebpcaemopaaGreatDoorAbsK
import Derived.IntWalk
set_option linter.unusedVariables false
set_option linter.unusedSimpArgs false
set_option linter.deprecated false
namespace Go.Abs
open Go

/-- Not by unfolding: simp is to keep its proof. -/
theorem nr {α : Sort _} {a b : α} (h : a = b) : a = b := h

@[congr] theorem stepK_congr {r r' : Option (AV × AHeap)} {k : AV → AHeap → Prop} (h : r = r') : stepK r k = stepK r' k := by rw [h]
@[simp ↓] theorem stepK_some (x : AV) (σ : AHeap) (k : AV → AHeap → Prop) : stepK (some (x, σ)) k = k x σ := nr rfl
@[congr] theorem stepV_congr {r r' : Option AV} {k : AV → Prop} (h : r = r') : stepV r k = stepV r' k := by rw [h]
@[simp ↓] theorem stepV_some (x : AV) (k : AV → Prop) : stepV (some x) k = k x := nr rfl
@[congr] theorem condK_congr {x x' : AV} {A B : Prop} (h : x = x') : condK x A B = condK x' A B := by rw [h]
@[simp ↓] theorem condK_true (A B : Prop) : condK (.val (.bool true)) A B = A := by simp [condK]
@[simp ↓] theorem condK_false (A B : Prop) : condK (.val (.bool false)) A B = B := by simp [condK]
@[congr] theorem gK_congr {x x' : AV} {w : Bool} {run : (AV → AHeap → Prop) → Prop} {K : AV → AHeap → Prop} {σ : AHeap} (h : x = x') : gK x w run K σ = gK x' w run K σ := by rw [h]
@[simp ↓] theorem gK_tt (run : (AV → AHeap → Prop) → Prop) (K : AV → AHeap → Prop) (σ : AHeap) : gK (.val (.bool true)) true run K σ = run K := by simp [gK, guardK]
@[simp ↓] theorem gK_ff (run : (AV → AHeap → Prop) → Prop) (K : AV → AHeap → Prop) (σ : AHeap) : gK (.val (.bool false)) false run K σ = run K := by simp [gK, guardK]
@[simp ↓] theorem gK_tf (run : (AV → AHeap → Prop) → Prop) (K : AV → AHeap → Prop) (σ : AHeap) : gK (.val (.bool true)) false run K σ = K (.val undef) σ := by simp [gK, guardK]
@[simp ↓] theorem gK_ft (run : (AV → AHeap → Prop) → Prop) (K : AV → AHeap → Prop) (σ : AHeap) : gK (.val (.bool false)) true run K σ = K (.val undef) σ := by simp [gK, guardK]
@[simp ↓] theorem gK_un (w : Bool) (run : (AV → AHeap → Prop) → Prop) (K : AV → AHeap → Prop) (σ : AHeap) : gK (.val undef) w run K σ = K (.val undef) σ := by simp [gK, guardK, undef]
@[congr] theorem Ev_congr {P : Program} {f : FuncId} {xs ys : List AV} {σ : AHeap} {k kp : AV → AHeap → Prop} (h : xs = ys) : Ev P f xs σ k kp = Ev P f ys σ k kp := by rw [h]
@[congr] theorem loopW_congr {b : AFrame → AHeap → (AFrame → AHeap → Prop) → Prop} {fr fr' : AFrame} {σ : AHeap} (h : fr = fr') : loopW b fr σ = loopW b fr' σ := by rw [h]
@[congr] theorem seqW_congr {B : AFrame → AHeap → Prop} {A : (AFrame → AHeap → Prop) → Prop} : seqW B A = seqW B A := rfl

/-- A join, inlined. -/
theorem seqW_in {B : AFrame → AHeap → Prop} {A : (AFrame → AHeap → Prop) → Prop} (h : A B) : seqW B A := ⟨B, fun _ _ h => h, h⟩
theorem seqW_by (J : AFrame → AHeap → Prop) {B : AFrame → AHeap → Prop} {A : (AFrame → AHeap → Prop) → Prop} (h1 : A J) (h2 : ∀ fr σ, J fr σ → B fr σ) : seqW B A := ⟨J, h2, h1⟩

/-- A loop, by an index. -/
theorem loopW_by {ι : Type} (st : ι → AFrame) (I : ι → AHeap → Prop) (μ : AFrame → AHeap → Nat) {body : AFrame → AHeap → (AFrame → AHeap → Prop) → Prop} {fr : AFrame} {σ : AHeap} (i : ι) (e : fr = st i) (h0 : I i σ)
    (h : ∀ i σ, I i σ → body (st i) σ fun fr' σ' => (∃ j, fr' = st j ∧ I j σ') ∧ μ fr' σ' < μ (st i) σ) : loopW body fr σ :=
  ⟨fun fr σ => ∃ i, fr = st i ∧ I i σ, μ, ⟨i, e, h0⟩, by rintro fr σ ⟨i, rfl, hI⟩; exact h i σ hI⟩

def intOf : AV → Int
  | .val (.int _ n) => n
  | _ => 0
@[simp] theorem intOf_val (k : IntKind) (n : Int) : intOf (.val (.int k n)) = n := nr rfl

@[simp] theorem look_hit (k : Nat) (v : AV) (r : AFrame) : look ((k, v) :: r) k = v := by simp [look_cons]
@[simp] theorem look_miss {k j : Nat} (h : j ≠ k) (v : AV) (r : AFrame) : look ((k, v) :: r) j = look r j := by simp [look_cons, h]

@[simp] theorem pureR_some (σ : AHeap) (x : AV) : pureR σ (some x) = some (x, σ) := nr rfl
@[simp] theorem unitR_some (σ : AHeap) : unitR (some σ) = some (.val undef, σ) := nr rfl
@[simp] theorem aAlloc_some (zs : List AV) (σ : AHeap) : aAlloc zs σ = some (.ptr σ.next 0 0, σ.new (.cells zs.length [zs])) := nr rfl
@[simp] theorem aMakeMap_some (σ : AHeap) : aMakeMap σ = some (.mp σ.next, σ.new (.map [])) := nr rfl
@[simp] theorem aPick_some (t : Bool) (a b : AV) : aPick (.val (.bool t)) a b = some (bif t then a else b) := nr rfl
@[simp] theorem aFieldAddr_ptr (o id i p : Nat) : aFieldAddr o (.ptr id i p) = some (.ptr id i (p + o)) := nr rfl
@[simp] theorem aFieldAddr_ref (o : Nat) (cs : List AV) : aFieldAddr o (.ref cs) = some (.ref (cs.drop o)) := nr rfl
@[simp] theorem aNilCheck_ptr (id i p : Nat) : aNilCheck (.ptr id i p) = some (.ptr id i p) := nr rfl
@[simp] theorem aNilCheck_ref (cs : List AV) : aNilCheck (.ref cs) = some (.ref cs) := nr rfl
@[simp] theorem aLoad_ptr (g : Bool) (n id i o : Nat) (σ : AHeap) : aLoad g n (.ptr id i o) σ = (elAt σ id i).bind fun el => getCells g n (el.drop o) := nr rfl
@[simp] theorem aLoad_ref (g : Bool) (n : Nat) (cs : List AV) (σ : AHeap) : aLoad g n (.ref cs) σ = getCells g n cs := nr rfl
@[simp] theorem aExtract_tup (k : Nat) (vs : List AV) : aExtract k (.tup vs) = vs[k]? := nr rfl
@[simp] theorem aField_agg (o : Nat) (g : Bool) (n : Nat) (cs : List AV) : aField o g n (.agg cs) = getCells g n (cs.drop o) := nr rfl

@[simp] theorem aLenK_own (id n : Nat) (σ : AHeap) : aLenK .slice (.own id n) σ = some (.val (.int .i64 n)) := nr rfl
@[simp] theorem aLenK_sl (c : Bool) (sz : Nat) (xs : List (List AV)) (σ : AHeap) : aLenK .slice (.sl c sz xs) σ = some (.val (.int .i64 xs.length)) := nr rfl
@[simp] theorem aLenK_nil (σ : AHeap) : aLenK .slice (.val (.slice none 0 0)) σ = some (.val (.int .i64 0)) := nr rfl
@[simp] theorem aLenK_str (b : ByteArray) (σ : AHeap) : aLenK .str (.val (.string b)) σ = some (.val (.int .i64 b.size)) := nr rfl
@[simp] theorem aLenK_map0 (σ : AHeap) : aLenK .map (.val (.map none)) σ = some (.val (.int .i64 0)) := nr rfl
theorem aIndexAddr_sl (n : Nat) (c : Bool) (sz : Nat) (xs : List (List AV)) (k : IntKind) (i : Int) (σ : AHeap) : aIndexAddr n (.sl c sz xs) (.val (.int k i)) σ = if 0 ≤ i ∧ sz = n then (xs[i.toNat]?).map .ref else none := rfl
@[simp] theorem aLenK_win (id off sz n : Nat) (σ : AHeap) : aLenK .slice (.win id off sz n) σ = some (.val (.int .i64 n)) := nr rfl
@[simp] theorem acells_win (a b c d : Nat) : acells (.win a b c d) = some [.win a b c d] := nr rfl
theorem aIndexAddr_own (n id len : Nat) (k : IntKind) (i : Int) (σ : AHeap) :
    aIndexAddr n (.own id len) (.val (.int k i)) σ = if 0 ≤ i ∧ i < len then (elAt σ id i.toNat).bind fun el => if el.length = n then some (.ptr id i.toNat 0) else none else none := rfl

@[simp] theorem acells_int (k : IntKind) (n : Int) : acells (.val (.int k n)) = some [.val (.int k n)] := nr rfl
@[simp] theorem acells_bool (b : Bool) : acells (.val (.bool b)) = some [.val (.bool b)] := nr rfl
@[simp] theorem acells_str (b : ByteArray) : acells (.val (.string b)) = some [.val (.string b)] := nr rfl
@[simp] theorem acells_slice (a : Option Addr) (n m : Nat) : acells (.val (.slice a n m)) = some [.val (.slice a n m)] := nr rfl
@[simp] theorem acells_map (a : Option Nat) : acells (.val (.map a)) = some [.val (.map a)] := nr rfl
@[simp] theorem acells_pointer (a : Option Addr) : acells (.val (.pointer a)) = some [.val (.pointer a)] := nr rfl
@[simp] theorem acells_nilFunc : acells (.val .nilFunc) = some [.val .nilFunc] := nr rfl
@[simp] theorem acells_nilIface : acells (.val .nilIface) = some [.val .nilIface] := nr rfl
@[simp] theorem acells_agg (cs : List AV) : acells (.agg cs) = some cs := nr rfl
@[simp] theorem acells_ptr (a b c : Nat) : acells (.ptr a b c) = some [.ptr a b c] := nr rfl
@[simp] theorem acells_ref (cs : List AV) : acells (.ref cs) = some [.ref cs] := nr rfl
@[simp] theorem acells_sl (c : Bool) (sz : Nat) (xs : List (List AV)) : acells (.sl c sz xs) = some [.sl c sz xs] := nr rfl
@[simp] theorem acells_own (a b : Nat) : acells (.own a b) = some [.own a b] := nr rfl
@[simp] theorem acells_mp (a : Nat) : acells (.mp a) = some [.mp a] := nr rfl
@[simp] theorem acells_fn (f : Fn) (cap : List AV) : acells (.fn f cap) = some [.fn f cap] := nr rfl
@[simp] theorem acells_iface (t : TypeId) (x : AV) : acells (.iface t x) = some [.iface t x] := nr rfl
@[simp] theorem aStore_ptr (n id i o : Nat) (v : AV) (σ : AHeap) : aStore n (.ptr id i o) v σ = match σ.get id with
    | some (.cells sz els) => match els[i]?, acells v with
      | some el, some vs => if vs.length = n ∧ o + n ≤ el.length then some (σ.set id (.cells sz (els.set i (el.take o ++ vs ++ el.drop (o + n))))) else none
      | _, _ => none
    | _ => none := nr rfl
/-- A step that is known. -/
theorem stepK_of {r : Option (AV × AHeap)} {x : AV} {τ : AHeap} {k : AV → AHeap → Prop} (h : r = some (x, τ)) (hk : k x τ) : stepK r k := by rw [h]; exact hk
theorem stepP {σ : AHeap} {r : Option AV} {x : AV} {k : AV → AHeap → Prop} (h : r = some x) (hk : k x σ) : stepK (pureR σ r) k := by rw [h]; exact hk
theorem stepU {σ : AHeap} {r : Option AHeap} {k : AV → AHeap → Prop} (h : r = some σ) (hk : k (.val undef) σ) : stepK (unitR r) k := by rw [h]; exact hk

@[simp] theorem aSlice_own_hi (n id len : Nat) (k : IntKind) (h : Int) : aSlice n (.own id len) none (some (.val (.int k h))) none = if 0 ≤ h ∧ h ≤ len then some (.own id h.toNat) else none := by
  simp [aSlice, optInt]
@[simp] theorem aSlice_sl_hi (n : Nat) (c : Bool) (sz : Nat) (xs : List (List AV)) (k : IntKind) (h : Int) : aSlice n (.sl c sz xs) none (some (.val (.int k h))) none = if 0 ≤ h ∧ h ≤ xs.length ∧ sz = n then some (.sl (c && decide (h = xs.length)) sz (xs.take h.toNat)) else none := by
  simp [aSlice, optInt]
@[simp] theorem aSlice_sl_lo (n : Nat) (c : Bool) (sz : Nat) (xs : List (List AV)) (k : IntKind) (l : Int) : aSlice n (.sl c sz xs) (some (.val (.int k l))) none none = if 0 ≤ l ∧ l ≤ xs.length ∧ sz = n then some (.sl c sz (xs.drop l.toNat)) else none := by
  simp [aSlice, optInt]
@[simp] theorem aSlice_sl_lh (n : Nat) (c : Bool) (sz : Nat) (xs : List (List AV)) (k k' : IntKind) (l h : Int) : aSlice n (.sl c sz xs) (some (.val (.int k l))) (some (.val (.int k' h))) none = if 0 ≤ l ∧ l ≤ h ∧ h ≤ xs.length ∧ sz = n then some (.sl (c && decide (h = xs.length)) sz ((xs.take h.toNat).drop l.toNat)) else none := by
  simp [aSlice, optInt]


theorem elAt_cells {σ : AHeap} {id i sz : Nat} {els : List (List AV)} (h : σ.get id = some (.cells sz els)) : elAt σ id i = els[i]? := by simp [elAt, h]
@[simp] theorem getCells_one (n : Nat) (cs : List AV) : getCells false n cs = cs.head? := nr rfl
@[simp] theorem getCells_agg (n : Nat) (cs : List AV) : getCells true n cs = if n ≤ cs.length then some (.agg (cs.take n)) else none := nr rfl
@[simp] theorem aNot_bool (b : Bool) : aNot (.val (.bool b)) = some (.val (.bool (!b))) := nr rfl
@[simp] theorem aNeg_int (k : IntKind) (n : Int) : aNeg (.val (.int k n)) = some (.val (.int k (k.wrap (0 - n)))) := nr rfl
@[simp] theorem aMax_int (k k' : IntKind) (a b : Int) : aMax (.val (.int k a)) (.val (.int k' b)) = some (.val (.int k (if a < b then b else a))) := nr rfl
@[simp] theorem aMin_int (k k' : IntKind) (a b : Int) : aMin (.val (.int k a)) (.val (.int k' b)) = some (.val (.int k (if b < a then b else a))) := nr rfl
@[simp] theorem aConv_int (k k' : IntKind) (n : Int) : aConv (.int k) (.val (.int k' n)) = some (.val (.int k (k.wrap n))) := nr rfl
@[simp] theorem aConv_str (b : ByteArray) : aConv .str (.val (.string b)) = some (.val (.string b)) := nr rfl
@[simp] theorem aConv_bytes (b : ByteArray) : aConv .bytes (.val (.string b)) = some (.sl false 1 (bytesV b)) := nr rfl
@[simp] theorem asKey_int (k : IntKind) (n : Int) : asKey (.val (.int k n)) = some (.i k n) := nr rfl
@[simp] theorem asKey_str (b : ByteArray) : asKey (.val (.string b)) = some (.s b) := nr rfl
theorem aBin_int (op : BinOp) (k : IntKind) (a b : Int) : aBin op .prim (.val (.int k a)) (.val (.int k b)) = (intBin op k a b).map .val := by simp [aBin, aBinPrim]
@[simp] theorem aBin_add (k : IntKind) (a b : Int) : aBin .add .prim (.val (.int k a)) (.val (.int k b)) = some (.val (.int k (k.wrap (a + b)))) := by rw [aBin_int]; rfl
@[simp] theorem aBin_sub (k : IntKind) (a b : Int) : aBin .sub .prim (.val (.int k a)) (.val (.int k b)) = some (.val (.int k (k.wrap (a - b)))) := by rw [aBin_int]; rfl
@[simp] theorem aBin_mul (k : IntKind) (a b : Int) : aBin .mul .prim (.val (.int k a)) (.val (.int k b)) = some (.val (.int k (k.wrap (a * b)))) := by rw [aBin_int]; rfl
@[simp] theorem aBin_quo (k : IntKind) (a b : Int) : aBin .quo .prim (.val (.int k a)) (.val (.int k b)) = if b = 0 then none else some (.val (.int k (k.wrap (a.tdiv b)))) := by
  rw [aBin_int]; simp only [intBin]; split <;> rfl
@[simp] theorem aBin_rem (k : IntKind) (a b : Int) : aBin .rem .prim (.val (.int k a)) (.val (.int k b)) = if b = 0 then none else some (.val (.int k (a.tmod b))) := by
  rw [aBin_int]; simp only [intBin]; split <;> rfl
@[simp] theorem aBin_eql (k : IntKind) (a b : Int) : aBin .eql .prim (.val (.int k a)) (.val (.int k b)) = some (.val (.bool (decide (a = b)))) := by rw [aBin_int]; rfl
@[simp] theorem aBin_neq (k : IntKind) (a b : Int) : aBin .neq .prim (.val (.int k a)) (.val (.int k b)) = some (.val (.bool (!decide (a = b)))) := by rw [aBin_int]; rfl
@[simp] theorem aBin_lss (k : IntKind) (a b : Int) : aBin .lss .prim (.val (.int k a)) (.val (.int k b)) = some (.val (.bool (decide (a < b)))) := by rw [aBin_int]; rfl
@[simp] theorem aBin_leq (k : IntKind) (a b : Int) : aBin .leq .prim (.val (.int k a)) (.val (.int k b)) = some (.val (.bool (decide (a ≤ b)))) := by rw [aBin_int]; rfl
@[simp] theorem aBin_gtr (k : IntKind) (a b : Int) : aBin .gtr .prim (.val (.int k a)) (.val (.int k b)) = some (.val (.bool (decide (b < a)))) := by rw [aBin_int]; rfl
@[simp] theorem aBin_geq (k : IntKind) (a b : Int) : aBin .geq .prim (.val (.int k a)) (.val (.int k b)) = some (.val (.bool (decide (b ≤ a)))) := by rw [aBin_int]; rfl
@[simp] theorem aBin_seql (a b : ByteArray) : aBin .eql .prim (.val (.string a)) (.val (.string b)) = some (.val (.bool (decide (a = b)))) := nr rfl
@[simp] theorem aBin_sneq (a b : ByteArray) : aBin .neq .prim (.val (.string a)) (.val (.string b)) = some (.val (.bool (!decide (a = b)))) := nr rfl
theorem aBin_str (op : BinOp) (a b : ByteArray) : aBin op .prim (.val (.string a)) (.val (.string b)) = (strBin op a b).map .val := nr rfl
@[simp] theorem aBin_beq (a b : Bool) : aBin .eql .bool (.val (.bool a)) (.val (.bool b)) = some (.val (.bool (decide (a = b)))) := nr rfl
@[simp] theorem aBin_bne (a b : Bool) : aBin .neq .bool (.val (.bool a)) (.val (.bool b)) = some (.val (.bool (!decide (a = b)))) := nr rfl
@[simp] theorem aBin_pp : aBin .eql .ptr (.val (.pointer none)) (.val (.pointer none)) = some (.val (.bool true)) := nr rfl
@[simp] theorem aBin_pn (a b c : Nat) : aBin .eql .ptr (.ptr a b c) (.val (.pointer none)) = some (.val (.bool false)) := nr rfl
@[simp] theorem aBin_rn (cs : List AV) : aBin .eql .ptr (.ref cs) (.val (.pointer none)) = some (.val (.bool false)) := nr rfl
@[simp] theorem aBin_pp' : aBin .neq .ptr (.val (.pointer none)) (.val (.pointer none)) = some (.val (.bool false)) := nr rfl
@[simp] theorem aBin_pn' (a b c : Nat) : aBin .neq .ptr (.ptr a b c) (.val (.pointer none)) = some (.val (.bool true)) := nr rfl
@[simp] theorem aBin_rn' (cs : List AV) : aBin .neq .ptr (.ref cs) (.val (.pointer none)) = some (.val (.bool true)) := nr rfl
@[simp] theorem aBin_agg (ks : List LK) (cs ds : List AV) : aBin .eql (.agg ks) (.agg cs) (.agg ds) = (eqLeaves ks cs ds).map fun b => .val (.bool b) := nr rfl
@[simp] theorem aBin_agg' (ks : List LK) (cs ds : List AV) : aBin .neq (.agg ks) (.agg cs) (.agg ds) = (eqLeaves ks cs ds).map fun b => .val (.bool (!b)) := nr rfl
@[simp] theorem eqLeaf_i (k : IntKind) (a b : Int) : eqLeaf .i (.val (.int k a)) (.val (.int k b)) = some (decide (a = b)) := by simp [eqLeaf]
@[simp] theorem eqLeaf_b (a b : Bool) : eqLeaf .b (.val (.bool a)) (.val (.bool b)) = some (decide (a = b)) := nr rfl
@[simp] theorem eqLeaf_s (a b : ByteArray) : eqLeaf .s (.val (.string a)) (.val (.string b)) = some (decide (a = b)) := nr rfl
@[simp] theorem aBox_eq (x : AV) (σ : AHeap) : aBox x σ = (acells x).map fun cs => (.ptr σ.next 0 0, σ.new (.cells cs.length [cs])) := nr rfl
@[simp] theorem elAt_new (σ : AHeap) (sz : Nat) (els : List (List AV)) (i : Nat) : elAt (σ.new (.cells sz els)) σ.next i = els[i]? := elAt_cells (AHeap.new_same _ _)
@[simp] theorem elAt_eq (σ : AHeap) (id i : Nat) : elAt σ id i = match σ.get id with
    | some (.cells _ els) => els[i]?
    | _ => none := nr rfl
@[simp] theorem aBuild_eq (zs : List AV) (ps : List (Nat × Nat × AV)) : aBuild zs ps = (aFill zs ps).map .agg := nr rfl
@[simp] theorem aFill_nil (cs : List AV) : aFill cs [] = some cs := nr rfl
@[simp] theorem aFill_cons (cs : List AV) (off sz : Nat) (x : AV) (r : List (Nat × Nat × AV)) : aFill cs ((off, sz, x) :: r) = match acells x with
    | some vs => if vs.length = sz ∧ off + sz ≤ cs.length then aFill (cs.take off ++ vs ++ cs.drop (off + sz)) r else none
    | none => none := nr rfl
@[simp] theorem aFillEls_nil (sz : Nat) (els : List (List AV)) : aFillEls sz els [] = some els := nr rfl
@[simp] theorem aFillEls_cons (sz : Nat) (els : List (List AV)) (i : Nat) (x : AV) (r : List (Nat × AV)) : aFillEls sz els ((i, x) :: r) = match acells x with
    | some vs => if vs.length = sz ∧ i < els.length then aFillEls sz (els.set i vs) r else none
    | none => none := nr rfl
@[simp] theorem aBuildSlice_eq (len sz : Nat) (zs : List AV) (parts : List (Nat × AV)) (σ : AHeap) : aBuildSlice len sz zs parts σ =
    if zs.length = sz ∧ len * sz ≤ 16777216 then (aFillEls sz (List.replicate len zs) parts).map fun els => (.own σ.next len, σ.new (.cells sz els)) else none := nr rfl
@[simp] theorem aBuildSl_eq (len sz : Nat) (zs : List AV) (parts : List (Nat × AV)) : aBuildSl len sz zs parts =
    if zs.length = sz ∧ len * sz ≤ 16777216 then (aFillEls sz (List.replicate len zs) parts).map fun els => .sl true sz els else none := nr rfl
@[simp] theorem eqLeaves_nil : eqLeaves [] [] [] = some true := nr rfl
@[simp] theorem eqLeaves_cons (k : LK) (ks : List LK) (x y : AV) (xs ys : List AV) : eqLeaves (k :: ks) (x :: xs) (y :: ys) = match eqLeaf k x y, eqLeaves ks xs ys with
    | some a, some b => some (a && b)
    | _, _ => none := nr rfl

@[simp] theorem aAppendZ_nil (sz bytes : Nat) (zs : List AV) (k : IntKind) (n : Int) (σ : AHeap) : aAppendZ sz bytes zs (.val (.slice none 0 0)) (.val (.int k n)) σ = if 0 < n ∧ n.toNat * bytes ≤ 140737488355328 ∧ n ≤ 140737488355328 ∧ zs.length = sz ∧ 0 < sz then some (.own σ.next n.toNat, σ.new (.cells sz (List.replicate n.toNat zs))) else none := nr rfl
@[simp] theorem aBin_sn : aBin .eql .slice (.val (.slice none 0 0)) (.val (.slice none 0 0)) = some (.val (.bool true)) := nr rfl
@[simp] theorem aBin_so (id n : Nat) : aBin .eql .slice (.own id (n + 1)) (.val (.slice none 0 0)) = some (.val (.bool false)) := nr rfl
@[simp] theorem aCap0_nil (σ : AHeap) : aCap0 (.val (.slice none 0 0)) σ = some (.val (.int .i64 0), σ) := nr rfl
theorem aLookup_mp {d : TypeDesc} {z : AV} {ok : Bool} {id : Nat} {x : AV} {q : MK} {σ : AHeap} {es : List (MK × AV)} (hk : asKey x = some q) (hf : keyFits d q = true) (h : σ.get id = some (.map es)) (hes : keysFit d es = true) :
    aLookup d z ok (.mp id) x σ = some (match mget es q with | some y => if ok = true then .tup [y, .val (.bool true)] else y | none => if ok = true then .tup [z, .val (.bool false)] else z) := by
  simp only [aLookup, hk, hf, h, hes, if_true]
  cases mget es q <;> rfl
theorem aMapUpdate_mp {d : TypeDesc} {id : Nat} {x y : AV} {q : MK} {σ : AHeap} {es : List (MK × AV)} (hk : asKey x = some q) (hf : keyFits d q = true) (h : σ.get id = some (.map es)) (hes : keysFit d es = true) :
    aMapUpdate d (.mp id) x y σ = some (σ.set id (.map (mset es q y))) := by
  simp only [aMapUpdate, hk, hf, h, hes, if_true]
theorem aMapDelete_mp {d : TypeDesc} {id : Nat} {x : AV} {q : MK} {σ : AHeap} {es : List (MK × AV)} (hk : asKey x = some q) (hf : keyFits d q = true) (h : σ.get id = some (.map es)) (hes : keysFit d es = true) :
    aMapDelete d (.mp id) x σ = some (σ.set id (.map (mdel es q))) := by
  simp only [aMapDelete, hk, hf, h, hes, if_true]

theorem wrap64 {n : Int} (h : -9223372036854775808 ≤ n ∧ n ≤ 9223372036854775807) : IntKind.i64.wrap n = n := Go.IntWalk.i64_in n h
@[simp] theorem wrap64_0 : IntKind.i64.wrap 0 = 0 := wrap64 (by omega)
@[simp] theorem wrap64_1 : IntKind.i64.wrap 1 = 1 := wrap64 (by omega)

/-- What stays: the objects of the one are objects of the other. -/
structure Grows (σ τ : AHeap) : Prop where
  next : σ.next ≤ τ.next
  get : ∀ i, i < σ.next → τ.get i = σ.get i
theorem Grows.refl (σ : AHeap) : Grows σ σ := ⟨Nat.le_refl _, fun _ _ => rfl⟩
theorem Grows.trans {σ τ υ : AHeap} (h : Grows σ τ) (k : Grows τ υ) : Grows σ υ := ⟨Nat.le_trans h.next k.next, fun i hi => (k.get i (Nat.lt_of_lt_of_le hi h.next)).trans (h.get i hi)⟩
theorem Grows.new (σ : AHeap) (o : AObj) : Grows σ (σ.new o) := ⟨Nat.le_succ _, fun i hi => AHeap.new_ne (Nat.ne_of_lt hi)⟩
theorem Grows.set {σ τ : AHeap} (h : Grows σ τ) {i : Nat} (hi : σ.next ≤ i) (o : AObj) : Grows σ (τ.set i o) := ⟨h.next, fun j hj => (AHeap.set_ne (by omega)).trans (h.get j hj)⟩

/-! ### Maps -/
theorem mget_mset (es : List (MK × AV)) (q q' : MK) (y : AV) : mget (mset es q y) q' = if q' = q then some y else mget es q' := by
  induction es with
  | nil => simp only [mset, mget, eq_comm (a := q)]
  | cons p es ih =>
    obtain ⟨k, x⟩ := p
    by_cases h : k = q
    · subst h
      by_cases h' : q' = k
      · subst h'; simp [mset, mget]
      · simp [mset, mget, h', Ne.symm h']
    · simp only [mset, if_neg h, mget, ih]
      by_cases h' : k = q'
      · subst h'; simp [h]
      · simp [h']
def Uniq (es : List (MK × AV)) : Prop := (es.map (·.1)).Nodup
theorem mset_keys (es : List (MK × AV)) (q : MK) (y : AV) : (mset es q y).map (·.1) = if q ∈ es.map (·.1) then es.map (·.1) else es.map (·.1) ++ [q] := by
  induction es with
  | nil => simp [mset]
  | cons p es ih =>
    obtain ⟨k, x⟩ := p
    by_cases h : k = q
    · subst h; simp [mset]
    · simp only [mset, if_neg h, List.map_cons, ih, List.mem_cons]
      by_cases h' : q ∈ es.map (·.1)
      · rw [if_pos h', if_pos (.inr h')]
      · rw [if_neg h', if_neg (by simp [h', Ne.symm h])]; rfl
theorem Uniq.mset {es : List (MK × AV)} (h : Uniq es) (q : MK) (y : AV) : Uniq (mset es q y) := by
  unfold Uniq at *
  rw [mset_keys]
  split
  · exact h
  · rename_i hq
    rw [List.nodup_append]
    exact ⟨h, by simp, by intro a ha b hb; simp at hb; subst hb; intro e; subst e; exact hq ha⟩
theorem keysFit_mset {d : TypeDesc} {es : List (MK × AV)} (h : keysFit d es = true) {q : MK} (hq : keyFits d q = true) (y : AV) : keysFit d (Abs.mset es q y) = true := by
  induction es with
  | nil => simp only [Abs.mset, keysFit, List.all_cons, List.all_nil, hq, Bool.and_self]
  | cons p es ih =>
    obtain ⟨k, x⟩ := p
    simp only [keysFit, List.all_cons, Bool.and_eq_true] at h
    by_cases e : k = q
    · simp only [Abs.mset, if_pos e, keysFit, List.all_cons, Bool.and_eq_true]; exact ⟨hq, h.2⟩
    · simp only [Abs.mset, if_neg e, keysFit, List.all_cons, Bool.and_eq_true]; exact ⟨h.1, ih h.2⟩
theorem mdel_sub (es : List (MK × AV)) (q : MK) : (mdel es q).Sublist es := by
  induction es with
  | nil => simp [mdel]
  | cons p es ih =>
    obtain ⟨k, x⟩ := p
    by_cases h : k = q
    · simp [mdel, h]
    · simp only [mdel, if_neg h]; exact ih.cons_cons _
theorem Uniq.mdel {es : List (MK × AV)} (h : Uniq es) (q : MK) : Uniq (mdel es q) := List.Nodup.sublist ((mdel_sub es q).map _) h
theorem keysFit_mdel {d : TypeDesc} {es : List (MK × AV)} (h : keysFit d es = true) (q : MK) : keysFit d (Abs.mdel es q) = true := by
  unfold keysFit at *
  rw [List.all_eq_true] at *
  exact fun p hp => h p ((mdel_sub es q).subset hp)
theorem mget_none {es : List (MK × AV)} {q : MK} (h : q ∉ es.map (·.1)) : mget es q = none := by
  induction es with
  | nil => rfl
  | cons p es ih =>
    obtain ⟨k, x⟩ := p
    simp only [List.map_cons, List.mem_cons, not_or] at h
    simp [mget, Ne.symm h.1, ih h.2]
theorem mget_mdel {es : List (MK × AV)} (h : Uniq es) (q q' : MK) : mget (mdel es q) q' = if q' = q then none else mget es q' := by
  induction es with
  | nil => simp [mdel, mget]
  | cons p es ih =>
    obtain ⟨k, x⟩ := p
    unfold Uniq at h
    simp only [List.map_cons, List.nodup_cons] at h
    by_cases e : k = q
    · subst e
      simp only [mdel, if_pos, mget]
      by_cases e' : q' = k
      · subst e'; simp [mget_none h.1]
      · simp [e', Ne.symm e']
    · simp only [mdel, if_neg e, mget, ih h.2]
      by_cases e' : k = q'
      · subst e'; simp [e]
      · simp [e']
/-! ### Where an object's contents come of -/
theorem get_new (σ : AHeap) (o : AObj) (i : Nat) : (σ.new o).get i = if i = σ.next then some o else σ.get i := by
  by_cases h : i = σ.next
  · subst h; simp
  · rw [AHeap.new_ne h, if_neg h]
theorem get_set (σ : AHeap) (id : Nat) (o : AObj) (i : Nat) : (σ.set id o).get i = if i = id then some o else σ.get i := by
  by_cases h : i = id
  · subst h; simp
  · rw [AHeap.set_ne h, if_neg h]
theorem get_del (σ : AHeap) (id i : Nat) : (σ.del id).get i = if i = id then none else σ.get i := by
  by_cases h : i = id
  · subst h; simp
  · rw [AHeap.del_ne h, if_neg h]

theorem lt_next {a b : Nat} (h : a < b) (n : Nat) : (a = b + n) = False := by simp; omega

/-! ### Views -/
/-- A pointer to cells. -/
def PtrAt (σ : AHeap) (p : AV) (cs : List AV) : Prop := p = .ref cs ∨ ∃ q i o el, p = .ptr q i o ∧ elAt σ q i = some el ∧ cs = el.drop o
theorem PtrAt.load {σ p cs} (h : PtrAt σ p cs) (g : Bool) (n : Nat) : aLoad g n p σ = getCells g n cs := by
  rcases h with rfl | ⟨q, i, o, el, rfl, h, rfl⟩
  · rfl
  · rw [aLoad_ptr, h]; rfl
theorem PtrAt.field {σ p cs} (h : PtrAt σ p cs) (o : Nat) : ∃ p', aFieldAddr o p = some p' ∧ PtrAt σ p' (cs.drop o) := by
  rcases h with rfl | ⟨q, i, o', el, rfl, h, rfl⟩
  · exact ⟨_, rfl, .inl rfl⟩
  · exact ⟨_, rfl, .inr ⟨q, i, o' + o, el, rfl, h, by rw [List.drop_drop]⟩⟩
theorem PtrAt.nil {σ p cs} (h : PtrAt σ p cs) : aNilCheck p = some p := by
  rcases h with rfl | ⟨q, i, o', el, rfl, h, rfl⟩ <;> rfl

/-- A row, wherever it stands. -/
def Rows (σ : AHeap) (sz : Nat) (x : AV) (els : List (List AV)) : Prop :=
  (x = .val (.slice none 0 0) ∧ els = []) ∨ (∃ c, x = .sl c sz els) ∨ ∃ q rest, x = .own q els.length ∧ σ.get q = some (.cells sz (els ++ rest))
theorem Rows.len {σ sz x els} (h : Rows σ sz x els) : aLenK .slice x σ = some (.val (.int .i64 els.length)) := by
  rcases h with ⟨rfl, rfl⟩ | ⟨c, rfl⟩ | ⟨q, rest, rfl, _⟩ <;> rfl
theorem Rows.at {σ sz x els} (h : Rows σ sz x els) {i : Nat} {el : List AV} (he : els[i]? = some el) (hl : el.length = sz) (k : IntKind) :
    ∃ p, aIndexAddr sz x (.val (.int k i)) σ = some p ∧ PtrAt σ p el := by
  have hi := (List.getElem?_eq_some_iff.1 he).1
  rcases h with ⟨rfl, rfl⟩ | ⟨c, rfl⟩ | ⟨q, rest, rfl, hq⟩
  · simp at hi
  · exact ⟨.ref el, by rw [aIndexAddr_sl]; simp [he], .inl rfl⟩
  · have : elAt σ q i = some el := by rw [elAt_cells hq, List.getElem?_append_left hi, he]
    exact ⟨.ptr q i 0, by simp only [aIndexAddr]; rw [if_pos ⟨by omega, by omega⟩]; simp only [Int.toNat_natCast, this, Option.bind_some, hl, if_true], .inr ⟨q, i, 0, el, rfl, this, rfl⟩⟩
theorem Rows.elsOf {σ sz x els} (h : Rows σ sz x els) : Abs.elsOf sz x σ = some els := by
  rcases h with ⟨rfl, rfl⟩ | ⟨c, rfl⟩ | ⟨q, rest, rfl, hq⟩
  · rfl
  · simp [Abs.elsOf]
  · simp [Abs.elsOf, hq]

/-- What is let go of a row that grows. -/
def gone (x : AV) (σ : AHeap) : AHeap :=
  match x with
  | .own q _ => σ.del q
  | _ => σ
theorem aAppend_rows {σ sz by' x y xs ys} (hx : Rows σ sz x xs) (hn : ∀ c, x ≠ .sl c sz xs) (hy : Rows σ sz y ys) (hb : (xs.length + ys.length) * by' ≤ 140737488355328 ∧ xs.length + ys.length ≤ 140737488355328) :
    aAppend sz by' x y σ = some (.own σ.next (xs.length + ys.length), (gone x σ).new (.cells sz (xs ++ ys))) := by
  unfold aAppend
  rw [hx.elsOf, hy.elsOf]
  simp only [hb, and_self, if_true]
  rcases hx with ⟨rfl, rfl⟩ | ⟨c, rfl⟩ | ⟨q, rest, rfl, hq⟩
  · rfl
  · exact absurd rfl (hn c)
  · rfl
@[simp] theorem gone_next (x : AV) (σ : AHeap) : (gone x σ).next = σ.next := by cases x <;> rfl

end Go.Abs
