import Derived.Test.YtjilebpcaemopaaGreatDoorAbsG
import Derived.Lib.ConvBytes
set_option linter.unusedVariables false
namespace Go.Abs
open Go

def pureR (σ : AHeap) (r : Option AV) : Option (AV × AHeap) := r.map fun x => (x, σ)
def unitR (r : Option AHeap) : Option (AV × AHeap) := r.map fun σ => (.val undef, σ)
def aAlloc (zs : List AV) (σ : AHeap) : Option (AV × AHeap) := some (.ptr σ.next 0 0, σ.new (.cells zs.length [zs]))
def aBox (x : AV) (σ : AHeap) : Option (AV × AHeap) := (acells x).map fun cs => (.ptr σ.next 0 0, σ.new (.cells cs.length [cs]))
def aMakeMap (σ : AHeap) : Option (AV × AHeap) := some (.mp σ.next, σ.new (.map []))
def aLenK (k : LenKind) (x : AV) (σ : AHeap) : Option AV := if lenFits k x = true then aLen x σ else none

def aPick (c a b : AV) : Option AV :=
  match c with
  | .val (.bool t) => some (bif t then a else b)
  | _ => none

def aCap0 (x : AV) (σ : AHeap) : Option (AV × AHeap) :=
  match x with
  | .val (.slice none 0 0) => some (.val (.int .i64 0), σ)
  | _ => none
def ifaceOk (P : Program) (t : TypeId) : Bool :=
  match P.underlying t with
  | some (.interface _) => false
  | some _ => true
  | none => false

def notIface (P : Program) (t : TypeId) : Bool :=
  match P.underlying t with
  | some (.interface _) => false
  | some _ => true
  | none => false
/-- x.(T), comma-ok, T no interface. -/
def aAssert (z : AV) (t : TypeId) (x : AV) : Option AV :=
  match x with
  | .iface t' v => if t' = t then some (.tup [v, .val (.bool true)]) else some (.tup [z, .val (.bool false)])
  | .val .nilIface => some (.tup [z, .val (.bool false)])
  | _ => none

def aBuiltin (P : Program) (b : Builtin) (ts : List TypeId) (xs : List AV) (σ : AHeap) : Option (AV × AHeap) :=
  match b, ts, xs with
  | .len, [t], [x] => match lenKind P t with
    | some k => pureR σ (aLenK k x σ)
    | none => none
  | .append, [t, t'], [s, x] => if t = t' then match sinfo P t with
      | some (e, sz, bytes) => match zeroOf P e with
        | some zs => if zs.length = sz then aAppend sz bytes s x σ else none
        | none => none
      | none => none
    else match sinfo P t, P.underlying t' with
      | some (e, sz, bytes), some (.int _) => match zeroOf P e with
        | some zs => aAppendZ sz bytes zs s x σ
        | none => none
      | _, _ => none
  | .max, _, [x, y] => pureR σ (aMax x y)
  | .min, _, [x, y] => pureR σ (aMin x y)
  | .delete, [t, _], [m, k] => match minfo P t with
    | some (_, d, _) => (aMapDelete d m k σ).map fun σ => (.val (.tuple #[]), σ)
    | none => none
  | .cap, [t], [x] => match sinfo P t with
    | some _ => aCap0 x σ
    | none => none
  | .clear, [t], [s] => match sinfo P t with
    | some (e, sz, _) => match zeroOf P e with
      | some zs => (aClear sz zs s σ).map fun σ => (.val (.tuple #[]), σ)
      | none => none
    | none => none
  | _, _, _ => none

def aopF (P : Program) (op : Op) (fr : AFrame) (σ : AHeap) : Option (AV × AHeap) :=
  match op with
  | .move x => some (ev fr x, σ)
  | .assign x => some (ev fr x, σ)
  | .pick c a b => pureR σ (aPick (ev fr c) (ev fr a) (ev fr b))
  | .alloc t => match zeroOf P t with
    | some zs => aAlloc zs σ
    | none => none
  | .box _ x => aBox (ev fr x) σ
  | .build t parts => match zeroOf P t, placesOf P t with
    | some zs, some pl => match partsOf pl fr parts.toList with
      | some l => pureR σ (aBuild zs l)
      | none => none
    | _, _ => none
  | .buildSlice t len parts => match sinfo P t with
    | some (e, sz, _) => match zeroOf P e with
      | some zs => aBuildSlice len sz zs (parts.toList.map fun (i, x) => (i, ev fr x)) σ
      | none => none
    | none => none
  | .load t x => match tinfo P t with
    | some (g, n) => pureR σ (aLoad g n (ev fr x) σ)
    | none => none
  | .store t a v => match tinfo P t with
    | some (_, n) => unitR (aStore n (ev fr a) (ev fr v) σ)
    | none => none
  | .nilCheck x => pureR σ (aNilCheck (ev fr x))
  | .binOp op t x y _ => match eqKind P t with
    | some e => pureR σ (aBin op e (ev fr x) (ev fr y))
    | none => none
  | .unOp .not _ x => pureR σ (aNot (ev fr x))
  | .unOp .neg _ x => pureR σ (aNeg (ev fr x))
  | .convert s d x => match convKind P s d with
    | some k => pureR σ (aConv k (ev fr x))
    | none => none
  | .makeInterface t x => if ifaceOk P t = true then some (.iface t (ev fr x), σ) else none
  | .makeFunc fn first cap => if first.size = 0 then some (.fn fn (cap.toList.map (ev fr)), σ) else none
  | .makeMap _ none => aMakeMap σ
  | .makeSlice t x y => match sinfo P t with
    | some (e, sz, bytes) => match zeroOf P e with
      | some zs => aMakeSlice sz bytes zs (ev fr x) (ev fr y) σ
      | none => none
    | none => none
  | .slice t x lo hi mx => match isSlice P t with
    | some n => pureR σ (aSlice n (ev fr x) (lo.map (ev fr)) (hi.map (ev fr)) (mx.map (ev fr)))
    | none => if isStr P t = true then match mx with
        | none => pureR σ (aSliceStr (ev fr x) (lo.map (ev fr)) (hi.map (ev fr)))
        | some _ => none
      else none
  | .fieldAddr s x f => match foff P s f with
    | some o => pureR σ (aFieldAddr o (ev fr x))
    | none => none
  | .field s x f => match finfo P s f with
    | some (o, g, n) => pureR σ (aField o g n (ev fr x))
    | none => none
  | .indexAddr t x i => match isSlice P t with
    | some n => pureR σ (aIndexAddr n (ev fr x) (ev fr i) σ)
    | none => none
  | .index t x i => if isStr P t = true then pureR σ (aIndexStr (ev fr x) (ev fr i)) else none
  | .lookup t x i ok => match minfo P t with
    | some (_, d, e) => match zeroAV P e with
      | some z => pureR σ (aLookup d z ok (ev fr x) (ev fr i) σ)
      | none => none
    | none => none
  | .mapUpdate t m k x => match minfo P t with
    | some (_, d, _) => unitR (aMapUpdate d (ev fr m) (ev fr k) (ev fr x) σ)
    | none => none
  | .insert t m k x => match minfo P t with
    | some (_, d, _) => unitR (aMapUpdate d (ev fr m) (ev fr k) (ev fr x) σ)
    | none => none
  | .extract t i => pureR σ (aExtract i (ev fr t))
  | .typeAssert x _ asserted true => if notIface P asserted = true then match zeroAV P asserted with
      | some z => pureR σ (aAssert z asserted (ev fr x))
      | none => none
    else none
  | .call c => match c.callee with
    | .builtin b => aBuiltin P b c.argTypes.toList (c.args.toList.map (ev fr)) σ
    | _ => none
  | _ => none

theorem sAssert {c : Ctx} {P t xt z} (ht : notIface P t = true) (hz : zeroAV P t = some z) {x v} (hx : VRel c x v) {y} (h : aAssert z t x = some y) (w : World) : ∃ u, (Instr.typeAssert v xt t true).run P w = .ok u w ∧ VRel c y u := by
  have hd : ∃ d, P.underlying t = some d ∧ ∀ ms, d ≠ .interface ms := by
    unfold notIface at ht
    split at ht
    · cases ht
    · rename_i d hne hu
      exact ⟨d, hu, hne⟩
    · cases ht
  obtain ⟨d, hu, hd⟩ := hd
  obtain ⟨zv, hzv, hzr⟩ := zeroAV_spec hz w
  have two : ∀ (p : AV) (b : Bool) (q : Value), VRel c p q → VRel c (.tup [p, .val (.bool b)]) (.tuple #[q, .bool b]) := by
    intro p b q hpq
    refine .tup rfl fun i x v hx hv => ?_
    match i with
    | 0 => simp at hx hv; subst hx; subst hv; exact hpq
    | 1 => simp at hx hv; subst hx; subst hv; exact .val _
    | i + 2 => simp at hx
  have fail : ∀ v', (v' = .nilIface ∨ ∃ t' x', v' = .iface t' x' ∧ t' ≠ t) → (Instr.typeAssert v' xt t true).run P w = .ok (.tuple #[zv, .bool false]) w := by
    intro v' hv'
    rcases hv' with rfl | ⟨t', x', rfl, hne⟩
    · simp only [Instr.typeAssert, Sem.run_bind, run_underlying hu, Result.andThen_ok]
      cases d <;> first
        | exact absurd rfl (hd _)
        | simp [hzv]
    · simp only [Instr.typeAssert, Sem.run_bind, run_underlying hu, Result.andThen_ok]
      cases d <;> first
        | exact absurd rfl (hd _)
        | simp [hzv, hne]
  unfold aAssert at h
  split at h
  · rename_i t' p
    cases hx with
    | iface hp =>
      rename_i q
      split at h
      · rename_i e
        subst e
        cases h
        refine ⟨.tuple #[q, .bool true], ?_, two _ _ _ hp⟩
        simp only [Instr.typeAssert, Sem.run_bind, run_underlying hu, Result.andThen_ok]
        cases d <;> first
          | exact absurd rfl (hd _)
          | simp
      · rename_i hne
        cases h
        exact ⟨_, fail _ (.inr ⟨_, _, rfl, hne⟩), two _ _ _ (hzr c)⟩
  · cases h
    obtain rfl := hx.val_inv
    exact ⟨_, fail _ (.inl rfl), two _ _ _ (hzr c)⟩
  · cases h

/-- What an operation comes to. -/
def Gives (n : Next) (v : Value) : Prop := n = .value v ∨ (n = .skip ∧ v = undef)

theorem ORelO_map {c : Ctx} {fr} {a : Act} (hf : FRel c fr a.tmps) (o : Option Operand) : ORelO c (o.map (ev fr)) (o.map a.eval) := by
  cases o with
  | none => trivial
  | some x => exact hf.eval x

/-- An operation that leaves the state as it is. -/
theorem gives_pure {ρ σ w} (hs : Sim ρ σ w) {P : Program} {o : Oper} {a : Act} {s : Sem Value} (he : execOp a.eval o = (do pure (.value (← s)))) {r : Option AV} {x σ'} (h : pureR σ r = some (x, σ'))
    (hr : ∀ y, r = some y → ∃ u, s.run P w = .ok u w ∧ VRel (ctx ρ σ w) y u) :
    ∃ n v w' ρ', (execOp a.eval o).run P w = .ok n w' ∧ Gives n v ∧ VRel (ctx ρ' σ' w') x v ∧ Sim ρ' σ' w' ∧ Ext ρ σ w ρ' σ' w' := by
  obtain ⟨y, hy, e⟩ := Option.map_eq_some_iff.1 h
  cases e
  obtain ⟨u, hu, hrel⟩ := hr _ hy
  exact ⟨_, u, w, ρ, by rw [he]; simp [hu], .inl rfl, hrel, hs, Ext.refl _ _ _⟩

theorem gives_unit {ρ σ w} {P : Program} {o : Oper} {a : Act} {s : Sem Unit} (he : execOp a.eval o = (do s; pure .skip)) {r : Option AHeap} {x σ'} (h : unitR r = some (x, σ'))
    (hr : ∀ τ, r = some τ → ∃ w', s.run P w = .ok () w' ∧ Sim ρ τ w' ∧ Ext ρ σ w ρ τ w') :
    ∃ n v w' ρ', (execOp a.eval o).run P w = .ok n w' ∧ Gives n v ∧ VRel (ctx ρ' σ' w') x v ∧ Sim ρ' σ' w' ∧ Ext ρ σ w ρ' σ' w' := by
  obtain ⟨τ, hy, e⟩ := Option.map_eq_some_iff.1 h
  cases e
  obtain ⟨w', hu, h1, h2⟩ := hr _ hy
  exact ⟨.skip, undef, w', ρ, by rw [he]; simp [hu], .inr ⟨rfl, rfl⟩, .val _, h1, h2⟩

theorem gives_new {ρ σ w} {P : Program} {o : Oper} {a : Act} {s : Sem Value} (he : execOp a.eval o = (do pure (.value (← s)))) {x σ'}
    (hr : ∃ u w' ρ', s.run P w = .ok u w' ∧ VRel (ctx ρ' σ' w') x u ∧ Sim ρ' σ' w' ∧ Ext ρ σ w ρ' σ' w') :
    ∃ n v w' ρ', (execOp a.eval o).run P w = .ok n w' ∧ Gives n v ∧ VRel (ctx ρ' σ' w') x v ∧ Sim ρ' σ' w' ∧ Ext ρ σ w ρ' σ' w' := by
  obtain ⟨u, w', ρ', h1, h2, h3, h4⟩ := hr
  exact ⟨_, u, w', ρ', by rw [he]; simp [h1], .inl rfl, h2, h3, h4⟩

theorem list_one {α : Type} {l : List α} {f : α → AV} {x} (h : l.map f = [x]) : ∃ a, l = [a] ∧ f a = x := by
  match l, h with
  | [a], h => simp at h; exact ⟨a, rfl, h⟩
theorem list_two {α : Type} {l : List α} {f : α → AV} {x y} (h : l.map f = [x, y]) : ∃ a b, l = [a, b] ∧ f a = x ∧ f b = y := by
  match l, h with
  | [a, b], h => simp at h; exact ⟨a, b, rfl, h.1, h.2⟩

theorem arr_of_list {α : Type} {a : Array α} {l : List α} (h : a.toList = l) : a = l.toArray := by rw [← h]

/-- One block more, that nobody will write. -/
theorem Sim.more {ρ σ w w'} (hs : Sim ρ σ w) (hsz : w'.heap.size = w.heap.size + 1) (hold : ∀ b : Nat, b < w.heap.size → w'.heap[b]? = w.heap[b]?) (ho : w'.os = w.os) (ht : w'.tape = w.tape) (hp : w'.output = w.output) (hdr : w.drawn ≤ w'.drawn) :
    Sim ρ σ w' ∧ Ext ρ σ w ρ σ w' ∧ Imm ρ σ w' w.heap.size := by
  have hle : CLe (ctx ρ σ w) (ctx ρ σ w') := by
    refine ⟨fun _ _ h => h, fun b hb => ⟨⟨by rw [hsz]; exact Nat.lt_succ_of_lt hb.1, hb.2⟩, hold b hb.1⟩, fun b cs t f hb => ?_⟩
    exact ⟨cs, f, by rw [show (ctx ρ σ w').h = w'.heap from rfl, hold b (Array.getElem?_eq_some_iff.1 hb).1]; exact hb, rfl⟩
  refine ⟨⟨hs.fresh, fun id o' ho' => ?_, hs.inj⟩, ⟨hle, Nat.le_refl _, ho, ht, hp, by rw [hsz]; exact Nat.le_succ _⟩, ⟨by rw [hsz]; exact Nat.lt_succ_self _, fun id o' s ho' hp => ?_⟩⟩
  · obtain ⟨p, hp, hor⟩ := hs.obj id o' ho'
    refine ⟨p, hp, hor.mono hle fun b hb => hold b ?_⟩
    obtain ⟨pb, psz⟩ := p
    simp at hb; subst hb
    exact hor.lt
  · exact Nat.lt_irrefl _ (hs.blk ho' hp)

theorem sConvBytes {ρ σ w} (hs : Sim ρ σ w) {P s d} (hk : convKind P s d = some .bytes) {x v} (hx : VRel (ctx ρ σ w) x v) {y} (h : aConv .bytes x = some y) :
    ∃ u w' ρ', (convert s d v).run P w = .ok u w' ∧ VRel (ctx ρ' σ w') y u ∧ Sim ρ' σ w' ∧ Ext ρ σ w ρ' σ w' := by
  unfold convKind at hk
  split at hk
  · cases hk
  · cases hk
  · rename_i e h1 h2
    split at hk
    · rename_i h3
      unfold aConv at h
      split at h
      · rename_i q; cases q
      · rename_i q; cases q
      · rename_i b _
        cases h
        obtain rfl := hx.val_inv
        obtain ⟨m1, m2, m3⟩ := hs.more (w' := Go.Lib.bytesWorld w e b) (Go.Lib.bytesWorld_size w e b) (fun j hj => Go.Lib.bytesWorld_at_old w e b j hj) rfl rfl rfl (Nat.le_succ _)
        refine ⟨_, _, ρ, Go.Lib.run_convert_string_bytes w s d e b h1 h2 h3, ?_, m1, m2⟩
        have hlen : (bytesV b).length = b.size := by simp [bytesV]
        have hget : ∀ (i : Nat) el, (bytesV b)[i]? = some el → i < b.size ∧ el = [.val (.int .u8 (b.data.toList.getD i 0).toNat)] := by
          intro i el hi
          have hil : i < b.size := by rw [← hlen]; exact (List.getElem?_eq_some_iff.1 hi).1
          refine ⟨hil, ?_⟩
          simp only [bytesV, List.getElem?_map, Option.map_eq_some_iff] at hi
          obtain ⟨c, hc, rfl⟩ := hi
          simp [List.getD_eq_getElem?_getD, hc]
        refine .sl (fun i _ => .int .u8 (b.data.toList.getD i 0).toNat) hlen.symm (fun q => by cases q) (grownCap_ge w _ _ _) (fun q => by cases q) (fun i el hi => ?_) (fun i el j x hi hx => ?_)
        · obtain ⟨hil, rfl⟩ := hget i el hi
          refine ⟨rfl, _, 0, rfl, m3, fun j hj => ?_⟩
          obtain rfl : j = 0 := by omega
          refine ⟨?_, rfl⟩
          have := Go.Lib.bytesWorld_cell w e b i hil
          rw [← this]
          simp only [Nat.zero_add, Nat.mul_one, Nat.add_zero]
          exact (cell_eq _ _ _).symm
        · obtain ⟨hil, rfl⟩ := hget i el hi
          cases j with
          | zero => obtain rfl := Option.some.inj hx; exact .val _
          | succ j => simp at hx
      · cases h
    · cases hk
  · cases hk

set_option maxHeartbeats 1000000 in
theorem aBuiltin_sound {ρ σ w} (hs : Sim ρ σ w) {P : Program} {o : Oper} {fr} {a : Act} (hf : FRel (ctx ρ σ w) fr a.tmps) {b : Builtin} {args : Array Operand} {argTypes : Array TypeId}
    (hrun : ∀ (s : Sem Value), (∀ ty cs, builtin b argTypes ty cs (args.map a.eval) = (do pure (.value (← s)))) → ∀ w, (execOp a.eval o).run P w = (do pure (.value (← s)) : Sem Next).run P w)
    {x σ'} (h : aBuiltin P b argTypes.toList (args.toList.map (ev fr)) σ = some (x, σ')) :
    ∃ n v w' ρ', (execOp a.eval o).run P w = .ok n w' ∧ Gives n v ∧ VRel (ctx ρ' σ' w') x v ∧ Sim ρ' σ' w' ∧ Ext ρ σ w ρ' σ' w' := by
  unfold aBuiltin at h
  split at h
  · rename_i t y ht hx -- len
    obtain ⟨p, hp, rfl⟩ := list_one hx
    obtain rfl := arr_of_list ht
    obtain rfl := arr_of_list hp
    split at h
    · rename_i k hk
      obtain ⟨z, hz, hh⟩ := Option.map_eq_some_iff.1 h
      cases hh
      unfold aLenK at hz
      split at hz
      · rename_i hfit
        obtain ⟨u, hu, hrel⟩ := sLen (ty := 0) hs hk (hf.eval p) hfit hz
        have hall : ∀ ty, Builtin.len_ #[t] ty #[a.eval p] = Builtin.len_ #[t] 0 #[a.eval p] := fun _ => rfl
        exact ⟨.value u, u, w, ρ, by rw [hrun (Builtin.len_ #[t] 0 #[a.eval p]) (fun ty cs => by simp [builtin, hall ty])]; simp [hu], .inl rfl, hrel, hs, Ext.refl _ _ _⟩
      · cases hz
    · cases h
  · rename_i t t' s y ht hx -- append
    obtain ⟨p, q, hp, rfl, rfl⟩ := list_two hx
    obtain rfl := arr_of_list ht
    obtain rfl := arr_of_list hp
    split at h
    · rename_i e
      subst e
      split at h
      · rename_i el sz by' hi
        split at h
        · rename_i zs hz
          split at h
          · rename_i hzl
            obtain ⟨u, w', ρ', h1, h2, h3, h4⟩ := sAppend (ty := 0) hs hi hz hzl (hf.eval p) (hf.eval q) h
            have hall : ∀ ty, Builtin.append_ #[t, t] ty #[a.eval p, a.eval q] = Builtin.append_ #[t, t] 0 #[a.eval p, a.eval q] := fun _ => rfl
            exact ⟨.value u, u, w', ρ', by rw [hrun (Builtin.append_ #[t, t] 0 #[a.eval p, a.eval q]) (fun ty cs => by simp [builtin, hall ty])]; simp [h1], .inl rfl, h2, h3, h4⟩
          · cases h
        · cases h
      · cases h
    · split at h
      · rename_i el sz by' kn hi htn
        split at h
        · rename_i zs hz
          obtain ⟨u, w', ρ', h1, h2, h3, h4⟩ := sAppendZ (ty := 0) hs hi hz htn (hf.eval p) (hf.eval q) h
          have hall : ∀ ty, Builtin.append_ #[t, t'] ty #[a.eval p, a.eval q] = Builtin.append_ #[t, t'] 0 #[a.eval p, a.eval q] := fun _ => rfl
          exact ⟨.value u, u, w', ρ', by rw [hrun (Builtin.append_ #[t, t'] 0 #[a.eval p, a.eval q]) (fun ty cs => by simp [builtin, hall ty])]; simp [h1], .inl rfl, h2, h3, h4⟩
        · cases h
      · cases h
  · rename_i x' y hx -- max
    obtain ⟨p, q, hp, rfl, rfl⟩ := list_two hx
    obtain rfl := arr_of_list hp
    obtain ⟨z, hz, hh⟩ := Option.map_eq_some_iff.1 h
    cases hh
    obtain ⟨u, hu, hrel⟩ := sMax (P := P) (ts := argTypes) (ty := 0) (hf.eval p) (hf.eval q) hz w
    have hall : ∀ ty, Builtin.max_ argTypes ty #[a.eval p, a.eval q] = Builtin.max_ argTypes 0 #[a.eval p, a.eval q] := fun _ => rfl
    exact ⟨.value u, u, w, ρ, by rw [hrun (Builtin.max_ argTypes 0 #[a.eval p, a.eval q]) (fun ty cs => by simp [builtin, hall ty])]; simp [hu], .inl rfl, hrel, hs, Ext.refl _ _ _⟩
  · rename_i x' y hx -- min
    obtain ⟨p, q, hp, rfl, rfl⟩ := list_two hx
    obtain rfl := arr_of_list hp
    obtain ⟨z, hz, hh⟩ := Option.map_eq_some_iff.1 h
    cases hh
    obtain ⟨u, hu, hrel⟩ := sMin (P := P) (ts := argTypes) (ty := 0) (hf.eval p) (hf.eval q) hz w
    have hall : ∀ ty, Builtin.min_ argTypes ty #[a.eval p, a.eval q] = Builtin.min_ argTypes 0 #[a.eval p, a.eval q] := fun _ => rfl
    exact ⟨.value u, u, w, ρ, by rw [hrun (Builtin.min_ argTypes 0 #[a.eval p, a.eval q]) (fun ty cs => by simp [builtin, hall ty])]; simp [hu], .inl rfl, hrel, hs, Ext.refl _ _ _⟩
  · rename_i t t2 m k ht hx -- delete
    obtain ⟨p, q, hp, rfl, rfl⟩ := list_two hx
    obtain rfl := arr_of_list ht
    obtain rfl := arr_of_list hp
    split at h
    · rename_i kt d el hm
      obtain ⟨τ, hτ, hh⟩ := Option.map_eq_some_iff.1 h
      cases hh
      obtain ⟨w', h1, h2, h3⟩ := sMapDelete (t2 := t2) (ty := 0) hs hm (hf.eval p) (hf.eval q) hτ
      have hall : ∀ ty, Builtin.delete_ #[t, t2] ty #[a.eval p, a.eval q] = Builtin.delete_ #[t, t2] 0 #[a.eval p, a.eval q] := fun _ => rfl
      exact ⟨.value (.tuple #[]), _, w', ρ, by rw [hrun (Builtin.delete_ #[t, t2] 0 #[a.eval p, a.eval q]) (fun ty cs => by simp [builtin, hall ty])]; simp [h1], .inl rfl, .val _, h2, h3⟩
    · cases h
  · rename_i t y ht hx -- cap
    obtain ⟨p, hp, rfl⟩ := list_one hx
    obtain rfl := arr_of_list ht
    obtain rfl := arr_of_list hp
    split at h
    · rename_i si hi
      obtain ⟨el, sz, by'⟩ := si
      unfold aCap0 at h
      split at h
      · rename_i hv
        cases h
        obtain ⟨hu, _⟩ := sinfo_spec hi
        have hv' := hf.eval p
        rw [hv] at hv'
        have h1 := hv'.val_inv
        have hc : (Builtin.cap_ #[t] 0 #[a.eval p]).run P w = .ok (.int .i64 0) w := by rw [h1]; simp [Builtin.cap_, run_underlying hu, goInt]
        have hall : ∀ ty, Builtin.cap_ #[t] ty #[a.eval p] = Builtin.cap_ #[t] 0 #[a.eval p] := fun _ => rfl
        exact ⟨.value (.int .i64 0), _, w, ρ, by rw [hrun (Builtin.cap_ #[t] 0 #[a.eval p]) (fun ty cs => by simp [builtin, hall ty])]; simp [hc], .inl rfl, .val _, hs, Ext.refl _ _ _⟩
      · cases h
    · cases h
  · rename_i t s ht hx -- clear
    obtain ⟨p, hp, rfl⟩ := list_one hx
    obtain rfl := arr_of_list ht
    obtain rfl := arr_of_list hp
    split at h
    · rename_i el sz by' hi
      split at h
      · rename_i zs hz
        obtain ⟨τ, hτ, hh⟩ := Option.map_eq_some_iff.1 h
        cases hh
        obtain ⟨w', h1, h2, h3⟩ := sClear (ty := 0) hs hi hz (hf.eval p) hτ
        have hall : ∀ ty, Builtin.clear_ #[t] ty #[a.eval p] = Builtin.clear_ #[t] 0 #[a.eval p] := fun _ => rfl
        exact ⟨.value (.tuple #[]), _, w', ρ, by rw [hrun (Builtin.clear_ #[t] 0 #[a.eval p]) (fun ty cs => by simp [builtin, hall ty])]; simp [h1], .inl rfl, .val _, h2, h3⟩
      · cases h
    · cases h
  · cases h

set_option maxHeartbeats 4000000 in
theorem aopF_sound {ρ σ w} (hs : Sim ρ σ w) {P : Program} {o : Oper} {fr} {a : Act} (hf : FRel (ctx ρ σ w) fr a.tmps) {x σ'} (h : aopF P o.op fr σ = some (x, σ')) :
    ∃ n v w' ρ', (execOp a.eval o).run P w = .ok n w' ∧ Gives n v ∧ VRel (ctx ρ' σ' w') x v ∧ Sim ρ' σ' w' ∧ Ext ρ σ w ρ' σ' w' := by
  unfold aopF at h
  split at h
  · rename_i y e -- move
    cases h
    exact ⟨_, _, w, ρ, by simp [execOp, e], .inl rfl, hf.eval y, hs, Ext.refl _ _ _⟩
  · rename_i y e -- assign
    cases h
    exact ⟨_, _, w, ρ, by simp [execOp, e], .inl rfl, hf.eval y, hs, Ext.refl _ _ _⟩
  · rename_i p q r e -- pick
    obtain ⟨z, hz, hh⟩ := Option.map_eq_some_iff.1 h
    cases hh
    unfold aPick at hz
    split at hz
    · rename_i t ht
      cases hz
      have hv := hf.eval p
      rw [ht] at hv
      have hv := hv.val_inv
      cases t with
      | true => exact ⟨.value (a.eval q), _, w, ρ, by simp [execOp, e, hv, asBool], .inl rfl, hf.eval q, hs, Ext.refl _ _ _⟩
      | false => exact ⟨.value (a.eval r), _, w, ρ, by simp [execOp, e, hv, asBool], .inl rfl, hf.eval r, hs, Ext.refl _ _ _⟩
    · cases hz
  · rename_i t e -- alloc
    split at h
    · rename_i zs hz
      cases h
      exact gives_new (s := Instr.alloc t true (.tuple #[])) (by simp only [execOp, e]) (sAlloc hs hz)
    · cases h
  · rename_i t y e -- box
    obtain ⟨cs, hc, hh⟩ := Option.map_eq_some_iff.1 h
    cases hh
    exact gives_new (s := Instr.box t (a.eval y)) (by simp only [execOp, e]) (sBox hs t (hf.eval y) hc)
  · rename_i t parts e -- build
    split at h
    · rename_i zs pl hz hpl
      split at h
      · rename_i l hl
        exact gives_pure hs (s := Instr.build t (parts.map fun (i, x) => (i, a.eval x))) (by simp only [execOp, e]) h (fun y hy => sBuild hz hpl hf hl hy w)
      · cases h
    · cases h
  · rename_i t len parts e -- buildSlice
    split at h
    · rename_i el sz by' hi
      split at h
      · rename_i zs hz
        exact gives_new (s := Instr.buildSlice t len (parts.map fun (i, x) => (i, a.eval x))) (by simp only [execOp, e]) (sBuildSlice hs hi hz hf h)
      · cases h
    · cases h
  · rename_i t y e -- load
    split at h
    · rename_i g n ht
      exact gives_pure hs (s := Instr.loadAt t (a.eval y)) (by simp only [execOp, e]) h (fun z hz => sLoad hs ht (hf.eval y) hz)
    · cases h
  · rename_i t p v e -- store
    split at h
    · rename_i g n ht
      exact gives_unit (s := Instr.storeAt t (a.eval p) (a.eval v)) (by simp only [execOp, e]) h (fun τ hτ => sStore hs ht (hf.eval p) (hf.eval v) hτ)
    · cases h
  · rename_i y e -- nilCheck
    obtain ⟨z, hz, hh⟩ := Option.map_eq_some_iff.1 h
    cases hh
    have hv := hf.eval y
    have : (execOp a.eval o).run P w = .ok (.value (a.eval y)) w ∧ VRel (ctx ρ σ w) x (a.eval y) := by
      simp only [execOp, e]
      generalize a.eval y = v at *
      generalize ev fr y = q at *
      unfold aNilCheck at hz
      split at hz <;> first | (cases hz; done) | (cases hz; cases hv; refine ⟨rfl, ?_⟩; constructor <;> assumption; done) | skip
      all_goals
        cases hz
        refine ⟨?_, hv⟩
        cases hv
        rfl
    exact ⟨_, _, w, ρ, this.1, .inl rfl, this.2, hs, Ext.refl _ _ _⟩
  · rename_i op t p q yt e -- binOp
    split at h
    · rename_i k hk
      exact gives_pure hs (s := do eqGuard op t p q (a.eval p) (a.eval q); binOp op t (a.eval p) (a.eval q)) (by simp only [execOp, e]) h (fun z hz => sBin hk (hf.eval p) (hf.eval q) hz p q w)
    · cases h
  · rename_i t y e -- not
    exact gives_pure hs (s := Op.unary .not (a.eval y)) (by simp only [execOp, e]) h (fun z hz => sNot (hf.eval y) hz w)
  · rename_i t y e -- neg
    exact gives_pure hs (s := Op.unary .neg (a.eval y)) (by simp only [execOp, e]) h (fun z hz => sNeg (hf.eval y) hz w)
  · rename_i s d y e -- convert
    split at h
    · rename_i k hk
      by_cases hb : k = .bytes
      · subst hb
        obtain ⟨z, hz, hh⟩ := Option.map_eq_some_iff.1 h
        cases hh
        exact gives_new (s := convert s d (a.eval y)) (by simp only [execOp, e]) (sConvBytes hs hk (hf.eval y) hz)
      · exact gives_pure hs (s := convert s d (a.eval y)) (by simp only [execOp, e]) h (fun z hz => sConv hk hb (hf.eval y) hz w)
    · cases h
  · rename_i t y e -- makeInterface
    split at h
    · rename_i hi
      cases h
      refine ⟨.value (.iface t (a.eval y)), _, w, ρ, ?_, .inl rfl, .iface (hf.eval y), hs, Ext.refl _ _ _⟩
      unfold ifaceOk at hi
      split at hi
      · cases hi
      · rename_i d hne hu
        have : (Instr.makeInterface t (a.eval y)).run P w = .ok (.iface t (a.eval y)) w := by
          simp only [Instr.makeInterface, Sem.run_bind, run_underlying hu, Result.andThen_ok]
          cases d <;> first | rfl | exact absurd hu (hne _)
        simp only [execOp, e, Sem.run_bind, this, Result.andThen_ok, Sem.run_pure]
      · cases hi
    · cases h
  · rename_i fn first cap e -- makeFunc
    split at h
    · rename_i h0
      cases h
      have hfirst : first = #[] := Array.eq_empty_of_size_eq_zero h0
      subst hfirst
      refine ⟨.value (.func fn #[] (cap.map a.eval)), _, w, ρ, by simp [execOp, e, Instr.makeFunc], .inl rfl, .fn (by simp) (fun i x v hx hv => ?_), hs, Ext.refl _ _ _⟩
      simp only [List.getElem?_map, Array.getElem?_toList] at hx
      simp only [Array.getElem?_map] at hv
      obtain ⟨q, hq, rfl⟩ := Option.map_eq_some_iff.1 hx
      rw [hq] at hv
      simp at hv
      subst hv
      exact hf.eval q
    · cases h
  · rename_i t e -- makeMap
    cases h
    exact gives_new (s := Instr.makeMap t none) (by simp only [execOp, e, Option.map_none]) (sMakeMap hs)
  · rename_i t x y e -- makeSlice
    split at h
    · rename_i el sz by' hi
      split at h
      · rename_i zs hz
        exact gives_new (s := Instr.makeSlice t (a.eval x) (a.eval y)) (by simp only [execOp, e]) (sMakeSlice hs hi hz (hf.eval x) (hf.eval y) h)
      · cases h
    · cases h
  · rename_i t y lo hi mx e -- slice
    split at h
    · rename_i n hn
      exact gives_pure hs (s := Instr.sliceAt t (a.eval y) (lo.map a.eval) (hi.map a.eval) (mx.map a.eval)) (by simp only [execOp, e]) h (fun z hz => sSlice hn (hf.eval y) (ORelO_map hf lo) (ORelO_map hf hi) (ORelO_map hf mx) hz w)
    · split at h
      · rename_i hst
        split at h
        · exact gives_pure hs (s := Instr.sliceAt t (a.eval y) (lo.map a.eval) (hi.map a.eval) none) (by simp only [execOp, e, Option.map_none]) h (fun z hz => sSliceStr hst (hf.eval y) (ORelO_map hf lo) (ORelO_map hf hi) hz w)
        · cases h
      · cases h
  · rename_i s y f e -- fieldAddr
    split at h
    · rename_i off hoff
      exact gives_pure hs (s := Instr.fieldAt s (a.eval y) f) (by simp only [execOp, e]) h (fun z hz => sFieldAddr hoff (hf.eval y) hz w)
    · cases h
  · rename_i s y f e -- field
    split at h
    · rename_i off g n hoff
      exact gives_pure hs (s := Instr.field s (a.eval y) f) (by simp only [execOp, e]) h (fun z hz => sField hoff (hf.eval y) hz w)
    · cases h
  · rename_i t y i e -- indexAddr
    split at h
    · rename_i n hn
      exact gives_pure hs (s := Instr.indexAt t (a.eval y) (a.eval i)) (by simp only [execOp, e]) h (fun z hz => sIndexAddr hs hn (hf.eval y) (hf.eval i) hz)
    · cases h
  · rename_i t y i e -- index
    split at h
    · rename_i hst
      exact gives_pure hs (s := Instr.index t (a.eval y) (a.eval i)) (by simp only [execOp, e]) h (fun z hz => sIndexStr hst (hf.eval y) (hf.eval i) hz w)
    · cases h
  · rename_i t y i ok e -- lookup
    split at h
    · rename_i kt d el hm
      split at h
      · rename_i z hz
        exact gives_pure hs (s := Instr.lookup t (a.eval y) (a.eval i) ok) (by simp only [execOp, e]) h (fun q hq => sLookup hs hm hz (hf.eval y) (hf.eval i) hq)
      · cases h
    · cases h
  · rename_i t m k y e -- mapUpdate
    split at h
    · rename_i kt d el hm
      exact gives_unit (s := Instr.mapUpdate t (a.eval m) (a.eval k) (a.eval y)) (by simp only [execOp, e]) h (fun τ hτ => sMapUpdate hs hm (hf.eval m) (hf.eval k) (hf.eval y) hτ)
    · cases h
  · rename_i t m k y e -- insert
    split at h
    · rename_i kt d el hm
      exact gives_unit (s := Instr.mapUpdate t (a.eval m) (a.eval k) (a.eval y)) (by simp only [execOp, e]) h (fun τ hτ => sMapUpdate hs hm (hf.eval m) (hf.eval k) (hf.eval y) hτ)
    · cases h
  · rename_i t i e -- extract
    exact gives_pure hs (s := Instr.extract (a.eval t) i) (by simp only [execOp, e]) h (fun z hz => sExtract (hf.eval t) hz w)
  · rename_i y xt asserted e -- typeAssert
    split at h
    · rename_i hn
      split at h
      · rename_i z hz
        exact gives_pure hs (s := Instr.typeAssert (a.eval y) xt asserted true) (by simp only [execOp, e]) h (fun q hq => sAssert hn hz (hf.eval y) hq w)
      · cases h
    · cases h
  · rename_i c e -- builtin
    split at h
    · rename_i b hb
      obtain ⟨callee, args, argTypes⟩ := c
      simp only at hb h
      subst hb
      have hrun : ∀ (s : Sem Value), (∀ ty cs, builtin b argTypes ty cs (args.map a.eval) = (do pure (.value (← s)))) → ∀ w, (execOp a.eval o).run P w = (do pure (.value (← s)) : Sem Next).run P w := by
        intro s hbs w
        simp only [execOp, e, resolve, Sem.run_bind, Sem.run_pure, Result.andThen_ok, invoke]
        rw [hbs]
        simp
      exact aBuiltin_sound hs hf hrun h
    · cases h
  · cases h

end Go.Abs
