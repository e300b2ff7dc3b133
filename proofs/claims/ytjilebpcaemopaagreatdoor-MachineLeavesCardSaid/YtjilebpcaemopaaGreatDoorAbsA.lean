import Derived.WalkKit
set_option linter.unusedVariables false
namespace Go.Abs
open Go

inductive AV where
  | any
  | val (v : Value)
  | ptr (id i o : Nat)
  | ref (cs : List AV)
  | sl (clip : Bool) (sz : Nat) (xs : List (List AV))
  | own (id len : Nat)
  | win (id off sz len : Nat)
  | mp (id : Nat)
  | fn (f : Fn) (cap : List AV)
  | iface (t : TypeId) (v : AV)
  | agg (cs : List AV)
  | tup (vs : List AV)

instance : Inhabited AV := ⟨.any⟩

def cellOf (h : Array Obj) (b o : Nat) : Option Value :=
  match h[b]? with
  | some (.cells c _ _) => c[o]?
  | _ => none

structure Ctx where
  ρ : Nat → Option (Option Nat × Nat)
  imm : Nat → Prop
  h : Array Obj

inductive VRel (c : Ctx) : AV → Value → Prop
  | any (v : Value) : VRel c .any v
  | val (v : Value) : VRel c (.val v) v
  | ptr {id i o b sz : Nat} (h : c.ρ id = some (some b, sz)) : VRel c (.ptr id i o) (.pointer (some ⟨b, i * sz + o, none⟩))
  | ref {cs : List AV} {b o : Nat} (f : Nat → Value) (hi : c.imm b) (hc : ∀ j, j < cs.length → cellOf c.h b (o + j) = some (f j) ∧ (f j).oneCell' = true)
      (hr : ∀ j x, cs[j]? = some x → VRel c x (f j)) : VRel c (.ref cs) (.pointer (some ⟨b, o, none⟩))
  | sl {clip : Bool} {sz : Nat} {xs : List (List AV)} {a : Option Addr} {len cap : Nat} (f : Nat → Nat → Value) (hl : len = xs.length) (hn : a = none → xs = [] ∧ cap = 0) (hcap : len ≤ cap) (hclip : clip = true → cap = len)
      (hc : ∀ i el, xs[i]? = some el → el.length = sz ∧ ∃ b o, a = some ⟨b, o, none⟩ ∧ c.imm b ∧ ∀ j, j < sz → cellOf c.h b (o + i * sz + j) = some (f i j) ∧ (f i j).oneCell' = true)
      (hr : ∀ i el j x, xs[i]? = some el → el[j]? = some x → VRel c x (f i j)) : VRel c (.sl clip sz xs) (.slice a len cap)
  | own {id len b sz cap : Nat} (h : c.ρ id = some (some b, sz)) (hl : len ≤ cap) (hb : ∃ cs t f, c.h[b]? = some (.cells cs t f) ∧ cap * sz ≤ cs.size) :
      VRel c (.own id len) (.slice (some ⟨b, 0, none⟩) len cap)
  | ownNil {id : Nat} {a : Option Addr} {p : Option Nat × Nat} (h : c.ρ id = some p) : VRel c (.own id 0) (.slice a 0 0)
  | win {id off sz len b s cap : Nat} (h : c.ρ id = some (some b, s)) (hl : len ≤ cap) : VRel c (.win id off sz len) (.slice (some ⟨b, off * sz, none⟩) len cap)
  | winNil {id off sz cap : Nat} {a : Option Addr} {p : Option Nat × Nat} (h : c.ρ id = some p) : VRel c (.win id off sz 0) (.slice a 0 cap)
  | mp {id b sz : Nat} (h : c.ρ id = some (some b, sz)) : VRel c (.mp id) (.map (some b))
  | fn {f : Fn} {cap : List AV} {vs : Array Value} (hl : cap.length = vs.size) (hr : ∀ (i : Nat) (x : AV) (v : Value), cap[i]? = some x → vs[i]? = some v → VRel c x v) : VRel c (.fn f cap) (.func f #[] vs)
  | iface {t : TypeId} {x : AV} {v : Value} (h : VRel c x v) : VRel c (.iface t x) (.iface t v)
  | agg {cs : List AV} {vs : Array Value} (hl : cs.length = vs.size) (h1 : ∀ (i : Nat) (v : Value), vs[i]? = some v → v.oneCell' = true) (hr : ∀ (i : Nat) (x : AV) (v : Value), cs[i]? = some x → vs[i]? = some v → VRel c x v) : VRel c (.agg cs) (.agg vs)
  | tup {cs : List AV} {vs : Array Value} (hl : cs.length = vs.size) (hr : ∀ (i : Nat) (x : AV) (v : Value), cs[i]? = some x → vs[i]? = some v → VRel c x v) : VRel c (.tup cs) (.tuple vs)

/-- What was known stays known. -/
structure CLe (c d : Ctx) : Prop where
  ρ : ∀ id p, c.ρ id = some p → d.ρ id = some p
  imm : ∀ b, c.imm b → d.imm b ∧ d.h[b]? = c.h[b]?
  sz : ∀ (b : Nat) cs t f, c.h[b]? = some (.cells cs t f) → ∃ cs' f', d.h[b]? = some (.cells cs' t f') ∧ cs'.size = cs.size

theorem CLe.refl (c : Ctx) : CLe c c := ⟨fun _ _ h => h, fun _ h => ⟨h, rfl⟩, fun _ cs _ f h => ⟨cs, f, h, rfl⟩⟩
theorem CLe.trans {c d e : Ctx} (h : CLe c d) (k : CLe d e) : CLe c e :=
  ⟨fun id p hp => k.ρ id p (h.ρ id p hp), fun b hb => ⟨(k.imm b (h.imm b hb).1).1, (k.imm b (h.imm b hb).1).2.trans (h.imm b hb).2⟩,
   fun b cs t f hb => by
    obtain ⟨cs', f', h1, h2⟩ := h.sz b cs t f hb
    obtain ⟨cs'', f'', h3, h4⟩ := k.sz b cs' t f' h1
    exact ⟨cs'', f'', h3, h4.trans h2⟩⟩

theorem cellOf_congr {h h' : Array Obj} {b : Nat} (e : h'[b]? = h[b]?) (o : Nat) : cellOf h' b o = cellOf h b o := by
  simp [cellOf, e]

theorem VRel.mono {c d : Ctx} (hle : CLe c d) {x : AV} {v : Value} (h : VRel c x v) : VRel d x v := by
  induction h with
  | any v => exact .any v
  | val v => exact .val v
  | ptr h => exact .ptr (hle.ρ _ _ h)
  | ref f hi hc _ ih =>
    exact .ref f (hle.imm _ hi).1 (fun j hj => by rw [cellOf_congr (hle.imm _ hi).2]; exact hc j hj) ih
  | sl f hl hn hcap hclip hc _ ih =>
    refine .sl f hl hn hcap hclip (fun i el he => ?_) ih
    obtain ⟨h1, b, o, h2, h3, h4⟩ := hc i el he
    exact ⟨h1, b, o, h2, (hle.imm _ h3).1, fun j hj => by rw [cellOf_congr (hle.imm _ h3).2]; exact h4 j hj⟩
  | own h hl hb =>
    obtain ⟨cs, t, f, h1, h2⟩ := hb
    obtain ⟨cs', f', h3, h4⟩ := hle.sz _ _ _ _ h1
    exact .own (hle.ρ _ _ h) hl ⟨cs', t, f', h3, by omega⟩
  | ownNil h => exact .ownNil (hle.ρ _ _ h)
  | win h hl => exact .win (hle.ρ _ _ h) hl
  | winNil h => exact .winNil (hle.ρ _ _ h)
  | mp h => exact .mp (hle.ρ _ _ h)
  | fn hl _ ih => exact .fn hl ih
  | iface _ ih => exact .iface ih
  | agg hl h1 _ ih => exact .agg hl h1 ih
  | tup hl _ ih => exact .tup hl ih

theorem nbeq_ne {a b : Nat} (h : a ≠ b) : Nat.beq a b = false := by
  cases hb : Nat.beq a b
  · rfl
  · exact absurd (Nat.eq_of_beq_eq_true hb) h

theorem VRel.own_inv {c : Ctx} {id len v} (h : VRel c (.own id len) v) : (∃ b sz cap, v = .slice (some ⟨b, 0, none⟩) len cap ∧ c.ρ id = some (some b, sz) ∧ len ≤ cap ∧ ∃ cs t f, c.h[b]? = some (.cells cs t f) ∧ cap * sz ≤ cs.size) ∨ (len = 0 ∧ ∃ a, v = .slice a 0 0 ∧ ∃ p, c.ρ id = some p) := by
  cases h with
  | own h hl hb => exact .inl ⟨_, _, _, rfl, h, hl, hb⟩
  | ownNil h => exact .inr ⟨rfl, _, rfl, _, h⟩
theorem VRel.win_inv {c : Ctx} {id off sz len v} (h : VRel c (.win id off sz len) v) : (∃ b s cap, v = .slice (some ⟨b, off * sz, none⟩) len cap ∧ c.ρ id = some (some b, s) ∧ len ≤ cap) ∨ (len = 0 ∧ ∃ a cap, v = .slice a 0 cap) := by
  cases h with
  | win h hl => exact .inl ⟨_, _, _, rfl, h, hl⟩
  | winNil h => exact .inr ⟨rfl, _, _, rfl⟩
theorem VRel.val_inv {c : Ctx} {u v} (h : VRel c (.val u) v) : v = u := by cases h; rfl

/-! ### Objects that may change -/

/-- A map's key. -/
inductive MK where
  | i (k : IntKind) (n : Int)
  | s (b : ByteArray)
  deriving DecidableEq
def MK.val : MK → Value
  | .i k n => .int k n
  | .s b => .string b

inductive AObj where
  | cells (sz : Nat) (els : List (List AV))
  | map (es : List (MK × AV))
  | raw (o : Obj)

structure AHeap where
  next : Nat
  get : Nat → Option AObj

def AHeap.new (σ : AHeap) (o : AObj) : AHeap := ⟨σ.next + 1, fun i => bif Nat.beq i σ.next then some o else σ.get i⟩
def AHeap.set (σ : AHeap) (id : Nat) (o : AObj) : AHeap := ⟨σ.next, fun i => bif Nat.beq i id then some o else σ.get i⟩
def AHeap.del (σ : AHeap) (id : Nat) : AHeap := ⟨σ.next, fun i => bif Nat.beq i id then none else σ.get i⟩
def AHeap.empty : AHeap := ⟨0, fun _ => none⟩

inductive ORel (c : Ctx) : AObj → Option Nat × Nat → Prop
  | cells {els : List (List AV)} {b sz : Nat} (cs : Array Value) (t : TypeId) (hb : c.h[b]? = some (.cells cs t (0, 0))) (hsz : els.length * sz ≤ cs.size)
      (he : ∀ (i : Nat) (el : List AV), els[i]? = some el → el.length = sz) (hone : ∀ (j : Nat) (v : Value), cs[j]? = some v → v.oneCell' = true)
      (hr : ∀ (i : Nat) (el : List AV) (j : Nat) (x : AV), els[i]? = some el → el[j]? = some x → ∀ v, cs[i * sz + j]? = some v → VRel c x v) : ORel c (.cells sz els) (some b, sz)
  | none {sz : Nat} : ORel c (.cells sz []) (none, sz)
  | map {es : List (MK × AV)} {b sz : Nat} (ents : Array MapEntry) (clock : Nat) (hb : c.h[b]? = some (.map ents clock)) (hl : ents.size = es.length)
      (hr : ∀ (i : Nat) (k : MK) (x : AV) (e : MapEntry), es[i]? = some (k, x) → ents[i]? = some e → e.key = k.val ∧ VRel c x e.val) : ORel c (.map es) (some b, sz)
  | raw {o : Obj} {b sz : Nat} (hb : c.h[b]? = some o) (hn : ∀ cs t f, o ≠ .cells cs t f) : ORel c (.raw o) (some b, sz)

def Imm (ρ : Nat → Option (Option Nat × Nat)) (σ : AHeap) (w : World) (b : Nat) : Prop :=
  b < w.heap.size ∧ ∀ id o sz, σ.get id = some o → ρ id ≠ some (some b, sz)

def ctx (ρ : Nat → Option (Option Nat × Nat)) (σ : AHeap) (w : World) : Ctx := ⟨ρ, Imm ρ σ w, w.heap⟩

structure Sim (ρ : Nat → Option (Option Nat × Nat)) (σ : AHeap) (w : World) : Prop where
  fresh : ∀ id, σ.next ≤ id → ρ id = none
  obj : ∀ id o, σ.get id = some o → ∃ p, ρ id = some p ∧ ORel (ctx ρ σ w) o p
  inj : ∀ i j oi oj b s t, σ.get i = some oi → σ.get j = some oj → ρ i = some (some b, s) → ρ j = some (some b, t) → i = j

/-- What a run leaves, whatever it does. -/
structure Ext (ρ : Nat → Option (Option Nat × Nat)) (σ : AHeap) (w : World) (ρ' : Nat → Option (Option Nat × Nat)) (σ' : AHeap) (w' : World) : Prop where
  le : CLe (ctx ρ σ w) (ctx ρ' σ' w')
  next : σ.next ≤ σ'.next
  os : w'.os = w.os
  tape : w'.tape = w.tape
  output : w'.output = w.output
  size : w.heap.size ≤ w'.heap.size

theorem Ext.refl (ρ σ w) : Ext ρ σ w ρ σ w := ⟨CLe.refl _, Nat.le_refl _, rfl, rfl, rfl, Nat.le_refl _⟩
theorem Ext.trans {ρ σ w ρ₁ σ₁ w₁ ρ₂ σ₂ w₂} (h : Ext ρ σ w ρ₁ σ₁ w₁) (k : Ext ρ₁ σ₁ w₁ ρ₂ σ₂ w₂) : Ext ρ σ w ρ₂ σ₂ w₂ :=
  ⟨h.le.trans k.le, Nat.le_trans h.next k.next, k.os.trans h.os, k.tape.trans h.tape, k.output.trans h.output, Nat.le_trans h.size k.size⟩

theorem ORel.mono {c d : Ctx} (hle : CLe c d) {o : AObj} {p : Option Nat × Nat} (h : ORel c o p) (hb : ∀ b, p.1 = some b → d.h[b]? = c.h[b]?) : ORel d o p := by
  cases h with
  | cells cs t hb' hsz he hone hr => exact .cells cs t (by rw [hb _ rfl]; exact hb') hsz he hone (fun i el j x h1 h2 v hv => (hr i el j x h1 h2 v hv).mono hle)
  | none => exact .none
  | map ents clock hb' hl hr => exact .map ents clock (by rw [hb _ rfl]; exact hb') hl (fun i k x e h1 h2 => ⟨(hr i k x e h1 h2).1, (hr i k x e h1 h2).2.mono hle⟩)
  | raw hb' hn => exact .raw (by rw [hb _ rfl]; exact hb') hn

theorem ORel.cells_inv {c : Ctx} {sz sz' b : Nat} {els : List (List AV)} (h : ORel c (.cells sz els) (some b, sz')) : sz = sz' ∧ ∃ cs t, c.h[b]? = some (.cells cs t (0, 0)) ∧ els.length * sz ≤ cs.size ∧
    (∀ (i : Nat) el, els[i]? = some el → el.length = sz) ∧ (∀ (j : Nat) v, cs[j]? = some v → v.oneCell' = true) ∧ ∀ (i : Nat) (el : List AV) (j : Nat) (x : AV), els[i]? = some el → el[j]? = some x → ∀ v, cs[i * sz + j]? = some v → VRel c x v := by
  cases h with
  | cells cs t hb hsz he hone hr => exact ⟨rfl, cs, t, hb, hsz, he, hone, hr⟩

theorem ORel.lt {c : Ctx} {o : AObj} {b sz : Nat} (h : ORel c o (some b, sz)) : b < c.h.size := by
  cases h with
  | cells cs t hb' => exact (Array.getElem?_eq_some_iff.1 hb').1
  | map ents clock hb' => exact (Array.getElem?_eq_some_iff.1 hb').1
  | raw hb' hn => exact (Array.getElem?_eq_some_iff.1 hb').1

def upρ (ρ : Nat → Option (Option Nat × Nat)) (id : Nat) (p : Option Nat × Nat) : Nat → Option (Option Nat × Nat) := fun i => if i = id then some p else ρ i

@[simp] theorem upρ_same (ρ id p) : upρ ρ id p id = some p := by simp [upρ]
theorem upρ_ne {ρ id p i} (h : i ≠ id) : upρ ρ id p i = ρ i := by simp [upρ, h]

@[simp] theorem AHeap.new_same (σ : AHeap) (o : AObj) : (σ.new o).get σ.next = some o := by simp [AHeap.new]
theorem AHeap.new_ne {σ : AHeap} {o : AObj} {i : Nat} (h : i ≠ σ.next) : (σ.new o).get i = σ.get i := by
  have : Nat.beq i σ.next = false := nbeq_ne h
  simp [AHeap.new, this]
@[simp] theorem AHeap.new_next (σ : AHeap) (o : AObj) : (σ.new o).next = σ.next + 1 := rfl
@[simp] theorem AHeap.set_same (σ : AHeap) (id : Nat) (o : AObj) : (σ.set id o).get id = some o := by simp [AHeap.set]
theorem AHeap.set_ne {σ : AHeap} {id : Nat} {o : AObj} {i : Nat} (h : i ≠ id) : (σ.set id o).get i = σ.get i := by
  have : Nat.beq i id = false := nbeq_ne h
  simp [AHeap.set, this]
@[simp] theorem AHeap.set_next (σ : AHeap) (id : Nat) (o : AObj) : (σ.set id o).next = σ.next := rfl
@[simp] theorem AHeap.del_same (σ : AHeap) (id : Nat) : (σ.del id).get id = none := by simp [AHeap.del]
theorem AHeap.del_ne {σ : AHeap} {id i : Nat} (h : i ≠ id) : (σ.del id).get i = σ.get i := by
  have : Nat.beq i id = false := nbeq_ne h
  simp [AHeap.del, this]
@[simp] theorem AHeap.del_next (σ : AHeap) (id : Nat) : (σ.del id).next = σ.next := rfl

theorem Sim.lt {ρ σ w} (h : Sim ρ σ w) {id o} (ho : σ.get id = some o) : id < σ.next := by
  rcases Nat.lt_or_ge id σ.next with h1 | h1
  · exact h1
  · obtain ⟨p, hp, _⟩ := h.obj id o ho
    rw [h.fresh id h1] at hp; cases hp

theorem Sim.blk {ρ σ w} (h : Sim ρ σ w) {id o b sz} (ho : σ.get id = some o) (hp : ρ id = some (some b, sz)) : b < w.heap.size := by
  obtain ⟨p, hp', hr⟩ := h.obj id o ho
  rw [hp] at hp'; cases hp'
  exact hr.lt

/-- A new object in a new block. 'hr': its contents, in the old state. -/
theorem Sim.alloc {ρ σ w} (hs : Sim ρ σ w) (o : Obj) (ao : AObj) (sz : Nat)
    (hr : ∀ d : Ctx, CLe (ctx ρ σ w) d → d.h[w.heap.size]? = some o → ORel d ao (some w.heap.size, sz)) :
    Sim (upρ ρ σ.next (some w.heap.size, sz)) (σ.new ao) (w.alloc o) ∧ Ext ρ σ w (upρ ρ σ.next (some w.heap.size, sz)) (σ.new ao) (w.alloc o) := by
  have hsz : (w.alloc o).heap.size = w.heap.size + 1 := by show (w.heap.push o).size = _; simp
  have hold : ∀ b : Nat, b < w.heap.size → (w.alloc o).heap[b]? = w.heap[b]? := fun b hb => Go.RowKit.Below.heap_alloc w o b hb
  have hnew : (w.alloc o).heap[w.heap.size]? = some o := by show (w.heap.push o)[w.heap.size]? = _; simp
  have hρ : ∀ id p, ρ id = some p → upρ ρ σ.next (some w.heap.size, sz) id = some p := by
    intro id p hp
    rw [upρ_ne]
    · exact hp
    · intro e; subst e; rw [hs.fresh _ (Nat.le_refl _)] at hp; cases hp
  have hle : CLe (ctx ρ σ w) (ctx (upρ ρ σ.next (some w.heap.size, sz)) (σ.new ao) (w.alloc o)) := by
    refine ⟨hρ, fun b hb => ⟨⟨by rw [hsz]; exact Nat.lt_succ_of_lt hb.1, fun id o' s ho' hp => ?_⟩, hold b hb.1⟩, fun b cs t f hb => ?_⟩
    · by_cases hid : id = σ.next
      · subst hid
        rw [upρ_same] at hp
        have := hb.1
        simp only [Option.some.injEq, Prod.mk.injEq] at hp
        omega
      · rw [upρ_ne hid] at hp
        rw [AHeap.new_ne hid] at ho'
        exact hb.2 id o' s ho' hp
    · have : b < w.heap.size := (Array.getElem?_eq_some_iff.1 hb).1
      exact ⟨cs, f, by rw [show (ctx (upρ ρ σ.next (some w.heap.size, sz)) (σ.new ao) (w.alloc o)).h = (w.alloc o).heap from rfl, hold b this]; exact hb, rfl⟩
  refine ⟨⟨fun id hid => ?_, fun id o' ho' => ?_, fun i j oi oj b s t hi hj pi pj => ?_⟩, ⟨hle, Nat.le_succ _, rfl, rfl, rfl, by rw [hsz]; exact Nat.le_succ _⟩⟩
  · have : id ≠ σ.next := by intro e; subst e; simp at hid; omega
    rw [upρ_ne this]; exact hs.fresh id (by simp at hid; omega)
  · by_cases hid : id = σ.next
    · subst hid
      rw [AHeap.new_same] at ho'
      cases ho'
      exact ⟨_, upρ_same _ _ _, hr _ hle hnew⟩
    · rw [AHeap.new_ne hid] at ho'
      obtain ⟨p, hp, hor⟩ := hs.obj id o' ho'
      refine ⟨p, hρ id p hp, hor.mono hle fun b hb => hold b ?_⟩
      obtain ⟨pb, psz⟩ := p
      simp at hb; subst hb
      exact hor.lt
  · by_cases ei : i = σ.next <;> by_cases ej : j = σ.next
    · rw [ei, ej]
    · subst ei
      rw [upρ_same] at pi; cases pi
      rw [upρ_ne ej] at pj
      rw [AHeap.new_ne ej] at hj
      exact absurd (hs.blk hj pj) (Nat.lt_irrefl _)
    · subst ej
      rw [upρ_same] at pj; cases pj
      rw [upρ_ne ei] at pi
      rw [AHeap.new_ne ei] at hi
      exact absurd (hs.blk hi pi) (Nat.lt_irrefl _)
    · rw [upρ_ne ei] at pi; rw [upρ_ne ej] at pj
      rw [AHeap.new_ne ei] at hi; rw [AHeap.new_ne ej] at hj
      exact hs.inj i j oi oj b s t hi hj pi pj

/-- A new object without a block: an empty row. -/
theorem Sim.allocNone {ρ σ w} (hs : Sim ρ σ w) (sz : Nat) :
    Sim (upρ ρ σ.next (none, sz)) (σ.new (.cells sz [])) w ∧ Ext ρ σ w (upρ ρ σ.next (none, sz)) (σ.new (.cells sz [])) w := by
  have hρ : ∀ id p, ρ id = some p → upρ ρ σ.next (none, sz) id = some p := by
    intro id p hp
    rw [upρ_ne]
    · exact hp
    · intro e; subst e; rw [hs.fresh _ (Nat.le_refl _)] at hp; cases hp
  have hle : CLe (ctx ρ σ w) (ctx (upρ ρ σ.next (none, sz)) (σ.new (.cells sz [])) w) := by
    refine ⟨hρ, fun b hb => ⟨⟨hb.1, fun id o' s ho' hp => ?_⟩, rfl⟩, fun b cs t f hb => ⟨cs, f, hb, rfl⟩⟩
    by_cases hid : id = σ.next
    · subst hid; rw [upρ_same] at hp; simp at hp
    · rw [upρ_ne hid] at hp
      rw [AHeap.new_ne hid] at ho'
      exact hb.2 id o' s ho' hp
  refine ⟨⟨fun id hid => ?_, fun id o' ho' => ?_, fun i j oi oj b s t hi hj pi pj => ?_⟩, ⟨hle, Nat.le_succ _, rfl, rfl, rfl, Nat.le_refl _⟩⟩
  · have : id ≠ σ.next := by intro e; subst e; simp at hid; omega
    rw [upρ_ne this]; exact hs.fresh id (by simp at hid; omega)
  · by_cases hid : id = σ.next
    · subst hid
      rw [AHeap.new_same] at ho'
      cases ho'
      exact ⟨_, upρ_same _ _ _, .none⟩
    · rw [AHeap.new_ne hid] at ho'
      obtain ⟨p, hp, hor⟩ := hs.obj id o' ho'
      exact ⟨p, hρ id p hp, hor.mono hle fun b hb => rfl⟩
  · by_cases ei : i = σ.next
    · subst ei; rw [upρ_same] at pi; simp at pi
    · by_cases ej : j = σ.next
      · subst ej; rw [upρ_same] at pj; simp at pj
      · rw [upρ_ne ei] at pi; rw [upρ_ne ej] at pj
        rw [AHeap.new_ne ei] at hi; rw [AHeap.new_ne ej] at hj
        exact hs.inj i j oi oj b s t hi hj pi pj

/-- An object's block is written. -/
theorem Sim.write {ρ σ w} (hs : Sim ρ σ w) {id b sz : Nat} {ao : AObj} (hid : σ.get id = some ao) (hp : ρ id = some (some b, sz)) (w' : World) (ao' : AObj)
    (hother : ∀ k, k ≠ b → w'.heap[k]? = w.heap[k]?) (hsize : w'.heap.size = w.heap.size)
    (hcells : ∀ cs t f, w.heap[b]? = some (.cells cs t f) → ∃ cs' f', w'.heap[b]? = some (.cells cs' t f') ∧ cs'.size = cs.size)
    (hos : w'.os = w.os) (htape : w'.tape = w.tape) (hout : w'.output = w.output) (hdr : w.drawn ≤ w'.drawn)
    (hr : ∀ d : Ctx, CLe (ctx ρ σ w) d → d.h = w'.heap → ORel d ao' (some b, sz)) :
    Sim ρ (σ.set id ao') w' ∧ Ext ρ σ w ρ (σ.set id ao') w' := by
  have hle : CLe (ctx ρ σ w) (ctx ρ (σ.set id ao') w') := by
    refine ⟨fun _ _ h => h, fun k hk => ⟨⟨by rw [hsize]; exact hk.1, fun i o s ho hpi => ?_⟩, ?_⟩, fun k cs t f hk => ?_⟩
    · by_cases e : i = id
      · subst e; exact hk.2 i ao s hid hpi
      · rw [AHeap.set_ne e] at ho; exact hk.2 i o s ho hpi
    · have : k ≠ b := by intro e; subst e; exact hk.2 id ao sz hid hp
      exact hother k this
    · by_cases e : k = b
      · subst e; exact hcells cs t f hk
      · exact ⟨cs, f, by rw [show (ctx ρ (σ.set id ao') w').h = w'.heap from rfl, hother k e]; exact hk, rfl⟩
  refine ⟨⟨fun i hi => hs.fresh i hi, fun i o ho => ?_, fun i j oi oj c s t hi hj pi pj => ?_⟩, ⟨hle, Nat.le_refl _, hos, htape, hout, Nat.le_of_eq hsize.symm⟩⟩
  · by_cases e : i = id
    · subst e
      rw [AHeap.set_same] at ho; cases ho
      exact ⟨_, hp, hr _ hle rfl⟩
    · rw [AHeap.set_ne e] at ho
      obtain ⟨p, hpi, hor⟩ := hs.obj i o ho
      refine ⟨p, hpi, hor.mono hle fun c hc => hother c ?_⟩
      intro ec; subst ec
      obtain ⟨pb, ps⟩ := p
      simp at hc; subst hc
      exact e (hs.inj i id o ao _ _ _ ho hid hpi hp)
  · have gi : ∃ oi', σ.get i = some oi' := by
      by_cases e : i = id
      · subst e; exact ⟨_, hid⟩
      · rw [AHeap.set_ne e] at hi; exact ⟨_, hi⟩
    have gj : ∃ oj', σ.get j = some oj' := by
      by_cases e : j = id
      · subst e; exact ⟨_, hid⟩
      · rw [AHeap.set_ne e] at hj; exact ⟨_, hj⟩
    obtain ⟨oi', gi⟩ := gi
    obtain ⟨oj', gj⟩ := gj
    exact hs.inj i j oi' oj' c s t gi gj pi pj

/-- An object is let go: what it held may not change any more. -/
theorem Sim.del {ρ σ w} (hs : Sim ρ σ w) (id : Nat) : Sim ρ (σ.del id) w ∧ Ext ρ σ w ρ (σ.del id) w := by
  have hget : ∀ i o, (σ.del id).get i = some o → σ.get i = some o := by
    intro i o h
    by_cases e : i = id
    · subst e; simp at h
    · rwa [AHeap.del_ne e] at h
  have hle : CLe (ctx ρ σ w) (ctx ρ (σ.del id) w) :=
    ⟨fun _ _ h => h, fun b hb => ⟨⟨hb.1, fun i o s ho => hb.2 i o s (hget i o ho)⟩, rfl⟩, fun b cs t f hb => ⟨cs, f, hb, rfl⟩⟩
  exact ⟨⟨hs.fresh, fun i o ho => let ⟨p, hp, hor⟩ := hs.obj i o (hget i o ho); ⟨p, hp, hor.mono hle fun _ _ => rfl⟩,
    fun i j oi oj b s t hi hj => hs.inj i j oi oj b s t (hget i oi hi) (hget j oj hj)⟩, ⟨hle, Nat.le_refl _, rfl, rfl, rfl, Nat.le_refl _⟩⟩

/-- A world that differs in its count of draws alone. -/
theorem Sim.drawn {ρ σ w} (hs : Sim ρ σ w) (n : Nat) (hn : w.drawn ≤ n) : Sim ρ σ { w with drawn := n } ∧ Ext ρ σ w ρ σ { w with drawn := n } :=
  ⟨⟨hs.fresh, hs.obj, hs.inj⟩, ⟨CLe.refl _, Nat.le_refl _, rfl, rfl, rfl, Nat.le_refl _⟩⟩

end Go.Abs
