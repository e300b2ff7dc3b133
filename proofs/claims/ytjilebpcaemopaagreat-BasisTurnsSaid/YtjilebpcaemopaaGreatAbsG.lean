/-
  Maps.
-/
import Derived.Test.YtjilebpcaemopaaGreatAbsF
import Derived.MapKept
namespace Go.Abs
open Go Go.MapKept

def mget : List (MK × AV) → MK → Option AV
  | [], _ => none
  | (k, x) :: r, q => if k = q then some x else mget r q
def mset : List (MK × AV) → MK → AV → List (MK × AV)
  | [], q, y => [(q, y)]
  | (k, x) :: r, q, y => if k = q then (q, y) :: r else (k, x) :: mset r q y
def mdel : List (MK × AV) → MK → List (MK × AV)
  | [], _ => []
  | (k, x) :: r, q => if k = q then r else (k, x) :: mdel r q

def asKey : AV → Option MK
  | .val (.int k n) => some (.i k n)
  | .val (.string s) => some (.s s)
  | _ => none

theorem asKey_spec {c : Ctx} {x v k} (h : VRel c x v) (hk : asKey x = some k) : v = k.val := by
  unfold asKey at hk
  split at hk <;> first | (cases hk; exact h.val_inv) | cases hk

theorem MK.val_inj {a b : MK} (h : a.val = b.val) : a = b := by
  cases a <;> cases b <;> simp_all [MK.val]

/-- Key and element of a map type: its key's description; the element's type. -/
def minfo (P : Program) (t : TypeId) : Option (TypeId × TypeDesc × TypeId) :=
  match P.underlying t with
  | some (.map k e) => match P.underlying k with
    | some (.int q) => some (k, .int q, e)
    | some .string => some (k, .string, e)
    | _ => none
  | _ => none

theorem minfo_spec {P t k d e} (h : minfo P t = some (k, d, e)) : P.underlying t = some (.map k e) ∧ P.underlying k = some d ∧ ((∃ q, d = .int q) ∨ d = .string) := by
  unfold minfo at h
  split at h
  · split at h <;> first | (cases h; exact ⟨by assumption, by assumption, by simp⟩) | cases h
  · cases h

def keyFits (d : TypeDesc) : MK → Bool
  | .i k _ => match d with | .int q => decide (k = q) | _ => false
  | .s _ => match d with | .string => true | _ => false

theorem keyFits_isKey {d k} (h : keyFits d k = true) : IsKey d k.val := by
  cases k <;> cases d <;> simp_all [keyFits, IsKey, MK.val]

def mapFits (d : TypeDesc) (es : List (MK × AV)) : Prop := ∀ (i : Nat) (k : MK) (x : AV), es[i]? = some (k, x) → keyFits d k = true

/-- The search in the entries. -/
theorem find_mget {c : Ctx} {d : TypeDesc} {es : List (MK × AV)} {ents : Array MapEntry} (hl : ents.size = es.length) (hr : ∀ (i : Nat) (k : MK) (x : AV) (e : MapEntry), es[i]? = some (k, x) → ents[i]? = some e → e.key = k.val ∧ VRel c x e.val)
    (q : MK) (hq : keyFits d q = true) (hf : mapFits d es) :
    (mget es q = none ∧ Instr.findNow d q.val ents.toList 0 = some none ∧ ∀ (i : Nat) (k : MK) (x : AV), es[i]? = some (k, x) → k ≠ q) ∨
    ∃ j x e, mget es q = some x ∧ Instr.findNow d q.val ents.toList 0 = some (some (j, e.val)) ∧ ents[j]? = some e ∧ e.key = q.val ∧ VRel c x e.val ∧ es[j]? = some (q, x) ∧ ∀ (i : Nat) (k : MK) (y : AV), i < j → es[i]? = some (k, y) → k ≠ q := by
  have key : ∀ (l : List MapEntry) (es : List (MK × AV)) (o : Nat), l.length = es.length → (∀ (i : Nat) (k : MK) (x : AV) (e : MapEntry), es[i]? = some (k, x) → l[i]? = some e → e.key = k.val ∧ VRel c x e.val) → mapFits d es →
      (mget es q = none ∧ Instr.findNow d q.val l o = some none ∧ ∀ (i : Nat) (k : MK) (x : AV), es[i]? = some (k, x) → k ≠ q) ∨
      ∃ j x e, mget es q = some x ∧ Instr.findNow d q.val l o = some (some (o + j, e.val)) ∧ l[j]? = some e ∧ e.key = q.val ∧ VRel c x e.val ∧ es[j]? = some (q, x) ∧ ∀ (i : Nat) (k : MK) (y : AV), i < j → es[i]? = some (k, y) → k ≠ q := by
    intro l
    induction l with
    | nil =>
      intro es o hl hr hf
      have : es = [] := List.eq_nil_of_length_eq_zero hl.symm
      subst this
      exact .inl ⟨rfl, rfl, by simp⟩
    | cons e l ih =>
      intro es o hl hr hf
      cases es with
      | nil => simp at hl
      | cons p es =>
        obtain ⟨k, x⟩ := p
        obtain ⟨h1, h2⟩ := hr 0 k x e rfl rfl
        have hk := hf 0 k x rfl
        obtain ⟨r, hr1, hr2⟩ := sameNow_of_keys (a := q.val) (b := e.key) (keyFits_isKey hq) (by rw [h1]; exact keyFits_isKey hk)
        by_cases hkq : k = q
        · subst hkq
          have : r = true := hr2.2 h1.symm
          subst this
          exact .inr ⟨0, x, e, by simp [mget], by simp [Instr.findNow, hr1], rfl, h1, h2, rfl, by intro i _ _ h; omega⟩
        · have : r = false := by
            cases r with
            | false => rfl
            | true => exact absurd (MK.val_inj (by rw [← h1]; exact (hr2.1 rfl).symm)) hkq
          subst this
          rcases ih es (o + 1) (by simpa using hl) (fun i k x e a b => hr (i + 1) k x e (by simpa using a) (by simpa using b)) (fun i k x a => hf (i + 1) k x (by simpa using a)) with ⟨a, b, c'⟩ | ⟨j, y, e', a, b, c', d', f', g', h'⟩
          · refine .inl ⟨by simp [mget, hkq, a], by simp [Instr.findNow, hr1, b], fun i k' x' hi => ?_⟩
            cases i with
            | zero => simp at hi; obtain ⟨rfl, rfl⟩ := hi; exact hkq
            | succ i => exact c' i k' x' (by simpa using hi)
          · refine .inr ⟨j + 1, y, e', by simp [mget, hkq, a], by simp [Instr.findNow, hr1, b]; omega, by simpa using c', d', f', by simpa using g', fun i k' x' hij hi => ?_⟩
            cases i with
            | zero => simp at hi; obtain ⟨rfl, rfl⟩ := hi; exact hkq
            | succ i => exact h' i k' x' (by omega) (by simpa using hi)
  rcases key ents.toList es 0 (by simpa using hl) (fun i k x e a b => hr i k x e a (by simpa using b)) hf with h | ⟨j, x, e, a, b, c', d', f', g', h'⟩
  · exact .inl h
  · exact .inr ⟨j, x, e, a, by simpa using b, by simpa using c', d', f', g', h'⟩

/-- All keys of a map are of a kind. -/
def keysFit (d : TypeDesc) (es : List (MK × AV)) : Bool := es.all fun p => keyFits d p.1
theorem keysFit_spec {d es} (h : keysFit d es = true) : mapFits d es := by
  intro i k x hi
  have := List.all_eq_true.1 h (k, x) (List.mem_of_getElem? hi)
  simpa using this

/-! ### lookup -/
/-- The zero value of a type. -/
def zeroAV (P : Program) (t : TypeId) : Option AV :=
  match P.info? t with
  | some i => match i.zero with
    | some (.agg cs) => if allOne cs = true then some (.agg (cs.toList.map .val)) else none
    | some z => if z.oneCell' = true then some (.val z) else none
    | none => none
  | none => none

theorem zeroAV_spec {P t z} (h : zeroAV P t = some z) (w : World) : ∃ v, (zeroValue t).run P w = .ok v w ∧ ∀ c, VRel c z v := by
  unfold zeroAV at h
  split at h
  · rename_i i hi
    split at h
    · rename_i cs hz
      split at h
      · rename_i h1
        cases h
        refine ⟨.agg cs, by simp [zeroValue, typeInfo, hi, hz], fun c => .agg (by simp) (allOne_spec h1) (fun j x v hx hv => ?_)⟩
        simp only [List.getElem?_map, Array.getElem?_toList, hv, Option.map_some, Option.some.injEq] at hx
        subst hx; exact .val _
      · cases h
    · rename_i z' hne hz
      split at h
      · cases h
        exact ⟨z', by simp [zeroValue, typeInfo, hi, hz], fun c => .val _⟩
      · cases h
    · cases h
  · cases h

def aLookup (d : TypeDesc) (zero : AV) (ok : Bool) (x k : AV) (σ : AHeap) : Option AV :=
  match asKey k with
  | some q => if keyFits d q = true then
      match x with
      | .val (.map none) => some (if ok = true then .tup [zero, .val (.bool false)] else zero)
      | .mp id => match σ.get id with
        | some (.map es) => if keysFit d es = true then
            match mget es q with
            | some y => some (if ok = true then .tup [y, .val (.bool true)] else y)
            | none => some (if ok = true then .tup [zero, .val (.bool false)] else zero)
          else none
        | _ => none
      | _ => none
    else none
  | none => none

theorem tup2 {c : Ctx} {x y : AV} {u v : Value} (hx : VRel c x u) (hy : VRel c y v) : VRel c (.tup [x, y]) (.tuple #[u, v]) := by
  refine .tup rfl fun i a b ha hb => ?_
  match i, ha, hb with
  | 0, ha, hb => simp at ha hb; subst ha; subst hb; exact hx
  | 1, ha, hb => simp at ha hb; subst ha; subst hb; exact hy
  | n + 2, ha, _ => simp at ha

theorem sLookup {ρ σ w} (hs : Sim ρ σ w) {P t kt d e zero} (ht : minfo P t = some (kt, d, e)) (hz : zeroAV P e = some zero) {ok x k v kv} (hx : VRel (ctx ρ σ w) x v) (hk : VRel (ctx ρ σ w) k kv) {y} (h : aLookup d zero ok x k σ = some y) :
    ∃ u, (Instr.lookup t v kv ok).run P w = .ok u w ∧ VRel (ctx ρ σ w) y u := by
  obtain ⟨hu, hku, _⟩ := minfo_spec ht
  obtain ⟨z, hzr, hzrel⟩ := zeroAV_spec hz w
  unfold aLookup at h
  split at h
  · rename_i q hq
    split at h
    · rename_i hf
      obtain rfl := asKey_spec hk hq
      have hck := fun em => run_checkKey (P := P) (w := w) hku (keyFits_isKey hf) em 9999
      split at h
      · cases h
        obtain rfl := hx.val_inv
        have hfk := run_findKey (P := P) (w := w) (l := []) (a := none) hku (k := q.val) rfl
        refine ⟨_, by simp [Instr.lookup, run_underlying hu, hck, hfk, hzr]; rfl, ?_⟩
        cases ok with
        | true => exact tup2 (hzrel _) (.val _)
        | false => exact hzrel _
      · rename_i id
        split at h
        · rename_i es hg
          split at h
          · rename_i hkf
            cases hx with
            | mp hp =>
              obtain ⟨ents, clock, hb, hl, hr⟩ := hs.mapAt hg hp
              rcases find_mget hl hr q hf (keysFit_spec hkf) with ⟨h1, h2, _⟩ | ⟨j, y', e', h1, h2, _, _, h3, _, _⟩
              · rw [h1] at h
                cases h
                have hfk := run_findKey (P := P) (w := w) hku h2
                refine ⟨_, by simp [Instr.lookup, run_underlying hu, Go.MapKept.run_getObj_map (P := P) hb, hck, hfk, hzr]; rfl, ?_⟩
                cases ok with
                | true => exact tup2 (hzrel _) (.val _)
                | false => exact hzrel _
              · rw [h1] at h
                cases h
                have hfk := run_findKey (P := P) (w := w) hku h2
                refine ⟨_, by simp [Instr.lookup, run_underlying hu, Go.MapKept.run_getObj_map (P := P) hb, hck, hfk]; rfl, ?_⟩
                cases ok with
                | true => exact tup2 h3 (.val _)
                | false => exact h3
          · cases h
        · cases h
      · cases h
    · cases h
  · cases h

/-! ### make, update, delete -/
theorem sMakeMap {ρ σ w} (hs : Sim ρ σ w) {P : Program} {t : TypeId} : ∃ u w' ρ', (Instr.makeMap t none).run P w = .ok u w' ∧ VRel (ctx ρ' (σ.new (.map [])) w') (.mp σ.next) u ∧ Sim ρ' (σ.new (.map [])) w' ∧ Ext ρ σ w ρ' (σ.new (.map [])) w' := by
  have ha := hs.alloc (.map #[] 0) (.map []) 0 (fun d _ hb => .map #[] 0 hb rfl (by simp))
  exact ⟨.map (some w.heap.size), w.alloc (.map #[] 0), _, by simp [Instr.makeMap], .mp (upρ_get _ _ _ _ _), ha.1, ha.2⟩

theorem mset_get {es : List (MK × AV)} {q : MK} {y : AV} {j : Nat} {x : AV} (h : es[j]? = some (q, x)) (hb : ∀ (i : Nat) (k : MK) (z : AV), i < j → es[i]? = some (k, z) → k ≠ q) : mset es q y = es.set j (q, y) := by
  induction es generalizing j with
  | nil => simp at h
  | cons p es ih =>
    obtain ⟨k, z⟩ := p
    cases j with
    | zero => simp at h; obtain ⟨rfl, rfl⟩ := h; simp [mset]
    | succ j =>
      have hk := hb 0 k z (by omega) rfl
      simp only [mset, hk, if_false, List.set_cons_succ]
      rw [ih (by simpa using h) (fun i k z hi he => hb (i + 1) k z (by omega) (by simpa using he))]
theorem mset_new {es : List (MK × AV)} {q : MK} {y : AV} (h : ∀ (i : Nat) (k : MK) (x : AV), es[i]? = some (k, x) → k ≠ q) : mset es q y = es ++ [(q, y)] := by
  induction es with
  | nil => rfl
  | cons p es ih =>
    obtain ⟨k, z⟩ := p
    have hk := h 0 k z rfl
    simp only [mset, hk, if_false, List.cons_append]
    rw [ih fun i k x hi => h (i + 1) k x (by simpa using hi)]
theorem mdel_get {es : List (MK × AV)} {q : MK} {j : Nat} {x : AV} (h : es[j]? = some (q, x)) (hb : ∀ (i : Nat) (k : MK) (z : AV), i < j → es[i]? = some (k, z) → k ≠ q) : mdel es q = es.eraseIdx j := by
  induction es generalizing j with
  | nil => simp at h
  | cons p es ih =>
    obtain ⟨k, z⟩ := p
    cases j with
    | zero => simp at h; obtain ⟨rfl, rfl⟩ := h; simp [mdel]
    | succ j =>
      have hk := hb 0 k z (by omega) rfl
      simp only [mdel, hk, if_false, List.eraseIdx_cons_succ]
      rw [ih (by simpa using h) (fun i k z hi he => hb (i + 1) k z (by omega) (by simpa using he))]
theorem mdel_none {es : List (MK × AV)} {q : MK} (h : ∀ (i : Nat) (k : MK) (x : AV), es[i]? = some (k, x) → k ≠ q) : mdel es q = es := by
  induction es with
  | nil => rfl
  | cons p es ih =>
    obtain ⟨k, z⟩ := p
    have hk := h 0 k z rfl
    simp only [mdel, hk, if_false]
    rw [ih fun i k x hi => h (i + 1) k x (by simpa using hi)]

def aMapUpdate (d : TypeDesc) (x k y : AV) (σ : AHeap) : Option AHeap :=
  match asKey k with
  | some q => if keyFits d q = true then
      match x with
      | .mp id => match σ.get id with
        | some (.map es) => if keysFit d es = true then some (σ.set id (.map (mset es q y))) else none
        | _ => none
      | _ => none
    else none
  | none => none

def aMapDelete (d : TypeDesc) (x k : AV) (σ : AHeap) : Option AHeap :=
  match asKey k with
  | some q => if keyFits d q = true then
      match x with
      | .mp id => match σ.get id with
        | some (.map es) => if keysFit d es = true then some (σ.set id (.map (mdel es q))) else none
        | _ => none
      | _ => none
    else none
  | none => none

/-- A map's block is written. -/
theorem Sim.writeMap {ρ σ w} (hs : Sim ρ σ w) {id es b sz ents clock} (hg : σ.get id = some (.map es)) (hp : ρ id = some (some b, sz)) (hb : w.heap[b]? = some (.map ents clock)) (ents' : Array MapEntry) (clock' : Nat) (es' : List (MK × AV))
    (hl : ents'.size = es'.length) (hr : ∀ (i : Nat) (k : MK) (x : AV) (e : MapEntry), es'[i]? = some (k, x) → ents'[i]? = some e → e.key = k.val ∧ VRel (ctx ρ σ w) x e.val) :
    Sim ρ (σ.set id (.map es')) { w with heap := w.heap.setIfInBounds b (.map ents' clock') } ∧ Ext ρ σ w ρ (σ.set id (.map es')) { w with heap := w.heap.setIfInBounds b (.map ents' clock') } := by
  have hset := heap_set (o' := .map ents' clock') hb
  refine hs.write hg hp _ (.map es') (fun k hk => hset.2 k hk) (by simp) (fun cs t f h => by rw [hb] at h; cases h) rfl rfl rfl (Nat.le_refl _) (fun d hle hd => ?_)
  exact .map ents' clock' (by rw [hd]; exact hset.1) hl (fun i k x e a b => ⟨(hr i k x e a b).1, (hr i k x e a b).2.mono hle⟩)

theorem keyThatStays_same {P : Program} {w : World} {d : TypeDesc} {q : MK} (_h : keyFits d q = true) : (Instr.keyThatStays q.val q.val).run P w = .ok q.val w := by
  have : Instr.sameBits 10000 q.val q.val = true := by
    cases q with
    | i k n => simp [MK.val, Instr.sameBits]
    | s b => simp only [MK.val, Instr.sameBits]; rw [beq_toListBytes]; simp
  simp [Instr.keyThatStays, this]

theorem sMapUpdate {ρ σ w} (hs : Sim ρ σ w) {P t kt d e} (ht : minfo P t = some (kt, d, e)) {x k y v kv u} (hx : VRel (ctx ρ σ w) x v) (hk : VRel (ctx ρ σ w) k kv) (hy : VRel (ctx ρ σ w) y u) {σ'} (h : aMapUpdate d x k y σ = some σ') :
    ∃ w', (Instr.mapUpdate t v kv u).run P w = .ok () w' ∧ Sim ρ σ' w' ∧ Ext ρ σ w ρ σ' w' := by
  obtain ⟨hu, hku, _⟩ := minfo_spec ht
  unfold aMapUpdate at h
  split at h
  · rename_i q hq
    split at h
    · rename_i hf
      obtain rfl := asKey_spec hk hq
      have hck := fun em => run_checkKey (P := P) (w := w) hku (keyFits_isKey hf) em 9999
      split at h
      · rename_i id
        split at h
        · rename_i es hg
          split at h
          · rename_i hkf
            cases h
            cases hx with
            | mp hp =>
              obtain ⟨ents, clock, hb, hl, hr⟩ := hs.mapAt hg hp
              rcases find_mget hl hr q hf (keysFit_spec hkf) with ⟨_, h2, h3⟩ | ⟨j, y', e', _, h2, h3, h4, _, h5, h6⟩
              · have hfk := run_findKey (P := P) (w := w) hku h2
                have hw := hs.writeMap hg hp hb (ents.push { key := q.val, val := u, born := clock }) (clock + 1) (mset es q y) (by rw [mset_new h3]; simp [hl]) (fun i k x e a b => by
                  rw [mset_new h3] at a
                  rw [List.getElem?_append] at a
                  rw [Array.getElem?_push] at b
                  split at a
                  · rw [if_neg (by omega)] at b; exact hr i k x e a b
                  · rename_i hi
                    have : i - es.length = 0 := by
                      rcases Nat.eq_zero_or_pos (i - es.length) with h0 | h0
                      · exact h0
                      · rw [List.getElem?_eq_none (by simp; omega)] at a; cases a
                    rw [this] at a
                    simp at a
                    obtain ⟨rfl, rfl⟩ := a
                    rw [if_pos (by omega)] at b
                    cases b
                    exact ⟨rfl, hy⟩)
                exact ⟨_, by simp [Instr.mapUpdate, run_underlying hu, Go.MapKept.run_getObj_map (P := P) hb, hck, hfk, Go.MapKept.run_setObj_map (P := P) _ hb], hw.1, hw.2⟩
              · have hfk := run_findKey (P := P) (w := w) hku h2
                have hj : j < es.length := (List.getElem?_eq_some_iff.1 h5).1
                have hw := hs.writeMap hg hp hb (ents.modify j fun e => { e with key := q.val, val := u }) clock (mset es q y) (by rw [mset_get h5 h6]; simp [hl]) (fun i k x e a b => by
                  rw [mset_get h5 h6, List.getElem?_set] at a
                  rw [Array.getElem?_modify] at b
                  by_cases hij : j = i
                  · subst hij
                    rw [if_pos rfl] at a
                    simp only [hj, if_true] at a
                    cases a
                    rw [if_pos rfl, h3] at b
                    cases b
                    exact ⟨rfl, hy⟩
                  · rw [if_neg hij] at a b
                    exact hr i k x e a b)
                exact ⟨_, by simp [Instr.mapUpdate, run_underlying hu, Go.MapKept.run_getObj_map (P := P) hb, hck, hfk, h3, h4, keyThatStays_same hf, Go.MapKept.run_setObj_map (P := P) _ hb], hw.1, hw.2⟩
          · cases h
        · cases h
      · cases h
    · cases h
  · cases h

theorem sMapDelete {ρ σ w} (hs : Sim ρ σ w) {P t t2 ty kt d e} (ht : minfo P t = some (kt, d, e)) {x k v kv} (hx : VRel (ctx ρ σ w) x v) (hk : VRel (ctx ρ σ w) k kv) {σ'} (h : aMapDelete d x k σ = some σ') :
    ∃ w', (Builtin.delete_ #[t, t2] ty #[v, kv]).run P w = .ok (.tuple #[]) w' ∧ Sim ρ σ' w' ∧ Ext ρ σ w ρ σ' w' := by
  obtain ⟨hu, hku, _⟩ := minfo_spec ht
  unfold aMapDelete at h
  split at h
  · rename_i q hq
    split at h
    · rename_i hf
      obtain rfl := asKey_spec hk hq
      have hck := fun em => run_checkKey (P := P) (w := w) hku (keyFits_isKey hf) em 9999
      split at h
      · rename_i id
        split at h
        · rename_i es hg
          split at h
          · rename_i hkf
            cases h
            cases hx with
            | mp hp =>
              obtain ⟨ents, clock, hb, hl, hr⟩ := hs.mapAt hg hp
              rcases find_mget hl hr q hf (keysFit_spec hkf) with ⟨_, h2, h3⟩ | ⟨j, y', e', _, h2, h3, h4, _, h5, h6⟩
              · have hfk := run_findKey (P := P) (w := w) hku h2
                have hw := hs.writeMap hg hp hb ents clock (mdel es q) (by rw [mdel_none h3]; exact hl) (fun i k x e a b => by rw [mdel_none h3] at a; exact hr i k x e a b)
                exact ⟨_, by simp [Builtin.delete_, run_underlying hu, Go.MapKept.run_getObj_map (P := P) hb, hck, hfk, Go.MapKept.run_setObj_map (P := P) _ hb], hw.1, hw.2⟩
              · have hfk := run_findKey (P := P) (w := w) hku h2
                have hj : j < es.length := (List.getElem?_eq_some_iff.1 h5).1
                have hw := hs.writeMap hg hp hb (ents.eraseIdxIfInBounds j) clock (mdel es q) (by rw [mdel_get h5 h6, Array.eraseIdxIfInBounds, dif_pos (by omega)]; simp [List.length_eraseIdx, hl, hj]) (fun i k x e a b => by
                  rw [mdel_get h5 h6, List.getElem?_eraseIdx] at a
                  rw [Array.eraseIdxIfInBounds, dif_pos (by omega), Array.getElem?_eraseIdx] at b
                  split at a
                  · rename_i hij; rw [if_pos hij] at b; exact hr i k x e a b
                  · rename_i hij; rw [if_neg hij] at b; exact hr (i + 1) k x e a b)
                exact ⟨_, by simp [Builtin.delete_, run_underlying hu, Go.MapKept.run_getObj_map (P := P) hb, hck, hfk, Go.MapKept.run_setObj_map (P := P) _ hb], hw.1, hw.2⟩
          · cases h
        · cases h
      · cases h
    · cases h
  · cases h

end Go.Abs
