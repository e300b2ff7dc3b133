import Derived.Test.YtjilebpcaemopaaGreatDoorAbsC
namespace Go.Abs
open Go

/-! ### nilCheck, fieldAddr, field, extract -/
def aNilCheck : AV → Option AV
  | .ptr id i o => some (.ptr id i o)
  | .ref cs => some (.ref cs)
  | .fn (.func f) cap => some (.fn (.func f) cap)
  | .iface t v => some (.iface t v)
  | _ => none

def foff (P : Program) (s : TypeId) (f : Nat) : Option Nat :=
  match P.underlying s with
  | some (.struct fs) => match fs[f]? with
    | some fd => match P.info? fd.type with
      | some i => if i.size = 0 then none else some fd.offset
      | none => none
    | none => none
  | _ => none

def aFieldAddr (off : Nat) : AV → Option AV
  | .ptr id i o => some (.ptr id i (o + off))
  | .ref cs => some (.ref (cs.drop off))
  | _ => none

theorem sFieldAddr {c : Ctx} {P s f off} (hf : foff P s f = some off) {x v} (hv : VRel c x v) {y} (hy : aFieldAddr off x = some y) (w : World) : ∃ u, (Instr.fieldAt s v f).run P w = .ok u w ∧ VRel c y u := by
  unfold foff at hf
  split at hf
  · rename_i fs hs
    split at hf
    · rename_i fd hfd
      split at hf
      · rename_i i hi
        split at hf
        · cases hf
        · rename_i hne
          cases hf
          have hsz : (sizeOf fd.type).run P w = .ok i.size w := by simp [sizeOf, typeInfo, hi]
          have hrun : ∀ b o, (Instr.fieldAt s (.pointer (some ⟨b, o, none⟩)) f).run P w = .ok (.pointer (some ⟨b, o + fd.offset, none⟩)) w := by
            intro b o
            simp [Instr.fieldAt, run_underlying hs, hfd, Instr.sureAddr, fieldPlace, hsz, hne, add_lit]
          unfold aFieldAddr at hy
          split at hy
          · cases hy
            cases hv with
            | ptr hp =>
              refine ⟨_, hrun _ _, ?_⟩
              rw [Nat.add_assoc]
              exact .ptr hp
          · cases hy
            cases hv with
            | ref g hi' hc hr =>
              refine ⟨_, hrun _ _, ?_⟩
              refine .ref (fun j => g (fd.offset + j)) hi' (fun j hj => ?_) (fun j x hx => ?_)
              · rw [Nat.add_assoc]; exact hc _ (by simp at hj; omega)
              · rw [List.getElem?_drop] at hx; exact hr _ _ hx
          · cases hy
      · cases hf
    · cases hf
  · cases hf

def finfo (P : Program) (s : TypeId) (f : Nat) : Option (Nat × Bool × Nat) :=
  match P.underlying s with
  | some (.struct fs) => match fs[f]? with
    | some fd => (tinfo P fd.type).map fun p => (fd.offset, p.1, p.2)
    | none => none
  | _ => none

def aField (off : Nat) (g : Bool) (n : Nat) : AV → Option AV
  | .agg cs => getCells g n (cs.drop off)
  | _ => none

theorem sPart {c : Ctx} {P t g n} (ht : tinfo P t = some (g, n)) {cs : List AV} {vs : Array Value} (hl : cs.length = vs.size) (h1 : ∀ (i : Nat) (v : Value), vs[i]? = some v → v.oneCell' = true)
    (hr : ∀ (i : Nat) (x : AV) (v : Value), cs[i]? = some x → vs[i]? = some v → VRel c x v) {off : Nat} {y} (hy : getCells g n (cs.drop off) = some y) (w : World) : ∃ u, (part t vs off).run P w = .ok u w ∧ VRel c y u := by
  obtain ⟨k1, k2⟩ := tinfo_spec ht w
  cases g with
  | false =>
    simp only [getCells, Bool.false_eq_true, if_false, List.head?_drop] at hy
    have hlt : off < vs.size := by rw [← hl]; exact (List.getElem?_eq_some_iff.1 hy).1
    exact ⟨vs[off], by simp [part, k2, hlt], hr off y _ hy (Array.getElem?_eq_getElem hlt)⟩
  | true =>
    simp only [getCells, if_true] at hy
    split at hy
    · rename_i hn
      cases hy
      simp at hn
      refine ⟨.agg (vs.extract off (off + n)), by simp [part, k1, k2], .agg (by simp; omega) (fun i v hv => ?_) (fun i x v hx hv => ?_)⟩
      · rw [Array.getElem?_extract] at hv
        split at hv
        · exact h1 _ _ hv
        · cases hv
      · rw [Array.getElem?_extract] at hv
        rw [List.getElem?_take] at hx
        split at hv
        · split at hx
          · rw [List.getElem?_drop] at hx; exact hr _ _ _ hx hv
          · cases hx
        · cases hv
    · cases hy

theorem sField {c : Ctx} {P s f off g n} (hf : finfo P s f = some (off, g, n)) {x v} (hv : VRel c x v) {y} (hy : aField off g n x = some y) (w : World) : ∃ u, (Instr.field s v f).run P w = .ok u w ∧ VRel c y u := by
  unfold finfo at hf
  split at hf
  · rename_i fs hs
    split at hf
    · rename_i fd hfd
      obtain ⟨⟨g', n'⟩, ht, he⟩ := Option.map_eq_some_iff.1 hf
      cases he
      unfold aField at hy
      split at hy
      · cases hv with
        | agg hl h1 hr =>
          obtain ⟨u, hu, hrel⟩ := sPart ht hl h1 hr hy w
          exact ⟨u, by simp [Instr.field, run_underlying hs, hfd, asAgg, hu], hrel⟩
      · cases hy
    · cases hf
  · cases hf

def aExtract (k : Nat) : AV → Option AV
  | .tup vs => vs[k]?
  | _ => none

theorem sExtract {c : Ctx} {P : Program} {k x v} (hv : VRel c x v) {y} (hy : aExtract k x = some y) (w : World) : ∃ u, (Instr.extract v k).run P w = .ok u w ∧ VRel c y u := by
  unfold aExtract at hy
  split at hy
  · cases hv with
    | tup hl hr =>
      rename_i vs
      have hlt : k < vs.size := by rw [← hl]; exact (List.getElem?_eq_some_iff.1 hy).1
      exact ⟨vs[k], by simp [Instr.extract, hlt], hr k y _ hy (Array.getElem?_eq_getElem hlt)⟩
  · cases hy

/-! ### indexAddr, index -/
def isSlice (P : Program) (t : TypeId) : Option Nat :=
  match P.underlying t with
  | some (.slice e) => (P.info? e).map (·.size)
  | _ => none

theorem isSlice_spec {P t n} (h : isSlice P t = some n) : ∃ e i, P.underlying t = some (.slice e) ∧ P.info? e = some i ∧ i.size = n := by
  unfold isSlice at h
  split at h
  · rename_i e he
    obtain ⟨i, hi, rfl⟩ := Option.map_eq_some_iff.1 h
    exact ⟨e, i, he, hi, rfl⟩
  · cases h

def aIndexAddr (n : Nat) (x i : AV) (σ : AHeap) : Option AV :=
  match i with
  | .val (.int _ i) =>
    match x with
    | .sl _ sz xs => if 0 ≤ i ∧ sz = n then (xs[i.toNat]?).map .ref else none
    | .own id len => if 0 ≤ i ∧ i < len then (elAt σ id i.toNat).bind fun el => if el.length = n then some (.ptr id i.toNat 0) else none else none
    | .win id off sz len => if 0 ≤ i ∧ i < len ∧ sz = n then (elAt σ id (off + i.toNat)).bind fun el => if el.length = n then some (.ptr id (off + i.toNat) 0) else none else none
    | _ => none
  | _ => none

theorem sIndexAddr {ρ σ w} (hs : Sim ρ σ w) {P t n} (ht : isSlice P t = some n) {x i v vi} (hv : VRel (ctx ρ σ w) x v) (hi : VRel (ctx ρ σ w) i vi) {y} (hy : aIndexAddr n x i σ = some y) :
    ∃ u, (Instr.indexAt t v vi).run P w = .ok u w ∧ VRel (ctx ρ σ w) y u := by
  obtain ⟨e, inf, he, hinf, rfl⟩ := isSlice_spec ht
  unfold aIndexAddr at hy
  split at hy
  · rename_i k i
    rw [hi.val_inv]
    split at hy
    · rename_i clip sz xs
      split at hy
      · rename_i h0
        obtain ⟨h0, rfl⟩ := h0
        obtain ⟨el, hel, rfl⟩ := Option.map_eq_some_iff.1 hy
        cases hv with
        | sl f hl hn' hcap hclip hc hr =>
          obtain ⟨h1, b, o, rfl, h3, h4⟩ := hc _ _ hel
          have hlt : i < xs.length := by have := (List.getElem?_eq_some_iff.1 hel).1; omega
          subst hl
          refine ⟨.pointer (some ⟨b, o + i.toNat * inf.size, none⟩), ?_, ?_⟩
          · simp [Instr.indexAt, asIntOf, run_underlying he, h0, hlt, sizeOf, typeInfo, hinf, add_lit]
          · exact .ref (f i.toNat) h3 (fun j hj => by have := h4 j (by omega); rw [Nat.add_assoc] at this ⊢; exact this) (fun j x hx => hr _ _ j x hel hx)
      · cases hy
    · rename_i id len
      split at hy
      · rename_i h0
        cases hel : elAt σ id i.toNat with
        | none => rw [hel] at hy; cases hy
        | some el =>
          rw [hel] at hy
          simp only [Option.bind_some] at hy
          split at hy
          · rename_i hn
            cases hy
            rcases hv.own_inv with ⟨b, sz, cap, rfl, hp, _, _⟩ | ⟨rfl, _, _, _⟩
            · have hl := (hs.cellsAt hel hp).1
              refine ⟨.pointer (some ⟨b, 0 + i.toNat * inf.size, none⟩), ?_, ?_⟩
              · simp [Instr.indexAt, asIntOf, run_underlying he, h0.1, h0.2, sizeOf, typeInfo, hinf, add_lit]
              · have := VRel.ptr (c := ctx ρ σ w) (i := i.toNat) (o := 0) hp
                rw [Nat.zero_add, show inf.size = sz by omega]
                simpa using this
            · omega
          · cases hy
      · cases hy
    · rename_i id off sz0 len
      split at hy
      · rename_i h0
        cases hel : elAt σ id (off + i.toNat) with
        | none => rw [hel] at hy; cases hy
        | some el =>
          rw [hel] at hy
          simp only [Option.bind_some] at hy
          split at hy
          · rename_i hn
            cases hy
            rcases hv.win_inv with ⟨b, sz, cap, rfl, hp, _⟩ | ⟨rfl, _, _, _⟩
            · have hl := (hs.cellsAt hel hp).1
              have h2 := h0.2.2
              refine ⟨.pointer (some ⟨b, off * sz0 + i.toNat * inf.size, none⟩), ?_, ?_⟩
              · simp [Instr.indexAt, asIntOf, run_underlying he, h0.1, h0.2.1, sizeOf, typeInfo, hinf, add_lit]
              · have := VRel.ptr (c := ctx ρ σ w) (i := off + i.toNat) (o := 0) hp
                rw [show inf.size = sz by omega, show sz0 = sz by omega, ← Nat.add_mul]
                simpa using this
            · omega
          · cases hy
      · cases hy
    · cases hy
  · cases hy

def isStr (P : Program) (t : TypeId) : Bool := match P.underlying t with | some .string => true | _ => false
theorem isStr_spec {P t} (h : isStr P t = true) : P.underlying t = some .string := by
  unfold isStr at h; split at h <;> simp_all

def aIndexStr (x i : AV) : Option AV :=
  match x, i with
  | .val (.string s), .val (.int _ i) => if 0 ≤ i then (s[i.toNat]?).map fun b => .val (.int .u8 b.toNat) else none
  | _, _ => none

theorem sIndexStr {c : Ctx} {P t} (ht : isStr P t = true) {x i v vi} (hv : VRel c x v) (hi : VRel c i vi) {y} (hy : aIndexStr x i = some y) (w : World) : ∃ u, (Instr.index t v vi).run P w = .ok u w ∧ VRel c y u := by
  unfold aIndexStr at hy
  split at hy
  · rw [hv.val_inv, hi.val_inv]
    split at hy
    · rename_i h0
      obtain ⟨b, hb, rfl⟩ := Option.map_eq_some_iff.1 hy
      exact ⟨_, by simp [Instr.index, asIntOf, run_underlying (isStr_spec ht), h0, hb], .val _⟩
    · cases hy
  · cases hy

/-! ### build -/
theorem foldl_set_splice (vs : List Value) : ∀ (k o : Nat) (cs : Array Value), o + k + vs.length ≤ cs.size →
    (vs.zipIdx k).foldl (fun cs (c, j) => cs.setIfInBounds (o + j) c) cs = splice cs (o + k) vs.toArray := by
  induction vs with
  | nil =>
    intro k o cs h
    simp [splice]
  | cons v vs ih =>
    intro k o cs h
    simp only [List.length_cons] at h
    rw [List.zipIdx_cons, List.foldl_cons, ih (k + 1) o _ (by simp; omega)]
    apply Array.ext_getElem?
    intro j
    rw [splice_get (by simp; omega), splice_get (by simp; omega)]
    simp only [List.size_toArray, List.length_cons, List.getElem?_toArray]
    by_cases h1 : o + k ≤ j ∧ j < o + k + (vs.length + 1)
    · rw [if_pos h1]
      by_cases h2 : j = o + k
      · subst h2
        rw [if_neg (by omega), Array.getElem?_setIfInBounds_self_of_lt (by omega)]
        simp
      · rw [if_pos (by omega)]
        rw [show j - (o + k) = (j - (o + (k + 1))) + 1 by omega, List.getElem?_cons_succ]
    · rw [if_neg h1, if_neg (by omega), Array.getElem?_setIfInBounds_ne (by omega)]

def aFill : List AV → List (Nat × Nat × AV) → Option (List AV)
  | cs, [] => some cs
  | cs, (off, sz, x) :: r => match acells x with
    | some vs => if vs.length = sz ∧ off + sz ≤ cs.length then aFill (cs.take off ++ vs ++ cs.drop (off + sz)) r else none
    | none => none

/-- Cells and what they are. -/
structure CRel (c : Ctx) (cs : List AV) (vs : Array Value) : Prop where
  len : cs.length = vs.size
  one : ∀ (i : Nat) (v : Value), vs[i]? = some v → v.oneCell' = true
  rel : ∀ (i : Nat) (x : AV) (v : Value), cs[i]? = some x → vs[i]? = some v → VRel c x v

theorem CRel.splice {c : Ctx} {cs vs} (h : CRel c cs vs) {ds us} (k : CRel c ds us) {off : Nat} (hfit : off + ds.length ≤ cs.length) : CRel c (cs.take off ++ ds ++ cs.drop (off + ds.length)) (splice vs off us) := by
  have hsp : off + us.size ≤ vs.size := by rw [← h.len, ← k.len]; exact hfit
  refine ⟨by rw [splice_size hsp, ← h.len]; simp; omega, fun i v hv => ?_, fun i x v hx hv => ?_⟩
  · rw [splice_get hsp] at hv
    split at hv
    · exact k.one _ _ hv
    · exact h.one _ _ hv
  · rw [splice_get hsp] at hv
    by_cases h1 : i < off
    · rw [if_neg (by omega)] at hv
      rw [List.append_assoc, List.getElem?_append_left (by simp; omega), List.getElem?_take, if_pos h1] at hx
      exact h.rel _ _ _ hx hv
    · by_cases h2 : i < off + us.size
      · rw [if_pos ⟨by omega, h2⟩] at hv
        rw [List.getElem?_append_left (by simp [k.len]; omega), List.getElem?_append_right (by simp; omega)] at hx
        refine k.rel (i - off) _ _ ?_ hv
        rw [← hx]; congr 1; simp; omega
      · rw [if_neg (by omega)] at hv
        rw [List.getElem?_append_right (by simp [k.len]; omega), List.getElem?_drop] at hx
        refine h.rel i _ _ ?_ hv
        rw [← hx]; congr 1; simp [k.len]; omega

theorem sFill {c : Ctx} (place : Nat → Option (Nat × Nat)) : ∀ (parts : List (Nat × Value)) (aparts : List (Nat × Nat × AV)) (cs : List AV) (vs : Array Value) (r : List AV), CRel c cs vs → parts.length = aparts.length →
    (∀ (k i : Nat) (v : Value) (off sz : Nat) (x : AV), parts[k]? = some (i, v) → aparts[k]? = some (off, sz, x) → place i = some (off, sz) ∧ VRel c x v) → aFill cs aparts = some r →
    ∃ us, Instr.fill place vs parts = some us ∧ CRel c r us
  | [], [], cs, vs, r, h, _, _, hf => by simp only [aFill, Option.some.injEq] at hf; subst hf; exact ⟨vs, rfl, h⟩
  | [], _ :: _, _, _, _, _, hl, _, _ => by simp at hl
  | _ :: _, [], _, _, _, _, hl, _, _ => by simp at hl
  | (i, v) :: parts, (off, sz, x) :: aparts, cs, vs, r, h, hl, hp, hf => by
    obtain ⟨h1, h2⟩ := hp 0 i v off sz x rfl rfl
    simp only [aFill] at hf
    cases hc : acells x with
    | none => rw [hc] at hf; cases hf
    | some ds =>
      rw [hc] at hf
      simp only at hf
      split at hf
      · rename_i hfit
        obtain ⟨k1, k2, k3⟩ := sCells h2 hc
        have hcr : CRel c ds v.cells := ⟨k1.symm, k2, k3⟩
        have hlen := h.len
        have := h.splice hcr (off := off) (by omega)
        rw [hfit.1] at this
        obtain ⟨us, e1, e2⟩ := sFill place parts aparts _ _ r this (by simpa using hl) (fun k i v off sz x ha hb => hp (k + 1) i v off sz x ha hb) hf
        refine ⟨us, ?_, e2⟩
        have hsp := foldl_set_splice v.cells.toList 0 off vs (by simp; omega)
        simp only [Nat.add_zero, Array.toArray_toList] at hsp
        rw [← e1, ← hsp]
        simp only [Instr.fill, h1]
        rw [if_neg (by simp; omega)]
        congr 1
        rw [← Array.foldl_toList]
        simp
      · cases hf

def placesOf (P : Program) (t : TypeId) : Option (Array (Nat × Nat)) :=
  match P.underlying t with
  | some (.struct fs) => if fs.all fun f => (P.info? f.type).isSome then some (fs.map fun f => (f.offset, ((P.info? f.type).map (·.size)).getD 0)) else none
  | _ => none

theorem run_mapM_list {α β : Type} {P : Program} (w : World) (g : α → Sem β) (h : α → β) : ∀ (l : List α), (∀ x ∈ l, (g x).run P w = .ok (h x) w) → (l.mapM g).run P w = .ok (l.map h) w
  | [], _ => by simp
  | x :: l, hl => by
    have ih := run_mapM_list w g h l (fun y hy => hl y (by simp [hy]))
    simp [List.mapM_cons, hl x (by simp), ih]

theorem run_mapM {α β : Type} {P : Program} (w : World) (g : α → Sem β) (h : α → β) (l : Array α) (hl : ∀ x ∈ l, (g x).run P w = .ok (h x) w) : (l.mapM g).run P w = .ok (l.map h) w := by
  rw [Array.mapM_eq_mapM_toList]
  have := run_mapM_list (P := P) w g h l.toList (fun x hx => hl x (by simpa using hx))
  simp only [Sem.run_map, this, Result.andThen_ok]
  congr 1
  apply Array.ext'; simp

theorem run_places {P : Program} (w : World) (fs : Array Field) (h : (fs.all fun f => (P.info? f.type).isSome) = true) :
    (fs.mapM fun f => do pure (f.offset, ← sizeOf f.type) : Sem _).run P w = .ok (fs.map fun f => (f.offset, ((P.info? f.type).map (·.size)).getD 0)) w := by
  refine run_mapM w _ _ fs fun f hf => ?_
  obtain ⟨k, hk, rfl⟩ := Array.getElem_of_mem hf
  obtain ⟨i, hi⟩ := Option.isSome_iff_exists.1 (Array.all_eq_true.1 h k hk)
  simp [sizeOf, typeInfo, hi]

def partsOf (pl : Array (Nat × Nat)) (fr : AFrame) : List (Nat × Operand) → Option (List (Nat × Nat × AV))
  | [] => some []
  | (i, x) :: r => match pl[i]?, partsOf pl fr r with
    | some (o, s), some l => some ((o, s, ev fr x) :: l)
    | _, _ => none

def aBuild (zs : List AV) (parts : List (Nat × Nat × AV)) : Option AV := (aFill zs parts).map .agg

theorem partsOf_spec {c : Ctx} {pl fr} {a : Act} (hf : FRel c fr a.tmps) : ∀ (parts : List (Nat × Operand)) l, partsOf pl fr parts = some l → (parts.map fun p => (p.1, a.eval p.2)).length = l.length ∧
    ∀ (k i : Nat) (v : Value) (off sz : Nat) (x : AV), (parts.map fun p => (p.1, a.eval p.2))[k]? = some (i, v) → l[k]? = some (off, sz, x) → pl[i]? = some (off, sz) ∧ VRel c x v
  | [], l, h => by simp only [partsOf, Option.some.injEq] at h; subst h; simp
  | (i, x) :: r, l, h => by
    simp only [partsOf] at h
    split at h
    · rename_i o s l' h1 h2
      cases h
      obtain ⟨k1, k2⟩ := partsOf_spec hf r l' h2
      refine ⟨by simpa using k1, fun k j v off sz y ha hb => ?_⟩
      cases k with
      | zero => simp at ha hb; obtain ⟨rfl, rfl⟩ := ha; obtain ⟨rfl, rfl, rfl⟩ := hb; exact ⟨h1, hf.eval x⟩
      | succ k => exact k2 k j v off sz y (by simpa using ha) (by simpa using hb)
    · cases h

theorem sBuild {c : Ctx} {P t zs pl} (hz : zeroOf P t = some zs) (hpl : placesOf P t = some pl) {fr} {a : Act} (hf : FRel c fr a.tmps) {parts : Array (Nat × Operand)} {l} (hl : partsOf pl fr parts.toList = some l) {y} (hy : aBuild zs l = some y) (w : World) :
    ∃ u, (Instr.build t (parts.map fun (i, x) => (i, a.eval x))).run P w = .ok u w ∧ VRel c y u := by
  obtain ⟨z, hr, h1, h2, h3⟩ := zeroOf_spec hz w
  unfold placesOf at hpl
  split at hpl
  · rename_i fs hs
    split at hpl
    · rename_i hall
      cases hpl
      obtain ⟨r, hfill, rfl⟩ := Option.map_eq_some_iff.1 hy
      obtain ⟨k1, k2⟩ := partsOf_spec hf parts.toList l hl
      obtain ⟨us, e1, e2⟩ := sFill _ _ l zs z.cells r ⟨h1.symm, h2, h3 c⟩ k1 k2 hfill
      refine ⟨.agg us, ?_, .agg e2.len e2.one e2.rel⟩
      simp only [Instr.build, Sem.run_bind, hr, Result.andThen_ok, run_underlying hs, run_places w fs hall, Array.toList_map]
      rw [e1]; rfl
    · cases hpl
  · cases hpl

end Go.Abs
