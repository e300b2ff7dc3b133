/-
  Rows turned in place by Go's library; what is frozen behind a call.
-/
import Derived.Test.YtjilebpcaemopaaGreatAbsP
import Derived.Below
import Derived.Sort.Grow
import Derived.Shelf.GgSortFunc.RowK
set_option linter.unusedVariables false
namespace Go.Abs
open Go Go.RowKit

theorem Sim.of_below {ρ σ w w'} (hs : Sim ρ σ w) (hb : Below w.heap.size w w') (hd : w.drawn ≤ w'.drawn) : Sim ρ σ w' ∧ Ext ρ σ w ρ σ w' := by
  have hle : CLe (ctx ρ σ w) (ctx ρ σ w') := by
    refine ⟨fun _ _ h => h, fun b hi => ⟨⟨Nat.lt_of_lt_of_le hi.1 hb.size, hi.2⟩, hb.block b hi.1⟩, fun b cs t f h => ⟨cs, f, ?_, rfl⟩⟩
    exact (hb.block b (Array.getElem?_eq_some_iff.1 h).1).trans h
  refine ⟨⟨hs.fresh, fun id o ho => ?_, hs.inj⟩, ⟨hle, Nat.le_refl _, hb.os, hb.tape, hb.output, hb.size, hd⟩⟩
  obtain ⟨p, hp, ho'⟩ := hs.obj id o ho
  refine ⟨p, hp, ho'.mono hle fun b hpb => ?_⟩
  have hlt : b < w.heap.size := by
    cases ho' with
    | cells cs t hb' => cases hpb; exact (Array.getElem?_eq_some_iff.1 hb').1
    | none => cases hpb
    | map ents clock hb' => cases hpb; exact (Array.getElem?_eq_some_iff.1 hb').1
    | raw hb' => cases hpb; exact (Array.getElem?_eq_some_iff.1 hb').1
  exact hb.block b hlt

/-- Behind a call: what nobody will write any more is frozen. -/
theorem Ev.after {P : Program} {f : FuncId} {args : List AV} {σ : AHeap} {k kp : AV → AHeap → Prop} (h : Ev P f args σ (fun x τ => ∃ D τ' y, FzS τ D τ' ∧ Fz τ D x y ∧ k y τ') kp) : Ev P f args σ k kp := by
  intro ρ w vs hs ha
  refine (h ρ w vs hs ha).mono ?_
  rintro e w' ⟨ρ', τ, he, hs', hp⟩
  cases e with
  | returned v =>
    obtain ⟨x, ⟨D, τ', y, hf, hx, hk⟩, hv⟩ := hp
    obtain ⟨h1, h2, h3⟩ := fz_state hs' hf
    exact ⟨ρ', τ', he.trans h2, h1, y, hk, h3 x y v hx hv⟩
  | panicked chain => exact ⟨ρ', τ, he, hs', hp⟩
  | outgrown => exact hp.elim

/-! ### A row of plain values -/
def vrow (l : List (List Value)) : List (List AV) := l.map (·.map AV.val)
theorem vrow_get {l : List (List Value)} {i : Nat} {el : List AV} (h : (vrow l)[i]? = some el) : ∃ v, l[i]? = some v ∧ el = v.map AV.val := by
  unfold vrow at h
  rw [List.getElem?_map] at h
  obtain ⟨v, hv, rfl⟩ := Option.map_eq_some_iff.1 h
  exact ⟨v, hv, rfl⟩
theorem flat_len {sz : Nat} : ∀ {l : List (List Value)}, (∀ v ∈ l, v.length = sz) → l.flatten.length = l.length * sz
  | [], _ => by simp
  | a :: l, h => by
    rw [List.flatten_cons, List.length_append, h a (by simp), flat_len fun v hv => h v (by simp [hv]), List.length_cons, Nat.succ_mul]; omega
theorem flat_get {sz : Nat} : ∀ {l : List (List Value)}, (∀ v ∈ l, v.length = sz) → ∀ {i j : Nat} {v : List Value}, l[i]? = some v → j < sz → l.flatten[i * sz + j]? = v[j]?
  | [], _, i, j, v, hi, _ => by simp at hi
  | a :: l, h, 0, j, v, hi, hj => by
    simp at hi; subst hi
    rw [List.flatten_cons, Nat.zero_mul, Nat.zero_add, List.getElem?_append_left (by rw [h a (by simp)]; exact hj)]
  | a :: l, h, i + 1, j, v, hi, hj => by
    have ha := h a (by simp)
    rw [List.flatten_cons, List.getElem?_append_right (by rw [ha, Nat.succ_mul]; omega), ha, show (i + 1) * sz + j - sz = i * sz + j by rw [Nat.succ_mul]; omega]
    exact flat_get (fun v hv => h v (by simp [hv])) (by simpa using hi) hj

/-- What a block holds. -/
theorem Sim.rowCells {ρ σ w} (hs : Sim ρ σ w) {id b sz s : Nat} {vals : List (List Value)} {rest : List (List AV)} (hg : σ.get id = some (.cells sz (vrow vals ++ rest))) (hp : ρ id = some (some b, s)) :
    s = sz ∧ ∃ cs t, w.heap[b]? = some (.cells cs t (0, 0)) ∧ (vals.length + rest.length) * sz ≤ cs.size ∧ (∀ v ∈ vals, v.length = sz) ∧ ∀ k, k < vals.flatten.length → cs[k]? = vals.flatten[k]? := by
  obtain ⟨p, hp', hor⟩ := hs.obj id _ hg
  rw [hp] at hp'; cases hp'
  obtain ⟨rfl, cs, t, hb, hsz, hel, hone, hr⟩ := hor.cells_inv
  have hb : w.heap[b]? = some (.cells cs t (0, 0)) := hb
  have hlen : (vrow vals ++ rest).length = vals.length + rest.length := by simp [vrow]
  rw [hlen] at hsz
  have hv : ∀ v ∈ vals, v.length = sz := by
    intro v hv
    obtain ⟨i, hi⟩ := List.getElem?_of_mem hv
    have := hel i (v.map AV.val) (by rw [List.getElem?_append_left (by simp [vrow]; exact (List.getElem?_eq_some_iff.1 hi).1)]; simp [vrow, hi])
    simpa using this
  refine ⟨rfl, cs, t, hb, hsz, hv, fun k hk => ?_⟩
  rw [flat_len hv] at hk
  obtain ⟨h0, h1, h2, h3⟩ := div_mul_lt hk
  obtain ⟨v, hvi⟩ : ∃ v, vals[k / sz]? = some v := ⟨_, List.getElem?_eq_getElem h1⟩
  have hvl := hv v (List.mem_of_getElem? hvi)
  have hfl := flat_get hv hvi h2
  rw [h3] at hfl
  rw [hfl]
  have hkc : k < cs.size := by
    have : vals.length * sz ≤ (vals.length + rest.length) * sz := Nat.mul_le_mul_right _ (by omega)
    omega
  have hrel := hr (k / sz) (v.map AV.val) (k % sz) (.val v[k % sz]) (by rw [List.getElem?_append_left (by simp [vrow]; exact h1)]; simp [vrow, hvi]) (by simp [hvl, h2]) cs[k] (by rw [h3]; exact Array.getElem?_eq_getElem hkc)
  rw [Array.getElem?_eq_getElem hkc, hrel.val_inv, List.getElem?_eq_getElem]

theorem Sim.rowHolds {ρ σ w} (hs : Sim ρ σ w) {id b sz s : Nat} {vals : List (List Value)} {rest : List (List AV)} (hg : σ.get id = some (.cells sz (vrow vals ++ rest))) (hp : ρ id = some (some b, s)) :
    Sort.Holds (fun v : Value => v) w b 0 vals.flatten.toArray := by
  obtain ⟨_, cs, t, hb, _, _, hc⟩ := hs.rowCells hg hp
  intro j hj
  have hj' : j < vals.flatten.length := by simpa using hj
  refine ⟨?_, by simp [World.frozen?, hb]⟩
  have := hc j hj'
  simp only [World.cell?, hb, Nat.zero_add, Option.isSome_none, Bool.false_eq_true, if_false]
  rw [this, List.getElem?_eq_getElem hj', getElem!_pos _ j hj]
  simp

theorem Below.of_grow (w : World) (os : Array Obj) : Below w.heap.size w (Sort.grow w os) :=
  ⟨rfl, rfl, rfl, by simp, fun k hk => by simp [Sort.grow, Array.getElem?_append, hk]⟩

theorem putCells_get (F : Array Value) (cs : Array Value) (k : Nat) : (Sort.putCells (fun v : Value => v) 0 F cs)[k]? = (cs[k]?).map fun x => if k < F.size then F[k]! else x := by
  unfold Sort.putCells
  rw [Array.getElem?_mapIdx]
  simp

/-- A row's values are others now. -/
theorem Sim.rerow {ρ σ w} (hs : Sim ρ σ w) {q b sz s : Nat} {vals news : List (List Value)} {rest : List (List AV)} (hg : σ.get q = some (.cells sz (vrow vals ++ rest))) (hp : ρ q = some (some b, s))
    (hl : news.length = vals.length) (hn : ∀ v ∈ news, v.length = sz) (hone : ∀ v ∈ news, ∀ x ∈ v, x.oneCell' = true) (m : Nat) (os : Array Obj) :
    Sim ρ (σ.set q (.cells sz (vrow news ++ rest))) (Sort.grow (Sort.putRow (fun v : Value => v) (Sort.ahead w m) b 0 news.flatten.toArray) os) ∧
      Ext ρ σ w ρ (σ.set q (.cells sz (vrow news ++ rest))) (Sort.grow (Sort.putRow (fun v : Value => v) (Sort.ahead w m) b 0 news.flatten.toArray) os) := by
  obtain ⟨rfl, cs, t, hb, hcs, hv, hc⟩ := hs.rowCells hg hp
  obtain ⟨p, hp', hor⟩ := hs.obj q _ hg
  rw [hp] at hp'; cases hp'
  obtain ⟨_, cs', t', hb', _, hel, hone', hr⟩ := hor.cells_inv
  have hb' : w.heap[b]? = some (.cells cs' t' (0, 0)) := hb'
  rw [hb] at hb'; cases hb'
  generalize hW : Sort.putRow (fun v : Value => v) (Sort.ahead w m) b 0 news.flatten.toArray = W
  have hFl : news.flatten.toArray.size = vals.length * s := by simp only [List.size_toArray, flat_len hn, hl]
  have hWb : W.heap[b]? = some (.cells (Sort.putCells (fun v : Value => v) 0 news.flatten.toArray cs) t (0, 0)) := by
    rw [← hW]
    simp [Sort.putRow, Sort.mapBlock, Sort.ahead, Array.getElem?_modify, hb, Sort.onCells]
  have hWo : ∀ k, k ≠ b → W.heap[k]? = w.heap[k]? := by
    intro k hk
    rw [← hW]
    simp [Sort.putRow, Sort.mapBlock, Sort.ahead, Array.getElem?_modify, Ne.symm hk]
  have hWs : W.heap.size = w.heap.size := by rw [← hW]; simp [Sort.putRow, Sort.mapBlock, Sort.ahead]
  have hWd : w.drawn ≤ W.drawn := by rw [← hW]; simp [Sort.putRow, Sort.mapBlock, Sort.ahead]
  have hcsz : (Sort.putCells (fun v : Value => v) 0 news.flatten.toArray cs).size = cs.size := by simp [Sort.putCells]
  have hw := hs.write hg hp W (.cells s (vrow news ++ rest)) hWo hWs (fun cs2 t2 f2 h2 => by rw [hb] at h2; cases h2; exact ⟨_, _, hWb, hcsz⟩) (by rw [← hW]; rfl) (by rw [← hW]; rfl) (by rw [← hW]; rfl) hWd (fun d hle hd => by
    refine .cells _ t (by rw [hd]; exact hWb) (by rw [hcsz]; simp [vrow, hl]; rw [Nat.add_mul] at hcs ⊢; exact hcs) (fun i el he => ?_) (fun j v hj => ?_) (fun i el j x he hx v hv => ?_)
    · rw [List.getElem?_append] at he
      split at he
      · obtain ⟨v, h1, rfl⟩ := vrow_get he
        simpa using hn v (List.mem_of_getElem? h1)
      · refine hel (vals.length + (i - (vrow news).length)) el ?_
        rw [List.getElem?_append_right (by simp [vrow])]
        rw [← he]; congr 1; simp [vrow]
    · rw [putCells_get] at hj
      obtain ⟨u, hu, rfl⟩ := Option.map_eq_some_iff.1 hj
      split
      · rename_i hlt
        rw [getElem!_pos _ j hlt]
        have hm : news.flatten.toArray[j] ∈ news.flatten.toArray := Array.getElem_mem hlt
        rw [List.mem_toArray, List.mem_flatten] at hm
        obtain ⟨v, h1, h2⟩ := hm
        exact hone v h1 _ h2
      · exact hone' j u hu
    · rw [putCells_get] at hv
      obtain ⟨u, hu, rfl⟩ := Option.map_eq_some_iff.1 hv
      rw [List.getElem?_append] at he
      split at he
      · rename_i hi
        obtain ⟨v, h1, rfl⟩ := vrow_get he
        have hvl := hn v (List.mem_of_getElem? h1)
        have hj : j < s := by have := (List.getElem?_eq_some_iff.1 hx).1; rw [List.length_map, hvl] at this; exact this
        have hi' : i < vals.length := by rw [← hl]; simpa [vrow] using hi
        have hrow := mul_lt_row (sz := s) hi'
        have hlt : i * s + j < news.flatten.toArray.size := by omega
        rw [if_pos hlt, getElem!_pos news.flatten.toArray (i * s + j) hlt]
        have hf := flat_get hn h1 hj
        rw [List.getElem?_map] at hx
        obtain ⟨y, hy, rfl⟩ := Option.map_eq_some_iff.1 hx
        rw [hy] at hf
        have : news.flatten.toArray[i * s + j] = y := by
          have := List.getElem?_eq_some_iff.1 hf
          obtain ⟨_, e⟩ := this
          simpa using e
        rw [this]
        exact .val y
      · rename_i hi
        have hil : vals.length ≤ i := by rw [← hl]; simpa [vrow] using hi
        have h1 : vals.length * s ≤ i * s := Nat.mul_le_mul_right _ hil
        rw [if_neg (by omega)]
        refine (hr i el j x ?_ hx u hu).mono hle
        rw [List.getElem?_append_right (by simpa [vrow] using hil)]
        rw [← he]; congr 1; simp [vrow, hl])
  have hg2 := hw.1.of_below (Below.of_grow W os) (Nat.le_refl _)
  exact ⟨hg2.1, hw.2.trans hg2.2⟩
end Go.Abs
namespace Go.Abs
open Go Go.RowKit

theorem argsRel_cons {c : Ctx} {x : AV} {more : List AV} {vs : Array Value} (h : ArgsRel c (x :: more) vs) : ∃ v us, vs = #[v] ++ us ∧ VRel c x v ∧ ArgsRel c more us := by
  obtain ⟨h1, h2⟩ := h
  have hsz : vs.size = more.length + 1 := by rw [← h1]; rfl
  refine ⟨vs[0]'(by omega), vs.extract 1 vs.size, ?_, h2 0 _ _ rfl (Array.getElem?_eq_getElem (by omega)), ?_, fun i y v hy hv => ?_⟩
  · apply Array.ext_getElem?
    intro i
    rw [Array.getElem?_append]
    cases i with
    | zero => simp [hsz]
    | succ i =>
      simp [Array.getElem?_extract]
      split
      · congr 1; omega
      · exact Array.getElem?_eq_none (by omega)
  · simp; omega
  · rw [Array.getElem?_extract] at hv
    split at hv
    · exact h2 (i + 1) y v (by simpa using hy) (by rw [Nat.add_comm]; exact hv)
    · cases hv

/-- A function that turns a row in place. -/
theorem Ev.rerowT {P : Program} {f : FuncId} (hc : Callable P f) {q sz len : Nat} {vals news : List (List Value)} {rest : List (List AV)} {σ : AHeap} {more : List AV} {mv : Array Value} {k kp : AV → AHeap → Prop} (hmore : ∀ c vs, ArgsRel c more vs → vs = mv)
    (hlen : len = vals.length) (hpos : 0 < len) (hg : σ.get q = some (.cells sz (vrow vals ++ rest))) (hl : news.length = vals.length) (hn : ∀ v ∈ news, v.length = sz) (hone : ∀ v ∈ news, ∀ x ∈ v, x.oneCell' = true)
    (h : ∀ w b cap, Sort.Holds (fun v : Value => v) w b 0 vals.flatten.toArray → b < w.heap.size → len ≤ cap → Calls P f (#[.slice (some ⟨b, 0, none⟩) len cap] ++ mv) w fun e w' =>
      e = .returned (.tuple #[]) ∧ ∃ m os, w' = Sort.grow (Sort.putRow (fun v : Value => v) (Sort.ahead w m) b 0 news.flatten.toArray) os)
    (hk : k (.val (.tuple #[])) (σ.set q (.cells sz (vrow news ++ rest)))) : Ev P f (.own q len :: more) σ k kp := by
  intro ρ w vs hs ha
  obtain ⟨v, us, rfl, hv, hus⟩ := argsRel_cons ha
  obtain rfl := hmore _ _ hus
  rcases hv.own_inv with ⟨b, s, cap, rfl, hp, hlc, _⟩ | ⟨h0, _⟩
  · refine .inl ⟨hc, (h w b cap (hs.rowHolds hg hp) (hs.blk hg hp) hlc).mono ?_⟩
    rintro e w' ⟨rfl, m, os, rfl⟩
    obtain ⟨h1, h2⟩ := hs.rerow hg hp hl hn hone m os
    exact ⟨ρ, _, h2, h1, _, hk, .val _⟩
  · omega
theorem Ev.rerowS {P : Program} {f : FuncId} (hc : Callable P f) {q sz len n : Nat} {vals news : List (List Value)} {rest : List (List AV)} {σ : AHeap} {k kp : AV → AHeap → Prop}
    (hlen : len = vals.length) (hpos : 0 < len) (hg : σ.get q = some (.cells sz (vrow vals ++ rest))) (hl : news.length = vals.length) (hn : ∀ v ∈ news, v.length = sz) (hone : ∀ v ∈ news, ∀ x ∈ v, x.oneCell' = true) (hnl : n ≤ len)
    (h : ∀ w b cap, Sort.Holds (fun v : Value => v) w b 0 vals.flatten.toArray → b < w.heap.size → len ≤ cap → Calls P f #[.slice (some ⟨b, 0, none⟩) len cap] w fun e w' =>
      e = .returned (.slice (some ⟨b, 0, none⟩) n cap) ∧ ∃ m os, w' = Sort.grow (Sort.putRow (fun v : Value => v) (Sort.ahead w m) b 0 news.flatten.toArray) os)
    (hk : k (.own q n) (σ.set q (.cells sz (vrow news ++ rest)))) : Ev P f [.own q len] σ k kp := by
  intro ρ w vs hs ha
  obtain ⟨v, us, rfl, hv, hus⟩ := argsRel_cons ha
  have hu : us = #[] := by
    have := hus.1
    exact Array.eq_empty_of_size_eq_zero this.symm
  subst hu
  rcases hv.own_inv with ⟨b, s, cap, rfl, hp, hlc, cs, t, fz, hb, hcap⟩ | ⟨h0, _⟩
  · refine .inl ⟨hc, (h w b cap (hs.rowHolds hg hp) (hs.blk hg hp) hlc).mono ?_⟩
    rintro e w' ⟨rfl, m, os, rfl⟩
    obtain ⟨h1, h2⟩ := hs.rerow hg hp hl hn hone m os
    obtain ⟨cs', f', hb', hsz⟩ := h2.le.sz b cs t fz hb
    exact ⟨ρ, _, h2, h1, _, hk, .own hp (by omega) ⟨cs', t, f', hb', by rw [hsz]; exact hcap⟩⟩
  · omega
/-- A function over a row of no elements. -/
theorem Ev.rowNone {P : Program} {f : FuncId} (hc : Callable P f) {x : AV} {σ : AHeap} {more : List AV} {mv : Array Value} {k kp : AV → AHeap → Prop} (hmore : ∀ c vs, ArgsRel c more vs → vs = mv) (hx : x = .val (.slice none 0 0) ∨ ∃ q, x = .own q 0)
    {ret : Option Addr → Nat → Value} {y : AV} (h : ∀ w a cap, Calls P f (#[.slice a 0 cap] ++ mv) w fun e w' => e = .returned (ret a cap) ∧ w' = w) (hy : ∀ c a cap, VRel c x (.slice a 0 cap) → VRel c y (ret a cap)) (hk : k y σ) : Ev P f (x :: more) σ k kp := by
  intro ρ w vs hs ha
  obtain ⟨v, us, rfl, hv, hus⟩ := argsRel_cons ha
  obtain rfl := hmore _ _ hus
  have hsl : ∃ a cap, v = .slice a 0 cap := by
    rcases hx with rfl | ⟨q, rfl⟩
    · exact ⟨none, 0, hv.val_inv⟩
    · rcases hv.own_inv with ⟨b, s, cap, rfl, _⟩ | ⟨_, a, rfl, _⟩
      · exact ⟨_, _, rfl⟩
      · exact ⟨_, _, rfl⟩
  obtain ⟨a, cap, rfl⟩ := hsl
  refine .inl ⟨hc, (h w a cap).mono ?_⟩
  rintro e w' ⟨rfl, rfl⟩
  exact ⟨ρ, σ, Ext.refl _ _ _, hs, y, hk, hy _ _ _ hv⟩

/-- A call off a contract on abstract states, where nothing that changes is known. -/
theorem Ev.calls {P : Program} {f : FuncId} (hc : Callable P f) {args : List AV} {vs : Array Value} {r : Value} (h : Ev P f args .empty (fun x _ => x = .val r) (fun _ _ => False)) (ha : ∀ c, ArgsRel c args vs) (w : World) :
    Calls P f vs w fun e w' => e = .returned r ∧ ∃ n os, w' = Sort.grow (w.drewN n) os := by
  have hs : Sim (fun _ => none) .empty w := ⟨fun _ _ => rfl, fun _ _ h => by simp [AHeap.empty] at h, fun _ _ _ _ _ _ _ h => by simp [AHeap.empty] at h⟩
  refine (Runs.calls hc (h _ w vs hs (ha _))).mono ?_
  rintro e w' ⟨ρ', σ', he, hs', hp⟩
  cases e with
  | returned v =>
    obtain ⟨x, rfl, hv⟩ := hp
    refine ⟨by rw [hv.val_inv], w'.drawn - w.drawn, w'.heap.extract w.heap.size w'.heap.size, ?_⟩
    have hh : w'.heap = w.heap ++ w'.heap.extract w.heap.size w'.heap.size := by
      apply Array.ext_getElem?
      intro k
      rw [Array.getElem?_append]
      split
      · rename_i hk
        exact (he.le.imm k ⟨hk, fun _ _ _ ho => by simp [AHeap.empty] at ho⟩).2
      · rename_i hk
        rw [Array.getElem?_extract]
        have := he.size
        split
        · congr 1; omega
        · rw [Array.getElem?_eq_none]; omega
    have hd := he.drawn
    have h1 := he.tape
    have h2 := he.os
    have h3 := he.output
    clear hv hs' he
    obtain ⟨hp, tp, dr, os, out⟩ := w'
    simp only at hh hd h1 h2 h3
    subst h1; subst h2; subst h3
    simp only [Sort.grow, World.drewN]
    rw [Nat.add_sub_cancel' hd, ← hh]
  | panicked chain => obtain ⟨_, _, _, hf, _⟩ := hp; exact hf.elim
  | outgrown => exact hp.elim
end Go.Abs
