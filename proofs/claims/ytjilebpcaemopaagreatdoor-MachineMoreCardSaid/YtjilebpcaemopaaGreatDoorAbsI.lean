import Derived.Test.YtjilebpcaemopaaGreatDoorAbsH
namespace Go.Abs
open Go

def ArgsRel (c : Ctx) (xs : List AV) (vs : Array Value) : Prop := xs.length = vs.size ∧ ∀ (i : Nat) x v, xs[i]? = some x → vs[i]? = some v → VRel c x v

def Callable (P : Program) (f : FuncId) : Prop := ∃ fn, P.funcs[f]? = some fn ∧ fn.body.isSome = true ∧ (fn.name == "runtime.NumGoroutine") = false

def EvPost (ρ : Nat → Option (Option Nat × Nat)) (σ : AHeap) (w : World) (k kp : AV → AHeap → Prop) (e : Ending) (w' : World) : Prop :=
  ∃ ρ' σ', Ext ρ σ w ρ' σ' w' ∧ Sim ρ' σ' w' ∧ match e with
    | .returned v => ∃ x, k x σ' ∧ VRel (ctx ρ' σ' w') x v
    | .panicked chain => ∃ x v, chain = [{ v, recovered := false }] ∧ kp x σ' ∧ VRel (ctx ρ' σ' w') x v
    | .outgrown => False

/-- A call of a function: of one with a body, or of one that the model itself answers. -/
def Runs (P : Program) (f : FuncId) (vs : Array Value) (w : World) (Q : Ending → World → Prop) : Prop :=
  (Callable P f ∧ Calls P f vs w Q) ∨ ∃ v w', (callFunc f vs).run P w = .ok (.value v) w' ∧ Q (.returned v) w'
theorem Runs.mono {P f vs w} {Q R : Ending → World → Prop} (h : Runs P f vs w Q) (hm : ∀ e w', Q e w' → R e w') : Runs P f vs w R := by
  rcases h with ⟨h1, h2⟩ | ⟨v, w', h1, h2⟩
  · exact .inl ⟨h1, h2.mono hm⟩
  · exact .inr ⟨v, w', h1, hm _ _ h2⟩
theorem Callable.run {P f} (h : Callable P f) (vs : Array Value) (w : World) : (callFunc f vs).run P w = .ok (.enter f vs) w := by
  obtain ⟨fn, h1, h2, h3⟩ := h
  have hb : fn.body ≠ none := by intro hb; rw [hb] at h2; cases h2
  have hname : ¬ fn.name = "runtime.NumGoroutine" := by simpa using h3
  simp [callFunc, h1, hname, hb]
theorem Runs.calls {P f vs w} {Q : Ending → World → Prop} (hc : Callable P f) (h : Runs P f vs w Q) : Calls P f vs w Q := by
  rcases h with ⟨_, h⟩ | ⟨v, w', h, _⟩
  · exact h
  · rw [hc.run] at h; cases h

/-- What a call of a function comes to, on abstract states. -/
def Ev (P : Program) (f : FuncId) (args : List AV) (σ : AHeap) (k kp : AV → AHeap → Prop) : Prop :=
  ∀ ρ w vs, Sim ρ σ w → ArgsRel (ctx ρ σ w) args vs → Runs P f vs w (EvPost ρ σ w k kp)

theorem Ev.mono {P f args σ} {k k' kp kp' : AV → AHeap → Prop} (h : Ev P f args σ k kp) (h1 : ∀ x τ, k x τ → k' x τ) (h2 : ∀ x τ, kp x τ → kp' x τ) : Ev P f args σ k' kp' := by
  refine fun ρ w vs hs ha => (h ρ w vs hs ha).mono ?_
  rintro e w' ⟨ρ', σ', he, hs', hp⟩
  refine ⟨ρ', σ', he, hs', ?_⟩
  cases e with
  | returned v => obtain ⟨x, hx, hr⟩ := hp; exact ⟨x, h1 _ _ hx, hr⟩
  | panicked chain => obtain ⟨x, v, hc, hx, hr⟩ := hp; exact ⟨x, v, hc, h2 _ _ hx, hr⟩
  | outgrown => exact hp

def stepK (r : Option (AV × AHeap)) (k : AV → AHeap → Prop) : Prop :=
  match r with
  | some p => k p.1 p.2
  | none => False

def callK (P : Program) (f : AV) (args : List AV) (σ : AHeap) (k kp : AV → AHeap → Prop) : Prop :=
  match f with
  | .fn (.func g) cap => Ev P g (args ++ cap) σ k kp
  | _ => False

def panicK (x : AV) (σ : AHeap) (kp : AV → AHeap → Prop) : Prop :=
  match x with
  | .iface t y => kp (.iface t y) σ
  | _ => False

def runOp (P : Program) (op : Op) (fr : AFrame) (σ : AHeap) (k kp : AV → AHeap → Prop) : Prop :=
  match op with
  | .call c => match c.callee with
    | .value f => callK P (ev fr f) (c.args.toList.map (ev fr)) σ k kp
    | .builtin b => stepK (aBuiltin P b c.argTypes.toList (c.args.toList.map (ev fr)) σ) k
    | .invoke _ _ => False
  | .panic x => panicK (ev fr x) σ kp
  | .move x => k (ev fr x) σ
  | .assign x => k (ev fr x) σ
  | op => stepK (aopF P op fr σ) k

/-- What a row in place is, where nobody will write it. -/
def aSl (P : Program) (t : TypeId) (len : Nat) (parts : Array (Nat × Operand)) (fr : AFrame) : Option AV :=
  match sinfo P t with
  | some (e, sz, _) => match zeroOf P e with
    | some zs => aBuildSl len sz zs (parts.toList.map fun (i, x) => (i, ev fr x))
    | none => none
  | none => none

/-- An operation, where the order is not told. -/
def runQ (P : Program) (op : Op) (fr : AFrame) (σ : AHeap) (k kp : AV → AHeap → Prop) : Prop :=
  match op with
  | .buildSlice t len parts => stepK (pureR σ (aSl P t len parts fr)) k
  | op => runOp P op fr σ k kp

abbrev Run := Op → AFrame → AHeap → (AV → AHeap → Prop) → (AV → AHeap → Prop) → Prop

def guardK (x : AV) (want : Bool) (A B : Prop) : Prop :=
  match x with
  | .val (.bool b) => (b = want → A) ∧ (b ≠ want → B)
  | .val (.tuple _) => B
  | _ => False

def gK (x : AV) (want : Bool) (run : (AV → AHeap → Prop) → Prop) (K : AV → AHeap → Prop) (σ : AHeap) : Prop := guardK x want (run K) (K (.val undef) σ)

def aopsI (R : Run) (ops : Array Oper) : List Nat → AFrame → AHeap → (AFrame → AHeap → Prop) → (AV → AHeap → Prop) → Prop
  | [], fr, σ, k, _ => k fr σ
  | i :: l, fr, σ, k, kp => match ops[i]? with
    | none => False
    | some o => match o.guard with
      | none => R o.op fr σ (fun x τ => aopsI R ops l (put fr o.dst x) τ k kp) kp
      | some (j, want) => match (ops[j]?).bind (·.dst) with
        | some d => gK (look fr d) want (fun K => R o.op fr σ K kp) (fun x τ => aopsI R ops l (put fr o.dst x) τ k kp) σ
        | none => False

/-- No operation writes these. -/
def fixOk (X : List Nat) (ops : Array Oper) : Bool := ops.all fun o => match o.dst with | some d => !X.elem d | none => true
def dstsOk (N : Nat) (ops : Array Oper) : Bool := ops.all fun o => match o.dst with | some d => decide (d < N) | none => true

/-- One operation, run. -/
def Next1 (ρ : Nat → Option (Option Nat × Nat)) (σ : AHeap) (w : World) (a : Act) (dst : Option Tmp) (k kp : AV → AHeap → Prop) (next : Act → World → Prop) (Q : Exit → Act → World → Prop) : Prop :=
  (∀ ρ' σ' w' x v, Ext ρ σ w ρ' σ' w' → Sim ρ' σ' w' → VRel (ctx ρ' σ' w') x v → k x σ' → next (a.put dst v) w') ∧
  (∀ ρ' σ' w' x v, Ext ρ σ w ρ' σ' w' → Sim ρ' σ' w' → VRel (ctx ρ' σ' w') x v → kp x σ' → Q (.panic [{ v, recovered := false }]) a w')

theorem stepK_sound {ρ σ w} (hs : Sim ρ σ w) {P : Program} {o : Oper} {fr} {a : Act} (hf : FRel (ctx ρ σ w) fr a.tmps) {k kp : AV → AHeap → Prop} {next Q} (hn : Next1 ρ σ w a o.dst k kp next Q) (h : stepK (aopF P o.op fr σ) k) : o.wp P a w next Q := by
  unfold stepK at h
  split at h
  · rename_i p hp
    obtain ⟨x, σ'⟩ := p
    obtain ⟨n, v, w', ρ', h1, h2, h3, h4, h5⟩ := aopF_sound hs hf hp
    unfold Oper.wp
    rw [h1]
    rcases h2 with rfl | ⟨rfl, rfl⟩
    · exact hn.1 ρ' σ' w' x v h5 h4 h3 h
    · exact hn.1 ρ' σ' w' x undef h5 h4 h3 h
  · exact h.elim

theorem callK_sound {ρ σ w} (hs : Sim ρ σ w) {P : Program} {o : Oper} {fr} {a : Act} (hf : FRel (ctx ρ σ w) fr a.tmps) {f : Operand} {args : Array Operand} {ts : Array TypeId} (ho : o.op = .call { callee := .value f, args := args, argTypes := ts })
    {k kp : AV → AHeap → Prop} {next Q} (hn : Next1 ρ σ w a o.dst k kp next Q) (h : callK P (ev fr f) (args.toList.map (ev fr)) σ k kp) : o.wp P a w next Q := by
  unfold callK at h
  split at h
  · rename_i g cap hfn
    have hv := hf.eval f
    rw [hfn] at hv
    generalize hfv : a.eval f = fv at hv
    cases hv with
    | fn hl hr =>
      rename_i vs
      have hargs : ArgsRel (ctx ρ σ w) (args.toList.map (ev fr) ++ cap) (args.map a.eval ++ vs) := by
        refine ⟨by simp [hl], fun i x v hx hv => ?_⟩
        rw [List.getElem?_append] at hx
        rw [Array.getElem?_append] at hv
        simp only [List.length_map, Array.length_toList] at hx
        simp only [Array.size_map] at hv
        split at hx
        · rename_i hi
          rw [if_pos hi] at hv
          simp only [List.getElem?_map, Array.getElem?_toList] at hx
          simp only [Array.getElem?_map] at hv
          obtain ⟨q, hq, rfl⟩ := Option.map_eq_some_iff.1 hx
          rw [hq] at hv
          simp at hv
          subst hv
          exact hf.eval q
        · rename_i hi
          rw [if_neg hi] at hv
          exact hr _ _ _ hx hv
      have hrun0 : (execOp a.eval o).run P w = (callFunc g (args.map a.eval ++ vs)).run P w := by
        simp [execOp, ho, resolve, hfv, Deferred.ofValue, invoke]
      rcases h ρ w _ hs hargs with ⟨hc, hcall⟩ | ⟨v, w', hv, ρ', σ', he, hs', x, hx, hr⟩
      · have hrun : (execOp a.eval o).run P w = .ok (.enter g (args.map a.eval ++ vs)) w := hrun0.trans (hc.run _ _)
        unfold Oper.wp
        rw [hrun]
        refine hcall.mono ?_
        rintro e w' ⟨ρ', σ', he, hs', hp⟩
        cases e with
        | returned v => obtain ⟨x, hx, hr⟩ := hp; exact hn.1 ρ' σ' w' x v he hs' hr hx
        | panicked chain => obtain ⟨x, v, rfl, hx, hr⟩ := hp; exact hn.2 ρ' σ' w' x v he hs' hr hx
        | outgrown => exact hp.elim
      · unfold Oper.wp
        rw [hrun0, hv]
        exact hn.1 ρ' σ' w' x v he hs' hr hx
  · exact h.elim

theorem runOp_sound {ρ σ w} (hs : Sim ρ σ w) {P : Program} {o : Oper} {fr} {a : Act} (hf : FRel (ctx ρ σ w) fr a.tmps) {k kp : AV → AHeap → Prop} {next Q} (hn : Next1 ρ σ w a o.dst k kp next Q) (h : runOp P o.op fr σ k kp) : o.wp P a w next Q := by
  unfold runOp at h
  split at h
  · rename_i c hc
    split at h
    · rename_i f hcf
      obtain ⟨callee, args, ts⟩ := c
      simp only at hcf h
      subst hcf
      exact callK_sound hs hf hc hn h
    · rename_i b hcb
      refine stepK_sound hs hf hn ?_
      rw [hc]
      simp only [aopF, hcb]
      exact h
    · exact h.elim
  · rename_i x hx
    unfold panicK at h
    split at h
    · rename_i t y hy
      have hv := hf.eval x
      rw [hy] at hv
      generalize hxv : a.eval x = xv at hv
      cases hv with
      | iface hyv =>
        rename_i v
        unfold Oper.wp
        have hrun : (execOp a.eval o).run P w = .halt (.panic (.iface t v)) w := by
          simp [execOp, hx, hxv, Instr.panic]
        rw [hrun]
        exact hn.2 ρ σ w _ _ (Ext.refl _ _ _) hs (.iface hyv) h
    · exact h.elim
  · rename_i x hx
    refine stepK_sound hs hf hn ?_
    rw [hx]; exact h
  · rename_i x hx
    refine stepK_sound hs hf hn ?_
    rw [hx]; exact h
  · exact stepK_sound hs hf hn h

def RunOk (P : Program) (R : Run) : Prop := ∀ {ρ σ w} (_ : Sim ρ σ w) {o : Oper} {fr} {a : Act} (_ : FRel (ctx ρ σ w) fr a.tmps) {k kp : AV → AHeap → Prop} {next Q} (_ : Next1 ρ σ w a o.dst k kp next Q) (_ : R o.op fr σ k kp), o.wp P a w next Q

theorem runOp_ok (P : Program) : RunOk P (runOp P) := fun hs _ _ _ hf _ _ _ _ hn h => runOp_sound hs hf hn h

theorem runQ_ok (P : Program) : RunOk P (runQ P) := by
  intro ρ σ w hs o fr a hf k kp next Q hn h
  unfold runQ at h
  split at h
  · rename_i t len parts e
    unfold stepK at h
    split at h
    · rename_i p hp
      obtain ⟨y, hy, e2⟩ := Option.map_eq_some_iff.1 hp
      subst e2
      unfold aSl at hy
      split at hy
      · rename_i el sz by' hi
        split at hy
        · rename_i zs hz
          have hb := sBuildSl hs hi hz hf hy
          obtain ⟨n, v, w', ρ', h1, h2, h3, h4, h5⟩ := gives_new (o := o) (a := a) (by simp only [execOp, e]) hb
          unfold Oper.wp
          rw [h1]
          rcases h2 with rfl | ⟨rfl, rfl⟩
          · exact hn.1 ρ' σ w' y v h5 h4 h3 h
          · exact hn.1 ρ' σ w' y undef h5 h4 h3 h
        · cases hy
      · cases hy
    · exact h.elim
  · exact runOp_sound hs hf hn h

/-- A state: the abstract one, the model's, and what is known since a beginning. -/
structure St (D : Act → Prop) (ρ₀ : Nat → Option (Option Nat × Nat)) (σ₀ : AHeap) (w₀ : World) (N : Nat) (ρ : Nat → Option (Option Nat × Nat)) (σ : AHeap) (w : World) (fr : AFrame) (a : Act) : Prop where
  ext : Ext ρ₀ σ₀ w₀ ρ σ w
  sim : Sim ρ σ w
  frel : FRel (ctx ρ σ w) fr a.tmps
  size : a.tmps.size = N
  defers : D a

theorem put_size (a : Act) (d : Option Tmp) (v : Value) : (a.put d v).tmps.size = a.tmps.size := by
  cases d <;> simp [Act.put]
theorem put_defers (a : Act) (d : Option Tmp) (v : Value) : (a.put d v).defers = a.defers := by
  cases d <;> rfl

/-- What holds of a frame all the time, if some places are not written. -/
structure DOk (X : List Nat) (D : Act → Prop) : Prop where
  put : ∀ (a : Act) (d : Option Tmp) (v : Value), (∀ k, d = some k → k ∉ X) → D a → D (a.put d v)
theorem DOk.plain (X : List Nat) : DOk X (fun a => a.defers = []) := ⟨fun a d v _ h => by rw [put_defers, h]⟩
theorem St.put {D ρ₀ σ₀ w₀ N ρ σ w fr a} {X : List Nat} (hD : DOk X D) (h : St D ρ₀ σ₀ w₀ N ρ σ w fr a) {ρ' σ' w'} (he : Ext ρ σ w ρ' σ' w') (hs : Sim ρ' σ' w') {x v} (hv : VRel (ctx ρ' σ' w') x v) {d : Option Tmp} (hd : ∀ k, d = some k → k < N) (hx : ∀ k, d = some k → k ∉ X) :
    St D ρ₀ σ₀ w₀ N ρ' σ' w' (put fr d x) (a.put d v) :=
  ⟨h.ext.trans he, hs, (h.frel.mono he.le).put hv (by rw [h.size]; exact hd), by rw [put_size, h.size], hD.put _ _ _ hx h.defers⟩

/-- The two ends of a region. -/
def Ends (D : Act → Prop) (ρ₀ : Nat → Option (Option Nat × Nat)) (σ₀ : AHeap) (w₀ : World) (N : Nat) (k : AFrame → AHeap → Prop) (kp : AV → AHeap → Prop) (Q : Exit → Act → World → Prop) : Prop :=
  (∀ ρ σ w fr a, St D ρ₀ σ₀ w₀ N ρ σ w fr a → k fr σ → Q .normal a w) ∧
  (∀ ρ σ w fr a x v, St D ρ₀ σ₀ w₀ N ρ σ w fr a → VRel (ctx ρ σ w) x v → kp x σ → Q (.panic [{ v, recovered := false }]) a w)

theorem yielded_bool {c : Ctx} {ops : Array Oper} {j d : Nat} {tmps : Array Value} {b : Bool} (hd : (ops[j]?).bind (·.dst) = some d) (h : VRel c (.val (.bool b)) (tmps.getD d undef)) : yielded ops tmps j = some b := by
  have := h.val_inv
  unfold yielded
  rw [hd]
  simp only [Option.bind_some]
  rw [Array.getD_eq_getD_getElem?] at this
  cases hx : tmps[d]? with
  | none => rw [hx] at this; simp [undef] at this
  | some v => rw [hx] at this; simp at this; subst this; rfl

theorem yielded_tuple {c : Ctx} {ops : Array Oper} {j d : Nat} {tmps : Array Value} {vs : Array Value} (hd : (ops[j]?).bind (·.dst) = some d) (h : VRel c (.val (.tuple vs)) (tmps.getD d undef)) : yielded ops tmps j = none := by
  have := h.val_inv
  unfold yielded
  rw [hd]
  simp only [Option.bind_some]
  rw [Array.getD_eq_getD_getElem?] at this
  cases hx : tmps[d]? with
  | none => rfl
  | some v => rw [hx] at this; simp at this; subst this; rfl

theorem wanted_some {P : Nat → Option Bool} {o : Oper} {j : Nat} {want b : Bool} (hg : o.guard = some (j, want)) (hy : P j = some b) : Region.wanted o P = decide (b = want) := by
  unfold Region.wanted
  rw [hg]
  simp only [hy]
  cases b <;> cases want <;> rfl
theorem wanted_none {P : Nat → Option Bool} {o : Oper} {j : Nat} {want : Bool} (hg : o.guard = some (j, want)) (hy : P j = none) : Region.wanted o P = false := by
  unfold Region.wanted
  rw [hg]
  simp only [hy]
  rfl

theorem aopsI_sound {P : Program} {R : Run} (hR : RunOk P R) {ops : Array Oper} {N : Nat} (hN : dstsOk N ops = true) {X : List Nat} {D : Act → Prop} (hX : fixOk X ops = true) (hD : DOk X D) {ρ₀ σ₀ w₀} {k : AFrame → AHeap → Prop} {kp : AV → AHeap → Prop} {Q : Exit → Act → World → Prop} (hQ : Ends D ρ₀ σ₀ w₀ N k kp Q) :
    ∀ (l : List Nat) (ρ) (σ : AHeap) (w : World) (fr : AFrame) (a : Act), St D ρ₀ σ₀ w₀ N ρ σ w fr a → aopsI R ops l fr σ k kp → wpOps P ops Q l a w
  | [], ρ, σ, w, fr, a, hst, h => hQ.1 ρ σ w fr a hst h
  | i :: l, ρ, σ, w, fr, a, hst, h => by
    simp only [aopsI] at h
    simp only [wpOps]
    cases ho : ops[i]? with
    | none => rw [ho] at h; exact h.elim
    | some o =>
      rw [ho] at h
      simp only at h ⊢
      have hd : ∀ q, o.dst = some q → q < N := by
        intro q hq
        obtain ⟨hi, rfl⟩ := Array.getElem?_eq_some_iff.1 ho
        have := Array.all_eq_true.1 hN i hi
        rw [hq] at this
        simpa using this
      have hx : ∀ q, o.dst = some q → q ∉ X := by
        intro q hq
        obtain ⟨hi, rfl⟩ := Array.getElem?_eq_some_iff.1 ho
        have := Array.all_eq_true.1 hX i hi
        rw [hq] at this
        simpa using this
      have run : R o.op fr σ (fun x τ => aopsI R ops l (put fr o.dst x) τ k kp) kp → o.wp P a w (wpOps P ops Q l) Q := by
        intro hr
        refine hR hst.sim hst.frel ⟨?_, ?_⟩ hr
        · intro ρ' σ' w' x v he hs' hv hk
          exact aopsI_sound hR hN hX hD hQ l ρ' σ' w' _ _ (hst.put hD he hs' hv hd hx) hk
        · intro ρ' σ' w' x v he hs' hv hk
          exact hQ.2 ρ' σ' w' fr a x v ⟨hst.ext.trans he, hs', hst.frel.mono he.le, hst.size, hst.defers⟩ hv hk
      have skip : aopsI R ops l (put fr o.dst (.val undef)) σ k kp → wpOps P ops Q l (a.put o.dst undef) w := by
        intro hr
        exact aopsI_sound hR hN hX hD hQ l ρ σ w _ _ (hst.put hD (Ext.refl _ _ _) hst.sim (.val undef) hd hx) hr
      cases hg : o.guard with
      | none =>
        rw [hg] at h
        have hw : Region.wanted o (yielded ops a.tmps) = true := by unfold Region.wanted; rw [hg]
        rw [if_pos hw]
        exact .inl (run h)
      | some p =>
        obtain ⟨j, want⟩ := p
        rw [hg] at h
        simp only at h
        cases hj : (ops[j]?).bind (·.dst) with
        | none => rw [hj] at h; exact h.elim
        | some d =>
          rw [hj] at h
          simp only at h
          have hv := hst.frel d
          unfold gK guardK at h
          split at h
          · rename_i b hb
            rw [hb] at hv
            have hy := yielded_bool hj hv
            rw [wanted_some hg hy]
            by_cases hbw : b = want
            · simp only [hbw, decide_true, if_true]; exact .inl (run (h.1 hbw))
            · simp only [hbw, decide_false, Bool.false_eq_true, if_false]; exact skip (h.2 hbw)
          · rename_i vs hb
            rw [hb] at hv
            rw [wanted_none hg (yielded_tuple hj hv)]
            simp only [Bool.false_eq_true, if_false]
            exact skip h
          · exact h.elim

end Go.Abs
