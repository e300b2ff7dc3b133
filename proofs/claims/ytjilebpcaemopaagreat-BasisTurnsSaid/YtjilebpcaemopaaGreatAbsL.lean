/-
  Functions: a contract of a function out of the weakest precondition of its body.
-/
import Derived.Test.YtjilebpcaemopaaGreatAbsK
import Derived.Laws.Externs
namespace Go.Abs
open Go

def frameOf : Nat → List AV → AFrame
  | _, [] => []
  | i, x :: r => (i, x) :: frameOf (i + 1) r

theorem look_frameOf : ∀ (xs : List AV) (i k : Nat), look (frameOf i xs) k = if i ≤ k then (xs[k - i]?).getD .any else .any
  | [], i, k => by simp [frameOf, look]
  | x :: r, i, k => by
    rw [frameOf, look_cons, look_frameOf r (i + 1) k]
    by_cases h : k = i
    · subst h; simp
    · rw [if_neg h]
      by_cases h2 : i ≤ k
      · rw [if_pos (by omega), if_pos h2, show k - i = (k - (i + 1)) + 1 by omega, List.getElem?_cons_succ]
      · rw [if_neg (by omega), if_neg h2]

def resVals (P : Program) (fr : AFrame) (σ : AHeap) : List ResultVar → Option (List AV)
  | [] => some []
  | .tmp t :: r => (resVals P fr σ r).map (look fr t :: ·)
  | .cell a t :: r => match tinfo P t with
    | some (g, n) => match aLoad g n (look fr a) σ, resVals P fr σ r with
      | some x, some l => some (x :: l)
      | _, _ => none
    | none => none

def stepV (r : Option AV) (k : AV → Prop) : Prop :=
  match r with
  | some x => k x
  | none => False

def resC (P : Program) (fr : AFrame) (σ : AHeap) : List ResultVar → (List AV → Prop) → Prop
  | [], K => K []
  | .tmp t :: r, K => resC P fr σ r fun l => K (look fr t :: l)
  | .cell a t :: r, K => match tinfo P t with
    | some (g, n) => stepV (aLoad g n (look fr a) σ) fun x => resC P fr σ r fun l => K (x :: l)
    | none => False

theorem resC_spec {P fr σ} : ∀ (rs : List ResultVar) (K : List AV → Prop), resC P fr σ rs K → ∃ l, resVals P fr σ rs = some l ∧ K l
  | [], K, h => ⟨[], rfl, h⟩
  | .tmp t :: r, K, h => by
    obtain ⟨l, h1, h2⟩ := resC_spec r _ h
    exact ⟨_, by simp [resVals, h1], h2⟩
  | .cell a t :: r, K, h => by
    simp only [resC] at h
    split at h
    · rename_i g n ht
      unfold stepV at h
      split at h
      · rename_i x hx
        obtain ⟨l, h1, h2⟩ := resC_spec r _ h
        exact ⟨_, by simp [resVals, ht, hx, h1], h2⟩
      · exact h.elim
    · exact h.elim

def oneOrTup (l : List AV) (σ : AHeap) (k : AV → AHeap → Prop) : Prop :=
  match l with
  | [x] => k x σ
  | xs => k (.tup xs) σ

def resK (vs : Option (List AV)) (σ : AHeap) (k : AV → AHeap → Prop) : Prop :=
  match vs with
  | some [x] => k x σ
  | some xs => k (.tup xs) σ
  | none => False

def retK (P : Program) (rs : List ResultVar) (k kp : AV → AHeap → Prop) : AK :=
  { n := fun fr σ => resC P fr σ rs fun l => oneOrTup l σ k, ex := fun _ _ _ => False, ret := fun fr σ => resC P fr σ rs fun l => oneOrTup l σ k, pa := kp }

theorem run_resVal {P : Program} {ρ σ w} (hs : Sim ρ σ w) {t g n} (ht : tinfo P t = some (g, n)) {x y : AV} (hy : aLoad g n x σ = some y) {v : Value} (hv : VRel (ctx ρ σ w) x v) :
    ∃ u, (do loadVar t (← asAddr v) : Sem Value).run P w = .ok u w ∧ VRel (ctx ρ σ w) y u := by
  obtain ⟨u, hu, hr⟩ := sLoad hs ht hv hy
  refine ⟨u, ?_, hr⟩
  unfold aLoad at hy
  split at hy
  · cases hv with
    | ptr hp => simpa [Instr.loadAt, Instr.sureAddr, asAddr] using hu
  · cases hv with
    | ref f hi hc hr => simpa [Instr.loadAt, Instr.sureAddr, asAddr] using hu
  · cases hy

def resSem (tmps : Array Value) : ResultVar → Sem Value
  | .tmp t => pure (tmps.getD t undef)
  | .cell a t => do loadVar t (← asAddr (tmps.getD a undef))

theorem run_resVals {P : Program} {ρ σ w} (hs : Sim ρ σ w) {fr} {a : Act} (hf : FRel (ctx ρ σ w) fr a.tmps) : ∀ (rs : List ResultVar) (l : List AV), resVals P fr σ rs = some l →
    ∃ us : List Value, (rs.mapM (resSem a.tmps)).run P w = .ok us w ∧ us.length = l.length ∧ ∀ (i : Nat) x v, l[i]? = some x → us[i]? = some v → VRel (ctx ρ σ w) x v
  | [], l, h => by simp only [resVals, Option.some.injEq] at h; subst h; exact ⟨[], by simp, rfl, by simp⟩
  | .tmp t :: r, l, h => by
    simp only [resVals] at h
    obtain ⟨l', hl', rfl⟩ := Option.map_eq_some_iff.1 h
    obtain ⟨us, h1, h2, h3⟩ := run_resVals hs hf r l' hl'
    refine ⟨a.tmps.getD t undef :: us, by simp [List.mapM_cons, resSem, h1], by simp [h2], fun i x v hx hv => ?_⟩
    cases i with
    | zero => simp only [List.getElem?_cons_zero, Option.some.injEq] at hx hv; subst hx; subst hv; exact hf t
    | succ i => exact h3 i x v (by simpa using hx) (by simpa using hv)
  | .cell p t :: r, l, h => by
    simp only [resVals] at h
    split at h
    · rename_i g n ht
      split at h
      · rename_i x l' hx' hl'
        cases h
        obtain ⟨us, h1, h2, h3⟩ := run_resVals hs hf r l' hl'
        obtain ⟨u, hu, hr⟩ := run_resVal hs ht hx' (hf p)
        refine ⟨u :: us, ?_, by simp [h2], fun i x v hx hv => ?_⟩
        · have hu' : (resSem a.tmps (.cell p t)).run P w = .ok u w := hu
          simp only [List.mapM_cons, Sem.run_bind, hu', h1, Result.andThen_ok, Sem.run_pure]
        · cases i with
          | zero => simp at hx hv; subst hx; subst hv; exact hr
          | succ i => exact h3 i x v (by simpa using hx) (by simpa using hv)
      · cases h
    · cases h

theorem run_results {P : Program} {ρ σ w} (hs : Sim ρ σ w) {fr} {a : Act} (hf : FRel (ctx ρ σ w) fr a.tmps) {fn : Func} {k : AV → AHeap → Prop} (h0 : resC P fr σ fn.results.toList fun l => oneOrTup l σ k) :
    ∃ v x, (results fn a.tmps).run P w = .ok v w ∧ VRel (ctx ρ σ w) x v ∧ k x σ := by
  have h : resK (resVals P fr σ fn.results.toList) σ k := by
    obtain ⟨l, h1, h2⟩ := resC_spec _ _ h0
    rw [h1]
    unfold oneOrTup at h2
    unfold resK
    split at h2 <;> simp_all
  cases hv : resVals P fr σ fn.results.toList with
  | none => rw [hv] at h; exact h.elim
  | some l =>
    rw [hv] at h
    obtain ⟨us, h1, h2, h3⟩ := run_resVals hs hf _ _ hv
    have hrun : (fn.results.mapM (resSem a.tmps)).run P w = .ok us.toArray w := by
      rw [Array.mapM_eq_mapM_toList]
      simp only [Sem.run_map, h1, Result.andThen_ok]
    have hres : results fn a.tmps = (do let vs ← fn.results.mapM (resSem a.tmps); pure (if h : vs.size = 1 then vs[0] else .tuple vs)) := by
      unfold results
      congr 1
    clear hv
    match l, us, h2, h, h3, hrun with
    | [x], [u], _, h, h3, hrun => exact ⟨u, x, by rw [hres]; simp [hrun], h3 0 x u rfl rfl, h⟩
    | [], [], _, h, h3, hrun => exact ⟨.tuple #[], .tup [], by rw [hres]; simp [hrun], .tup rfl (by simp), h⟩
    | x :: y :: l, u :: v :: us, hlen, h, h3, hrun =>
      refine ⟨.tuple (u :: v :: us).toArray, .tup (x :: y :: l), by rw [hres]; simp [hrun], .tup (by simpa using hlen.symm) (fun i x v hx hv => h3 i x v hx (by simpa using hv)), h⟩

def keepOf : List (Nat × List Nat) → Nat → List Nat
  | [], _ => []
  | (j, x) :: r, i => bif Nat.beq i j then x else keepOf r i

/-- A CONTRACT OUT OF A BODY. -/
theorem Ev_of_aw {P : Program} (hmix : P.follows .mixedOrders = true) {f : FuncId} {fn : Func} {body : Code} (hf : P.funcs[f]? = some fn) (hb : fn.body = some body) (hname : (fn.name == "runtime.NumGoroutine") = false)
    {args : List AV} (hargs : args.length ≤ fn.ntmps) (keep : Nat → List Nat) (hok : codeOk keep fn.ntmps body = true) {σ : AHeap} {k kp : AV → AHeap → Prop}
    (h : aw P keep body (retK P fn.results.toList k kp) (frameOf 0 args) σ) : Ev P f args σ k kp := by
  refine fun ρ w vs hs hrel => .inl ⟨⟨fn, hf, by rw [hb]; rfl, hname⟩, ?_⟩
  refine calls_of_wp hf hb ?_
  have hst : St ρ σ w fn.ntmps ρ σ w (frameOf 0 args) { tmps := vs ++ Array.replicate (fn.ntmps - vs.size) undef, defers := [] } := by
    refine ⟨Ext.refl _ _ _, hs, fun q => ?_, by simp; have := hrel.1; omega, rfl⟩
    rw [look_frameOf]
    simp only [Nat.zero_le, if_true, Nat.sub_zero]
    cases hx : args[q]? with
    | none => exact .any _
    | some x =>
      have hq : q < vs.size := by rw [← hrel.1]; exact (List.getElem?_eq_some_iff.1 hx).1
      simp only [Option.getD_some]
      rw [Array.getD_eq_getD_getElem?, Array.getElem?_append_left hq, Array.getElem?_eq_getElem hq]
      exact hrel.2 q x _ hx (Array.getElem?_eq_getElem hq)
  refine wp_mono (aw_sound hmix body hok _ ρ σ w ρ σ w _ _ hst h) ?_
  rintro e a' w' ⟨ρ', σ', fr', hst', hk⟩
  cases e with
  | normal =>
    obtain ⟨v, x, h1, h2, h3⟩ := run_results hst'.sim hst'.frel hk
    exact ⟨hst'.defers, v, h1, ρ', σ', hst'.ext, hst'.sim, x, h3, h2⟩
  | ret =>
    obtain ⟨v, x, h1, h2, h3⟩ := run_results hst'.sim hst'.frel hk
    exact ⟨hst'.defers, v, h1, ρ', σ', hst'.ext, hst'.sim, x, h3, h2⟩
  | exit id => exact hk.elim
  | goto l => exact hk.elim
  | panic chain =>
    obtain ⟨x, v, hc, hv, hp⟩ := hk
    exact ⟨hst'.defers, ρ', σ', hst'.ext, hst'.sim, x, v, hc, hp, hv⟩
  | outgrown => exact hk.elim

/-- A function that the model itself answers, and that changes nothing. -/
theorem Ev.ext {P : Program} {f : FuncId} {fn : Func} {e : Array Value → Sem Value} (hf : P.funcs[f]? = some fn) (hname : (fn.name == "runtime.NumGoroutine") = false) (hb : fn.body.isNone = true) (hn : Extern.findNext fn = none) (he : Extern.find fn = some e)
    {args : List AV} {σ : AHeap} {k kp : AV → AHeap → Prop} (h : ∀ (c : Ctx) w vs, ArgsRel c args vs → ∃ v x, (e vs).run P w = .ok v w ∧ k x σ ∧ VRel c x v) : Ev P f args σ k kp := by
  intro ρ w vs hs ha
  obtain ⟨v, x, h1, h2, h3⟩ := h _ w vs ha
  exact .inr ⟨v, w, by rw [run_callFunc_extern hf hname hb hn he, h1]; rfl, ρ, σ, Ext.refl _ _ _, hs, x, h2, h3⟩

end Go.Abs
