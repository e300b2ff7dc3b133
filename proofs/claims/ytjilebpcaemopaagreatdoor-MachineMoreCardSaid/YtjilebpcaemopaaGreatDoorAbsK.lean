import Derived.Test.YtjilebpcaemopaaGreatDoorAbsJ
import Derived.Laws.Externs
import Derived.Recover
namespace Go.Abs
open Go

/-! ### Control -/
structure AK where
  n : AFrame → AHeap → Prop
  ex : Nat → AFrame → AHeap → Prop
  ret : AFrame → AHeap → Prop
  pa : AV → AHeap → Prop

def condK (x : AV) (A B : Prop) : Prop :=
  match x with
  | .val (.bool b) => (b = true → A) ∧ (b = false → B)
  | _ => False

def loopW (body : AFrame → AHeap → (AFrame → AHeap → Prop) → Prop) (fr : AFrame) (σ : AHeap) : Prop :=
  ∃ (I : AFrame → AHeap → Prop) (μ : AFrame → AHeap → Nat), I fr σ ∧ ∀ fr σ, I fr σ → body fr σ fun fr' σ' => I fr' σ' ∧ μ fr' σ' < μ fr σ

/-- Where several ways meet. -/
def seqW (B : AFrame → AHeap → Prop) (A : (AFrame → AHeap → Prop) → Prop) : Prop :=
  ∃ J : AFrame → AHeap → Prop, (∀ fr σ, J fr σ → B fr σ) ∧ A J

/-- The first region's number and one, or none. -/
def regOf : Code → Nat
  | .region id _ _ => id + 1
  | .seq a b => match regOf a with | 0 => regOf b | n => n
  | .cond _ a b => match regOf a with | 0 => regOf b | n => n
  | .block _ a => regOf a
  | .loop a => regOf a
  | .scope a => regOf a
  | _ => 0

def firstReg : Code → Nat
  | .region id _ _ => id
  | .seq a _ => firstReg a
  | .cond _ a _ => firstReg a
  | .block _ a => firstReg a
  | .loop a => firstReg a
  | .scope a => firstReg a
  | _ => 0

/-- The orders that are told for a region, each with what is read again. -/
def ordersOf (keep : Nat → List Nat) (id : Nat) : List ((Nat → List Nat) × List Nat) :=
  (fun i => keep (100000 + 1000 * id + i), keep (2000 + id)) :: (keep (60000 + id)).map fun q => (fun i => keep (10000000 * q + 1000 * id + i), keep (10000000 * q + 9000000 + id))
def aopsO (P : Program) (ops : Array Oper) : List ((Nat → List Nat) × List Nat) → AFrame → AHeap → (AFrame → AHeap → Prop) → (AV → AHeap → Prop) → Prop
  | [], _, _, _, _ => True
  | [o], fr, σ, k, kp => aopsD P ops o.1 o.2 fr σ k kp
  | o :: os, fr, σ, k, kp => aopsD P ops o.1 o.2 fr σ k kp ∧ aopsO P ops os fr σ k kp
theorem aopsO_all {P ops fr σ k kp} : ∀ (os : List ((Nat → List Nat) × List Nat)), aopsO P ops os fr σ k kp → ∀ o ∈ os, aopsD P ops o.1 o.2 fr σ k kp
  | [], _, o, ho => by simp at ho
  | [o], h, o', ho => by simp at ho; subst ho; exact h
  | o :: o2 :: os, h, o', ho => by
    rcases List.mem_cons.1 ho with rfl | ho
    · exact h.1
    · exact aopsO_all (o2 :: os) h.2 o' ho

/-- How a region in order is run: rows in place may be rows that nobody will write. -/
def runOf (P : Program) (keep : Nat → List Nat) (id : Nat) : Run := match keep (4000 + id) with
  | [] => runOp P
  | _ => runQ P
theorem runOf_ok (P : Program) (keep : Nat → List Nat) (id : Nat) : RunOk P (runOf P keep id) := by
  unfold runOf
  split
  · exact runOp_ok P
  · exact runQ_ok P

def aw (P : Program) (keep : Nat → List Nat) : Code → AK → AFrame → AHeap → Prop
  | .skip, k, fr, σ => k.n fr σ
  | .region id ops false, k, fr, σ => aopsI (runOf P keep id) ops (List.range ops.size) fr σ (fun fr σ => k.n (prune (keep id) fr) σ) k.pa
  | .region id ops true, k, fr, σ => aopsO P ops (ordersOf keep id) fr σ (fun fr σ => k.n (prune (keep id) fr) σ) k.pa
  | .seq a b, k, fr, σ => match keep (3000 + regOf b) with
    | [] => aw P keep a { k with n := fun fr σ => aw P keep b k fr σ } fr σ
    | l => seqW (fun fr σ => aw P keep b k fr σ) (fun j => aw P keep a { k with n := fun fr σ => j (prune l fr) σ } fr σ)
  | .cond c a b, k, fr, σ => condK (ev fr c) (aw P keep a k fr σ) (aw P keep b k fr σ)
  | .block id c, k, fr, σ => aw P keep c { k with ex := fun m fr σ => if m = id then k.n fr σ else k.ex m fr σ } fr σ
  | .exit id, k, fr, σ => k.ex id fr σ
  | .ret, k, fr, σ => k.ret fr σ
  | .loop c, k, fr, σ => loopW (fun fr σ again => aw P keep c { k with n := fun fr σ => again (prune (keep (1000 + firstReg c)) fr) σ } fr σ) (prune (keep (1000 + firstReg c)) fr) σ
  | .scope c, k, fr, σ => aw P keep c k fr σ
  | _, _, _, _ => False

def codeOk (keep : Nat → List Nat) (N : Nat) : Code → Bool
  | .region _ ops false => dstsOk N ops && fixOk (keep 777777) ops
  | .region id ops true => (dstsOk N ops && fixOk (keep 777777) ops) && drawOk ops (ordersOf keep id)
  | .seq a b => codeOk keep N a && codeOk keep N b
  | .cond _ a b => codeOk keep N a && codeOk keep N b
  | .block _ c => codeOk keep N c
  | .loop c => codeOk keep N c
  | .scope c => codeOk keep N c
  | _ => true

def QOf (D : Act → Prop) (ρ₀ : Nat → Option (Option Nat × Nat)) (σ₀ : AHeap) (w₀ : World) (N : Nat) (k : AK) (e : Exit) (a : Act) (w : World) : Prop :=
  ∃ ρ σ fr, St D ρ₀ σ₀ w₀ N ρ σ w fr a ∧ match e with
    | .normal => k.n fr σ
    | .exit id => k.ex id fr σ
    | .ret => k.ret fr σ
    | .panic chain => ∃ x v, chain = [{ v, recovered := false }] ∧ VRel (ctx ρ σ w) x v ∧ k.pa x σ
    | _ => False

theorem Ends_of {D ρ₀ σ₀ w₀ N} {k : AK} {n : AFrame → AHeap → Prop} (keep : List Nat) (hn : ∀ fr σ, n fr σ ↔ k.n (prune keep fr) σ) : Ends D ρ₀ σ₀ w₀ N n k.pa (QOf D ρ₀ σ₀ w₀ N k) :=
  ⟨fun ρ σ _ fr _ hst h => ⟨ρ, σ, prune keep fr, ⟨hst.ext, hst.sim, hst.frel.prune keep, hst.size, hst.defers⟩, (hn fr σ).1 h⟩,
   fun ρ σ _ fr _ x v hst hv h => ⟨ρ, σ, fr, hst, x, v, rfl, hv, h⟩⟩

theorem QOf.base {D ρ₀ σ₀ w₀ N ρ σ w fr a} (h : St D ρ₀ σ₀ w₀ N ρ σ w fr a) {k e a' w'} (hq : QOf D ρ σ w N k e a' w') : QOf D ρ₀ σ₀ w₀ N k e a' w' := by
  obtain ⟨ρ', σ', fr', hst, hk⟩ := hq
  exact ⟨ρ', σ', fr', ⟨h.ext.trans hst.ext, hst.sim, hst.frel, hst.size, hst.defers⟩, hk⟩

/-- A loop, by a measure on what stands behind the state. -/
theorem wp_loop_idx {P : Program} {Q : Exit → Act → World → Prop} {ι : Type} (I : ι → Act → World → Prop) (μ : ι → Nat) {c : Code}
    (round : ∀ i a w, I i a w → c.wp P (Exit.then (fun a' w' => ∃ j, I j a' w' ∧ μ j < μ i) Q) a w) {i a w} (h₀ : I i a w) : (Code.loop c).wp P Q a w := by
  intro b k cs
  have key : ∀ n i a w, μ i = n → I i a w →
      ∃ e a' w', Q e a' w' ∧ Arrives P (lone (b.at a (.code c :: .inLoop c :: k)) cs w) b k cs e a' w' := by
    intro n
    induction n using Nat.strongRecOn with
    | _ n ih =>
      intro i a w hn hI
      obtain ⟨e, a₁, w₁, hq, harr⟩ := round i a w hI b (.inLoop c :: k) cs
      cases e with
      | normal =>
        obtain ⟨j, hI₁, hlt⟩ := hq
        obtain ⟨e₂, a₂, w₂, hq₂, harr₂⟩ := ih (μ j) (hn ▸ hlt) j a₁ w₁ rfl hI₁
        exact ⟨e₂, a₂, w₂, hq₂, .of_steps (Steps.trans harr (.one step_inLoop)) harr₂⟩
      | exit id => exact ⟨_, a₁, w₁, hq, .pass (x := .inLoop c) rfl (fun _ _ => .inl (by simp)) harr⟩
      | goto l => exact ⟨_, a₁, w₁, hq, .pass (x := .inLoop c) rfl (fun _ _ => .inl (by simp)) harr⟩
      | ret => exact ⟨_, a₁, w₁, hq, .pass (x := .inLoop c) rfl (fun _ _ => .inl (by simp)) harr⟩
      | panic ch => exact ⟨_, a₁, w₁, hq, .pass (x := .inLoop c) rfl (fun _ _ => .inl (by simp)) harr⟩
      | outgrown => exact ⟨_, a₁, w₁, hq, .pass (x := .inLoop c) rfl (fun _ _ => .inl (by simp)) harr⟩
  obtain ⟨e, a', w', hq, harr⟩ := key _ i a w rfl h₀
  exact ⟨e, a', w', hq, .of_steps (.one step_loop) harr⟩

theorem and_l {a b : Bool} (h : (a && b) = true) : a = true := (Bool.and_eq_true_iff.1 h).1
theorem and_r {a b : Bool} (h : (a && b) = true) : b = true := (Bool.and_eq_true_iff.1 h).2
theorem aw_sound {P : Program} (hmix : P.follows .mixedOrders = true) {keep : Nat → List Nat} {N : Nat} {D : Act → Prop} (hD : DOk (keep 777777) D) : ∀ (c : Code), codeOk keep N c = true → ∀ (k : AK) (ρ₀ σ₀ w₀ ρ) (σ : AHeap) (w : World) (fr : AFrame) (a : Act),
    St D ρ₀ σ₀ w₀ N ρ σ w fr a → aw P keep c k fr σ → c.wp P (QOf D ρ₀ σ₀ w₀ N k) a w
  | .skip, _, k, ρ₀, σ₀, w₀, ρ, σ, w, fr, a, hst, h => wp_skip ⟨ρ, σ, fr, hst, h⟩
  | .region id ops false, hc, k, ρ₀, σ₀, w₀, ρ, σ, w, fr, a, hst, h => wp_region (aopsI_sound (runOf_ok P keep id) (and_l hc) (and_r hc) hD (Ends_of (keep id) fun _ _ => Iff.rfl) _ ρ σ w fr a hst h)
  | .region id ops true, hc, k, ρ₀, σ₀, w₀, ρ, σ, w, fr, a, hst, h => by
    refine wp_region_draw fun t => ?_
    rw [hmix]
    have hdr := hst.sim.drawn (w.drawn + 1) (Nat.le_succ _)
    simp only [codeOk, Bool.and_eq_true] at hc
    simp only [aw] at h
    exact draw_sound hc.1.1 hc.1.2 hD hc.2 t (Ends_of (keep id) fun _ _ => Iff.rfl) (fun fr fr' τ hl hk => by show k.n (prune (keep id) fr') τ; rw [← prune_congr (keep id) hl]; exact hk) ⟨hst.ext.trans hdr.2, hdr.1, hst.frel.mono hdr.2.le, hst.size, hst.defers⟩ (aopsO_all _ h)
  | .seq x y, hc, k, ρ₀, σ₀, w₀, ρ, σ, w, fr, a, hst, h => by
    simp only [codeOk, Bool.and_eq_true] at hc
    unfold aw at h
    split at h
    · refine wp_seq (wp_mono (aw_sound hmix hD x hc.1 _ ρ₀ σ₀ w₀ ρ σ w fr a hst h) ?_)
      rintro e a' w' ⟨ρ', σ', fr', hst', hk⟩
      cases e with
      | normal => exact aw_sound hmix hD y hc.2 k ρ₀ σ₀ w₀ ρ' σ' w' fr' a' hst' hk
      | exit id => exact ⟨ρ', σ', fr', hst', hk⟩
      | goto l => exact hk.elim
      | ret => exact ⟨ρ', σ', fr', hst', hk⟩
      | panic ch => exact ⟨ρ', σ', fr', hst', hk⟩
      | outgrown => exact hk.elim
    · obtain ⟨J, hJ, hA⟩ := h
      refine wp_seq (wp_mono (aw_sound hmix hD x hc.1 _ ρ₀ σ₀ w₀ ρ σ w fr a hst hA) ?_)
      rintro e a' w' ⟨ρ', σ', fr', hst', hk⟩
      cases e with
      | normal => exact aw_sound hmix hD y hc.2 k ρ₀ σ₀ w₀ ρ' σ' w' _ a' ⟨hst'.ext, hst'.sim, hst'.frel.prune _, hst'.size, hst'.defers⟩ (hJ _ _ hk)
      | exit id => exact ⟨ρ', σ', fr', hst', hk⟩
      | goto l => exact hk.elim
      | ret => exact ⟨ρ', σ', fr', hst', hk⟩
      | panic ch => exact ⟨ρ', σ', fr', hst', hk⟩
      | outgrown => exact hk.elim
  | .cond c x y, hc, k, ρ₀, σ₀, w₀, ρ, σ, w, fr, a, hst, h => by
    simp only [codeOk, Bool.and_eq_true] at hc
    simp only [aw, condK] at h
    split at h
    · rename_i b hb
      have hv := hst.frel.eval c
      rw [hb] at hv
      exact wp_cond_split hv.val_inv (fun e => aw_sound hmix hD x hc.1 k ρ₀ σ₀ w₀ ρ σ w fr a hst (h.1 e)) (fun e => aw_sound hmix hD y hc.2 k ρ₀ σ₀ w₀ ρ σ w fr a hst (h.2 e))
    · exact h.elim
  | .block id c, hc, k, ρ₀, σ₀, w₀, ρ, σ, w, fr, a, hst, h => by
    refine wp_block (wp_mono (aw_sound hmix hD c hc _ ρ₀ σ₀ w₀ ρ σ w fr a hst h) ?_)
    rintro e a' w' ⟨ρ', σ', fr', hst', hk⟩
    cases e with
    | normal => exact ⟨ρ', σ', fr', hst', hk⟩
    | exit m =>
      simp only at hk
      simp only [Exit.inBlock]
      split at hk
      · rename_i e; rw [if_pos e]; exact ⟨ρ', σ', fr', hst', hk⟩
      · rename_i e; rw [if_neg e]; exact ⟨ρ', σ', fr', hst', hk⟩
    | goto l => exact hk.elim
    | ret => exact ⟨ρ', σ', fr', hst', hk⟩
    | panic ch => exact ⟨ρ', σ', fr', hst', hk⟩
    | outgrown => exact hk.elim
  | .exit id, _, k, ρ₀, σ₀, w₀, ρ, σ, w, fr, a, hst, h => wp_exit ⟨ρ, σ, fr, hst, h⟩
  | .ret, _, k, ρ₀, σ₀, w₀, ρ, σ, w, fr, a, hst, h => wp_ret ⟨ρ, σ, fr, hst, h⟩
  | .loop c, hc, k, ρ₀, σ₀, w₀, ρ, σ, w, fr, a, hst, h => by
    obtain ⟨I, μ, h0, hround⟩ := h
    refine wp_loop_idx (ι := AFrame × AHeap) (fun p a w => ∃ ρ, St D ρ₀ σ₀ w₀ N ρ p.2 w p.1 a ∧ I p.1 p.2) (fun p => μ p.1 p.2) ?_ (i := (prune (keep (1000 + firstReg c)) fr, σ)) ⟨ρ, ⟨hst.ext, hst.sim, hst.frel.prune _, hst.size, hst.defers⟩, h0⟩
    rintro ⟨fr, σ⟩ a w ⟨ρ, hst, hI⟩
    refine wp_mono (aw_sound hmix hD c hc _ ρ₀ σ₀ w₀ ρ σ w fr a hst (hround fr σ hI)) ?_
    rintro e a' w' ⟨ρ', σ', fr', hst', hk⟩
    cases e with
    | normal => exact ⟨(prune (keep (1000 + firstReg c)) fr', σ'), ⟨ρ', ⟨hst'.ext, hst'.sim, hst'.frel.prune _, hst'.size, hst'.defers⟩, hk.1⟩, hk.2⟩
    | exit id => exact ⟨ρ', σ', fr', hst', hk⟩
    | goto l => exact hk.elim
    | ret => exact ⟨ρ', σ', fr', hst', hk⟩
    | panic ch => exact ⟨ρ', σ', fr', hst', hk⟩
    | outgrown => exact hk.elim
  | .scope c, hc, k, ρ₀, σ₀, w₀, ρ, σ, w, fr, a, hst, h => by
    refine wp_scope_straight (wp_mono (aw_sound hmix hD c hc k ρ₀ σ₀ w₀ ρ σ w fr a hst h) ?_)
    rintro e a' w' ⟨ρ', σ', fr', hst', hk⟩
    cases e with
    | normal => exact ⟨ρ', σ', fr', hst', hk⟩
    | exit id => exact ⟨ρ', σ', fr', hst', hk⟩
    | goto l => exact hk.elim
    | ret => exact ⟨ρ', σ', fr', hst', hk⟩
    | panic ch => exact ⟨ρ', σ', fr', hst', hk⟩
    | outgrown => exact hk.elim
  | .rangeFunc .., _, _, _, _, _, _, _, _, _, _, _, h => h.elim
  | .label _, _, _, _, _, _, _, _, _, _, _, _, h => h.elim
  | .goto _, _, _, _, _, _, _, _, _, _, _, _, h => h.elim
  | .refuse _, _, _, _, _, _, _, _, _, _, _, _, h => h.elim

end Go.Abs
namespace Go.Abs
open Go

def frameOf : Nat → List AV → AFrame
  | _, [] => []
  | i, x :: r => (i, x) :: frameOf (i + 1) r

theorem look_frameOf : ∀ (xs : List AV) (i k : Nat), look (frameOf i xs) k = if i ≤ k then (xs[k - i]?).getD .any else .any
  | [], i, k => by simp [frameOf, look]
  | x :: r, i, k => by
    rw [frameOf, look_cons, look_frameOf r (i + 1) k]
    by_cases h : k = i
    · subst h; simp
    · rw [if_neg h]
      by_cases h2 : i ≤ k
      · rw [if_pos (by omega), if_pos h2, show k - i = (k - (i + 1)) + 1 by omega, List.getElem?_cons_succ]
      · rw [if_neg (by omega), if_neg h2]

def resVals (P : Program) (fr : AFrame) (σ : AHeap) : List ResultVar → Option (List AV)
  | [] => some []
  | .tmp t :: r => (resVals P fr σ r).map (look fr t :: ·)
  | .cell a t :: r => match tinfo P t with
    | some (g, n) => match aLoad g n (look fr a) σ, resVals P fr σ r with
      | some x, some l => some (x :: l)
      | _, _ => none
    | none => none

def stepV (r : Option AV) (k : AV → Prop) : Prop :=
  match r with
  | some x => k x
  | none => False

def resC (P : Program) (fr : AFrame) (σ : AHeap) : List ResultVar → (List AV → Prop) → Prop
  | [], K => K []
  | .tmp t :: r, K => resC P fr σ r fun l => K (look fr t :: l)
  | .cell a t :: r, K => match tinfo P t with
    | some (g, n) => stepV (aLoad g n (look fr a) σ) fun x => resC P fr σ r fun l => K (x :: l)
    | none => False

theorem resC_spec {P fr σ} : ∀ (rs : List ResultVar) (K : List AV → Prop), resC P fr σ rs K → ∃ l, resVals P fr σ rs = some l ∧ K l
  | [], K, h => ⟨[], rfl, h⟩
  | .tmp t :: r, K, h => by
    obtain ⟨l, h1, h2⟩ := resC_spec r _ h
    exact ⟨_, by simp [resVals, h1], h2⟩
  | .cell a t :: r, K, h => by
    simp only [resC] at h
    split at h
    · rename_i g n ht
      unfold stepV at h
      split at h
      · rename_i x hx
        obtain ⟨l, h1, h2⟩ := resC_spec r _ h
        exact ⟨_, by simp [resVals, ht, hx, h1], h2⟩
      · exact h.elim
    · exact h.elim

def oneOrTup (l : List AV) (σ : AHeap) (k : AV → AHeap → Prop) : Prop :=
  match l with
  | [x] => k x σ
  | xs => k (.tup xs) σ

def resK (vs : Option (List AV)) (σ : AHeap) (k : AV → AHeap → Prop) : Prop :=
  match vs with
  | some [x] => k x σ
  | some xs => k (.tup xs) σ
  | none => False

def retK (P : Program) (rs : List ResultVar) (k kp : AV → AHeap → Prop) : AK :=
  { n := fun fr σ => resC P fr σ rs fun l => oneOrTup l σ k, ex := fun _ _ _ => False, ret := fun fr σ => resC P fr σ rs fun l => oneOrTup l σ k, pa := kp }

theorem run_resVal {P : Program} {ρ σ w} (hs : Sim ρ σ w) {t g n} (ht : tinfo P t = some (g, n)) {x y : AV} (hy : aLoad g n x σ = some y) {v : Value} (hv : VRel (ctx ρ σ w) x v) :
    ∃ u, (do loadVar t (← asAddr v) : Sem Value).run P w = .ok u w ∧ VRel (ctx ρ σ w) y u := by
  obtain ⟨u, hu, hr⟩ := sLoad hs ht hv hy
  refine ⟨u, ?_, hr⟩
  unfold aLoad at hy
  split at hy
  · cases hv with
    | ptr hp => simpa [Instr.loadAt, Instr.sureAddr, asAddr] using hu
  · cases hv with
    | ref f hi hc hr => simpa [Instr.loadAt, Instr.sureAddr, asAddr] using hu
  · cases hy

def resSem (tmps : Array Value) : ResultVar → Sem Value
  | .tmp t => pure (tmps.getD t undef)
  | .cell a t => do loadVar t (← asAddr (tmps.getD a undef))

theorem run_resVals {P : Program} {ρ σ w} (hs : Sim ρ σ w) {fr} {a : Act} (hf : FRel (ctx ρ σ w) fr a.tmps) : ∀ (rs : List ResultVar) (l : List AV), resVals P fr σ rs = some l →
    ∃ us : List Value, (rs.mapM (resSem a.tmps)).run P w = .ok us w ∧ us.length = l.length ∧ ∀ (i : Nat) x v, l[i]? = some x → us[i]? = some v → VRel (ctx ρ σ w) x v
  | [], l, h => by simp only [resVals, Option.some.injEq] at h; subst h; exact ⟨[], by simp, rfl, by simp⟩
  | .tmp t :: r, l, h => by
    simp only [resVals] at h
    obtain ⟨l', hl', rfl⟩ := Option.map_eq_some_iff.1 h
    obtain ⟨us, h1, h2, h3⟩ := run_resVals hs hf r l' hl'
    refine ⟨a.tmps.getD t undef :: us, by simp [List.mapM_cons, resSem, h1], by simp [h2], fun i x v hx hv => ?_⟩
    cases i with
    | zero => simp only [List.getElem?_cons_zero, Option.some.injEq] at hx hv; subst hx; subst hv; exact hf t
    | succ i => exact h3 i x v (by simpa using hx) (by simpa using hv)
  | .cell p t :: r, l, h => by
    simp only [resVals] at h
    split at h
    · rename_i g n ht
      split at h
      · rename_i x l' hx' hl'
        cases h
        obtain ⟨us, h1, h2, h3⟩ := run_resVals hs hf r l' hl'
        obtain ⟨u, hu, hr⟩ := run_resVal hs ht hx' (hf p)
        refine ⟨u :: us, ?_, by simp [h2], fun i x v hx hv => ?_⟩
        · have hu' : (resSem a.tmps (.cell p t)).run P w = .ok u w := hu
          simp only [List.mapM_cons, Sem.run_bind, hu', h1, Result.andThen_ok, Sem.run_pure]
        · cases i with
          | zero => simp at hx hv; subst hx; subst hv; exact hr
          | succ i => exact h3 i x v (by simpa using hx) (by simpa using hv)
      · cases h
    · cases h

theorem run_results {P : Program} {ρ σ w} (hs : Sim ρ σ w) {fr} {a : Act} (hf : FRel (ctx ρ σ w) fr a.tmps) {fn : Func} {k : AV → AHeap → Prop} (h0 : resC P fr σ fn.results.toList fun l => oneOrTup l σ k) :
    ∃ v x, (results fn a.tmps).run P w = .ok v w ∧ VRel (ctx ρ σ w) x v ∧ k x σ := by
  have h : resK (resVals P fr σ fn.results.toList) σ k := by
    obtain ⟨l, h1, h2⟩ := resC_spec _ _ h0
    rw [h1]
    unfold oneOrTup at h2
    unfold resK
    split at h2 <;> simp_all
  cases hv : resVals P fr σ fn.results.toList with
  | none => rw [hv] at h; exact h.elim
  | some l =>
    rw [hv] at h
    obtain ⟨us, h1, h2, h3⟩ := run_resVals hs hf _ _ hv
    have hrun : (fn.results.mapM (resSem a.tmps)).run P w = .ok us.toArray w := by
      rw [Array.mapM_eq_mapM_toList]
      simp only [Sem.run_map, h1, Result.andThen_ok]
    have hres : results fn a.tmps = (do let vs ← fn.results.mapM (resSem a.tmps); pure (if h : vs.size = 1 then vs[0] else .tuple vs)) := by
      unfold results
      congr 1
    clear hv
    match l, us, h2, h, h3, hrun with
    | [x], [u], _, h, h3, hrun => exact ⟨u, x, by rw [hres]; simp [hrun], h3 0 x u rfl rfl, h⟩
    | [], [], _, h, h3, hrun => exact ⟨.tuple #[], .tup [], by rw [hres]; simp [hrun], .tup rfl (by simp), h⟩
    | x :: y :: l, u :: v :: us, hlen, h, h3, hrun =>
      refine ⟨.tuple (u :: v :: us).toArray, .tup (x :: y :: l), by rw [hres]; simp [hrun], .tup (by simpa using hlen.symm) (fun i x v hx hv => h3 i x v hx (by simpa using hv)), h⟩

def keepOf : List (Nat × List Nat) → Nat → List Nat
  | [], _ => []
  | (j, x) :: r, i => bif Nat.beq i j then x else keepOf r i

/-- A CONTRACT OUT OF A BODY. -/
theorem Ev_of_aw {P : Program} (hmix : P.follows .mixedOrders = true) {f : FuncId} {fn : Func} {body : Code} (hf : P.funcs[f]? = some fn) (hb : fn.body = some body) (hname : (fn.name == "runtime.NumGoroutine") = false)
    {args : List AV} (hargs : args.length ≤ fn.ntmps) (keep : Nat → List Nat) (hok : codeOk keep fn.ntmps body = true) {σ : AHeap} {k kp : AV → AHeap → Prop}
    (h : aw P keep body (retK P fn.results.toList k kp) (frameOf 0 args) σ) : Ev P f args σ k kp := by
  refine fun ρ w vs hs hrel => .inl ⟨⟨fn, hf, by rw [hb]; rfl, hname⟩, ?_⟩
  refine calls_of_wp hf hb ?_
  have hst : St (fun a => a.defers = []) ρ σ w fn.ntmps ρ σ w (frameOf 0 args) { tmps := vs ++ Array.replicate (fn.ntmps - vs.size) undef, defers := [] } := by
    refine ⟨Ext.refl _ _ _, hs, fun q => ?_, by simp; have := hrel.1; omega, rfl⟩
    rw [look_frameOf]
    simp only [Nat.zero_le, if_true, Nat.sub_zero]
    cases hx : args[q]? with
    | none => exact .any _
    | some x =>
      have hq : q < vs.size := by rw [← hrel.1]; exact (List.getElem?_eq_some_iff.1 hx).1
      simp only [Option.getD_some]
      rw [Array.getD_eq_getD_getElem?, Array.getElem?_append_left hq, Array.getElem?_eq_getElem hq]
      exact hrel.2 q x _ hx (Array.getElem?_eq_getElem hq)
  refine wp_mono (aw_sound hmix (DOk.plain _) body hok _ ρ σ w ρ σ w _ _ hst h) ?_
  rintro e a' w' ⟨ρ', σ', fr', hst', hk⟩
  cases e with
  | normal =>
    obtain ⟨v, x, h1, h2, h3⟩ := run_results hst'.sim hst'.frel hk
    exact ⟨hst'.defers, v, h1, ρ', σ', hst'.ext, hst'.sim, x, h3, h2⟩
  | ret =>
    obtain ⟨v, x, h1, h2, h3⟩ := run_results hst'.sim hst'.frel hk
    exact ⟨hst'.defers, v, h1, ρ', σ', hst'.ext, hst'.sim, x, h3, h2⟩
  | exit id => exact hk.elim
  | goto l => exact hk.elim
  | panic chain =>
    obtain ⟨x, v, hc, hv, hp⟩ := hk
    exact ⟨hst'.defers, ρ', σ', hst'.ext, hst'.sim, x, v, hc, hp, hv⟩
  | outgrown => exact hk.elim

/-- A function that the model itself answers, and that changes nothing. -/
theorem Ev.ext {P : Program} {f : FuncId} {fn : Func} {e : Array Value → Sem Value} (hf : P.funcs[f]? = some fn) (hname : (fn.name == "runtime.NumGoroutine") = false) (hb : fn.body.isNone = true) (hn : Extern.findNext fn = none) (he : Extern.find fn = some e)
    {args : List AV} {σ : AHeap} {k kp : AV → AHeap → Prop} (h : ∀ (c : Ctx) w vs, ArgsRel c args vs → ∃ v x, (e vs).run P w = .ok v w ∧ k x σ ∧ VRel c x v) : Ev P f args σ k kp := by
  intro ρ w vs hs ha
  obtain ⟨v, x, h1, h2, h3⟩ := h _ w vs ha
  exact .inr ⟨v, w, by rw [run_callFunc_extern hf hname hb hn he, h1]; rfl, ρ, σ, Ext.refl _ _ _, hs, x, h2, h3⟩

end Go.Abs
set_option linter.unusedVariables false
set_option linter.unusedSimpArgs false
namespace Go.Abs
open Go

/-- What a function's own closure, run last, leaves: its variable x, what is recovered y. -/
def closeK (P : Program) (keepg : Nat → List Nat) (restg : Code) (r : Nat) (g : Bool) (n : Nat) (k : AV → AHeap → Prop) (x y : AV) (σ : AHeap) : Prop :=
  aw P keepg restg { n := fun _ σ => ∃ z, aLoad g n x σ = some z ∧ k z σ, ex := fun _ _ _ => False, ret := fun _ σ => ∃ z, aLoad g n x σ = some z ∧ k z σ, pa := fun _ _ => False } (put (frameOf 0 [x]) (some r) y) σ

section
variable {P : Program} (hmix : P.follows .mixedOrders = true) {g : FuncId} {gn : Func} {idg : Nat} {restg : Code} {r : Nat} {tyr : TypeId} {posr : String} {afr : Array Edge}
  (hg : P.funcs[g]? = some gn) (hgb : gn.body = some (.seq (.region idg #[{ dst := some r, op := .call { callee := .builtin .recover, args := #[], argTypes := #[] }, type := tyr, pos := posr, after := afr, guard := none }] false) restg))
  (hgr : gn.results = #[]) (hgn : 1 ≤ gn.ntmps) (hrl : r < gn.ntmps) (keepg : Nat → List Nat) (hgok : codeOk keepg gn.ntmps restg = true)
include hmix hg hgb hgr hgn hrl hgok
theorem close_calls {ρ σ w} (hs : Sim ρ σ w) {x y : AV} {vx vy : Value} (hx : VRel (ctx ρ σ w) x vx) (hy : VRel (ctx ρ σ w) y vy) {gg : Bool} {n : Nat} {k : AV → AHeap → Prop} (u : FrameMode) (u' : FrameMode)
    (hu : ∀ (c₀ : Frame) (cs : List Frame), c₀.mode = u → (match recoverD (c₀ :: cs) with | some (v, cs') => v = vy ∧ cs' = { c₀ with mode := u' } :: cs | none => vy = .nilIface ∧ u' = u))
    (h : closeK P keepg restg r gg n k x y σ) : CallsD P g #[vx] u w fun e v w' => ∃ ρ' σ', Ext ρ σ w ρ' σ' w' ∧ Sim ρ' σ' w' ∧ v = u' ∧ (∃ q, e = .returned q) ∧ ∃ z, aLoad gg n x σ' = some z ∧ k z σ' := by
  refine callsD_of_wpS hg hgb fun c₀ cs hc => ?_
  refine wpS_seq (wpS_region ?_)
  have h0 := hu c₀ cs hc
  have fin : ∀ (cs' : List Frame), cs' = { c₀ with mode := u' } :: cs → restg.wpS P (bodyPostS P gn c₀ cs fun e v w' => ∃ ρ' σ', Ext ρ σ w ρ' σ' w' ∧ Sim ρ' σ' w' ∧ v = u' ∧ (∃ q, e = .returned q) ∧ ∃ z, aLoad gg n x σ' = some z ∧ k z σ') (({ tmps := #[vx] ++ Array.replicate (gn.ntmps - 1) undef, defers := [] } : Act).put (some r) vy) cs' w := by
    intro cs' hcs
    refine wpS_of_wp ?_
    have hst : St (fun a => a.defers = []) ρ σ w gn.ntmps ρ σ w (put (frameOf 0 [x]) (some r) y) (({ tmps := #[vx] ++ Array.replicate (gn.ntmps - 1) undef, defers := [] } : Act).put (some r) vy) := by
      refine ⟨Ext.refl _ _ _, hs, ?_, ?_, by rw [put_defers]⟩
      · refine FRel.put (a := { tmps := #[vx] ++ Array.replicate (gn.ntmps - 1) undef, defers := [] }) ?_ hy ?_
        · intro q
          rw [look_frameOf]
          simp only [Nat.zero_le, if_true, Nat.sub_zero]
          cases q with
          | zero =>
            have : (#[vx] ++ Array.replicate (gn.ntmps - 1) undef).getD 0 undef = vx := by simp [Array.getD_eq_getD_getElem?, Array.getElem?_append]
            show VRel _ x ((#[vx] ++ Array.replicate (gn.ntmps - 1) undef).getD 0 undef)
            rw [this]; exact hx
          | succ q => exact .any _
        · intro k hk
          cases hk
          simp; omega
      · rw [put_size]; simp; omega
    refine wp_mono (aw_sound hmix (DOk.plain _) restg hgok _ ρ σ w ρ σ w _ _ hst h) ?_
    rintro e a' w' ⟨ρ', σ', fr', hst', hk⟩
    have hres : ∀ tm : Array Value, ∃ v, (results gn tm).run P w' = .ok v w' := fun tm => ⟨.tuple #[], by simp [results, hgr]⟩
    cases e with
    | normal => exact ⟨hst'.defers, u', hcs, (hres _).choose, (hres _).choose_spec, ρ', σ', hst'.ext, hst'.sim, rfl, ⟨_, rfl⟩, hk⟩
    | ret => exact ⟨hst'.defers, u', hcs, (hres _).choose, (hres _).choose_spec, ρ', σ', hst'.ext, hst'.sim, rfl, ⟨_, rfl⟩, hk⟩
    | exit id => exact hk.elim
    | goto l => exact hk.elim
    | panic ch => obtain ⟨_, _, _, _, hk⟩ := hk; exact hk.elim
    | outgrown => exact hk.elim
  have hrun : ∀ (a : Act) (o : Oper), o.op = .call { callee := .builtin .recover, args := #[], argTypes := #[] } → (execOp a.eval o).run P w = .ok .recover w := by
    intro a o ho
    simp [execOp, ho, resolve, invoke, builtin]
  show wpOpsS P _ _ [0] _ _ _
  unfold wpOpsS
  have e0 : (#[({ dst := some r, op := .call { callee := .builtin .recover, args := #[], argTypes := #[] }, type := tyr, pos := posr, after := afr, guard := none } : Oper)] : Array Oper)[0]? = some { dst := some r, op := .call { callee := .builtin .recover, args := #[], argTypes := #[] }, type := tyr, pos := posr, after := afr, guard := none } := rfl
  rw [e0]
  simp only
  rw [if_pos (by rfl), hrun _ _ rfl]
  simp only
  cases hrec : recoverD (c₀ :: cs) with
  | some p =>
    obtain ⟨v, cs'⟩ := p
    rw [hrec] at h0
    obtain ⟨rfl, hcs⟩ := h0
    exact fin cs' hcs
  | none =>
    rw [hrec] at h0
    obtain ⟨rfl, rfl⟩ := h0
    exact fin (c₀ :: cs) (by rw [← hc])

/-- A FUNCTION THAT DEFERS A CLOSURE THAT RECOVERS: its result stands in a variable that the closure may write. -/
theorem Ev_of_awR {f : FuncId} {fn : Func} {c0 rest : Code} {id1 d e : Nat} {t1 t2 te : TypeId} {p1 p2 : String} {a1 a2 : Array Edge}
    (hf : P.funcs[f]? = some fn) (hname : (fn.name == "runtime.NumGoroutine") = false) (hgname : (gn.name == "runtime.NumGoroutine") = false)
    (hb : fn.body = some (.seq c0 (.seq (.region id1 #[{ dst := some d, op := .makeFunc (.func g) #[] #[.tmp e], type := t1, pos := p1, after := a1, guard := none }, { dst := none, op := .defer { callee := .value (.tmp d), args := #[], argTypes := #[] }, type := t2, pos := p2, after := a2, guard := none }] false) rest)))
    (hres : fn.results = #[.cell e te]) {gg : Bool} {n : Nat} (hte : tinfo P te = some (gg, n)) (hd : d < fn.ntmps) (hde : d ≠ e) {args : List AV} (hargs : args.length ≤ fn.ntmps) (keep keep0 : Nat → List Nat)
    (hok0 : codeOk keep0 fn.ntmps c0 = true) (hok : codeOk keep fn.ntmps rest = true) (hfix : e ∈ keep 777777) {σ : AHeap} {k kp : AV → AHeap → Prop}
    (h : aw P keep0 c0 { n := fun fr σ => aw P keep rest { n := fun _ _ => False, ex := fun _ _ _ => False, ret := fun _ σ => closeK P keepg restg r gg n k (look fr e) (.val .nilIface) σ, pa := fun y σ => closeK P keepg restg r gg n k (look fr e) y σ } (put fr (some d) .any) σ, ex := fun _ _ _ => False, ret := fun _ _ => False, pa := fun _ _ => False } (frameOf 0 args) σ) : Ev P f args σ k kp := by
  refine fun ρ w vs hs hrel => .inl ⟨⟨fn, hf, by rw [hb]; rfl, hname⟩, ?_⟩
  refine calls_of_wp_defers hf hb ?_
  have hst : St (fun a => a.defers = []) ρ σ w fn.ntmps ρ σ w (frameOf 0 args) { tmps := vs ++ Array.replicate (fn.ntmps - vs.size) undef, defers := [] } := by
    refine ⟨Ext.refl _ _ _, hs, fun q => ?_, by simp; have := hrel.1; omega, rfl⟩
    rw [look_frameOf]
    simp only [Nat.zero_le, if_true, Nat.sub_zero]
    cases hx : args[q]? with
    | none => exact .any _
    | some x =>
      have hq : q < vs.size := by rw [← hrel.1]; exact (List.getElem?_eq_some_iff.1 hx).1
      simp only [Option.getD_some]
      rw [Array.getD_eq_getD_getElem?, Array.getElem?_append_left hq, Array.getElem?_eq_getElem hq]
      exact hrel.2 q x _ hx (Array.getElem?_eq_getElem hq)
  refine wp_seq (wp_mono (aw_sound hmix (DOk.plain _) c0 hok0 _ ρ σ w ρ σ w _ _ hst h) ?_)
  rintro ex a' w' ⟨ρ', σ', fr, hst', hk⟩
  cases ex with
  | exit id => exact hk.elim
  | goto l => exact hk.elim
  | ret => exact hk.elim
  | panic ch => obtain ⟨_, _, _, _, hk⟩ := hk; exact hk.elim
  | outgrown => exact hk.elim
  | normal =>
    have hdef : a'.defers = [] := hst'.defers
    let ve := a'.tmps.getD e undef
    have hve : VRel (ctx ρ' σ' w') (look fr e) ve := hst'.frel e
    let dd : Deferred := { target := .fn (.func g) #[ve], args := #[] }
    let a2' : Act := { tmps := (a'.put (some d) (.func (.func g) #[] #[ve])).tmps, defers := [dd] }
    have hDok : DOk (keep 777777) (fun a => a.defers = [dd] ∧ a.tmps.getD e undef = ve) := by
      refine ⟨fun a d' v hn hD => ⟨by rw [put_defers]; exact hD.1, ?_⟩⟩
      cases d' with
      | none => exact hD.2
      | some d' =>
        have : d' ≠ e := fun h => hn d' rfl (by rw [h]; exact hfix)
        show (a.tmps.setIfInBounds d' v).getD e undef = ve
        rw [Array.getD_eq_getD_getElem?, Array.getElem?_setIfInBounds_ne this, ← Array.getD_eq_getD_getElem?]
        exact hD.2
    have hst2 : St (fun a => a.defers = [dd] ∧ a.tmps.getD e undef = ve) ρ' σ' w' fn.ntmps ρ' σ' w' (put fr (some d) .any) a2' := by
      refine ⟨Ext.refl _ _ _, hst'.sim, ?_, ?_, rfl, ?_⟩
      · exact FRel.put (a := a') hst'.frel (.any _) (fun k hk => by cases hk; rw [hst'.size]; exact hd)
      · show (a'.put (some d) _).tmps.size = _; rw [put_size, hst'.size]
      · show (a'.tmps.setIfInBounds d _).getD e undef = ve
        rw [Array.getD_eq_getD_getElem?, Array.getElem?_setIfInBounds_ne hde, ← Array.getD_eq_getD_getElem?]
    have last : ∀ (u u' : FrameMode) (ρ3 : Nat → Option (Option Nat × Nat)) (σ3 : AHeap) (w3 : World) (a3 : Act) (y : AV) (vy : Value), u ≠ .run → settle u' = .returning → Ext ρ' σ' w' ρ3 σ3 w3 → Sim ρ3 σ3 w3 → VRel (ctx ρ3 σ3 w3) y vy → a3.defers = [dd] → a3.tmps.getD e undef = ve →
        (∀ (c₀ : Frame) (cs : List Frame), c₀.mode = u → (match recoverD (c₀ :: cs) with | some (v, cs') => v = vy ∧ cs' = { c₀ with mode := u' } :: cs | none => vy = .nilIface ∧ u' = u)) →
        closeK P keepg restg r gg n k (look fr e) y σ3 → Leaves P fn a3.tmps (EvPost ρ σ w k kp) a3.defers u w3 := by
      intro u u' ρ3 σ3 w3 a3 y vy hrun hset hext hsim hy hd3 he3 hu hk3
      rw [hd3]
      refine leaves_cons hrun ?_ ((close_calls hmix hg hgb hgr hgn hrl keepg hgok hsim (hve.mono hext.le) hy u u' hu hk3).mono ?_)
      · have hn2 : ¬ gn.name = "runtime.NumGoroutine" := by simpa using hgname
        simp [invoke, callFunc, hg, hn2, hgb, dd]
      · rintro ed u4 w4 ⟨ρ4, σ4, hext4, hsim4, rfl, ⟨q, rfl⟩, z, hz, hkz⟩
        simp only
        rw [hset]
        have hfr : FRel (ctx ρ4 σ4 w4) [(e, look fr e)] a3.tmps := by
          intro j
          rw [look_cons]
          by_cases hj : j = e
          · rw [if_pos hj, hj, he3]; exact (hve.mono hext.le).mono hext4.le
          · rw [if_neg hj]; exact .any _
        obtain ⟨v, x, h1, h2, h3⟩ := run_results (P := P) (fn := fn) (a := { tmps := a3.tmps, defers := [] }) (k := k) hsim4 hfr (by
          rw [hres]
          show resC P _ σ4 [.cell e te] _
          simp only [resC, hte]
          rw [show look [(e, look fr e)] e = look fr e by simp [look_cons], hz]
          exact hkz)
        exact ⟨v, h1, ρ4, σ4, (hst'.ext.trans hext).trans hext4, hsim4, x, h3, h2⟩
    have hgoal : rest.wp P (bodyPostD P fn (EvPost ρ σ w k kp)) a2' w' := by
      refine wp_mono (aw_sound hmix hDok rest hok _ ρ' σ' w' ρ' σ' w' _ _ hst2 hk) ?_
      rintro ex a3 w3 ⟨ρ3, σ3, fr3, hst3, hk3⟩
      obtain ⟨hd3, he3⟩ := hst3.defers
      cases ex with
      | normal => exact hk3.elim
      | exit id => exact hk3.elim
      | goto l => exact hk3.elim
      | outgrown => exact hk3.elim
      | ret =>
        refine last .returning .returning ρ3 σ3 w3 a3 (.val .nilIface) .nilIface (by simp) rfl hst3.ext hst3.sim (.val _) hd3 he3 ?_ hk3
        intro c₀ cs hc
        simp [recoverD, hc]
      | panic chain =>
        obtain ⟨y, v, rfl, hv, hk3⟩ := hk3
        refine last (.panicking [{ v, recovered := false }]) (.panicking [{ v, recovered := true }]) ρ3 σ3 w3 a3 y v (by simp) rfl hst3.ext hst3.sim hv hd3 he3 ?_ hk3
        intro c₀ cs hc
        simp [recoverD, hc]
    refine wp_seq (wp_region ?_)
    show wpOps P _ _ [0, 1] _ _
    unfold wpOps
    have e0 : ∀ o1 o2 : Oper, (#[o1, o2] : Array Oper)[0]? = some o1 := fun _ _ => rfl
    have e1 : ∀ o1 o2 : Oper, (#[o1, o2] : Array Oper)[1]? = some o2 := fun _ _ => rfl
    rw [e0]
    simp only
    rw [if_pos (by rfl)]
    refine .inl ?_
    unfold Oper.wp
    have hm : ∀ o : Oper, o.op = .makeFunc (.func g) #[] #[.tmp e] → (execOp a'.eval o).run P w' = .ok (.value (.func (.func g) #[] #[ve])) w' := by
      intro o ho
      simp [execOp, ho, Instr.makeFunc, ve, Act.eval]
    rw [hm _ rfl, Oper.upon_value]
    unfold wpOps
    rw [e1]
    simp only
    rw [if_pos (by rfl)]
    refine .inl ?_
    unfold Oper.wp
    have hm2 : ∀ (a : Act) (o : Oper), a.eval (.tmp d) = .func (.func g) #[] #[ve] → o.op = .defer { callee := .value (.tmp d), args := #[], argTypes := #[] } → (execOp a.eval o).run P w' = .ok (.defer dd) w' := by
      intro a o hev ho
      simp [execOp, ho, resolve, hev, Deferred.ofValue, dd]
    rw [hm2 _ _ ?_ rfl, Oper.upon_defer]
    · unfold wpOps
      show Exit.then _ _ .normal _ _
      have : ({ (a'.put (some d) (.func (.func g) #[] #[ve])) with defers := dd :: (a'.put (some d) (.func (.func g) #[] #[ve])).defers } : Act).put none undef = a2' := by
        show ({ tmps := _, defers := dd :: a'.defers } : Act) = _
        rw [hdef]
      rw [this]
      exact hgoal
    · show (a'.tmps.setIfInBounds d _).getD d undef = _
      simp [Array.getD_eq_getD_getElem?, hst'.size, hd]
end
end Go.Abs
set_option linter.unusedVariables false
set_option linter.unusedSimpArgs false
namespace Go.Abs
open Go

def isRecover (r : Nat) : Code → Bool
  | .region _ ops false => match ops.toList with
    | [⟨some r', .call ⟨.builtin .recover, args, ts⟩, _, _, _, none⟩] => r' == r && args.size == 0 && ts.size == 0
    | _ => false
  | _ => false
theorem isRecover_spec {r : Nat} {c : Code} (h : isRecover r c = true) : ∃ id ty pos af, c = .region id #[{ dst := some r, op := .call { callee := .builtin .recover, args := #[], argTypes := #[] }, type := ty, pos := pos, after := af, guard := none }] false := by
  unfold isRecover at h
  split at h
  · rename_i id ops
    split at h
    · rename_i r' args ts ty pos af hl
      simp only [Bool.and_eq_true, beq_iff_eq] at h
      obtain ⟨⟨rfl, h2⟩, h3⟩ := h
      obtain rfl := Array.eq_empty_of_size_eq_zero h2
      obtain rfl := Array.eq_empty_of_size_eq_zero h3
      obtain rfl := arr_of_list hl
      exact ⟨id, ty, pos, af, rfl⟩
    · cases h
  · cases h
def isDefer (g e d : Nat) : Code → Bool
  | .region _ ops false => match ops.toList with
    | [⟨some d', .makeFunc (.func g') fs cap, _, _, _, none⟩, ⟨none, .defer ⟨.value (.tmp d''), args, ts⟩, _, _, _, none⟩] => match cap.toList with
      | [.tmp e'] => d' == d && g' == g && fs.size == 0 && e' == e && d'' == d && args.size == 0 && ts.size == 0
      | _ => false
    | _ => false
  | _ => false
theorem isDefer_spec {g e d : Nat} {c : Code} (h : isDefer g e d c = true) : ∃ id t1 p1 a1 t2 p2 a2, c = .region id #[{ dst := some d, op := .makeFunc (.func g) #[] #[.tmp e], type := t1, pos := p1, after := a1, guard := none }, { dst := none, op := .defer { callee := .value (.tmp d), args := #[], argTypes := #[] }, type := t2, pos := p2, after := a2, guard := none }] false := by
  unfold isDefer at h
  split at h
  · rename_i id ops
    split at h
    · rename_i d' g' fs cap t1 p1 a1 d'' args ts t2 p2 a2 hl
      split at h
      · rename_i e' hc
        simp only [Bool.and_eq_true, beq_iff_eq] at h
        obtain ⟨⟨⟨⟨⟨⟨rfl, rfl⟩, h2⟩, rfl⟩, rfl⟩, h3⟩, h4⟩ := h
        obtain rfl := Array.eq_empty_of_size_eq_zero h2
        obtain rfl := Array.eq_empty_of_size_eq_zero h3
        obtain rfl := Array.eq_empty_of_size_eq_zero h4
        obtain rfl := arr_of_list hc
        obtain rfl := arr_of_list hl
        exact ⟨id, t1, p1, a1, t2, p2, a2, rfl⟩
      · cases h
    · cases h
  · cases h
def isCell (e : Nat) (te : TypeId) (rs : Array ResultVar) : Bool :=
  match rs.toList with
  | [.cell e' t'] => e' == e && t' == te
  | _ => false
theorem isCell_spec {e te rs} (h : isCell e te rs = true) : rs = #[.cell e te] := by
  unfold isCell at h
  split at h
  · rename_i e' t' hl
    simp only [Bool.and_eq_true, beq_iff_eq] at h
    obtain ⟨rfl, rfl⟩ := h
    exact arr_of_list hl
  · cases h
theorem Ev_of_awR2 {P : Program} (hmix : P.follows .mixedOrders = true) {g : FuncId} {gn : Func} {cr restg : Code} {r : Nat}
  (hg : P.funcs[g]? = some gn) (hgb : gn.body = some (.seq cr restg)) (hcr : isRecover r cr = true)
  (hgr : gn.results.size = 0) (hgn : 1 ≤ gn.ntmps) (hrl : r < gn.ntmps) (keepg : Nat → List Nat) (hgok : codeOk keepg gn.ntmps restg = true)
  {f : FuncId} {fn : Func} {c0 cd rest : Code} {d e : Nat} {te : TypeId}
    (hf : P.funcs[f]? = some fn) (hname : (fn.name == "runtime.NumGoroutine") = false) (hgname : (gn.name == "runtime.NumGoroutine") = false)
    (hb : fn.body = some (.seq c0 (.seq cd rest))) (hcd : isDefer g e d cd = true)
    (hres : isCell e te fn.results = true) {gg : Bool} {n : Nat} (hte : tinfo P te = some (gg, n)) (hd : d < fn.ntmps) (hde : d ≠ e) {args : List AV} (hargs : args.length ≤ fn.ntmps) (keep keep0 : Nat → List Nat)
    (hok0 : codeOk keep0 fn.ntmps c0 = true) (hok : codeOk keep fn.ntmps rest = true) (hfix : e ∈ keep 777777) {σ : AHeap} {k kp : AV → AHeap → Prop}
    (h : aw P keep0 c0 { n := fun fr σ => aw P keep rest { n := fun _ _ => False, ex := fun _ _ _ => False, ret := fun _ σ => closeK P keepg restg r gg n k (look fr e) (.val .nilIface) σ, pa := fun y σ => closeK P keepg restg r gg n k (look fr e) y σ } (put fr (some d) .any) σ, ex := fun _ _ _ => False, ret := fun _ _ => False, pa := fun _ _ => False } (frameOf 0 args) σ) : Ev P f args σ k kp := by
  obtain ⟨id, ty, pos, af, rfl⟩ := isRecover_spec hcr
  obtain ⟨id1, t1, p1, a1, t2, p2, a2, rfl⟩ := isDefer_spec hcd
  exact Ev_of_awR hmix hg hgb (Array.eq_empty_of_size_eq_zero hgr) hgn hrl keepg hgok hf hname hgname hb (isCell_spec hres) hte hd hde hargs keep keep0 hok0 hok hfix h
end Go.Abs
