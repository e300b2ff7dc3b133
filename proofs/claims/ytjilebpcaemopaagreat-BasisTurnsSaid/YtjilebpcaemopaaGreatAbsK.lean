/-
  Control: the weakest precondition on abstract states, and its soundness.
-/
import Derived.Test.YtjilebpcaemopaaGreatAbsJ
namespace Go.Abs
open Go

/-! ### Control -/
structure AK where
  n : AFrame → AHeap → Prop
  ex : Nat → AFrame → AHeap → Prop
  ret : AFrame → AHeap → Prop
  pa : AV → AHeap → Prop

def condK (x : AV) (A B : Prop) : Prop :=
  match x with
  | .val (.bool b) => (b = true → A) ∧ (b = false → B)
  | _ => False

def loopW (body : AFrame → AHeap → (AFrame → AHeap → Prop) → Prop) (fr : AFrame) (σ : AHeap) : Prop :=
  ∃ (I : AFrame → AHeap → Prop) (μ : AFrame → AHeap → Nat), I fr σ ∧ ∀ fr σ, I fr σ → body fr σ fun fr' σ' => I fr' σ' ∧ μ fr' σ' < μ fr σ

/-- Where several ways meet. -/
def seqW (B : AFrame → AHeap → Prop) (A : (AFrame → AHeap → Prop) → Prop) : Prop :=
  ∃ J : AFrame → AHeap → Prop, (∀ fr σ, J fr σ → B fr σ) ∧ A J

/-- The first region's number and one, or none. -/
def regOf : Code → Nat
  | .region id _ _ => id + 1
  | .seq a b => match regOf a with | 0 => regOf b | n => n
  | .cond _ a b => match regOf a with | 0 => regOf b | n => n
  | .block _ a => regOf a
  | .loop a => regOf a
  | .scope a => regOf a
  | _ => 0

def firstReg : Code → Nat
  | .region id _ _ => id
  | .seq a _ => firstReg a
  | .cond _ a _ => firstReg a
  | .block _ a => firstReg a
  | .loop a => firstReg a
  | .scope a => firstReg a
  | _ => 0

/-- The orders that are told for a region, each with what is read again. -/
def ordersOf (keep : Nat → List Nat) (id : Nat) : List ((Nat → List Nat) × List Nat) :=
  (fun i => keep (100000 + 1000 * id + i), keep (2000 + id)) :: (keep (60000 + id)).map fun q => (fun i => keep (10000000 * q + 1000 * id + i), keep (10000000 * q + 9000000 + id))
def aopsO (P : Program) (ops : Array Oper) : List ((Nat → List Nat) × List Nat) → AFrame → AHeap → (AFrame → AHeap → Prop) → (AV → AHeap → Prop) → Prop
  | [], _, _, _, _ => True
  | [o], fr, σ, k, kp => aopsD P ops o.1 o.2 fr σ k kp
  | o :: os, fr, σ, k, kp => aopsD P ops o.1 o.2 fr σ k kp ∧ aopsO P ops os fr σ k kp
theorem aopsO_all {P ops fr σ k kp} : ∀ (os : List ((Nat → List Nat) × List Nat)), aopsO P ops os fr σ k kp → ∀ o ∈ os, aopsD P ops o.1 o.2 fr σ k kp
  | [], _, o, ho => by simp at ho
  | [o], h, o', ho => by simp at ho; subst ho; exact h
  | o :: o2 :: os, h, o', ho => by
    rcases List.mem_cons.1 ho with rfl | ho
    · exact h.1
    · exact aopsO_all (o2 :: os) h.2 o' ho

/-- How a region in order is run: rows in place may be rows that nobody will write. -/
def runOf (P : Program) (keep : Nat → List Nat) (id : Nat) : Run := match keep (4000 + id) with
  | [] => runOp P
  | _ => runQ P
theorem runOf_ok (P : Program) (keep : Nat → List Nat) (id : Nat) : RunOk P (runOf P keep id) := by
  unfold runOf
  split
  · exact runOp_ok P
  · exact runQ_ok P

def aw (P : Program) (keep : Nat → List Nat) : Code → AK → AFrame → AHeap → Prop
  | .skip, k, fr, σ => k.n fr σ
  | .region id ops false, k, fr, σ => aopsI (runOf P keep id) ops (List.range ops.size) fr σ (fun fr σ => k.n (prune (keep id) fr) σ) k.pa
  | .region id ops true, k, fr, σ => aopsO P ops (ordersOf keep id) fr σ (fun fr σ => k.n (prune (keep id) fr) σ) k.pa
  | .seq a b, k, fr, σ => match keep (3000 + regOf b) with
    | [] => aw P keep a { k with n := fun fr σ => aw P keep b k fr σ } fr σ
    | l => seqW (fun fr σ => aw P keep b k fr σ) (fun j => aw P keep a { k with n := fun fr σ => j (prune l fr) σ } fr σ)
  | .cond c a b, k, fr, σ => condK (ev fr c) (aw P keep a k fr σ) (aw P keep b k fr σ)
  | .block id c, k, fr, σ => aw P keep c { k with ex := fun m fr σ => if m = id then k.n fr σ else k.ex m fr σ } fr σ
  | .exit id, k, fr, σ => k.ex id fr σ
  | .ret, k, fr, σ => k.ret fr σ
  | .loop c, k, fr, σ => loopW (fun fr σ again => aw P keep c { k with n := fun fr σ => again (prune (keep (1000 + firstReg c)) fr) σ } fr σ) (prune (keep (1000 + firstReg c)) fr) σ
  | .scope c, k, fr, σ => aw P keep c k fr σ
  | _, _, _, _ => False

def codeOk (keep : Nat → List Nat) (N : Nat) : Code → Bool
  | .region _ ops false => dstsOk N ops
  | .region id ops true => dstsOk N ops && drawOk ops (ordersOf keep id)
  | .seq a b => codeOk keep N a && codeOk keep N b
  | .cond _ a b => codeOk keep N a && codeOk keep N b
  | .block _ c => codeOk keep N c
  | .loop c => codeOk keep N c
  | .scope c => codeOk keep N c
  | _ => true

def QOf (ρ₀ : Nat → Option (Option Nat × Nat)) (σ₀ : AHeap) (w₀ : World) (N : Nat) (k : AK) (e : Exit) (a : Act) (w : World) : Prop :=
  ∃ ρ σ fr, St ρ₀ σ₀ w₀ N ρ σ w fr a ∧ match e with
    | .normal => k.n fr σ
    | .exit id => k.ex id fr σ
    | .ret => k.ret fr σ
    | .panic chain => ∃ x v, chain = [{ v, recovered := false }] ∧ VRel (ctx ρ σ w) x v ∧ k.pa x σ
    | _ => False

theorem Ends_of {ρ₀ σ₀ w₀ N} {k : AK} {n : AFrame → AHeap → Prop} (keep : List Nat) (hn : ∀ fr σ, n fr σ ↔ k.n (prune keep fr) σ) : Ends ρ₀ σ₀ w₀ N n k.pa (QOf ρ₀ σ₀ w₀ N k) :=
  ⟨fun ρ σ _ fr _ hst h => ⟨ρ, σ, prune keep fr, ⟨hst.ext, hst.sim, hst.frel.prune keep, hst.size, hst.defers⟩, (hn fr σ).1 h⟩,
   fun ρ σ _ fr _ x v hst hv h => ⟨ρ, σ, fr, hst, x, v, rfl, hv, h⟩⟩

theorem QOf.base {ρ₀ σ₀ w₀ N ρ σ w fr a} (h : St ρ₀ σ₀ w₀ N ρ σ w fr a) {k e a' w'} (hq : QOf ρ σ w N k e a' w') : QOf ρ₀ σ₀ w₀ N k e a' w' := by
  obtain ⟨ρ', σ', fr', hst, hk⟩ := hq
  exact ⟨ρ', σ', fr', ⟨h.ext.trans hst.ext, hst.sim, hst.frel, hst.size, hst.defers⟩, hk⟩

/-- A loop, by a measure on what stands behind the state. -/
theorem wp_loop_idx {P : Program} {Q : Exit → Act → World → Prop} {ι : Type} (I : ι → Act → World → Prop) (μ : ι → Nat) {c : Code}
    (round : ∀ i a w, I i a w → c.wp P (Exit.then (fun a' w' => ∃ j, I j a' w' ∧ μ j < μ i) Q) a w) {i a w} (h₀ : I i a w) : (Code.loop c).wp P Q a w := by
  intro b k cs
  have key : ∀ n i a w, μ i = n → I i a w →
      ∃ e a' w', Q e a' w' ∧ Arrives P (lone (b.at a (.code c :: .inLoop c :: k)) cs w) b k cs e a' w' := by
    intro n
    induction n using Nat.strongRecOn with
    | _ n ih =>
      intro i a w hn hI
      obtain ⟨e, a₁, w₁, hq, harr⟩ := round i a w hI b (.inLoop c :: k) cs
      cases e with
      | normal =>
        obtain ⟨j, hI₁, hlt⟩ := hq
        obtain ⟨e₂, a₂, w₂, hq₂, harr₂⟩ := ih (μ j) (hn ▸ hlt) j a₁ w₁ rfl hI₁
        exact ⟨e₂, a₂, w₂, hq₂, .of_steps (Steps.trans harr (.one step_inLoop)) harr₂⟩
      | exit id => exact ⟨_, a₁, w₁, hq, .pass (x := .inLoop c) rfl (fun _ _ => .inl (by simp)) harr⟩
      | goto l => exact ⟨_, a₁, w₁, hq, .pass (x := .inLoop c) rfl (fun _ _ => .inl (by simp)) harr⟩
      | ret => exact ⟨_, a₁, w₁, hq, .pass (x := .inLoop c) rfl (fun _ _ => .inl (by simp)) harr⟩
      | panic ch => exact ⟨_, a₁, w₁, hq, .pass (x := .inLoop c) rfl (fun _ _ => .inl (by simp)) harr⟩
      | outgrown => exact ⟨_, a₁, w₁, hq, .pass (x := .inLoop c) rfl (fun _ _ => .inl (by simp)) harr⟩
  obtain ⟨e, a', w', hq, harr⟩ := key _ i a w rfl h₀
  exact ⟨e, a', w', hq, .of_steps (.one step_loop) harr⟩

theorem aw_sound {P : Program} (hmix : P.follows .mixedOrders = true) {keep : Nat → List Nat} {N : Nat} : ∀ (c : Code), codeOk keep N c = true → ∀ (k : AK) (ρ₀ σ₀ w₀ ρ) (σ : AHeap) (w : World) (fr : AFrame) (a : Act),
    St ρ₀ σ₀ w₀ N ρ σ w fr a → aw P keep c k fr σ → c.wp P (QOf ρ₀ σ₀ w₀ N k) a w
  | .skip, _, k, ρ₀, σ₀, w₀, ρ, σ, w, fr, a, hst, h => wp_skip ⟨ρ, σ, fr, hst, h⟩
  | .region id ops false, hc, k, ρ₀, σ₀, w₀, ρ, σ, w, fr, a, hst, h => wp_region (aopsI_sound (runOf_ok P keep id) hc (Ends_of (keep id) fun _ _ => Iff.rfl) _ ρ σ w fr a hst h)
  | .region id ops true, hc, k, ρ₀, σ₀, w₀, ρ, σ, w, fr, a, hst, h => by
    refine wp_region_draw fun t => ?_
    rw [hmix]
    have hdr := hst.sim.drawn (w.drawn + 1) (Nat.le_succ _)
    simp only [codeOk, Bool.and_eq_true] at hc
    simp only [aw] at h
    exact draw_sound hc.1 hc.2 t (Ends_of (keep id) fun _ _ => Iff.rfl) (fun fr fr' τ hl hk => by show k.n (prune (keep id) fr') τ; rw [← prune_congr (keep id) hl]; exact hk) ⟨hst.ext.trans hdr.2, hdr.1, hst.frel.mono hdr.2.le, hst.size, hst.defers⟩ (aopsO_all _ h)
  | .seq x y, hc, k, ρ₀, σ₀, w₀, ρ, σ, w, fr, a, hst, h => by
    simp only [codeOk, Bool.and_eq_true] at hc
    unfold aw at h
    split at h
    · refine wp_seq (wp_mono (aw_sound hmix x hc.1 _ ρ₀ σ₀ w₀ ρ σ w fr a hst h) ?_)
      rintro e a' w' ⟨ρ', σ', fr', hst', hk⟩
      cases e with
      | normal => exact aw_sound hmix y hc.2 k ρ₀ σ₀ w₀ ρ' σ' w' fr' a' hst' hk
      | exit id => exact ⟨ρ', σ', fr', hst', hk⟩
      | goto l => exact hk.elim
      | ret => exact ⟨ρ', σ', fr', hst', hk⟩
      | panic ch => exact ⟨ρ', σ', fr', hst', hk⟩
      | outgrown => exact hk.elim
    · obtain ⟨J, hJ, hA⟩ := h
      refine wp_seq (wp_mono (aw_sound hmix x hc.1 _ ρ₀ σ₀ w₀ ρ σ w fr a hst hA) ?_)
      rintro e a' w' ⟨ρ', σ', fr', hst', hk⟩
      cases e with
      | normal => exact aw_sound hmix y hc.2 k ρ₀ σ₀ w₀ ρ' σ' w' _ a' ⟨hst'.ext, hst'.sim, hst'.frel.prune _, hst'.size, hst'.defers⟩ (hJ _ _ hk)
      | exit id => exact ⟨ρ', σ', fr', hst', hk⟩
      | goto l => exact hk.elim
      | ret => exact ⟨ρ', σ', fr', hst', hk⟩
      | panic ch => exact ⟨ρ', σ', fr', hst', hk⟩
      | outgrown => exact hk.elim
  | .cond c x y, hc, k, ρ₀, σ₀, w₀, ρ, σ, w, fr, a, hst, h => by
    simp only [codeOk, Bool.and_eq_true] at hc
    simp only [aw, condK] at h
    split at h
    · rename_i b hb
      have hv := hst.frel.eval c
      rw [hb] at hv
      exact wp_cond_split hv.val_inv (fun e => aw_sound hmix x hc.1 k ρ₀ σ₀ w₀ ρ σ w fr a hst (h.1 e)) (fun e => aw_sound hmix y hc.2 k ρ₀ σ₀ w₀ ρ σ w fr a hst (h.2 e))
    · exact h.elim
  | .block id c, hc, k, ρ₀, σ₀, w₀, ρ, σ, w, fr, a, hst, h => by
    refine wp_block (wp_mono (aw_sound hmix c hc _ ρ₀ σ₀ w₀ ρ σ w fr a hst h) ?_)
    rintro e a' w' ⟨ρ', σ', fr', hst', hk⟩
    cases e with
    | normal => exact ⟨ρ', σ', fr', hst', hk⟩
    | exit m =>
      simp only at hk
      simp only [Exit.inBlock]
      split at hk
      · rename_i e; rw [if_pos e]; exact ⟨ρ', σ', fr', hst', hk⟩
      · rename_i e; rw [if_neg e]; exact ⟨ρ', σ', fr', hst', hk⟩
    | goto l => exact hk.elim
    | ret => exact ⟨ρ', σ', fr', hst', hk⟩
    | panic ch => exact ⟨ρ', σ', fr', hst', hk⟩
    | outgrown => exact hk.elim
  | .exit id, _, k, ρ₀, σ₀, w₀, ρ, σ, w, fr, a, hst, h => wp_exit ⟨ρ, σ, fr, hst, h⟩
  | .ret, _, k, ρ₀, σ₀, w₀, ρ, σ, w, fr, a, hst, h => wp_ret ⟨ρ, σ, fr, hst, h⟩
  | .loop c, hc, k, ρ₀, σ₀, w₀, ρ, σ, w, fr, a, hst, h => by
    obtain ⟨I, μ, h0, hround⟩ := h
    refine wp_loop_idx (ι := AFrame × AHeap) (fun p a w => ∃ ρ, St ρ₀ σ₀ w₀ N ρ p.2 w p.1 a ∧ I p.1 p.2) (fun p => μ p.1 p.2) ?_ (i := (prune (keep (1000 + firstReg c)) fr, σ)) ⟨ρ, ⟨hst.ext, hst.sim, hst.frel.prune _, hst.size, hst.defers⟩, h0⟩
    rintro ⟨fr, σ⟩ a w ⟨ρ, hst, hI⟩
    refine wp_mono (aw_sound hmix c hc _ ρ₀ σ₀ w₀ ρ σ w fr a hst (hround fr σ hI)) ?_
    rintro e a' w' ⟨ρ', σ', fr', hst', hk⟩
    cases e with
    | normal => exact ⟨(prune (keep (1000 + firstReg c)) fr', σ'), ⟨ρ', ⟨hst'.ext, hst'.sim, hst'.frel.prune _, hst'.size, hst'.defers⟩, hk.1⟩, hk.2⟩
    | exit id => exact ⟨ρ', σ', fr', hst', hk⟩
    | goto l => exact hk.elim
    | ret => exact ⟨ρ', σ', fr', hst', hk⟩
    | panic ch => exact ⟨ρ', σ', fr', hst', hk⟩
    | outgrown => exact hk.elim
  | .scope c, hc, k, ρ₀, σ₀, w₀, ρ, σ, w, fr, a, hst, h => by
    refine wp_scope_straight (wp_mono (aw_sound hmix c hc k ρ₀ σ₀ w₀ ρ σ w fr a hst h) ?_)
    rintro e a' w' ⟨ρ', σ', fr', hst', hk⟩
    cases e with
    | normal => exact ⟨ρ', σ', fr', hst', hk⟩
    | exit id => exact ⟨ρ', σ', fr', hst', hk⟩
    | goto l => exact hk.elim
    | ret => exact ⟨ρ', σ', fr', hst', hk⟩
    | panic ch => exact ⟨ρ', σ', fr', hst', hk⟩
    | outgrown => exact hk.elim
  | .rangeFunc .., _, _, _, _, _, _, _, _, _, _, _, h => h.elim
  | .label _, _, _, _, _, _, _, _, _, _, _, _, h => h.elim
  | .goto _, _, _, _, _, _, _, _, _, _, _, _, h => h.elim
  | .refuse _, _, _, _, _, _, _, _, _, _, _, _, h => h.elim

end Go.Abs
