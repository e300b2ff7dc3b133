/-
  The document's basis: what comes of effect variables.
-/
import Derived.Test.YtjilebpcaemopaaGreatBasR4
set_option linter.unusedVariables false
set_option linter.unusedSimpArgs false
namespace Go.Abs.Bas
open Go Go.Abs Go.Abs.At Go.Proofs.BasD
attribute [local simp] Nat.add_assoc
variable {σ : AHeap} {b : B} {k kp : AV → AHeap → Prop} {xR xV xL : AV}

def lenOf : AV → Nat
  | .own _ n => n
  | .sl _ _ els => els.length
  | _ => 0
theorem RowG.lenOf {sz x els} (h : RowG σ sz x els) : lenOf x = els.length := by
  rcases h.1 with ⟨rfl, rfl⟩ | ⟨c, rfl⟩ | ⟨q, rest, rfl, _⟩ <;> rfl
def boolOf : AV → Bool
  | .val (.bool b) => b
  | _ => false
theorem ins_len_new {α : Type} [DecidableEq α] {lt : α → α → Bool} {a : α} : ∀ {l : List α}, a ∉ l → (ins lt a l).length = l.length + 1
  | [], _ => rfl
  | b :: l, h => by
    have ih := ins_len_new (lt := lt) (l := l) fun hh => h (List.mem_cons_of_mem _ hh)
    unfold ins
    rw [if_neg (fun e : a = b => h (by rw [e]; exact List.mem_cons_self ..))]
    split
    · simp
    · simp [ih]

theorem nodup_sub {α : Type} [DecidableEq α] : ∀ {A B : List α}, A.Nodup → (∀ x ∈ A, x ∈ B) → A.length ≤ B.length
  | [], B, _, _ => by simp
  | a :: A, B, hn, h => by
    rw [List.nodup_cons] at hn
    have ha : a ∈ B := h a (List.mem_cons_self ..)
    have h1 : A.length ≤ (B.erase a).length := nodup_sub hn.2 fun x hx => by
      have hne : x ≠ a := fun e => hn.1 (e ▸ hx)
      exact (List.mem_erase_of_ne hne).2 (h x (List.mem_cons_of_mem _ hx))
    have h2 := List.length_erase_of_mem ha
    have h3 := List.length_pos_of_mem ha
    simp only [List.length_cons]
    omega
/-- How far it has come. -/
structure Far (b : B) (l S0 S : List Int) (A : List Atom) : Prop where
  s : S.Pairwise fun x y => ltI x y = true
  a : A.Pairwise fun x y => lessM x y = true
  re : ∀ x ∈ S, b.Reach l x
  s0 : ∀ x ∈ S0, x ∈ S
  at' : ∀ x ∈ A, ∃ v, b.Reach l v ∧ x ∈ b.atomsOf v
theorem Far.nodup {l S0 S A} (h : Far b l S0 S A) : S.Nodup := h.s.imp fun h e => by subst e; simp [ltI] at h
theorem Far.len {l S0 S A} (hs : Small b) (h : Far b l S0 S A) : S.length ≤ 1000 :=
  Nat.le_trans (nodup_le b.vars S h.nodup fun x hx => inB_iff.1 (hs.ok.reachIn (h.re x hx)).1) hs.vars
theorem Far.put {l S0 S A} (h : Far b l S0 S A) {x : Int} (hx : b.Reach l x) : Far b l S0 (ins ltI x S) A where
  s := ins_rising ltI_ord x h.s
  a := h.a
  re y hy := by
    rcases (mem_ins ltI x y S).1 hy with rfl | hy
    · exact hx
    · exact h.re y hy
  s0 y hy := (mem_ins ltI x y S).2 (.inr (h.s0 y hy))
  at' := h.at'
theorem Far.done {l S0 S A} (hs : Small b) (h : Far b l S0 S A) (h0 : ∀ n ∈ l, inB n b.vars = true → nm b.V n ∈ S0) (hc : ∀ v ∈ S, (∀ x ∈ b.varsOf v, x ∈ S) ∧ ∀ x ∈ b.atomsOf v, x ∈ A) : b.Comes l S ∧ A = b.comesA S := by
  have hS : ∀ x, b.Reach l x → x ∈ S := fun x hx => by
    induction hx with
    | start hm hn => exact h.s0 _ (h0 _ hm hn)
    | step _ hx ih => exact (hc _ ih).1 _ hx
  refine ⟨⟨h.s, fun x => ⟨h.re x, hS x⟩⟩, setOf_unique lessM_ord h.a fun x => ?_⟩
  rw [List.mem_flatMap]
  constructor
  · intro hx
    obtain ⟨v, h1, h2⟩ := h.at' x hx
    exact ⟨v, hS v h1, h2⟩
  · rintro ⟨v, h1, h2⟩
    exact (hc v h1).2 x h2
theorem Far.puts {l S0 : List Int} {A : List Atom} : ∀ (xs S : List Int), Far b l S0 S A → (∀ x ∈ xs, b.Reach l x) → Far b l S0 (xs.foldl (fun s a => ins ltI a s) S) A ∧ (∀ x ∈ xs, x ∈ xs.foldl (fun s a => ins ltI a s) S) ∧ (∀ x ∈ S, x ∈ xs.foldl (fun s a => ins ltI a s) S) ∧ (xs.foldl (fun s a => ins ltI a s) S = S ∨ S.length < (xs.foldl (fun s a => ins ltI a s) S).length)
  | [], S, h, _ => ⟨h, by simp, fun x hx => hx, .inl rfl⟩
  | y :: xs, S, h, hr => by
    obtain ⟨h1, h2, h3, h4⟩ := Far.puts xs (ins ltI y S) (h.put (hr y (List.mem_cons_self ..))) fun x hx => hr x (List.mem_cons_of_mem _ hx)
    have hy : y ∈ ins ltI y S := (mem_ins ltI y y S).2 (.inl rfl)
    simp only [List.foldl_cons]
    refine ⟨h1, fun x hx => ?_, fun x hx => h3 x ((mem_ins ltI y x S).2 (.inr hx)), ?_⟩
    · rcases List.mem_cons.1 hx with rfl | hx
      · exact h3 _ hy
      · exact h2 x hx
    · by_cases hm : y ∈ S
      · have e := insA_of_mem ltI_ord h.s hm
        rw [e] at h4 ⊢
        exact h4
      · have e := ins_len_new (lt := ltI) hm
        rcases h4 with h4 | h4
        · exact .inr (by rw [h4]; omega)
        · exact .inr (by omega)
theorem mem_ofM {l : List Atom} {a : Atom} : a ∈ ofM l ↔ a ∈ l ∧ atomM a = true := by
  unfold ofM
  rw [mem_setOf, List.mem_filter]
theorem atomsOf_len (hs : Small b) (v : Int) : (b.atomsOf v).length ≤ 100000 := by
  rw [B.atomsOf, List.length_map]; exact hs.atoms v
theorem comesB_ev (h : BRow σ b xR xV xL) (hf : Fair b) {y : AV} {l : List Int} (hy : RowG σ 1 y (irows l)) (hl : l.length < 1000000) (hk : ∀ M, b.Comes l M → k (.tup [effV (b.comesA M), rhosV M]) σ) : Ev PR 44 [.agg (bcells b xR xV xL), y] σ k kp := by
  refine Ev.pure ?_
  apply F44_ev; unfold F44
  simp only [aBox_eq, acells_agg, Option.map_some, stepK_some]
  generalize hτ : σ.new _ = τ
  have g0 : τ.get σ.next = some (.cells 5 [bcells b xR xV xL]) := by rw [← hτ]; simp [get_new]
  have hG0 : Grows σ τ := by rw [← hτ]; exact Grows.new _ _
  have hnx0 : τ.next = σ.next + 1 := by rw [← hτ]; simp
  clear hτ
  simp
  generalize hυ : AHeap.new (AHeap.new τ _) _ = υ
  have u1 : υ.get τ.next = some (.cells 3 []) := by rw [← hυ]; simp [get_new]
  have u2 : υ.get (τ.next + 1) = some (.cells 1 []) := by rw [← hυ]; simp [get_new]
  have hGu : Grows τ υ := by rw [← hυ]; exact (Grows.new _ _).trans (Grows.new _ _)
  have hnx1 : υ.next = τ.next + 2 := by rw [← hυ]; simp
  clear hυ
  have box : ∀ ω, Grows τ ω → ω.get σ.next = some (.cells 5 [bcells b xR xV xL]) := fun ω g => by rw [g.get _ (by omega)]; exact g0
  have hB : ∀ ω, Grows τ ω → BRow ω b xR xV xL := fun ω g => h.grows (hG0.trans g)
  have hs := hf.small
  obtain ⟨Sg, hSg⟩ : ∃ Sg : Nat → List Int, ∀ i, Sg i = setOf ltI (((l.take i).filter fun n => inB n b.vars).map (nm b.V)) := ⟨_, fun _ => rfl⟩
  have hyl := (hy.grows (hG0.trans hGu)).lenI
  refine seqW_by (fun fr φ => ∃ z, fr = [(2, .ptr σ.next 0 0), (6, .own τ.next 0), (7, z)] ∧ φ = υ ∧ RowF τ.next υ 1 z (irows (Sg l.length))) ?_ ?_
  · simp [hyl]
    refine loopW_by (fun p : Nat × AV => [(1, y), (2, .ptr σ.next 0 0), (6, .own τ.next 0), (7, p.2), (19, int l.length), (20, int p.1)])
      (fun p φ => p.1 ≤ l.length ∧ φ = υ ∧ RowF τ.next υ 1 p.2 (irows (Sg p.1)))
      (fun fr _ => l.length - (intOf (look fr 20)).toNat) (0, .own (τ.next + 1) 0) (by simp) ⟨by simp, rfl, ?_⟩ ?_
    · rw [hSg]
      exact ⟨⟨.inr (.inr ⟨τ.next + 1, [], by simp [setOf], by simp [u2, setOf]⟩), .own (by omega)⟩, fun q m e => by cases e; omega⟩
    rintro ⟨i, z⟩ φ ⟨hi, rfl, hZ⟩
    simp only at hi hZ
    simp
    by_cases hil : i < l.length
    · obtain ⟨n, hn⟩ := get_some hil
      obtain ⟨r, r1, r2⟩ := (hy.grows (hG0.trans hGu)).at hn .i64
      simp [hil, box φ hGu]
      refine seqW_in ?_
      refine stepP r1 ?_
      refine stepP r2 ?_
      refine varNameB_ev (hB φ hGu) hf ?_
      have tk : (l.take (i + 1)).filter (fun n => inB n b.vars) = (l.take i).filter (fun n => inB n b.vars) ++ (if inB n b.vars = true then [n] else []) := by
        rw [List.take_add_one, hn, List.filter_append]
        simp only [Option.toList_some, List.filter_cons, List.filter_nil]
      cases hin : inB n b.vars
      · have e : b.varName n = -1 := by simp [B.varName, hin]
        simp [e]
        rw [wrap64 (by omega)]
        refine ⟨⟨i + 1, z, ⟨rfl, by simp⟩, by omega, ?_⟩, by omega⟩
        rw [hSg, tk, hin]
        rw [hSg] at hZ
        simpa using hZ
      · have e : b.varName n = nm b.V n := by simp [B.varName, hin]
        have h0 := (inB_iff.1 (nm_in hs.ok.V hin)).1
        simp [e, h0]
        have hsl : (Sg i).length ≤ i := by
          rw [hSg]
          refine Nat.le_trans (setOf_len ltI _) ?_
          rw [List.length_map]
          exact Nat.le_trans (List.length_filter_le _ _) (by simp; omega)
        refine putIntL_ev hZ (by rw [hSg]; exact setOf_rising ltI_ord _) (by omega) fun z2 hz2 => ?_
        simp
        rw [wrap64 (by omega)]
        refine ⟨⟨i + 1, z2, ⟨rfl, by simp⟩, by omega, ?_⟩, by omega⟩
        have e2 : Sg (i + 1) = ins ltI (nm b.V n) (Sg i) := by
          rw [hSg, hSg, tk, hin]
          simp [setOf, List.foldl_append]
        rw [e2]; exact hz2
    · have hie : i = l.length := by omega
      subst hie
      simp [hil]
      exact hZ
  rintro fr φ ⟨z0, rfl, rfl, hZ0⟩
  have h0 : ∀ n ∈ l, inB n b.vars = true → nm b.V n ∈ Sg l.length := fun n h1 h2 => by
    rw [hSg, List.take_length, mem_setOf]
    exact List.mem_map_of_mem (List.mem_filter.2 ⟨h1, by simpa using h2⟩)
  have hre0 : ∀ x ∈ Sg l.length, b.Reach l x := fun x hx => by
    rw [hSg, List.take_length, mem_setOf] at hx
    obtain ⟨n, hn, rfl⟩ := List.mem_map.1 hx
    have := List.mem_filter.1 hn
    exact .start this.1 (by simpa using this.2)
  have hri0 : (Sg l.length).Pairwise fun x y => ltI x y = true := by rw [hSg]; exact setOf_rising ltI_ord _
  generalize Sg l.length = S0 at *
  obtain ⟨Cl, hCl⟩ : ∃ Cl : List Int → List Int → List Atom → Prop, ∀ W S A, Cl W S A ↔ ∀ v ∈ W, (∀ x ∈ b.varsOf v, x ∈ S) ∧ ∀ x ∈ b.atomsOf v, x ∈ A := ⟨_, fun _ _ _ => Iff.rfl⟩
  have hAl : ∀ S A, Far b l S0 S A → A.length ≤ 100000000 := fun S A hF => by
    have h1 : A.Nodup := hF.a.imp fun h e => by subst e; rw [lessM_ord.irr] at h; cases h
    have h2 : ∀ x ∈ A, x ∈ (b.L.flatMap (·.atoms)).map b.ren := fun x hx => by
      obtain ⟨v, _, h3⟩ := hF.at' x hx
      unfold B.atomsOf B.toldOf at h3
      obtain ⟨a, ha, rfl⟩ := List.mem_map.1 h3
      obtain ⟨t, ht, hat⟩ := List.mem_flatMap.1 ha
      exact List.mem_map_of_mem (List.mem_flatMap.2 ⟨t, (List.mem_filter.1 ht).1, hat⟩)
    have h3 : A.length ≤ ((b.L.flatMap (·.atoms)).map b.ren).length := nodup_sub h1 h2
    rw [List.length_map] at h3
    have h4 := flat_le (l := b.L) (f := (·.atoms)) (c := 100) fun t ht => (hs.told t ht).1
    have := hs.len
    omega
  refine seqW_in ?_
  simp
  refine loopW_by (fun p : Bool × AV × AV => [(2, .ptr σ.next 0 0), (6, p.2.1), (7, p.2.2), (10, bool p.1)])
    (fun p ψ => Grows τ ψ ∧ ∃ S A, RowF τ.next ψ 3 p.2.1 (arows A) ∧ RowF τ.next ψ 1 p.2.2 (irows S) ∧ Far b l S0 S A ∧ (p.1 = false → Cl S S A))
    (fun fr _ => 2 * (1001 - lenOf (look fr 7)) + (boolOf (look fr 10)).toNat) (true, .own τ.next 0, z0) (by simp) ⟨hGu, S0, [], ?_, hZ0, ⟨hri0, List.Pairwise.nil, hre0, fun _ h => h, by simp⟩, by simp⟩ ?_
  · exact ⟨⟨.inr (.inr ⟨τ.next, [], rfl, by simp [u1]⟩), .own (by omega)⟩, fun q m e => by cases e; omega⟩
  rintro ⟨more, av, zv⟩ ψ ⟨hG, S, A, hA, hS, hF, hcl⟩
  simp only at hA hS hcl
  have hlenz : lenOf zv = S.length := by have := hS.1.lenOf; simpa using this
  cases more
  · simp
    have hd := hF.done hs h0 ((hCl _ _ _).1 (hcl rfl))
    have hA' : RowF σ.next ψ 3 av (arows A) := ⟨hA.1, fun q m e => by have := hA.2 q m e; omega⟩
    have hS' : RowF σ.next ψ 1 zv (irows S) := ⟨hS.1, fun q m e => by have := hS.2 q m e; omega⟩
    refine ⟨hG0.trans hG, .tup [effV (b.comesA S), rhosV S], .tup rfl fun j x y hx hy => ?_, hk S hd.1⟩
    match j, hx, hy with
    | 0, hx, hy => simp at hx hy; subst hx; subst hy; rw [← hd.2]; exact hA'.frz (arows_dat _)
    | 1, hx, hy => simp at hx hy; subst hx; subst hy; exact hS'.frz (irows_dat _)
    | j + 2, hx, hy => simp at hx
  · clear hcl
    have hSl := hF.len hs
    simp [hS.1.lenI]
    refine seqW_by (fun fr χ => ∃ a' z', fr = [(2, .ptr σ.next 0 0), (6, a'), (7, z'), (11, int S.length)] ∧ Grows τ χ ∧ ∃ S' A', RowF τ.next χ 3 a' (arows A') ∧ RowF τ.next χ 1 z' (irows S') ∧ Far b l S0 S' A' ∧ (S' = S ∧ Cl S' S' A' ∨ S.length < S'.length)) ?_ ?_
    · simp
      refine loopW_by (fun p : Nat × AV × AV => [(2, .ptr σ.next 0 0), (6, p.2.1), (7, p.2.2), (11, int S.length), (39, int S.length), (40, int p.1)])
        (fun p χ => p.1 ≤ S.length ∧ Grows τ χ ∧ ∃ S' A', RowF τ.next χ 3 p.2.1 (arows A') ∧ RowF τ.next χ 1 p.2.2 (irows S') ∧ Far b l S0 S' A' ∧ (S' = S ∧ Cl (S'.take p.1) S' A' ∨ S.length < S'.length))
        (fun fr _ => S.length - (intOf (look fr 40)).toNat) (0, av, zv) (by simp) ⟨by simp, hG, S, A, hA, hS, hF, .inl ⟨rfl, by rw [hCl]; simp⟩⟩ ?_
      rintro ⟨i, a1, z1⟩ χ ⟨hi, hG1, S1, A1, hA1, hS1, hF1, hor⟩
      simp only at hi hA1 hS1 hor
      simp
      have hS1l := hF1.len hs
      have hge : S.length ≤ S1.length := by rcases hor with ⟨rfl, _⟩ | h <;> omega
      by_cases hil : i < S.length
      · obtain ⟨v, hv⟩ := get_some (l := S1) (i := i) (by omega)
        have hvr := hF1.re v (List.mem_of_getElem? hv)
        have hvin := hs.ok.reachIn hvr
        obtain ⟨hm1, hm2⟩ := has_mem hs hvin.1
        obtain ⟨hl1, hl2⟩ := has_len hs v
        obtain ⟨r, r1, r2⟩ := hS1.1.at hv .i64
        simp [hil, box χ hG1]
        refine seqW_in ?_
        refine stepP r1 ?_
        refine stepP r2 ?_
        refine hasB_ev (hB χ hG1) hf ?_
        generalize hhas : b.has v = hp at *
        simp [effV, rhosV]
        have gg := Grows.new χ (.cells 1 [[a1], [effV hp.1]])
        have hG2 := hG1.trans gg
        have hA1l := hAl _ _ hF1
        rw [hA1.1.cells]
        simp
        refine union2_ev (q := χ.next) (x := a1) (y := effV hp.1) (l := A1) (m := hp.1) (by simp [get_new, effV]) (by simp) (hA1.1.grows gg) (RowG.eff _) (by omega) ?_
        have hS2 := hS1.grows gg
        change RowF τ.next (χ.new (.cells 1 [[a1], [.sl false 3 (hp.1.map Atom.av)]])) 1 z1 (irows S1) at hS2
        change Grows τ (χ.new (.cells 1 [[a1], [.sl false 3 (hp.1.map Atom.av)]])) at hG2
        generalize χ.new (.cells 1 [[a1], [.sl false 3 (hp.1.map Atom.av)]]) = χ2 at hS2 hG2
        have hA2 : ∀ x, x ∈ ofM (A1 ++ hp.1) ↔ (x ∈ A1 ∨ x ∈ hp.1) := fun x => by
          rw [mem_ofM, List.mem_append]
          refine ⟨fun h => h.1, fun h => ⟨h, ?_⟩⟩
          rcases h with h | h
          · obtain ⟨w, _, h3⟩ := hF1.at' x h
            exact atom_ok hs h3
          · exact atom_ok hs ((hm1 x).1 h)
        have hF2 : Far b l S0 S1 (ofM (A1 ++ hp.1)) := ⟨hF1.s, setOf_rising lessM_ord _, hF1.re, hF1.s0, fun x hx => by
          rcases (hA2 x).1 hx with h | h
          · exact hF1.at' x h
          · exact ⟨v, hvr, (hm1 x).1 h⟩⟩
        have hxr : ∀ x ∈ hp.2, b.Reach l x := fun x hx => .step hvr ((hm2 x).1 hx)
        obtain ⟨W, hW⟩ : ∃ W : Nat → List Int, ∀ k, W k = (hp.2.take k).foldl (fun s a => ins ltI a s) S1 := ⟨_, fun _ => rfl⟩
        have hWF : ∀ k, Far b l S0 (W k) (ofM (A1 ++ hp.1)) := fun k => by rw [hW]; exact (Far.puts _ _ hF2 fun x hx => hxr x (List.mem_of_mem_take hx)).1
        refine loopW_by (fun p : Nat × AV => [(2, .ptr σ.next 0 0), (6, effV (ofM (A1 ++ hp.1))), (7, p.2), (11, int S.length), (14, .sl false 1 (hp.2.map fun r => [int r])), (39, int S.length), (40, int i), (57, int hp.2.length), (58, int p.1)])
          (fun p ω => p.1 ≤ hp.2.length ∧ ω = χ2 ∧ RowF τ.next χ2 1 p.2 (irows (W p.1)))
          (fun fr _ => hp.2.length - (intOf (look fr 58)).toNat) (0, z1) (by simp) ⟨by simp, rfl, by rw [hW]; simpa using hS2⟩ ?_
        rintro ⟨j, z2⟩ ω ⟨hj, rfl, hZ2⟩
        simp only at hj hZ2
        simp
        by_cases hjl : j < hp.2.length
        · obtain ⟨n, hn⟩ := get_some hjl
          obtain ⟨w, w1, w2⟩ := (RowG.rhos (σ := ω) hp.2).at hn .i64
          simp only [hjl, decide_true, condK_true]
          refine stepP w1 ?_
          refine stepP w2 ?_
          have := (hWF j).len hs
          refine putIntL_ev hZ2 (hWF j).s (by omega) fun z3 hz3 => ?_
          simp
          rw [wrap64 (by omega)]
          refine ⟨⟨j + 1, z3, ⟨rfl, by simp⟩, by omega, ?_⟩, by omega⟩
          have e : W (j + 1) = ins ltI n (W j) := by rw [hW, hW, List.take_add_one, hn]; simp [List.foldl_append]
          rw [e]; exact hz3
        · have hje : j = hp.2.length := by omega
          subst hje
          simp only [hjl, decide_false, condK_false]
          obtain ⟨p1, p2, p3, p4⟩ := Far.puts (A := ofM (A1 ++ hp.1)) hp.2 S1 hF2 hxr
          rw [hW, List.take_length] at hZ2
          generalize hp.2.foldl (fun s a => ins ltI a s) S1 = S2 at *
          rw [wrap64 (by omega)]
          refine ⟨⟨i + 1, _, z2, ⟨rfl, rfl, by simp⟩, by omega, hG2, S2, ofM (A1 ++ hp.1), RowF.sl (arows_dat _), hZ2, p1, ?_⟩, by omega⟩
          rcases hor with ⟨rfl, hc⟩ | hlt
          · rcases p4 with rfl | p4
            · refine .inl ⟨rfl, (hCl _ _ _).2 fun u hu => ?_⟩
              rw [List.take_add_one, hv] at hu
              rcases List.mem_append.1 hu with hu | hu
              · have := (hCl _ _ _).1 hc u hu
                exact ⟨this.1, fun x hx => (hA2 x).2 (.inl (this.2 x hx))⟩
              · simp at hu; subst hu
                exact ⟨fun x hx => p2 x ((hm2 x).2 hx), fun x hx => (hA2 x).2 (.inr ((hm1 x).2 hx))⟩
            · exact .inr p4
          · refine .inr ?_
            rcases p4 with rfl | p4 <;> omega
      · simp [hil]
        refine ⟨a1, z1, ⟨rfl, rfl⟩, hG1, S1, A1, hA1, hS1, hF1, ?_⟩
        rcases hor with ⟨rfl, hc⟩ | h
        · exact .inl ⟨rfl, by rwa [List.take_of_length_le (by omega)] at hc⟩
        · exact .inr h
    · rintro fr χ ⟨a', z', rfl, hG1, S', A', hA', hS', hF', hor⟩
      simp [hS'.1.lenI]
      have hS'l := hF'.len hs
      have hlenz' : lenOf z' = S'.length := by have := hS'.1.lenOf; simpa using this
      rw [hlenz, hlenz']
      rcases hor with ⟨rfl, hc⟩ | hlt
      · refine ⟨.inl ⟨a', z', ⟨rfl, rfl, by simp⟩, hG1, S', A', hA', hS', hF', hc⟩, ?_⟩
        simp [boolOf]
      · refine ⟨.inr ⟨a', z', ⟨rfl, rfl, hlt⟩, hG1, S', A', hA', hS', hF'⟩, ?_⟩
        simp [boolOf, hlt]
        omega
end Go.Abs.Bas
