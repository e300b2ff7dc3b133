/-
  A node as a term whose kids are numbers; may its head be.
-/
import Derived.Test.YtpfaciflhhpokaaGreatDoorAtJ
set_option linter.unusedVariables false
set_option linter.unusedSimpArgs false
namespace Go.Abs.At
open Go Go.Abs Go.Proofs.AtD
attribute [local simp] Nat.add_assoc

abbrev leafZ : List AV := [u8 1, u8 0, int 0, int 0, str ByteArray.empty, str ByteArray.empty, str ByteArray.empty, .val (.slice none 0 0)]
def leaf : T := .mk (hd 1) []
def stub (t : AT) : T := .mk t.h (List.replicate t.kids.length leaf)
theorem leaf_frz {τ : AHeap} {n : Nat} : FrzL τ n leafZ leaf.av :=
  FrzL.cons (.low (.val _)) (.cons (.low (.val _)) (.cons (.low (.val _)) (.cons (.low (.val _)) (.cons (.low (.val _)) (.cons (.low (.val _)) (.cons (.low (.val _)) (.cons .nil .nil)))))))
theorem leaves_frz {τ : AHeap} {n : Nat} : ∀ m : Nat, FrzR τ n (List.replicate m leafZ) (T.avs (List.replicate m leaf))
  | 0 => .nil
  | m + 1 => by simp only [List.replicate_succ, T.avs]; exact .cons leaf_frz (leaves_frz m)

theorem stub_ev {t : AT} (hb : t.size < 1000000000000) {σ : AHeap} {k kp : AV → AHeap → Prop} (hk : k (stub t).v σ) : Ev PR 68 [t.v] σ k kp := by
  refine Ev.pure ?_
  apply F68_ev; unfold F68
  have hlen : ∀ ω, aLenK .slice (AT.vs t.kids) ω = some (int t.kids.length) := fun ω => by simp
  have hkl := t.kids_len
  have hheadlen : t.h.av.length = 7 := rfl
  simp
  generalize hτ : (σ.new (.cells 19 [t.av])).new (.cells 8 [zeroT]) = τ
  have hg : Grows σ τ := by rw [← hτ]; exact (Grows.new _ _).trans (Grows.new _ _)
  have hτn : τ.next = σ.next + 2 := by rw [← hτ]; rfl
  have g0 : τ.get σ.next = some (.cells 19 [t.av]) := by rw [← hτ]; simp [get_new]
  have g1 : τ.get (σ.next + 1) = some (.cells 8 [zeroT]) := by rw [← hτ]; simp [get_new]
  simp [g0, hτn]
  generalize hω : AHeap.set _ _ _ = ω
  have hG : Grows σ ω := by rw [← hω]; exact (hg.trans (Grows.new _ _)).set (by omega) _
  have hn : ω.next = σ.next + 3 := by rw [← hω]; simp [hτn]
  have z0 : ω.get σ.next = some (.cells 19 [t.av]) := by rw [← hω]; simp [get_new, get_set, hτn, g0]
  have z1 : ω.get (σ.next + 1) = some (.cells 8 [zeroT]) := by rw [← hω]; simp [get_new, get_set, hτn, g1]
  have z2 : ω.get (σ.next + 2) = some (.cells 8 [t.h.av ++ [.val (.slice none 0 0)]]) := by rw [← hω]; simp [get_new, get_set, hτn]
  refine seqW_in ?_
  simp [z0]
  refine loopW_by (fun i : Nat => [(2, .ptr (σ.next + 1) 0 0), (3, .ptr (σ.next + 2) 0 0), (9, int t.kids.length), (10, int i)])
    (fun i φ => i ≤ t.kids.length ∧ Grows σ φ ∧ σ.next + 3 ≤ φ.next ∧ φ.get (σ.next + 1) = some (.cells 8 [zeroT]) ∧ ∃ x, φ.get (σ.next + 2) = some (.cells 8 [t.h.av ++ [x]]) ∧ acells x = some [x] ∧ Kid σ.next 3 8 φ x (List.replicate i leafZ))
    (fun fr _ => t.kids.length - (intOf (look fr 10)).toNat) 0 (by simp) ⟨by simp, hG, by omega, z1, _, z2, rfl, .inl ⟨rfl, rfl⟩⟩ ?_
  rintro i φ ⟨hi, f1, f2, f3, x, f4, f5, f6⟩
  simp
  by_cases hil : i < t.kids.length
  · simp [hil, f4, List.getElem?_append_right, hheadlen]
    refine stepK_of (aAppend_rows (by' := 96) f6.rows f6.ns (.inr (.inl ⟨true, rfl⟩)) (by simp; omega)) ?_
    obtain ⟨p1, p2, p3⟩ := f6.push (by omega) leafZ
    generalize (gone x φ).new (.cells 8 (List.replicate i leafZ ++ [leafZ])) = φ2 at p1 p2 p3
    have q2 : φ2.get (σ.next + 2) = some (.cells 8 [t.h.av ++ [x]]) := by rw [p2 _ (by omega)]; exact f4
    simp [q2, hheadlen]
    have hdrop : List.drop 8 (t.h.av ++ [x]) = [] := List.drop_of_length_le (by simp [hheadlen])
    rw [hdrop, wrap64 (by omega)]
    have hG2 : Grows σ φ2 := ⟨by omega, fun j hj => by rw [p2 j (by omega)]; exact f1.get j hj⟩
    refine ⟨⟨i + 1, by simp, by omega, hG2.set (by omega) _, by omega, by simp [get_set, p2 (σ.next + 1) (by omega), f3], ?_⟩, by omega⟩
    have := p1.set (j := σ.next + 2) (by omega) (.cells 8 [t.h.av ++ [.own φ.next (i + 1)]])
    rw [List.replicate_succ']
    simpa using this
  · obtain rfl : i = t.kids.length := by omega
    simp [f4, hheadlen, f3, get_set]
    have htk : List.take 8 (t.h.av ++ [x]) = t.h.av ++ [x] := List.take_of_length_le (by simp [hheadlen])
    rw [htk, htk]
    refine ⟨f1.set (by omega) _, _, frzT (l := List.replicate t.kids.length leaf) ?_, hk⟩
    rcases f6.set (j := σ.next + 1) (by omega) (.cells 8 [t.h.av ++ [x]]) with ⟨h1, h2⟩ | ⟨q, rest, h1, h2, h3, _⟩
    · rw [h1]
      have h0 : t.kids.length = 0 := by
        have := congrArg List.length h2
        simpa using this
      rw [h0]
      exact .nil
    · subst h1
      exact FrzR.own (leaves_frz _) (by omega) (by simp) h2

/-! ### Which fields a kind has -/
abbrev bool (b : Bool) : AV := .val (.bool b)
/-- rho, rhos, effect, type, result. -/
def ofKind (k : Int) : List Bool :=
  if k = 3 ∨ k = 6 ∨ k = 17 then [true, false, false, false, false]
  else if k = 11 then [true, false, true, true, false]
  else if k = 13 then [true, true, true, true, true]
  else if k = 15 then [false, false, false, true, false]
  else if k = 18 then [true, true, true, false, false]
  else [false, false, false, false, false]
theorem of_ev {n : Int} {σ : AHeap} {k kp : AV → AHeap → Prop} (hk : k (.agg ((ofKind n).map bool)) σ) : Ev PR 47 [u8 n] σ k kp := by
  refine Ev.pureD hk ((Dat.agg fun x hx => by obtain ⟨b, _, rfl⟩ := List.mem_map.1 hx; exact .val _).low _) fun k' hk' => ?_
  apply F47_ev; unfold F47
  simp
  have fin : ∀ o, Grows σ ((σ.new (.cells 5 [[bool false, bool false, bool false, bool false, bool false]])).set σ.next o) := fun o => (Grows.new _ _).set (Nat.le_refl _) _
  obtain ⟨b, hb⟩ : ∃ b, b = decide (n = 3 ∨ n = 6 ∨ n = 17) := ⟨_, rfl⟩
  refine seqW_by (fun fr υ => fr = [(2, .ptr σ.next 0 0), (3, u8 n), (4, bool b)] ∧ υ = σ.new (.cells 5 [[bool false, bool false, bool false, bool false, bool false]])) ?_ ?_
  · by_cases h3 : n = 3
    · subst h3; simp [hb]
    · by_cases h6 : n = 6
      · subst h6; simp [hb]
      · simp [h3, h6, hb]
  · rintro fr υ ⟨rfl, rfl⟩
    simp
    cases b with
    | true =>
      have h0 : n = 3 ∨ n = 6 ∨ n = 17 := by simpa using hb
      simp [get_new, get_set]
      have := hk' _ (fin (.cells 5 [[bool true, bool false, bool false, bool false, bool false]]))
      simpa [ofKind, h0] using this
    | false =>
      have h0 : ¬ (n = 3 ∨ n = 6 ∨ n = 17) := fun h => by simp [h] at hb
      by_cases h1 : n = 11
      · subst h1
        simp [get_new, get_set]
        exact hk' _ (fin _)
      by_cases h2 : n = 13
      · subst h2
        simp [get_new, get_set]
        exact hk' _ (fin _)
      by_cases h4 : n = 15
      · subst h4
        simp [get_new, get_set]
        exact hk' _ (fin _)
      by_cases h5 : n = 18
      · subst h5
        simp [get_new, get_set]
        exact hk' _ (fin _)
      simp [h1, h2, h4, h5, get_new, get_set]
      have := hk' _ (fin (.cells 5 [[bool false, bool false, bool false, bool false, bool false]]))
      simpa [ofKind, h0, h1, h2, h4, h5] using this
end Go.Abs.At
