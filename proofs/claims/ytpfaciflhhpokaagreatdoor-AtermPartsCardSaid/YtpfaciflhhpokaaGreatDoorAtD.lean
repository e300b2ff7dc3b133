/-
  Terms with regions out of the data that came in.
-/
import Derived.Test.YtpfaciflhhpokaaGreatDoorAtM
set_option linter.unusedVariables false
set_option linter.unusedSimpArgs false
namespace Go.Abs.At
open Go Go.Abs

mutual
def RT.fit : RT → Prop
  | .mk k r e ks => e.length ≤ maxLen ∧ (∀ a ∈ e, a.exn.size ≤ maxLen) ∧ ks.length ≤ maxLen ∧ RT.fits ks
def RT.fits : List RT → Prop
  | [] => True
  | t :: ts => RT.fit t ∧ RT.fits ts
end
mutual
def AT.fit : AT → Prop
  | .mk h r rs e t s ks => (h.name.size ≤ maxLen ∧ h.arg.size ≤ maxLen ∧ h.exn.size ≤ maxLen) ∧ rs.length ≤ maxLen ∧ (e.length ≤ maxLen ∧ ∀ a ∈ e, a.exn.size ≤ maxLen) ∧ t.fit ∧ s.fit ∧ ks.length ≤ maxLen ∧ AT.fits ks
def AT.fits : List AT → Prop
  | [] => True
  | t :: ts => AT.fit t ∧ AT.fits ts
end
theorem AT.fits_mem {l : List AT} (h : AT.fits l) : ∀ t ∈ l, t.fit := by
  induction l with
  | nil => simp
  | cons a l ih =>
    intro t ht
    simp only [AT.fits] at h
    rcases List.mem_cons.1 ht with rfl | ht
    · exact h.1
    · exact ih h.2 t ht
theorem RT.fits_mem {l : List RT} (h : RT.fits l) : ∀ t ∈ l, t.fit := by
  induction l with
  | nil => simp
  | cons a l ih =>
    intro t ht
    simp only [RT.fits] at h
    rcases List.mem_cons.1 ht with rfl | ht
    · exact h.1
    · exact ih h.2 t ht

/-- The types, in a program. -/
structure Tys (P : Program) (tU tI tH tAtom tRT tAT sI sAtom sRT sAT : TypeId) : Prop where
  u : flat P 9 tU = some [.i .u8]
  i : flat P 9 tI = some [.i .i64]
  h : flat P 9 tH = some [.i .u8, .i .u8, .i .i64, .i .i64, .s, .s, .s]
  atom : flat P 9 tAtom = some [.i .u8, .i .i64, .s]
  uSI : P.underlying sI = some (.slice tI)
  cI : P.cellsOf tI = 1
  uSAtom : P.underlying sAtom = some (.slice tAtom)
  cAtom : P.cellsOf tAtom = 3
  rt : fieldsOf P tRT = some [(tU, 0, 1), (tI, 1, 1), (sAtom, 2, 1), (sRT, 3, 1)]
  uSRT : P.underlying sRT = some (.slice tRT)
  cRT : P.cellsOf tRT = 4
  at' : fieldsOf P tAT = some [(tH, 0, 7), (tI, 7, 1), (sI, 8, 1), (sAtom, 9, 1), (tRT, 10, 4), (tRT, 14, 4), (sAT, 18, 1)]
  uSAT : P.underlying sAT = some (.slice tAT)
  cAT : P.cellsOf tAT = 19

variable {P : Program} {tU tI tH tAtom tRT tAT sI sAtom sRT sAT : TypeId}

theorem Tys.atoms (T : Tys P tU tI tH tAtom tRT tAT sI sAtom sRT sAT) {cs : List AV} (h : DV P sAtom cs) : ∃ e : List Atom, cs = [effV e] ∧ e.length ≤ maxLen ∧ ∀ a ∈ e, a.exn.size ≤ maxLen := by
  obtain ⟨xs, rfl, hl, hx⟩ := h.slice_inv T.uSAtom
  have : ∃ e : List Atom, xs = e.map Atom.av ∧ ∀ a ∈ e, a.exn.size ≤ maxLen := by
    clear hl h
    induction xs with
    | nil => exact ⟨[], rfl, by simp⟩
    | cons el xs ih =>
      obtain ⟨e, he, hs⟩ := ih (fun el' h' => hx el' (by simp [h']))
      obtain ⟨_, _, rfl, ⟨k, rfl, _⟩, _, _, rfl, ⟨r, rfl, _⟩, _, _, rfl, ⟨s, rfl, hs'⟩, rfl⟩ := flat_spec 9 tAtom _ _ T.atom (hx el (by simp)).1
      refine ⟨⟨k, r, s⟩ :: e, by simp [Atom.av, he], fun a ha => ?_⟩
      rcases List.mem_cons.1 ha with rfl | ha
      · exact hs'
      · exact hs a ha
  obtain ⟨e, he, hs⟩ := this
  refine ⟨e, by rw [T.cAtom, he]; rfl, by rw [he] at hl; simpa using hl, hs⟩
theorem Tys.rhos (T : Tys P tU tI tH tAtom tRT tAT sI sAtom sRT sAT) {cs : List AV} (h : DV P sI cs) : ∃ l : List Int, cs = [rhosV l] ∧ l.length ≤ maxLen := by
  obtain ⟨xs, rfl, hl, hx⟩ := h.slice_inv T.uSI
  have : ∃ l : List Int, xs = l.map fun r => [int r] := by
    clear hl h
    induction xs with
    | nil => exact ⟨[], rfl⟩
    | cons el xs ih =>
      obtain ⟨e, he⟩ := ih (fun el' h' => hx el' (by simp [h']))
      obtain ⟨_, _, rfl, ⟨r, rfl, _⟩, rfl⟩ := flat_spec 9 tI _ _ T.i (hx el (by simp)).1
      exact ⟨r :: e, by simp [he]⟩
  obtain ⟨l, rfl⟩ := this
  exact ⟨l, by rw [T.cI]; rfl, by simpa using hl⟩

theorem sizeOf_drop (n : Nat) (l : List AV) : SizeOf.sizeOf (l.drop n) ≤ SizeOf.sizeOf l := by
  induction l generalizing n with
  | nil => simp
  | cons a l ih =>
    cases n with
    | zero => simp
    | succ n => have := ih n; simp; omega
theorem sizeOf_take (n : Nat) (l : List AV) : SizeOf.sizeOf (l.take n) ≤ SizeOf.sizeOf l := by
  induction l generalizing n with
  | nil => simp
  | cons a l ih =>
    cases n with
    | zero => simp; omega
    | succ n => have := ih n; simp; omega

theorem split4 {α : Type} {l : List α} (h : l.length = 4) : l = (l.drop 0).take 1 ++ (l.drop 1).take 1 ++ (l.drop 2).take 1 ++ (l.drop 3).take 1 := by
  match l, h with
  | [a, b, c, d], _ => rfl
theorem split19 {α : Type} {l : List α} (h : l.length = 19) : l = (l.drop 0).take 7 ++ (l.drop 7).take 1 ++ (l.drop 8).take 1 ++ (l.drop 9).take 1 ++ (l.drop 10).take 4 ++ (l.drop 14).take 4 ++ (l.drop 18).take 1 := by
  match l, h with
  | [a1, a2, a3, a4, a5, a6, a7, a8, a9, a10, a11, a12, a13, a14, a15, a16, a17, a18, a19], _ => rfl

theorem Tys.rtype (T : Tys P tU tI tH tAtom tRT tAT sI sAtom sRT sAT) : ∀ (n : Nat) (cs : List AV), SizeOf.sizeOf cs ≤ n → DV P tRT cs → ∃ t : RT, cs = t.av ∧ t.fit := by
  intro n
  induction n with
  | zero => intro cs h; cases cs <;> simp at h
  | succ n ih =>
    intro cs hn h
    have hl := h.structLen T.rt
    rw [T.cRT] at hl
    have hf := h.fields T.rt
    obtain ⟨_, _, e0, ⟨k, rfl, _⟩, rfl⟩ := flat_spec 9 tU _ _ T.u (hf (tU, 0, 1) (by simp))
    obtain ⟨_, _, e1, ⟨r, rfl, _⟩, rfl⟩ := flat_spec 9 tI _ _ T.i (hf (tI, 1, 1) (by simp))
    obtain ⟨e, e2, he1, he2⟩ := T.atoms (hf (sAtom, 2, 1) (by simp))
    obtain ⟨xs, e3, hxl, hx⟩ := (hf (sRT, 3, 1) (by simp)).slice_inv T.uSRT
    have hsz : ∀ el ∈ xs, SizeOf.sizeOf el ≤ n := by
      intro el hel
      have h1 := List.sizeOf_lt_of_mem hel
      have h2 := sizeOf_take 1 (cs.drop 3)
      have h3 := sizeOf_drop 3 cs
      simp only at e3
      rw [e3] at h2
      simp at h2
      omega
    have : ∃ l : List RT, xs = RT.avs l ∧ RT.fits l := by
      clear e3 hxl
      induction xs with
      | nil => exact ⟨[], rfl, trivial⟩
      | cons el xs ih2 =>
        obtain ⟨l, h1, h2⟩ := ih2 (fun el' h' => hx el' (by simp [h'])) (fun el' h' => hsz el' (by simp [h']))
        obtain ⟨t, h3, h4⟩ := ih el (hsz el (by simp)) (hx el (by simp)).1
        exact ⟨t :: l, by simp [RT.avs, h1, h3], h4, h2⟩
    obtain ⟨l, rfl, hfit⟩ := this
    refine ⟨.mk k r e l, ?_, ?_⟩
    · rw [split4 hl, e0, e1, e2, e3, T.cRT]; rfl
    · simp only [RT.fit]
      exact ⟨he1, he2, by rw [RT.avs_map] at hxl; simpa using hxl, hfit⟩

theorem Tys.aterm (T : Tys P tU tI tH tAtom tRT tAT sI sAtom sRT sAT) : ∀ (n : Nat) (cs : List AV), SizeOf.sizeOf cs ≤ n → DV P tAT cs → ∃ t : AT, cs = t.av ∧ t.fit := by
  intro n
  induction n with
  | zero => intro cs h; cases cs <;> simp at h
  | succ n ih =>
    intro cs hn h
    have hl := h.structLen T.at'
    rw [T.cAT] at hl
    have hf := h.fields T.at'
    obtain ⟨_, _, e0, ⟨h1, rfl, _⟩, _, _, rfl, ⟨h2, rfl, _⟩, _, _, rfl, ⟨h3, rfl, _⟩, _, _, rfl, ⟨h4, rfl, _⟩, _, _, rfl, ⟨h5, rfl, l5⟩, _, _, rfl, ⟨h6, rfl, l6⟩, _, _, rfl, ⟨h7, rfl, l7⟩, rfl⟩ := flat_spec 9 tH _ _ T.h (hf (tH, 0, 7) (by simp))
    obtain ⟨_, _, e1, ⟨r, rfl, _⟩, rfl⟩ := flat_spec 9 tI _ _ T.i (hf (tI, 7, 1) (by simp))
    obtain ⟨rs, e2, hrs⟩ := T.rhos (hf (sI, 8, 1) (by simp))
    obtain ⟨e, e3, he1, he2⟩ := T.atoms (hf (sAtom, 9, 1) (by simp))
    obtain ⟨ty, e4, hty⟩ := T.rtype _ _ (Nat.le_refl _) (hf (tRT, 10, 4) (by simp))
    obtain ⟨re, e5, hre⟩ := T.rtype _ _ (Nat.le_refl _) (hf (tRT, 14, 4) (by simp))
    obtain ⟨xs, e6, hxl, hx⟩ := (hf (sAT, 18, 1) (by simp)).slice_inv T.uSAT
    have hsz : ∀ el ∈ xs, SizeOf.sizeOf el ≤ n := by
      intro el hel
      have h1 := List.sizeOf_lt_of_mem hel
      have h2 := sizeOf_take 1 (cs.drop 18)
      have h3 := sizeOf_drop 18 cs
      simp only at e6
      rw [e6] at h2
      simp at h2
      omega
    have : ∃ l : List AT, xs = AT.avs l ∧ AT.fits l := by
      clear e6 hxl
      induction xs with
      | nil => exact ⟨[], rfl, trivial⟩
      | cons el xs ih2 =>
        obtain ⟨l, h1, h2⟩ := ih2 (fun el' h' => hx el' (by simp [h'])) (fun el' h' => hsz el' (by simp [h']))
        obtain ⟨t, h3, h4⟩ := ih el (hsz el (by simp)) (hx el (by simp)).1
        exact ⟨t :: l, by simp [AT.avs, h1, h3], h4, h2⟩
    obtain ⟨l, rfl, hfit⟩ := this
    refine ⟨.mk ⟨h1, h2, h3, h4, h5, h6, h7⟩ r rs e ty re l, ?_, ?_⟩
    · rw [split19 hl, e0, e1, e2, e3, e4, e5, e6, T.cAT]
      simp [AT.av, Head.av]
    · simp only [AT.fit]
      exact ⟨⟨l5, l6, l7⟩, hrs, ⟨he1, he2⟩, hty, hre, by rw [AT.avs_map] at hxl; simpa using hxl, hfit⟩

end Go.Abs.At
