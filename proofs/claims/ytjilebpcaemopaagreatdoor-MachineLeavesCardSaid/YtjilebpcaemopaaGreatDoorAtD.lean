import Derived.Test.YtjilebpcaemopaaGreatDoorAtM
import Derived.Test.YtjilebpcaemopaaGreatDoorAtermDecA
import Derived.Test.YtjilebpcaemopaaGreatDoorAbsP
set_option linter.unusedVariables false
set_option linter.unusedSimpArgs false
namespace Go.Abs.At
open Go Go.Abs

mutual
def RT.fit : RT → Prop
  | .mk k r e ks => e.length ≤ maxLen ∧ (∀ a ∈ e, a.exn.size ≤ maxLen) ∧ ks.length ≤ maxLen ∧ RT.fits ks
def RT.fits : List RT → Prop
  | [] => True
  | t :: ts => RT.fit t ∧ RT.fits ts
end
mutual
def AT.fit : AT → Prop
  | .mk h r rs e t s ks => (h.name.size ≤ maxLen ∧ h.arg.size ≤ maxLen ∧ h.exn.size ≤ maxLen) ∧ rs.length ≤ maxLen ∧ (e.length ≤ maxLen ∧ ∀ a ∈ e, a.exn.size ≤ maxLen) ∧ t.fit ∧ s.fit ∧ ks.length ≤ maxLen ∧ AT.fits ks
def AT.fits : List AT → Prop
  | [] => True
  | t :: ts => AT.fit t ∧ AT.fits ts
end
theorem AT.fits_mem {l : List AT} (h : AT.fits l) : ∀ t ∈ l, t.fit := by
  induction l with
  | nil => simp
  | cons a l ih =>
    intro t ht
    simp only [AT.fits] at h
    rcases List.mem_cons.1 ht with rfl | ht
    · exact h.1
    · exact ih h.2 t ht
theorem RT.fits_mem {l : List RT} (h : RT.fits l) : ∀ t ∈ l, t.fit := by
  induction l with
  | nil => simp
  | cons a l ih =>
    intro t ht
    simp only [RT.fits] at h
    rcases List.mem_cons.1 ht with rfl | ht
    · exact h.1
    · exact ih h.2 t ht

/-- The types, in a program. -/
structure Tys (P : Program) (tU tI tH tAtom tRT tAT sI sAtom sRT sAT : TypeId) : Prop where
  u : flat P 9 tU = some [.i .u8]
  i : flat P 9 tI = some [.i .i64]
  h : flat P 9 tH = some [.i .u8, .i .u8, .i .i64, .i .i64, .s, .s, .s]
  atom : flat P 9 tAtom = some [.i .u8, .i .i64, .s]
  uSI : P.underlying sI = some (.slice tI)
  cI : P.cellsOf tI = 1
  uSAtom : P.underlying sAtom = some (.slice tAtom)
  cAtom : P.cellsOf tAtom = 3
  rt : fieldsOf P tRT = some [(tU, 0, 1), (tI, 1, 1), (sAtom, 2, 1), (sRT, 3, 1)]
  uSRT : P.underlying sRT = some (.slice tRT)
  cRT : P.cellsOf tRT = 4
  at' : fieldsOf P tAT = some [(tH, 0, 7), (tI, 7, 1), (sI, 8, 1), (sAtom, 9, 1), (tRT, 10, 4), (tRT, 14, 4), (sAT, 18, 1)]
  uSAT : P.underlying sAT = some (.slice tAT)
  cAT : P.cellsOf tAT = 19

variable {P : Program} {tU tI tH tAtom tRT tAT sI sAtom sRT sAT : TypeId}

theorem Tys.atoms (T : Tys P tU tI tH tAtom tRT tAT sI sAtom sRT sAT) {cs : List AV} (h : DV P sAtom cs) : ∃ e : List Atom, cs = [effV e] ∧ e.length ≤ maxLen ∧ ∀ a ∈ e, a.exn.size ≤ maxLen := by
  obtain ⟨xs, rfl, hl, hx⟩ := h.slice_inv T.uSAtom
  have : ∃ e : List Atom, xs = e.map Atom.av ∧ ∀ a ∈ e, a.exn.size ≤ maxLen := by
    clear hl h
    induction xs with
    | nil => exact ⟨[], rfl, by simp⟩
    | cons el xs ih =>
      obtain ⟨e, he, hs⟩ := ih (fun el' h' => hx el' (by simp [h']))
      obtain ⟨_, _, rfl, ⟨k, rfl, _⟩, _, _, rfl, ⟨r, rfl, _⟩, _, _, rfl, ⟨s, rfl, hs'⟩, rfl⟩ := flat_spec 9 tAtom _ _ T.atom (hx el (by simp)).1
      refine ⟨⟨k, r, s⟩ :: e, by simp [Atom.av, he], fun a ha => ?_⟩
      rcases List.mem_cons.1 ha with rfl | ha
      · exact hs'
      · exact hs a ha
  obtain ⟨e, he, hs⟩ := this
  refine ⟨e, by rw [T.cAtom, he]; rfl, by rw [he] at hl; simpa using hl, hs⟩
theorem Tys.rhos (T : Tys P tU tI tH tAtom tRT tAT sI sAtom sRT sAT) {cs : List AV} (h : DV P sI cs) : ∃ l : List Int, cs = [rhosV l] ∧ l.length ≤ maxLen := by
  obtain ⟨xs, rfl, hl, hx⟩ := h.slice_inv T.uSI
  have : ∃ l : List Int, xs = l.map fun r => [int r] := by
    clear hl h
    induction xs with
    | nil => exact ⟨[], rfl⟩
    | cons el xs ih =>
      obtain ⟨e, he⟩ := ih (fun el' h' => hx el' (by simp [h']))
      obtain ⟨_, _, rfl, ⟨r, rfl, _⟩, rfl⟩ := flat_spec 9 tI _ _ T.i (hx el (by simp)).1
      exact ⟨r :: e, by simp [he]⟩
  obtain ⟨l, rfl⟩ := this
  exact ⟨l, by rw [T.cI]; rfl, by simpa using hl⟩

theorem sizeOf_drop (n : Nat) (l : List AV) : SizeOf.sizeOf (l.drop n) ≤ SizeOf.sizeOf l := by
  induction l generalizing n with
  | nil => simp
  | cons a l ih =>
    cases n with
    | zero => simp
    | succ n => have := ih n; simp; omega
theorem sizeOf_take (n : Nat) (l : List AV) : SizeOf.sizeOf (l.take n) ≤ SizeOf.sizeOf l := by
  induction l generalizing n with
  | nil => simp
  | cons a l ih =>
    cases n with
    | zero => simp; omega
    | succ n => have := ih n; simp; omega

theorem split4 {α : Type} {l : List α} (h : l.length = 4) : l = (l.drop 0).take 1 ++ (l.drop 1).take 1 ++ (l.drop 2).take 1 ++ (l.drop 3).take 1 := by
  match l, h with
  | [a, b, c, d], _ => rfl
theorem split19 {α : Type} {l : List α} (h : l.length = 19) : l = (l.drop 0).take 7 ++ (l.drop 7).take 1 ++ (l.drop 8).take 1 ++ (l.drop 9).take 1 ++ (l.drop 10).take 4 ++ (l.drop 14).take 4 ++ (l.drop 18).take 1 := by
  match l, h with
  | [a1, a2, a3, a4, a5, a6, a7, a8, a9, a10, a11, a12, a13, a14, a15, a16, a17, a18, a19], _ => rfl

theorem Tys.rtype (T : Tys P tU tI tH tAtom tRT tAT sI sAtom sRT sAT) : ∀ (n : Nat) (cs : List AV), SizeOf.sizeOf cs ≤ n → DV P tRT cs → ∃ t : RT, cs = t.av ∧ t.fit := by
  intro n
  induction n with
  | zero => intro cs h; cases cs <;> simp at h
  | succ n ih =>
    intro cs hn h
    have hl := h.structLen T.rt
    rw [T.cRT] at hl
    have hf := h.fields T.rt
    obtain ⟨_, _, e0, ⟨k, rfl, _⟩, rfl⟩ := flat_spec 9 tU _ _ T.u (hf (tU, 0, 1) (by simp))
    obtain ⟨_, _, e1, ⟨r, rfl, _⟩, rfl⟩ := flat_spec 9 tI _ _ T.i (hf (tI, 1, 1) (by simp))
    obtain ⟨e, e2, he1, he2⟩ := T.atoms (hf (sAtom, 2, 1) (by simp))
    obtain ⟨xs, e3, hxl, hx⟩ := (hf (sRT, 3, 1) (by simp)).slice_inv T.uSRT
    have hsz : ∀ el ∈ xs, SizeOf.sizeOf el ≤ n := by
      intro el hel
      have h1 := List.sizeOf_lt_of_mem hel
      have h2 := sizeOf_take 1 (cs.drop 3)
      have h3 := sizeOf_drop 3 cs
      simp only at e3
      rw [e3] at h2
      simp at h2
      omega
    have : ∃ l : List RT, xs = RT.avs l ∧ RT.fits l := by
      clear e3 hxl
      induction xs with
      | nil => exact ⟨[], rfl, trivial⟩
      | cons el xs ih2 =>
        obtain ⟨l, h1, h2⟩ := ih2 (fun el' h' => hx el' (by simp [h'])) (fun el' h' => hsz el' (by simp [h']))
        obtain ⟨t, h3, h4⟩ := ih el (hsz el (by simp)) (hx el (by simp)).1
        exact ⟨t :: l, by simp [RT.avs, h1, h3], h4, h2⟩
    obtain ⟨l, rfl, hfit⟩ := this
    refine ⟨.mk k r e l, ?_, ?_⟩
    · rw [split4 hl, e0, e1, e2, e3, T.cRT]; rfl
    · simp only [RT.fit]
      exact ⟨he1, he2, by rw [RT.avs_map] at hxl; simpa using hxl, hfit⟩

theorem Tys.aterm (T : Tys P tU tI tH tAtom tRT tAT sI sAtom sRT sAT) : ∀ (n : Nat) (cs : List AV), SizeOf.sizeOf cs ≤ n → DV P tAT cs → ∃ t : AT, cs = t.av ∧ t.fit := by
  intro n
  induction n with
  | zero => intro cs h; cases cs <;> simp at h
  | succ n ih =>
    intro cs hn h
    have hl := h.structLen T.at'
    rw [T.cAT] at hl
    have hf := h.fields T.at'
    obtain ⟨_, _, e0, ⟨h1, rfl, _⟩, _, _, rfl, ⟨h2, rfl, _⟩, _, _, rfl, ⟨h3, rfl, _⟩, _, _, rfl, ⟨h4, rfl, _⟩, _, _, rfl, ⟨h5, rfl, l5⟩, _, _, rfl, ⟨h6, rfl, l6⟩, _, _, rfl, ⟨h7, rfl, l7⟩, rfl⟩ := flat_spec 9 tH _ _ T.h (hf (tH, 0, 7) (by simp))
    obtain ⟨_, _, e1, ⟨r, rfl, _⟩, rfl⟩ := flat_spec 9 tI _ _ T.i (hf (tI, 7, 1) (by simp))
    obtain ⟨rs, e2, hrs⟩ := T.rhos (hf (sI, 8, 1) (by simp))
    obtain ⟨e, e3, he1, he2⟩ := T.atoms (hf (sAtom, 9, 1) (by simp))
    obtain ⟨ty, e4, hty⟩ := T.rtype _ _ (Nat.le_refl _) (hf (tRT, 10, 4) (by simp))
    obtain ⟨re, e5, hre⟩ := T.rtype _ _ (Nat.le_refl _) (hf (tRT, 14, 4) (by simp))
    obtain ⟨xs, e6, hxl, hx⟩ := (hf (sAT, 18, 1) (by simp)).slice_inv T.uSAT
    have hsz : ∀ el ∈ xs, SizeOf.sizeOf el ≤ n := by
      intro el hel
      have h1 := List.sizeOf_lt_of_mem hel
      have h2 := sizeOf_take 1 (cs.drop 18)
      have h3 := sizeOf_drop 18 cs
      simp only at e6
      rw [e6] at h2
      simp at h2
      omega
    have : ∃ l : List AT, xs = AT.avs l ∧ AT.fits l := by
      clear e6 hxl
      induction xs with
      | nil => exact ⟨[], rfl, trivial⟩
      | cons el xs ih2 =>
        obtain ⟨l, h1, h2⟩ := ih2 (fun el' h' => hx el' (by simp [h'])) (fun el' h' => hsz el' (by simp [h']))
        obtain ⟨t, h3, h4⟩ := ih el (hsz el (by simp)) (hx el (by simp)).1
        exact ⟨t :: l, by simp [AT.avs, h1, h3], h4, h2⟩
    obtain ⟨l, rfl, hfit⟩ := this
    refine ⟨.mk ⟨h1, h2, h3, h4, h5, h6, h7⟩ r rs e ty re l, ?_, ?_⟩
    · rw [split19 hl, e0, e1, e2, e3, e4, e5, e6, T.cAT]
      simp [AT.av, Head.av]
    · simp only [AT.fit]
      exact ⟨⟨l5, l6, l7⟩, hrs, ⟨he1, he2⟩, hty, hre, by rw [AT.avs_map] at hxl; simpa using hxl, hfit⟩

end Go.Abs.At
set_option linter.unusedVariables false
set_option linter.unusedSimpArgs false
namespace Go.Abs.At
open Go Go.Abs Go.Proofs.AtD
noncomputable abbrev PR := Go.Proofs.Tryz.prog
attribute [local simp] Nat.add_assoc

@[simp] theorem AT.av_18 (t : AT) : t.av[18]? = some (AT.vs t.kids) := by
  obtain ⟨h, r, rs, e, ty, re, ks⟩ := t
  obtain ⟨k1, r1, e1, ks1⟩ := ty
  obtain ⟨k2, r2, e2, ks2⟩ := re
  rfl
@[simp] theorem AT.av_18' (t : AT) (h : 18 < t.av.length) : t.av[18]'h = AT.vs t.kids := by
  have := AT.av_18 t
  rw [List.getElem?_eq_getElem h] at this
  exact Option.some.inj this
@[simp] theorem AT.av_0 (t : AT) : t.av[0]? = some (u8 t.h.kind) := by
  obtain ⟨h, r, rs, e, ty, re, ks⟩ := t
  rfl
@[simp] theorem AT.av_0' (t : AT) (h : 0 < t.av.length) : t.av[0]'h = u8 t.h.kind := by
  have := AT.av_0 t
  rw [List.getElem?_eq_getElem h] at this
  exact Option.some.inj this
@[simp] theorem AT.av_head (t : AT) : t.av.head? = some (u8 t.h.kind) := by
  obtain ⟨h, r, rs, e, ty, re, ks⟩ := t
  rfl
@[simp] theorem AT.av_take7 (t : AT) : t.av.take 7 = t.h.av := by
  obtain ⟨h, r, rs, e, ty, re, ks⟩ := t
  rfl
@[simp] theorem AT.av_take19 (t : AT) : t.av.take 19 = t.av := List.take_of_length_le (by simp)
@[simp] theorem AT.avs_len (l : List AT) : (AT.avs l).length = l.length := by simp [AT.avs_map]
@[simp] theorem T.avs_len (l : List T) : (T.avs l).length = l.length := by simp [T.avs_map]

@[simp] theorem T.av_take8 (t : T) : t.av.take 8 = t.av := List.take_of_length_le (by simp)

/-- A row that grows. -/
def Kid (n m sz : Nat) (υ : AHeap) (x : AV) (rows : List (List AV)) : Prop :=
  (x = .val (.slice none 0 0) ∧ rows = []) ∨ ∃ q rest, x = .own q rows.length ∧ υ.get q = some (.cells sz (rows ++ rest)) ∧ n + m ≤ q ∧ q < υ.next
theorem Kid.rows {n m sz υ x rows} (h : Kid n m sz υ x rows) : Rows υ sz x rows := by
  rcases h with h | ⟨q, rest, h1, h2, _⟩
  · exact .inl h
  · exact .inr (.inr ⟨q, rest, h1, h2⟩)
theorem Kid.ns {n m sz υ x rows} (h : Kid n m sz υ x rows) : ∀ c, x ≠ .sl c sz rows := by
  intro c e
  rcases h with ⟨h, _⟩ | ⟨q, rest, h1, h2, _⟩ <;> rw [e] at * <;> first | cases h | cases h1
theorem Kid.grows {n m sz υ ω x rows} (h : Kid n m sz υ x rows) (g : Grows υ ω) : Kid n m sz ω x rows := by
  rcases h with h | ⟨q, rest, h1, h2, h3, h4⟩
  · exact .inl h
  · exact .inr ⟨q, rest, h1, by rw [g.get _ h4]; exact h2, h3, Nat.lt_of_lt_of_le h4 g.next⟩
theorem Kid.set {n m sz υ x rows} (h : Kid n m sz υ x rows) {j : Nat} (hj : j < n + m) (o : AObj) : Kid n m sz (υ.set j o) x rows := by
  rcases h with h | ⟨q, rest, h1, h2, h3, h4⟩
  · exact .inl h
  · exact .inr ⟨q, rest, h1, by rw [get_set, if_neg (by omega)]; exact h2, h3, h4⟩
/-- It has one more. -/
theorem Kid.push {n m sz υ x rows} (h : Kid n m sz υ x rows) (hn : n + m ≤ υ.next) (el : List AV) :
    let ω := (gone x υ).new (.cells sz (rows ++ [el]))
    Kid n m sz ω (.own υ.next (rows.length + 1)) (rows ++ [el]) ∧ (∀ j, j < n + m → ω.get j = υ.get j) ∧ ω.next = υ.next + 1 := by
  refine ⟨.inr ⟨υ.next, [], by simp, by rw [get_new, gone_next, if_pos rfl]; simp, hn, by simp⟩, fun j hj => ?_, by simp⟩
  rw [get_new, gone_next, if_neg (by omega)]
  unfold gone
  split
  · rename_i q len
    rcases h with ⟨h, _⟩ | ⟨q', rest, h1, _, h3, _⟩
    · cases h
    · cases h1
      rw [get_del, if_neg (by omega)]
  · rfl
theorem Kid.app {n m sz υ x rows} (h : Kid n m sz υ x rows) (hn : n + m ≤ υ.next) (els : List (List AV)) :
    let ω := (gone x υ).new (.cells sz (rows ++ els))
    Kid n m sz ω (.own υ.next (rows.length + els.length)) (rows ++ els) ∧ (∀ j, j < n + m → ω.get j = υ.get j) ∧ ω.next = υ.next + 1 := by
  refine ⟨.inr ⟨υ.next, [], by simp, by rw [get_new, gone_next, if_pos rfl]; simp, hn, by simp⟩, fun j hj => ?_, by simp⟩
  rw [get_new, gone_next, if_neg (by omega)]
  unfold gone
  split
  · rename_i q len
    rcases h with ⟨h, _⟩ | ⟨q', rest, h1, _, h3, _⟩
    · cases h
    · cases h1
      rw [get_del, if_neg (by omega)]
  · rfl
theorem Kid.frz {n m sz υ x rows} (h : Kid n m sz υ x rows) (hd : ∀ el ∈ rows, ∀ y ∈ el, Dat y) : Frz υ n x (.sl false sz rows) := by
  rcases h with ⟨rfl, rfl⟩ | ⟨q, rest, rfl, h2, h3, _⟩
  · exact .nil
  · exact FrzR.own (FrzR.refl fun el hel y hy => (hd el hel y hy).low _) (by omega) rfl h2


abbrev zeroT : List AV := [u8 0, u8 0, int 0, int 0, str ByteArray.empty, str ByteArray.empty, str ByteArray.empty, .val (.slice none 0 0)]
theorem AT.kids_lt {t k : AT} (h : k ∈ t.kids) : k.size < t.size := by
  obtain ⟨hd, r, rs, e, ty, re, ks⟩ := t
  have := AT.sizes_mem (show k ∈ ks from h)
  simp [AT.size]; omega
theorem AT.kids_len (t : AT) : t.kids.length < t.size := by
  obtain ⟨hd, r, rs, e, ty, re, ks⟩ := t
  have : ∀ l : List AT, l.length ≤ AT.sizes l := by
    intro l
    induction l with
    | nil => simp
    | cons a l ih => have := a.size_pos; simp [AT.sizes]; omega
  have := this ks
  simp [AT.size, AT.kids]; omega
theorem AT.avs_get {l : List AT} {i : Nat} {k : AT} (h : l[i]? = some k) : (AT.avs l)[i]? = some k.av := by rw [AT.avs_map]; simp [h]
theorem frzT {τ : AHeap} {n : Nat} {h : Head} {x : AV} {l : List T} (hx : Frz τ n x (.sl false 8 (T.avs l))) : Frz τ n (.agg (h.av ++ [x])) (T.v (.mk h l)) := by
  have : T.av (.mk h l) = h.av ++ [.sl false 8 (T.avs l)] := rfl
  show Frz τ n _ (.agg (T.av (.mk h l)))
  rw [this]
  exact (FrzL.cons (.low (.val _)) (.cons (.low (.val _)) (.cons (.low (.val _)) (.cons (.low (.val _)) (.cons (.low (.val _)) (.cons (.low (.val _)) (.cons (.low (.val _)) (.cons hx .nil)))))))).agg

end Go.Abs.At
set_option linter.unusedVariables false
set_option linter.unusedSimpArgs false
namespace Go.Abs.At
open Go Go.Abs Go.Proofs.AtD
attribute [local simp] Nat.add_assoc

def effOk (e : List Atom) : Prop := e.length ≤ 100 ∧ ∀ a ∈ e, a.exn.size ≤ 100
theorem effGreat_ev {e : List Atom} {σ : AHeap} {k kp : AV → AHeap → Prop} (hk : ∀ b : Bool, (b = false → effOk e) → k (.val (.bool b)) σ) : Ev PR 69 [effV e] σ k kp := by
  apply F69_ev; unfold F69
  have hlen : ∀ ω, aLenK .slice (effV e) ω = some (int e.length) := fun ω => by simp [effV]
  simp [hlen]
  by_cases h : (100 : Int) < e.length
  · simp [h]
    exact hk true (by simp)
  · simp [h]
    refine seqW_in ?_
    refine loopW_by (fun i : Nat => [(0, effV e), (8, int e.length), (9, int i)]) (fun i τ => τ = σ ∧ i ≤ e.length ∧ ∀ a ∈ e.take i, a.exn.size ≤ 100) (fun fr _ => e.length - (intOf (look fr 9)).toNat) 0 (by simp) ⟨rfl, by simp, by simp⟩ ?_
    rintro i τ ⟨rfl, hi, hall⟩
    simp
    by_cases hil : i < e.length
    · obtain ⟨a, ha⟩ := get_some hil
      have hix : ∀ ω, aIndexAddr 3 (effV e) (int i) ω = some (.ref a.av) := fun ω => by unfold effV; rw [aIndexAddr_sl]; simp [ha]
      have htk : e.take (i + 1) = e.take i ++ [a] := by rw [List.take_add_one, ha]; rfl
      simp [hil, hix, Atom.av]
      by_cases h2 : (100 : Int) < a.exn.size
      · simp [h2]
        exact hk true (by simp)
      · simp [h2]
        rw [wrap64 (by omega)]
        refine ⟨⟨i + 1, by simp, by omega, ?_⟩, by omega⟩
        rw [htk]
        intro x hx
        rcases List.mem_append.1 hx with h | h
        · exact hall x h
        · simp at h; subst h; omega
    · simp [hil]
      refine hk false fun _ => ⟨by omega, fun a ha => hall a ?_⟩
      rw [List.take_of_length_le (by omega)]; exact ha

mutual
def RT.small : RT → Prop
  | .mk k r e ks => effOk e ∧ RT.smalls ks
def RT.smalls : List RT → Prop
  | [] => True
  | t :: ts => RT.small t ∧ RT.smalls ts
end
theorem RT.smalls_of {l : List RT} (h : ∀ t ∈ l, t.small) : RT.smalls l := by
  induction l with
  | nil => trivial
  | cons a l ih => exact ⟨h a (by simp), ih fun t ht => h t (by simp [ht])⟩
theorem RT.sizes_take {l : List RT} {i : Nat} {c : RT} (h : l[i]? = some c) : RT.sizes (l.take (i + 1)) = RT.sizes (l.take i) + c.size := by
  have : ∀ (l m : List RT), RT.sizes (l ++ m) = RT.sizes l + RT.sizes m := by
    intro l m
    induction l with
    | nil => simp [RT.sizes]
    | cons a l ih => simp [RT.sizes, ih]
  rw [List.take_add_one, h, this]
  simp [RT.sizes]

theorem rleft_ev : ∀ (N : Nat) (t : RT), t.size ≤ N → t.fit → ∀ (n : Int), 0 ≤ n ∧ n ≤ 400 → ∀ (σ : AHeap) (k kp : AV → AHeap → Prop), (∀ m : Int, -1 ≤ m ∧ m ≤ n - 1 → (0 ≤ m → (t.size : Int) ≤ n - m ∧ t.small) → k (int m) σ) → Ev PR 112 [t.v, int n] σ k kp := by
  intro N
  induction N with
  | zero => intro t h; have := t.size_pos; omega
  | succ N ih =>
    intro t hN hfit n hn σ k kp hk
    refine Ev.pureE ?_
    apply F112_ev; unfold F112
    simp
    rw [wrap64 (by omega)]
    refine effGreat_ev fun b hb => ?_
    cases b with
    | true =>
      simp
      exact ⟨Grows.new _ _, .val _, hk (-1) (by omega) (by omega)⟩
    | false =>
      have he := hb rfl
      simp
      refine seqW_in ?_
      have hlen : ∀ ω, aLenK .slice (RT.vs t.kids) ω = some (int t.kids.length) := fun ω => by simp
      have hkl : t.kids.length ≤ maxLen := by obtain ⟨a, b, c, d⟩ := t; exact hfit.2.2.1
      have hks : RT.fits t.kids := by obtain ⟨a, b, c, d⟩ := t; exact hfit.2.2.2
      have hmax : maxLen = 9223372036854775807 := rfl
      have hsz : t.size = 1 + RT.sizes t.kids := by obtain ⟨a, b, c, d⟩ := t; rfl
      refine loopW_by (fun p : Nat × Int => [(1, int p.2), (2, .ptr σ.next 0 0), (5, int p.1)])
        (fun p τ => τ = σ.new (.cells 4 [t.av]) ∧ p.1 ≤ t.kids.length ∧ -1 ≤ p.2 ∧ p.2 ≤ n - 1 ∧ (0 ≤ p.2 → (1 + RT.sizes (t.kids.take p.1) : Int) ≤ n - p.2 ∧ ∀ c ∈ t.kids.take p.1, c.small))
        (fun fr _ => t.kids.length - (intOf (look fr 5)).toNat) (0, n - 1) (by simp) ⟨rfl, by simp, by omega, by omega, fun _ => ⟨by simp [RT.sizes]; omega, by simp⟩⟩ ?_
      rintro ⟨i, m⟩ τ ⟨rfl, hi, h1, h2, h3⟩
      simp only at hi h1 h2 h3
      simp [hlen]
      by_cases hil : i < t.kids.length
      · obtain ⟨c, hc⟩ := get_some hil
        have hcm := List.mem_of_getElem? hc
        have hcl := RT.kids_lt hcm
        have hix : ∀ ω, aIndexAddr 4 (RT.vs t.kids) (int i) ω = some (.ref c.av) := fun ω => by rw [aIndexAddr_sl]; simp [RT.avs_get hc]
        simp [hil]
        by_cases h0 : 0 ≤ m
        · simp [h0, hix]
          obtain ⟨h4, h5⟩ := h3 h0
          refine ih c (by omega) (RT.fits_mem hks c hcm) m (by omega) _ _ _ fun m' hm1 hm2 => ?_
          simp
          rw [wrap64 (by omega)]
          refine ⟨⟨i + 1, m', ⟨rfl, by omega⟩, by omega, by omega, by omega, fun hm0 => ?_⟩, by omega⟩
          obtain ⟨h6, h7⟩ := hm2 hm0
          refine ⟨by rw [RT.sizes_take hc]; omega, ?_⟩
          rw [List.take_add_one, hc]
          intro x hx
          rcases List.mem_append.1 hx with h | h
          · exact h5 x h
          · simp at h; subst h; exact h7
        · simp [h0]
          exact ⟨Grows.new _ _, .val _, hk m (by omega) (by omega)⟩
      · have hall : t.kids.take i = t.kids := List.take_of_length_le (by omega)
        rw [hall] at h3
        simp [hil]
        refine ⟨Grows.new _ _, .val _, hk m (by omega) fun h0 => ?_⟩
        obtain ⟨h4, h5⟩ := h3 h0
        refine ⟨by omega, ?_⟩
        obtain ⟨a, b, c, d⟩ := t
        exact ⟨he, RT.smalls_of h5⟩
theorem rgreat_ev {t : RT} (hfit : t.fit) {σ : AHeap} {k kp : AV → AHeap → Prop} (hk : ∀ b : Bool, (b = false → t.size ≤ 100 ∧ t.small) → k (.val (.bool b)) σ) : Ev PR 70 [t.v] σ k kp := by
  refine Ev.pureE ?_
  apply F70_ev; unfold F70
  simp
  refine rleft_ev _ t (Nat.le_refl _) hfit 100 (by omega) _ _ _ fun m h1 h2 => ?_
  simp
  refine ⟨Grows.new _ _, .val _, hk _ fun h => ?_⟩
  simp at h
  obtain ⟨h3, h4⟩ := h2 h
  exact ⟨by omega, h4⟩


def Head.small (h : Head) : Prop := h.name.size ≤ 100 ∧ h.arg.size ≤ 100 ∧ h.exn.size ≤ 100
mutual
def AT.small : AT → Prop
  | .mk h r rs e t s ks => h.small ∧ rs.length ≤ 50 ∧ effOk e ∧ (t.size ≤ 100 ∧ t.small) ∧ (s.size ≤ 100 ∧ s.small) ∧ AT.smalls ks
def AT.smalls : List AT → Prop
  | [] => True
  | t :: ts => AT.small t ∧ AT.smalls ts
end
theorem AT.smalls_of {l : List AT} (h : ∀ t ∈ l, t.small) : AT.smalls l := by
  induction l with
  | nil => trivial
  | cons a l ih => exact ⟨h a (by simp), ih fun t ht => h t (by simp [ht])⟩
theorem AT.smalls_mem {l : List AT} (h : AT.smalls l) : ∀ t ∈ l, t.small := by
  induction l with
  | nil => simp
  | cons a l ih =>
    intro t ht
    simp only [AT.smalls] at h
    rcases List.mem_cons.1 ht with rfl | ht
    · exact h.1
    · exact ih h.2 t ht
theorem AT.sizes_take {l : List AT} {i : Nat} {c : AT} (h : l[i]? = some c) : AT.sizes (l.take (i + 1)) = AT.sizes (l.take i) + c.size := by
  have : ∀ (l m : List AT), AT.sizes (l ++ m) = AT.sizes l + AT.sizes m := by
    intro l m
    induction l with
    | nil => simp [AT.sizes]
    | cons a l ih => simp [AT.sizes, ih]
  rw [List.take_add_one, h, this]
  simp [AT.sizes]

theorem left_ev : ∀ (N : Nat) (t : AT), t.size ≤ N → t.fit → ∀ (n : Int), 0 ≤ n ∧ n ≤ 400 → ∀ (σ : AHeap) (k kp : AV → AHeap → Prop), (∀ m : Int, -1 ≤ m ∧ m ≤ n - 1 → (0 ≤ m → (t.size : Int) ≤ n - m ∧ t.small) → k (int m) σ) → Ev PR 38 [t.v, int n] σ k kp := by
  intro N
  induction N with
  | zero => intro t h; have := t.size_pos; omega
  | succ N ih =>
    intro t hN hfit n hn σ k kp hk
    have hbad : k (int (-1)) σ := hk (-1) (by omega) (by omega)
    have hf : t.type.fit ∧ t.res.fit ∧ t.kids.length ≤ maxLen ∧ AT.fits t.kids := by obtain ⟨a, b, c, d, e, f, g⟩ := t; exact hfit.2.2.2
    refine Ev.pureE ?_
    apply F38_ev; unfold F38
    have hG : Grows σ (σ.new (.cells 19 [t.av])) := Grows.new _ _
    have hr : ∀ ω, aLenK .slice (rhosV t.rhos) ω = some (int t.rhos.length) := fun ω => by simp [rhosV]
    simp
    rw [wrap64 (by omega)]
    by_cases a1 : (100 : Int) < t.h.name.size
    · simp [a1]; exact ⟨hG, .val _, hbad⟩
    by_cases a2 : (100 : Int) < t.h.arg.size
    · simp [a1, a2]; exact ⟨hG, .val _, hbad⟩
    by_cases a3 : (100 : Int) < t.h.exn.size
    · simp [a1, a2, a3]; exact ⟨hG, .val _, hbad⟩
    by_cases a4 : (50 : Int) < t.rhos.length
    · simp [a1, a2, a3, hr, a4]; exact ⟨hG, .val _, hbad⟩
    simp [a1, a2, a3, hr, a4]
    refine effGreat_ev fun b hb => ?_
    cases b with
    | true => simp; exact ⟨hG, .val _, hbad⟩
    | false =>
      have he := hb rfl
      simp
      refine rgreat_ev hf.1 fun b hb => ?_
      cases b with
      | true => simp; exact ⟨hG, .val _, hbad⟩
      | false =>
        have ht := hb rfl
        simp
        refine rgreat_ev hf.2.1 fun b hb => ?_
        cases b with
        | true => simp; exact ⟨hG, .val _, hbad⟩
        | false =>
          have hre := hb rfl
          simp
          refine seqW_in ?_
          have hlen : ∀ ω, aLenK .slice (AT.vs t.kids) ω = some (int t.kids.length) := fun ω => by simp
          have hkl : t.kids.length ≤ maxLen := hf.2.2.1
          have hks : AT.fits t.kids := hf.2.2.2
          have hmax : maxLen = 9223372036854775807 := rfl
          have hsz : t.size = 1 + AT.sizes t.kids := by obtain ⟨a, b, c, d, e, f, g⟩ := t; rfl
          refine loopW_by (fun p : Nat × Int => [(1, int p.2), (2, .ptr σ.next 0 0), (5, int p.1)])
            (fun p τ => τ = σ.new (.cells 19 [t.av]) ∧ p.1 ≤ t.kids.length ∧ -1 ≤ p.2 ∧ p.2 ≤ n - 1 ∧ (0 ≤ p.2 → (1 + AT.sizes (t.kids.take p.1) : Int) ≤ n - p.2 ∧ ∀ c ∈ t.kids.take p.1, c.small))
            (fun fr _ => t.kids.length - (intOf (look fr 5)).toNat) (0, n - 1) (by simp) ⟨rfl, by simp, by omega, by omega, fun _ => ⟨by simp [AT.sizes]; omega, by simp⟩⟩ ?_
          rintro ⟨i, m⟩ τ ⟨rfl, hi, h1, h2, h3⟩
          simp only at hi h1 h2 h3
          simp [hlen]
          by_cases hil : i < t.kids.length
          · obtain ⟨c, hc⟩ := get_some hil
            have hcm := List.mem_of_getElem? hc
            have hcl := AT.kids_lt hcm
            have hix : ∀ ω, aIndexAddr 19 (AT.vs t.kids) (int i) ω = some (.ref c.av) := fun ω => by rw [aIndexAddr_sl]; simp [AT.avs_get hc]
            simp [hil]
            by_cases h0 : 0 ≤ m
            · simp [h0, hix]
              obtain ⟨h4, h5⟩ := h3 h0
              refine ih c (by omega) (AT.fits_mem hks c hcm) m (by omega) _ _ _ fun m' hm1 hm2 => ?_
              simp
              rw [wrap64 (by omega)]
              refine ⟨⟨i + 1, m', ⟨rfl, by omega⟩, by omega, by omega, by omega, fun hm0 => ?_⟩, by omega⟩
              obtain ⟨h6, h7⟩ := hm2 hm0
              refine ⟨by rw [AT.sizes_take hc]; omega, ?_⟩
              rw [List.take_add_one, hc]
              intro x hx
              rcases List.mem_append.1 hx with h | h
              · exact h5 x h
              · simp at h; subst h; exact h7
            · simp [h0]
              exact ⟨hG, .val _, hk m (by omega) (by omega)⟩
          · have hall : t.kids.take i = t.kids := List.take_of_length_le (by omega)
            rw [hall] at h3
            simp [hil]
            refine ⟨hG, .val _, hk m (by omega) fun h0 => ?_⟩
            obtain ⟨h4, h5⟩ := h3 h0
            refine ⟨by omega, ?_⟩
            obtain ⟨a, b, c, d, e, f, g⟩ := t
            simp only [AT.h, AT.rhos, AT.eff, AT.type, AT.res, AT.kids] at *
            exact ⟨⟨by omega, by omega, by omega⟩, by omega, he, ht, hre, AT.smalls_of h5⟩
theorem great_ev {t : AT} (hfit : t.fit) {σ : AHeap} {k kp : AV → AHeap → Prop} (hk : ∀ b : Bool, (b = false → t.size ≤ 400 ∧ t.small) → k (.val (.bool b)) σ) : Ev PR 22 [t.v] σ k kp := by
  refine Ev.pureE ?_
  apply F22_ev; unfold F22
  simp
  refine left_ev _ t (Nat.le_refl _) hfit 400 (by omega) _ _ _ fun m h1 h2 => ?_
  simp
  refine ⟨Grows.new _ _, .val _, hk _ fun h => ?_⟩
  simp at h
  obtain ⟨h3, h4⟩ := h2 h
  exact ⟨by omega, h4⟩

end Go.Abs.At
set_option linter.unusedVariables false
set_option linter.unusedSimpArgs false
namespace Go.Abs.At
open Go Go.Abs Go.Proofs.AtD
attribute [local simp] Nat.add_assoc

end Go.Abs.At
set_option linter.unusedVariables false
set_option linter.unusedSimpArgs false
namespace Go.Abs.At
open Go Go.Abs Go.Proofs.AtD
attribute [local simp] Nat.add_assoc

mutual
/-- All nodes, each ahead of its kids. -/
def AT.all : AT → List AT
  | .mk h r rs e t s ks => .mk h r rs e t s ks :: AT.alls ks
def AT.alls : List AT → List AT
  | [] => []
  | t :: ts => AT.all t ++ AT.alls ts
end
mutual
theorem AT.all_len : ∀ t : AT, t.all.length = t.size
  | .mk h r rs e t s ks => by simp [AT.all, AT.size, AT.alls_len ks, Nat.add_comm 1]
theorem AT.alls_len : ∀ l : List AT, (AT.alls l).length = AT.sizes l
  | [] => rfl
  | t :: ts => by simp [AT.alls, AT.sizes, AT.all_len t, AT.alls_len ts]
end
theorem AT.alls_append (l m : List AT) : AT.alls (l ++ m) = AT.alls l ++ AT.alls m := by
  induction l with
  | nil => rfl
  | cons t l ih => simp [AT.alls, ih]
theorem AT.sizes_append (l m : List AT) : AT.sizes (l ++ m) = AT.sizes l + AT.sizes m := by
  induction l with
  | nil => simp [AT.sizes]
  | cons t l ih => simp [AT.sizes, ih]
theorem AT.all_eq (t : AT) : t.all = t :: AT.alls t.kids := by cases t; rfl
theorem AT.size_eq (t : AT) : t.size = 1 + AT.sizes t.kids := by cases t; rfl
theorem AT.len_sizes (l : List AT) : l.length ≤ AT.sizes l := by
  induction l with
  | nil => simp
  | cons a l ih => have := a.size_pos; simp [AT.sizes]; omega
theorem AT.sizes_take_le (l : List AT) (i : Nat) : AT.sizes (l.take i) ≤ AT.sizes l := by
  conv => rhs; rw [← List.take_append_drop i l, AT.sizes_append]
  omega
theorem AT.alls_at {l : List AT} {j m : Nat} {t x : AT} (h : l[j]? = some t) (hm : t.all[m]? = some x) : (AT.alls l)[AT.sizes (l.take j) + m]? = some x := by
  have hj : j < l.length := (List.getElem?_eq_some_iff.1 h).1
  have e : l = l.take j ++ t :: l.drop (j + 1) := by
    have h2 : l[j] = t := by rw [List.getElem?_eq_getElem hj] at h; exact Option.some.inj h
    rw [← h2, ← List.drop_eq_getElem_cons hj, List.take_append_drop]
  have hm' : m < t.all.length := (List.getElem?_eq_some_iff.1 hm).1
  conv => lhs; rw [e, AT.alls_append]
  rw [List.getElem?_append_right (by rw [AT.alls_len, ← e]; omega)]
  simp only [AT.alls]
  rw [List.getElem?_append_left (by rw [AT.alls_len, ← e]; omega), AT.alls_len, ← e, Nat.add_sub_cancel_left]
  exact hm

/-- What may change: the objects below 'b', those of other sizes, and new ones. -/
structure Up (sz b : Nat) (σ τ : AHeap) : Prop where
  next : σ.next ≤ τ.next
  get : ∀ i els, b ≤ i → i < σ.next → σ.get i = some (.cells sz els) → τ.get i = σ.get i
theorem Up.refl (sz b σ) : Up sz b σ σ := ⟨Nat.le_refl _, fun _ _ _ _ _ => rfl⟩
theorem Up.trans {sz b σ τ υ} (h : Up sz b σ τ) (k : Up sz b τ υ) : Up sz b σ υ := ⟨Nat.le_trans h.next k.next, fun i els h1 h2 h3 => (k.get i els h1 (Nat.lt_of_lt_of_le h2 h.next) (by rw [h.get i els h1 h2 h3]; exact h3)).trans (h.get i els h1 h2 h3)⟩
theorem Up.of {sz b σ τ} (h : Grows σ τ) : Up sz b σ τ := ⟨h.next, fun i _ _ hi _ => h.get i hi⟩

theorem each_ev (g : FuncId) (cap : List AV) (b : Nat) (S : AHeap → Prop) : ∀ (N : Nat) (l : List AT), AT.sizes l ≤ N → AT.sizes l < 1000000000000 → ∀ (I : Nat → AHeap → Prop), (∀ i σ τ, I i σ → Grows σ τ → I i τ) →
    (∀ (i : Nat) t, (AT.alls l)[i]? = some t → ∀ (σ : AHeap) (k kp : AV → AHeap → Prop), b ≤ σ.next → I i σ → (∀ τ, Up 19 b σ τ → I (i + 1) τ → k (.val (.bool true)) τ) → (∀ τ, Up 19 b σ τ → S τ → k (.val (.bool false)) τ) → Ev PR g (t.v :: cap) σ k kp) →
    ∀ (σ : AHeap) (k kp : AV → AHeap → Prop), b ≤ σ.next → I 0 σ → (∀ τ, Up 19 b σ τ → I (AT.sizes l) τ → k (.val (.bool true)) τ) → (∀ τ, Up 19 b σ τ → S τ → k (.val (.bool false)) τ) → Ev PR 40 [.fn (.func g) cap, AT.vs l] σ k kp := by
  intro N
  induction N with
  | zero =>
    intro l hl hb I hI hc σ k kp hbs h0 hT hF
    cases l with
    | nil =>
      apply F40_ev; unfold F40
      simp [AT.avs]
      refine seqW_in ?_
      refine loopW_by (fun _ : Unit => [(0, .fn (.func g) cap), (7, AT.vs []), (8, int 0), (9, int 0)]) (fun _ φ => φ = σ) (fun _ _ => 0) () (by simp [AT.avs]) rfl ?_
      rintro ⟨⟩ φ rfl
      simp
      exact hT _ (Up.refl _ _ _) h0
    | cons t l => have := t.size_pos; simp [AT.sizes] at hl; omega
  | succ N ih =>
    intro l hl hb I hI hc σ k kp hbs h0 hT hF
    apply F40_ev; unfold F40
    simp
    refine seqW_in ?_
    have hll := AT.len_sizes l
    refine loopW_by (fun j : Nat => [(0, .fn (.func g) cap), (7, AT.vs l), (8, int l.length), (9, int j)]) (fun j φ => j ≤ l.length ∧ Up 19 b σ φ ∧ b ≤ φ.next ∧ I (AT.sizes (l.take j)) φ) (fun fr _ => l.length - (intOf (look fr 9)).toNat) 0 (by simp) ⟨by simp, Up.refl _ _ _, hbs, by simpa [AT.sizes] using h0⟩ ?_
    rintro j φ ⟨hj, hu, hbf, hIj⟩
    simp
    by_cases hjl : j < l.length
    · obtain ⟨t, ht⟩ := get_some hjl
      have htm := List.mem_of_getElem? ht
      have hix : ∀ ω, aIndexAddr 19 (AT.vs l) (int j) ω = some (.ref t.av) := fun ω => by rw [aIndexAddr_sl]; simp [AT.avs_get ht]
      have hst := AT.sizes_take ht
      have hle := AT.sizes_take_le l (j + 1)
      have hse := t.size_eq
      simp [hjl, hix]
      generalize hφ1 : AHeap.set (φ.new _) _ _ = φ1
      have hgr : Grows φ φ1 := by rw [← hφ1]; exact (Grows.new _ _).set (Nat.le_refl _) _
      have hn1 : φ1.next = φ.next + 1 := by rw [← hφ1]; simp
      have hg1 : φ1.get φ.next = some (.cells 19 [t.av]) := by rw [← hφ1]; simp [get_set]
      have hin : ∀ (m : Nat) x, t.all[m]? = some x → (AT.alls l)[AT.sizes (l.take j) + m]? = some x := fun m x hm => AT.alls_at ht hm
      have h00 : (AT.alls l)[AT.sizes (l.take j)]? = some t := by have := hin 0 t (by rw [AT.all_eq]; rfl); simpa using this
      refine hc _ t h00 φ1 _ _ (by omega) (hI _ _ _ hIj hgr) (fun τ hu2 hI2 => ?_) (fun τ hu2 hS => ?_)
      · have hg2 : τ.get φ.next = some (.cells 19 [t.av]) := by rw [hu2.get _ _ hbf (by omega) hg1]; exact hg1
        have hn2 := hu2.next
        simp [hg2]
        refine ih t.kids (by omega) (by omega) (fun i => I (AT.sizes (l.take j) + 1 + i)) (fun i => hI _) (fun i x hx => ?_) τ _ _ (by omega) (by simpa using hI2) (fun υ hu3 hI3 => ?_) (fun υ hu3 hS => ?_)
        · have := hin (i + 1) x (by rw [AT.all_eq]; simpa using hx)
          intro σ' k' kp' q1 q2 q3 q4
          exact hc _ x this σ' k' kp' q1 (by simpa [Nat.add_comm, Nat.add_left_comm] using q2) (fun τ' w1 w2 => q3 τ' w1 (by simpa [Nat.add_comm, Nat.add_left_comm] using w2)) q4
        · simp
          rw [wrap64 (by omega)]
          have huu := ((hu.trans (Up.of hgr)).trans hu2).trans hu3
          exact ⟨⟨j + 1, by simp, by omega, huu, by have := hu3.next; omega, by rw [hst, hse]; simpa [Nat.add_assoc] using hI3⟩, by omega⟩
        · simp
          exact hF _ (((hu.trans (Up.of hgr)).trans hu2).trans hu3) hS
      · simp
        exact hF _ ((hu.trans (Up.of hgr)).trans hu2) hS
    · have hall : l.take j = l := List.take_of_length_le (by omega)
      rw [hall] at hIj
      simp [hjl]
      exact hT _ hu hIj

/-- How many nodes terms have. -/
theorem sizes_ev {l : List AT} (hb : AT.sizes l < 1000000000000) {σ : AHeap} {k kp : AV → AHeap → Prop} (hk : k (int (AT.sizes l)) σ) : Ev PR 39 [AT.vs l] σ k kp := by
  refine Ev.pureD hk ((Dat.val _).low _) fun k' hk' => ?_
  apply F39_ev; unfold F39
  simp
  generalize hσ1 : AHeap.set (σ.new _) _ _ = σ1
  have hg : Grows σ σ1 := by rw [← hσ1]; exact (Grows.new _ _).set (Nat.le_refl _) _
  have hn1 : σ1.next = σ.next + 1 := by rw [← hσ1]; simp
  have hg1 : σ1.get σ.next = some (.cells 1 [[int 0]]) := by rw [← hσ1]; simp [get_set]
  refine each_ev 71 [.ptr σ.next 0 0] (σ.next + 1) (fun _ => False) _ l (Nat.le_refl _) hb (fun i φ => Grows σ φ ∧ σ.next < φ.next ∧ φ.get σ.next = some (.cells 1 [[int i]])) ?_ ?_ σ1 _ _ (by omega) ⟨hg, by omega, hg1⟩ ?_ ?_
  · rintro i φ ψ ⟨h1, h2, h3⟩ h4
    exact ⟨h1.trans h4, Nat.lt_of_lt_of_le h2 h4.next, by rw [h4.get _ h2]; exact h3⟩
  · rintro i t hi φ q qp hbφ ⟨h1, h2, h3⟩ hT hF
    have hil : i < AT.sizes l := by rw [← AT.alls_len]; exact (List.getElem?_eq_some_iff.1 hi).1
    apply F71_ev; unfold F71
    simp [h3, get_new, show σ.next ≠ φ.next by omega]
    rw [wrap64 (by omega)]
    refine hT _ ⟨by simp, fun j _ h5 h6 _ => by rw [get_set, if_neg (by omega), get_new, if_neg (by omega)]⟩ ⟨⟨by simp; omega, fun j hj => by rw [get_set, if_neg (by omega), get_new, if_neg (by omega)]; exact h1.get j hj⟩, by simp; omega, by simp [get_set]⟩
  · rintro τ hu ⟨h1, h2, h3⟩
    simp [h3]
    exact hk' _ h1
  · intro τ _ h; exact h.elim
end Go.Abs.At
