/-
  Terms without their regions.
-/
import Derived.Test.YtpfaciflhhpokaaGreatDoorAtermDecA
import Derived.Test.YtpfaciflhhpokaaGreatDoorAtD
set_option linter.unusedVariables false
set_option linter.unusedSimpArgs false
namespace Go.Abs.At
open Go Go.Abs Go.Proofs.AtD
noncomputable abbrev PR := Go.Proofs.Tryz.prog
attribute [local simp] Nat.add_assoc

@[simp] theorem AT.av_18 (t : AT) : t.av[18]? = some (AT.vs t.kids) := by
  obtain ⟨h, r, rs, e, ty, re, ks⟩ := t
  obtain ⟨k1, r1, e1, ks1⟩ := ty
  obtain ⟨k2, r2, e2, ks2⟩ := re
  rfl
@[simp] theorem AT.av_18' (t : AT) (h : 18 < t.av.length) : t.av[18]'h = AT.vs t.kids := by
  have := AT.av_18 t
  rw [List.getElem?_eq_getElem h] at this
  exact Option.some.inj this
@[simp] theorem AT.av_0 (t : AT) : t.av[0]? = some (u8 t.h.kind) := by
  obtain ⟨h, r, rs, e, ty, re, ks⟩ := t
  rfl
@[simp] theorem AT.av_0' (t : AT) (h : 0 < t.av.length) : t.av[0]'h = u8 t.h.kind := by
  have := AT.av_0 t
  rw [List.getElem?_eq_getElem h] at this
  exact Option.some.inj this
@[simp] theorem AT.av_head (t : AT) : t.av.head? = some (u8 t.h.kind) := by
  obtain ⟨h, r, rs, e, ty, re, ks⟩ := t
  rfl
@[simp] theorem AT.av_take7 (t : AT) : t.av.take 7 = t.h.av := by
  obtain ⟨h, r, rs, e, ty, re, ks⟩ := t
  rfl
@[simp] theorem AT.av_take19 (t : AT) : t.av.take 19 = t.av := List.take_of_length_le (by simp)
@[simp] theorem AT.avs_len (l : List AT) : (AT.avs l).length = l.length := by simp [AT.avs_map]
@[simp] theorem T.avs_len (l : List T) : (T.avs l).length = l.length := by simp [T.avs_map]

@[simp] theorem T.av_take8 (t : T) : t.av.take 8 = t.av := List.take_of_length_le (by simp)

mutual
def erase : AT → T
  | .mk h r rs e ty re ks => match eraseKids ks with
    | [] => .mk (if h.kind = 18 then { h with kind := 2 } else h) []
    | k :: l => if h.kind = 17 then k else .mk (if h.kind = 18 then { h with kind := 2 } else h) (k :: l)
def eraseKids : List AT → List T
  | [] => []
  | t :: ts => erase t :: eraseKids ts
end
theorem eraseKids_map (l : List AT) : eraseKids l = l.map erase := by
  induction l with
  | nil => rfl
  | cons t l ih => simp [eraseKids, ih]

/-- A row that grows. -/
def Kid (n m sz : Nat) (υ : AHeap) (x : AV) (rows : List (List AV)) : Prop :=
  (x = .val (.slice none 0 0) ∧ rows = []) ∨ ∃ q rest, x = .own q rows.length ∧ υ.get q = some (.cells sz (rows ++ rest)) ∧ n + m ≤ q ∧ q < υ.next
theorem Kid.rows {n m sz υ x rows} (h : Kid n m sz υ x rows) : Rows υ sz x rows := by
  rcases h with h | ⟨q, rest, h1, h2, _⟩
  · exact .inl h
  · exact .inr (.inr ⟨q, rest, h1, h2⟩)
theorem Kid.ns {n m sz υ x rows} (h : Kid n m sz υ x rows) : ∀ c, x ≠ .sl c sz rows := by
  intro c e
  rcases h with ⟨h, _⟩ | ⟨q, rest, h1, h2, _⟩ <;> rw [e] at * <;> first | cases h | cases h1
theorem Kid.grows {n m sz υ ω x rows} (h : Kid n m sz υ x rows) (g : Grows υ ω) : Kid n m sz ω x rows := by
  rcases h with h | ⟨q, rest, h1, h2, h3, h4⟩
  · exact .inl h
  · exact .inr ⟨q, rest, h1, by rw [g.get _ h4]; exact h2, h3, Nat.lt_of_lt_of_le h4 g.next⟩
theorem Kid.set {n m sz υ x rows} (h : Kid n m sz υ x rows) {j : Nat} (hj : j < n + m) (o : AObj) : Kid n m sz (υ.set j o) x rows := by
  rcases h with h | ⟨q, rest, h1, h2, h3, h4⟩
  · exact .inl h
  · exact .inr ⟨q, rest, h1, by rw [get_set, if_neg (by omega)]; exact h2, h3, h4⟩
/-- It has one more. -/
theorem Kid.push {n m sz υ x rows} (h : Kid n m sz υ x rows) (hn : n + m ≤ υ.next) (el : List AV) :
    let ω := (gone x υ).new (.cells sz (rows ++ [el]))
    Kid n m sz ω (.own υ.next (rows.length + 1)) (rows ++ [el]) ∧ (∀ j, j < n + m → ω.get j = υ.get j) ∧ ω.next = υ.next + 1 := by
  refine ⟨.inr ⟨υ.next, [], by simp, by rw [get_new, gone_next, if_pos rfl]; simp, hn, by simp⟩, fun j hj => ?_, by simp⟩
  rw [get_new, gone_next, if_neg (by omega)]
  unfold gone
  split
  · rename_i q len
    rcases h with ⟨h, _⟩ | ⟨q', rest, h1, _, h3, _⟩
    · cases h
    · cases h1
      rw [get_del, if_neg (by omega)]
  · rfl
theorem Kid.app {n m sz υ x rows} (h : Kid n m sz υ x rows) (hn : n + m ≤ υ.next) (els : List (List AV)) :
    let ω := (gone x υ).new (.cells sz (rows ++ els))
    Kid n m sz ω (.own υ.next (rows.length + els.length)) (rows ++ els) ∧ (∀ j, j < n + m → ω.get j = υ.get j) ∧ ω.next = υ.next + 1 := by
  refine ⟨.inr ⟨υ.next, [], by simp, by rw [get_new, gone_next, if_pos rfl]; simp, hn, by simp⟩, fun j hj => ?_, by simp⟩
  rw [get_new, gone_next, if_neg (by omega)]
  unfold gone
  split
  · rename_i q len
    rcases h with ⟨h, _⟩ | ⟨q', rest, h1, _, h3, _⟩
    · cases h
    · cases h1
      rw [get_del, if_neg (by omega)]
  · rfl
theorem Kid.frz {n m sz υ x rows} (h : Kid n m sz υ x rows) (hd : ∀ el ∈ rows, ∀ y ∈ el, Dat y) : Frz υ n x (.sl false sz rows) := by
  rcases h with ⟨rfl, rfl⟩ | ⟨q, rest, rfl, h2, h3, _⟩
  · exact .nil
  · exact FrzR.own (FrzR.refl fun el hel y hy => (hd el hel y hy).low _) (by omega) rfl h2


def eraseHead (h : Head) : Head := if h.kind = 18 then { h with kind := 2 } else h
theorem erase_region {t : AT} {k : AT} {l : List AT} (hk : t.h.kind = 17) (hks : t.kids = k :: l) : erase t = erase k := by
  obtain ⟨h, r, rs, e, ty, re, ks⟩ := t
  simp only [AT.h, AT.kids] at hk hks
  subst hks
  simp [erase, eraseKids, hk]
theorem erase_node {t : AT} (hk : ¬ (t.h.kind = 17 ∧ t.kids ≠ [])) : erase t = .mk (eraseHead t.h) (eraseKids t.kids) := by
  obtain ⟨h, r, rs, e, ty, re, ks⟩ := t
  simp only [AT.h, AT.kids] at hk ⊢
  cases ks with
  | nil => simp [erase, eraseKids, eraseHead]
  | cons k l =>
    have : h.kind ≠ 17 := by simpa using hk
    simp [erase, eraseKids, eraseHead, this]
abbrev zeroA : List AV := [u8 0, u8 0, int 0, int 0, str ByteArray.empty, str ByteArray.empty, str ByteArray.empty, int 0, .val (.slice none 0 0), .val (.slice none 0 0), u8 0, int 0, .val (.slice none 0 0), .val (.slice none 0 0), u8 0, int 0, .val (.slice none 0 0), .val (.slice none 0 0), .val (.slice none 0 0)]
abbrev zeroT : List AV := [u8 0, u8 0, int 0, int 0, str ByteArray.empty, str ByteArray.empty, str ByteArray.empty, .val (.slice none 0 0)]
theorem AT.kids_lt {t k : AT} (h : k ∈ t.kids) : k.size < t.size := by
  obtain ⟨hd, r, rs, e, ty, re, ks⟩ := t
  have := AT.sizes_mem (show k ∈ ks from h)
  simp [AT.size]; omega
theorem AT.kids_len (t : AT) : t.kids.length < t.size := by
  obtain ⟨hd, r, rs, e, ty, re, ks⟩ := t
  have : ∀ l : List AT, l.length ≤ AT.sizes l := by
    intro l
    induction l with
    | nil => simp
    | cons a l ih => have := a.size_pos; simp [AT.sizes]; omega
  have := this ks
  simp [AT.size, AT.kids]; omega
theorem AT.avs_get {l : List AT} {i : Nat} {k : AT} (h : l[i]? = some k) : (AT.avs l)[i]? = some k.av := by rw [AT.avs_map]; simp [h]
theorem erase_take {l : List AT} {i : Nat} {k : AT} (h : l[i]? = some k) : T.avs (eraseKids (l.take (i + 1))) = T.avs (eraseKids (l.take i)) ++ [(erase k).av] := by
  rw [List.take_add_one, h]
  simp [T.avs_map, eraseKids_map]

theorem frzT {τ : AHeap} {n : Nat} {h : Head} {x : AV} {l : List T} (hx : Frz τ n x (.sl false 8 (T.avs l))) : Frz τ n (.agg (h.av ++ [x])) (T.v (.mk h l)) := by
  have : T.av (.mk h l) = h.av ++ [.sl false 8 (T.avs l)] := rfl
  show Frz τ n _ (.agg (T.av (.mk h l)))
  rw [this]
  exact (FrzL.cons (.low (.val _)) (.cons (.low (.val _)) (.cons (.low (.val _)) (.cons (.low (.val _)) (.cons (.low (.val _)) (.cons (.low (.val _)) (.cons (.low (.val _)) (.cons hx .nil)))))))).agg

theorem erase_ev : ∀ (n : Nat) (t : AT), t.size ≤ n → t.size < 1000000000000 → ∀ (σ : AHeap) (k kp : AV → AHeap → Prop), k (erase t).v σ → Ev PR 15 [t.v] σ k kp := by
  intro n
  induction n with
  | zero => intro t h; have := t.size_pos; omega
  | succ n ih =>
    intro t hn hb σ k kp hk
    by_cases hr : t.h.kind = 17 ∧ t.kids ≠ []
    · obtain ⟨c, l, hks⟩ : ∃ c l, t.kids = c :: l := by
        cases h : t.kids with
        | nil => exact absurd h hr.2
        | cons c l => exact ⟨c, l, rfl⟩
      have hc : c ∈ t.kids := by rw [hks]; simp
      have hlt := AT.kids_lt hc
      rw [erase_region hr.1 hks] at hk
      refine Ev.pureD hk ((T.v_dat _).low _) fun k' hk' => ?_
      apply F15_ev; unfold F15
      have hix : ∀ ω, aIndexAddr 19 (AT.vs (c :: l)) (int 0) ω = some (.ref c.av) := fun ω => by rw [aIndexAddr_sl]; simp [AT.avs]
      have hlen : ∀ ω, aLenK .slice (AT.vs (c :: l)) ω = some (int (l.length + 1)) := fun ω => by simp
      simp
      generalize hτ : (σ.new (.cells 19 [t.av])).new (.cells 8 [zeroT]) = τ
      have hg : Grows σ τ := by rw [← hτ]; exact (Grows.new _ _).trans (Grows.new _ _)
      have g0 : τ.get σ.next = some (.cells 19 [t.av]) := by rw [← hτ]; simp [get_new]
      have g1 : τ.get (σ.next + 1) = some (.cells 8 [zeroT]) := by rw [← hτ]; simp [get_new]
      simp [g0, hr.1, hks, hlen, hix, show (0 : Int) < (l.length : Int) + 1 by omega]
      refine ih c (by omega) (by omega) _ _ _ ?_
      simp [g1]
      exact hk' _ (hg.set (by omega) _)
    · rw [erase_node hr] at hk
      refine Ev.pure ?_
      apply F15_ev; unfold F15
      simp
      generalize hτ : (σ.new (.cells 19 [t.av])).new (.cells 8 [zeroT]) = τ
      have hg : Grows σ τ := by rw [← hτ]; exact (Grows.new _ _).trans (Grows.new _ _)
      have hτn : τ.next = σ.next + 2 := by rw [← hτ]; rfl
      have g0 : τ.get σ.next = some (.cells 19 [t.av]) := by rw [← hτ]; simp [get_new]
      have g1 : τ.get (σ.next + 1) = some (.cells 8 [zeroT]) := by rw [← hτ]; simp [get_new]
      have hlen : ∀ ω, aLenK .slice (AT.vs t.kids) ω = some (int t.kids.length) := fun ω => by simp
      have hkl := t.kids_len
      have hz : ((τ.new (.cells 8 [zeroT])).set τ.next (.cells 8 [t.h.av ++ [.val (.slice none 0 0)]])).next = σ.next + 3 := by simp [hτn]
      have hG : Grows σ ((τ.new (.cells 8 [zeroT])).set τ.next (.cells 8 [t.h.av ++ [.val (.slice none 0 0)]])) := (hg.trans (Grows.new _ _)).set (by omega) _
      have z0 : ((τ.new (.cells 8 [zeroT])).set τ.next (.cells 8 [t.h.av ++ [.val (.slice none 0 0)]])).get σ.next = some (.cells 19 [t.av]) := by simp [get_new, get_set, hτn, g0]
      have z1 : ((τ.new (.cells 8 [zeroT])).set τ.next (.cells 8 [t.h.av ++ [.val (.slice none 0 0)]])).get (σ.next + 1) = some (.cells 8 [zeroT]) := by simp [get_new, get_set, hτn, g1]
      have z2 : ((τ.new (.cells 8 [zeroT])).set τ.next (.cells 8 [t.h.av ++ [.val (.slice none 0 0)]])).get (σ.next + 2) = some (.cells 8 [t.h.av ++ [.val (.slice none 0 0)]]) := by simp [get_new, get_set, hτn]
      rw [hτn] at hz hG z0 z1 z2
      generalize hω : (τ.new (.cells 8 [zeroT])).set (σ.next + 2) (.cells 8 [t.h.av ++ [.val (.slice none 0 0)]]) = ω at hz hG z0 z1 z2
      have hav : t.h.av = [u8 t.h.kind, u8 t.h.op, int t.h.pos, int t.h.n, str t.h.name, str t.h.arg, str t.h.exn] := rfl
      have hkn : t.h.kind = 17 → ¬ 0 < t.kids.length := fun h => by
        have : t.kids = [] := Classical.byContradiction fun hh => hr ⟨h, hh⟩
        simp [this]
      by_cases h17 : t.h.kind = 17
      all_goals
        first
          | simp [g0, h17, hlen, hkn h17, get_new, hτn]
          | simp [g0, h17, get_new, hτn]
        rw [hω]
        refine seqW_by (fun fr υ => fr = [(1, .ptr σ.next 0 0), (2, .ptr (σ.next + 1) 0 0), (3, .ptr (σ.next + 2) 0 0)] ∧ Grows σ υ ∧ υ.next = σ.next + 3 ∧ υ.get σ.next = some (.cells 19 [t.av]) ∧ υ.get (σ.next + 1) = some (.cells 8 [zeroT]) ∧ υ.get (σ.next + 2) = some (.cells 8 [(eraseHead t.h).av ++ [.val (.slice none 0 0)]])) ?_ ?_
        · simp [z0]
          by_cases h18 : t.h.kind = 18
          · simp [h18, z2, hav]
            refine ⟨hG.set (by omega) _, hz, by simp [get_set, z0], by simp [get_set, z1], by simp [get_set, eraseHead, h18, Head.av]⟩
          · simp [h18]
            exact ⟨hG, hz, z1, by simp [eraseHead, h18, z2]⟩
        · rintro fr υ ⟨rfl, u1, u2, u3, u4, u5⟩
          refine seqW_in ?_
          simp [u3]
          refine loopW_by (fun i : Nat => [(2, .ptr (σ.next + 1) 0 0), (3, .ptr (σ.next + 2) 0 0), (31, AT.vs t.kids), (32, int t.kids.length), (33, int i)])
            (fun i φ => i ≤ t.kids.length ∧ Grows σ φ ∧ σ.next + 3 ≤ φ.next ∧ φ.get (σ.next + 1) = some (.cells 8 [zeroT]) ∧ ∃ x, φ.get (σ.next + 2) = some (.cells 8 [(eraseHead t.h).av ++ [x]]) ∧ acells x = some [x] ∧ Kid σ.next 3 8 φ x (T.avs (eraseKids (t.kids.take i))))
            (fun fr _ => t.kids.length - (intOf (look fr 33)).toNat) 0 (by simp) ⟨by simp, u1, by omega, u4, _, u5, rfl, .inl ⟨rfl, rfl⟩⟩ ?_
          rintro i φ ⟨hi, f1, f2, f3, x, f4, f5, f6⟩
          simp
          have hheadlen : (eraseHead t.h).av.length = 7 := rfl
          by_cases hil : i < t.kids.length
          · obtain ⟨c, hc⟩ := get_some hil
            have hcm := List.mem_of_getElem? hc
            have hcl := AT.kids_lt hcm
            have hix : ∀ ω, aIndexAddr 19 (AT.vs t.kids) (int i) ω = some (.ref c.av) := fun ω => by rw [aIndexAddr_sl]; simp [AT.avs_get hc]
            simp [hil, hix]
            have d0 : ∀ j, j < φ.next → ((φ.new (.cells 19 [zeroA])).set φ.next (.cells 19 [c.av])).get j = φ.get j := fun j hj => by rw [get_set, if_neg (by omega), get_new, if_neg (by omega)]
            have d1 : Grows φ ((φ.new (.cells 19 [zeroA])).set φ.next (.cells 19 [c.av])) := (Grows.new _ _).set (Nat.le_refl _) _
            have d2 : ((φ.new (.cells 19 [zeroA])).set φ.next (.cells 19 [c.av])).next = φ.next + 1 := rfl
            have d3 : ((φ.new (.cells 19 [zeroA])).set φ.next (.cells 19 [c.av])).get φ.next = some (.cells 19 [c.av]) := by simp
            generalize (φ.new (.cells 19 [zeroA])).set φ.next (.cells 19 [c.av]) = φ1 at d0 d1 d2 d3
            have e3 := f6.grows d1
            have e2 : φ1.get (σ.next + 2) = some (.cells 8 [(eraseHead t.h).av ++ [x]]) := by rw [d0 _ (by omega)]; exact f4
            have e1 : φ1.get (σ.next + 1) = some (.cells 8 [zeroT]) := by rw [d0 _ (by omega)]; exact f3
            simp [e2, d3, List.getElem?_append_right, hheadlen]
            refine ih c (by omega) (by omega) _ _ _ ?_
            simp [e2, List.getElem?_append_right, hheadlen]
            have htl : (eraseKids (t.kids.take i)).length = i := by rw [eraseKids_map]; simp; omega
            have hns := e3.ns
            refine stepK_of (aAppend_rows (by' := 96) e3.rows hns (.inr (.inl ⟨true, rfl⟩)) (by simp [htl]; omega)) ?_
            obtain ⟨p1, p2, p3⟩ := e3.push (by omega) (erase c).av
            generalize (gone x φ1).new (.cells 8 (T.avs (eraseKids (t.kids.take i)) ++ [(erase c).av])) = φ2 at p1 p2 p3
            have q2 : φ2.get (σ.next + 2) = some (.cells 8 [(eraseHead t.h).av ++ [x]]) := by rw [p2 _ (by omega)]; exact e2
            simp [q2, hheadlen]
            have hdrop : List.drop 8 ((eraseHead t.h).av ++ [x]) = [] := List.drop_of_length_le (by simp [hheadlen])
            rw [hdrop, wrap64 (by omega)]
            have hG2 : Grows σ φ2 := ⟨by omega, fun j hj => by rw [p2 j (by omega), d0 j (by omega)]; exact f1.get j hj⟩
            refine ⟨⟨i + 1, by simp, by omega, hG2.set (by omega) _, by omega, by simp [get_set, p2 (σ.next + 1) (by omega), e1], ?_⟩, by omega⟩
            rw [erase_take hc]
            have := p1.set (j := σ.next + 2) (by omega) (.cells 8 [(eraseHead t.h).av ++ [.own φ1.next ((eraseKids (t.kids.take i)).length + 1)]])
            simpa using this
          · have hall : t.kids.take i = t.kids := List.take_of_length_le (by omega)
            rw [hall] at f6
            simp [hil, f4, hheadlen, f3, get_set]
            have htk : List.take 8 ((eraseHead t.h).av ++ [x]) = (eraseHead t.h).av ++ [x] := List.take_of_length_le (by simp [hheadlen])
            rw [htk, htk]
            refine ⟨f1.set (by omega) _, _, frzT (l := eraseKids t.kids) ?_, hk⟩
            exact (f6.set (by omega) _).frz (T.dats _)

theorem erase_ref : ∀ (n : Nat) (t : AT), t.size ≤ n → t.size < 1000000000000 → ∀ (σ : AHeap) (k kp : AV → AHeap → Prop), k (erase t).v σ → Ev PR 13 [t.v] σ k kp := by
  intro n
  induction n with
  | zero => intro t h; have := t.size_pos; omega
  | succ n ih =>
    intro t hn hb σ k kp hk
    by_cases hr : t.h.kind = 17 ∧ t.kids ≠ []
    · obtain ⟨c, l, hks⟩ : ∃ c l, t.kids = c :: l := by
        cases h : t.kids with
        | nil => exact absurd h hr.2
        | cons c l => exact ⟨c, l, rfl⟩
      have hc : c ∈ t.kids := by rw [hks]; simp
      have hlt := AT.kids_lt hc
      rw [erase_region hr.1 hks] at hk
      refine Ev.pureD hk ((T.v_dat _).low _) fun k' hk' => ?_
      apply F13_ev; unfold F13
      have hix : ∀ ω, aIndexAddr 19 (AT.vs (c :: l)) (int 0) ω = some (.ref c.av) := fun ω => by rw [aIndexAddr_sl]; simp [AT.avs]
      have hlen : ∀ ω, aLenK .slice (AT.vs (c :: l)) ω = some (int (l.length + 1)) := fun ω => by simp
      simp
      generalize hτ : (σ.new (.cells 19 [t.av])).new (.cells 8 [zeroT]) = τ
      have hg : Grows σ τ := by rw [← hτ]; exact (Grows.new _ _).trans (Grows.new _ _)
      have g0 : τ.get σ.next = some (.cells 19 [t.av]) := by rw [← hτ]; simp [get_new]
      have g1 : τ.get (σ.next + 1) = some (.cells 8 [zeroT]) := by rw [← hτ]; simp [get_new]
      simp [g0, hr.1, hks, hlen, hix, show (0 : Int) < (l.length : Int) + 1 by omega]
      refine ih c (by omega) (by omega) _ _ _ ?_
      simp [g1]
      exact hk' _ (hg.set (by omega) _)
    · rw [erase_node hr] at hk
      refine Ev.pure ?_
      apply F13_ev; unfold F13
      simp
      generalize hτ : (σ.new (.cells 19 [t.av])).new (.cells 8 [zeroT]) = τ
      have hg : Grows σ τ := by rw [← hτ]; exact (Grows.new _ _).trans (Grows.new _ _)
      have hτn : τ.next = σ.next + 2 := by rw [← hτ]; rfl
      have g0 : τ.get σ.next = some (.cells 19 [t.av]) := by rw [← hτ]; simp [get_new]
      have g1 : τ.get (σ.next + 1) = some (.cells 8 [zeroT]) := by rw [← hτ]; simp [get_new]
      have hlen : ∀ ω, aLenK .slice (AT.vs t.kids) ω = some (int t.kids.length) := fun ω => by simp
      have hkl := t.kids_len
      have hz : ((τ.new (.cells 8 [zeroT])).set τ.next (.cells 8 [t.h.av ++ [.val (.slice none 0 0)]])).next = σ.next + 3 := by simp [hτn]
      have hG : Grows σ ((τ.new (.cells 8 [zeroT])).set τ.next (.cells 8 [t.h.av ++ [.val (.slice none 0 0)]])) := (hg.trans (Grows.new _ _)).set (by omega) _
      have z0 : ((τ.new (.cells 8 [zeroT])).set τ.next (.cells 8 [t.h.av ++ [.val (.slice none 0 0)]])).get σ.next = some (.cells 19 [t.av]) := by simp [get_new, get_set, hτn, g0]
      have z1 : ((τ.new (.cells 8 [zeroT])).set τ.next (.cells 8 [t.h.av ++ [.val (.slice none 0 0)]])).get (σ.next + 1) = some (.cells 8 [zeroT]) := by simp [get_new, get_set, hτn, g1]
      have z2 : ((τ.new (.cells 8 [zeroT])).set τ.next (.cells 8 [t.h.av ++ [.val (.slice none 0 0)]])).get (σ.next + 2) = some (.cells 8 [t.h.av ++ [.val (.slice none 0 0)]]) := by simp [get_new, get_set, hτn]
      rw [hτn] at hz hG z0 z1 z2
      generalize hω : (τ.new (.cells 8 [zeroT])).set (σ.next + 2) (.cells 8 [t.h.av ++ [.val (.slice none 0 0)]]) = ω at hz hG z0 z1 z2
      have hav : t.h.av = [u8 t.h.kind, u8 t.h.op, int t.h.pos, int t.h.n, str t.h.name, str t.h.arg, str t.h.exn] := rfl
      have hkn : t.h.kind = 17 → ¬ 0 < t.kids.length := fun h => by
        have : t.kids = [] := Classical.byContradiction fun hh => hr ⟨h, hh⟩
        simp [this]
      by_cases h17 : t.h.kind = 17
      all_goals
        first
          | simp [g0, h17, hlen, hkn h17, get_new, hτn]
          | simp [g0, h17, get_new, hτn]
        rw [hω]
        refine seqW_by (fun fr υ => fr = [(1, .ptr σ.next 0 0), (2, .ptr (σ.next + 1) 0 0), (3, .ptr (σ.next + 2) 0 0)] ∧ Grows σ υ ∧ υ.next = σ.next + 3 ∧ υ.get σ.next = some (.cells 19 [t.av]) ∧ υ.get (σ.next + 1) = some (.cells 8 [zeroT]) ∧ υ.get (σ.next + 2) = some (.cells 8 [(eraseHead t.h).av ++ [.val (.slice none 0 0)]])) ?_ ?_
        · simp [z0]
          by_cases h18 : t.h.kind = 18
          · simp [h18, z2, hav]
            refine ⟨hG.set (by omega) _, hz, by simp [get_set, z0], by simp [get_set, z1], by simp [get_set, eraseHead, h18, Head.av]⟩
          · simp [h18]
            exact ⟨hG, hz, z1, by simp [eraseHead, h18, z2]⟩
        · rintro fr υ ⟨rfl, u1, u2, u3, u4, u5⟩
          refine seqW_in ?_
          simp [u3]
          refine loopW_by (fun i : Nat => [(1, .ptr σ.next 0 0), (2, .ptr (σ.next + 1) 0 0), (3, .ptr (σ.next + 2) 0 0), (31, int t.kids.length), (32, int i)])
            (fun i φ => i ≤ t.kids.length ∧ Grows σ φ ∧ φ.get σ.next = some (.cells 19 [t.av]) ∧ σ.next + 3 ≤ φ.next ∧ φ.get (σ.next + 1) = some (.cells 8 [zeroT]) ∧ ∃ x, φ.get (σ.next + 2) = some (.cells 8 [(eraseHead t.h).av ++ [x]]) ∧ acells x = some [x] ∧ Kid σ.next 3 8 φ x (T.avs (eraseKids (t.kids.take i))))
            (fun fr _ => t.kids.length - (intOf (look fr 32)).toNat) 0 (by simp) ⟨by simp, u1, u3, by omega, u4, _, u5, rfl, .inl ⟨rfl, rfl⟩⟩ ?_
          rintro i φ ⟨hi, f1, f0, f2, f3, x, f4, f5, f6⟩
          simp
          have hheadlen : (eraseHead t.h).av.length = 7 := rfl
          by_cases hil : i < t.kids.length
          · obtain ⟨c, hc⟩ := get_some hil
            have hcm := List.mem_of_getElem? hc
            have hcl := AT.kids_lt hcm
            have hix : ∀ ω, aIndexAddr 19 (AT.vs t.kids) (int i) ω = some (.ref c.av) := fun ω => by rw [aIndexAddr_sl]; simp [AT.avs_get hc]
            simp [hil, f4, List.getElem?_append_right, hheadlen, f0, hix]
            have e3 := f6
            have e2 := f4
            have e1 := f3
            refine ih c (by omega) (by omega) _ _ _ ?_
            simp [e2, List.getElem?_append_right, hheadlen]
            have htl : (eraseKids (t.kids.take i)).length = i := by rw [eraseKids_map]; simp; omega
            have hns := e3.ns
            refine stepK_of (aAppend_rows (by' := 96) e3.rows hns (.inr (.inl ⟨true, rfl⟩)) (by simp [htl]; omega)) ?_
            obtain ⟨p1, p2, p3⟩ := e3.push (by omega) (erase c).av
            generalize (gone x φ).new (.cells 8 (T.avs (eraseKids (t.kids.take i)) ++ [(erase c).av])) = φ2 at p1 p2 p3
            have q2 : φ2.get (σ.next + 2) = some (.cells 8 [(eraseHead t.h).av ++ [x]]) := by rw [p2 _ (by omega)]; exact e2
            simp [q2, hheadlen]
            have hdrop : List.drop 8 ((eraseHead t.h).av ++ [x]) = [] := List.drop_of_length_le (by simp [hheadlen])
            rw [hdrop, wrap64 (by omega)]
            have hG2 : Grows σ φ2 := ⟨by omega, fun j hj => by rw [p2 j (by omega)]; exact f1.get j hj⟩
            refine ⟨⟨i + 1, by simp, by omega, hG2.set (by omega) _, by simp [get_set, p2 σ.next (by omega), f0], by omega, by simp [get_set, p2 (σ.next + 1) (by omega), e1], ?_⟩, by omega⟩
            rw [erase_take hc]
            have := p1.set (j := σ.next + 2) (by omega) (.cells 8 [(eraseHead t.h).av ++ [.own φ.next ((eraseKids (t.kids.take i)).length + 1)]])
            simpa using this
          · have hall : t.kids.take i = t.kids := List.take_of_length_le (by omega)
            rw [hall] at f6
            simp [hil, f4, hheadlen, f3, get_set]
            have htk : List.take 8 ((eraseHead t.h).av ++ [x]) = (eraseHead t.h).av ++ [x] := List.take_of_length_le (by simp [hheadlen])
            rw [htk, htk]
            refine ⟨f1.set (by omega) _, _, frzT (l := eraseKids t.kids) ?_, hk⟩
            exact (f6.set (by omega) _).frz (T.dats _)


end Go.Abs.At
