/-
  The document's example: its nodes may be.
-/
import Derived.Test.YtpfaciflhhpokaaGreatDoorAtK
set_option linter.unusedVariables false
set_option linter.unusedSimpArgs false
namespace Go.Abs.At
open Go Go.Abs Go.Proofs.AtD
attribute [local simp] Nat.add_assoc

theorem T.all_stub {t : AT} {x : T} (h : x ∈ (stub t).all) : x = stub t ∨ x = leaf := by
  rw [T.all_eq] at h
  rcases List.mem_cons.1 h with h | h
  · exact .inl h
  · refine .inr ?_
    have : ∀ n, x ∈ T.alls (List.replicate n leaf) → x = leaf := by
      intro n
      induction n with
      | zero => simp [T.alls]
      | succ n ih =>
        intro hx
        simp only [List.replicate_succ, T.alls, List.mem_append] at hx
        rcases hx with hx | hx
        · simpa [leaf, T.all, T.alls] using hx
        · exact ih hx
    exact this _ h
theorem stub_size (t : AT) : (stub t).size = 1 + t.kids.length := by
  have : ∀ n, T.sizes (List.replicate n leaf) = n := by
    intro n
    induction n with
    | zero => rfl
    | succ n ih => simp only [List.replicate_succ, T.sizes, ih]; simp [leaf, T.size, T.sizes]; omega
  rw [T.size_eq]
  simp [stub, T.kids, this]
theorem leaf_ev {σ : AHeap} {k kp : AV → AHeap → Prop} (hk : k (.val (.bool true)) σ) : Ev PR 85 [leaf.v] σ k kp :=
  tnode_ev (kd := 1) (s := ⟨#[110]⟩) rfl (by omega) (by rfl) (by decide) (by decide) (by decide) (by decide) (by decide) hk

/-- Kinds of the example, with their kids. -/
def Easy (kd : Nat) (n : Nat) : Prop := (kd = 1 ∧ n = 0) ∨ (kd = 3 ∧ n = 2) ∨ (kd = 4 ∧ n = 1)
theorem easy_ev {t : AT} {kd : Nat} (hh : t.h = hd kd) (he : Easy kd t.kids.length) {σ : AHeap} {k kp : AV → AHeap → Prop} (hk : k (.val (.bool true)) σ) : Ev PR 85 [(stub t).v] σ k kp := by
  have hkl : (stub t).kids.length = t.kids.length := by simp [stub, T.kids]
  rcases he with ⟨rfl, h⟩ | ⟨rfl, h⟩ | ⟨rfl, h⟩
  · exact tnode_ev (kd := 1) (s := ⟨#[110]⟩) (t := stub t) hh (by omega) (by rw [hkl, h]; rfl) (by decide) (by decide) (by decide) (by decide) (by decide) hk
  · exact tnode_ev (kd := 3) (s := ⟨#[]⟩) (t := stub t) hh (by omega) (by rw [hkl, h]; rfl) (by decide) (by decide) (by decide) (by decide) (by decide) hk
  · exact tnode_ev (kd := 4) (s := ⟨#[]⟩) (t := stub t) hh (by omega) (by rw [hkl, h]; rfl) (by decide) (by decide) (by decide) (by decide) (by decide) hk
theorem tmay_easy {t : AT} {kd : Nat} (hh : t.h = hd kd) (he : Easy kd t.kids.length) {σ : AHeap} {k kp : AV → AHeap → Prop} (hk : k (.val (.bool true)) σ) : Ev PR 67 [(stub t).v] σ k kp := by
  refine tmay_ev (by rw [stub_size]; rcases he with h | h | h <;> omega) (fun x hx σ k kp hk => ?_) hk
  rcases T.all_stub hx with rfl | rfl
  · exact easy_ev hh he hk
  · exact leaf_ev hk
theorem headed_easy {t : AT} {kd : Nat} (hh : t.h = hd kd) (he : Easy kd t.kids.length) (hb : t.size < 1000000000000) {σ : AHeap} {k kp : AV → AHeap → Prop} (hk : k (.val (.bool true)) σ) : Ev PR 48 [t.v] σ k kp := by
  have q1 : ¬ ((kd : Int) = 17) := by rcases he with h | h | h <;> omega
  have q2 : ¬ ((kd : Int) = 18) := by rcases he with h | h | h <;> omega
  have q3 : (t.kids.length : Int) ≤ 3 := by rcases he with h | h | h <;> omega
  refine Ev.pureD hk ((Dat.val _).low _) fun k' hk' => ?_
  apply F48_ev; unfold F48
  simp
  refine seqW_in ?_
  simp [hh, q1, q2, q3]
  refine stub_ev hb ?_
  refine tmay_easy hh he ?_
  exact hk' _ (Grows.new _ _)
theorem headed_region {t : AT} (hh : t.h = hd 17) (hn : t.kids.length = 1) {σ : AHeap} {k kp : AV → AHeap → Prop} (hk : k (.val (.bool true)) σ) : Ev PR 48 [t.v] σ k kp := by
  refine Ev.pureD hk ((Dat.val _).low _) fun k' hk' => ?_
  apply F48_ev; unfold F48
  simp
  refine seqW_in ?_
  simp [hh, hn, Head.av]
  exact hk' _ (Grows.new _ _)
theorem fits_no {t : RT} (ht : t = .mk 0 0 [] []) {σ : AHeap} {k kp : AV → AHeap → Prop} (hk : k (.val (.bool true)) σ) : Ev PR 52 [bool false, t.v] σ k kp := by
  subst ht
  refine Ev.pureD hk ((Dat.val _).low _) fun k' hk' => ?_
  apply F52_ev; unfold F52
  simp [RT.av, effV, RT.avs]
  exact hk' _ (Grows.new _ _)
/-- Is one below a number? -/
theorem below_ev {l : List Int} {least : Int} {c : Nat} (hb : l.length < 1000000000000) {σ : AHeap} (hg : σ.get c = some (.cells 1 [[int least]])) {k kp : AV → AHeap → Prop} (hk : k (bool (decide (∃ r ∈ l, r < least))) σ) : Ev PR 69 [rhosV l, .fn (.func 70) [.ptr c 0 0]] σ k kp := by
  apply F69_ev; unfold F69
  apply F86_ev; unfold F86
  simp [rhosV]
  refine seqW_in ?_
  refine loopW_by (fun j : Nat => [(0, rhosV l), (1, .fn (.func 70) [.ptr c 0 0]), (7, int l.length), (8, int j)]) (fun j φ => φ = σ ∧ j ≤ l.length ∧ ∀ x ∈ l.take j, ¬ x < least) (fun fr _ => l.length - (intOf (look fr 8)).toNat) 0 (by simp [rhosV]) ⟨rfl, by simp, by simp⟩ ?_
  rintro j φ ⟨rfl, hj, hne⟩
  simp
  by_cases hjl : j < l.length
  · obtain ⟨t, ht⟩ := get_some hjl
    have hix : ∀ ω, aIndexAddr 1 (rhosV l) (int j) ω = some (.ref [int t]) := fun ω => by rw [rhosV, aIndexAddr_sl]; simp [ht]
    simp [hjl, hix]
    show Ev PR 70 _ _ _ _
    apply F70_ev; unfold F70
    simp [hg]
    by_cases hc : t < least
    · simp [hc]
      have e : decide (∃ r ∈ l, r < least) = true := decide_eq_true ⟨t, List.mem_of_getElem? ht, hc⟩
      rw [e] at hk
      exact hk
    · simp [hc]
      rw [wrap64 (by omega)]
      refine ⟨⟨j + 1, by simp, by omega, fun x hx => ?_⟩, by omega⟩
      rw [List.take_add_one, ht] at hx
      rcases List.mem_append.1 hx with h | h
      · exact Int.not_lt.1 (hne x h)
      · simp at h; subst h; exact Int.not_lt.1 hc
  · have hall : l.take j = l := List.take_of_length_le (by omega)
    rw [hall] at hne
    simp [hjl]
    have e : decide (∃ r ∈ l, r < least) = false := decide_eq_false fun ⟨r, h1, h2⟩ => hne r h1 h2
    rw [e] at hk
    exact hk

/-- May a node's regions be? -/
def regionsB (t : AT) (rho rhos : Bool) : Bool :=
  !(!rho && !decide (t.rho = 0) || (decide (t.rho < 0) || decide (t.h.kind = 17) && decide (t.rho < 1)) || !rhos && decide (0 < t.rhos.length)) && !decide (∃ r ∈ t.rhos, r < if t.h.kind = 13 then 1 else 0)
theorem regions_ev {t : AT} {rho rhos e ty re : Bool} (hb : t.rhos.length < 1000000000000) {σ : AHeap} {k kp : AV → AHeap → Prop} (hk : k (bool (regionsB t rho rhos)) σ) : Ev PR 49 [t.v, .agg [bool rho, bool rhos, bool e, bool ty, bool re]] σ k kp := by
  refine Ev.pureD hk ((Dat.val _).low _) fun k' hk' => ?_
  apply F49_ev; unfold F49
  simp
  generalize hτ : AHeap.new _ _ = τ
  have hg : Grows σ τ := by rw [← hτ]; exact ((Grows.new _ _).trans (Grows.new _ _)).trans (Grows.new _ _)
  have g0 : τ.get σ.next = some (.cells 19 [t.av]) := by rw [← hτ]; simp [get_new]
  have g1 : τ.get (σ.next + 1) = some (.cells 5 [[bool rho, bool rhos, bool e, bool ty, bool re]]) := by rw [← hτ]; simp [get_new]
  have g2 : τ.get (σ.next + 2) = some (.cells 1 [[int 0]]) := by rw [← hτ]; simp [get_new]
  simp [g2]
  have hlen : ∀ ω, aLenK .slice (rhosV t.rhos) ω = some (int t.rhos.length) := fun ω => by simp [rhosV]
  refine seqW_by (fun fr υ => fr = [(2, .ptr σ.next 0 0), (3, .ptr (σ.next + 1) 0 0), (5, .ptr (σ.next + 2) 0 0)] ∧ Grows σ υ ∧ υ.get σ.next = some (.cells 19 [t.av]) ∧ υ.get (σ.next + 1) = some (.cells 5 [[bool rho, bool rhos, bool e, bool ty, bool re]]) ∧ υ.get (σ.next + 2) = some (.cells 1 [[int (if t.h.kind = 13 then 1 else 0)]])) ?_ ?_
  · have gs : Grows σ (τ.set (σ.next + 2) (.cells 1 [[int 0]])) := hg.set (by omega) _
    have gs1 : Grows σ (τ.set (σ.next + 2) (.cells 1 [[int 1]])) := hg.set (by omega) _
    by_cases h : t.h.kind = 13
    · simp [g0, g1, g2, h, get_set]
      exact gs.set (by omega) _
    · simp [g0, g1, g2, h, get_set]
      exact gs
  · rintro fr υ ⟨rfl, u0, u1, u2, u3⟩
    simp [u1, u2]
    have fin : ∀ b, regionsB t rho rhos = b → k' (bool b) υ := fun b h => by rw [← h]; exact hk' _ u0
    have go : regionsB t rho rhos = !decide (∃ r ∈ t.rhos, r < if t.h.kind = 13 then 1 else 0) → Ev PR 69 [rhosV t.rhos, .fn (.func 70) [.ptr (σ.next + 2) 0 0]] υ (fun t50 σ_1 => stepK (pureR σ_1 (aNot t50)) fun t51 σ_2 => k' t51 σ_2) (fun _ _ => False) := fun h => by
      refine below_ev hb u3 ?_
      simp only [aNot_bool]
      exact fin _ h
    by_cases h1 : t.rho < 0 <;> by_cases h2 : t.h.kind = 17 <;> by_cases h3 : t.rho < 1 <;> cases rho <;> by_cases h5 : t.rho = 0 <;> cases rhos <;> by_cases h6 : 0 < t.rhos.length <;> simp [u1, u2, hlen, h1, h2, h3, h5, h6]
    all_goals first
      | (exfalso; omega)
      | exact fin _ (by simp only [regionsB, h1, h2, h3, h5, h6]; simp)
      | exact go (by simp only [regionsB, h1, h2, h3, h5, h6]; simp)

/-- A node of the example. -/
structure Simple (t : AT) (kd : Nat) : Prop where
  h : t.h = hd kd
  kids : Easy kd t.kids.length ∨ (kd = 17 ∧ t.kids.length = 1)
  rho : t.rho = if kd = 3 ∨ kd = 17 then 1 else 0
  rhos : t.rhos = []
  eff : t.eff = []
  type : t.type = .mk 0 0 [] []
  res : t.res = .mk 0 0 [] []
theorem node_ev {t : AT} {kd : Nat} (hs : Simple t kd) (hb : t.size < 1000000000000) {σ : AHeap} {k kp : AV → AHeap → Prop} (hk : k (bool true) σ) : Ev PR 30 [t.v] σ k kp := by
  refine Ev.pureD hk ((Dat.val _).low _) fun k' hk' => ?_
  apply F30_ev; unfold F30
  obtain ⟨hh, hkids, hrho, hrhos, heff, hty, hre⟩ := hs
  have q13 : ¬ ((kd : Int) = 13) := by rcases hkids with (h | h | h) | h <;> omega
  obtain ⟨b, hof, hreg⟩ : ∃ b, ofKind kd = [b, false, false, false, false] ∧ regionsB t b false = true := by
    rcases hkids with (h | h | h) | h <;> obtain ⟨rfl, _⟩ := h
    · exact ⟨false, rfl, by simp [regionsB, hh, hrho, hrhos]⟩
    · exact ⟨true, rfl, by simp [regionsB, hh, hrho, hrhos]⟩
    · exact ⟨false, rfl, by simp [regionsB, hh, hrho, hrhos]⟩
    · exact ⟨true, rfl, by simp [regionsB, hh, hrho, hrhos]⟩
  simp
  refine of_ev ?_
  simp [hh, hof]
  generalize hτ : AHeap.set _ _ _ = τ
  have hg : Grows σ τ := by rw [← hτ]; exact ((Grows.new _ _).trans (Grows.new _ _)).set (by simp) _
  have g0 : τ.get σ.next = some (.cells 19 [t.av]) := by rw [← hτ]; simp [get_new, get_set]
  have g1 : τ.get (σ.next + 1) = some (.cells 5 [[bool b, bool false, bool false, bool false, bool false]]) := by rw [← hτ]; simp [get_set]
  refine seqW_in ?_
  simp [g0]
  have goH : ∀ (q qp : AV → AHeap → Prop), q (bool true) τ → Ev PR 48 [t.v] τ q qp := fun q qp hq => by
    rcases hkids with h | ⟨rfl, h⟩
    · exact headed_easy hh h hb hq
    · exact headed_region hh h hq
  refine goH _ _ ?_
  simp [g0, g1]
  refine regions_ev (by simp [hrhos]) ?_
  simp [g0, g1, hreg, hh, q13]
  refine seqW_in ?_
  simp [g0, g1, heff, effV, hty, hre]
  refine fits_no rfl ?_
  simp [g0, g1, hre]
  refine fits_no rfl ?_
  exact hk' _ hg

mutual
theorem AT.all_mem' : ∀ (t x : AT), x ∈ t.all → x.size ≤ t.size
  | .mk h r rs e ty s ks, x, hx => by
    simp only [AT.all, List.mem_cons] at hx
    rcases hx with rfl | hx
    · exact Nat.le_refl _
    · have := AT.alls_mem' ks x hx
      simp [AT.size]; omega
theorem AT.alls_mem' : ∀ (l : List AT) (x : AT), x ∈ AT.alls l → x.size ≤ AT.sizes l
  | [], x, hx => by simp [AT.alls] at hx
  | t :: ts, x, hx => by
    simp only [AT.alls, List.mem_append] at hx
    rcases hx with hx | hx
    · have := AT.all_mem' t x hx
      simp [AT.sizes]; omega
    · have := AT.alls_mem' ts x hx
      simp [AT.sizes]; omega
end
theorem AT.all_mem {t x : AT} (h : x ∈ t.all) : x.size ≤ t.size := AT.all_mem' t x h
theorem may_simple {t : AT} (hb : t.size ≤ 40000) (hall : ∀ x ∈ t.all, ∃ kd, Simple x kd) {σ : AHeap} {k kp : AV → AHeap → Prop} (hk : k (bool true) σ) : Ev PR 11 [t.v] σ k kp := by
  refine Ev.pureD hk ((Dat.val _).low _) fun k' hk' => ?_
  apply F11_ev; unfold F11
  simp
  refine Ev.weak (.cons (AT.clip1 t) .nil) ?_
  have e1 : AT.sizes [t] = t.size := by simp [AT.sizes]
  have e3 : AT.alls [t] = t.all := by simp [AT.alls]
  refine sizes_ev (by omega) ?_
  have h1 : (AT.sizes [t] : Int) ≤ 40000 := by omega
  simp [h1]
  refine Ev.weak (.cons (.refl _) (.cons (AT.clip1 t) .nil)) ?_
  refine each_ev 30 [] 0 (fun _ => False) _ [t] (Nat.le_refl _) (by omega) (fun _ φ => Grows σ φ) (fun _ _ _ h g => h.trans g) ?_ _ _ _ (Nat.zero_le _) (Grows.new _ _) ?_ ?_
  · rintro i x hi φ q qp _ hG hT _
    rw [e3] at hi
    have hx := List.mem_of_getElem? hi
    obtain ⟨kd, hs⟩ := hall x hx
    have hxs : x.size ≤ t.size := AT.all_mem hx
    exact node_ev hs (by omega) (hT φ (Up.refl _ _ _) hG)
  · intro τ _ hG
    exact hk' _ hG
  · intro τ _ h; exact h.elim

abbrev rt0 : RT := .mk 0 0 [] []
abbrev n1 : AT := .mk (hd 1) 0 [] [] rt0 rt0 []
abbrev n3 : AT := .mk (hd 3) 1 [] [] rt0 rt0 [n1, n1]
abbrev n4 : AT := .mk (hd 4) 0 [] [] rt0 rt0 [n3]
abbrev n17 : AT := .mk (hd 17) 1 [] [] rt0 rt0 [n4]
theorem n17_simple : ∀ x ∈ n17.all, ∃ kd, Simple x kd := by
  intro x hx
  have e : n17.all = [n17, n4, n3, n1, n1] := by simp [AT.all, AT.alls]
  rw [e] at hx
  simp only [List.mem_cons, List.not_mem_nil, or_false] at hx
  rcases hx with rfl | rfl | rfl | rfl | rfl
  · exact ⟨17, rfl, .inr ⟨rfl, rfl⟩, rfl, rfl, rfl, rfl, rfl⟩
  · exact ⟨4, rfl, .inl (.inr (.inr ⟨rfl, rfl⟩)), rfl, rfl, rfl, rfl, rfl⟩
  · exact ⟨3, rfl, .inl (.inr (.inl ⟨rfl, rfl⟩)), rfl, rfl, rfl, rfl, rfl⟩
  · exact ⟨1, rfl, .inl (.inl ⟨rfl, rfl⟩), rfl, rfl, rfl, rfl, rfl⟩
  · exact ⟨1, rfl, .inl (.inl ⟨rfl, rfl⟩), rfl, rfl, rfl, rfl, rfl⟩
theorem n17_size : n17.size = 5 := by simp [AT.size, AT.sizes]
theorem n17_erase : erase n17 = .mk (hd 4) [.mk (hd 3) [.mk (hd 1) [], .mk (hd 1) []]] := by simp [erase, eraseKids]
/-- A node as the program makes it. -/
abbrev zA (kd rho : Int) (ks : AV) : List AV := [u8 kd, u8 0, int 0, int 0, str ByteArray.empty, str ByteArray.empty, str ByteArray.empty, int rho, .val (.slice none 0 0), .val (.slice none 0 0), u8 0, int 0, .val (.slice none 0 0), .val (.slice none 0 0), u8 0, int 0, .val (.slice none 0 0), .val (.slice none 0 0), ks]
theorem zA_fz {τ : AHeap} {D : Nat → Prop} {kd rho : Int} {ks : AV} {l : List AT} (h : Fz τ D ks (AT.vs l)) : FzL τ D (zA kd rho ks) (AT.av (.mk (hd kd) rho [] [] rt0 rt0 l)) :=
  .cons (.refl _) (.cons (.refl _) (.cons (.refl _) (.cons (.refl _) (.cons (.refl _) (.cons (.refl _) (.cons (.refl _) (.cons (.refl _) (.cons .nil (.cons .nil (.cons (.refl _) (.cons (.refl _) (.cons .nil (.cons .nil (.cons (.refl _) (.cons (.refl _) (.cons .nil (.cons .nil (.cons h .nil))))))))))))))))))
theorem FzR.sl {τ : AHeap} {D : Nat → Prop} {c : Bool} {sz : Nat} {xs ys : List (List AV)} (h : FzR τ D xs ys) : Fz τ D (.sl c sz xs) (.sl false sz ys) :=
  .sl h.len (fun i el fl h1 h2 => (h.at i el fl h1 h2).len) (fun i el fl j x y h1 h2 h3 h4 => (h.at i el fl h1 h2).at j x y h3 h4)
abbrev z1 := zA 1 0 (.val (.slice none 0 0))
abbrev z3 := zA 3 1 (.sl true 19 [z1, z1])
abbrev z4 := zA 4 0 (.sl true 19 [z3])
abbrev z17 := zA 17 1 (.sl true 19 [z4])
theorem z17_fz {τ : AHeap} {D : Nat → Prop} : FzL τ D z17 n17.av :=
  have h1 : FzL τ D z1 n1.av := zA_fz .nil
  zA_fz (FzR.sl (.cons (zA_fz (FzR.sl (.cons (zA_fz (FzR.sl (.cons h1 (.cons h1 .nil)))) .nil))) .nil))
theorem Fz.trans1 {τ : AHeap} {D : Nat → Prop} {z : List AV} {t : AT} (h : FzL τ D z t.av) : Fz τ D (.sl true 19 [z]) (AT.vs [t]) := by
  have e : AT.vs [t] = .sl false 19 [t.av] := by simp [AT.avs]
  rw [e]; exact FzR.sl (.cons h .nil)
set_option maxHeartbeats 1000000 in
theorem awake_ev {σ : AHeap} {k kp : AV → AHeap → Prop} (hk : k (bool true) σ) : Ev PR 10 [] σ k kp := by
  refine Ev.pureD hk ((Dat.val _).low _) fun k' hk' => ?_
  apply F10_ev; unfold F10
  simp [get_new, get_set]
  generalize hτ : AHeap.set _ _ _ = τ
  have hn : τ.next = σ.next + 4 := by rw [← hτ]; simp
  have hg : Grows σ τ := by
    rw [← hτ]
    exact ((((((Grows.new _ _).set (by simp) _).trans (Grows.new _ _)).set (by simp) _).trans (Grows.new _ _)).set (by simp) _).trans (Grows.new _ _) |>.set (by simp) _
  have g3 : τ.get (σ.next + 3) = some (.cells 19 [z17]) := by rw [← hτ]; simp [get_set]
  clear hτ
  have hsz := n17_size
  refine Ev.weak (args' := [n17.v]) (.cons z17_fz.agg .nil) ?_
  refine erase_ev _ n17 (Nat.le_refl _) (by omega) _ _ _ ?_
  rw [n17_erase]
  simp [T.av, T.avs, Head.av, get_new, get_set, hn, g3]
  generalize hυ : AHeap.set _ _ _ = υ
  have hgu : Grows σ υ := by rw [← hυ]; exact (hg.trans (Grows.new _ _)).set (by omega) _
  have u3 : υ.get (σ.next + 3) = some (.cells 19 [z17]) := by rw [← hυ]; simp [get_set, get_new, hn, g3]
  have u4 : υ.get (σ.next + 4) = some (.cells 8 [(erase n17).av]) := by rw [← hυ, n17_erase]; simp [get_set, T.av, T.avs, Head.av]
  clear hυ
  refine Ev.weak (args' := [n17.v]) (.cons z17_fz.agg .nil) ?_
  refine may_simple (by omega) n17_simple ?_
  simp [u3]
  refine Ev.weak (args' := [AT.vs [n17]]) (.cons (Fz.trans1 z17_fz) .nil) ?_
  refine sizes_ev (by simp [AT.sizes, AT.size]) ?_
  have e1 : AT.sizes [n17] = 5 := by simp [AT.sizes, AT.size]
  rw [e1]
  rw [n17_erase] at u4
  simp [u4, T.av, T.avs, Head.av]
  refine stepP (aIndexAddr_sl .. |>.trans (by simp; rfl)) ?_
  simp
  exact hk' _ hgu
end Go.Abs.At
