/-
  The document's basis, plain: what was told, and what comes of it.
-/
import Derived.Test.YtjilebpcaemopaaGreatBasM
import Derived.Test.YtjilebpcaemopaaGreatBasA
set_option linter.unusedVariables false
set_option linter.unusedSimpArgs false
namespace Go.Abs.Bas
open Go Go.Abs Go.Abs.At

/-! ### The order of atoms -/
theorem bytesLess_irr : ∀ l : List UInt8, Op.bytesLess l l = false
  | [] => rfl
  | a :: l => by simp [Op.bytesLess, bytesLess_irr l]
theorem bytesLess_tr : ∀ a b c : List UInt8, Op.bytesLess a b = true → Op.bytesLess b c = true → Op.bytesLess a c = true
  | _, [], c, h, _ => by cases ‹List UInt8› <;> simp [Op.bytesLess] at h
  | _, b :: y, [], _, h => by simp [Op.bytesLess] at h
  | [], b :: y, c :: z, _, _ => by simp [Op.bytesLess]
  | a :: x, b :: y, c :: z, h1, h2 => by
    have ih := bytesLess_tr x y z
    simp only [Op.bytesLess, Bool.or_eq_true, decide_eq_true_eq, Bool.and_eq_true, beq_iff_eq, UInt8.lt_iff_toNat_lt] at *
    rcases h1 with h1 | ⟨rfl, h1⟩
    · rcases h2 with h2 | ⟨rfl, h2⟩
      · exact .inl (Nat.lt_trans h1 h2)
      · exact .inl h1
    · rcases h2 with h2 | ⟨rfl, h2⟩
      · exact .inl h2
      · exact .inr ⟨rfl, ih h1 h2⟩
theorem bytesLess_tri : ∀ a b : List UInt8, Op.bytesLess a b = false → Op.bytesLess b a = false → a = b
  | [], [], _, _ => rfl
  | [], b :: y, h, _ => by simp [Op.bytesLess] at h
  | a :: x, [], _, h => by simp [Op.bytesLess] at h
  | a :: x, b :: y, h1, h2 => by
    have ih := bytesLess_tri x y
    simp only [Op.bytesLess, Bool.or_eq_false_iff, decide_eq_false_iff_not, UInt8.lt_iff_toNat_lt] at h1 h2
    have e : a = b := UInt8.toNat_inj.1 (by omega)
    subst e
    simp at h1 h2
    rw [ih h1 h2]
theorem strLt_eq (a b : ByteArray) : strLt a b = Op.bytesLess a.toList b.toList := by simp [strLt, strBin]
theorem toList_inj {a b : ByteArray} (h : a.toList = b.toList) : a = b := by
  have := bytes_eq a b
  rw [h] at this
  simpa using this
theorem lessM_ord : Ord lessM where
  irr a := by simp [lessM, strLt_eq, bytesLess_irr]
  tr a b c h1 h2 := by
    obtain ⟨k1, r1, e1⟩ := a
    obtain ⟨k2, r2, e2⟩ := b
    obtain ⟨k3, r3, e3⟩ := c
    simp only [lessM, strLt_eq] at *
    by_cases a1 : k1 = k2
    · subst a1
      by_cases a2 : k1 = k3
      · subst a2
        simp only [if_true] at *
        by_cases b1 : r1 = r2
        · subst b1
          by_cases b2 : r1 = r3
          · subst b2
            simp only [if_true] at *
            exact bytesLess_tr _ _ _ h1 h2
          · simp only [if_neg b2, if_true] at *; exact h2
        · by_cases b2 : r2 = r3
          · subst b2; simp only [if_neg b1, if_true] at *; exact h1
          · simp only [if_neg b1, if_neg b2, decide_eq_true_eq] at h1 h2
            rw [if_neg (by omega)]; simp; omega
      · simp only [if_neg a2] at *; exact h2
    · by_cases a2 : k2 = k3
      · subst a2; simp only [if_neg a1] at *; exact h1
      · simp only [if_neg a1, if_neg a2, decide_eq_true_eq] at h1 h2
        rw [if_neg (by omega)]; simp; omega
  tri a b h1 h2 := by
    obtain ⟨k1, r1, e1⟩ := a
    obtain ⟨k2, r2, e2⟩ := b
    simp only [lessM, strLt_eq] at *
    by_cases a1 : k1 = k2
    · subst a1
      simp only [if_true] at *
      by_cases b1 : r1 = r2
      · subst b1
        simp only [if_true] at *
        rw [toList_inj (bytesLess_tri _ _ h1 h2)]
      · simp only [if_neg b1, if_neg (Ne.symm b1), decide_eq_false_iff_not] at h1 h2
        exact absurd (by omega) b1
    · simp only [if_neg a1, if_neg (Ne.symm a1), decide_eq_false_iff_not] at h1 h2
      exact absurd (by omega) a1

/-! ### The basis -/
structure Told where
  v : Int
  atoms : List Atom
  vars : List Int
structure B where
  regions : Nat := 0
  vars : Nat := 0
  R : List (Int × Int) := []
  V : List (Int × Int) := []
  L : List Told := []

def inB (n : Int) (c : Nat) : Bool := decide (0 ≤ n ∧ n < c)
def there (l : List Int) (c : Nat) : Bool := l.all fun n => inB n c
def B.name (b : B) (r : Int) : Int := if inB r b.regions then nm b.R r else -1
def B.varName (b : B) (v : Int) : Int := if inB v b.vars then nm b.V v else -1
def pairsOf (l : List Int) : List (Int × Int) := (l.map fun i => (l.headD 0, i)).reverse
def B.join (b : B) (l : List Int) : B × Bool := if there l b.regions then ({ b with R := pairsOf l ++ b.R }, true) else (b, false)
def B.joinVars (b : B) (l : List Int) : B × Bool := if there l b.vars then ({ b with V := pairsOf l ++ b.V }, true) else (b, false)
def okA (b : B) (a : Atom) : Bool := atomM a && (decide (a.kind = 3) || decide (a.rho < b.regions))
def B.add (b : B) (v : Int) (atoms : List Atom) (vars : List Int) : B × Bool :=
  if (atoms.all (okA b) && inB v b.vars && there vars b.vars) = true then ({ b with L := b.L ++ [⟨v, atoms, vars⟩] }, true) else (b, false)
def B.ren (b : B) (a : Atom) : Atom := if a.kind = 3 then a else { a with rho := b.name a.rho }
/-- All that was told of an effect variable, or of one that is one with it. -/
def B.toldOf (b : B) (v : Int) : List Told := b.L.filter fun h => decide (nm b.V h.v = nm b.V v)
def B.atomsOf (b : B) (v : Int) : List Atom := ((b.toldOf v).flatMap (·.atoms)).map b.ren
def B.varsOf (b : B) (v : Int) : List Int := ((b.toldOf v).flatMap (·.vars)).map (nm b.V)
def B.has (b : B) (v : Int) : List Atom × List Int := if inB v b.vars then (setOf lessM (b.atomsOf v), setOf ltI (b.varsOf v)) else ([], [])
inductive B.Reach (b : B) (l : List Int) : Int → Prop
  | start {n : Int} (h : n ∈ l) (hn : inB n b.vars = true) : Reach b l (nm b.V n)
  | step {v x : Int} (h : Reach b l v) (hx : x ∈ b.varsOf v) : Reach b l x
/-- What comes of some. -/
def B.Comes (b : B) (l M : List Int) : Prop := M.Pairwise (fun x y => ltI x y = true) ∧ ∀ x, x ∈ M ↔ b.Reach l x
def B.comesA (b : B) (M : List Int) : List Atom := setOf lessM (M.flatMap b.atomsOf)
theorem B.Comes.unique {b : B} {l M N : List Int} (h : b.Comes l M) (k : b.Comes l N) : M = N :=
  rising_ext (r := fun x y => ltI x y = true) (fun a => by simp [ltI]) (by simp [ltI]; omega) h.1 k.1 fun x => (h.2 x).trans (k.2 x).symm

/-- What holds of every basis that comes about. -/
structure B.Ok (b : B) : Prop where
  R : ∀ p ∈ b.R, inB p.1 b.regions = true ∧ inB p.2 b.regions = true
  V : ∀ p ∈ b.V, inB p.1 b.vars = true ∧ inB p.2 b.vars = true
  L : ∀ h ∈ b.L, inB h.v b.vars = true ∧ there h.vars b.vars = true ∧ ∀ a ∈ h.atoms, okA b a = true
theorem inB_iff {n : Int} {c : Nat} : inB n c = true ↔ 0 ≤ n ∧ n < c := by simp [inB]
theorem inB_mono {n : Int} {c d : Nat} (h : c ≤ d) (hn : inB n c = true) : inB n d = true := by rw [inB_iff] at *; omega
theorem there_iff {l : List Int} {c : Nat} : there l c = true ↔ ∀ n ∈ l, 0 ≤ n ∧ n < c := by simp [there, inB]
theorem mem_pairsOf {l : List Int} {p : Int × Int} (h : p ∈ pairsOf l) : p.1 ∈ l ∧ p.2 ∈ l := by
  unfold pairsOf at h
  simp only [List.mem_reverse, List.mem_map] at h
  obtain ⟨i, hi, rfl⟩ := h
  cases l with
  | nil => simp at hi
  | cons a l => exact ⟨by simp, hi⟩
theorem okA_mono {b c : B} (h : b.regions ≤ c.regions) {a : Atom} (ha : okA b a = true) : okA c a = true := by
  simp only [okA, Bool.and_eq_true, Bool.or_eq_true, decide_eq_true_eq] at *
  refine ⟨ha.1, ?_⟩
  rcases ha.2 with h1 | h1
  · exact .inl h1
  · exact .inr (by omega)
theorem okA_congr {b c : B} (h : b.regions = c.regions) (a : Atom) : okA b a = okA c a := by simp [okA, h]
theorem okA_of {b c : B} (h : b.regions = c.regions) {a : Atom} (ha : okA b a = true) : okA c a = true := by rw [← okA_congr h]; exact ha
theorem B.Ok.empty : B.Ok {} := ⟨by simp, by simp, by simp⟩
theorem B.Ok.region {b : B} (h : b.Ok) : B.Ok { b with regions := b.regions + 1 } where
  R p hp := ⟨inB_mono (Nat.le_succ _) (h.R p hp).1, inB_mono (Nat.le_succ _) (h.R p hp).2⟩
  V := h.V
  L t ht := ⟨(h.L t ht).1, (h.L t ht).2.1, fun a ha => okA_mono (b := b) (Nat.le_succ _) ((h.L t ht).2.2 a ha)⟩
theorem B.Ok.var {b : B} (h : b.Ok) : B.Ok { b with vars := b.vars + 1 } where
  R := h.R
  V p hp := ⟨inB_mono (Nat.le_succ _) (h.V p hp).1, inB_mono (Nat.le_succ _) (h.V p hp).2⟩
  L t ht := ⟨inB_mono (Nat.le_succ _) (h.L t ht).1, by
    have := (h.L t ht).2.1
    rw [there_iff] at *
    intro n hn
    have := this n hn
    simp only; omega, fun a ha => okA_of (b := b) rfl ((h.L t ht).2.2 a ha)⟩
theorem B.Ok.join {b : B} (h : b.Ok) (l : List Int) : (b.join l).1.Ok := by
  unfold B.join
  split
  · rename_i ht
    rw [there_iff] at ht
    refine ⟨fun p hp => ?_, h.V, fun t htt => ⟨(h.L t htt).1, (h.L t htt).2.1, fun a ha => okA_of (b := b) rfl ((h.L t htt).2.2 a ha)⟩⟩
    rcases List.mem_append.1 hp with hp | hp
    · have := mem_pairsOf hp
      exact ⟨inB_iff.2 (ht _ this.1), inB_iff.2 (ht _ this.2)⟩
    · exact h.R p hp
  · exact h
theorem B.Ok.joinVars {b : B} (h : b.Ok) (l : List Int) : (b.joinVars l).1.Ok := by
  unfold B.joinVars
  split
  · rename_i ht
    rw [there_iff] at ht
    refine ⟨h.R, fun p hp => ?_, fun t htt => ⟨(h.L t htt).1, (h.L t htt).2.1, fun a ha => okA_of (b := b) rfl ((h.L t htt).2.2 a ha)⟩⟩
    rcases List.mem_append.1 hp with hp | hp
    · have := mem_pairsOf hp
      exact ⟨inB_iff.2 (ht _ this.1), inB_iff.2 (ht _ this.2)⟩
    · exact h.V p hp
  · exact h
theorem B.Ok.add {b : B} (h : b.Ok) (v : Int) (xs : List Atom) (vs : List Int) : (b.add v xs vs).1.Ok := by
  unfold B.add
  split
  · rename_i hc
    simp only [Bool.and_eq_true, List.all_eq_true] at hc
    refine ⟨h.R, h.V, fun t ht => ?_⟩
    rcases List.mem_append.1 ht with ht | ht
    · exact ⟨(h.L t ht).1, (h.L t ht).2.1, fun a ha => okA_of (b := b) rfl ((h.L t ht).2.2 a ha)⟩
    · simp only [List.mem_singleton] at ht
      subst ht
      exact ⟨hc.1.2, hc.2, fun a ha => okA_of (b := b) rfl (hc.1.1 a ha)⟩
  · exact h
theorem nm_in {l : List (Int × Int)} {c : Nat} (h : ∀ p ∈ l, inB p.1 c = true ∧ inB p.2 c = true) {n : Int} (hn : inB n c = true) : inB (nm l n) c = true := by
  have h1 := nm_nonneg (l := l) (fun p hp => ⟨(inB_iff.1 (h p hp).1).1, (inB_iff.1 (h p hp).2).1⟩) (inB_iff.1 hn).1
  have h2 := nm_le l n
  rw [inB_iff] at *
  omega
theorem B.Ok.varsIn {b : B} (h : b.Ok) {v x : Int} (hx : x ∈ b.varsOf v) : inB x b.vars = true ∧ nm b.V x = x := by
  unfold B.varsOf at hx
  simp only [List.mem_map, List.mem_flatMap] at hx
  obtain ⟨y, ⟨t, ht, hy⟩, rfl⟩ := hx
  have ht' : t ∈ b.L := (List.mem_filter.1 ht).1
  have := there_iff.1 (h.L t ht').2.1 y hy
  exact ⟨nm_in h.V (inB_iff.2 this), nm_idem _ _⟩
theorem B.Ok.reachIn {b : B} (h : b.Ok) {l : List Int} {x : Int} (hx : b.Reach l x) : inB x b.vars = true ∧ nm b.V x = x := by
  cases hx with
  | start hm hn => exact ⟨nm_in h.V hn, nm_idem _ _⟩
  | step _ hx => exact h.varsIn hx
theorem B.atomsOf_congr {b : B} {v w : Int} (h : nm b.V v = nm b.V w) : b.atomsOf v = b.atomsOf w := by simp [B.atomsOf, B.toldOf, h]
theorem B.varsOf_congr {b : B} {v w : Int} (h : nm b.V v = nm b.V w) : b.varsOf v = b.varsOf w := by simp [B.varsOf, B.toldOf, h]

/-! ### In whatever order it was told -/
structure B.Same (b c : B) : Prop where
  regions : b.regions = c.regions
  vars : b.vars = c.vars
  R : ∀ p, p ∈ b.R ↔ p ∈ c.R
  V : ∀ p, p ∈ b.V ↔ p ∈ c.V
  L : ∀ t, t ∈ b.L ↔ t ∈ c.L
theorem B.Same.atoms {b c : B} (h : b.Same c) (v : Int) (a : Atom) : a ∈ b.atomsOf v ↔ a ∈ c.atomsOf v := by
  have e1 := nm_perm h.R
  have e2 := nm_perm h.V
  have e3 : b.ren = c.ren := by funext a; simp [B.ren, B.name, e1, h.regions]
  simp only [B.atomsOf, B.toldOf, List.mem_map, List.mem_flatMap, List.mem_filter, e2, e3, h.L]
theorem B.Same.varsOf {b c : B} (h : b.Same c) (v : Int) (x : Int) : x ∈ b.varsOf v ↔ x ∈ c.varsOf v := by
  have e2 := nm_perm h.V
  simp only [B.varsOf, B.toldOf, List.mem_map, List.mem_flatMap, List.mem_filter, e2, h.L]
theorem B.Same.reach {b c : B} (h : b.Same c) {l : List Int} {x : Int} (hx : b.Reach l x) : c.Reach l x := by
  induction hx with
  | start hm hn => rw [nm_perm h.V]; exact .start hm (by rw [← h.vars]; exact hn)
  | step _ hx ih => exact .step ih ((h.varsOf _ _).1 hx)
theorem B.Same.symm {b c : B} (h : b.Same c) : c.Same b := ⟨h.regions.symm, h.vars.symm, fun p => (h.R p).symm, fun p => (h.V p).symm, fun p => (h.L p).symm⟩
theorem B.Same.comes {b c : B} (h : b.Same c) {l M N : List Int} (hM : b.Comes l M) (hN : c.Comes l N) : M = N ∧ b.comesA M = c.comesA N := by
  have e : M = N := rising_ext (r := fun x y => ltI x y = true) (fun a => by simp [ltI]) (by simp [ltI]; omega) hM.1 hN.1 fun x =>
    (hM.2 x).trans (Iff.trans ⟨h.reach, h.symm.reach⟩ (hN.2 x).symm)
  subst e
  exact ⟨rfl, setOf_congr lessM_ord fun a => by simp only [List.mem_flatMap, h.atoms]⟩

/-! ### What comes of what comes -/
theorem B.Comes.step {b : B} {l M : List Int} (h : b.Comes l M) {v x : Int} (hv : v ∈ M) (hx : x ∈ b.varsOf v) : x ∈ M := (h.2 x).2 (.step ((h.2 v).1 hv) hx)
theorem B.Comes.sub {b : B} (ok : b.Ok) {l M N : List Int} (h : b.Comes l M) {v : Int} (hv : v ∈ M) (hN : b.Comes [v] N) : ∀ x ∈ N, x ∈ M := by
  intro x hx
  have hr := (hN.2 x).1 hx
  clear hx
  induction hr with
  | start hm hn =>
    simp only [List.mem_singleton] at hm
    subst hm
    rw [(ok.reachIn ((h.2 _).1 hv)).2]; exact hv
  | step _ hx ih => exact h.step ih hx
theorem B.Comes.self {b : B} (ok : b.Ok) {l M N : List Int} (h : b.Comes l M) {v : Int} (hv : v ∈ M) (hN : b.Comes [v] N) : v ∈ N := by
  have := ok.reachIn ((h.2 _).1 hv)
  have hr : b.Reach [v] (nm b.V v) := .start (by simp) this.1
  rw [this.2] at hr
  exact (hN.2 v).2 hr
theorem mem_comesA {b : B} {M : List Int} {a : Atom} : a ∈ b.comesA M ↔ ∃ v ∈ M, a ∈ b.atomsOf v := by simp [B.comesA, mem_setOf]
end Go.Abs.Bas
