/-
  Atoms, sorted, and one of each.
-/
import Derived.Test.YtjilebpcaemopaaGreatBasL
set_option linter.unusedVariables false
set_option linter.unusedSimpArgs false
namespace Go.Abs.Bas
open Go Go.Abs Go.Abs.At Go.Proofs.BasD Go.Proofs Go.RowKit

instance : Inhabited Atom := ⟨⟨0, 0, ByteArray.empty⟩⟩
def encA (a : Atom) : List Value := [.int .u8 a.kind, .int .i64 a.rho, .string a.exn]
abbrev avals (l : List Atom) : List (List Value) := l.map encA
abbrev arows (l : List Atom) : List (List AV) := l.map Atom.av
theorem arows_v (l : List Atom) : arows l = vrow (avals l) := by simp [vrow, encA, Atom.av]
theorem avals_len (l : List Atom) : ∀ v ∈ avals l, v.length = 3 := by
  intro v hv; obtain ⟨i, _, rfl⟩ := List.mem_map.1 hv; rfl
theorem encA_one (a : Atom) : ∀ x ∈ encA a, x.oneCell' = true := by
  intro x hx
  simp only [encA, List.mem_cons, List.not_mem_nil, or_false] at hx
  rcases hx with rfl | rfl | rfl <;> rfl
theorem avals_one (l : List Atom) : ∀ v ∈ avals l, ∀ x ∈ v, x.oneCell' = true := by
  intro v hv x hx; obtain ⟨i, _, rfl⟩ := List.mem_map.1 hv; exact encA_one i x hx
theorem flatK_eq (l : List Atom) : Sort.flatK encA 3 l.toArray = (avals l).flatten.toArray := by
  have hlen := flat_len (avals_len l)
  refine Sort.ext_get! (by simp [hlen]) fun t ht => ?_
  have ht' : t < l.length * 3 := by simpa using ht
  rw [Sort.get_flatK _ _ _ t (by simpa using ht')]
  obtain ⟨h0, h1, h2, h3⟩ := div_mul_lt ht'
  obtain ⟨a, ha⟩ := get_some h1
  have hv : (avals l)[t / 3]? = some (encA a) := by simp [ha]
  have := flat_get (avals_len l) hv h2
  rw [h3] at this
  have hlt : t < (avals l).flatten.toArray.size := by simp only [List.size_toArray, hlen, List.length_map]; exact ht'
  rw [getElem!_pos (avals l).flatten.toArray t hlt]
  have e1 : l.toArray[t / 3]! = a := by
    obtain ⟨q1, q2⟩ := List.getElem?_eq_some_iff.1 ha
    simp [h1, q2]
  rw [e1]
  have e2 : (encA a)[t % 3]? = some ((encA a)[t % 3]!) := by
    have : t % 3 < (encA a).length := by show t % 3 < 3; exact h2
    rw [List.getElem?_eq_getElem this, getElem!_pos (encA a) (t % 3) this]
  rw [e2] at this
  obtain ⟨_, q⟩ := List.getElem?_eq_some_iff.1 this
  simpa using q.symm

theorem ltOf_cmpM : ltOf cmpM = lessM := by
  funext a b
  have := cmpM_less a b
  unfold ltOf
  cases h : lessM a b
  · have := this.2 h
    simp; omega
  · have : ¬ 0 ≤ cmpM a b := fun hh => by rw [this.1 hh] at h; cases h
    simp; omega
theorem swoA : Sort.SWO (ltOf cmpM) where
  irrefl x := by rw [ltOf_cmpM]; exact lessM_ord.irr x
  trans x y z h1 h2 := by rw [ltOf_cmpM] at *; exact lessM_ord.tr _ _ _ h1 h2
  ntrans x y z h1 h2 := by
    rw [ltOf_cmpM] at *
    refine Bool.eq_false_iff.2 fun h => ?_
    cases h3 : lessM y x
    · have := lessM_ord.tri _ _ h1 h3; subst this
      rw [h] at h2; cases h2
    · have := lessM_ord.tr _ _ _ h3 h
      rw [this] at h2; cases h2
theorem cmpLays (b : Nat) (n : Nat) (w : World) : CmpLays PR 60 #[] encA 3 cmpM b 0 n w := by
  intro m os dk _ x y
  rw [Array.append_empty]
  refine Ev.calls callable60 (args := [x.v, y.v]) (compare_ev rfl) (fun c => ⟨rfl, fun i z v hz hv => ?_⟩) _
  have key : ∀ a : Atom, VRel c a.v (.agg (encA a).toArray) := by
    intro a
    refine .agg (by simp [Atom.av, encA]) (fun i v hv => encA_one a v (by simpa using Array.mem_of_getElem? hv)) (fun i z v hz hv => ?_)
    match i, hz, hv with
    | 0, hz, hv => simp [Atom.av, encA] at hz hv; subst hz; subst hv; exact .val _
    | 1, hz, hv => simp [Atom.av, encA] at hz hv; subst hz; subst hv; exact .val _
    | 2, hz, hv => simp [Atom.av, encA] at hz hv; subst hz; subst hv; exact .val _
    | i + 3, hz, hv => simp [Atom.av] at hz
  match i, hz, hv with
  | 0, hz, hv => simp at hz hv; subst hz; subst hv; exact key x
  | 1, hz, hv => simp at hz hv; subst hz; subst hv; exact key y
  | i + 2, hz, hv => simp at hz

def sortedA (l : List Atom) : List Atom := (Sort.pdq (ltOf cmpM) l.toArray 0 l.toArray.size (Lib.bitLen l.toArray.size) true true).toList
theorem sortedA_spec (l : List Atom) : (sortedA l).Perm l ∧ (sortedA l).Pairwise fun a b => lessM b a = false := by
  obtain ⟨⟨h1, h2, h3⟩, h4⟩ := Sort.pdq_sorts (ltOf cmpM) swoA l.toArray 0 l.toArray.size (Lib.bitLen l.toArray.size) true true (Nat.zero_le _) (Nat.le_refl _) (Or.inl rfl)
  rw [ltOf_cmpM] at h4
  unfold sortedA
  rw [ltOf_cmpM] at h1 h3 ⊢
  generalize Sort.pdq lessM l.toArray 0 l.toArray.size (Lib.bitLen l.toArray.size) true true = d at *
  have hs : d.size = l.length := by simpa using h1
  constructor
  · have e1 : d.extract 0 l.toArray.size = d := by rw [show l.toArray.size = d.size by simp [hs], Array.extract_size]
    have e2 : l.toArray.extract 0 l.toArray.size = l.toArray := Array.extract_size ..
    rw [e1, e2] at h3
    simpa using h3
  · refine List.pairwise_iff_getElem.2 fun i j hi hj hij => ?_
    have hj' : j < d.size := by simpa using hj
    have hi' : i < d.size := by simpa using hi
    have := h4 i j (Nat.zero_le _) hij (by simp; omega)
    rw [getElem!_pos d j hj', getElem!_pos d i hi'] at this
    simpa using this
theorem sortedA_len (l : List Atom) : (sortedA l).length = l.length := (sortedA_spec l).1.length_eq
theorem aggA : ∀ w, (isAgg (Tryz.sortA_ren.t 24)).run PR w = .ok true w := fun w => Tryz.isAgg56 w
theorem sizeA : ∀ w, (sizeOf (Tryz.sortA_ren.t 24)).run PR w = .ok 3 w := fun w => Tryz.sizeOf56 w
theorem entersA : ∀ args w, (callFunc 60 args).run PR w = .ok (.enter 60 args) w := enters_of Tryz.func60 (by kernel_rfl) rfl
theorem oneFn : ∀ c vs, ArgsRel c [.fn (.func 60) []] vs → vs = #[.func (.func 60) #[] #[]] := by
  intro c vs h
  obtain ⟨v, us, rfl, hv, hus⟩ := argsRel_cons h
  obtain rfl := noMore c us hus
  cases hv with
  | fn hl hr =>
    rename_i us
    have : us = #[] := Array.eq_empty_of_size_eq_zero hl.symm
    subst this
    rfl
theorem sortA_ev {q len : Nat} {l : List Atom} {rest : List (List AV)} {σ : AHeap} (hlen : len = l.length) (h0 : 0 < len) (hg : σ.get q = some (.cells 3 (arows l ++ rest))) (hb : l.length < 1000000000000) {k kp : AV → AHeap → Prop}
    (hk : ∀ τ, τ.next = σ.next → (∀ i, i ≠ q → τ.get i = σ.get i) → τ.get q = some (.cells 3 (arows (sortedA l) ++ rest)) → k (.val (.tuple #[])) τ) : Ev PR 59 [.own q len, .fn (.func 60) []] σ k kp := by
  have hll := sortedA_len l
  refine Ev.rerowT callable59 oneFn (vals := avals l) (news := avals (sortedA l)) (rest := rest) (sz := 3) (by simp [hlen]) h0 (by rw [hg, arows_v]) (by simp [hll]) (avals_len _) (avals_one _) (fun w b cap hH hblk hcap => ?_) ?_
  · have hHK : Sort.HoldsK encA 3 w b 0 l.toArray := by
      unfold Sort.HoldsK
      rw [flatK_eq]; exact hH
    have := AnyQ.slices_SortFunc_eq Tryz.sortA 3 aggA sizeA encA (fun _ => rfl) encA_one cmpM swoA 60 #[] b 0 cap l.toArray w entersA (cmpLays b _ w) hHK hblk (by simp; omega)
    subst hlen
    refine (show Calls PR 59 _ w _ from this).mono ?_
    rintro e w' ⟨he, n, os, rfl⟩
    refine ⟨he, n, os, ?_⟩
    have e : Sort.pdq (ltOf cmpM) l.toArray 0 l.toArray.size (Lib.bitLen l.toArray.size) true true = (sortedA l).toArray := by simp [sortedA]
    rw [e]
    unfold sortWorldK Sort.putRowK
    rw [flatK_eq]
    rfl
  · exact hk _ rfl (fun i hi => by rw [get_set, if_neg hi]) (by rw [get_set, if_pos rfl, arows_v])
theorem sortA_nil {x : AV} (hx : x = .val (.slice none 0 0) ∨ ∃ q, x = .own q 0) {σ : AHeap} {k kp : AV → AHeap → Prop} (hk : k (.val (.tuple #[])) σ) : Ev PR 59 [x, .fn (.func 60) []] σ k kp :=
  Ev.rowNone callable59 oneFn hx (ret := fun _ _ => .tuple #[]) (fun w a cap => AnyF.slices_SortFunc_none Tryz.sortA a cap _ w) (fun _ _ _ _ => .val _) hk
end Go.Abs.Bas
