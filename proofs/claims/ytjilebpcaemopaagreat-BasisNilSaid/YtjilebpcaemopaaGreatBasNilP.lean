/-
  BasisNil: the law.
-/
import Derived.Test.YtjilebpcaemopaaGreatBasW
set_option linter.unusedVariables false
set_option linter.unusedSimpArgs false
namespace Go.Abs.Bas
open Go Go.Abs Go.Abs.At Go.Proofs.BasD
attribute [local simp] Nat.add_assoc
variable {σ : AHeap} {k kp : AV → AHeap → Prop}
abbrev nilP : AV := .val (.pointer none)
theorem nil_count (hk : k (.tup [int 0, int 0]) σ) : Ev PR 23 [nilP] σ k kp := by
  apply F23_ev; unfold F23; simp [hk]
theorem nil_has {n : Int} (hk : k (.tup [nilS, nilS]) σ) : Ev PR 17 [nilP, int n] σ k kp := by
  apply F17_ev; unfold F17; simp [hk]
theorem nil_comes {y : AV} (hk : k (.tup [nilS, nilS]) σ) : Ev PR 14 [nilP, y] σ k kp := by
  apply F14_ev; unfold F14; simp [hk]
theorem nil_region (hk : k (int (-1)) σ) : Ev PR 10 [nilP] σ k kp := by
  apply F10_ev; unfold F10; simp [hk]
theorem nil_var (hk : k (int (-1)) σ) : Ev PR 11 [nilP] σ k kp := by
  apply F11_ev; unfold F11; simp [hk]
theorem nil_name {n : Int} (hk : k (int (-1)) σ) : Ev PR 24 [nilP, int n] σ k kp := by
  apply F24_ev; unfold F24; simp [hk]
theorem nil_varName {n : Int} (hk : k (int (-1)) σ) : Ev PR 18 [nilP, int n] σ k kp := by
  apply F18_ev; unfold F18; simp [hk]
theorem nil_join {y : AV} {l : List Int} (hy : RowG σ 1 y (irows l)) (hk : k (bool (decide (l.length = 0))) σ) : Ev PR 25 [nilP, y] σ k kp := by
  apply F25_ev; unfold F25
  simp [hy.lenI]
  simpa using hk
theorem nil_joinVars {y : AV} {l : List Int} (hy : RowG σ 1 y (irows l)) (hk : k (bool (decide (l.length = 0))) σ) : Ev PR 26 [nilP, y] σ k kp := by
  apply F26_ev; unfold F26
  simp [hy.lenI]
  simpa using hk
theorem nil_add {n : Int} {x y : AV} (hk : k (bool false) σ) : Ev PR 27 [nilP, int n, x, y] σ k kp := by
  apply F27_ev; unfold F27; simp [hk]
theorem nil_copy (hk : k nilP σ) : Ev PR 22 [nilP] σ k kp := by
  apply F22_ev; unfold F22; simp [hk]
theorem law_nil {n : Int} {l : List Int} : Ev PR 7 [int n, rhosV l] σ (fun x _ => x = .val (.bool true)) kp := by
  apply F7_ev; unfold F7
  have hy : RowG σ 1 (rhosV l) (irows l) := RowG.rhos l
  simp [hy.lenI]
  by_cases h : 20 < l.length
  · have c1 : (20 : Int) < l.length := by omega
    simp [c1]
    refine awake_ev ?_
    rfl
  · have c1 : ¬ (20 : Int) < l.length := by omega
    simp [c1]
    refine nil_count ?_
    simp
    refine nil_has ?_
    simp
    refine nil_comes ?_
    simp [hy.lenI]
    refine nil_region ?_
    simp
    refine nil_var ?_
    simp
    refine nil_name ?_
    simp
    refine nil_varName ?_
    simp
    refine nil_join hy ?_
    simp
    refine nil_joinVars hy ?_
    simp
    refine nil_add ?_
    simp
    refine nil_copy ?_
    simp
    refine awake_ev ?_
    simp
end Go.Abs.Bas
