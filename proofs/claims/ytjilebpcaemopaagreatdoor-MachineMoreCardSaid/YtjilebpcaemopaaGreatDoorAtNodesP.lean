import Derived.Test.YtjilebpcaemopaaGreatDoorAtN
import Derived.Test.YtjilebpcaemopaaGreatDoorAtH
set_option linter.unusedVariables false
set_option linter.unusedSimpArgs false
namespace Go.Abs.At
open Go Go.Abs Go.Proofs.AtD
attribute [local simp] Nat.add_assoc

def mayM (t : AT) : Bool := decide (t.size ≤ 40000) && t.all.all nodeM
mutual
theorem AT.Ok_all' : ∀ (t : AT), t.small → t.size ≤ 400 → ∀ x ∈ t.all, x.Ok
  | .mk h r rs e t s ks, hs, hb, x, hx => by
    simp only [AT.all, List.mem_cons] at hx
    rcases hx with rfl | hx
    · exact ⟨hs, hb⟩
    · simp only [AT.small] at hs
      simp only [AT.size] at hb
      exact AT.Ok_alls ks hs.2.2.2.2.2 (by omega) x hx
theorem AT.Ok_alls : ∀ (l : List AT), AT.smalls l → AT.sizes l ≤ 400 → ∀ x ∈ AT.alls l, x.Ok
  | [], _, _, x, hx => by simp [AT.alls] at hx
  | t :: ts, hs, hb, x, hx => by
    simp only [AT.alls, List.mem_append] at hx
    simp only [AT.smalls] at hs
    simp only [AT.sizes] at hb
    rcases hx with hx | hx
    · exact AT.Ok_all' t hs.1 (by omega) x hx
    · exact AT.Ok_alls ts hs.2 (by omega) x hx
end
theorem AT.Ok.all {t : AT} (h : t.Ok) : ∀ x ∈ t.all, x.Ok := AT.Ok_all' t h.small h.size

def tMayM (t : T) : Bool := decide (t.size ≤ 4000) && t.all.all fun x => tnodeM x.h x.kids.length
mutual
theorem T.all_le' : ∀ (t x : T), x ∈ t.all → x.size ≤ t.size
  | .mk h ks, x, hx => by
    simp only [T.all, List.mem_cons] at hx
    rcases hx with rfl | hx
    · exact Nat.le_refl _
    · have := T.alls_le' ks x hx
      simp [T.size]; omega
theorem T.alls_le' : ∀ (l : List T) (x : T), x ∈ T.alls l → x.size ≤ T.sizes l
  | [], x, hx => by simp [T.alls] at hx
  | t :: ts, x, hx => by
    simp only [T.alls, List.mem_append] at hx
    rcases hx with hx | hx
    · have := T.all_le' t x hx
      simp [T.sizes]; omega
    · have := T.alls_le' ts x hx
      simp [T.sizes]; omega
end
/-! ### The plain law -/
theorem kidsM_le (k : Int) : kidsM k ≤ 3 := by
  unfold kidsM
  repeat' split
  all_goals omega
end Go.Abs.At
