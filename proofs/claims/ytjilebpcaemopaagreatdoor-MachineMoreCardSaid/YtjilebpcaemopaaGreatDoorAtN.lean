import Derived.Test.YtjilebpcaemopaaGreatDoorAtermDecN
import Derived.Test.YtjilebpcaemopaaGreatDoorAtS
set_option linter.unusedVariables false
set_option linter.unusedSimpArgs false
namespace Go.Abs.At
open Go Go.Abs Go.Proofs.AtD
attribute [local simp] Nat.add_assoc

/-! ### Kinds -/
def kidsM (k : Int) : Int :=
  if k = 1 ∨ k = 2 then 0
  else if k = 4 ∨ k = 5 ∨ k = 6 ∨ k = 7 ∨ k = 11 ∨ k = 15 then 1
  else if k = 3 ∨ k = 8 ∨ k = 9 ∨ k = 10 ∨ k = 12 ∨ k = 13 ∨ k = 16 then 2
  else if k = 14 then 3 else -1
def fitM (there : Bool) (s : ByteArray) (ok : Bool) : Bool := if there = true then ok else decide (s = ByteArray.empty)
/-! ### Names -/
def keysL : List ByteArray := [⟨#[108, 101, 116]⟩, ⟨#[108, 101, 116, 114, 101, 99]⟩, ⟨#[105, 110]⟩, ⟨#[102, 110]⟩, ⟨#[105, 102]⟩, ⟨#[116, 104, 101, 110]⟩, ⟨#[101, 108, 115, 101]⟩, ⟨#[114, 97, 105, 115, 101]⟩, ⟨#[116, 114, 121]⟩, ⟨#[119, 105, 116, 104]⟩, ⟨#[114, 101, 102]⟩, ⟨#[102, 115, 116]⟩, ⟨#[115, 110, 100]⟩, ⟨#[101, 120, 110]⟩]
def nameM (s : ByteArray) : Bool := shapeM s 3 && !keysL.any fun b => decide (b = s)
theorem keys_any (s : ByteArray) : (keysL.any fun b => decide (b = s)) = true ↔ s ∈ keysL := by simp
/-! ### Effects -/
def strLt (a b : ByteArray) : Bool := match strBin .lss a b with | some (.bool t) => t | _ => false
theorem aBin_slt (a b : ByteArray) : aBin .lss .prim (str a) (str b) = some (bool (strLt a b)) := by
  rw [aBin_str]; simp [strBin, strLt]
def lessM (a b : Atom) : Bool := if a.kind = b.kind then if a.rho = b.rho then strLt a.exn b.exn else decide (a.rho < b.rho) else decide (a.kind < b.kind)
/-- The atom at a place may be, behind the one ahead of it. -/
def effAt (e : List Atom) (i : Nat) : Bool := match e[i]? with
  | none => true
  | some a => atomM a && match i with
    | 0 => true
    | i + 1 => match e[i]? with
      | none => true
      | some b => lessM b a
def effMayM (e : List Atom) : Bool := (List.range e.length).all (effAt e)
theorem effMayM_yes {e : List Atom} (h : ∀ i, i < e.length → effAt e i = true) : effMayM e = true := List.all_eq_true.2 fun i hi => h i (List.mem_range.1 hi)
theorem effMayM_no {e : List Atom} {i : Nat} (hi : i < e.length) (h : effAt e i = false) : effMayM e = false := by
  cases hh : effMayM e
  · rfl
  · have := List.all_eq_true.1 hh i (List.mem_range.2 hi)
    rw [h] at this; cases this
/-! ### Types -/
def rKids (k : Int) : Nat := if k = 2 ∨ k = 4 then 2 else if k = 3 then 1 else 0
def rNode (t : RT) : Bool := decide (1 ≤ t.kind) && decide (t.kind ≤ 4) && decide (t.kids.length = rKids t.kind) && decide (0 ≤ t.rho) && !(decide (t.kind = 1) && decide (0 < t.rho)) && !(!decide (t.kind = 4) && decide (0 < t.eff.length)) && effMayM t.eff
mutual
def RT.may : RT → Bool
  | .mk k r e ks => rNode (.mk k r e ks) && RT.mays ks
def RT.mays : List RT → Bool
  | [] => true
  | t :: ts => RT.may t && RT.mays ts
end
theorem RT.may_eq (t : RT) : t.may = (rNode t && RT.mays t.kids) := by cases t; simp [RT.may, RT.kids]
theorem RT.mays_all (l : List RT) : RT.mays l = l.all RT.may := by
  induction l with
  | nil => rfl
  | cons t l ih => simp [RT.mays, ih]
theorem RT.mays_no {l : List RT} {i : Nat} {t : RT} (hi : l[i]? = some t) (h : t.may = false) : RT.mays l = false := by
  rw [RT.mays_all]
  cases hh : l.all RT.may
  · rfl
  · have := List.all_eq_true.1 hh t (List.mem_of_getElem? hi)
    rw [h] at this; cases this
theorem RT.mays_yes {l : List RT} (h : ∀ (i : Nat) t, l[i]? = some t → t.may = true) : RT.mays l = true := by
  rw [RT.mays_all]
  refine List.all_eq_true.2 fun t ht => ?_
  obtain ⟨i, hi⟩ := List.getElem?_of_mem ht
  exact h i t hi
/-! ### Plain terms' nodes -/
theorem kidsM_range {k : Int} (h : 0 ≤ kidsM k) : k = 1 ∨ k = 2 ∨ k = 3 ∨ k = 4 ∨ k = 5 ∨ k = 6 ∨ k = 7 ∨ k = 8 ∨ k = 9 ∨ k = 10 ∨ k = 11 ∨ k = 12 ∨ k = 13 ∨ k = 14 ∨ k = 15 ∨ k = 16 := by
  unfold kidsM at h
  split at h
  · omega
  · split at h
    · omega
    · split at h
      · omega
      · split at h <;> omega
def tnodeM (h : Head) (n : Nat) : Bool :=
  decide (0 ≤ kidsM h.kind) && decide ((n : Int) = kidsM h.kind) && decide (0 ≤ h.pos)
  && (if h.kind = 9 then decide (1 ≤ h.op) && decide (h.op ≤ 5) else decide (h.op = 0))
  && (decide (0 ≤ h.n) && decide (h.n ≤ 2147483647) && (decide (h.kind = 1) || decide (h.n = 0)))
  && fitM (decide (h.kind = 2 ∨ h.kind = 12 ∨ h.kind = 13)) h.name (nameM h.name)
  && fitM (decide (h.kind = 11 ∨ h.kind = 13 ∨ h.kind = 16)) h.arg (nameM h.arg)
  && fitM (decide (h.kind = 15 ∨ h.kind = 16)) h.exn (shapeM h.exn 4)
end Go.Abs.At
set_option linter.unusedVariables false
set_option linter.unusedSimpArgs false
namespace Go.Abs.At
open Go Go.Abs Go.Proofs.AtD
attribute [local simp] Nat.add_assoc

def plainM (t : RT) : Bool := decide (t.kind = 0) && decide (t.rho = 0) && decide (t.eff.length = 0) && decide (t.kids.length = 0)
def bareM (h : Head) : Bool := decide (h.op = 0) && decide (h.n = 0) && decide (h.arg = ByteArray.empty) && decide (h.exn = ByteArray.empty)
def headM (t : AT) : Bool :=
  if t.h.kind = 17 then bareM t.h && decide (t.h.name = ByteArray.empty) && decide (0 ≤ t.h.pos) && decide (t.kids.length = 1)
  else if t.h.kind = 18 then bareM t.h && nameM t.h.name && decide (0 ≤ t.h.pos) && decide (t.kids.length = 0)
  else tnodeM t.h (min t.kids.length 4)
@[simp] theorem Head.av_1 (h : Head) : h.av[1]? = some (u8 h.op) := rfl
@[simp] theorem Head.av_2 (h : Head) : h.av[2]? = some (int h.pos) := rfl
@[simp] theorem Head.av_3 (h : Head) : h.av[3]? = some (int h.n) := rfl
@[simp] theorem Head.av_4 (h : Head) : h.av[4]? = some (str h.name) := rfl
@[simp] theorem Head.av_5 (h : Head) : h.av[5]? = some (str h.arg) := rfl
@[simp] theorem Head.av_6 (h : Head) : h.av[6]? = some (str h.exn) := rfl
@[simp] theorem Head.av_1' (h : Head) (hh : 1 < h.av.length) : h.av[1]'hh = u8 h.op := rfl
@[simp] theorem Head.av_2' (h : Head) (hh : 2 < h.av.length) : h.av[2]'hh = int h.pos := rfl
@[simp] theorem Head.av_3' (h : Head) (hh : 3 < h.av.length) : h.av[3]'hh = int h.n := rfl
@[simp] theorem Head.av_4' (h : Head) (hh : 4 < h.av.length) : h.av[4]'hh = str h.name := rfl
@[simp] theorem Head.av_5' (h : Head) (hh : 5 < h.av.length) : h.av[5]'hh = str h.arg := rfl
@[simp] theorem Head.av_6' (h : Head) (hh : 6 < h.av.length) : h.av[6]'hh = str h.exn := rfl
@[simp] theorem Head.av_take (h : Head) : h.av.take 7 = h.av := rfl
/-- May a node alone be? -/
def rhoAt (t : AT) (i : Nat) : Bool := match t.rhos[i]? with
  | none => true
  | some r => decide (0 ≤ r) && (!decide (t.h.kind = 13) || (!decide (r = 0) && !decide (r ∈ t.rhos.take i)))
def rhosMayM (t : AT) : Bool := (List.range t.rhos.length).all (rhoAt t)
def nodeM (t : AT) : Bool :=
  headM t && decide (0 ≤ t.rho) && !(decide (t.h.kind = 17) && decide (t.rho = 0)) && (decide (t.h.kind ∈ [(3 : Int), 6, 11, 13, 17, 18]) || decide (t.rho = 0))
  && (decide (t.h.kind = 13) || decide (t.h.kind = 18) || decide (t.rhos.length = 0))
  && rhosMayM t
  && ((decide (t.h.kind ∈ [(11 : Int), 13, 18]) || decide (t.eff.length = 0)) && effMayM t.eff)
  && (if t.h.kind ∈ [(11 : Int), 13, 15] then t.type.may else plainM t.type)
  && (if t.h.kind = 13 then t.res.may else plainM t.res)
theorem rhosMayM_yes {t : AT} (h : ∀ i, i < t.rhos.length → rhoAt t i = true) : rhosMayM t = true := List.all_eq_true.2 fun i hi => h i (List.mem_range.1 hi)
end Go.Abs.At
