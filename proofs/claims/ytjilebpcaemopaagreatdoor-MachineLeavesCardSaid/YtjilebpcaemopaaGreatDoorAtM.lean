import Derived.Test.YtjilebpcaemopaaGreatDoorMStkE
import Derived.Test.YtjilebpcaemopaaGreatDoorStackM
set_option linter.unusedVariables false
set_option linter.unusedSimpArgs false
namespace Go.Abs.At
open Go Go.Abs

abbrev int (n : Int) : AV := .val (.int .i64 n)
abbrev u8 (n : Int) : AV := .val (.int .u8 n)
abbrev str (s : ByteArray) : AV := .val (.string s)

structure Head where
  kind : Int
  op : Int
  pos : Int
  n : Int
  name : ByteArray
  arg : ByteArray
  exn : ByteArray
  deriving DecidableEq
def Head.av (h : Head) : List AV := [u8 h.kind, u8 h.op, int h.pos, int h.n, str h.name, str h.arg, str h.exn]
structure Atom where
  kind : Int
  rho : Int
  exn : ByteArray
  deriving DecidableEq
def Atom.av (a : Atom) : List AV := [u8 a.kind, int a.rho, str a.exn]
def effV (e : List Atom) : AV := .sl false 3 (e.map Atom.av)
def rhosV (l : List Int) : AV := .sl false 1 (l.map fun r => [int r])

inductive RT where
  | mk (kind rho : Int) (eff : List Atom) (kids : List RT)
inductive T where
  | mk (h : Head) (kids : List T)
inductive AT where
  | mk (h : Head) (rho : Int) (rhos : List Int) (eff : List Atom) (type res : RT) (kids : List AT)

mutual
def RT.av : RT → List AV
  | .mk k r e ks => [u8 k, int r, effV e, .sl false 4 (RT.avs ks)]
def RT.avs : List RT → List (List AV)
  | [] => []
  | t :: ts => RT.av t :: RT.avs ts
end
mutual
def T.av : T → List AV
  | .mk h ks => h.av ++ [.sl false 8 (T.avs ks)]
def T.avs : List T → List (List AV)
  | [] => []
  | t :: ts => T.av t :: T.avs ts
end
mutual
def AT.av : AT → List AV
  | .mk h r rs e t s ks => h.av ++ [int r, rhosV rs, effV e] ++ t.av ++ s.av ++ [.sl false 19 (AT.avs ks)]
def AT.avs : List AT → List (List AV)
  | [] => []
  | t :: ts => AT.av t :: AT.avs ts
end

theorem RT.avs_map (l : List RT) : RT.avs l = l.map RT.av := by
  induction l with
  | nil => rfl
  | cons t l ih => simp [RT.avs, ih]
theorem T.avs_map (l : List T) : T.avs l = l.map T.av := by
  induction l with
  | nil => rfl
  | cons t l ih => simp [T.avs, ih]
theorem AT.avs_map (l : List AT) : AT.avs l = l.map AT.av := by
  induction l with
  | nil => rfl
  | cons t l ih => simp [AT.avs, ih]
@[simp] theorem Head.av_len (h : Head) : h.av.length = 7 := rfl
@[simp] theorem RT.av_len (t : RT) : t.av.length = 4 := by cases t; rfl
@[simp] theorem T.av_len (t : T) : t.av.length = 8 := by cases t; rfl
@[simp] theorem AT.av_len (t : AT) : t.av.length = 19 := by cases t; simp [AT.av]

def AT.h : AT → Head | .mk h _ _ _ _ _ _ => h
def AT.kids : AT → List AT | .mk _ _ _ _ _ _ ks => ks
def T.h : T → Head | .mk h _ => h
def T.kids : T → List T | .mk _ ks => ks
def RT.kids : RT → List RT | .mk _ _ _ ks => ks

mutual
def AT.size : AT → Nat
  | .mk _ _ _ _ _ _ ks => 1 + AT.sizes ks
def AT.sizes : List AT → Nat
  | [] => 0
  | t :: ts => AT.size t + AT.sizes ts
end
mutual
def T.size : T → Nat
  | .mk _ ks => 1 + T.sizes ks
def T.sizes : List T → Nat
  | [] => 0
  | t :: ts => T.size t + T.sizes ts
end
mutual
def RT.size : RT → Nat
  | .mk _ _ _ ks => 1 + RT.sizes ks
def RT.sizes : List RT → Nat
  | [] => 0
  | t :: ts => RT.size t + RT.sizes ts
end
theorem AT.sizes_mem {l : List AT} {t : AT} (h : t ∈ l) : t.size ≤ AT.sizes l := by
  induction l with
  | nil => simp at h
  | cons a l ih =>
    rcases List.mem_cons.1 h with rfl | h
    · simp [AT.sizes]
    · have := ih h; simp [AT.sizes]; omega
theorem RT.sizes_mem {l : List RT} {t : RT} (h : t ∈ l) : t.size ≤ RT.sizes l := by
  induction l with
  | nil => simp at h
  | cons a l ih =>
    rcases List.mem_cons.1 h with rfl | h
    · simp [RT.sizes]
    · have := ih h; simp [RT.sizes]; omega
theorem T.sizes_mem {l : List T} {t : T} (h : t ∈ l) : t.size ≤ T.sizes l := by
  induction l with
  | nil => simp at h
  | cons a l ih =>
    rcases List.mem_cons.1 h with rfl | h
    · simp [T.sizes]
    · have := ih h; simp [T.sizes]; omega
theorem AT.size_pos (t : AT) : 0 < t.size := by cases t; simp [AT.size]; omega
theorem T.size_pos (t : T) : 0 < t.size := by cases t; simp [T.size]; omega

/-! ### All of it is data -/
theorem Head.dat (h : Head) : ∀ x ∈ h.av, Dat x := by
  intro x hx
  simp only [Head.av, List.mem_cons, List.not_mem_nil, or_false] at hx
  rcases hx with rfl | rfl | rfl | rfl | rfl | rfl | rfl <;> exact .val _
theorem effV_dat (e : List Atom) : Dat (effV e) := .sl fun el hel x hx => by
  obtain ⟨a, _, rfl⟩ := List.mem_map.1 hel
  simp only [Atom.av, List.mem_cons, List.not_mem_nil, or_false] at hx
  rcases hx with rfl | rfl | rfl <;> exact .val _
theorem rhosV_dat (l : List Int) : Dat (rhosV l) := .sl fun el hel x hx => by
  obtain ⟨a, _, rfl⟩ := List.mem_map.1 hel
  simp only [List.mem_cons, List.not_mem_nil, or_false] at hx
  subst hx; exact .val _
mutual
theorem RT.dat : ∀ (t : RT), ∀ x ∈ t.av, Dat x
  | .mk k r e ks, x, hx => by
    simp only [RT.av, List.mem_cons, List.not_mem_nil, or_false] at hx
    rcases hx with rfl | rfl | rfl | rfl
    · exact .val _
    · exact .val _
    · exact effV_dat e
    · exact .sl (RT.dats ks)
theorem RT.dats : ∀ (l : List RT), ∀ el ∈ RT.avs l, ∀ x ∈ el, Dat x
  | [], el, hel, x, hx => by simp [RT.avs] at hel
  | t :: ts, el, hel, x, hx => by
    simp only [RT.avs, List.mem_cons] at hel
    rcases hel with rfl | hel
    · exact RT.dat t x hx
    · exact RT.dats ts el hel x hx
end
mutual
theorem T.dat : ∀ (t : T), ∀ x ∈ t.av, Dat x
  | .mk h ks, x, hx => by
    simp only [T.av, List.mem_append, List.mem_cons, List.not_mem_nil, or_false] at hx
    rcases hx with hx | rfl
    · exact h.dat x hx
    · exact .sl (T.dats ks)
theorem T.dats : ∀ (l : List T), ∀ el ∈ T.avs l, ∀ x ∈ el, Dat x
  | [], el, hel, x, hx => by simp [T.avs] at hel
  | t :: ts, el, hel, x, hx => by
    simp only [T.avs, List.mem_cons] at hel
    rcases hel with rfl | hel
    · exact T.dat t x hx
    · exact T.dats ts el hel x hx
end
mutual
theorem AT.dat : ∀ (t : AT), ∀ x ∈ t.av, Dat x
  | .mk h r rs e t s ks, x, hx => by
    simp only [AT.av, List.mem_append, List.mem_cons, List.not_mem_nil, or_false] at hx
    rcases hx with (((hx | rfl | rfl | rfl) | hx) | hx) | rfl
    · exact h.dat x hx
    · exact .val _
    · exact rhosV_dat rs
    · exact effV_dat e
    · exact t.dat x hx
    · exact s.dat x hx
    · exact .sl (AT.dats ks)
theorem AT.dats : ∀ (l : List AT), ∀ el ∈ AT.avs l, ∀ x ∈ el, Dat x
  | [], el, hel, x, hx => by simp [AT.avs] at hel
  | t :: ts, el, hel, x, hx => by
    simp only [AT.avs, List.mem_cons] at hel
    rcases hel with rfl | hel
    · exact AT.dat t x hx
    · exact AT.dats ts el hel x hx
end
abbrev AT.v (t : AT) : AV := .agg t.av
abbrev T.v (t : T) : AV := .agg t.av
abbrev RT.v (t : RT) : AV := .agg t.av
abbrev AT.vs (l : List AT) : AV := .sl false 19 (AT.avs l)
abbrev T.vs (l : List T) : AV := .sl false 8 (T.avs l)
abbrev RT.vs (l : List RT) : AV := .sl false 4 (RT.avs l)
def AT.rho : AT → Int | .mk _ r _ _ _ _ _ => r
def AT.rhos : AT → List Int | .mk _ _ r _ _ _ _ => r
def AT.eff : AT → List Atom | .mk _ _ _ e _ _ _ => e
def AT.type : AT → RT | .mk _ _ _ _ t _ _ => t
def AT.res : AT → RT | .mk _ _ _ _ _ t _ => t
def RT.kind : RT → Int | .mk k _ _ _ => k
def RT.rho : RT → Int | .mk _ r _ _ => r
def RT.eff : RT → List Atom | .mk _ _ e _ => e

theorem AT.av_eq (t : AT) : ∃ a b c d e f g h, t.type.av = [a, b, c, d] ∧ t.res.av = [e, f, g, h] ∧
    t.av = [u8 t.h.kind, u8 t.h.op, int t.h.pos, int t.h.n, str t.h.name, str t.h.arg, str t.h.exn, int t.rho, rhosV t.rhos, effV t.eff, a, b, c, d, e, f, g, h, AT.vs t.kids] := by
  obtain ⟨h, r, rs, e, ty, re, ks⟩ := t
  obtain ⟨k1, r1, e1, ks1⟩ := ty
  obtain ⟨k2, r2, e2, ks2⟩ := re
  exact ⟨_, _, _, _, _, _, _, _, rfl, rfl, rfl⟩
theorem get_at {α : Type} {l l' : List α} (h : l = l') (i : Nat) (hi : i < l.length) (hi' : i < l'.length) : l[i] = l'[i] := by subst h; rfl
@[simp] theorem AT.av_4' (t : AT) (h : 4 < t.av.length) : t.av[4]'h = str t.h.name := by obtain ⟨_, _, _, _, _, _, _, _, _, _, e⟩ := t.av_eq; exact get_at e 4 h (by simp)
@[simp] theorem AT.av_5' (t : AT) (h : 5 < t.av.length) : t.av[5]'h = str t.h.arg := by obtain ⟨_, _, _, _, _, _, _, _, _, _, e⟩ := t.av_eq; exact get_at e 5 h (by simp)
@[simp] theorem AT.av_6' (t : AT) (h : 6 < t.av.length) : t.av[6]'h = str t.h.exn := by obtain ⟨_, _, _, _, _, _, _, _, _, _, e⟩ := t.av_eq; exact get_at e 6 h (by simp)
@[simp] theorem AT.av_2' (t : AT) (h : 2 < t.av.length) : t.av[2]'h = int t.h.pos := by obtain ⟨_, _, _, _, _, _, _, _, _, _, e⟩ := t.av_eq; exact get_at e 2 h (by simp)
@[simp] theorem AT.av_7' (t : AT) (h : 7 < t.av.length) : t.av[7]'h = int t.rho := by obtain ⟨_, _, _, _, _, _, _, _, _, _, e⟩ := t.av_eq; exact get_at e 7 h (by simp)
@[simp] theorem AT.av_8' (t : AT) (h : 8 < t.av.length) : t.av[8]'h = rhosV t.rhos := by obtain ⟨_, _, _, _, _, _, _, _, _, _, e⟩ := t.av_eq; exact get_at e 8 h (by simp)
@[simp] theorem AT.av_9' (t : AT) (h : 9 < t.av.length) : t.av[9]'h = effV t.eff := by obtain ⟨_, _, _, _, _, _, _, _, _, _, e⟩ := t.av_eq; exact get_at e 9 h (by simp)
@[simp] theorem AT.av_type (t : AT) : List.take 4 (List.drop 10 t.av) = t.type.av := by obtain ⟨_, _, _, _, _, _, _, _, e1, _, e⟩ := t.av_eq; rw [e, e1]; rfl
@[simp] theorem AT.av_res (t : AT) : List.take 4 (List.drop 14 t.av) = t.res.av := by obtain ⟨_, _, _, _, _, _, _, _, _, e1, e⟩ := t.av_eq; rw [e, e1]; rfl
theorem RT.av_eq (t : RT) : t.av = [u8 t.kind, int t.rho, effV t.eff, RT.vs t.kids] := by cases t; rfl
@[simp] theorem RT.av_0' (t : RT) (h : 0 < t.av.length) : t.av[0]'h = u8 t.kind := get_at t.av_eq 0 h (by simp)
@[simp] theorem RT.av_1' (t : RT) (h : 1 < t.av.length) : t.av[1]'h = int t.rho := get_at t.av_eq 1 h (by simp)
@[simp] theorem RT.av_2' (t : RT) (h : 2 < t.av.length) : t.av[2]'h = effV t.eff := get_at t.av_eq 2 h (by simp)
@[simp] theorem RT.av_3' (t : RT) (h : 3 < t.av.length) : t.av[3]'h = RT.vs t.kids := get_at t.av_eq 3 h (by simp)
@[simp] theorem RT.av_take4 (t : RT) : t.av.take 4 = t.av := List.take_of_length_le (by simp)
@[simp] theorem RT.avs_len (l : List RT) : (RT.avs l).length = l.length := by simp [RT.avs_map]
theorem RT.avs_get {l : List RT} {i : Nat} {k : RT} (h : l[i]? = some k) : (RT.avs l)[i]? = some k.av := by rw [RT.avs_map]; simp [h]
theorem T.avs_get {l : List T} {i : Nat} {k : T} (h : l[i]? = some k) : (T.avs l)[i]? = some k.av := by rw [T.avs_map]; simp [h]
theorem RT.kids_lt {t k : RT} (h : k ∈ t.kids) : k.size < t.size := by
  obtain ⟨kd, r, e, ks⟩ := t
  have := RT.sizes_mem (show k ∈ ks from h)
  simp [RT.size]; omega
theorem T.kids_lt {t k : T} (h : k ∈ t.kids) : k.size < t.size := by
  obtain ⟨hd, ks⟩ := t
  have := T.sizes_mem (show k ∈ ks from h)
  simp [T.size]; omega
theorem RT.size_pos (t : RT) : 0 < t.size := by cases t; simp [RT.size]; omega


theorem T.av_eq (t : T) : t.av = [u8 t.h.kind, u8 t.h.op, int t.h.pos, int t.h.n, str t.h.name, str t.h.arg, str t.h.exn, T.vs t.kids] := by cases t; rfl
@[simp] theorem T.av_0' (t : T) (h : 0 < t.av.length) : t.av[0]'h = u8 t.h.kind := get_at t.av_eq 0 h (by simp)
@[simp] theorem T.av_1' (t : T) (h : 1 < t.av.length) : t.av[1]'h = u8 t.h.op := get_at t.av_eq 1 h (by simp)
@[simp] theorem T.av_2' (t : T) (h : 2 < t.av.length) : t.av[2]'h = int t.h.pos := get_at t.av_eq 2 h (by simp)
@[simp] theorem T.av_3' (t : T) (h : 3 < t.av.length) : t.av[3]'h = int t.h.n := get_at t.av_eq 3 h (by simp)
@[simp] theorem T.av_4' (t : T) (h : 4 < t.av.length) : t.av[4]'h = str t.h.name := get_at t.av_eq 4 h (by simp)
@[simp] theorem T.av_5' (t : T) (h : 5 < t.av.length) : t.av[5]'h = str t.h.arg := get_at t.av_eq 5 h (by simp)
@[simp] theorem T.av_6' (t : T) (h : 6 < t.av.length) : t.av[6]'h = str t.h.exn := get_at t.av_eq 6 h (by simp)
@[simp] theorem T.av_7' (t : T) (h : 7 < t.av.length) : t.av[7]'h = T.vs t.kids := get_at t.av_eq 7 h (by simp)
@[simp] theorem T.av_head (t : T) : t.av.head? = some (u8 t.h.kind) := by cases t; rfl
theorem T.kids_len (t : T) : t.kids.length < t.size := by
  obtain ⟨hd, ks⟩ := t
  have : ∀ l : List T, l.length ≤ T.sizes l := by
    intro l
    induction l with
    | nil => simp
    | cons a l ih => have := a.size_pos; simp [T.sizes]; omega
  have := this ks
  simp [T.size, T.kids]; omega
mutual
/-- All nodes, each ahead of its kids. -/
def T.all : T → List T
  | .mk h ks => .mk h ks :: T.alls ks
def T.alls : List T → List T
  | [] => []
  | t :: ts => T.all t ++ T.alls ts
end
mutual
theorem T.all_len : ∀ t : T, t.all.length = t.size
  | .mk h ks => by simp [T.all, T.size, T.alls_len ks]; omega
theorem T.alls_len : ∀ l : List T, (T.alls l).length = T.sizes l
  | [] => rfl
  | t :: ts => by simp [T.alls, T.sizes, T.all_len t, T.alls_len ts]
end
theorem T.alls_append (l m : List T) : T.alls (l ++ m) = T.alls l ++ T.alls m := by
  induction l with
  | nil => rfl
  | cons t l ih => simp [T.alls, ih]
theorem T.sizes_append (l m : List T) : T.sizes (l ++ m) = T.sizes l + T.sizes m := by
  induction l with
  | nil => simp [T.sizes]
  | cons t l ih => simp [T.sizes, ih]; omega
theorem T.sizes_take (l : List T) (i : Nat) : T.sizes (l.take i) ≤ T.sizes l := by
  conv => rhs; rw [← List.take_append_drop i l, T.sizes_append]
  omega
theorem T.size_eq (t : T) : t.size = 1 + T.sizes t.kids := by cases t; rfl

end Go.Abs.At
set_option linter.unusedVariables false
set_option linter.unusedSimpArgs false
namespace Go.Abs.Mac
open Go Go.Abs Go.Abs.Stk Go.Abs.At

structure V where
  kind : Int
  n : Int
  r : Int
  a : Int
  deriving DecidableEq
def V.av (v : V) : List AV := [u8 v.kind, int v.n, int v.r, int v.a]
def V.zero : V := ⟨0, 0, 0, 0⟩
def num (n : Int) : V := ⟨1, n, 0, 0⟩
structure Cl where
  kind : Int
  a : V
  b : V
  code : Int
def Cl.av (c : Cl) : List AV := u8 c.kind :: (c.a.av ++ c.b.av ++ [int c.code])
structure Nm where
  name : ByteArray
  v : V
  fn : Bool
structure En where
  names : List Nm
  rhos : List (Int × Int)
def En.nil : En := ⟨[], []⟩
def En.find (e : En) (name : ByteArray) : Option Nm := e.names.find? fun n => n.name = name
def En.with (e : En) (name : ByteArray) (v : V) (fn : Bool) : En := ⟨⟨name, v, fn⟩ :: e.names, e.rhos⟩
def En.region (e : En) (rho : Int) : Int × Bool :=
  match e.rhos.find? fun r => r.1 = rho with
  | some r => (r.2, true)
  | none => (0, decide (rho = 0))
def En.opn (e : En) (rho region : Int) : En := ⟨e.names, (rho, region) :: e.rhos⟩
structure Co where
  body : AT
  arg : ByteArray
  env : En
  rs : Option (List Int)
def Co.rsl (c : Co) : List Int := c.rs.getD []

/-- The store, the steps, the functions. -/
structure Sa where
  store : SG Cl
  steps : Nat
  codes : List Co

/-- What comes of something: a thing, or the end. -/
inductive Re (α : Type) where
  | ok (x : α) (s : Sa)
  | over (s : Sa) (kind : Int)
def Re.bind {α β : Type} : Re α → (α → Sa → Re β) → Re β
  | .ok x s, f => f x s
  | .over s k, _ => .over s k

def pushS (s : SG Cl) : Option (Int × SG Cl) := if (s.live.length : Int) < s.R then some (s.L.length, s.more) else none
def popS (s : SG Cl) : SG Cl :=
  if s.live.length < 2 then s else match s.live.getLast? with
    | some i => s.less i
    | none => s
def liveS (s : SG Cl) (r : Int) : Bool := (s.row r).isSome
def putS (s : SG Cl) (r : Int) (c : Cl) : Option (V × SG Cl) :=
  match s.row r with
  | none => none
  | some row => if s.C ≤ s.cells then none else some (⟨2, 0, r, row.length⟩, s.putC r.toNat row c)

/-- A cell is made. -/
def make (s : Sa) (e : En) (rho : Int) (c : Cl) : Re V :=
  if (e.region rho).2 = true ∧ liveS s.store (e.region rho).1 = true then
    match putS s.store (e.region rho).1 c with
    | some (v, st) => .ok v { s with store := st }
    | none => .over s 4
  else .over s 5
def cellAt (s : SG Cl) (v : V) : Option Cl := (s.row v.r).bind fun row => row[v.a.toNat]?
/-- What stands at a place. -/
def take (s : Sa) (v : V) (kind : Int) : Re Cl :=
  if v.kind = 2 then
    if s.store.find v.kind v.n v.r v.a = 6 then .over s 5
    else if s.store.find v.kind v.n v.r v.a = 0 then
      match cellAt s.store v with
      | some c => if c.kind = kind then .ok c s else .over s 6
      | none => .over s 6
    else .over s 6
  else .over s 6
def coded (s : Sa) (c : Co) : Cl × Sa := (⟨3, V.zero, V.zero, s.codes.length⟩, { s with codes := s.codes ++ [c] })
def code (s : Sa) (e : En) (rho : Int) (c : Co) : Re V := make (coded s c).2 e rho (coded s c).1
def setS (s : SG Cl) (v : V) (c : Cl) : SG Cl :=
  match s.row v.r with
  | some row => s.put v.r.toNat (row.set v.a.toNat c)
  | none => s
def number (s : Sa) (v : V) : Re Int := if v.kind = 1 then .ok v.n s else .over s 6
def opF (o a b : Int) : Int :=
  if o = 1 then IntKind.i64.wrap (a + b) else if o = 2 then IntKind.i64.wrap (a - b) else if o = 3 then IntKind.i64.wrap (a * b)
  else if o = 4 then (if a < b then 1 else 0) else if o = 5 then (if a = b then 1 else 0) else 0

def opens (e own : En) : List Int → List Int → Option En
  | [], _ => some own
  | r :: rs, q :: qs => if (e.region r).2 = true then opens e (own.opn q (e.region r).1) rs qs else none
  | _ :: _, [] => none
/-- An instance of a function is made. -/
def inst (s : Sa) (t : AT) (e : En) : Re V :=
  match e.find t.h.name with
  | none => .over s 6
  | some n => if n.fn = true then
      (take s n.v 3).bind fun c s => match s.codes[c.code.toNat]? with
        | none => .over s 0
        | some f => if f.rsl.length = t.rhos.length then
            match opens e f.env t.rhos f.rsl with
            | none => .over s 5
            | some own => code s e t.rho ⟨f.body, f.arg, own, none⟩
          else .over s 6
    else .over s 6
def kidAt (t : AT) (i : Nat) : AT := (t.kids[i]?).getD t
/-- What a node comes to that has no kid to wait for, but for a region and a letrec. -/
def leaf (s : Sa) (t : AT) (e : En) : Re V :=
  if t.h.kind = 1 then .ok (num t.h.n) s
  else if t.h.kind = 2 then
    match e.find t.h.name with
    | some n => if n.fn = true then .over s 6 else .ok n.v s
    | none => .over s 6
  else if t.h.kind = 18 then inst s t e
  else code s e t.rho ⟨kidAt t 0, t.h.arg, e, none⟩
def isLeaf (k : Int) : Prop := k = 1 ∨ k = 2 ∨ k = 18 ∨ k = 11
instance (k : Int) : Decidable (isLeaf k) := by unfold isLeaf; exact inferInstance
def patch (s : Sa) (e : En) : Sa :=
  match s.codes.getLast? with
  | some c => { s with codes := s.codes.dropLast ++ [{ c with env := e }] }
  | none => s

/-- What goes on: a node is run, a value goes back, an exception goes back. -/
inductive Nx where
  | node (t : AT) (e : En)
  | val (v : V)
  | exn (n : Int) (x : ByteArray)

def at0 (vs : List V) (i : Nat) : V := (vs[i]?).getD V.zero
/-- What a node comes to that has all its kids' values. -/
def rule (s : Sa) (t : AT) (e : En) (vs : List V) : Re Nx :=
  if t.h.kind = 3 then (make s e t.rho ⟨1, at0 vs 0, at0 vs 1, 0⟩).bind fun v s => .ok (.val v) s
  else if t.h.kind = 4 then (take s (at0 vs 0) 1).bind fun c s => .ok (.val c.a) s
  else if t.h.kind = 5 then (take s (at0 vs 0) 1).bind fun c s => .ok (.val c.b) s
  else if t.h.kind = 6 then (make s e t.rho ⟨2, at0 vs 0, V.zero, 0⟩).bind fun v s => .ok (.val v) s
  else if t.h.kind = 7 then (take s (at0 vs 0) 2).bind fun c s => .ok (.val c.a) s
  else if t.h.kind = 8 then (take s (at0 vs 0) 2).bind fun c s => .ok (.val (num 0)) { s with store := setS s.store (at0 vs 0) ⟨2, at0 vs 1, V.zero, 0⟩ }
  else if t.h.kind = 9 then (number s (at0 vs 0)).bind fun a s => (number s (at0 vs 1)).bind fun b s => .ok (.val (num (opF t.h.op a b))) s
  else if t.h.kind = 15 then (number s (at0 vs 0)).bind fun a s => .ok (.exn a t.h.exn) s
  else (take s (at0 vs 0) 3).bind fun c s => match s.codes[c.code.toNat]? with
    | none => .over s 0
    | some f => .ok (.node f.body (f.env.with f.arg (at0 vs 1) false)) s

structure Fr where
  t : AT
  e : En
  vals : List V

/-- The machine's state. -/
structure M where
  x : Nx
  s : Sa
  k : List Fr

/-- A step, or the end. -/
inductive Go where
  | on (m : M)
  | end_ (s : Sa) (kind : Int) (isInt : Bool) (n : Int) (exn : ByteArray)
def Re.go (k : List Fr) : Re Nx → Go
  | .ok x s => .on ⟨x, s, k⟩
  | .over s kind => .end_ s kind false 0 ByteArray.empty

def tick (s : Sa) : Sa := { s with steps := s.steps + 1 }
def enter (fuel : Nat) (s : Sa) (k : List Fr) (t : AT) (e : En) : Go :=
  if t.h.kind = 17 then
    match pushS s.store with
    | none => .end_ s 4 false 0 ByteArray.empty
    | some (r, st) => .on ⟨.node (kidAt t 0) (e.opn t.rho r), { s with store := st }, ⟨t, e, []⟩ :: k⟩
  else if fuel ≤ s.steps then .end_ s 3 false 0 ByteArray.empty
  else if isLeaf t.h.kind then ((leaf (tick s) t e).bind fun v s => .ok (.val v) s).go k
  else if t.h.kind = 13 then
    ((code (tick s) e t.rho ⟨kidAt t 0, t.h.arg, e, some t.rhos⟩).bind fun v s =>
      .ok (.node (kidAt t 1) (e.with t.h.name v true)) (patch s (e.with t.h.name v true))).go k
  else .on ⟨.node (kidAt t 0) e, tick s, ⟨t, e, []⟩ :: k⟩
def give (s : Sa) (k : List Fr) (f : Fr) (v : V) : Go :=
  if f.t.h.kind = 17 then .on ⟨.val v, { s with store := popS s.store }, k⟩
  else if f.t.h.kind = 16 then .on ⟨.val v, s, k⟩
  else if f.t.h.kind = 12 then .on ⟨.node (kidAt f.t 1) (f.e.with f.t.h.name v false), s, k⟩
  else if f.t.h.kind = 14 then
    ((number s v).bind fun n s => .ok (.node (kidAt f.t (if n ≠ 0 then 1 else 2)) f.e) s).go k
  else if f.vals.length + 1 < f.t.kids.length then .on ⟨.node (kidAt f.t (f.vals.length + 1)) f.e, s, ⟨f.t, f.e, f.vals ++ [v]⟩ :: k⟩
  else (rule s f.t f.e (f.vals ++ [v])).go k
def raise (s : Sa) (n : Int) (x : ByteArray) : List Fr → Go
  | [] => .end_ s 2 false n x
  | f :: k =>
    let s' : Sa := if f.t.h.kind = 17 then { s with store := popS s.store } else s
    if f.t.h.kind = 16 ∧ f.t.h.exn = x then .on ⟨.node (kidAt f.t 1) (f.e.with f.t.h.arg (num n) false), s', k⟩ else raise s' n x k
def step (fuel : Nat) (m : M) : Go :=
  match m.x with
  | .node t e => enter fuel m.s m.k t e
  | .exn n x => raise m.s n x m.k
  | .val v => match m.k with
    | [] => if v.kind = 1 then .end_ m.s 1 true v.n ByteArray.empty else .end_ m.s 1 false 0 ByteArray.empty
    | f :: k => give m.s k f v

/-- It comes to an end in some steps. -/
inductive Runs (fuel : Nat) : M → Nat → Sa → Int → Bool → Int → ByteArray → Prop
  | end_ {m s kind b n x} (h : step fuel m = .end_ s kind b n x) : Runs fuel m 0 s kind b n x
  | on {m m' j s kind b n x} (h : step fuel m = .on m') (h' : Runs fuel m' j s kind b n x) : Runs fuel m (j + 1) s kind b n x

/-! ### Whole nodes -/
inductive Out where
  | val (v : V)
  | exn (n : Int) (x : ByteArray)
  | over (kind : Int)
def popO (o : Out) (s : Sa) : Sa :=
  match o with
  | .over _ => s
  | _ => { s with store := popS s.store }
def Out.isVal : Out → Prop
  | .val _ => True
  | _ => False

/-- A rule that ends there. -/
inductive Rend : Re Nx → Sa → Out → Prop
  | val {v s} : Rend (.ok (.val v) s) s (.val v)
  | exn {n x s} : Rend (.ok (.exn n x) s) s (.exn n x)
  | over {s k} : Rend (.over s k) s (.over k)
/-- How a node is run. -/
inductive Big (fuel : Nat) : Sa → AT → En → Sa → Out → Prop
  | full {s t e} (hk : t.h.kind = 17) (h : pushS s.store = none) : Big fuel s t e s (.over 4)
  | region {s t e r st s' o} (hk : t.h.kind = 17) (h : pushS s.store = some (r, st)) (h' : Big fuel { s with store := st } (kidAt t 0) (e.opn t.rho r) s' o) : Big fuel s t e (popO o s') o
  | fuel {s t e} (hk : t.h.kind ≠ 17) (h : fuel ≤ s.steps) : Big fuel s t e s (.over 3)
  | leaf {s t e s' v} (hf : s.steps < fuel) (hk : isLeaf t.h.kind) (h : leaf (tick s) t e = .ok v s') : Big fuel s t e s' (.val v)
  | leafOver {s t e s' k} (hf : s.steps < fuel) (hk : isLeaf t.h.kind) (h : leaf (tick s) t e = .over s' k) : Big fuel s t e s' (.over k)
  | letStop {s t e s' o} (hf : s.steps < fuel) (hk : t.h.kind = 12) (h : Big fuel (tick s) (kidAt t 0) e s' o) (ho : ¬ o.isVal) : Big fuel s t e s' o
  | let_ {s t e s' v s'' o} (hf : s.steps < fuel) (hk : t.h.kind = 12) (h : Big fuel (tick s) (kidAt t 0) e s' (.val v)) (h' : Big fuel s' (kidAt t 1) (e.with t.h.name v false) s'' o) : Big fuel s t e s'' o
  | letrecOver {s t e s' k} (hf : s.steps < fuel) (hk : t.h.kind = 13) (h : code (tick s) e t.rho ⟨kidAt t 0, t.h.arg, e, some t.rhos⟩ = .over s' k) : Big fuel s t e s' (.over k)
  | letrec {s t e s' v s'' o} (hf : s.steps < fuel) (hk : t.h.kind = 13) (h : code (tick s) e t.rho ⟨kidAt t 0, t.h.arg, e, some t.rhos⟩ = .ok v s')
      (h' : Big fuel (patch s' (e.with t.h.name v true)) (kidAt t 1) (e.with t.h.name v true) s'' o) : Big fuel s t e s'' o
  | ifStop {s t e s' o} (hf : s.steps < fuel) (hk : t.h.kind = 14) (h : Big fuel (tick s) (kidAt t 0) e s' o) (ho : ¬ o.isVal) : Big fuel s t e s' o
  | ifStuck {s t e s' v} (hf : s.steps < fuel) (hk : t.h.kind = 14) (h : Big fuel (tick s) (kidAt t 0) e s' (.val v)) (hv : v.kind ≠ 1) : Big fuel s t e s' (.over 6)
  | if_ {s t e s' v s'' o} (hf : s.steps < fuel) (hk : t.h.kind = 14) (h : Big fuel (tick s) (kidAt t 0) e s' (.val v)) (hv : v.kind = 1) (h' : Big fuel s' (kidAt t (if v.n ≠ 0 then 1 else 2)) e s'' o) : Big fuel s t e s'' o
  | try_ {s t e s' o} (hf : s.steps < fuel) (hk : t.h.kind = 16) (h : Big fuel (tick s) (kidAt t 0) e s' o) (ho : ∀ n, o ≠ .exn n t.h.exn) : Big fuel s t e s' o
  | catch_ {s t e s' n s'' o} (hf : s.steps < fuel) (hk : t.h.kind = 16) (h : Big fuel (tick s) (kidAt t 0) e s' (.exn n t.h.exn)) (h' : Big fuel s' (kidAt t 1) (e.with t.h.arg (num n) false) s'' o) : Big fuel s t e s'' o
  | stop1 {s t e s' o} (hf : s.steps < fuel) (hk : 3 ≤ t.h.kind ∧ t.h.kind ≤ 10 ∨ t.h.kind = 15) (h : Big fuel (tick s) (kidAt t 0) e s' o) (ho : ¬ o.isVal) : Big fuel s t e s' o
  | stop2 {s t e s' v s'' o} (hf : s.steps < fuel) (hk : 3 ≤ t.h.kind ∧ t.h.kind ≤ 10 ∨ t.h.kind = 15) (hl : t.kids.length = 2) (h : Big fuel (tick s) (kidAt t 0) e s' (.val v)) (h' : Big fuel s' (kidAt t 1) e s'' o) (ho : ¬ o.isVal) : Big fuel s t e s'' o
  | rule1 {s t e s₁ v s₂ o} (hf : s.steps < fuel) (hk : 3 ≤ t.h.kind ∧ t.h.kind ≤ 10 ∨ t.h.kind = 15) (hl : t.kids.length = 1) (h : Big fuel (tick s) (kidAt t 0) e s₁ (.val v)) (h' : Rend (rule s₁ t e [v]) s₂ o) : Big fuel s t e s₂ o
  | rule2 {s t e s₁ v s₂ w s₃ o} (hf : s.steps < fuel) (hk : 3 ≤ t.h.kind ∧ t.h.kind ≤ 10 ∨ t.h.kind = 15) (hl : t.kids.length = 2) (h : Big fuel (tick s) (kidAt t 0) e s₁ (.val v)) (h' : Big fuel s₁ (kidAt t 1) e s₂ (.val w)) (h₂ : Rend (rule s₂ t e [v, w]) s₃ o) : Big fuel s t e s₃ o
  | call {s t e s₁ v s₂ w s₃ b e' s₄ o} (hf : s.steps < fuel) (hk : 3 ≤ t.h.kind ∧ t.h.kind ≤ 10 ∨ t.h.kind = 15) (hl : t.kids.length = 2) (h : Big fuel (tick s) (kidAt t 0) e s₁ (.val v)) (h' : Big fuel s₁ (kidAt t 1) e s₂ (.val w)) (h₂ : rule s₂ t e [v, w] = .ok (.node b e') s₃) (h₃ : Big fuel s₃ b e' s₄ o) : Big fuel s t e s₄ o
end Go.Abs.Mac
