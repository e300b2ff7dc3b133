import Derived.Test.YtjilebpcaemopaaGreatDoorStackM
import Derived.Test.YtjilebpcaemopaaGreatDoorAtM
set_option linter.unusedVariables false
set_option linter.unusedSimpArgs false
namespace Go.Abs.Mac
open Go Go.Abs Go.Abs.Stk Go.Abs.At

structure V where
  kind : Int
  n : Int
  r : Int
  a : Int
  deriving DecidableEq
def V.av (v : V) : List AV := [u8 v.kind, int v.n, int v.r, int v.a]
def V.zero : V := ⟨0, 0, 0, 0⟩
def num (n : Int) : V := ⟨1, n, 0, 0⟩
structure Cl where
  kind : Int
  a : V
  b : V
  code : Int
def Cl.av (c : Cl) : List AV := u8 c.kind :: (c.a.av ++ c.b.av ++ [int c.code])
structure Nm where
  name : ByteArray
  v : V
  fn : Bool
structure En where
  names : List Nm
  rhos : List (Int × Int)
def En.nil : En := ⟨[], []⟩
def En.find (e : En) (name : ByteArray) : Option Nm := e.names.find? fun n => n.name = name
def En.with (e : En) (name : ByteArray) (v : V) (fn : Bool) : En := ⟨⟨name, v, fn⟩ :: e.names, e.rhos⟩
def En.region (e : En) (rho : Int) : Int × Bool :=
  match e.rhos.find? fun r => r.1 = rho with
  | some r => (r.2, true)
  | none => (0, decide (rho = 0))
def En.opn (e : En) (rho region : Int) : En := ⟨e.names, (rho, region) :: e.rhos⟩
structure Co where
  body : AT
  arg : ByteArray
  env : En
  rs : Option (List Int)
def Co.rsl (c : Co) : List Int := c.rs.getD []

/-- The store, the steps, the functions. -/
structure Sa where
  store : SG Cl
  steps : Nat
  codes : List Co

/-- What comes of something: a thing, or the end. -/
inductive Re (α : Type) where
  | ok (x : α) (s : Sa)
  | over (s : Sa) (kind : Int)
def Re.bind {α β : Type} : Re α → (α → Sa → Re β) → Re β
  | .ok x s, f => f x s
  | .over s k, _ => .over s k

def pushS (s : SG Cl) : Option (Int × SG Cl) := if (s.live.length : Int) < s.R then some (s.L.length, s.more) else none
def popS (s : SG Cl) : SG Cl :=
  if s.live.length < 2 then s else match s.live.getLast? with
    | some i => s.less i
    | none => s
def liveS (s : SG Cl) (r : Int) : Bool := (s.row r).isSome
def putS (s : SG Cl) (r : Int) (c : Cl) : Option (V × SG Cl) :=
  match s.row r with
  | none => none
  | some row => if s.C ≤ s.cells then none else some (⟨2, 0, r, row.length⟩, s.putC r.toNat row c)

/-- A cell is made. -/
def make (s : Sa) (e : En) (rho : Int) (c : Cl) : Re V :=
  if (e.region rho).2 = true ∧ liveS s.store (e.region rho).1 = true then
    match putS s.store (e.region rho).1 c with
    | some (v, st) => .ok v { s with store := st }
    | none => .over s 4
  else .over s 5
def cellAt (s : SG Cl) (v : V) : Option Cl := (s.row v.r).bind fun row => row[v.a.toNat]?
/-- What stands at a place. -/
def take (s : Sa) (v : V) (kind : Int) : Re Cl :=
  if v.kind = 2 then
    if s.store.find v.kind v.n v.r v.a = 6 then .over s 5
    else if s.store.find v.kind v.n v.r v.a = 0 then
      match cellAt s.store v with
      | some c => if c.kind = kind then .ok c s else .over s 6
      | none => .over s 6
    else .over s 6
  else .over s 6
def coded (s : Sa) (c : Co) : Cl × Sa := (⟨3, V.zero, V.zero, s.codes.length⟩, { s with codes := s.codes ++ [c] })
def code (s : Sa) (e : En) (rho : Int) (c : Co) : Re V := make (coded s c).2 e rho (coded s c).1
def setS (s : SG Cl) (v : V) (c : Cl) : SG Cl :=
  match s.row v.r with
  | some row => s.put v.r.toNat (row.set v.a.toNat c)
  | none => s
def number (s : Sa) (v : V) : Re Int := if v.kind = 1 then .ok v.n s else .over s 6
def opF (o a b : Int) : Int :=
  if o = 1 then IntKind.i64.wrap (a + b) else if o = 2 then IntKind.i64.wrap (a - b) else if o = 3 then IntKind.i64.wrap (a * b)
  else if o = 4 then (if a < b then 1 else 0) else if o = 5 then (if a = b then 1 else 0) else 0

def opens (e own : En) : List Int → List Int → Option En
  | [], _ => some own
  | r :: rs, q :: qs => if (e.region r).2 = true then opens e (own.opn q (e.region r).1) rs qs else none
  | _ :: _, [] => none
/-- An instance of a function is made. -/
def inst (s : Sa) (t : AT) (e : En) : Re V :=
  match e.find t.h.name with
  | none => .over s 6
  | some n => if n.fn = true then
      (take s n.v 3).bind fun c s => match s.codes[c.code.toNat]? with
        | none => .over s 0
        | some f => if f.rsl.length = t.rhos.length then
            match opens e f.env t.rhos f.rsl with
            | none => .over s 5
            | some own => code s e t.rho ⟨f.body, f.arg, own, none⟩
          else .over s 6
    else .over s 6
def kidAt (t : AT) (i : Nat) : AT := (t.kids[i]?).getD t
/-- What a node comes to that has no kid to wait for, but for a region and a letrec. -/
def leaf (s : Sa) (t : AT) (e : En) : Re V :=
  if t.h.kind = 1 then .ok (num t.h.n) s
  else if t.h.kind = 2 then
    match e.find t.h.name with
    | some n => if n.fn = true then .over s 6 else .ok n.v s
    | none => .over s 6
  else if t.h.kind = 18 then inst s t e
  else code s e t.rho ⟨kidAt t 0, t.h.arg, e, none⟩
def isLeaf (k : Int) : Prop := k = 1 ∨ k = 2 ∨ k = 18 ∨ k = 11
instance (k : Int) : Decidable (isLeaf k) := by unfold isLeaf; exact inferInstance
def patch (s : Sa) (e : En) : Sa :=
  match s.codes.getLast? with
  | some c => { s with codes := s.codes.dropLast ++ [{ c with env := e }] }
  | none => s

/-- What goes on: a node is run, a value goes back, an exception goes back. -/
inductive Nx where
  | node (t : AT) (e : En)
  | val (v : V)
  | exn (n : Int) (x : ByteArray)

def at0 (vs : List V) (i : Nat) : V := (vs[i]?).getD V.zero
/-- What a node comes to that has all its kids' values. -/
def rule (s : Sa) (t : AT) (e : En) (vs : List V) : Re Nx :=
  if t.h.kind = 3 then (make s e t.rho ⟨1, at0 vs 0, at0 vs 1, 0⟩).bind fun v s => .ok (.val v) s
  else if t.h.kind = 4 then (take s (at0 vs 0) 1).bind fun c s => .ok (.val c.a) s
  else if t.h.kind = 5 then (take s (at0 vs 0) 1).bind fun c s => .ok (.val c.b) s
  else if t.h.kind = 6 then (make s e t.rho ⟨2, at0 vs 0, V.zero, 0⟩).bind fun v s => .ok (.val v) s
  else if t.h.kind = 7 then (take s (at0 vs 0) 2).bind fun c s => .ok (.val c.a) s
  else if t.h.kind = 8 then (take s (at0 vs 0) 2).bind fun c s => .ok (.val (num 0)) { s with store := setS s.store (at0 vs 0) ⟨2, at0 vs 1, V.zero, 0⟩ }
  else if t.h.kind = 9 then (number s (at0 vs 0)).bind fun a s => (number s (at0 vs 1)).bind fun b s => .ok (.val (num (opF t.h.op a b))) s
  else if t.h.kind = 15 then (number s (at0 vs 0)).bind fun a s => .ok (.exn a t.h.exn) s
  else (take s (at0 vs 0) 3).bind fun c s => match s.codes[c.code.toNat]? with
    | none => .over s 0
    | some f => .ok (.node f.body (f.env.with f.arg (at0 vs 1) false)) s

structure Fr where
  t : AT
  e : En
  vals : List V

/-- The machine's state. -/
structure M where
  x : Nx
  s : Sa
  k : List Fr

/-- A step, or the end. -/
inductive Go where
  | on (m : M)
  | end_ (s : Sa) (kind : Int) (isInt : Bool) (n : Int) (exn : ByteArray)
def Re.go (k : List Fr) : Re Nx → Go
  | .ok x s => .on ⟨x, s, k⟩
  | .over s kind => .end_ s kind false 0 ByteArray.empty

def tick (s : Sa) : Sa := { s with steps := s.steps + 1 }
def enter (fuel : Nat) (s : Sa) (k : List Fr) (t : AT) (e : En) : Go :=
  if t.h.kind = 17 then
    match pushS s.store with
    | none => .end_ s 4 false 0 ByteArray.empty
    | some (r, st) => .on ⟨.node (kidAt t 0) (e.opn t.rho r), { s with store := st }, ⟨t, e, []⟩ :: k⟩
  else if fuel ≤ s.steps then .end_ s 3 false 0 ByteArray.empty
  else if isLeaf t.h.kind then ((leaf (tick s) t e).bind fun v s => .ok (.val v) s).go k
  else if t.h.kind = 13 then
    ((code (tick s) e t.rho ⟨kidAt t 0, t.h.arg, e, some t.rhos⟩).bind fun v s =>
      .ok (.node (kidAt t 1) (e.with t.h.name v true)) (patch s (e.with t.h.name v true))).go k
  else .on ⟨.node (kidAt t 0) e, tick s, ⟨t, e, []⟩ :: k⟩
def give (s : Sa) (k : List Fr) (f : Fr) (v : V) : Go :=
  if f.t.h.kind = 17 then .on ⟨.val v, { s with store := popS s.store }, k⟩
  else if f.t.h.kind = 16 then .on ⟨.val v, s, k⟩
  else if f.t.h.kind = 12 then .on ⟨.node (kidAt f.t 1) (f.e.with f.t.h.name v false), s, k⟩
  else if f.t.h.kind = 14 then
    ((number s v).bind fun n s => .ok (.node (kidAt f.t (if n ≠ 0 then 1 else 2)) f.e) s).go k
  else if f.vals.length + 1 < f.t.kids.length then .on ⟨.node (kidAt f.t (f.vals.length + 1)) f.e, s, ⟨f.t, f.e, f.vals ++ [v]⟩ :: k⟩
  else (rule s f.t f.e (f.vals ++ [v])).go k
def raise (s : Sa) (n : Int) (x : ByteArray) : List Fr → Go
  | [] => .end_ s 2 false n x
  | f :: k =>
    let s' : Sa := if f.t.h.kind = 17 then { s with store := popS s.store } else s
    if f.t.h.kind = 16 ∧ f.t.h.exn = x then .on ⟨.node (kidAt f.t 1) (f.e.with f.t.h.arg (num n) false), s', k⟩ else raise s' n x k
def step (fuel : Nat) (m : M) : Go :=
  match m.x with
  | .node t e => enter fuel m.s m.k t e
  | .exn n x => raise m.s n x m.k
  | .val v => match m.k with
    | [] => if v.kind = 1 then .end_ m.s 1 true v.n ByteArray.empty else .end_ m.s 1 false 0 ByteArray.empty
    | f :: k => give m.s k f v

/-- It comes to an end in some steps. -/
inductive Runs (fuel : Nat) : M → Nat → Sa → Int → Bool → Int → ByteArray → Prop
  | end_ {m s kind b n x} (h : step fuel m = .end_ s kind b n x) : Runs fuel m 0 s kind b n x
  | on {m m' j s kind b n x} (h : step fuel m = .on m') (h' : Runs fuel m' j s kind b n x) : Runs fuel m (j + 1) s kind b n x

/-! ### Whole nodes -/
inductive Out where
  | val (v : V)
  | exn (n : Int) (x : ByteArray)
  | over (kind : Int)
def popO (o : Out) (s : Sa) : Sa :=
  match o with
  | .over _ => s
  | _ => { s with store := popS s.store }
def Out.isVal : Out → Prop
  | .val _ => True
  | _ => False

/-- A rule that ends there. -/
inductive Rend : Re Nx → Sa → Out → Prop
  | val {v s} : Rend (.ok (.val v) s) s (.val v)
  | exn {n x s} : Rend (.ok (.exn n x) s) s (.exn n x)
  | over {s k} : Rend (.over s k) s (.over k)
/-- How a node is run. -/
inductive Big (fuel : Nat) : Sa → AT → En → Sa → Out → Prop
  | full {s t e} (hk : t.h.kind = 17) (h : pushS s.store = none) : Big fuel s t e s (.over 4)
  | region {s t e r st s' o} (hk : t.h.kind = 17) (h : pushS s.store = some (r, st)) (h' : Big fuel { s with store := st } (kidAt t 0) (e.opn t.rho r) s' o) : Big fuel s t e (popO o s') o
  | fuel {s t e} (hk : t.h.kind ≠ 17) (h : fuel ≤ s.steps) : Big fuel s t e s (.over 3)
  | leaf {s t e s' v} (hf : s.steps < fuel) (hk : isLeaf t.h.kind) (h : leaf (tick s) t e = .ok v s') : Big fuel s t e s' (.val v)
  | leafOver {s t e s' k} (hf : s.steps < fuel) (hk : isLeaf t.h.kind) (h : leaf (tick s) t e = .over s' k) : Big fuel s t e s' (.over k)
  | letStop {s t e s' o} (hf : s.steps < fuel) (hk : t.h.kind = 12) (h : Big fuel (tick s) (kidAt t 0) e s' o) (ho : ¬ o.isVal) : Big fuel s t e s' o
  | let_ {s t e s' v s'' o} (hf : s.steps < fuel) (hk : t.h.kind = 12) (h : Big fuel (tick s) (kidAt t 0) e s' (.val v)) (h' : Big fuel s' (kidAt t 1) (e.with t.h.name v false) s'' o) : Big fuel s t e s'' o
  | letrecOver {s t e s' k} (hf : s.steps < fuel) (hk : t.h.kind = 13) (h : code (tick s) e t.rho ⟨kidAt t 0, t.h.arg, e, some t.rhos⟩ = .over s' k) : Big fuel s t e s' (.over k)
  | letrec {s t e s' v s'' o} (hf : s.steps < fuel) (hk : t.h.kind = 13) (h : code (tick s) e t.rho ⟨kidAt t 0, t.h.arg, e, some t.rhos⟩ = .ok v s')
      (h' : Big fuel (patch s' (e.with t.h.name v true)) (kidAt t 1) (e.with t.h.name v true) s'' o) : Big fuel s t e s'' o
  | ifStop {s t e s' o} (hf : s.steps < fuel) (hk : t.h.kind = 14) (h : Big fuel (tick s) (kidAt t 0) e s' o) (ho : ¬ o.isVal) : Big fuel s t e s' o
  | ifStuck {s t e s' v} (hf : s.steps < fuel) (hk : t.h.kind = 14) (h : Big fuel (tick s) (kidAt t 0) e s' (.val v)) (hv : v.kind ≠ 1) : Big fuel s t e s' (.over 6)
  | if_ {s t e s' v s'' o} (hf : s.steps < fuel) (hk : t.h.kind = 14) (h : Big fuel (tick s) (kidAt t 0) e s' (.val v)) (hv : v.kind = 1) (h' : Big fuel s' (kidAt t (if v.n ≠ 0 then 1 else 2)) e s'' o) : Big fuel s t e s'' o
  | try_ {s t e s' o} (hf : s.steps < fuel) (hk : t.h.kind = 16) (h : Big fuel (tick s) (kidAt t 0) e s' o) (ho : ∀ n, o ≠ .exn n t.h.exn) : Big fuel s t e s' o
  | catch_ {s t e s' n s'' o} (hf : s.steps < fuel) (hk : t.h.kind = 16) (h : Big fuel (tick s) (kidAt t 0) e s' (.exn n t.h.exn)) (h' : Big fuel s' (kidAt t 1) (e.with t.h.arg (num n) false) s'' o) : Big fuel s t e s'' o
  | stop1 {s t e s' o} (hf : s.steps < fuel) (hk : 3 ≤ t.h.kind ∧ t.h.kind ≤ 10 ∨ t.h.kind = 15) (h : Big fuel (tick s) (kidAt t 0) e s' o) (ho : ¬ o.isVal) : Big fuel s t e s' o
  | stop2 {s t e s' v s'' o} (hf : s.steps < fuel) (hk : 3 ≤ t.h.kind ∧ t.h.kind ≤ 10 ∨ t.h.kind = 15) (hl : t.kids.length = 2) (h : Big fuel (tick s) (kidAt t 0) e s' (.val v)) (h' : Big fuel s' (kidAt t 1) e s'' o) (ho : ¬ o.isVal) : Big fuel s t e s'' o
  | rule1 {s t e s₁ v s₂ o} (hf : s.steps < fuel) (hk : 3 ≤ t.h.kind ∧ t.h.kind ≤ 10 ∨ t.h.kind = 15) (hl : t.kids.length = 1) (h : Big fuel (tick s) (kidAt t 0) e s₁ (.val v)) (h' : Rend (rule s₁ t e [v]) s₂ o) : Big fuel s t e s₂ o
  | rule2 {s t e s₁ v s₂ w s₃ o} (hf : s.steps < fuel) (hk : 3 ≤ t.h.kind ∧ t.h.kind ≤ 10 ∨ t.h.kind = 15) (hl : t.kids.length = 2) (h : Big fuel (tick s) (kidAt t 0) e s₁ (.val v)) (h' : Big fuel s₁ (kidAt t 1) e s₂ (.val w)) (h₂ : Rend (rule s₂ t e [v, w]) s₃ o) : Big fuel s t e s₃ o
  | call {s t e s₁ v s₂ w s₃ b e' s₄ o} (hf : s.steps < fuel) (hk : 3 ≤ t.h.kind ∧ t.h.kind ≤ 10 ∨ t.h.kind = 15) (hl : t.kids.length = 2) (h : Big fuel (tick s) (kidAt t 0) e s₁ (.val v)) (h' : Big fuel s₁ (kidAt t 1) e s₂ (.val w)) (h₂ : rule s₂ t e [v, w] = .ok (.node b e') s₃) (h₃ : Big fuel s₃ b e' s₄ o) : Big fuel s t e s₄ o
end Go.Abs.Mac
