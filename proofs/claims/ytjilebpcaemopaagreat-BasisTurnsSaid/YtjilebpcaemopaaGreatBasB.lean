/-
  The basis in the program: how it stands, and what it tells.
-/
import Derived.Test.YtjilebpcaemopaaGreatBasF
set_option linter.unusedVariables false
set_option linter.unusedSimpArgs false
namespace Go.Abs.Bas
open Go Go.Abs Go.Abs.At Go.Proofs.BasD
attribute [local simp] Nat.add_assoc

structure IS where
  up : List Int
  vup : List Int
  has : List (List Atom × List Int)
def hasRow (p : List Atom × List Int) : List AV := [effV p.1, rhosV p.2]
theorem hasRow_dat (l : List (List Atom × List Int)) : ∀ el ∈ l.map hasRow, ∀ x ∈ el, Dat x := by
  intro el hel x hx
  obtain ⟨p, _, rfl⟩ := List.mem_map.1 hel
  simp only [hasRow, List.mem_cons, List.not_mem_nil, or_false] at hx
  rcases hx with rfl | rfl
  · exact effV_dat _
  · exact rhosV_dat _

abbrev nilS : AV := .val (.slice none 0 0)
/-- Nil, or a row in hand. -/
def RowV (σ : AHeap) (v : AV) (sz : Nat) (els : List (List AV)) : Prop :=
  (v = nilS ∧ els = []) ∨ ∃ q rest, v = .own q els.length ∧ els ≠ [] ∧ σ.get q = some (.cells sz (els ++ rest)) ∧ q < σ.next
theorem RowV.rows {σ v sz els} (h : RowV σ v sz els) : Rows σ sz v els := by
  rcases h with h | ⟨q, rest, h1, _, h2, _⟩
  · exact .inl h
  · exact .inr (.inr ⟨q, rest, h1, h2⟩)
theorem RowV.rowG {σ v sz els} (h : RowV σ v sz els) : RowG σ sz v els := by
  refine ⟨h.rows, ?_⟩
  rcases h with ⟨rfl, _⟩ | ⟨q, rest, rfl, _, _, h2⟩
  · exact .val _
  · exact .own h2
theorem RowV.ns {σ v sz els} (h : RowV σ v sz els) : ∀ c, v ≠ .sl c sz els := by
  intro c e
  rcases h with ⟨h, _⟩ | ⟨q, rest, h1, _⟩ <;> rw [e] at * <;> first | cases h | cases h1
theorem RowV.mono {σ τ v sz els} (h : RowV σ v sz els) (hn : σ.next ≤ τ.next) (hg : ∀ q n, v = .own q n → q < σ.next → τ.get q = σ.get q) : RowV τ v sz els := by
  rcases h with h | ⟨q, rest, h1, h2, h3, h4⟩
  · exact .inl h
  · exact .inr ⟨q, rest, h1, h2, by rw [hg q _ h1 h4]; exact h3, Nat.lt_of_lt_of_le h4 hn⟩
theorem gone_get {v : AV} {σ : AHeap} {j : Nat} (h : ∀ n, v ≠ .own j n) : (gone v σ).get j = σ.get j := by
  unfold gone
  split
  · rename_i q n
    exact AHeap.del_ne fun e => h n (by rw [e])
  · rfl

structure BAt (σ : AHeap) (id : Nat) (rv vv hv : AV) (s : IS) : Prop where
  obj : σ.get id = some (.cells 3 [[rv, vv, hv]])
  lt : id < σ.next
  r : RowV σ rv 1 (irows s.up)
  v : RowV σ vv 1 (irows s.vup)
  h : RowV σ hv 2 (s.has.map hasRow)
  ri : ∀ n, rv ≠ .own id n
  vi : ∀ n, vv ≠ .own id n
  hi : ∀ n, hv ≠ .own id n
  rvv : ∀ q n m, rv = .own q n → vv ≠ .own q m
  rhv : ∀ q n m, rv = .own q n → hv ≠ .own q m
  vhv : ∀ q n m, vv = .own q n → hv ≠ .own q m
def Foot (id : Nat) (rv vv hv : AV) (i : Nat) : Prop := i = id ∨ ∃ n, rv = .own i n ∨ vv = .own i n ∨ hv = .own i n
def In (σ : AHeap) (id : Nat) (s : IS) (F : Nat → Prop) : Prop := ∃ rv vv hv, BAt σ id rv vv hv s ∧ ∀ i, Foot id rv vv hv i → F i ∧ i < σ.next
structure Off (F : Nat → Prop) (σ τ : AHeap) : Prop where
  next : σ.next ≤ τ.next
  get : ∀ i, ¬ F i → i < σ.next → τ.get i = σ.get i
def Wide (F : Nat → Prop) (n : Nat) (i : Nat) : Prop := F i ∨ n ≤ i
theorem Off.refl (F σ) : Off F σ σ := ⟨Nat.le_refl _, fun _ _ _ => rfl⟩
theorem Off.grows {F σ τ} (h : Grows σ τ) : Off F σ τ := ⟨h.next, fun i _ hi => h.get i hi⟩
theorem Off.trans {F σ τ υ} (h : Off F σ τ) (k : Off (Wide F σ.next) τ υ) : Off F σ υ :=
  ⟨Nat.le_trans h.next k.next, fun i hF hi => by
    rw [k.get i (fun hw => by rcases hw with hw | hw; · exact hF hw
                              · omega) (Nat.lt_of_lt_of_le hi h.next)]
    exact h.get i hF hi⟩
theorem BAt.kept {σ τ id rv vv hv s} (h : BAt σ id rv vv hv s) (hn : σ.next ≤ τ.next) (hg : ∀ i, Foot id rv vv hv i → i < σ.next → τ.get i = σ.get i) : BAt τ id rv vv hv s where
  obj := by rw [hg id (.inl rfl) h.lt]; exact h.obj
  lt := Nat.lt_of_lt_of_le h.lt hn
  r := h.r.mono hn fun q n e hq => hg q (.inr ⟨n, .inl e⟩) hq
  v := h.v.mono hn fun q n e hq => hg q (.inr ⟨n, .inr (.inl e)⟩) hq
  h := h.h.mono hn fun q n e hq => hg q (.inr ⟨n, .inr (.inr e)⟩) hq
  ri := h.ri
  vi := h.vi
  hi := h.hi
  rvv := h.rvv
  rhv := h.rhv
  vhv := h.vhv
theorem In.off {σ τ id s F G} (h : In σ id s F) (o : Off G σ τ) (hd : ∀ i, F i → i < σ.next → ¬ G i) : In τ id s F := by
  obtain ⟨rv, vv, hv, h1, h2⟩ := h
  exact ⟨rv, vv, hv, h1.kept o.next fun i hi hlt => o.get i (hd i (h2 i hi).1 hlt) hlt, fun i hi => ⟨(h2 i hi).1, Nat.lt_of_lt_of_le (h2 i hi).2 o.next⟩⟩
theorem In.grows {σ τ id s F} (h : In σ id s F) (g : Grows σ τ) : In τ id s F := h.off (G := fun _ => False) ⟨g.next, fun i _ hi => g.get i hi⟩ fun _ _ _ hf => hf
theorem In.wide {σ id s F} {G : Nat → Prop} (h : In σ id s F) (hG : ∀ i, F i → G i) : In σ id s G := by
  obtain ⟨rv, vv, hv, h1, h2⟩ := h
  exact ⟨rv, vv, hv, h1, fun i hi => ⟨hG i (h2 i hi).1, (h2 i hi).2⟩⟩
theorem BAt.fvR {σ id rv vv hv s} (h : BAt σ id rv vv hv s) : FV σ (.ptr id 0 0) s.up :=
  ⟨⟨rv, [vv, hv], .inr ⟨id, 0, 0, [rv, vv, hv], rfl, by simp [h.obj], rfl⟩, h.r.rowG⟩, .ptr h.lt⟩
theorem BAt.fvV {σ id rv vv hv s} (h : BAt σ id rv vv hv s) : FV σ (.ptr id 0 1) s.vup :=
  ⟨⟨vv, [hv], .inr ⟨id, 0, 1, [rv, vv, hv], rfl, by simp [h.obj], rfl⟩, h.v.rowG⟩, .ptr h.lt⟩

/-! ### What it is -/
structure Rep (s : IS) (b : B) : Prop where
  r : FOk s.up b.R
  rl : s.up.length = b.regions
  v : FOk s.vup b.V
  vl : s.vup.length = b.vars
  hl : s.has.length = b.vars
  h : ∀ (i : Nat) p, s.has[i]? = some p → nm b.V i = i → p.1.Perm ((b.toldOf i).flatMap (·.atoms)) ∧ p.2.Perm ((b.toldOf i).flatMap (·.vars))
structure Small (b : B) : Prop where
  ok : b.Ok
  regions : b.regions ≤ 1000
  vars : b.vars ≤ 1000
  len : b.L.length ≤ 1000
  told : ∀ t ∈ b.L, t.atoms.length ≤ 100 ∧ t.vars.length ≤ 100
theorem flat_le {α β : Type} {f : α → List β} {c : Nat} : ∀ {l : List α}, (∀ x ∈ l, (f x).length ≤ c) → (l.flatMap f).length ≤ l.length * c
  | [], _ => by simp
  | a :: l, h => by
    have h1 := h a (by simp)
    have h2 := flat_le (l := l) fun x hx => h x (by simp [hx])
    rw [List.flatMap_cons, List.length_append, List.length_cons, Nat.succ_mul]; omega
theorem Small.atoms {b : B} (h : Small b) (v : Int) : ((b.toldOf v).flatMap (·.atoms)).length ≤ 100000 := by
  have h1 : (b.toldOf v).length ≤ b.L.length := List.length_filter_le _ _
  have h2 := flat_le (l := b.toldOf v) (f := (·.atoms)) (c := 100) fun t ht => (h.told t (List.mem_filter.1 ht).1).1
  have := h.len
  omega
theorem Small.varsL {b : B} (h : Small b) (v : Int) : ((b.toldOf v).flatMap (·.vars)).length ≤ 100000 := by
  have h1 : (b.toldOf v).length ≤ b.L.length := List.length_filter_le _ _
  have h2 := flat_le (l := b.toldOf v) (f := (·.vars)) (c := 100) fun t ht => (h.told t (List.mem_filter.1 ht).1).2
  have := h.len
  omega
def Bs (σ : AHeap) (id : Nat) (b : B) (F : Nat → Prop) : Prop := ∃ s, In σ id s F ∧ Rep s b
theorem Bs.grows {σ τ id b F} (h : Bs σ id b F) (g : Grows σ τ) : Bs τ id b F := let ⟨s, h1, h2⟩ := h; ⟨s, h1.grows g, h2⟩
theorem Bs.off {σ τ id b F G} (h : Bs σ id b F) (o : Off G σ τ) (hd : ∀ i, F i → i < σ.next → ¬ G i) : Bs τ id b F := let ⟨s, h1, h2⟩ := h; ⟨s, h1.off o hd, h2⟩

/-! ### Told without changing anything -/
variable {σ : AHeap} {id : Nat} {b : B} {F : Nat → Prop} {k kp : AV → AHeap → Prop}
theorem nameIn_R {s : IS} (hR : Rep s b) (n : Int) : nameIn s.up b.R n = b.name n := by simp [nameIn, B.name, hR.rl]
theorem nameIn_V {s : IS} (hR : Rep s b) (n : Int) : nameIn s.vup b.V n = b.varName n := by simp [nameIn, B.varName, hR.vl]
theorem count_ev (h : Bs σ id b F) (hk : k (.tup [int b.regions, int b.vars]) σ) : Ev PR 23 [.ptr id 0 0] σ k kp := by
  obtain ⟨s, ⟨rv, vv, hv, h, _⟩, hR⟩ := h
  apply F23_ev; unfold F23
  simp [h.obj, h.r.rowG.lenI, h.v.rowG.lenI, hR.rl, hR.vl, hk]
theorem bname_ev (h : Bs σ id b F) {n : Int} (hk : k (int (b.name n)) σ) : Ev PR 24 [.ptr id 0 0, int n] σ k kp := by
  obtain ⟨s, ⟨rv, vv, hv, h, _⟩, hR⟩ := h
  apply F24_ev; unfold F24
  simp
  exact name_ev h.fvR hR.r (by rw [nameIn_R hR]; exact hk)
theorem bvarName_ev (h : Bs σ id b F) {n : Int} (hk : k (int (b.varName n)) σ) : Ev PR 18 [.ptr id 0 0, int n] σ k kp := by
  obtain ⟨s, ⟨rv, vv, hv, h, _⟩, hR⟩ := h
  apply F18_ev; unfold F18
  simp
  exact name_ev h.fvV hR.v (by rw [nameIn_V hR]; exact hk)

theorem ofM_ren (hs : Small b) (v : Int) : ofM (b.atomsOf v) = setOf lessM (b.atomsOf v) := by
  unfold ofM
  congr 1
  rw [List.filter_eq_self]
  intro a ha
  unfold B.atomsOf at ha
  obtain ⟨x, hx, rfl⟩ := List.mem_map.1 ha
  obtain ⟨t, ht, hxt⟩ := List.mem_flatMap.1 hx
  have hok := (hs.ok.L t (List.mem_filter.1 ht).1).2.2 x hxt
  simp only [okA, Bool.and_eq_true, Bool.or_eq_true, decide_eq_true_eq] at hok
  obtain ⟨h1, h2⟩ := hok
  unfold B.ren
  split
  · exact h1
  · rename_i h3
    have h4 : x.rho < b.regions := by
      rcases h2 with h2 | h2
      · exact absurd h2 h3
      · exact h2
    unfold atomM at h1 ⊢
    simp only [h3] at h1 ⊢
    by_cases h5 : x.kind = 1 ∨ x.kind = 2
    · have h6 : 0 ≤ x.rho := by
        rcases h5 with h5 | h5 <;> simp [h5] at h1 <;> exact h1.1
      have h7 : inB x.rho b.regions = true := inB_iff.2 ⟨h6, h4⟩
      have h8 := inB_iff.1 (nm_in hs.ok.R h7)
      have h9 : b.name x.rho = nm b.R x.rho := by simp [B.name, h7]
      rw [h9]
      rcases h5 with h5 | h5 <;> simp [h5] at h1 ⊢ <;> exact ⟨h8.1, h1.2⟩
    · simp only [not_or] at h5
      simp [h5.1, h5.2] at h1
end Go.Abs.Bas
