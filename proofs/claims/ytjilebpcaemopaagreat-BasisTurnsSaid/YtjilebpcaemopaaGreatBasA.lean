/-
  What the basis leans on: rows, bytes, atoms, and their order.
-/
import Derived.Test.YtjilebpcaemopaaGreatBasDec
import Derived.Test.YtjilebpcaemopaaGreatAtM
import Derived.Test.YtjilebpcaemopaaGreatAbsP
import Derived.Lib.Bytealg
set_option linter.unusedVariables false
set_option linter.unusedSimpArgs false
namespace Go.Abs
open Go
/-- Ahead of a call less may be known. -/
theorem Ev.weak {P : Program} {f : FuncId} {args args' : List AV} {σ : AHeap} {k kp : AV → AHeap → Prop} (ha : FzL σ (fun _ => False) args args') (h : Ev P f args' σ k kp) : Ev P f args σ k kp := by
  refine Ev.freeze (D := fun _ => False) ⟨rfl, fun _ h => h.elim, fun id _ => ?_⟩ ha h
  cases hg : σ.get id with
  | none => exact .inl ⟨rfl, rfl⟩
  | some o => exact .inr ⟨o, o, rfl, rfl, .refl o⟩
theorem Fz.clip {τ : AHeap} {D : Nat → Prop} {c : Bool} {sz : Nat} {xs : List (List AV)} : Fz τ D (.sl c sz xs) (.sl false sz xs) := by
  refine .sl rfl (fun i el fl h1 h2 => ?_) (fun i el fl j x y h1 h2 h3 h4 => ?_)
  · rw [h1] at h2; cases h2; rfl
  · rw [h1] at h2; cases h2; rw [h3] at h4; cases h4; exact .refl _


end Go.Abs
namespace Go.Abs.At
open Go Go.Abs Go.Proofs.BasD
attribute [local simp] Nat.add_assoc

abbrev bool (b : Bool) : AV := .val (.bool b)
def bytesOf (s : ByteArray) : List Int := s.data.toList.map fun b => (b.toNat : Int)
noncomputable abbrev PR := Go.Proofs.Tryz.prog
/-- A row that grows. -/
def Kid (n m sz : Nat) (υ : AHeap) (x : AV) (rows : List (List AV)) : Prop :=
  (x = .val (.slice none 0 0) ∧ rows = []) ∨ ∃ q rest, x = .own q rows.length ∧ υ.get q = some (.cells sz (rows ++ rest)) ∧ n + m ≤ q ∧ q < υ.next
theorem Kid.rows {n m sz υ x rows} (h : Kid n m sz υ x rows) : Rows υ sz x rows := by
  rcases h with h | ⟨q, rest, h1, h2, _⟩
  · exact .inl h
  · exact .inr (.inr ⟨q, rest, h1, h2⟩)
theorem Kid.ns {n m sz υ x rows} (h : Kid n m sz υ x rows) : ∀ c, x ≠ .sl c sz rows := by
  intro c e
  rcases h with ⟨h, _⟩ | ⟨q, rest, h1, h2, _⟩ <;> rw [e] at * <;> first | cases h | cases h1
theorem Kid.grows {n m sz υ ω x rows} (h : Kid n m sz υ x rows) (g : Grows υ ω) : Kid n m sz ω x rows := by
  rcases h with h | ⟨q, rest, h1, h2, h3, h4⟩
  · exact .inl h
  · exact .inr ⟨q, rest, h1, by rw [g.get _ h4]; exact h2, h3, Nat.lt_of_lt_of_le h4 g.next⟩
theorem Kid.set {n m sz υ x rows} (h : Kid n m sz υ x rows) {j : Nat} (hj : j < n + m) (o : AObj) : Kid n m sz (υ.set j o) x rows := by
  rcases h with h | ⟨q, rest, h1, h2, h3, h4⟩
  · exact .inl h
  · exact .inr ⟨q, rest, h1, by rw [get_set, if_neg (by omega)]; exact h2, h3, h4⟩
/-- It has one more. -/
theorem Kid.push {n m sz υ x rows} (h : Kid n m sz υ x rows) (hn : n + m ≤ υ.next) (el : List AV) :
    let ω := (gone x υ).new (.cells sz (rows ++ [el]))
    Kid n m sz ω (.own υ.next (rows.length + 1)) (rows ++ [el]) ∧ (∀ j, j < n + m → ω.get j = υ.get j) ∧ ω.next = υ.next + 1 := by
  refine ⟨.inr ⟨υ.next, [], by simp, by rw [get_new, gone_next, if_pos rfl]; simp, hn, by simp⟩, fun j hj => ?_, by simp⟩
  rw [get_new, gone_next, if_neg (by omega)]
  unfold gone
  split
  · rename_i q len
    rcases h with ⟨h, _⟩ | ⟨q', rest, h1, _, h3, _⟩
    · cases h
    · cases h1
      rw [get_del, if_neg (by omega)]
  · rfl
theorem Kid.app {n m sz υ x rows} (h : Kid n m sz υ x rows) (hn : n + m ≤ υ.next) (els : List (List AV)) :
    let ω := (gone x υ).new (.cells sz (rows ++ els))
    Kid n m sz ω (.own υ.next (rows.length + els.length)) (rows ++ els) ∧ (∀ j, j < n + m → ω.get j = υ.get j) ∧ ω.next = υ.next + 1 := by
  refine ⟨.inr ⟨υ.next, [], by simp, by rw [get_new, gone_next, if_pos rfl]; simp, hn, by simp⟩, fun j hj => ?_, by simp⟩
  rw [get_new, gone_next, if_neg (by omega)]
  unfold gone
  split
  · rename_i q len
    rcases h with ⟨h, _⟩ | ⟨q', rest, h1, _, h3, _⟩
    · cases h
    · cases h1
      rw [get_del, if_neg (by omega)]
  · rfl
theorem Kid.frz {n m sz υ x rows} (h : Kid n m sz υ x rows) (hd : ∀ el ∈ rows, ∀ y ∈ el, Dat y) : Frz υ n x (.sl false sz rows) := by
  rcases h with ⟨rfl, rfl⟩ | ⟨q, rest, rfl, h2, h3, _⟩
  · exact .nil
  · exact FrzR.own (FrzR.refl fun el hel y hy => (hd el hel y hy).low _) (by omega) rfl h2


theorem bytesV_of (s : ByteArray) : bytesV s = (bytesOf s).map fun b => [u8 b] := by simp [bytesV, bytesOf]
abbrev u8V (l : List Int) : AV := .sl false 1 (l.map fun b => [u8 b])

theorem index_ev {l : List Int} {c : Int} (hb : l.length < 1000000000000) {σ : AHeap} {k kp : AV → AHeap → Prop} (hk : ∀ r : Int, (0 ≤ r ↔ c ∈ l) → k (int r) σ) : Ev PR 133 [u8V l, u8 c] σ k kp := by
  apply F133_ev; unfold F133
  simp
  refine seqW_in ?_
  refine loopW_by (fun j : Nat => [(0, u8V l), (1, u8 c), (7, int l.length), (8, int j)]) (fun j φ => φ = σ ∧ j ≤ l.length ∧ ∀ x ∈ l.take j, c ≠ x) (fun fr _ => l.length - (intOf (look fr 8)).toNat) 0 (by simp) ⟨rfl, by simp, by simp⟩ ?_
  rintro j φ ⟨rfl, hj, hne⟩
  simp
  by_cases hjl : j < l.length
  · obtain ⟨t, ht⟩ := get_some hjl
    have hix : ∀ ω, aIndexAddr 1 (u8V l) (int j) ω = some (.ref [u8 t]) := fun ω => by rw [aIndexAddr_sl]; simp [ht]
    simp [hjl, hix]
    by_cases hc : c = t
    · subst hc
      simp
      exact hk _ ⟨fun _ => List.mem_of_getElem? ht, fun _ => by omega⟩
    · simp [hc]
      rw [wrap64 (by omega)]
      refine ⟨⟨j + 1, by simp, by omega, fun x hx => ?_⟩, by omega⟩
      rw [List.take_add_one, ht] at hx
      rcases List.mem_append.1 hx with h | h
      · exact hne x h
      · simp at h; subst h; exact hc
  · have hall : l.take j = l := List.take_of_length_le (by omega)
    rw [hall] at hne
    simp [hjl]
    exact hk _ ⟨fun h => by omega, fun h => absurd rfl (hne c h)⟩
theorem contains_ev {l : List Int} {c : Int} (hb : l.length < 1000000000000) {σ : AHeap} {k kp : AV → AHeap → Prop} (hk : k (.val (.bool (decide (c ∈ l)))) σ) : Ev PR 130 [u8V l, u8 c] σ k kp := by
  apply F130_ev; unfold F130
  refine index_ev hb fun r hr => ?_
  simp
  have : decide (0 ≤ r) = decide (c ∈ l) := by simp [hr]
  rw [this]; exact hk
theorem empty_eq : (⟨#[]⟩ : ByteArray) = ByteArray.empty := rfl

theorem wrap8 {n : Int} (h : 0 ≤ n ∧ n ≤ 255) : IntKind.u8.wrap n = n := by
  exact Go.IntWalk.u8_in n h

theorem rhosV_frz {τ : AHeap} {n q : Nat} {l : List Int} {rest : List (List AV)} (hn : n ≤ q) (hg : τ.get q = some (.cells 1 ((l.map fun r => [int r]) ++ rest))) : Frz τ n (.own q l.length) (rhosV l) := by
  refine FrzR.own (FrzR.refl fun el hel x hx => ?_) hn (by simp) hg
  obtain ⟨r, _, rfl⟩ := List.mem_map.1 hel
  simp at hx; subst hx; exact (Dat.val _).low _
theorem Kid.rhos {n m υ x} {l : List Int} (h : Kid n m 1 υ x (l.map fun r => [int r])) : Frz υ n x (rhosV l) := by
  refine Kid.frz h fun el hel y hy => ?_
  obtain ⟨r, _, rfl⟩ := List.mem_map.1 hel
  simp at hy; subst hy; exact Dat.val _

/-- Rows of another size stay, where one goes. -/
theorem Kid.other {n m sz sz' υ x rows} (h : Kid n m sz υ x rows) (hne : sz ≠ sz') {j : Nat} {els : List (List AV)} (hj : υ.get j = some (.cells sz' els)) : (gone x υ).get j = υ.get j := by
  rcases h with ⟨rfl, _⟩ | ⟨q, rest, rfl, h1, _⟩
  · rfl
  · show (υ.del q).get j = _
    rw [get_del, if_neg]
    rintro rfl
    rw [h1] at hj
    cases hj
    exact hne rfl
theorem ints_ev {l : List Int} {n : Int} (hb : l.length < 1000000000000) {x : AV} {σ : AHeap} (hx : Rows σ 1 x (l.map fun r => [int r])) {k kp : AV → AHeap → Prop} (hk : k (bool (decide (n ∈ l))) σ) : Ev PR 20 [x, int n] σ k kp := by
  apply F20_ev; unfold F20
  have hlen := hx.len
  simp only [List.length_map] at hlen
  simp [hlen]
  refine seqW_in ?_
  refine loopW_by (fun j : Nat => [(0, x), (1, int n), (7, int l.length), (8, int j)]) (fun j φ => φ = σ ∧ j ≤ l.length ∧ n ∉ l.take j) (fun fr _ => l.length - (intOf (look fr 8)).toNat) 0 (by simp) ⟨rfl, by simp, by simp⟩ ?_
  rintro j φ ⟨rfl, hj, hne⟩
  simp
  by_cases hjl : j < l.length
  · obtain ⟨t, ht⟩ := get_some hjl
    obtain ⟨p, hp, hat⟩ := hx.at (i := j) (el := [int t]) (by simp [ht]) rfl .i64
    simp [hjl, hp]
    refine stepP (x := int t) ?_ ?_
    · rw [hat.load]; rfl
    by_cases hc : t = n
    · subst hc
      simp
      have e : decide (t ∈ l) = true := decide_eq_true (List.mem_of_getElem? ht)
      rw [e] at hk
      exact hk
    · simp [hc]
      rw [wrap64 (by omega)]
      refine ⟨⟨j + 1, by simp, by omega, fun h => ?_⟩, by omega⟩
      rw [List.take_add_one, ht] at h
      rcases List.mem_append.1 h with h | h
      · exact hne h
      · simp at h; exact hc h.symm
  · have hall : l.take j = l := List.take_of_length_le (by omega)
    rw [hall] at hne
    simp [hjl]
    have e : decide (n ∈ l) = false := decide_eq_false hne
    rw [e] at hk
    exact hk
theorem equalInts_ev {l m : List Int} (hb : l.length < 1000000000000) (hb2 : m.length < 1000000000000) {x y : AV} {σ : AHeap} (hx : Rows σ 1 x (l.map fun r => [int r])) (hy : Rows σ 1 y (m.map fun r => [int r])) {k kp : AV → AHeap → Prop} (hk : k (bool (decide (l = m))) σ) : Ev PR 16 [x, y] σ k kp := by
  apply F16_ev; unfold F16
  have hlen := hx.len
  have hlen2 := hy.len
  simp only [List.length_map] at hlen hlen2
  simp [hlen, hlen2]
  by_cases hne : l.length = m.length
  · simp [hne]
    refine seqW_in ?_
    refine loopW_by (fun j : Nat => [(0, x), (1, y), (12, int m.length), (13, int j)]) (fun j φ => φ = σ ∧ j ≤ m.length ∧ l.take j = m.take j) (fun fr _ => m.length - (intOf (look fr 13)).toNat) 0 (by simp) ⟨rfl, by simp, by simp⟩ ?_
    rintro j φ ⟨rfl, hj, heq⟩
    simp
    by_cases hjl : j < m.length
    · obtain ⟨a, ha⟩ := get_some (l := l) (i := j) (by omega)
      obtain ⟨b, hb⟩ := get_some hjl
      obtain ⟨p, hp, hat⟩ := hx.at (i := j) (el := [int a]) (by simp [ha]) rfl .i64
      obtain ⟨q, hq, hqt⟩ := hy.at (i := j) (el := [int b]) (by simp [hb]) rfl .i64
      simp [hjl, hp]
      refine stepP (x := int a) (by rw [hat.load]; rfl) ?_
      simp [hq]
      refine stepP (x := int b) (by rw [hqt.load]; rfl) ?_
      by_cases hc : a = b
      · subst hc
        simp
        rw [wrap64 (by omega)]
        refine ⟨⟨j + 1, by simp, by omega, ?_⟩, by omega⟩
        rw [List.take_add_one, List.take_add_one, heq, ha, hb]
      · simp [hc]
        have e : decide (l = m) = false := decide_eq_false fun h => by rw [h, hb] at ha; exact hc (Option.some.inj ha).symm
        rw [e] at hk
        exact hk
    · rw [List.take_of_length_le (by omega), List.take_of_length_le (by omega)] at heq
      simp [hjl]
      have e : decide (l = m) = true := decide_eq_true heq
      rw [e] at hk
      exact hk
  · have hne' : ¬ ((l.length : Int) = m.length) := by omega
    simp only [hne', decide_false, Bool.not_false, condK_true]
    have e : decide (l = m) = false := decide_eq_false fun h => hne (by rw [h])
    rw [e] at hk
    exact hk

theorem drop_at {α : Type} {l : List α} {i : Nat} {x : α} (h : l[i]? = some x) : l.drop i = x :: l.drop (i + 1) := by
  have hi := (List.getElem?_eq_some_iff.1 h).1
  rw [List.drop_eq_getElem_cons hi]
  rw [List.getElem?_eq_getElem hi] at h
  rw [Option.some.inj h]

def Byte (c : Int) : Prop := 0 ≤ c ∧ c ≤ 255
theorem bytesOf_byte {s : ByteArray} {c : Int} (h : c ∈ bytesOf s) : Byte c := by
  obtain ⟨b, _, rfl⟩ := List.mem_map.1 h
  have := b.toNat_lt
  exact ⟨by omega, by omega⟩
@[simp] theorem bytesOf_len (s : ByteArray) : (bytesOf s).length = s.size := by simp [bytesOf]
theorem aIndexStr_at {s : ByteArray} {i : Nat} {c : Int} (h : (bytesOf s)[i]? = some c) (k : IntKind) : aIndexStr (str s) (.val (.int k i)) = some (u8 c) := by
  simp only [bytesOf, List.getElem?_map, Option.map_eq_some_iff] at h
  obtain ⟨b, hb, rfl⟩ := h
  have hb' : s[i]? = some b := by
    have hi := (List.getElem?_eq_some_iff.1 hb).1
    have hi' : i < s.size := by simpa using hi
    rw [getElem?_pos s i hi']
    rw [List.getElem?_eq_getElem hi] at hb
    rw [← Option.some.inj hb]
    rfl
  simp [aIndexStr, hb']
theorem indexByte_mem (l : List UInt8) (c : UInt8) : 0 ≤ Go.Lib.indexByte l c ↔ c ∈ l := by
  induction l with
  | nil => simp [Go.Lib.indexByte]
  | cons b l ih =>
    unfold Go.Lib.indexByte
    by_cases hb : b = c
    · subst hb; simp
    · have : (b == c) = false := by simpa using hb
      simp only [this, Bool.false_eq_true, if_false]
      have hge := Go.Lib.indexByte_ge l c
      by_cases h1 : Go.Lib.indexByte l c = -1
      · have hn : c ∉ l := fun h => by have := ih.2 h; omega
        simp [h1, hn, Ne.symm hb]
      · have hn : c ∈ l := ih.1 (by omega)
        have h2 : (Go.Lib.indexByte l c == -1) = false := by simpa using h1
        simp [h2, hn]; omega
theorem mem_bytes {s : ByteArray} {c : Int} (hc : Byte c) : c.toNat.toUInt8 ∈ s.data.toList ↔ c ∈ bytesOf s := by
  obtain ⟨h0, h1⟩ := hc
  constructor
  · intro h
    refine List.mem_map.2 ⟨_, h, ?_⟩
    have : c.toNat.toUInt8.toNat = c.toNat := by
      rw [Nat.toUInt8_eq, UInt8.toNat_ofNat']
      omega
    omega
  · intro h
    obtain ⟨b, hb, rfl⟩ := List.mem_map.1 h
    simpa using hb
theorem indexByteStr_ev {s : ByteArray} {c : Int} (hc : Byte c) {σ : AHeap} {k kp : AV → AHeap → Prop} (hk : ∀ r : Int, (0 ≤ r ↔ c ∈ bytesOf s) → k (int r) σ) : Ev PR 127 [str s, u8 c] σ k kp := by
  apply F127_ev; unfold F127
  apply F132_ev; unfold F132
  refine Ev.ext (fn := Go.Proofs.Tryz.f134) (e := Extern.BytealgIndexByte.indexByte) Go.Proofs.Tryz.func134 (by kernel_rfl) (by kernel_rfl) (by kernel_rfl) (by kernel_rfl) (fun ctx w vs ha => ?_)
  obtain ⟨h1, h2⟩ := ha
  obtain ⟨a, b, rfl⟩ : ∃ a b, vs = #[a, b] := by
    match vs, h1 with
    | ⟨[a, b]⟩, _ => exact ⟨a, b, rfl⟩
  obtain rfl := (h2 0 _ a rfl rfl).val_inv
  obtain rfl := (h2 1 _ b rfl rfl).val_inv
  exact ⟨_, _, Go.Lib.run_indexByteString s c w, hk _ ((indexByte_mem _ _).trans (mem_bytes hc)), .val _⟩

def classM (c : Int) : Int :=
  if c = 32 ∨ c = 9 ∨ c = 10 then 1
  else if 48 ≤ c ∧ c ≤ 57 then 2
  else if 97 ≤ c ∧ c ≤ 122 then 3
  else if 65 ≤ c ∧ c ≤ 90 then 4
  else if c ∈ [(40 : Int), 41, 44, 33, 58, 61, 62, 43, 45, 42, 60, 59] then 5
  else 0
theorem class_ev {c : Int} (hc : Byte c) {σ : AHeap} {k kp : AV → AHeap → Prop} (hk : k (u8 (classM c)) σ) : Ev PR 120 [u8 c] σ k kp := by
  apply F120_ev; unfold F120
  refine indexByteStr_ev hc fun r hr => ?_
  have e1 : (0 ≤ r) = (c = 32 ∨ c = 9 ∨ c = 10) := by
    rw [hr]; simp [bytesOf]
  by_cases h1 : c = 32 ∨ c = 9 ∨ c = 10
  · have : (0 : Int) ≤ r := by rw [e1]; exact h1
    simp [this]
    simpa [classM, h1] using hk
  · have : ¬ (0 : Int) ≤ r := by rw [e1]; exact h1
    simp [this]
    have fin : ∀ v, classM c = v → k (u8 v) σ := fun v h => by rw [← h]; exact hk
    have go : ¬ (48 ≤ c ∧ c ≤ 57) → ¬ (97 ≤ c ∧ c ≤ 122) → ¬ (65 ≤ c ∧ c ≤ 90) → Ev PR 127 [str ⟨#[40, 41, 44, 33, 58, 61, 62, 43, 45, 42, 60, 59]⟩, u8 c] σ (fun t30 σ_1 => stepK (pureR σ_1 (aBin .geq .prim t30 (int 0))) fun t31 σ_2 => condK t31 (k (u8 5) σ_2) (k (u8 0) σ_2)) kp := fun b1 b2 b3 => by
      refine indexByteStr_ev hc fun r hr => ?_
      have e2 : (0 ≤ r) = (c ∈ [(40 : Int), 41, 44, 33, 58, 61, 62, 43, 45, 42, 60, 59]) := by
        rw [hr]; simp [bytesOf]
      by_cases h5 : c ∈ [(40 : Int), 41, 44, 33, 58, 61, 62, 43, 45, 42, 60, 59]
      · have : (0 : Int) ≤ r := by rw [e2]; exact h5
        simp [this]
        exact fin 5 (by unfold classM; rw [if_neg h1, if_neg b1, if_neg b2, if_neg b3, if_pos h5])
      · have : ¬ (0 : Int) ≤ r := by rw [e2]; exact h5
        simp [this]
        exact fin 0 (by unfold classM; rw [if_neg h1, if_neg b1, if_neg b2, if_neg b3, if_neg h5])
    by_cases a1 : 48 ≤ c <;> by_cases a2 : c ≤ 57 <;> by_cases a3 : 97 ≤ c <;> by_cases a4 : c ≤ 122 <;> by_cases a5 : 65 ≤ c <;> by_cases a6 : c ≤ 90 <;> simp [a1, a2, a3, a4, a5, a6]
    all_goals first
      | (exfalso; omega)
      | exact go (by omega) (by omega) (by omega)
      | exact fin 2 (by unfold classM; rw [if_neg h1, if_pos (by omega)])
      | exact fin 3 (by unfold classM; rw [if_neg h1, if_neg (by omega), if_pos (by omega)])
      | exact fin 4 (by unfold classM; rw [if_neg h1, if_neg (by omega), if_neg (by omega), if_pos (by omega)])
def tab : List Int := [40, 41, 44, 33, 58, 61, 62, 43, 45, 42, 60, 59]
theorem class_ref {c : Int} {σ : AHeap} {k kp : AV → AHeap → Prop} (hk : k (u8 (classM c)) σ) : Ev PR 110 [u8 c] σ k kp := by
  refine Ev.pureD hk ((Dat.val _).low _) fun k' hk' => ?_
  have fin : ∀ v, classM c = v → k' (u8 v) σ := fun v h => by rw [← h]; exact hk' _ (Grows.refl _)
  apply F110_ev; unfold F110
  by_cases b1 : c = 32 <;> by_cases b2 : c = 9 <;> by_cases b3 : c = 10 <;> by_cases a1 : 48 ≤ c <;> by_cases a2 : c ≤ 57 <;> by_cases a3 : 97 ≤ c <;> by_cases a4 : c ≤ 122 <;> by_cases a5 : 65 ≤ c <;> by_cases a6 : c ≤ 90
  all_goals first
    | (exfalso; omega)
    | (simp [b1, b2, b3, a1, a2, a3, a4, a5, a6]; exact fin 1 (by unfold classM; rw [if_pos (by omega)]))
    | (simp [b1, b2, b3, a1, a2, a3, a4, a5, a6]; exact fin 2 (by unfold classM; rw [if_neg (by omega), if_pos (by omega)]))
    | (simp [b1, b2, b3, a1, a2, a3, a4, a5, a6]; exact fin 3 (by unfold classM; rw [if_neg (by omega), if_neg (by omega), if_pos (by omega)]))
    | (simp [b1, b2, b3, a1, a2, a3, a4, a5, a6]; exact fin 4 (by unfold classM; rw [if_neg (by omega), if_neg (by omega), if_neg (by omega), if_pos (by omega)]))
    | skip
  all_goals
    have e5 : c ∈ tab → classM c = 5 := fun h => by unfold classM; rw [if_neg (by omega), if_neg (by omega), if_neg (by omega), if_neg (by omega)]; exact if_pos h
    have e0 : c ∉ tab → classM c = 0 := fun h => by unfold classM; rw [if_neg (by omega), if_neg (by omega), if_neg (by omega), if_neg (by omega)]; exact if_neg h
    have hl : tab.length = 12 := rfl
    simp [b1, b2, b3, a1, a2, a3, a4, a5, a6]
    refine seqW_in ?_
    refine loopW_by (fun j : Nat => [(0, u8 c), (3, .sl true 1 (tab.map fun b => [u8 b])), (35, int 12), (36, int j)]) (fun j φ => φ = σ ∧ j ≤ 12 ∧ c ∉ tab.take j) (fun fr _ => 12 - (intOf (look fr 36)).toNat) 0 (by simp [tab]) ⟨rfl, by simp, by simp⟩ ?_
    rintro j φ ⟨rfl, hj, hne⟩
    simp
    by_cases hjl : j < 12
    · obtain ⟨t, ht⟩ := get_some (l := tab) (i := j) (by omega)
      have hix : ∀ ω, aIndexAddr 1 (.sl true 1 (tab.map fun b => [u8 b])) (int j) ω = some (.ref [u8 t]) := fun ω => by rw [aIndexAddr_sl]; simp [ht]
      have hjl' : (j : Int) < 12 := by omega
      simp [hjl', hix]
      by_cases hc : t = c
      · subst hc
        simp
        exact fin 5 (e5 (List.mem_of_getElem? ht))
      · simp [hc]
        rw [wrap64 (by omega)]
        refine ⟨⟨j + 1, by simp, by omega, fun h => ?_⟩, by omega⟩
        rw [List.take_add_one, ht] at h
        rcases List.mem_append.1 h with h | h
        · exact hne h
        · simp at h; exact hc h.symm
    · have hall : tab.take j = tab := List.take_of_length_le (by omega)
      rw [hall] at hne
      have hjl' : ¬ (j : Int) < 12 := by omega
      simp [hjl']
      exact fin 0 (e0 hne)

/-- A text of a shape: its first byte's class; letters and digits. -/
def shapeM (s : ByteArray) (first : Int) : Bool := match bytesOf s with
  | [] => false
  | c :: l => decide (l.length < 16) && decide (classM c = first) && (c :: l).all fun c => decide (2 ≤ classM c ∧ classM c ≤ 4)
theorem shape_ref {s : ByteArray} {f : Int} {σ : AHeap} {k kp : AV → AHeap → Prop} (hk : k (bool (shapeM s f)) σ) : Ev PR 81 [str s, u8 f] σ k kp := by
  have fin : ∀ v, shapeM s f = v → k (bool v) σ := fun v h => by rw [← h]; exact hk
  apply F81_ev; unfold F81
  have hbl := bytesOf_len s
  cases hb : bytesOf s with
  | nil =>
    have h0 : s.size = 0 := by rw [← hbl, hb]; rfl
    obtain rfl : s = ByteArray.empty := by simpa using h0
    simp
    exact fin false (by unfold shapeM; rw [hb])
  | cons c l =>
    have h1 : s.size = l.length + 1 := by rw [← hbl, hb]; rfl
    have h0 : ¬ s = ByteArray.empty := by rintro rfl; simp at h1
    by_cases h16 : (16 : Int) < s.size
    · simp [h0, h16]
      exact fin false (by unfold shapeM; rw [hb]; simp; omega)
    · have hix : aIndexStr (str s) (int 0) = some (u8 c) := aIndexStr_at (i := 0) (by rw [hb]; rfl) .i64
      simp [h0, h16, hix]
      have hl16 : l.length < 16 := by omega
      refine class_ref ?_
      by_cases hcf : classM c = f
      · simp [hcf]
        refine seqW_in ?_
        refine loopW_by (fun j : Nat => [(0, str s), (5, int j)]) (fun j φ => φ = σ ∧ j ≤ s.size ∧ ∀ x ∈ (bytesOf s).take j, 2 ≤ classM x ∧ classM x ≤ 4) (fun fr _ => s.size - (intOf (look fr 5)).toNat) 0 (by simp) ⟨rfl, by simp, by simp⟩ ?_
        rintro j φ ⟨rfl, hj, hall⟩
        simp
        by_cases hjl : j < s.size
        · obtain ⟨x, hx⟩ := get_some (l := bytesOf s) (i := j) (by omega)
          simp [hjl, aIndexStr_at hx]
          refine class_ref ?_
          by_cases k1 : 2 ≤ classM x
          · by_cases k2 : classM x ≤ 4
            · have n1 : ¬ classM x < 2 := by omega
              have n2 : ¬ 4 < classM x := by omega
              simp [n1, n2]
              rw [wrap64 (by omega)]
              refine ⟨⟨j + 1, by simp, by omega, fun y hy => ?_⟩, by omega⟩
              rw [List.take_add_one, hx] at hy
              rcases List.mem_append.1 hy with h | h
              · exact hall y h
              · simp at h; subst h; exact ⟨k1, k2⟩
            · have n1 : ¬ classM x < 2 := by omega
              have n2 : 4 < classM x := by omega
              simp [n1, n2]
              refine fin false ?_
              have hm := List.mem_of_getElem? hx
              unfold shapeM
              rw [hb] at hm ⊢
              simp only [Bool.and_eq_false_iff]
              exact .inr (List.all_eq_false.2 ⟨x, hm, by simp; omega⟩)
          · have n1 : classM x < 2 := by omega
            simp [n1]
            refine fin false ?_
            have hm := List.mem_of_getElem? hx
            unfold shapeM
            rw [hb] at hm ⊢
            simp only [Bool.and_eq_false_iff]
            exact .inr (List.all_eq_false.2 ⟨x, hm, by simp; omega⟩)
        · rw [List.take_of_length_le (by omega)] at hall
          simp [hjl]
          refine fin true ?_
          unfold shapeM
          rw [hb] at hall ⊢
          simp only [Bool.and_eq_true]
          exact ⟨⟨by simpa using hl16, by simpa using hcf⟩, List.all_eq_true.2 fun x hx => by simpa using hall x hx⟩
      · simp [hcf]
        refine fin false ?_
        unfold shapeM
        rw [hb]
        simp [hcf]

def Good (c : Int) : Prop := 2 ≤ classM c ∧ classM c ≤ 4
instance (c : Int) : Decidable (Good c) := inferInstanceAs (Decidable (_ ∧ _))
abbrev cls3 : AV := .sl true 1 [[u8 3], [u8 4], [u8 2]]
/-- Where the first byte stands that is none of a word: below 0: there is none. -/
theorem findBad_ev {s : ByteArray} {q : Nat} (hb : s.size < 1000000000000) {σ : AHeap} (hq : σ.get q = some (.cells 1 [[cls3]])) {k kp : AV → AHeap → Prop}
    (hk : ∀ r : Int, (if (∀ x ∈ bytesOf s, Good x) then r = -1 else 0 ≤ r ∧ r < s.size) → k (int r) σ) : Ev PR 128 [u8V (bytesOf s), .fn (.func 129) [.ptr q 0 0]] σ k kp := by
  apply F128_ev; unfold F128
  have hbl := bytesOf_len s
  simp
  refine seqW_in ?_
  refine loopW_by (fun j : Nat => [(0, u8V (bytesOf s)), (1, .fn (.func 129) [.ptr q 0 0]), (7, int s.size), (8, int j)]) (fun j φ => φ = σ ∧ j ≤ s.size ∧ ∀ x ∈ (bytesOf s).take j, Good x) (fun fr _ => s.size - (intOf (look fr 8)).toNat) 0 (by simp) ⟨rfl, by simp, by simp⟩ ?_
  rintro j φ ⟨rfl, hj, hall⟩
  simp
  by_cases hjl : j < s.size
  · obtain ⟨x, hx⟩ := get_some (l := bytesOf s) (i := j) (by omega)
    have hxb := bytesOf_byte (List.mem_of_getElem? hx)
    have hix : ∀ ω, aIndexAddr 1 (u8V (bytesOf s)) (int j) ω = some (.ref [u8 x]) := fun ω => by rw [aIndexAddr_sl]; simp [hx]
    simp [hjl, hix]
    show Ev PR 129 _ _ _ _
    apply F129_ev; unfold F129
    simp [hq]
    refine class_ev hxb ?_
    simp [hq]
    refine Ev.weak (args' := [u8V [3, 4, 2], u8 (classM x)]) (.cons Fz.clip (.cons (.refl _) .nil)) ?_
    refine contains_ev (by simp) ?_
    by_cases hg : Good x
    · have : classM x ∈ [(3 : Int), 4, 2] := by
        have h1 := hg.1; have h2 := hg.2
        simp; omega
      simp only [this, decide_true, aNot_bool, Bool.not_true]
      simp
      rw [wrap64 (by omega)]
      refine ⟨⟨j + 1, by simp, by omega, fun y hy => ?_⟩, by omega⟩
      rw [List.take_add_one, hx] at hy
      rcases List.mem_append.1 hy with h | h
      · exact hall y h
      · simp at h; subst h; exact hg
    · have : classM x ∉ [(3 : Int), 4, 2] := by
        intro h
        apply hg
        simp at h
        unfold Good
        omega
      simp only [this, decide_false, aNot_bool, Bool.not_false]
      simp
      refine hk _ ?_
      rw [if_neg (fun h => hg (h x (List.mem_of_getElem? hx)))]
      omega
  · rw [List.take_of_length_le (by omega)] at hall
    simp [hjl]
    refine hk _ ?_
    rw [if_pos hall]
theorem span_ev {s : ByteArray} (hs : 0 < s.size) (hb : s.size < 1000000000000) {σ : AHeap} {k kp : AV → AHeap → Prop}
    (hk : ∀ r : Int, (r = s.size ↔ ∀ x ∈ bytesOf s, Good x) → k (int r) σ) : Ev PR 121 [u8V (bytesOf s), int 0, cls3] σ k kp := by
  refine Ev.pureE ?_
  apply F121_ev; unfold F121
  have hbl := bytesOf_len s
  have h0 : ¬ s = ByteArray.empty := by rintro rfl; simp at hs
  have h0' : ¬ ((s.size : Int) ≤ 0) := by omega
  simp [h0, h0', hbl]
  have w : IntKind.i64.wrap (s.size : Int) = s.size := wrap64 (by omega)
  refine findBad_ev hb (by simp [get_new]) fun r hr => ?_
  by_cases hall : ∀ x ∈ bytesOf s, Good x
  · rw [if_pos hall] at hr
    subst hr
    simp [w]
    exact ⟨Grows.new _ _, .val _, hk _ ⟨fun _ => hall, fun _ => rfl⟩⟩
  · rw [if_neg hall] at hr
    have : ¬ r < 0 := by omega
    simp [this]
    exact ⟨Grows.new _ _, .val _, hk _ ⟨fun h => by omega, fun h => absurd h hall⟩⟩
theorem shaped_ev {s : ByteArray} {f : Int} {σ : AHeap} {k kp : AV → AHeap → Prop} (hk : k (bool (shapeM s f)) σ) : Ev PR 98 [str s, u8 f] σ k kp := by
  have fin : ∀ v, shapeM s f = v → k (bool v) σ := fun v h => by rw [← h]; exact hk
  apply F98_ev; unfold F98
  have hbl := bytesOf_len s
  cases hb : bytesOf s with
  | nil =>
    have h0 : s.size = 0 := by rw [← hbl, hb]; rfl
    obtain rfl : s = ByteArray.empty := by simpa using h0
    simp [empty_eq]
    exact fin false (by unfold shapeM; rw [hb])
  | cons c l =>
    have h1 : s.size = l.length + 1 := by rw [← hbl, hb]; rfl
    have h0 : ¬ s = ByteArray.empty := by rintro rfl; simp at h1
    by_cases h16 : (16 : Int) < s.size
    · simp [h0, h16, empty_eq]
      exact fin false (by unfold shapeM; rw [hb]; simp; omega)
    · have hix : aIndexStr (str s) (int 0) = some (u8 c) := aIndexStr_at (i := 0) (by rw [hb]; rfl) .i64
      simp [h0, h16, hix, empty_eq]
      have hl16 : l.length < 16 := by omega
      refine class_ev (bytesOf_byte (s := s) (by rw [hb]; simp)) ?_
      by_cases hcf : classM c = f
      · simp [hcf, bytesV_of]
        refine span_ev (by omega) (by omega) fun r hr => ?_
        have e : shapeM s f = decide (r = s.size) := by
          rw [hb] at hr
          unfold shapeM
          rw [hb]
          simp only [hl16, hcf, decide_true, Bool.true_and]
          rw [Bool.eq_iff_iff, List.all_eq_true, decide_eq_true_iff, hr]
          constructor
          · intro h x hx; exact of_decide_eq_true (h x hx)
          · intro h x hx; exact decide_eq_true (h x hx)
        simp
        exact fin _ e
      · simp [hcf]
        refine fin false ?_
        unfold shapeM
        rw [hb]
        simp [hcf]
theorem exn_ref {s : ByteArray} {σ : AHeap} {k kp : AV → AHeap → Prop} (hk : k (bool (shapeM s 4)) σ) : Ev PR 64 [str s] σ k kp := by
  apply F64_ev; unfold F64
  exact shape_ref hk
/-- All of a row of one text. -/
theorem all1_ev {s : ByteArray} {g : FuncId} {b : Bool} (hg : ∀ (σ : AHeap) (k kp : AV → AHeap → Prop), k (bool b) σ → Ev PR g [str s] σ k kp) {σ : AHeap} {k kp : AV → AHeap → Prop} (hk : k (bool b) σ) : Ev PR 96 [.fn (.func g) [], .sl true 1 [[str s]]] σ k kp := by
  refine Ev.pureD hk ((Dat.val _).low _) fun k' hk' => ?_
  apply F96_ev; unfold F96
  simp
  apply F118_ev; unfold F118
  apply F126_ev; unfold F126
  simp
  refine seqW_in ?_
  generalize hτ : σ.new _ = τ
  have hG : Grows σ τ := by rw [← hτ]; exact Grows.new _ _
  have hq : τ.get σ.next = some (.cells 1 [[.fn (.func g) []]]) := by rw [← hτ]; simp [get_new]
  clear hτ
  refine loopW_by (fun j : Nat => [(0, .sl true 1 [[str s]]), (1, .fn (.func 119) [.ptr σ.next 0 0]), (7, int 1), (8, int j)]) (fun j φ => φ = τ ∧ (j = 0 ∨ j = 1 ∧ b = true)) (fun fr _ => 1 - (intOf (look fr 8)).toNat) 0 (by simp) ⟨rfl, .inl rfl⟩ ?_
  rintro j φ ⟨rfl, rfl | ⟨rfl, hb⟩⟩
  · simp [aIndexAddr_sl]
    show Ev PR 119 _ _ _ _
    apply F119_ev; unfold F119
    simp [hq]
    show Ev PR g _ _ _ _
    refine hg _ _ _ ?_
    cases b with
    | true =>
      simp
      exact ⟨1, rfl, .inr rfl⟩
    | false =>
      simp
      exact hk' _ hG
  · subst hb
    simp
    exact hk' _ hG
theorem exn_ev {s : ByteArray} {σ : AHeap} {k kp : AV → AHeap → Prop} (hk : k (bool (shapeM s 4)) σ) : Ev PR 74 [.sl true 1 [[str s]]] σ k kp := by
  apply F74_ev; unfold F74
  refine all1_ev (fun σ k kp hk => ?_) hk
  apply F97_ev; unfold F97
  exact shaped_ev hk
def atomM (a : Atom) : Bool :=
  if a.kind = 3 then decide (a.rho = 0) && shapeM a.exn 4
  else (decide (a.kind = 1) || decide (a.kind = 2)) && decide (0 ≤ a.rho) && decide (a.exn = ByteArray.empty)
abbrev Atom.v (a : Atom) : AV := .agg a.av
theorem Atom.av_eq (a : Atom) : a.av = [u8 a.kind, int a.rho, str a.exn] := rfl

theorem atom_ref {a : Atom} {σ : AHeap} {k kp : AV → AHeap → Prop} (hk : k (bool (atomM a)) σ) : Ev PR 41 [a.v] σ k kp := by
  refine Ev.pureD hk ((Dat.val _).low _) fun k' hk' => ?_
  apply F41_ev; unfold F41
  obtain ⟨kd, rho, exn⟩ := a
  simp [Atom.av, empty_eq]
  generalize hτ : σ.new _ = τ
  have g0 : τ.get σ.next = some (.cells 3 [[u8 kd, int rho, str exn]]) := by rw [← hτ]; simp [get_new]
  have hG : Grows σ τ := by rw [← hτ]; exact Grows.new _ _
  clear hτ
  have fin : ∀ v, atomM ⟨kd, rho, exn⟩ = v → k' (bool v) τ := fun v h => by rw [← h]; exact hk' _ hG
  by_cases h3 : kd = 3
  · by_cases h00 : rho = 0
    · simp [g0, h3, h00]
      refine exn_ref ?_
      exact fin _ (by simp [atomM, h3, h00])
    · simp [g0, h3, h00]
      exact fin _ (by simp [atomM, h3, h00])
  · by_cases h1 : kd = 1 <;> by_cases h2 : kd = 2 <;> by_cases h0 : 0 ≤ rho <;> by_cases he : exn = ByteArray.empty
    all_goals first
      | (exfalso; omega)
      | (simp [g0, h3, h1, h2, h0, he]; exact fin _ (by simp [atomM, h3, h1, h2, h0, he]))
theorem atom_ev {a : Atom} {σ : AHeap} {k kp : AV → AHeap → Prop} (hk : k (bool (atomM a)) σ) : Ev PR 58 [a.v] σ k kp := by
  refine Ev.pureD hk ((Dat.val _).low _) fun k' hk' => ?_
  apply F58_ev; unfold F58
  obtain ⟨kd, rho, exn⟩ := a
  simp [Atom.av, empty_eq]
  generalize hτ : σ.new _ = τ
  have g0 : τ.get σ.next = some (.cells 3 [[u8 kd, int rho, str exn]]) := by rw [← hτ]; simp [get_new]
  have hG : Grows σ τ := by rw [← hτ]; exact Grows.new _ _
  clear hτ
  have fin : ∀ v, atomM ⟨kd, rho, exn⟩ = v → k' (bool v) τ := fun v h => by rw [← h]; exact hk' _ hG
  refine seqW_in ?_
  by_cases h1 : kd = 1 <;> by_cases h2 : kd = 2 <;> by_cases h3 : kd = 3 <;> by_cases h0 : 0 ≤ rho <;> by_cases h00 : rho = 0 <;> by_cases he : exn = ByteArray.empty
  all_goals first
    | (exfalso; omega)
    | (simp [g0, h3, h1, h2, h0, h00, he]; exact fin _ (by simp [atomM, h3, h1, h2, h0, h00, he]))
    | skip
  all_goals
    simp [g0, h3, h1, h2, h0, h00]
    refine exn_ev ?_
    exact fin _ (by simp [atomM, h3, h1, h2, h0, h00])

@[simp] theorem Atom.av_len (a : Atom) : a.av.length = 3 := rfl
theorem eqAtom (x a : Atom) : eqLeaves [.i, .i, .s] x.av a.av = some (decide (x = a)) := by
  obtain ⟨k1, r1, e1⟩ := x
  obtain ⟨k2, r2, e2⟩ := a
  simp [Atom.av, Bool.and_assoc]
theorem eff_at {l : List Atom} {j : Nat} {t : Atom} (h : l[j]? = some t) (ω : AHeap) : aIndexAddr 3 (effV l) (int j) ω = some (.ref t.av) := by
  rw [effV, aIndexAddr_sl]; simp [h]
theorem Atom.take3 (a : Atom) : a.av.take 3 = a.av := rfl
theorem in_ref {l : List Atom} {a : Atom} (hb : l.length < 1000000000000) {σ : AHeap} {k kp : AV → AHeap → Prop} (hk : k (bool (decide (a ∈ l))) σ) : Ev PR 42 [effV l, a.v] σ k kp := by
  refine Ev.pureD hk ((Dat.val _).low _) fun k' hk' => ?_
  apply F42_ev; unfold F42
  have hlen : ∀ ω, aLenK .slice (effV l) ω = some (int l.length) := fun ω => by simp [effV]
  simp [hlen]
  generalize hτ : σ.new _ = τ
  have g0 : τ.get σ.next = some (.cells 3 [a.av]) := by rw [← hτ]; simp [get_new]
  have hG : Grows σ τ := by rw [← hτ]; exact Grows.new _ _
  clear hτ
  refine seqW_in ?_
  refine loopW_by (fun j : Nat => [(0, effV l), (3, .ptr σ.next 0 0), (7, int l.length), (8, int j)]) (fun j φ => φ = τ ∧ j ≤ l.length ∧ a ∉ l.take j) (fun fr _ => l.length - (intOf (look fr 8)).toNat) 0 (by simp) ⟨rfl, by simp, by simp⟩ ?_
  rintro j φ ⟨rfl, hj, hne⟩
  simp
  by_cases hjl : j < l.length
  · obtain ⟨t, ht⟩ := get_some hjl
    simp [hjl, eff_at ht, g0, Atom.take3, eqAtom]
    by_cases hc : t = a
    · subst hc
      simp
      have := hk' _ hG
      rwa [decide_eq_true (List.mem_of_getElem? ht)] at this
    · simp [hc]
      rw [wrap64 (by omega)]
      refine ⟨⟨j + 1, by simp, by omega, fun h => ?_⟩, by omega⟩
      rw [List.take_add_one, ht] at h
      rcases List.mem_append.1 h with h | h
      · exact hne h
      · simp at h; exact hc h.symm
  · rw [List.take_of_length_le (by omega)] at hne
    simp [hjl]
    have := hk' _ hG
    rwa [decide_eq_false hne] at this
def withinM (a b : List Atom) : Bool := a.all fun x => !atomM x || decide (x ∈ b)
theorem within_ref {a b : List Atom} (ha : a.length < 1000000000000) (hb : b.length < 1000000000000) {σ : AHeap} {k kp : AV → AHeap → Prop} (hk : k (bool (withinM a b)) σ) : Ev PR 19 [effV a, effV b] σ k kp := by
  apply F19_ev; unfold F19
  have hlen : ∀ ω, aLenK .slice (effV a) ω = some (int a.length) := fun ω => by simp [effV]
  simp [hlen]
  refine seqW_in ?_
  refine loopW_by (fun j : Nat => [(0, effV a), (1, effV b), (7, int a.length), (8, int j)]) (fun j φ => φ = σ ∧ j ≤ a.length ∧ withinM (a.take j) b = true) (fun fr _ => a.length - (intOf (look fr 8)).toNat) 0 (by simp) ⟨rfl, by simp, by simp [withinM]⟩ ?_
  rintro j φ ⟨rfl, hj, hall⟩
  simp
  by_cases hjl : j < a.length
  · obtain ⟨t, ht⟩ := get_some hjl
    have hstep : withinM (a.take (j + 1)) b = (!atomM t || decide (t ∈ b)) := by
      rw [List.take_add_one, ht]
      have : withinM (a.take j ++ [t]) b = (withinM (a.take j) b && (!atomM t || decide (t ∈ b))) := by simp [withinM, List.all_append]
      simpa [hall] using this
    have hno : (!atomM t || decide (t ∈ b)) = false → withinM a b = false := fun h => List.all_eq_false.2 ⟨t, List.mem_of_getElem? ht, by rw [h]; simp⟩
    simp [hjl, eff_at ht, Atom.take3]
    refine atom_ref ?_
    cases hat : atomM t with
    | false =>
      simp
      rw [wrap64 (by omega)]
      exact ⟨⟨j + 1, by simp, by omega, by rw [hstep, hat]; rfl⟩, by omega⟩
    | true =>
      simp [eff_at ht, Atom.take3]
      refine in_ref hb ?_
      by_cases hm : t ∈ b
      · simp [hm]
        rw [wrap64 (by omega)]
        exact ⟨⟨j + 1, by simp, by omega, by rw [hstep, hat]; simpa using hm⟩, by omega⟩
      · simp [hm]
        rw [hno (by simp [hat, hm])] at hk
        exact hk
  · rw [List.take_of_length_le (by omega)] at hall
    simp [hjl]
    rw [hall] at hk
    exact hk
def strLt (a b : ByteArray) : Bool := match strBin .lss a b with | some (.bool t) => t | _ => false
theorem aBin_slt (a b : ByteArray) : aBin .lss .prim (str a) (str b) = some (bool (strLt a b)) := by
  rw [aBin_str]; simp [strBin, strLt]
def lessM (a b : Atom) : Bool := if a.kind = b.kind then if a.rho = b.rho then strLt a.exn b.exn else decide (a.rho < b.rho) else decide (a.kind < b.kind)
theorem less_ref {a b : Atom} {σ : AHeap} {k kp : AV → AHeap → Prop} (hk : k (bool (lessM a b)) σ) : Ev PR 111 [a.v, b.v] σ k kp := by
  refine Ev.pureD hk ((Dat.val _).low _) fun k' hk' => ?_
  apply F111_ev; unfold F111
  obtain ⟨kd, rho, exn⟩ := a
  obtain ⟨kd2, rho2, exn2⟩ := b
  simp [Atom.av]
  generalize hτ : AHeap.new _ _ = τ
  have g0 : τ.get σ.next = some (.cells 3 [[u8 kd, int rho, str exn]]) := by rw [← hτ]; simp [get_new]
  have g1 : τ.get (σ.next + 1) = some (.cells 3 [[u8 kd2, int rho2, str exn2]]) := by rw [← hτ]; simp [get_new]
  have hG : Grows σ τ := by rw [← hτ]; exact (Grows.new _ _).trans (Grows.new _ _)
  clear hτ
  have fin : ∀ v, lessM ⟨kd, rho, exn⟩ ⟨kd2, rho2, exn2⟩ = v → k' (bool v) τ := fun v h => by rw [← h]; exact hk' _ hG
  by_cases h1 : kd = kd2
  · by_cases h2 : rho = rho2
    · simp [g0, g1, h1, h2, aBin_slt]
      exact fin _ (by simp [lessM, h1, h2])
    · simp [g0, g1, h1, h2]
      exact fin _ (by simp [lessM, h1, h2])
  · simp [g0, g1, h1]
    exact fin _ (by simp [lessM, h1])

def cmpI (a b : Int) : Int := if a < b then -1 else if b < a then 1 else 0
theorem cmpU_ev {a b : Int} {σ : AHeap} {k kp : AV → AHeap → Prop} (hk : k (int (cmpI a b)) σ) : Ev PR 77 [u8 a, u8 b] σ k kp := by
  apply F77_ev; unfold F77
  apply F107_ev; unfold F107
  simp
  apply F107_ev; unfold F107
  simp
  have fin : ∀ v, cmpI a b = v → k (int v) σ := fun v h => by rw [← h]; exact hk
  by_cases h1 : a < b
  · simp [h1]; exact fin _ (by simp [cmpI, h1])
  · by_cases h2 : b < a
    · simp [h1, h2]; exact fin _ (by simp [cmpI, h1, h2])
    · simp [h1, h2]; exact fin _ (by simp [cmpI, h1, h2])
theorem cmpI_ev {a b : Int} {σ : AHeap} {k kp : AV → AHeap → Prop} (hk : k (int (cmpI a b)) σ) : Ev PR 78 [int a, int b] σ k kp := by
  apply F78_ev; unfold F78
  apply F108_ev; unfold F108
  simp
  apply F108_ev; unfold F108
  simp
  have fin : ∀ v, cmpI a b = v → k (int v) σ := fun v h => by rw [← h]; exact hk
  by_cases h1 : a < b
  · simp [h1]; exact fin _ (by simp [cmpI, h1])
  · by_cases h2 : b < a
    · simp [h1, h2]; exact fin _ (by simp [cmpI, h1, h2])
    · simp [h1, h2]; exact fin _ (by simp [cmpI, h1, h2])
def strGt (a b : ByteArray) : Bool := match strBin .gtr a b with | some (.bool t) => t | _ => false
theorem aBin_sgt (a b : ByteArray) : aBin .gtr .prim (str a) (str b) = some (bool (strGt a b)) := by
  rw [aBin_str]; simp [strBin, strGt]
def cmpS (a b : ByteArray) : Int := if strLt a b = true then -1 else if strGt a b = true then 1 else 0
theorem cmpS_ev {a b : ByteArray} {σ : AHeap} {k kp : AV → AHeap → Prop} (hk : k (int (cmpS a b)) σ) : Ev PR 79 [str a, str b] σ k kp := by
  apply F79_ev; unfold F79
  apply F109_ev; unfold F109
  simp
  apply F109_ev; unfold F109
  simp [aBin_slt, aBin_sgt]
  have fin : ∀ v, cmpS a b = v → k (int v) σ := fun v h => by rw [← h]; exact hk
  cases h1 : strLt a b
  · cases h2 : strGt a b
    · simp; exact fin _ (by simp [cmpS, h1, h2])
    · simp; exact fin _ (by simp [cmpS, h1, h2])
  · simp; exact fin _ (by simp [cmpS, h1])
def orM : List Int → Int
  | [] => 0
  | a :: l => if a = 0 then orM l else a
theorem orM_at {l : List Int} {j : Nat} {x : Int} (h : l[j]? = some x) (hz : ∀ y ∈ l.take j, y = 0) (hx : x ≠ 0) : orM l = x := by
  induction l generalizing j with
  | nil => simp at h
  | cons a l ih =>
    cases j with
    | zero => simp at h; subst h; simp [orM, hx]
    | succ j =>
      have ha : a = 0 := hz a (by simp)
      simp only [orM, ha, if_true]
      exact ih (by simpa using h) fun y hy => hz y (by simp [hy])
theorem orM_zero {l : List Int} (hz : ∀ y ∈ l, y = 0) : orM l = 0 := by
  induction l with
  | nil => rfl
  | cons a l ih =>
    simp only [orM, hz a (by simp), if_true]
    exact ih fun y hy => hz y (by simp [hy])
theorem or_ev {l : List Int} {c : Bool} (hb : l.length < 1000000000) {σ : AHeap} {k kp : AV → AHeap → Prop} (hk : k (int (orM l)) σ) : Ev PR 76 [.sl c 1 (l.map fun r => [int r])] σ k kp := by
  apply F76_ev; unfold F76
  simp
  refine seqW_in ?_
  refine loopW_by (fun j : Nat => [(3, int 0), (6, .sl c 1 (l.map fun r => [int r])), (7, int l.length), (8, int j)]) (fun j φ => φ = σ ∧ j ≤ l.length ∧ ∀ y ∈ l.take j, y = 0) (fun fr _ => l.length - (intOf (look fr 8)).toNat) 0 (by simp) ⟨rfl, by simp, by simp⟩ ?_
  rintro j φ ⟨rfl, hj, hz⟩
  simp
  by_cases hjl : j < l.length
  · obtain ⟨x, hx⟩ := get_some hjl
    have hix : ∀ ω, aIndexAddr 1 (.sl c 1 (l.map fun r => [int r])) (int j) ω = some (.ref [int x]) := fun ω => by rw [aIndexAddr_sl]; simp [hx]
    by_cases h0 : x = 0
    · simp [hjl, hix, h0]
      rw [wrap64 (by omega)]
      refine ⟨⟨j + 1, by simp, by omega, fun y hy => ?_⟩, by omega⟩
      rw [List.take_add_one, hx] at hy
      rcases List.mem_append.1 hy with h | h
      · exact hz y h
      · simp at h; subst h; exact h0
    · simp [hjl, hix, h0]
      rw [orM_at hx hz h0] at hk
      exact hk
  · have hall : l.take j = l := List.take_of_length_le (by omega)
    rw [hall] at hz
    simp [hjl]
    rw [orM_zero hz] at hk
    exact hk
theorem or3_ev {a b c : Int} {σ : AHeap} {k kp : AV → AHeap → Prop} (hk : k (int (if a = 0 then if b = 0 then c else b else a)) σ) : Ev PR 76 [.sl true 1 [[int a], [int b], [int c]]] σ k kp := by
  refine or_ev (l := [a, b, c]) (by simp) ?_
  have : orM [a, b, c] = if a = 0 then if b = 0 then c else b else a := by
    simp only [orM]
    by_cases hc : c = 0 <;> simp [hc]
  rw [this]; exact hk
/-- How two atoms stand. -/
def cmpM (a b : Atom) : Int := if cmpI a.kind b.kind = 0 then if cmpI a.rho b.rho = 0 then cmpS a.exn b.exn else cmpI a.rho b.rho else cmpI a.kind b.kind
theorem compare_ev {a b : Atom} {σ : AHeap} {k kp : AV → AHeap → Prop} (hk : k (int (cmpM a b)) σ) : Ev PR 60 [a.v, b.v] σ k kp := by
  refine Ev.pureD hk ((Dat.val _).low _) fun k' hk' => ?_
  apply F60_ev; unfold F60
  obtain ⟨kd, rho, exn⟩ := a
  obtain ⟨kd2, rho2, exn2⟩ := b
  simp [Atom.av]
  generalize hτ : AHeap.new _ _ = τ
  have g0 : τ.get σ.next = some (.cells 3 [[u8 kd, int rho, str exn]]) := by rw [← hτ]; simp [get_new]
  have g1 : τ.get (σ.next + 1) = some (.cells 3 [[u8 kd2, int rho2, str exn2]]) := by rw [← hτ]; simp [get_new]
  have hG : Grows σ τ := by rw [← hτ]; exact (Grows.new _ _).trans (Grows.new _ _)
  clear hτ
  simp [g0, g1]
  refine cmpU_ev ?_
  simp [g0, g1]
  refine cmpI_ev ?_
  simp [g0, g1]
  refine cmpS_ev ?_
  simp
  refine or3_ev ?_
  exact hk' _ hG
theorem cmpM_less (a b : Atom) : (0 ≤ cmpM a b) ↔ lessM a b = false := by
  unfold cmpM lessM cmpI cmpS
  by_cases h1 : a.kind = b.kind
  · rw [h1]
    simp only [Int.lt_irrefl, if_false, if_true]
    by_cases h2 : a.rho = b.rho
    · rw [h2]
      simp only [Int.lt_irrefl, if_false, if_true]
      cases h3 : strLt a.exn b.exn
      · simp only [Bool.false_eq_true, if_false, iff_true]
        split <;> omega
      · simp
    · simp only [h2, if_false]
      by_cases h4 : a.rho < b.rho
      · simp [h4]
      · have : b.rho < a.rho := by omega
        simp [h4, this]
  · simp only [h1, if_false]
    by_cases h4 : a.kind < b.kind
    · simp [h4]
    · have : b.kind < a.kind := by omega
      simp [h4, this]


end Go.Abs.At
