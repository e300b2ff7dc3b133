/-
  The document's example: nodes of four kinds.
-/
import Derived.Test.YtpfaciflhhpokaaGreatDoorAtI
set_option linter.unusedVariables false
set_option linter.unusedSimpArgs false
namespace Go.Abs.At
open Go Go.Abs Go.Proofs.AtD
attribute [local simp] Nat.add_assoc

def shapesL : List (Int × ByteArray) := [(0, ⟨#[110]⟩), (0, ⟨#[109]⟩), (2, ⟨#[]⟩), (1, ⟨#[]⟩), (1, ⟨#[]⟩), (1, ⟨#[]⟩), (1, ⟨#[]⟩), (2, ⟨#[]⟩), (2, ⟨#[111]⟩), (2, ⟨#[]⟩), (1, ⟨#[97]⟩), (2, ⟨#[109]⟩), (2, ⟨#[109, 97]⟩), (3, ⟨#[]⟩), (1, ⟨#[101]⟩), (2, ⟨#[101, 97]⟩)]
def shapesV : AV := .sl true 2 (shapesL.map fun p => [int p.1, str p.2])
theorem shapes_ev {σ : AHeap} {k kp : AV → AHeap → Prop} (hk : k shapesV σ) : Ev PR 103 [] σ k kp := by
  apply F103_ev; unfold F103
  simp
  exact hk

abbrev hd (k : Int) : Head := ⟨k, 0, 0, 0, ByteArray.empty, ByteArray.empty, ByteArray.empty⟩
theorem empty_eq : (⟨#[]⟩ : ByteArray) = ByteArray.empty := rfl

theorem wrap8 {n : Int} (h : 0 ≤ n ∧ n ≤ 255) : IntKind.u8.wrap n = n := by
  exact Go.IntWalk.u8_in n h

theorem field_no_ev {n : Int} {s : ByteArray} {c : Int} {f : AV} (hb : (bytesOf s).length < 1000000000000) (hc : c ∉ bytesOf s) {σ : AHeap} {k kp : AV → AHeap → Prop} (hk : k (.val (.bool true)) σ) : Ev PR 105 [.agg [int n, str s], u8 c, str ByteArray.empty, f] σ k kp := by
  refine Ev.pureD hk ((Dat.val _).low _) fun k' hk' => ?_
  apply F105_ev; unfold F105
  simp
  refine has_ev hb ?_
  simp [hc, empty_eq]
  exact hk' _ (Grows.new _ _)
set_option maxHeartbeats 1000000 in
theorem tnode_ev {t : T} {kd : Nat} {s : ByteArray} (hh : t.h = hd kd) (hk1 : 1 ≤ kd ∧ kd ≤ 16) (hs : shapesL[kd - 1]? = some ((t.kids.length : Int), s)) (ho : 111 ∉ bytesOf s) (hm : 109 ∉ bytesOf s) (ha : 97 ∉ bytesOf s) (he : 101 ∉ bytesOf s) (hsl : (bytesOf s).length < 1000000000000) {σ : AHeap} {k kp : AV → AHeap → Prop} (hk : k (.val (.bool true)) σ) : Ev PR 85 [t.v] σ k kp := by
  refine Ev.pureD hk ((Dat.val _).low _) fun k' hk' => ?_
  apply F85_ev; unfold F85
  simp [hh]
  refine shapes_ev ?_
  have hix : ∀ ω, aIndexAddr 2 shapesV (u8 (kd - 1)) ω = some (.ref [int t.kids.length, str s]) := fun ω => by
    have e : ((kd : Int) - 1).toNat = kd - 1 := by omega
    have : (kd : Int) - 1 < shapesL.length := by simp [shapesL]; omega
    simp [shapesV, aIndexAddr_sl, e, hs]
    omega
  have hln : ∀ ω, aLenK .slice shapesV ω = some (int 16) := fun ω => by simp [shapesV, shapesL]
  have q1 : ¬ ((kd : Int) < 1) := by omega
  have q2 : ¬ ((16 : Int) < kd) := by omega
  have w1 : IntKind.i64.wrap (kd : Int) = kd := wrap64 (by omega)
  have w2 : IntKind.u8.wrap ((kd : Int) - 1) = kd - 1 := wrap8 (by omega)
  simp [hh, hix, hln, q1, q2, w1, w2]
  generalize hτ : AHeap.set _ _ _ = τ
  have hg : Grows σ τ := by rw [← hτ]; exact ((Grows.new _ _).trans (Grows.new _ _)).set (by simp) _
  have g0 : τ.get σ.next = some (.cells 8 [t.av]) := by rw [← hτ]; simp [get_new, get_set]
  have g1 : τ.get (σ.next + 1) = some (.cells 2 [[int t.kids.length, str s]]) := by rw [← hτ]; simp [get_set]
  simp [g0, g1, hh]
  refine seqW_in ?_
  refine has_ev hsl ?_
  simp [g0, g1, hh, ho]
  refine has_ev hsl ?_
  simp [g0, g1, hh, ho]
  refine has_ev hsl ?_
  by_cases hn : 110 ∈ bytesOf s
  all_goals
    simp [g0, g1, hh, hn]
    refine field_no_ev hsl hm ?_
    simp [g0, g1, hh]
    refine field_no_ev hsl ha ?_
    simp [g0, g1, hh]
    refine field_no_ev hsl he ?_
    exact hk' _ hg

theorem T.clip1 {τ : AHeap} {D : Nat → Prop} (t : T) : Fz τ D (.sl true 8 [t.av]) (T.vs [t]) := by
  have e2 : [t.av] = T.avs [t] := by simp [T.avs]
  rw [e2]; exact Fz.clip
theorem AT.clip1 {τ : AHeap} {D : Nat → Prop} (t : AT) : Fz τ D (.sl true 19 [t.av]) (AT.vs [t]) := by
  have e2 : [t.av] = AT.avs [t] := by simp [AT.avs]
  rw [e2]; exact Fz.clip
theorem tmay_ev {t : T} (hb : t.size ≤ 4000) (hall : ∀ x ∈ t.all, ∀ (σ : AHeap) (k kp : AV → AHeap → Prop), k (.val (.bool true)) σ → Ev PR 85 [x.v] σ k kp) {σ : AHeap} {k kp : AV → AHeap → Prop} (hk : k (.val (.bool true)) σ) : Ev PR 67 [t.v] σ k kp := by
  refine Ev.pureD hk ((Dat.val _).low _) fun k' hk' => ?_
  apply F67_ev; unfold F67
  simp
  refine Ev.weak (.cons (T.clip1 t) .nil) ?_
  have e1 : T.sizes [t] = t.size := by simp [T.sizes]
  have e3 : T.alls [t] = t.all := by simp [T.alls]
  refine T.sizes_ev (by omega) ?_
  have h1 : (T.sizes [t] : Int) ≤ 4000 := by omega
  simp [h1]
  refine Ev.weak (.cons (.refl _) (.cons (T.clip1 t) .nil)) ?_
  refine T.each_ev 85 [] 0 (fun _ => False) _ [t] (Nat.le_refl _) (by omega) (fun _ φ => Grows σ φ) (fun _ _ _ h g => h.trans g) ?_ _ _ _ (Nat.zero_le _) (Grows.new _ _) ?_ ?_
  · rintro i x hi φ q qp _ hG hT _
    exact hall x (by rw [← e3]; exact List.mem_of_getElem? hi) φ q qp (hT φ (Up.refl _ _ _) hG)
  · intro τ _ hG
    exact hk' _ hG
  · intro τ _ h; exact h.elim
end Go.Abs.At
