/-
  What an effect variable has, and what comes of some.
-/
import Derived.Test.YtjilebpcaemopaaGreatBasB
set_option linter.unusedVariables false
set_option linter.unusedSimpArgs false
namespace Go.Abs.Bas
open Go Go.Abs Go.Abs.At Go.Proofs.BasD
attribute [local simp] Nat.add_assoc
variable {σ : AHeap} {id : Nat} {b : B} {F : Nat → Prop} {k kp : AV → AHeap → Prop}

theorem ren_av (a : Atom) (h : a.kind = 3) : b.ren a = a := by simp [B.ren, h]
theorem named_ev (h : Bs σ id b F) {l : List Atom} {x : AV} (hx : RowG σ 3 x (arows l)) (hb : l.length < 1000000000) (hk : k (effV (ofM (l.map b.ren))) σ) : Ev PR 40 [.ptr id 0 0, x] σ k kp := by
  refine Ev.pure ?_
  apply F40_ev; unfold F40
  refine seqW_in ?_
  have hlen : ∀ φ, Grows σ φ → aLenK .slice x φ = some (int l.length) := fun φ hG => by have := (hx.grows hG).1.len; simpa using this
  simp [hlen σ (Grows.refl _)]
  obtain ⟨g, hg⟩ : ∃ g : Nat → List Atom, ∀ n, g n = (l.take n).map b.ren := ⟨_, fun _ => rfl⟩
  have hg0 : g 0 = [] := by rw [hg]; rfl
  have hgl : ∀ n, (g n).length ≤ n := fun n => by rw [hg]; simp; omega
  refine loopW_by (fun p : Nat × AV => [(0, .ptr id 0 0), (5, p.2), (8, x), (9, int l.length), (10, int p.1)])
    (fun p φ => p.1 ≤ l.length ∧ Grows σ φ ∧ Kid σ.next 0 3 φ p.2 (arows (g p.1)))
    (fun fr _ => l.length - (intOf (look fr 10)).toNat) (0, .val (.slice none 0 0)) (by simp) ⟨by simp, Grows.refl _, .inl ⟨rfl, by simp [hg0]⟩⟩ ?_
  rintro ⟨i, y⟩ φ ⟨hi, hG, hK⟩
  simp only at hi hK
  simp
  by_cases hil : i < l.length
  · obtain ⟨a, ha⟩ := get_some hil
    obtain ⟨p, hp, hpt⟩ := (hx.grows hG).1.at (i := i) (el := a.av) (by simp [ha]) rfl .i64
    have htk : g (i + 1) = g i ++ [b.ren a] := by rw [hg, hg, List.take_add_one, ha]; simp
    have hgi := hgl i
    simp only [hil, decide_true, condK_true]
    refine stepP hp ?_
    simp [hpt.load, Atom.take3, get_new]
    generalize hτ : AHeap.set _ _ _ = τ
    have g0 : τ.get φ.next = some (.cells 3 [a.av]) := by rw [← hτ]; simp [get_set]
    have gG : Grows φ τ := by rw [← hτ]; exact (Grows.new _ _).set (Nat.le_refl _) _
    have hG2 : Grows σ τ := hG.trans gG
    have hn2 : φ.next + 1 ≤ τ.next := by rw [← hτ]; simp
    clear hτ
    have hK2 := hK.grows gG
    have hφ := hG.next
    refine seqW_by (fun fr υ => fr = [(0, .ptr id 0 0), (5, y), (7, .ptr φ.next 0 0), (8, x), (9, int l.length), (10, int i)] ∧ Grows σ υ ∧ φ.next + 1 ≤ υ.next ∧ υ.get φ.next = some (.cells 3 [(b.ren a).av]) ∧ Kid σ.next 0 3 υ y (arows (g i))) ?_ ?_
    · obtain ⟨kd, rho, exn⟩ := a
      simp [g0, Atom.av]
      by_cases h3 : kd = 3
      · simp [h3]
        refine ⟨hG2, hn2, ?_, hK2⟩
        rw [ren_av _ rfl]; simp
      · obtain ⟨s, hIn, hR⟩ := h.grows hG2
        obtain ⟨rv, vv, hv, hB, _⟩ := hIn
        simp [h3, g0, Atom.av]
        refine name_ev hB.fvR hR.r ?_
        rw [nameIn_R hR]
        simp [g0, Atom.av]
        have gU := gG.set (Nat.le_refl φ.next) (.cells 3 [[u8 kd, int (b.name rho), str exn]])
        refine ⟨hG.trans gU, by omega, by simp [B.ren, h3], hK.grows gU⟩
    · rintro fr υ ⟨rfl, u1, u2, u3, u4⟩
      simp [u3, Atom.take3]
      have hK3 := u4.grows (Grows.new υ (.cells 3 [(b.ren a).av]))
      refine stepK_of (aAppend_rows (by' := 32) hK3.rows hK3.ns (ys := [(b.ren a).av]) (.inr (.inr ⟨υ.next, [], rfl, by simp [get_new]⟩)) (by simp; omega)) ?_
      have hnn := u1.next
      obtain ⟨p1, p2, p3⟩ := hK3.push (by simp; omega) (b.ren a).av
      generalize (gone y (υ.new (.cells 3 [(b.ren a).av]))).new (.cells 3 (arows (g i) ++ [(b.ren a).av])) = ω at p1 p2 p3
      simp
      rw [wrap64 (by omega)]
      simp at p3
      refine ⟨⟨i + 1, _, ⟨rfl, by simp⟩, by omega, ⟨by omega, fun j hj => by rw [p2 j (by omega), AHeap.new_ne (by omega)]; exact u1.get j hj⟩, ?_⟩, by omega⟩
      rw [htk]
      simpa [arows] using p1
  · have hall : g i = l.map b.ren := by rw [hg, List.take_of_length_le (by omega)]
    rw [hall] at hK
    simp only [hil, decide_false, condK_false]
    refine of_ev (Kid.rowG hK) (by simpa using hb) ?_
    exact ⟨hG, effV _, .low ((effV_dat _).low _), hk⟩
theorem BAt.hasAt {σ : AHeap} {id : Nat} {rv vv hv : AV} {s : IS} (h : BAt σ id rv vv hv s) {i : Nat} {p : List Atom × List Int} (hp : s.has[i]? = some p) : ∃ r, ∀ τ, Grows σ τ → aIndexAddr 2 hv (int i) τ = some r ∧ aLoad true 2 r τ = some (.agg (hasRow p)) := by
  have hi := (List.getElem?_eq_some_iff.1 hp).1
  rcases h.h with ⟨_, h0⟩ | ⟨q, rest, rfl, _, h1, h2⟩
  · have : s.has = [] := by simpa using h0
    rw [this] at hi; simp at hi
  · refine ⟨.ptr q i 0, fun τ g => ?_⟩
    have hg : τ.get q = some (.cells 2 (s.has.map hasRow ++ rest)) := by rw [g.get q h2]; exact h1
    have hrow : (s.has.map hasRow ++ rest)[i]? = some (hasRow p) := by rw [List.getElem?_append_left (by simpa using hi)]; simp [hp]
    constructor
    · rw [aIndexAddr_own, if_pos ⟨by omega, by simp; omega⟩]
      simp only [elAt_eq, hg, Int.toNat_natCast, hrow, Option.bind_some]
      rfl
    · simp only [aLoad_ptr, elAt_eq, hg, hrow, Option.bind_some]
      rfl
theorem Rep.root {s : IS} (hR : Rep s b) (ok : b.Ok) {v : Int} (hv : inB v b.vars = true) : ∃ (i : Nat) (p : List Atom × List Int), nm b.V v = i ∧ s.has[i]? = some p ∧ p.1.Perm ((b.toldOf v).flatMap (·.atoms)) ∧ p.2.Perm ((b.toldOf v).flatMap (·.vars)) := by
  have h1 := inB_iff.1 (nm_in ok.V hv)
  refine ⟨(nm b.V v).toNat, s.has[(nm b.V v).toNat]'(by rw [hR.hl]; omega), by omega, List.getElem?_eq_getElem _, ?_⟩
  have e : ((nm b.V v).toNat : Int) = nm b.V v := by omega
  have h2 := hR.h (nm b.V v).toNat _ (List.getElem?_eq_getElem (by rw [hR.hl]; omega)) (by rw [e]; exact nm_idem _ _)
  have e2 : b.toldOf ((nm b.V v).toNat : Int) = b.toldOf v := by unfold B.toldOf; rw [e, nm_idem]
  rwa [e2] at h2
theorem has_ev (h : Bs σ id b F) (hs : Small b) {v : Int} (hk : k (.tup [effV (b.has v).1, rhosV (b.has v).2]) σ) : Ev PR 17 [.ptr id 0 0, int v] σ k kp := by
  refine Ev.pure ?_
  obtain ⟨s, hIn, hR⟩ := h
  have hBs : Bs σ id b F := ⟨s, hIn, hR⟩
  obtain ⟨rv, vv, hv, hB, _⟩ := hIn
  apply F17_ev; unfold F17
  simp
  generalize hτ : σ.new _ = τ
  have g0 : τ.get σ.next = some (.cells 1 (irows [v] ++ [])) := by rw [← hτ]; simp [get_new]
  have hG : Grows σ τ := by rw [← hτ]; exact Grows.new _ _
  have hnx : σ.next < τ.next := by rw [← hτ]; simp
  clear hτ
  refine there_ev (l := [v]) (hB.fvV.grows hG) ⟨.inr (.inr ⟨σ.next, [], rfl, g0⟩), .own hnx⟩ (by simp) ?_
  rw [hR.vl]
  cases hin : inB v b.vars
  · simp [there, hin]
    refine ⟨hG, _, .tup (ds := [effV [], rhosV []]) rfl (fun j x y hx hy => ?_), by simpa [B.has, hin] using hk⟩
    match j, hx, hy with
    | 0, hx, hy => simp at hx hy; subst hx; subst hy; exact .nil
    | 1, hx, hy => simp at hx hy; subst hx; subst hy; exact .nil
    | j + 2, hx, hy => simp at hx
  · simp [there, hin]
    obtain ⟨i, p, e1, e2, e3, e4⟩ := hR.root hs.ok hin
    have hobj : ∀ υ, Grows σ υ → υ.get id = some (.cells 3 [[rv, vv, hv]]) := fun υ g => by rw [g.get id hB.lt]; exact hB.obj
    have hvn : nameIn s.vup b.V v = i := by rw [nameIn_V hR, B.varName, if_pos hin, e1]
    obtain ⟨r, hr⟩ := hB.hasAt e2
    obtain ⟨r1, r2⟩ := hr τ hG
    refine seqW_by (fun fr υ => ∃ q, fr = [(0, .ptr id 0 0), (6, .ptr q 0 0)] ∧ Grows σ υ ∧ υ.get q = some (.cells 2 [hasRow p])) ?_ ?_
    · have hz : ∀ (υ : AHeap) (el : List AV), aStore 2 (.ptr υ.next 0 0) (.agg (hasRow p)) (υ.new (.cells 2 [[nilS, nilS]])) = some ((υ.new (.cells 2 [[nilS, nilS]])).set υ.next (.cells 2 [hasRow p])) := by
        intro υ el
        simp [aStore_ptr, get_new, hasRow]
      refine ⟨?_, ?_⟩
      · simp [hobj τ hG]
        refine name_ev (hB.fvV.grows hG) hR.v ?_
        rw [hvn]
        simp [hobj τ hG, r1]
        refine stepP r2 ?_
        have hG2 := hG.trans (Grows.new τ (.cells 2 [[nilS, nilS]]))
        obtain ⟨r1', r2'⟩ := hr _ hG2
        have e3 : acells (.agg (hasRow p)) = some (hasRow p) := rfl
        simp only [hobj _ hG2, r1', r2', e3]
        refine ⟨stepP rfl ⟨rfl, rfl⟩, stepP rfl ⟨rfl, rfl⟩, stepP rfl ⟨rfl, rfl⟩, ?_⟩
        have e4 : (hasRow p).length = 2 := rfl
        simp [e4, get_set]
        exact hG2.set hG.next _
      · simp [hobj τ hG]
        have hG2 := hG.trans (Grows.new τ (.cells 2 [[nilS, nilS]]))
        obtain ⟨r1', r2'⟩ := hr _ hG2
        have e3 : acells (.agg (hasRow p)) = some (hasRow p) := rfl
        have e4 : (hasRow p).length = 2 := rfl
        simp only [hobj _ hG2]
        refine ⟨stepP rfl ⟨rfl, rfl⟩, ?_⟩
        refine name_ev (hB.fvV.grows hG2) hR.v ?_
        rw [hvn]
        simp only [hobj _ hG2]
        refine ⟨stepP rfl ⟨rfl, rfl⟩, ?_⟩
        refine stepP r1' ?_
        refine stepP r2' ?_
        simp [e3, e4, get_new]
        exact hG2.set hG.next _
    · rintro fr υ ⟨q, rfl, u1, u2⟩
      simp [u2, hasRow]
      refine named_ev (hBs.grows u1) (RowG.eff _) (by rw [e3.length_eq]; have := hs.atoms v; omega) ?_
      simp [u2, hasRow]
      refine names_ev (hB.fvV.grows u1) hR.v (RowG.rhos _) (by rw [e4.length_eq]; have := hs.varsL v; omega) ?_
      refine ⟨u1, _, .low ((Dat.tup fun x hx => ?_).low _), ?_⟩
      · simp at hx
        rcases hx with rfl | rfl
        · exact effV_dat _
        · exact rhosV_dat _
      · have a1 : ofM (p.1.map b.ren) = (b.has v).1 := by
          rw [B.has, if_pos hin]
          rw [← ofM_ren hs v]
          unfold ofM
          refine setOf_congr lessM_ord fun a => ?_
          simp only [List.mem_filter, List.mem_map, B.atomsOf, e3.mem_iff]
        have a2 : setOf ltI ((p.2.filter fun n => inB n s.vup.length).map (nm b.V)) = (b.has v).2 := by
          rw [B.has, if_pos hin]
          refine setOf_congr ltI_ord fun a => ?_
          unfold B.varsOf
          simp only [List.mem_map, List.mem_filter, e4.mem_iff]
          constructor
          · rintro ⟨n, ⟨h1, _⟩, rfl⟩; exact ⟨n, h1, rfl⟩
          · rintro ⟨n, h1, rfl⟩
            refine ⟨n, ⟨h1, ?_⟩, rfl⟩
            obtain ⟨t, ht, hn⟩ := List.mem_flatMap.1 h1
            rw [hR.vl]
            exact inB_iff.2 (there_iff.1 (hs.ok.L t (List.mem_filter.1 ht).1).2.1 n hn)
        rw [a1, a2]
        exact hk
end Go.Abs.Bas
