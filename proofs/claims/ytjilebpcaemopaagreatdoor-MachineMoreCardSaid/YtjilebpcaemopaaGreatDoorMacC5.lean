import Derived.Test.YtjilebpcaemopaaGreatDoorMacA
set_option linter.unusedVariables false
set_option linter.unusedSimpArgs false
set_option linter.deprecated false
namespace Go.Abs.Mac
open Go Go.Abs Go.Abs.Stk Go.Abs.At Go.Proofs.MacD
variable {σ τ : AHeap} {mid sid fuel : Nat} {cv fv : AV} {vv : List AV} {T : Nat → Nat} {s : Sa} {k : List Fr} {K kp : AV → AHeap → Prop}

@[simp] theorem Co.av_len (c : Co) : c.av.length = 5 := rfl
theorem coded_ev (h : MA σ mid T fuel s k) (b : Bnd fuel s k) {c : Co} (hk : ∀ τ T', MA τ mid T' fuel (coded s c).2 k → Keep T σ T' τ → K (.agg (coded s c).1.av) τ) : Ev PR 87 [.ptr mid 0 0, .agg c.av] σ K kp := by
  apply F87_ev; unfold F87
  simp [Nat.add_assoc]
  generalize hτ : (σ.new (.cells 5 [c.av])).new (.cells 10 [zC]) = τ
  have hg : Grows σ τ := by rw [← hτ]; exact (Grows.new _ _).trans (Grows.new _ _)
  have hn : τ.next = σ.next + 2 := by rw [← hτ]; rfl
  have g0 : τ.get σ.next = some (.cells 5 [c.av]) := by rw [← hτ]; simp [get_new]
  have g1 : τ.get (σ.next + 1) = some (.cells 10 [zC]) := by rw [← hτ]; simp [get_new]
  obtain ⟨sid, cv, fv, vv, hx⟩ := h.grows hg
  have hm : mid < τ.next := hx.lt mid (by rw [hx.tm]; omega)
  have hbc := b.codes
  have hm2 : mid ≠ σ.next + 1 := by rintro e; have := h.zero (i := mid) (by omega); rw [hx.tm] at this; omega
  simp [hx.obj, g0, List.take_of_length_le (Nat.le_of_eq c.av_len)]
  refine stepK_of (hx.codes.append (by' := 64) c.av (by simp; omega)) ?_
  have z1 : T (σ.next + 1) = 0 := h.zero (by omega)
  have gg : (gone cv τ).get mid = τ.get mid := hx.codes.gone_get (by rw [hx.tm]; omega)
  have gl : (gone cv τ).get (σ.next + 1) = τ.get (σ.next + 1) := hx.codes.gone_get (by omega)
  simp [gone_next, get_new, get_set, Nat.ne_of_lt hm, gg, hx.obj]
  obtain ⟨p1, p2⟩ := hx.pushC c (υ := ((gone cv τ).new (.cells 5 (s.codes.map Co.av ++ [c.av]))).set mid (mobj sid fuel s.steps (.own τ.next (s.codes.length + 1)) fv)) rfl
  rw [wrap64 (by omega)]
  simp [get_set, get_new, Ne.symm hm2, show σ.next + 1 ≠ τ.next by omega, gl, g1]
  have l : Loc σ.next (tg T τ.next 3) _ ((((gone cv τ).new (.cells 5 (s.codes.map Co.av ++ [c.av]))).set mid (mobj sid fuel s.steps (.own τ.next (s.codes.length + 1)) fv)).set (σ.next + 1) (.cells 10 [(coded s c).1.av])) := Loc.set (.refl _ _ _) (.inr ⟨by omega, by rw [tg_ne (by omega)]; exact z1⟩)
  have := hk _ _ ⟨_, _, _, _, p1.loc l⟩ ((Keep.of hg p2).loc l)
  simpa [coded, Cl.av, V.av, V.zero] using this
theorem step_ev (h : MA σ mid T fuel s k) (b : Bnd fuel s k)
    (hk : s.steps < fuel → ∀ τ, MA τ mid T fuel (tick s) k → Keep T σ T τ → K (.tup []) τ) (hp : fuel ≤ s.steps → kp (.iface 102 (.agg [u8 3])) σ) : Ev PR 81 [.ptr mid 0 0] σ K kp := by
  apply F81_ev; unfold F81
  obtain ⟨sid, cv, fv, vv, hx⟩ := h
  have hm : mid < σ.next := hx.lt mid (by rw [hx.tm]; omega)
  have hbf := b.fuel
  simp [hx.obj]
  refine must_ev (fun h1 => ?_) (fun h1 => hp (by simpa using h1))
  have h1 : s.steps < fuel := by simpa using h1
  simp [hx.obj]
  rw [wrap64 (by omega)]
  refine hk h1 _ ⟨sid, cv, fv, vv, ?_⟩ ?_
  · have hget : ∀ i, T i ≠ 2 → (σ.set mid (mobj sid fuel (s.steps + 1) cv fv)).get i = σ.get i := fun i h2 => by
      rw [get_set, if_neg (by rintro rfl; exact h2 hx.tm)]
    exact { obj := by simp [tick], tm := hx.tm, store := In.congr hx.store (Nat.le_refl _) fun i h1 _ => hget i (by omega), codes := hx.codes.mono fun q hq => ⟨hq, hget q (by omega)⟩, frames := hx.frames.mono fun q hq => ⟨hq, hget q (by omega)⟩, vals := hx.vals.mono fun q h1 _ => ⟨rfl, hget q (by omega)⟩, lt := hx.lt }
  · exact ⟨Nat.le_refl _, fun i hi h0 => ⟨h0, by rw [get_set, if_neg (by rintro rfl; rw [hx.tm] at h0; omega)]⟩⟩
theorem top_ev {f : Fr} (h : MX σ mid sid cv fv vv T fuel s (f :: k)) (b : Bnd fuel s (f :: k)) {fid : Nat} {rest : List (List AV)} {v : AV} {vv' : List AV} (hvv : vv = v :: vv') (hfv : fv = .own fid (k.length + 1)) (hfg : σ.get fid = some (.cells 4 (frs k vv' ++ frC f v :: rest)))
    (hk : K (.ptr fid k.length 0) σ) : Ev PR 92 [.ptr mid 0 0] σ K kp := by
  subst hvv
  apply F92_ev; unfold F92
  have hl := frs_len h.vals.2
  have hbk := b.k
  simp at hbk
  simp [h.obj, hfv]
  rw [wrap64 (by omega)]
  refine stepP (x := .ptr fid k.length 0) ?_ hk
  rw [aIndexAddr_own, if_pos (by omega)]
  rw [Int.toNat_natCast, elAt_cells hfg, ← hl, List.getElem?_append_right (Nat.le_refl _)]
  simp [frC]
theorem pop_frame_ev {f : Fr} (h : MA σ mid T fuel s (f :: k)) (b : Bnd fuel s (f :: k))
    (hk : ∀ τ T' v, MA τ mid T' fuel s k → Keep T σ T' τ → RowA τ T' 0 4 v (f.vals.map V.av) → (∀ q n, v = .own q n → q < τ.next) → K (.agg (frC f v)) τ) : Ev PR 90 [.ptr mid 0 0] σ K kp := by
  apply F90_ev; unfold F90
  simp
  have hg1 := Grows.new σ (.cells 4 [[.val (.pointer none), .val (.pointer none), .val (.pointer none), .val (.slice none 0 0)]])
  obtain ⟨sid, cv, fv, vv, hx⟩ := h.grows hg1
  obtain ⟨fid, rest, v, vv', rfl, hfv, hfg, hft, hl⟩ := hx.top
  refine top_ev hx b rfl hfv hfg ?_
  generalize hτ : σ.new (.cells 4 [[.val (.pointer none), .val (.pointer none), .val (.pointer none), .val (.slice none 0 0)]]) = τ at *
  have hn : τ.next = σ.next + 1 := by rw [← hτ]; rfl
  have g0 : τ.get σ.next = some (.cells 4 [[.val (.pointer none), .val (.pointer none), .val (.pointer none), .val (.slice none 0 0)]]) := by rw [← hτ]; simp
  have hm : mid < τ.next := hx.lt mid (by rw [hx.tm]; omega)
  have hm2 : mid ≠ σ.next := by rintro e; have := h.zero (i := mid) (by omega); rw [hx.tm] at this; omega
  have hel : (frs k vv' ++ frC f v :: rest)[k.length]? = some (frC f v) := by
    rw [← hl, List.getElem?_append_right (Nat.le_refl _)]; simp
  have hfl : (frC f v).length = 4 := rfl
  simp [hfg, hel, hfl, List.take_of_length_le (Nat.le_of_eq hfl), get_new, Nat.ne_of_lt hm, hx.obj, get_set]
  have hbk := b.k
  simp at hbk
  simp [hfv]
  rw [wrap64 (by omega)]
  rw [if_pos (by omega), Int.toNat_natCast]
  simp [get_new, get_set, Nat.ne_of_lt hm, hx.obj, hm2, Ne.symm hm2, show τ.next ≠ mid by omega, show σ.next ≠ τ.next by omega, g0, hfl, List.take_of_length_le (Nat.le_of_eq hfl)]
  obtain ⟨p1, p2, p3, p4⟩ := hx.popF hfv hfg hft (υ := τ.set mid (mobj sid fuel s.steps cv (.own fid k.length))) rfl
  generalize hT : (fun i => if T i = 5 + k.length then 0 else T i) = T' at p1 p2 p3
  have zs : T' σ.next = 0 := by rw [← hT]; show (if T σ.next = 5 + k.length then 0 else T σ.next) = 0; rw [if_neg (by rw [h.zero (Nat.le_refl _)]; omega)]; exact h.zero (Nat.le_refl _)
  have hq : ∀ i, i < τ.next → i ≠ σ.next → ((((τ.new (.cells 4 [[.val (.pointer none), .val (.pointer none), .val (.pointer none), .val (.slice none 0 0)]])).set τ.next (.cells 4 [frC f v])).set mid (mobj sid fuel s.steps cv (.own fid k.length))).set σ.next (.cells 4 [frC f v])).get i = (τ.set mid (mobj sid fuel s.steps cv (.own fid k.length))).get i := by
    intro i h1 h2
    rw [get_set, if_neg h2]
    simp only [get_set, get_new]
    by_cases e : i = mid
    · rw [if_pos e, if_pos e]
    · rw [if_neg e, if_neg e, if_neg (by omega), if_neg (by omega)]
  have l : Loc σ.next T' (τ.set mid (mobj sid fuel s.steps cv (.own fid k.length))) ((((τ.new (.cells 4 [[.val (.pointer none), .val (.pointer none), .val (.pointer none), .val (.slice none 0 0)]])).set τ.next (.cells 4 [frC f v])).set mid (mobj sid fuel s.steps cv (.own fid k.length))).set σ.next (.cells 4 [frC f v])) :=
    ⟨Nat.le_succ _, fun i h1 h2 => hq i h1 (by rintro rfl; omega)⟩
  refine hk _ T' v ⟨_, _, _, _, p1.loc l⟩ ((Keep.of hg1 p2).loc l) ?_ (fun q n e => Nat.lt_of_lt_of_le (p4 q n e) (Nat.le_succ _))
  rcases p3 with p3 | ⟨q, r, q1, q2, q3⟩
  · exact .inl p3
  · refine .inr ⟨q, r, q1, ?_, q3⟩
    rcases hx.vals.1 with ⟨rfl, _⟩ | ⟨q', r', e1, e2, e3⟩
    · cases q1
    · rw [q1] at e1; cases e1
      rw [hq q (hx.lt q (by omega)) (by rintro rfl; rw [h.zero (Nat.le_refl _)] at e3; omega)]
      exact q2

theorem kid_get {t : AT} {i : Nat} (h : i < t.kids.length) : t.kids[i]? = some (kidAt t i) := by
  unfold kidAt; rw [List.getElem?_eq_getElem h]; rfl
theorem kid_addr {t : AT} {i : Nat} (h : i < t.kids.length) (σ : AHeap) : aIndexAddr 19 (AT.vs t.kids) (.val (.int .i64 i)) σ = some (.ref (kidAt t i).av) := by
  rw [AT.vs, aIndexAddr_sl, if_pos (by omega), Int.toNat_natCast, AT.avs_map, List.getElem?_map, kid_get h]; rfl
theorem AT.fields (t : AT) : t.av[0]? = some (u8 t.h.kind) ∧ t.av[1]? = some (u8 t.h.op) ∧ t.av[3]? = some (int t.h.n) ∧ t.av[4]? = some (str t.h.name) ∧ t.av[5]? = some (str t.h.arg) ∧ t.av[6]? = some (str t.h.exn) ∧ t.av[7]? = some (int t.rho) ∧ t.av[8]? = some (rhosV t.rhos) ∧ t.av[18]? = some (AT.vs t.kids) := by
  obtain ⟨_, _, _, _, _, _, _, _, _, _, e⟩ := t.av_eq
  rw [e]
  exact ⟨rfl, rfl, rfl, rfl, rfl, rfl, rfl, rfl, rfl⟩
theorem MX.codesGet (h : MX σ mid sid cv fv vv T fuel s k) (hl : 0 < s.codes.length) : ∃ q rest, cv = .own q s.codes.length ∧ σ.get q = some (.cells 5 (s.codes.map Co.av ++ rest)) ∧ T q = 3 := by
  rcases h.codes with ⟨_, h2⟩ | ⟨q, rest, h1, h2, h3⟩
  · have := congrArg List.length h2; simp at this; rw [this] at hl; simp at hl
  · exact ⟨q, rest, by rw [h1]; simp, h2, h3⟩
theorem cellAt_in {s : SG Cl} {v : V} {c : Cl} (h : cellAt s v = some c) : ∃ (i : Nat) (row : List Cl), s.L[i]? = some (true, row) ∧ c ∈ row := by
  unfold cellAt at h
  cases hr : s.row v.r with
  | none => rw [hr] at h; cases h
  | some row =>
    rw [hr] at h
    obtain ⟨i, _, h1, _⟩ := SG.row_nat hr
    exact ⟨i, row, h1, List.mem_of_getElem? h⟩
theorem IdxOk.code {s s' : Sa} {v : V} {c : Cl} (h : IdxOk s) (ht : take s v 3 = .ok c s') : ∃ f, s.codes[c.code.toNat]? = some f ∧ c.code = (c.code.toNat : Int) := by
  obtain ⟨rfl, hk, hc, _⟩ := take_ok ht
  obtain ⟨i, row, h1, h2⟩ := cellAt_in hc
  have := h i row c h1 h2 hk
  exact ⟨_, List.getElem?_eq_getElem (by omega), by omega⟩
@[simp] theorem AT.av_0' (t : AT) (h : 0 < t.av.length) : t.av[0]'h = u8 t.h.kind := by have := (AT.fields t).1; rw [List.getElem?_eq_getElem h] at this; exact Option.some.inj this
@[simp] theorem AT.av_1' (t : AT) (h : 1 < t.av.length) : t.av[1]'h = u8 t.h.op := by have := (AT.fields t).2.1; rw [List.getElem?_eq_getElem h] at this; exact Option.some.inj this
@[simp] theorem AT.av_3' (t : AT) (h : 3 < t.av.length) : t.av[3]'h = int t.h.n := by have := (AT.fields t).2.2.1; rw [List.getElem?_eq_getElem h] at this; exact Option.some.inj this
@[simp] theorem AT.av_18' (t : AT) (h : 18 < t.av.length) : t.av[18]'h = AT.vs t.kids := by have := (AT.fields t).2.2.2.2.2.2.2.2; rw [List.getElem?_eq_getElem h] at this; exact Option.some.inj this
@[simp] theorem AT.av_head (t : AT) : t.av.head? = some (u8 t.h.kind) := by have := (AT.fields t).1; rw [List.head?_eq_getElem?]; exact this
theorem kid_addr0 {t : AT} (h : 0 < t.kids.length) (σ : AHeap) : aIndexAddr 19 (AT.vs t.kids) (.val (.int .i64 0)) σ = some (.ref (kidAt t 0).av) := kid_addr (i := 0) h σ
theorem kid_addr1 {t : AT} (h : 1 < t.kids.length) (σ : AHeap) : aIndexAddr 19 (AT.vs t.kids) (.val (.int .i64 1)) σ = some (.ref (kidAt t 1).av) := kid_addr (i := 1) h σ
theorem kid_addr2 {t : AT} (h : 2 < t.kids.length) (σ : AHeap) : aIndexAddr 19 (AT.vs t.kids) (.val (.int .i64 2)) σ = some (.ref (kidAt t 2).av) := kid_addr (i := 2) h σ
theorem wait_ev (h : MA σ mid T fuel s k) (b : Bnd fuel s k) {t : AT} {e : En} (h0 : 0 < t.kids.length)
    (hk : ∀ τ T', MA τ mid T' fuel s (⟨t, e, []⟩ :: k) → Keep T σ T' τ → K (Nx.av (.node (kidAt t 0) e)) τ) : Ev PR 89 [.ptr mid 0 0, .ref t.av, envV e] σ K kp := by
  apply F89_ev; unfold F89
  obtain ⟨f0, f1, f3, f4, f5, f6, f7, f8, f18⟩ := AT.fields t
  simp [Nat.add_assoc]
  generalize hτ : (σ.new (.cells 2 [envC e])).new (.cells 9 [[.val (.pointer none), .val (.pointer none), .val (.pointer none), .val (.int .u8 0), .val (.int .i64 0), .val (.int .i64 0), .val (.int .i64 0), .val (.bool false), .val (.string ByteArray.empty)]]) = τ
  have hg : Grows σ τ := by rw [← hτ]; exact (Grows.new _ _).trans (Grows.new _ _)
  have hn : τ.next = σ.next + 2 := by rw [← hτ]; rfl
  have g0 : τ.get σ.next = some (.cells 2 [envC e]) := by rw [← hτ]; simp [get_new]
  have g1 : τ.get (σ.next + 1) = some (.cells 9 [[.val (.pointer none), .val (.pointer none), .val (.pointer none), .val (.int .u8 0), .val (.int .i64 0), .val (.int .i64 0), .val (.int .i64 0), .val (.bool false), .val (.string ByteArray.empty)]]) := by rw [← hτ]; simp [get_new]
  obtain ⟨sid, cv, fv, vv, hx⟩ := h.grows hg
  have hm : mid < τ.next := hx.lt mid (by rw [hx.tm]; omega)
  have hbk := b.k
  have z0 : T σ.next = 0 := h.zero (by omega)
  have z1 : T (σ.next + 1) = 0 := h.zero (by omega)
  have hl := frs_len hx.vals
  have hm1 : mid ≠ σ.next + 1 := by rintro e; rw [e] at hx; have := hx.tm; omega
  have hm0 : mid ≠ σ.next := by rintro e; rw [e] at hx; have := hx.tm; omega
  simp [hx.obj, g0, envC]
  refine stepK_of (hx.frames.append (by' := 48) (frC ⟨t, e, []⟩ nilSl) (by rw [hl]; omega)) ?_
  have gg : ∀ i, T i ≠ 4 → (gone fv τ).get i = τ.get i := fun i hi => hx.frames.gone_get hi
  simp [gone_next, get_new, get_set, Nat.ne_of_lt hm, gg mid (by rw [hx.tm]; omega), hx.obj, hl, kid_addr0 h0, Ne.symm hm0, Ne.symm hm1, show σ.next ≠ τ.next by omega, show σ.next + 1 ≠ τ.next by omega, gg σ.next (by omega), gg (σ.next + 1) (by omega), g0, g1]
  simp [envC]
  obtain ⟨p1, p2⟩ := hx.pushF ⟨t, e, []⟩ rfl (υ := ((gone fv τ).new (.cells 4 (frs k vv ++ [frC ⟨t, e, []⟩ nilSl]))).set mid (mobj sid fuel s.steps cv (.own τ.next (k.length + 1)))) rfl
  have l : Loc σ.next (tg T τ.next 4) _ ((((gone fv τ).new (.cells 4 (frs k vv ++ [frC ⟨t, e, []⟩ nilSl]))).set mid (mobj sid fuel s.steps cv (.own τ.next (k.length + 1)))).set (σ.next + 1) (.cells 9 [[.ref (kidAt t 0).av, namesV e.names, rhoV e.rhos, .val (.int .u8 0), .val (.int .i64 0), .val (.int .i64 0), .val (.int .i64 0), .val (.bool false), .val (.string ByteArray.empty)]])) := Loc.set (.refl _ _ _) (.inr ⟨by omega, by rw [tg_ne (by omega)]; exact z1⟩)
  exact hk _ _ ⟨_, _, _, _, p1.loc l⟩ ((Keep.of hg p2).loc l)
end Go.Abs.Mac
set_option linter.unusedVariables false
set_option linter.unusedSimpArgs false
set_option linter.deprecated false
namespace Go.Abs.Mac
open Go Go.Abs Go.Abs.Stk Go.Abs.At Go.Proofs.MacD
variable {σ τ : AHeap} {mid sid fuel : Nat} {cv fv : AV} {vv : List AV} {T : Nat → Nat} {s : Sa} {k : List Fr} {K kp : AV → AHeap → Prop}

abbrev zV4 : List AV := [.val (.int .u8 0), .val (.int .i64 0), .val (.int .i64 0), .val (.int .i64 0)]
abbrev zCo : List AV := [.val (.pointer none), .val (.string ByteArray.empty), .val (.pointer none), .val (.pointer none), .val (.slice none 0 0)]
theorem rs_len (rs : Option (List Int)) (σ : AHeap) : aLenK .slice (rsV rs) σ = some (int ((rs.getD []).length : Nat)) := by
  cases rs with
  | none => rfl
  | some l => simp [rsV, rhosV]
theorem rs_at {rs : Option (List Int)} {i : Nat} {r : Int} (h : (rs.getD [])[i]? = some r) (σ : AHeap) : aIndexAddr 1 (rsV rs) (int i) σ = some (.ref [int r]) := by
  cases rs with
  | none => simp at h
  | some l =>
    show aIndexAddr 1 (.sl false 1 (l.map fun r => [At.int r])) (.val (.int .i64 i)) σ = _
    rw [aIndexAddr_sl, if_pos (by omega), Int.toNat_natCast, List.getElem?_map, show l[i]? = some r from h]; rfl
@[simp] theorem rsV_cells (rs : Option (List Int)) : acells (rsV rs) = some [rsV rs] := by cases rs <;> rfl
theorem MX.codeAt' (h : MX σ mid sid cv fv vv T fuel s k) {i : Nat} {f : Co} (hf : s.codes[i]? = some f) :
    ∃ q els, T q = 3 ∧ σ.get q = some (.cells 5 els) ∧ els[i]? = some f.av ∧ ∀ υ : AHeap, υ.get q = σ.get q → aIndexAddr 5 cv (int i) υ = some (.ptr q i 0) := by
  have hi := (List.getElem?_eq_some_iff.1 hf).1
  obtain ⟨q, rest, h1, h2, h3⟩ := h.codesGet (by omega)
  have he : (s.codes.map Co.av ++ rest)[i]? = some f.av := by rw [List.getElem?_append_left (by simpa using hi)]; simp [hf]
  refine ⟨q, _, h3, h2, he, fun υ hυ => ?_⟩
  rw [h1, aIndexAddr_own, if_pos (by omega), Int.toNat_natCast, elAt_cells (hυ.trans h2), he]; simp
theorem inst_ev (h : MA σ mid T fuel s k) (b : Bnd fuel s k) (hi : IdxOk s) {t : AT} (htl : t.rhos.length ≤ 1000000) {e : En} (hr : After mid fuel T σ k vV K kp (inst s t e)) : Ev PR 85 [.ptr mid 0 0, .ref t.av, envV e] σ K kp := by
  apply F85_ev; unfold F85
  simp [Nat.add_assoc]
  generalize hτ : (σ.new (.cells 2 [envC e])).new (.cells 4 [zV4]) = τ
  have hg : Grows σ τ := by rw [← hτ]; exact (Grows.new _ _).trans (Grows.new _ _)
  have hn : τ.next = σ.next + 2 := by rw [← hτ]; rfl
  have g0 : τ.get σ.next = some (.cells 2 [envC e]) := by rw [← hτ]; simp [get_new]
  have g1 : τ.get (σ.next + 1) = some (.cells 4 [zV4]) := by rw [← hτ]; simp [get_new]
  have h1 := h.grows hg
  have ko : Keep T σ T τ := Keep.grows hg
  have z : ∀ i, σ.next ≤ i → T i = 0 := fun i hi => h.zero hi
  simp [g0, List.take_of_length_le (Nat.le_of_eq (envC_len e))]
  unfold inst at hr
  refine find_ev (fun hf => ?_) (fun n l hf => ?_)
  · rw [hf] at hr
    simp only at hr
    simp
    exact must_ev (fun h => by simp at h) (fun _ => hr _ T k h1 ko)
  · rw [hf] at hr
    simp only at hr
    simp [namesV]
    refine must_ev (fun h2 => ?_) (fun h2 => ?_)
    rotate_left
    · rw [if_neg (by simp [h2])] at hr
      exact hr _ T k h1 ko
    rw [if_pos h2] at hr
    obtain ⟨sid, cv, fv, vv, hx⟩ := id h1
    have hm : mid < τ.next := hx.lt mid (by rw [hx.tm]; omega)
    obtain ⟨J, hJ⟩ : ∃ J : AFrame → AHeap → Prop, ∀ fr υ, J fr υ ↔ ∃ (id : Nat) (f : Co) (c : Cl), fr = [(0, .ptr mid 0 0), (1, .ref t.av), (5, .ptr σ.next 0 0), (6, .ptr (σ.next + 1) 0 0), (8, .ptr id 0 0)] ∧ Grows τ υ ∧ τ.next ≤ id ∧ id < υ.next ∧ υ.get id = some (.cells 5 [f.av]) ∧ take s n.v 3 = .ok c s ∧ s.codes[c.code.toNat]? = some f := ⟨_, fun _ _ => Iff.rfl⟩
    refine seqW_by J ?_ ?_
    · simp [hx.obj]
      refine ⟨?_, ?_⟩
      · refine take_ev h1 (v := n.v) ?_
        cases ht : take s n.v 3 with
        | over s' o =>
          rw [ht] at hr
          intro τ1 h4
          have hs' : s' = s := by have := take_same (s := s) (v := n.v) (k := 3) (p := fun x => x = s) rfl; rw [ht] at this; exact this
          subst hs'
          exact hr τ1 T k (h1.grows h4) (ko.trans (Keep.grows h4))
        | ok c s' =>
          obtain ⟨rfl, _⟩ := take_ok ht
          intro τ1 h4
          have hx1 := hx.grows h4
          have hm1 := h4.next
          obtain ⟨f, hf', hcd⟩ := hi.code ht
          obtain ⟨q, els, a3, a2, a4, A⟩ := hx1.codeAt' hf'
          rw [← hcd] at A
          have hch : c.av[9]? = some (int c.code) := rfl
          have ql := hx1.lt q (by omega)
          have A1 := A τ1 rfl
          have A2 := A (τ1.new (.cells 5 [zCo])) (by rw [get_new, if_neg (by omega)])
          simp [hx1.obj, hch, A1, A2, a2, a4, get_new, show mid ≠ τ1.next by omega, show q ≠ τ1.next by omega, List.take_of_length_le (Nat.le_of_eq f.av_len)]
          exact (hJ _ _).2 ⟨τ1.next, f, c, rfl, (h4.trans (Grows.new _ _)).set (by omega) _, by omega, by simp, by simp, ht, hf'⟩
      · have hgn := Grows.new τ (.cells 5 [zCo])
        simp [get_new, show mid ≠ τ.next by omega, hx.obj]
        refine take_ev (h1.grows hgn) (v := n.v) ?_
        cases ht : take s n.v 3 with
        | over s' o =>
          rw [ht] at hr
          intro τ1 h4
          have hs' : s' = s := by have := take_same (s := s) (v := n.v) (k := 3) (p := fun x => x = s) rfl; rw [ht] at this; exact this
          subst hs'
          exact hr τ1 T k (h1.grows (hgn.trans h4)) (ko.trans (Keep.grows (hgn.trans h4)))
        | ok c s' =>
          obtain ⟨rfl, _⟩ := take_ok ht
          intro τ1 h4
          have hx1 := hx.grows (hgn.trans h4)
          have hm1 : τ.next + 1 ≤ τ1.next := h4.next
          obtain ⟨f, hf', hcd⟩ := hi.code ht
          obtain ⟨q, els, a3, a2, a4, A⟩ := hx1.codeAt' hf'
          rw [← hcd] at A
          have hch : c.av[9]? = some (int c.code) := rfl
          have A1 := A τ1 rfl
          have gz : τ1.get τ.next = some (.cells 5 [zCo]) := by rw [h4.get τ.next (Nat.lt_succ_self _)]; simp
          simp [hx1.obj, hch, A1, a2, a4, gz, List.take_of_length_le (Nat.le_of_eq f.av_len)]
          exact (hJ _ _).2 ⟨τ.next, f, c, rfl, (hgn.trans h4).set (Nat.le_refl _) _, Nat.le_refl _, by simp; omega, by simp, ht, hf'⟩
    · intro fr υ hj
      obtain ⟨id, f, c, rfl, q1, q2, q3, q4, q5, q6⟩ := (hJ fr υ).1 hj
      have hx1 := hx.grows q1
      rw [q5] at hr
      simp only [Re.bind, q6] at hr
      have w0 : υ.get σ.next = some (.cells 2 [envC e]) := by rw [q1.get σ.next (by omega)]; exact g0
      have w1 : υ.get (σ.next + 1) = some (.cells 4 [zV4]) := by rw [q1.get _ (by omega)]; exact g1
      have fa4 : f.av[4]? = some (rsV f.rs) := rfl
      simp [q4, fa4, rs_len, rhosV]
      refine must_ev (fun h3 => ?_) (fun h3 => ?_)
      rotate_left
      · rw [if_neg (by simp at h3; unfold Co.rsl; omega)] at hr
        exact hr _ T k ⟨_, _, _, _, hx1⟩ (ko.trans (Keep.grows q1))
      have h3 : f.rsl.length = t.rhos.length := by simp at h3; unfold Co.rsl; omega
      rw [if_pos h3] at hr
      have fa2 : (f.av.drop 2).take 2 = envC f.env := rfl
      simp [q4, fa2]
      have hgo : ∀ υ', Grows υ υ' → MA υ' mid T fuel s k ∧ Keep T σ T υ' := fun υ' hu => ⟨⟨_, _, _, _, hx1.grows hu⟩, (ko.trans (Keep.grows q1)).trans (Keep.grows hu)⟩
      have hun := q1.next
      obtain ⟨J2, hJ2⟩ : ∃ J2 : AFrame → AHeap → Prop, ∀ fr υ', J2 fr υ' ↔ ∃ own, fr = [(0, .ptr mid 0 0), (1, .ref t.av), (5, .ptr σ.next 0 0), (6, .ptr (σ.next + 1) 0 0), (8, .ptr id 0 0), (9, .ptr υ.next 0 0)] ∧ Grows υ υ' ∧ υ'.get υ.next = some (.cells 2 [envC own]) ∧ υ.next < υ'.next ∧ opens e f.env t.rhos f.rsl = some own := ⟨_, fun _ _ => Iff.rfl⟩
      refine seqW_by J2 ?_ ?_
      · refine loopW_by (fun p : Nat × En => [(0, .ptr mid 0 0), (1, .ref t.av), (5, .ptr σ.next 0 0), (6, .ptr (σ.next + 1) 0 0), (8, .ptr id 0 0), (9, .ptr υ.next 0 0), (58, .sl false 1 (t.rhos.map fun r => [At.int r])), (59, int t.rhos.length), (60, int p.1)])
          (fun p υ' => Grows υ υ' ∧ υ'.get υ.next = some (.cells 2 [envC p.2]) ∧ υ.next < υ'.next ∧ p.1 ≤ t.rhos.length ∧ opens e p.2 (t.rhos.drop p.1) (f.rsl.drop p.1) = opens e f.env t.rhos f.rsl)
          (fun fr _ => t.rhos.length - (intOf (look fr 60)).toNat) (0, f.env) (by simp) ⟨(Grows.new _ _).set (Nat.le_refl _) _, by simp, by simp, by simp, rfl⟩ ?_
        rintro ⟨i, own⟩ υ' ⟨hu, hu1, hu2, hil, ho⟩
        simp only at hu1 hil ho
        by_cases hlt : i < t.rhos.length
        · obtain ⟨r, hr'⟩ : ∃ r, t.rhos[i]? = some r := ⟨_, List.getElem?_eq_getElem hlt⟩
          obtain ⟨q, hq'⟩ : ∃ q, f.rsl[i]? = some q := ⟨_, List.getElem?_eq_getElem (by omega)⟩
          have hd1 : t.rhos.drop i = r :: t.rhos.drop (i + 1) := by rw [List.drop_eq_getElem_cons hlt]; congr 1; exact Option.some.inj ((List.getElem?_eq_getElem hlt).symm.trans hr')
          have hd2 : f.rsl.drop i = q :: f.rsl.drop (i + 1) := by
            have hl2 : i < f.rsl.length := by omega
            rw [List.drop_eq_getElem_cons hl2]; congr 1; exact Option.some.inj ((List.getElem?_eq_getElem hl2).symm.trans hq')
          rw [hd1, hd2] at ho
          simp only [opens] at ho
          have u0 : υ'.get σ.next = some (.cells 2 [envC e]) := by rw [hu.get _ (by omega)]; exact w0
          have u8' : υ'.get id = some (.cells 5 [f.av]) := by rw [hu.get _ (by omega)]; exact q4
          have hre : t.rhos[i]'hlt = r := Option.some.inj ((List.getElem?_eq_getElem hlt).symm.trans hr')
          simp [hlt, aIndexAddr_sl, hre, u0, List.take_of_length_le (Nat.le_of_eq (envC_len e))]
          refine region_ev ?_
          simp
          refine must_ev (fun h4 => ?_) (fun h4 => ?_)
          rotate_left
          · rw [if_neg (by simp [h4])] at ho
            rw [← ho] at hr
            exact hr _ T k (hgo _ hu).1 (hgo _ hu).2
          rw [if_pos h4] at ho
          simp [hu1, u8', fa4, rs_at (rs := f.rs) (i := i) hq', List.take_of_length_le (Nat.le_of_eq (envC_len own))]
          refine open_ev ?_
          simp [hu1, List.drop_of_length_le (Nat.le_of_eq (envC_len own))]
          rw [wrap64 (by omega)]
          exact ⟨⟨i + 1, by simp, hu.set (Nat.le_refl _) _, own.opn q (e.region r).1, rfl, hu2, by omega, ho⟩, by omega⟩
        · have : i = t.rhos.length := by omega
          subst this
          simp at ho
          simp
          exact (hJ2 _ _).2 ⟨own, rfl, hu, hu1, hu2, by rw [← ho]; rfl⟩
      · intro fr υ' hj2
        obtain ⟨own, rfl, p1, p2, p3, p4⟩ := (hJ2 fr υ').1 hj2
        rw [p4] at hr
        simp only [code] at hr
        have u0 : υ'.get σ.next = some (.cells 2 [envC e]) := by rw [p1.get _ (by omega)]; exact w0
        have u1 : υ'.get (σ.next + 1) = some (.cells 4 [zV4]) := by rw [p1.get _ (by omega)]; exact w1
        have u8' : υ'.get id = some (.cells 5 [f.av]) := by rw [p1.get _ (by omega)]; exact q4
        have fa0 : f.av.head? = some (.ref f.body.av) := rfl
        have fa1 : f.av[1]? = some (str f.arg) := rfl
        simp [u0, u8', fa0, fa1, p2]
        refine coded_ev (hgo _ p1).1 b (c := ⟨f.body, f.arg, own, none⟩) fun τ2 T2 hm2 hk2 => ?_
        have y0 := hk2.get σ.next (by have := p1.next; omega) (z _ (by omega))
        have y1 := hk2.get (σ.next + 1) (by have := p1.next; omega) (z _ (by omega))
        simp [y0.2, y1.2, u0, u1, List.take_of_length_le (Nat.le_of_eq (envC_len e))]
        refine make_ev hm2 b.Ok ?_
        have kk := (hgo _ p1).2.trans hk2
        cases hmk : make (coded s ⟨f.body, f.arg, own, none⟩).2 e t.rho (coded s ⟨f.body, f.arg, own, none⟩).1 with
        | over s' o =>
          rw [hmk] at hr
          intro τ3 T3 k' hm3 hk3
          exact hr τ3 T3 k' hm3 (kk.trans hk3)
        | ok v s' =>
          rw [hmk] at hr
          intro τ3 T3 hm3 hk3
          have x1 := hk3.get (σ.next + 1) (by have := p1.next; have := hk2.next; omega) y1.1
          simp [x1.2, y1.2, u1, List.take_of_length_le (Nat.le_of_eq v.av_len)]
          have l : Loc σ.next T3 τ3 (τ3.set (σ.next + 1) (.cells 4 [v.av])) := Loc.set (.refl _ _ _) (.inr ⟨by omega, x1.1⟩)
          exact hr _ T3 (hm3.loc l) ((kk.trans hk3).loc l)
end Go.Abs.Mac
set_option linter.unusedVariables false
set_option linter.unusedSimpArgs false
set_option linter.deprecated false
namespace Go.Abs.Mac
open Go Go.Abs Go.Abs.Stk Go.Abs.At Go.Proofs.MacD
variable {σ τ : AHeap} {mid sid fuel : Nat} {cv fv : AV} {vv : List AV} {T : Nat → Nat} {s : Sa} {k : List Fr} {K kp : AV → AHeap → Prop}

abbrev zNx : List AV := [.val (.pointer none), .val (.pointer none), .val (.pointer none), .val (.int .u8 0), .val (.int .i64 0), .val (.int .i64 0), .val (.int .i64 0), .val (.bool false), .val (.string ByteArray.empty)]
/-- A row of one's own: its first places. -/
theorem vals_at {q n : Nat} {els : List (List AV)} {υ : AHeap} (h : υ.get q = some (.cells 4 els)) {i : Nat} {v : V} (he : els[i]? = some v.av) (hn : i < n) : aIndexAddr 4 (.own q n) (.val (.int .i64 i)) υ = some (.ptr q i 0) := by
  rw [aIndexAddr_own, if_pos (by omega), Int.toNat_natCast, elAt_cells h, he]; simp
@[simp] theorem Nx.av_node (t : AT) (e : En) : Nx.av (.node t e) = .agg [.ref t.av, namesV e.names, rhoV e.rhos, u8 0, int 0, int 0, int 0, bool false, str ByteArray.empty] := rfl
@[simp] theorem Nx.av_val (v : V) : Nx.av (.val v) = .agg [nilP, nilP, nilP, u8 v.kind, int v.n, int v.r, int v.a, bool false, str ByteArray.empty] := rfl
@[simp] theorem Nx.av_exn (n : Int) (x : ByteArray) : Nx.av (.exn n x) = .agg [nilP, nilP, nilP, u8 1, int n, int 0, int 0, bool true, str x] := rfl
theorem rule_ev {f : Fr} {v : AV} (h : MA σ mid T fuel s k) (b : Bnd fuel s k) (hi : IdxOk s) (hkd : 3 ≤ f.t.h.kind ∧ f.t.h.kind ≤ 10 ∨ f.t.h.kind = 15) (hl : f.vals.length = nk f.t.h.kind) (hv : RowA σ T 0 4 v (f.vals.map V.av)) (hvq : ∀ q n, v = .own q n → q < σ.next)
    (hr : After mid fuel T σ k Nx.av K kp (rule s f.t f.e f.vals)) : Ev PR 94 [.ptr mid 0 0, .agg (frC f v)] σ K kp := by
  obtain ⟨t, e, vals⟩ := f
  simp only at hkd hl hv hr
  have h0 : 0 < vals.length := by rw [hl]; exact nk_pos (by omega)
  obtain ⟨q, rest, hvo, hq0, hq1⟩ : ∃ q rest, v = .own q vals.length ∧ σ.get q = some (.cells 4 (vals.map V.av ++ rest)) ∧ T q = 0 := by
    rcases hv with ⟨_, h2⟩ | ⟨q, rest, h1, h2, h3⟩
    · have := congrArg List.length h2; simp at this; rw [this] at h0; simp at h0
    · exact ⟨q, rest, by rw [h1]; simp, h2, h3⟩
  have hql := hvq q _ hvo
  subst hvo
  obtain ⟨a, ha⟩ : ∃ a, vals[0]? = some a := ⟨_, List.getElem?_eq_getElem h0⟩
  have a0 : at0 vals 0 = a := by unfold at0; rw [ha]; rfl
  apply F94_ev; unfold F94
  simp [Nat.add_assoc, frC]
  generalize hτ : (σ.new (.cells 4 [[.ref t.av, namesV e.names, rhoV e.rhos, .own q vals.length]])).new (.cells 9 [zNx]) = τ
  have hg : Grows σ τ := by rw [← hτ]; exact (Grows.new _ _).trans (Grows.new _ _)
  have hn : τ.next = σ.next + 2 := by rw [← hτ]; rfl
  have g0 : τ.get σ.next = some (.cells 4 [[.ref t.av, namesV e.names, rhoV e.rhos, .own q vals.length]]) := by rw [← hτ]; simp [get_new]
  have g1 : τ.get (σ.next + 1) = some (.cells 9 [zNx]) := by rw [← hτ]; simp [get_new]
  have h1 := h.grows hg
  have ko : Keep T σ T τ := Keep.grows hg
  have z : ∀ i, σ.next ≤ i → T i = 0 := fun i hi => h.zero hi
  simp [g0]
  unfold rule at hr
  rw [a0] at hr
  have hqt : τ.get q = some (.cells 4 (vals.map V.av ++ rest)) := by rw [hg.get q hql]; exact hq0
  have e0 : (vals.map V.av ++ rest)[0]? = some a.av := by rw [List.getElem?_append_left (by simpa using h0)]; simp [ha]
  have A0 : ∀ υ : AHeap, υ.get q = τ.get q → aIndexAddr 4 (.own q vals.length) (.val (.int .i64 0)) υ = some (.ptr q 0 0) := fun υ hυ => vals_at (i := 0) (hυ.trans hqt) e0 h0
  have A0t := A0 τ rfl
  have hk4 : ∀ v : V, List.take 4 v.av = v.av := fun v => List.take_of_length_le (Nat.le_of_eq v.av_len)
  have kq : ∀ T3 τ3, Keep T τ T3 τ3 → T3 q = 0 ∧ τ3.get q = τ.get q := fun T3 τ3 kk => kk.get q (by omega) hq1
  have kr : ∀ T3 τ3, Keep T τ T3 τ3 → T3 (σ.next + 1) = 0 ∧ τ3.get (σ.next + 1) = some (.cells 9 [zNx]) := fun T3 τ3 kk => by
    have := kk.get (σ.next + 1) (by omega) (z _ (by omega)); rw [g1] at this; exact this
  have fin : ∀ (x : Nx) (s' : Sa) (τ3 : AHeap) (T3 : Nat → Nat) (cs : List AV), After mid fuel T σ k Nx.av K kp (.ok x s') → MA τ3 mid T3 fuel s' k → Keep T τ T3 τ3 → K x.av (τ3.set (σ.next + 1) (.cells 9 [cs])) := by
    intro x s' τ3 T3 cs hr hm kk
    have l : Loc σ.next T3 τ3 (τ3.set (σ.next + 1) (.cells 9 [cs])) := Loc.set (.refl _ _ _) (.inr ⟨by omega, (kr T3 τ3 kk).1⟩)
    exact hr _ T3 (hm.loc l) ((ko.trans kk).loc l)
  have tk : ∀ {kd : Int} {Q : AV → AHeap → Prop} {τ2 : AHeap} {g : Cl → Sa → Re Nx}, After mid fuel T σ k Nx.av K kp ((take s a kd).bind g) → (∀ c, take s a kd = .ok c s → After mid fuel T σ k Nx.av K kp (g c s) → ∀ τ1, Grows τ τ1 → Q (.agg c.av) τ1) → Ev PR 123 [.ptr mid 0 0, .agg a.av, u8 kd] τ Q kp := by
    intro kd Q τ2 g hr2 hq
    refine take_ev h1 (v := a) ?_
    cases ht : take s a kd with
    | over s' o =>
      rw [ht] at hr2
      have hs' : s' = s := by have := take_same (s := s) (v := a) (k := kd) (p := fun x => x = s) rfl; rw [ht] at this; exact this
      rw [hs'] at hr2
      intro τ1 h4
      exact hr2 τ1 T k (h1.grows h4) (ko.trans (Keep.grows h4))
    | ok c s' =>
      have hs' := (take_ok ht).1
      rw [ht] at hr2
      rw [hs'] at hr2 ht
      exact fun τ1 h4 => hq c ht hr2 τ1 h4
  by_cases k3 : t.h.kind = 3
  · obtain ⟨b', hb'⟩ : ∃ b, vals[1]? = some b := ⟨_, List.getElem?_eq_getElem (by rw [hl, k3]; simp [nk])⟩
    have b0 : at0 vals 1 = b' := by unfold at0; rw [hb']; rfl
    have h2 := (List.getElem?_eq_some_iff.1 hb').1
    have e1 : (vals.map V.av ++ rest)[1]? = some b'.av := by rw [List.getElem?_append_left (by simpa using h2)]; simp [hb']
    have A1t : aIndexAddr 4 (.own q vals.length) (.val (.int .i64 1)) τ = some (.ptr q 1 0) := vals_at (i := 1) hqt e1 h2
    rw [if_pos k3, b0] at hr
    simp [k3, A0t, A1t, hqt, e0, e1, hk4]
    refine make_ev h1 b.Ok (c := ⟨1, a, b', 0⟩) ?_
    cases hm : make s e t.rho ⟨1, a, b', 0⟩ with
    | over s' o =>
      rw [hm] at hr
      intro τ3 T3 k' hm3 hk3
      exact hr τ3 T3 k' hm3 (ko.trans hk3)
    | ok w s' =>
      rw [hm] at hr
      intro τ3 T3 hm3 hk3
      refine back_ev ?_
      simp [(kr _ _ hk3).2]
      exact fin (.val w) s' τ3 T3 _ hr hm3 hk3
  rw [if_neg k3] at hr
  have vf : ∀ w : V, AV.agg [u8 w.kind, int w.n, int w.r, int w.a] = vV w := fun _ => rfl
  by_cases k4 : t.h.kind = 4
  · rw [if_pos k4] at hr
    simp [k4, A0t, hqt, e0, hk4]
    refine tk (τ2 := τ) hr fun c ht hr2 τ1 h4 => ?_
    have : (c.av.drop 1).take 4 = c.a.av := rfl
    simp [this]
    refine back_ev ?_
    have kk := Keep.grows (T := T) h4
    simp [(kr _ _ kk).2]
    exact fin (.val c.a) s τ1 T _ hr2 (h1.grows h4) kk
  rw [if_neg k4] at hr
  by_cases k5 : t.h.kind = 5
  · rw [if_pos k5] at hr
    simp [k5, A0t, hqt, e0, hk4]
    refine tk (τ2 := τ) hr fun c ht hr2 τ1 h4 => ?_
    have : (c.av.drop 5).take 4 = c.b.av := rfl
    simp [this]
    refine back_ev ?_
    have kk := Keep.grows (T := T) h4
    simp [(kr _ _ kk).2]
    exact fin (.val c.b) s τ1 T _ hr2 (h1.grows h4) kk
  rw [if_neg k5] at hr
  by_cases k6 : t.h.kind = 6
  · rw [if_pos k6] at hr
    simp [k6, A0t, hqt, e0, hk4]
    refine make_ev h1 b.Ok (c := ⟨2, a, V.zero, 0⟩) ?_
    cases hm : make s e t.rho ⟨2, a, V.zero, 0⟩ with
    | over s' o =>
      rw [hm] at hr
      intro τ3 T3 k' hm3 hk3
      exact hr τ3 T3 k' hm3 (ko.trans hk3)
    | ok w s' =>
      rw [hm] at hr
      intro τ3 T3 hm3 hk3
      refine back_ev ?_
      simp [(kr _ _ hk3).2]
      exact fin (.val w) s' τ3 T3 _ hr hm3 hk3
  rw [if_neg k6] at hr
  by_cases k7 : t.h.kind = 7
  · rw [if_pos k7] at hr
    simp [k7, A0t, hqt, e0, hk4]
    refine tk (τ2 := τ) hr fun c ht hr2 τ1 h4 => ?_
    have : (c.av.drop 1).take 4 = c.a.av := rfl
    simp [this]
    refine back_ev ?_
    have kk := Keep.grows (T := T) h4
    simp [(kr _ _ kk).2]
    exact fin (.val c.a) s τ1 T _ hr2 (h1.grows h4) kk
  rw [if_neg k7] at hr
  by_cases k8 : t.h.kind = 8
  · obtain ⟨b', hb'⟩ : ∃ b, vals[1]? = some b := ⟨_, List.getElem?_eq_getElem (by rw [hl, k8]; simp [nk])⟩
    have b0 : at0 vals 1 = b' := by unfold at0; rw [hb']; rfl
    have h2 := (List.getElem?_eq_some_iff.1 hb').1
    have e1 : (vals.map V.av ++ rest)[1]? = some b'.av := by rw [List.getElem?_append_left (by simpa using h2)]; simp [hb']
    rw [if_pos k8, b0] at hr
    simp [k8, A0t, hqt, e0, hk4]
    refine tk (τ2 := τ) hr fun c ht hr2 τ1 h4 => ?_
    obtain ⟨sid, cv, fv, vv, hx⟩ := h1.grows h4
    have hqu : τ1.get q = some (.cells 4 (vals.map V.av ++ rest)) := by rw [h4.get q (by omega)]; exact hqt
    have A1u : aIndexAddr 4 (.own q vals.length) (.val (.int .i64 1)) τ1 = some (.ptr q 1 0) := vals_at (i := 1) hqu e1 h2
    simp [hx.obj, A0 τ1 (h4.get q (by omega)), A1u, hqu, e0, e1, hk4]
    refine set_m hx (v := a) (c := ⟨2, b', V.zero, 0⟩) (take_ok ht).2.2.2 fun x τ3 T3 hx3 hk3 => ?_
    refine num_ev (back_ev ?_)
    have kk := (Keep.grows (T := T) h4).trans hk3
    simp [(kr _ _ kk).2]
    exact fin (.val (num 0)) _ τ3 T3 _ hr2 ⟨_, _, _, _, hx3⟩ kk
  rw [if_neg k8] at hr
  by_cases k9 : t.h.kind = 9
  · obtain ⟨b', hb'⟩ : ∃ b, vals[1]? = some b := ⟨_, List.getElem?_eq_getElem (by rw [hl, k9]; simp [nk])⟩
    have b0 : at0 vals 1 = b' := by unfold at0; rw [hb']; rfl
    have h2 := (List.getElem?_eq_some_iff.1 hb').1
    have e1 : (vals.map V.av ++ rest)[1]? = some b'.av := by rw [List.getElem?_append_left (by simpa using h2)]; simp [hb']
    rw [if_pos k9, b0] at hr
    have A1 : ∀ υ : AHeap, υ.get q = τ.get q → aIndexAddr 4 (.own q vals.length) (.val (.int .i64 1)) υ = some (.ptr q 1 0) := fun υ hυ => vals_at (i := 1) (hυ.trans hqt) e1 h2
    simp [k9, A0t, A1 τ rfl, hqt, e0, e1, hk4]
    refine number_ev (fun h3 τ1 h4 => ?_) (fun h3 τ1 h4 => ?_)
    rotate_left
    · have : number s a = .over s 6 := by simp [number, h3]
      rw [this] at hr
      exact hr τ1 T k (h1.grows h4) (ko.trans (Keep.grows h4))
    have e3 : number s a = .ok a.n s := by simp [number, h3]
    rw [e3] at hr
    simp only [Re.bind] at hr
    simp [A1 τ1 (h4.get q (by omega)), h4.get q (by omega), hqt, e1, hk4]
    refine number_ev (fun h5 τ2 h6 => ?_) (fun h5 τ2 h6 => ?_)
    rotate_left
    · have : number s b' = .over s 6 := by simp [number, h5]
      rw [this] at hr
      exact hr τ2 T k (h1.grows (h4.trans h6)) (ko.trans (Keep.grows (h4.trans h6)))
    have e4 : number s b' = .ok b'.n s := by simp [number, h5]
    rw [e4] at hr
    refine op_ev (num_ev (back_ev ?_))
    have kk := Keep.grows (T := T) (h4.trans h6)
    simp [(kr _ _ kk).2]
    exact fin (.val (num _)) s τ2 T _ hr (h1.grows (h4.trans h6)) kk
  rw [if_neg k9] at hr
  by_cases k15 : t.h.kind = 15
  · rw [if_pos k15] at hr
    simp [k15, A0t, hqt, e0, hk4]
    refine number_ev (fun h3 τ1 h4 => ?_) (fun h3 τ1 h4 => ?_)
    rotate_left
    · have : number s a = .over s 6 := by simp [number, h3]
      rw [this] at hr
      exact hr τ1 T k (h1.grows h4) (ko.trans (Keep.grows h4))
    have e3 : number s a = .ok a.n s := by simp [number, h3]
    rw [e3] at hr
    refine num_ev ?_
    have kk := Keep.grows (T := T) h4
    simp [num, V.av, (kr _ _ kk).2]
    exact fin (.exn _ _) s τ1 T _ hr (h1.grows h4) kk
  rw [if_neg k15] at hr
  have k10 : t.h.kind = 10 := by omega
  obtain ⟨b', hb'⟩ : ∃ b, vals[1]? = some b := ⟨_, List.getElem?_eq_getElem (by rw [hl, k10]; simp [nk])⟩
  have b0 : at0 vals 1 = b' := by unfold at0; rw [hb']; rfl
  have h2 := (List.getElem?_eq_some_iff.1 hb').1
  have e1 : (vals.map V.av ++ rest)[1]? = some b'.av := by rw [List.getElem?_append_left (by simpa using h2)]; simp [hb']
  have A1 : ∀ υ : AHeap, υ.get q = τ.get q → aIndexAddr 4 (.own q vals.length) (.val (.int .i64 1)) υ = some (.ptr q 1 0) := fun υ hυ => vals_at (i := 1) (hυ.trans hqt) e1 h2
  rw [b0] at hr
  simp [k10]
  obtain ⟨sid, cv, fv, vv, hx⟩ := id h1
  have hm : mid < τ.next := hx.lt mid (by rw [hx.tm]; omega)
  obtain ⟨J, hJ⟩ : ∃ J : AFrame → AHeap → Prop, ∀ fr υ, J fr υ ↔ ∃ (id : Nat) (f : Co) (c : Cl), fr = [(4, .ptr (σ.next + 1) 0 0), (6, .own q vals.length), (7, .ptr id 0 0)] ∧ Grows τ υ ∧ τ.next ≤ id ∧ id < υ.next ∧ υ.get id = some (.cells 5 [f.av]) ∧ take s a 3 = .ok c s ∧ s.codes[c.code.toNat]? = some f := ⟨_, fun _ _ => Iff.rfl⟩
  refine seqW_by J ?_ ?_
  · simp [hx.obj, A0t, hqt, e0, hk4]
    refine ⟨?_, ?_⟩
    · refine tk (τ2 := τ) hr fun c ht _ τ1 h4 => ?_
      have hx1 := hx.grows h4
      have hm1 := h4.next
      obtain ⟨f, hf', hcd⟩ := hi.code ht
      obtain ⟨q', els, a3, a2, a4, A⟩ := hx1.codeAt' hf'
      rw [← hcd] at A
      have hch : c.av[9]? = some (int c.code) := rfl
      have ql := hx1.lt q' (by omega)
      have B1 := A τ1 rfl
      have B2 := A (τ1.new (.cells 5 [zCo])) (by rw [get_new, if_neg (by omega)])
      have C1 : (τ1.new (.cells 5 [zCo])).get q = τ.get q := by rw [get_new, if_neg (by omega)]; exact h4.get q (by omega)
      have C2 := A0 _ C1
      have C3 : τ1.get q = some (.cells 4 (vals.map V.av ++ rest)) := by rw [h4.get q (by omega)]; exact hqt
      simp [hx1.obj, hch, B1, B2, C2, C3, a2, a4, e0, hk4, get_new, show mid ≠ τ1.next by omega, show q' ≠ τ1.next by omega, show q ≠ τ1.next by omega, List.take_of_length_le (Nat.le_of_eq f.av_len)]
      exact (hJ _ _).2 ⟨τ1.next, f, c, rfl, (h4.trans (Grows.new _ _)).set (by omega) _, by omega, by simp, by simp, ht, hf'⟩
    · have hgn := Grows.new τ (.cells 5 [zCo])
      have C1 : (τ.new (.cells 5 [zCo])).get q = τ.get q := by rw [get_new, if_neg (by omega)]
      simp [get_new, show mid ≠ τ.next by omega, hx.obj, A0 _ C1, hqt, show q ≠ τ.next by omega, e0, hk4]
      refine take_ev (h1.grows hgn) (v := a) ?_
      cases ht : take s a 3 with
      | over s' o =>
        rw [ht] at hr
        intro τ1 h4
        have hs' : s' = s := by have := take_same (s := s) (v := a) (k := 3) (p := fun x => x = s) rfl; rw [ht] at this; exact this
        rw [hs'] at hr
        exact hr τ1 T k (h1.grows (hgn.trans h4)) (ko.trans (Keep.grows (hgn.trans h4)))
      | ok c s' =>
        have hs' := (take_ok ht).1
        rw [hs'] at ht
        intro τ1 h4
        have hx1 := hx.grows (hgn.trans h4)
        have hm1 : τ.next + 1 ≤ τ1.next := h4.next
        obtain ⟨f, hf', hcd⟩ := hi.code ht
        obtain ⟨q', els, a3, a2, a4, A⟩ := hx1.codeAt' hf'
        rw [← hcd] at A
        have hch : c.av[9]? = some (int c.code) := rfl
        have B1 := A τ1 rfl
        have gz : τ1.get τ.next = some (.cells 5 [zCo]) := by rw [h4.get τ.next (Nat.lt_succ_self _)]; simp
        simp [hx1.obj, hch, B1, a2, a4, gz, List.take_of_length_le (Nat.le_of_eq f.av_len)]
        exact (hJ _ _).2 ⟨τ.next, f, c, rfl, (hgn.trans h4).set (Nat.le_refl _) _, Nat.le_refl _, by simp; omega, by simp, ht, hf'⟩
  · intro fr υ hj
    obtain ⟨id, f, c, rfl, q1, q2, q3, q4, q5, q6⟩ := (hJ fr υ).1 hj
    rw [q5] at hr
    simp only [Re.bind, q6] at hr
    have hun := q1.next
    have fa0 : f.av.head? = some (.ref f.body.av) := rfl
    have fa1 : f.av[1]? = some (str f.arg) := rfl
    have fa2 : (f.av.drop 2).take 2 = envC f.env := rfl
    have C3 : υ.get q = some (.cells 4 (vals.map V.av ++ rest)) := by rw [q1.get q (by omega)]; exact hqt
    simp [q4, fa0, fa1, fa2, A1 υ (q1.get q (by omega)), C3, e1, hk4]
    refine with_ev ?_
    have kk := Keep.grows (T := T) q1
    simp [q4, fa0, (kr _ _ kk).2, envC]
    exact fin (.node f.body (f.env.with f.arg b' false)) s υ T _ hr (h1.grows q1) kk
end Go.Abs.Mac
