import Derived.Test.YtjilebpcaemopaaGreatDoorMacR
set_option linter.unusedVariables false
set_option linter.unusedSimpArgs false
set_option linter.deprecated false
namespace Go.Abs.Mac
open Go Go.Abs Go.Abs.Stk Go.Abs.At Go.Proofs.MacD
variable {σ : AHeap} {mid sid fuel : Nat} {cv fv : AV} {vv : List AV} {T : Nat → Nat} {s : Sa} {k : List Fr} {K kp : AV → AHeap → Prop}

abbrev zC : List AV := [.val (.int .u8 0), .val (.int .u8 0), .val (.int .i64 0), .val (.int .i64 0), .val (.int .i64 0), .val (.int .u8 0), .val (.int .i64 0), .val (.int .i64 0), .val (.int .i64 0), .val (.int .i64 0)]
theorem take_ev (h : MA σ mid T fuel s k) {v : V} {kd : Int}
    (hr : match take s v kd with
      | .ok c _ => ∀ τ, Grows σ τ → K (.agg c.av) τ
      | .over _ o => ∀ τ, Grows σ τ → kp (.iface 102 (.agg [u8 o])) τ) : Ev PR 123 [.ptr mid 0 0, vV v, u8 kd] σ K kp := by
  apply F123_ev; unfold F123
  simp [get_new, Nat.add_assoc]
  generalize hτ : (σ.new (.cells 4 [v.av])).new (.cells 10 [zC]) = τ
  have hg : Grows σ τ := by rw [← hτ]; exact (Grows.new _ _).trans (Grows.new _ _)
  have hn : τ.next = σ.next + 2 := by rw [← hτ]; rfl
  have g0 : τ.get σ.next = some (.cells 4 [v.av]) := by rw [← hτ]; simp [get_new]
  have g1 : τ.get (σ.next + 1) = some (.cells 10 [zC]) := by rw [← hτ]; simp [get_new]
  obtain ⟨sid, cv, fv, vv, hx⟩ := h.grows hg
  have hm : mid < τ.next := hx.lt mid (by rw [hx.tm]; omega)
  have hvh : v.av.head? = some (u8 v.kind) := rfl
  simp [hvh]
  unfold Mac.take at hr
  refine must_ev (fun h1 => ?_) (fun h1 => ?_)
  · simp at h1
    rw [if_pos h1] at hr
    obtain ⟨J, hJ⟩ : ∃ J : AFrame → AHeap → Prop, ∀ fr υ, J fr υ ↔ ∃ (id : Nat) (c : Cl) (er : Int), fr = [(2, u8 kd), (6, .ptr (σ.next + 1) 0 0), (7, .ptr id 0 0), (8, int er)] ∧ Grows σ υ ∧ υ.get id = some (.cells 10 [c.av]) ∧ υ.get (σ.next + 1) = some (.cells 10 [zC]) ∧ s.store.find v.kind v.n v.r v.a = er ∧ (er = 0 → cellAt s.store v = some c) := ⟨_, fun _ _ => Iff.rfl⟩
    refine seqW_by J ?_ ?_
    · simp [hx.obj, g0, List.take_of_length_le (Nat.le_of_eq v.av_len)]
      refine ⟨?_, ?_⟩
      · have go : ∀ (c : Cl) (er : Int), s.store.find v.kind v.n v.r v.a = er → (er = 0 → cellAt s.store v = some c) → ∀ τ1, Grows τ τ1 → J [(2, u8 kd), (6, .ptr (σ.next + 1) 0 0), (7, .ptr τ1.next 0 0), (8, int er)] ((τ1.new (.cells 10 [zC])).set τ1.next (.cells 10 [c.av])) := by
          intro c er h2 h3 τ1 h4
          have := h4.next
          exact (hJ _ _).2 ⟨τ1.next, c, er, rfl, ((hg.trans h4).trans (Grows.new _ _)).set (by have := hg.next; omega) _, by simp [get_set], by simp [get_set, get_new, show σ.next + 1 ≠ τ1.next by omega, h4.get (σ.next + 1) (by omega), g1], h2, h3⟩
        refine get_m hx ?_
        split
        · rename_i c hc
          intro τ1 h4
          have hx1 := hx.grows h4
          have hm1 := h4.next
          by_cases hf : s.store.find v.kind v.n v.r v.a = 0
          · rw [if_pos hf] at hc
            simp [hx1.obj, get_new, get_set, show mid ≠ τ1.next by omega, show σ.next ≠ τ1.next by omega, h4.get σ.next (by omega), g0, List.take_of_length_le (Nat.le_of_eq v.av_len)]
            exact go c 0 hf (fun _ => hc) τ1 h4
          · rw [if_neg hf] at hc; cases hc
        · intro hf τ1 h4
          have hx1 := hx.grows h4
          have hm1 := h4.next
          simp [hx1.obj, get_new, get_set, show mid ≠ τ1.next by omega, show σ.next ≠ τ1.next by omega, h4.get σ.next (by omega), g0, List.take_of_length_le (Nat.le_of_eq v.av_len)]
          exact go ⟨0, V.zero, V.zero, 0⟩ _ rfl (fun e => absurd e hf) τ1 h4
      · simp [get_new, Nat.ne_of_lt hm, hx.obj, show σ.next ≠ τ.next by omega, g0, List.take_of_length_le (Nat.le_of_eq v.av_len)]
        have hgn : Grows τ (τ.new (.cells 10 [zC])) := Grows.new _ _
        have go : ∀ (c : Cl) (er : Int), s.store.find v.kind v.n v.r v.a = er → (er = 0 → cellAt s.store v = some c) → ∀ τ1, Grows (τ.new (.cells 10 [zC])) τ1 → J [(2, u8 kd), (6, .ptr (σ.next + 1) 0 0), (7, .ptr τ.next 0 0), (8, int er)] (τ1.set τ.next (.cells 10 [c.av])) := by
          intro c er h2 h3 τ1 h4
          have h5 := hgn.trans h4
          exact (hJ _ _).2 ⟨τ.next, c, er, rfl, (hg.trans h5).set (by omega) _, by simp [get_set], by simp [get_set, show σ.next + 1 ≠ τ.next by omega, h5.get (σ.next + 1) (by omega), g1], h2, h3⟩
        have gn : ∀ τ1, Grows (τ.new (.cells 10 [zC])) τ1 → τ1.get τ.next = some (.cells 10 [zC]) := fun τ1 h4 => by rw [h4.get τ.next (Nat.lt_succ_self _)]; simp
        refine get_m (hx.grows hgn) ?_
        split
        · rename_i c hc
          intro τ1 h4
          have hx1 := (hx.grows hgn).grows h4
          by_cases hf : s.store.find v.kind v.n v.r v.a = 0
          · rw [if_pos hf] at hc
            simp [hx1.obj, gn τ1 h4]
            exact go c 0 hf (fun _ => hc) τ1 h4
          · rw [if_neg hf] at hc; cases hc
        · intro hf τ1 h4
          have hx1 := (hx.grows hgn).grows h4
          simp [hx1.obj, gn τ1 h4]
          exact go ⟨0, V.zero, V.zero, 0⟩ _ rfl (fun e => absurd e hf) τ1 h4
    · intro fr υ hj
      obtain ⟨id, c, er, rfl, q1, q2, q3, q4, q5⟩ := (hJ fr υ).1 hj
      rw [q4] at hr
      simp
      refine must_ev (fun h2 => ?_) (fun h2 => ?_)
      · simp at h2
        rw [if_neg h2] at hr
        by_cases h0 : er = 0
        · subst h0
          rw [if_pos rfl, q5 rfl] at hr
          simp only at hr
          have hch : c.av.head? = some (u8 c.kind) := rfl
          simp [q2, hch]
          refine must_ev (fun h3 => ?_) (fun h3 => ?_)
          · simp at h3
            rw [if_pos h3] at hr
            simp [q2, q3, List.take_of_length_le (Nat.le_of_eq c.av_len)]
            exact hr _ (q1.set (by omega) _)
          · simp at h3
            rw [if_neg h3] at hr
            exact hr _ q1
        · rw [if_neg h0] at hr
          simp [h0]
          exact must_ev (fun h3 => by simp at h3) (fun h3 => hr _ q1)
      · simp at h2
        rw [if_pos h2] at hr
        exact hr _ q1
  · simp at h1
    rw [if_neg h1] at hr
    exact hr _ hg
end Go.Abs.Mac
set_option linter.unusedVariables false
set_option linter.unusedSimpArgs false
set_option linter.deprecated false
namespace Go.Abs.Mac
open Go Go.Abs Go.Abs.Stk Go.Abs.At Go.Proofs.MacD
variable {σ τ : AHeap} {mid sid fuel : Nat} {cv fv : AV} {vv : List AV} {T : Nat → Nat} {s : Sa} {k : List Fr} {K kp : AV → AHeap → Prop}

/-- One tag more. -/
def tg (T : Nat → Nat) (n c : Nat) : Nat → Nat := fun i => if i = n then c else T i
theorem tg_same (T : Nat → Nat) (n c : Nat) : tg T n c n = c := by simp [tg]
theorem tg_ne {T : Nat → Nat} {n c i : Nat} (h : i ≠ n) : tg T n c i = T i := by simp [tg, h]
theorem RowA.gone_get {tag sz : Nat} {v : AV} {els : List (List AV)} (h : RowA σ T tag sz v els) {i : Nat} (hi : T i ≠ tag) : (gone v σ).get i = σ.get i := by
  rcases h with ⟨rfl, _⟩ | ⟨q, rest, rfl, _, h3⟩
  · rfl
  · show (σ.del q).get i = _
    rw [get_del, if_neg (by rintro rfl; exact hi h3)]
theorem RowA.append {tag sz by' : Nat} {v : AV} {els : List (List AV)} (h : RowA σ T tag sz v els) (y : List AV) (hb : (els.length + 1) * by' ≤ 140737488355328 ∧ els.length + 1 ≤ 140737488355328) :
    aAppend sz by' v (.sl true sz [y]) σ = some (.own σ.next (els.length + 1), (gone v σ).new (.cells sz (els ++ [y]))) := by
  have := aAppend_rows (by' := by') h.rows (fun c => by rcases h with ⟨rfl, _⟩ | ⟨q, rest, rfl, _⟩ <;> simp) (y := .sl true sz [y]) (ys := [y]) (.inr (.inl ⟨true, rfl⟩)) (by simpa using hb)
  simpa using this
theorem RowA.tag {tag tag' sz : Nat} {v : AV} {els : List (List AV)} (h : RowA σ T tag sz v els) {T' : Nat → Nat} (ht : ∀ q, T q = tag → T' q = tag') : RowA σ T' tag' sz v els := by
  rcases h with h | ⟨q, rest, h1, h2, h3⟩
  · exact .inl h
  · exact .inr ⟨q, rest, h1, h2, ht q h3⟩
/-- The machine's object is another. -/
theorem MX.re (h : MX σ mid sid cv fv vv T fuel s k) {υ : AHeap} {T' : Nat → Nat} (hn : σ.next ≤ υ.next) (hT : ∀ i, T i ≠ 0 → T i ≤ 2 → T' i = T i) (hs : ∀ i, T i = 1 → υ.get i = σ.get i) :
    T' mid = 2 ∧ In υ sid (avS s.store) (fun i => T' i = 1) :=
  ⟨by rw [hT mid (by rw [h.tm]; omega) (by rw [h.tm]; omega), h.tm], In.sub (In.congr h.store hn fun i h1 _ => hs i h1) fun i hi => by rw [hT i (by omega) (by omega)]; exact hi⟩
theorem MX.at_next (h : MX σ mid sid cv fv vv T fuel s k) : T σ.next = 0 := by
  by_cases e : T σ.next = 0
  · exact e
  · exact absurd (h.lt _ e) (Nat.lt_irrefl _)
abbrev mobj (sid fuel steps : Nat) (cv fv : AV) : AObj := .cells 5 [[.ptr sid 0 0, int fuel, int steps, cv, fv]]
theorem MX.pushC (h : MX σ mid sid cv fv vv T fuel s k) (c : Co) {υ : AHeap} (hυ : υ = ((gone cv σ).new (.cells 5 (s.codes.map Co.av ++ [c.av]))).set mid (mobj sid fuel s.steps (.own σ.next (s.codes.length + 1)) fv)) :
    MX υ mid sid (.own σ.next (s.codes.length + 1)) fv vv (tg T σ.next 3) fuel { s with codes := s.codes ++ [c] } k ∧ Keep T σ (tg T σ.next 3) υ := by
  have h0 := h.at_next
  have hm : mid < σ.next := h.lt mid (by rw [h.tm]; omega)
  have hne : ∀ i, T i ≠ 0 → i ≠ σ.next := fun i hi e => by rw [e] at hi; exact hi h0
  have hget : ∀ i, i ≠ σ.next → i ≠ mid → T i ≠ 3 → υ.get i = σ.get i := fun i h1 h2 h3 => by
    rw [hυ, get_set, if_neg h2, get_new, gone_next, if_neg h1]; exact h.codes.gone_get h3
  have hnx : υ.next = σ.next + 1 := by rw [hυ]; simp
  have htm : ∀ i, T i ≠ 2 → i ≠ mid := fun i hi e => by rw [e, h.tm] at hi; exact hi rfl
  obtain ⟨r1, r2⟩ := h.re (T' := tg T σ.next 3) (υ := υ) (by omega) (fun i h1 _ => tg_ne (hne i h1)) (fun i hi => hget i (hne i (by omega)) (htm i (by omega)) (by omega))
  refine ⟨{ obj := by rw [hυ]; simp, tm := r1, store := r2, codes := ?_, frames := ?_, vals := ?_, lt := ?_ }, by omega, fun i hi h1 => ⟨by rw [tg_ne (by omega)]; exact h1, hget i (by omega) (htm i (by omega)) (by omega)⟩⟩
  · exact .inr ⟨σ.next, [], by simp, by rw [hυ, get_set, if_neg (by omega), get_new, gone_next, if_pos rfl]; simp, tg_same _ _ _⟩
  · exact h.frames.mono fun q hq => ⟨by rw [tg_ne (hne q (by omega))]; exact hq, hget q (hne q (by omega)) (htm q (by omega)) (by omega)⟩
  · exact h.vals.mono fun q h1 _ => ⟨tg_ne (hne q (by omega)), hget q (hne q (by omega)) (htm q (by omega)) (by omega)⟩
  · intro i hi
    by_cases e : i = σ.next
    · omega
    · rw [tg_ne e] at hi; have := h.lt i hi; omega
theorem MX.pushF (h : MX σ mid sid cv fv vv T fuel s k) (f : Fr) (hf : f.vals = []) {υ : AHeap} (hυ : υ = ((gone fv σ).new (.cells 4 (frs k vv ++ [frC f nilSl]))).set mid (mobj sid fuel s.steps cv (.own σ.next (k.length + 1)))) :
    MX υ mid sid cv (.own σ.next (k.length + 1)) (nilSl :: vv) (tg T σ.next 4) fuel s (f :: k) ∧ Keep T σ (tg T σ.next 4) υ := by
  have h0 := h.at_next
  have hm : mid < σ.next := h.lt mid (by rw [h.tm]; omega)
  have hne : ∀ i, T i ≠ 0 → i ≠ σ.next := fun i hi e => by rw [e] at hi; exact hi h0
  have hget : ∀ i, i ≠ σ.next → i ≠ mid → T i ≠ 4 → υ.get i = σ.get i := fun i h1 h2 h3 => by
    rw [hυ, get_set, if_neg h2, get_new, gone_next, if_neg h1]; exact h.frames.gone_get h3
  have hnx : υ.next = σ.next + 1 := by rw [hυ]; simp
  have htm : ∀ i, T i ≠ 2 → i ≠ mid := fun i hi e => by rw [e, h.tm] at hi; exact hi rfl
  obtain ⟨r1, r2⟩ := h.re (T' := tg T σ.next 4) (υ := υ) (by omega) (fun i h1 _ => tg_ne (hne i h1)) (fun i hi => hget i (hne i (by omega)) (htm i (by omega)) (by omega))
  refine ⟨{ obj := by rw [hυ]; simp, tm := r1, store := r2, codes := ?_, frames := ?_, vals := ?_, lt := ?_ }, by omega, fun i hi h1 => ⟨by rw [tg_ne (by omega)]; exact h1, hget i (by omega) (htm i (by omega)) (by omega)⟩⟩
  · exact h.codes.mono fun q hq => ⟨by rw [tg_ne (hne q (by omega))]; exact hq, hget q (hne q (by omega)) (htm q (by omega)) (by omega)⟩
  · exact .inr ⟨σ.next, [], by simp [frs_len h.vals], by rw [hυ, get_set, if_neg (by omega), get_new, gone_next, if_pos rfl]; simp, tg_same _ _ _⟩
  · refine ⟨.inl ⟨rfl, by rw [hf]; rfl⟩, h.vals.mono fun q h1 _ => ⟨tg_ne (hne q (by omega)), hget q (hne q (by omega)) (htm q (by omega)) (by omega)⟩⟩
  · intro i hi
    by_cases e : i = σ.next
    · omega
    · rw [tg_ne e] at hi; have := h.lt i hi; omega
theorem MX.top {f : Fr} (h : MX σ mid sid cv fv vv T fuel s (f :: k)) : ∃ fid rest v vv', vv = v :: vv' ∧ fv = .own fid (k.length + 1) ∧ σ.get fid = some (.cells 4 (frs k vv' ++ frC f v :: rest)) ∧ T fid = 4 ∧ (frs k vv').length = k.length := by
  have hv := h.vals
  cases vv with
  | nil => exact hv.elim
  | cons v vv' =>
    have hl := frs_len hv.2
    rcases h.frames with ⟨_, h2⟩ | ⟨q, rest, h1, h2, h3⟩
    · simp at h2
    · exact ⟨q, rest, v, vv', rfl, by rw [h1]; simp [hl], by rw [h2]; simp, h3, hl⟩
theorem MX.pushV {f : Fr} {v : AV} (h : MX σ mid sid cv fv (v :: vv) T fuel s (f :: k)) (w : V) {fid : Nat} {rest : List (List AV)} (hfv : fv = .own fid (k.length + 1)) (hfg : σ.get fid = some (.cells 4 (frs k vv ++ frC f v :: rest))) (hft : T fid = 4)
    {υ : AHeap} (hυ : υ = ((gone v σ).new (.cells 4 (f.vals.map V.av ++ [w.av]))).set fid (.cells 4 (frs k vv ++ frC f (.own σ.next (f.vals.length + 1)) :: rest))) :
    MX υ mid sid cv fv (.own σ.next (f.vals.length + 1) :: vv) (tg T σ.next (5 + k.length)) fuel s (⟨f.t, f.e, f.vals ++ [w]⟩ :: k) ∧ Keep T σ (tg T σ.next (5 + k.length)) υ := by
  have h0 := h.at_next
  have hm : mid < σ.next := h.lt mid (by rw [h.tm]; omega)
  have hfl : fid < σ.next := h.lt fid (by omega)
  have hne : ∀ i, T i ≠ 0 → i ≠ σ.next := fun i hi e => by rw [e] at hi; exact hi h0
  have hget : ∀ i, i ≠ σ.next → i ≠ fid → T i ≠ 5 + k.length → υ.get i = σ.get i := fun i h1 h2 h3 => by
    rw [hυ, get_set, if_neg h2, get_new, gone_next, if_neg h1]; exact h.vals.1.gone_get h3
  have hnx : υ.next = σ.next + 1 := by rw [hυ]; simp
  have htf : ∀ i, T i ≠ 4 → i ≠ fid := fun i hi e => by rw [e] at hi; exact hi hft
  have hl := frs_len h.vals.2
  obtain ⟨r1, r2⟩ := h.re (T' := tg T σ.next (5 + k.length)) (υ := υ) (by omega) (fun i h1 _ => tg_ne (hne i h1)) (fun i hi => hget i (hne i (by omega)) (htf i (by omega)) (by omega))
  refine ⟨{ obj := by rw [hget mid (by omega) (htf mid (by rw [h.tm]; omega)) (by rw [h.tm]; omega)]; exact h.obj, tm := r1, store := r2, codes := ?_, frames := ?_, vals := ?_, lt := ?_ }, by omega, fun i hi h1 => ⟨by rw [tg_ne (by omega)]; exact h1, hget i (by omega) (htf i (by omega)) (by omega)⟩⟩
  · exact h.codes.mono fun q hq => ⟨by rw [tg_ne (hne q (by omega))]; exact hq, hget q (hne q (by omega)) (htf q (by omega)) (by omega)⟩
  · exact .inr ⟨fid, rest, by rw [hfv]; simp [hl], by rw [hυ]; simp [frC], by rw [tg_ne (hne fid (by omega))]; exact hft⟩
  · refine ⟨.inr ⟨σ.next, [], by simp, by rw [hυ, get_set, if_neg (by omega), get_new, gone_next, if_pos rfl]; simp, tg_same _ _ _⟩, ?_⟩
    exact h.vals.2.mono fun q h1 h2 => ⟨tg_ne (hne q (by omega)), hget q (hne q (by omega)) (htf q (by omega)) (by omega)⟩
  · intro i hi
    by_cases e : i = σ.next
    · omega
    · rw [tg_ne e] at hi; have := h.lt i hi; omega
/-- A frame goes; its values stand by themselves. -/
theorem MX.popF {f : Fr} {v : AV} (h : MX σ mid sid cv fv (v :: vv) T fuel s (f :: k)) {fid : Nat} {rest : List (List AV)} (hfv : fv = .own fid (k.length + 1)) (hfg : σ.get fid = some (.cells 4 (frs k vv ++ frC f v :: rest))) (hft : T fid = 4)
    {υ : AHeap} (hυ : υ = σ.set mid (mobj sid fuel s.steps cv (.own fid k.length))) :
    MX υ mid sid cv (.own fid k.length) vv (fun i => if T i = 5 + k.length then 0 else T i) fuel s k ∧ Keep T σ (fun i => if T i = 5 + k.length then 0 else T i) υ ∧ RowA υ (fun i => if T i = 5 + k.length then 0 else T i) 0 4 v (f.vals.map V.av) ∧ (∀ q n, v = .own q n → q < υ.next) := by
  have hget : ∀ i, T i ≠ 2 → υ.get i = σ.get i := fun i h2 => by
    rw [hυ, get_set, if_neg (by rintro rfl; exact h2 h.tm)]
  have hnx : υ.next = σ.next := by rw [hυ]; rfl
  have hT : ∀ i, T i ≠ 5 + k.length → (fun i => if T i = 5 + k.length then 0 else T i) i = T i := fun i hi => if_neg hi
  have hl := frs_len h.vals.2
  obtain ⟨r1, r2⟩ := h.re (T' := fun i => if T i = 5 + k.length then 0 else T i) (υ := υ) (by omega) (fun i h1 h2 => hT i (by omega)) (fun i hi => hget i (by omega))
  refine ⟨{ obj := by rw [hυ]; simp, tm := r1, store := r2, codes := ?_, frames := ?_, vals := ?_, lt := ?_ }, ⟨by omega, fun i hi h1 => ⟨by show (if T i = 5 + k.length then 0 else T i) = 0; rw [if_neg (by omega)]; exact h1, hget i (by omega)⟩⟩, ?_⟩
  · exact h.codes.mono fun q hq => ⟨(hT q (by omega)).trans hq, hget q (by omega)⟩
  · refine .inr ⟨fid, frC f v :: rest, by rw [hl], by rw [hget fid (by omega)]; exact hfg, (hT fid (by omega)).trans hft⟩
  · exact h.vals.2.mono fun q h1 h2 => ⟨hT q (by omega), hget q (by omega)⟩
  · intro i hi
    have : T i ≠ 0 := by
      intro e
      have hi : (if T i = 5 + k.length then 0 else T i) ≠ 0 := hi
      rw [if_neg (by omega)] at hi; exact hi e
    rw [hnx]; exact h.lt i this
  · have h1 := h.vals.1.tag (T' := fun i => if T i = 5 + k.length then 0 else T i) (tag' := 0) (fun q hq => if_pos hq)
    rcases h.vals.1 with ⟨rfl, h2⟩ | ⟨q, r2, e1, e2, e3⟩
    · exact ⟨.inl ⟨rfl, h2⟩, by intro q n e; cases e⟩
    · exact ⟨.inr ⟨q, r2, e1, by rw [hget q (by omega)]; exact e2, if_pos e3⟩, by intro q' n e; rw [e1] at e; cases e; rw [hnx]; exact h.lt q (by omega)⟩
end Go.Abs.Mac
set_option linter.unusedVariables false
set_option linter.unusedSimpArgs false
set_option linter.deprecated false
namespace Go.Abs.Mac
open Go Go.Abs Go.Abs.Stk Go.Abs.At Go.Proofs.MacD
variable {σ τ : AHeap} {mid sid fuel : Nat} {cv fv : AV} {vv : List AV} {T : Nat → Nat} {s : Sa} {k : List Fr} {K kp : AV → AHeap → Prop}

@[simp] theorem Co.av_len (c : Co) : c.av.length = 5 := rfl
theorem coded_ev (h : MA σ mid T fuel s k) (b : Bnd fuel s k) {c : Co} (hk : ∀ τ T', MA τ mid T' fuel (coded s c).2 k → Keep T σ T' τ → K (.agg (coded s c).1.av) τ) : Ev PR 87 [.ptr mid 0 0, .agg c.av] σ K kp := by
  apply F87_ev; unfold F87
  simp [Nat.add_assoc]
  generalize hτ : (σ.new (.cells 5 [c.av])).new (.cells 10 [zC]) = τ
  have hg : Grows σ τ := by rw [← hτ]; exact (Grows.new _ _).trans (Grows.new _ _)
  have hn : τ.next = σ.next + 2 := by rw [← hτ]; rfl
  have g0 : τ.get σ.next = some (.cells 5 [c.av]) := by rw [← hτ]; simp [get_new]
  have g1 : τ.get (σ.next + 1) = some (.cells 10 [zC]) := by rw [← hτ]; simp [get_new]
  obtain ⟨sid, cv, fv, vv, hx⟩ := h.grows hg
  have hm : mid < τ.next := hx.lt mid (by rw [hx.tm]; omega)
  have hbc := b.codes
  have hm2 : mid ≠ σ.next + 1 := by rintro e; have := h.zero (i := mid) (by omega); rw [hx.tm] at this; omega
  simp [hx.obj, g0, List.take_of_length_le (Nat.le_of_eq c.av_len)]
  refine stepK_of (hx.codes.append (by' := 64) c.av (by simp; omega)) ?_
  have z1 : T (σ.next + 1) = 0 := h.zero (by omega)
  have gg : (gone cv τ).get mid = τ.get mid := hx.codes.gone_get (by rw [hx.tm]; omega)
  have gl : (gone cv τ).get (σ.next + 1) = τ.get (σ.next + 1) := hx.codes.gone_get (by omega)
  simp [gone_next, get_new, get_set, Nat.ne_of_lt hm, gg, hx.obj]
  obtain ⟨p1, p2⟩ := hx.pushC c (υ := ((gone cv τ).new (.cells 5 (s.codes.map Co.av ++ [c.av]))).set mid (mobj sid fuel s.steps (.own τ.next (s.codes.length + 1)) fv)) rfl
  rw [wrap64 (by omega)]
  simp [get_set, get_new, Ne.symm hm2, show σ.next + 1 ≠ τ.next by omega, gl, g1]
  have l : Loc σ.next (tg T τ.next 3) _ ((((gone cv τ).new (.cells 5 (s.codes.map Co.av ++ [c.av]))).set mid (mobj sid fuel s.steps (.own τ.next (s.codes.length + 1)) fv)).set (σ.next + 1) (.cells 10 [(coded s c).1.av])) := Loc.set (.refl _ _ _) (.inr ⟨by omega, by rw [tg_ne (by omega)]; exact z1⟩)
  have := hk _ _ ⟨_, _, _, _, p1.loc l⟩ ((Keep.of hg p2).loc l)
  simpa [coded, Cl.av, V.av, V.zero] using this
theorem step_ev (h : MA σ mid T fuel s k) (b : Bnd fuel s k)
    (hk : s.steps < fuel → ∀ τ, MA τ mid T fuel (tick s) k → Keep T σ T τ → K (.tup []) τ) (hp : fuel ≤ s.steps → kp (.iface 102 (.agg [u8 3])) σ) : Ev PR 81 [.ptr mid 0 0] σ K kp := by
  apply F81_ev; unfold F81
  obtain ⟨sid, cv, fv, vv, hx⟩ := h
  have hm : mid < σ.next := hx.lt mid (by rw [hx.tm]; omega)
  have hbf := b.fuel
  simp [hx.obj]
  refine must_ev (fun h1 => ?_) (fun h1 => hp (by simpa using h1))
  have h1 : s.steps < fuel := by simpa using h1
  simp [hx.obj]
  rw [wrap64 (by omega)]
  refine hk h1 _ ⟨sid, cv, fv, vv, ?_⟩ ?_
  · have hget : ∀ i, T i ≠ 2 → (σ.set mid (mobj sid fuel (s.steps + 1) cv fv)).get i = σ.get i := fun i h2 => by
      rw [get_set, if_neg (by rintro rfl; exact h2 hx.tm)]
    exact { obj := by simp [tick], tm := hx.tm, store := In.congr hx.store (Nat.le_refl _) fun i h1 _ => hget i (by omega), codes := hx.codes.mono fun q hq => ⟨hq, hget q (by omega)⟩, frames := hx.frames.mono fun q hq => ⟨hq, hget q (by omega)⟩, vals := hx.vals.mono fun q h1 _ => ⟨rfl, hget q (by omega)⟩, lt := hx.lt }
  · exact ⟨Nat.le_refl _, fun i hi h0 => ⟨h0, by rw [get_set, if_neg (by rintro rfl; rw [hx.tm] at h0; omega)]⟩⟩
theorem top_ev {f : Fr} (h : MX σ mid sid cv fv vv T fuel s (f :: k)) (b : Bnd fuel s (f :: k)) {fid : Nat} {rest : List (List AV)} {v : AV} {vv' : List AV} (hvv : vv = v :: vv') (hfv : fv = .own fid (k.length + 1)) (hfg : σ.get fid = some (.cells 4 (frs k vv' ++ frC f v :: rest)))
    (hk : K (.ptr fid k.length 0) σ) : Ev PR 92 [.ptr mid 0 0] σ K kp := by
  subst hvv
  apply F92_ev; unfold F92
  have hl := frs_len h.vals.2
  have hbk := b.k
  simp at hbk
  simp [h.obj, hfv]
  rw [wrap64 (by omega)]
  refine stepP (x := .ptr fid k.length 0) ?_ hk
  rw [aIndexAddr_own, if_pos (by omega)]
  rw [Int.toNat_natCast, elAt_cells hfg, ← hl, List.getElem?_append_right (Nat.le_refl _)]
  simp [frC]
theorem pop_frame_ev {f : Fr} (h : MA σ mid T fuel s (f :: k)) (b : Bnd fuel s (f :: k))
    (hk : ∀ τ T' v, MA τ mid T' fuel s k → Keep T σ T' τ → RowA τ T' 0 4 v (f.vals.map V.av) → (∀ q n, v = .own q n → q < τ.next) → K (.agg (frC f v)) τ) : Ev PR 90 [.ptr mid 0 0] σ K kp := by
  apply F90_ev; unfold F90
  simp
  have hg1 := Grows.new σ (.cells 4 [[.val (.pointer none), .val (.pointer none), .val (.pointer none), .val (.slice none 0 0)]])
  obtain ⟨sid, cv, fv, vv, hx⟩ := h.grows hg1
  obtain ⟨fid, rest, v, vv', rfl, hfv, hfg, hft, hl⟩ := hx.top
  refine top_ev hx b rfl hfv hfg ?_
  generalize hτ : σ.new (.cells 4 [[.val (.pointer none), .val (.pointer none), .val (.pointer none), .val (.slice none 0 0)]]) = τ at *
  have hn : τ.next = σ.next + 1 := by rw [← hτ]; rfl
  have g0 : τ.get σ.next = some (.cells 4 [[.val (.pointer none), .val (.pointer none), .val (.pointer none), .val (.slice none 0 0)]]) := by rw [← hτ]; simp
  have hm : mid < τ.next := hx.lt mid (by rw [hx.tm]; omega)
  have hm2 : mid ≠ σ.next := by rintro e; have := h.zero (i := mid) (by omega); rw [hx.tm] at this; omega
  have hel : (frs k vv' ++ frC f v :: rest)[k.length]? = some (frC f v) := by
    rw [← hl, List.getElem?_append_right (Nat.le_refl _)]; simp
  have hfl : (frC f v).length = 4 := rfl
  simp [hfg, hel, hfl, List.take_of_length_le (Nat.le_of_eq hfl), get_new, Nat.ne_of_lt hm, hx.obj, get_set]
  have hbk := b.k
  simp at hbk
  simp [hfv]
  rw [wrap64 (by omega)]
  rw [if_pos (by omega), Int.toNat_natCast]
  simp [get_new, get_set, Nat.ne_of_lt hm, hx.obj, hm2, Ne.symm hm2, show τ.next ≠ mid by omega, show σ.next ≠ τ.next by omega, g0, hfl, List.take_of_length_le (Nat.le_of_eq hfl)]
  obtain ⟨p1, p2, p3, p4⟩ := hx.popF hfv hfg hft (υ := τ.set mid (mobj sid fuel s.steps cv (.own fid k.length))) rfl
  generalize hT : (fun i => if T i = 5 + k.length then 0 else T i) = T' at p1 p2 p3
  have zs : T' σ.next = 0 := by rw [← hT]; show (if T σ.next = 5 + k.length then 0 else T σ.next) = 0; rw [if_neg (by rw [h.zero (Nat.le_refl _)]; omega)]; exact h.zero (Nat.le_refl _)
  have hq : ∀ i, i < τ.next → i ≠ σ.next → ((((τ.new (.cells 4 [[.val (.pointer none), .val (.pointer none), .val (.pointer none), .val (.slice none 0 0)]])).set τ.next (.cells 4 [frC f v])).set mid (mobj sid fuel s.steps cv (.own fid k.length))).set σ.next (.cells 4 [frC f v])).get i = (τ.set mid (mobj sid fuel s.steps cv (.own fid k.length))).get i := by
    intro i h1 h2
    rw [get_set, if_neg h2]
    simp only [get_set, get_new]
    by_cases e : i = mid
    · rw [if_pos e, if_pos e]
    · rw [if_neg e, if_neg e, if_neg (by omega), if_neg (by omega)]
  have l : Loc σ.next T' (τ.set mid (mobj sid fuel s.steps cv (.own fid k.length))) ((((τ.new (.cells 4 [[.val (.pointer none), .val (.pointer none), .val (.pointer none), .val (.slice none 0 0)]])).set τ.next (.cells 4 [frC f v])).set mid (mobj sid fuel s.steps cv (.own fid k.length))).set σ.next (.cells 4 [frC f v])) :=
    ⟨Nat.le_succ _, fun i h1 h2 => hq i h1 (by rintro rfl; omega)⟩
  refine hk _ T' v ⟨_, _, _, _, p1.loc l⟩ ((Keep.of hg1 p2).loc l) ?_ (fun q n e => Nat.lt_of_lt_of_le (p4 q n e) (Nat.le_succ _))
  rcases p3 with p3 | ⟨q, r, q1, q2, q3⟩
  · exact .inl p3
  · refine .inr ⟨q, r, q1, ?_, q3⟩
    rcases hx.vals.1 with ⟨rfl, _⟩ | ⟨q', r', e1, e2, e3⟩
    · cases q1
    · rw [q1] at e1; cases e1
      rw [hq q (hx.lt q (by omega)) (by rintro rfl; rw [h.zero (Nat.le_refl _)] at e3; omega)]
      exact q2

theorem kid_get {t : AT} {i : Nat} (h : i < t.kids.length) : t.kids[i]? = some (kidAt t i) := by
  unfold kidAt; rw [List.getElem?_eq_getElem h]; rfl
theorem kid_addr {t : AT} {i : Nat} (h : i < t.kids.length) (σ : AHeap) : aIndexAddr 19 (AT.vs t.kids) (.val (.int .i64 i)) σ = some (.ref (kidAt t i).av) := by
  rw [AT.vs, aIndexAddr_sl, if_pos (by omega), Int.toNat_natCast, AT.avs_map, List.getElem?_map, kid_get h]; rfl
theorem AT.fields (t : AT) : t.av[0]? = some (u8 t.h.kind) ∧ t.av[1]? = some (u8 t.h.op) ∧ t.av[3]? = some (int t.h.n) ∧ t.av[4]? = some (str t.h.name) ∧ t.av[5]? = some (str t.h.arg) ∧ t.av[6]? = some (str t.h.exn) ∧ t.av[7]? = some (int t.rho) ∧ t.av[8]? = some (rhosV t.rhos) ∧ t.av[18]? = some (AT.vs t.kids) := by
  obtain ⟨_, _, _, _, _, _, _, _, _, _, e⟩ := t.av_eq
  rw [e]
  exact ⟨rfl, rfl, rfl, rfl, rfl, rfl, rfl, rfl, rfl⟩
theorem MX.codesGet (h : MX σ mid sid cv fv vv T fuel s k) (hl : 0 < s.codes.length) : ∃ q rest, cv = .own q s.codes.length ∧ σ.get q = some (.cells 5 (s.codes.map Co.av ++ rest)) ∧ T q = 3 := by
  rcases h.codes with ⟨_, h2⟩ | ⟨q, rest, h1, h2, h3⟩
  · have := congrArg List.length h2; simp at this; rw [this] at hl; simp at hl
  · exact ⟨q, rest, by rw [h1]; simp, h2, h3⟩
theorem cellAt_in {s : SG Cl} {v : V} {c : Cl} (h : cellAt s v = some c) : ∃ (i : Nat) (row : List Cl), s.L[i]? = some (true, row) ∧ c ∈ row := by
  unfold cellAt at h
  cases hr : s.row v.r with
  | none => rw [hr] at h; cases h
  | some row =>
    rw [hr] at h
    obtain ⟨i, _, h1, _⟩ := SG.row_nat hr
    exact ⟨i, row, h1, List.mem_of_getElem? h⟩
theorem IdxOk.code {s s' : Sa} {v : V} {c : Cl} (h : IdxOk s) (ht : take s v 3 = .ok c s') : ∃ f, s.codes[c.code.toNat]? = some f ∧ c.code = (c.code.toNat : Int) := by
  obtain ⟨rfl, hk, hc, _⟩ := take_ok ht
  obtain ⟨i, row, h1, h2⟩ := cellAt_in hc
  have := h i row c h1 h2 hk
  exact ⟨_, List.getElem?_eq_getElem (by omega), by omega⟩
@[simp] theorem AT.av_0' (t : AT) (h : 0 < t.av.length) : t.av[0]'h = u8 t.h.kind := by have := (AT.fields t).1; rw [List.getElem?_eq_getElem h] at this; exact Option.some.inj this
@[simp] theorem AT.av_1' (t : AT) (h : 1 < t.av.length) : t.av[1]'h = u8 t.h.op := by have := (AT.fields t).2.1; rw [List.getElem?_eq_getElem h] at this; exact Option.some.inj this
@[simp] theorem AT.av_3' (t : AT) (h : 3 < t.av.length) : t.av[3]'h = int t.h.n := by have := (AT.fields t).2.2.1; rw [List.getElem?_eq_getElem h] at this; exact Option.some.inj this
@[simp] theorem AT.av_18' (t : AT) (h : 18 < t.av.length) : t.av[18]'h = AT.vs t.kids := by have := (AT.fields t).2.2.2.2.2.2.2.2; rw [List.getElem?_eq_getElem h] at this; exact Option.some.inj this
@[simp] theorem AT.av_head (t : AT) : t.av.head? = some (u8 t.h.kind) := by have := (AT.fields t).1; rw [List.head?_eq_getElem?]; exact this
theorem kid_addr0 {t : AT} (h : 0 < t.kids.length) (σ : AHeap) : aIndexAddr 19 (AT.vs t.kids) (.val (.int .i64 0)) σ = some (.ref (kidAt t 0).av) := kid_addr (i := 0) h σ
theorem kid_addr1 {t : AT} (h : 1 < t.kids.length) (σ : AHeap) : aIndexAddr 19 (AT.vs t.kids) (.val (.int .i64 1)) σ = some (.ref (kidAt t 1).av) := kid_addr (i := 1) h σ
theorem kid_addr2 {t : AT} (h : 2 < t.kids.length) (σ : AHeap) : aIndexAddr 19 (AT.vs t.kids) (.val (.int .i64 2)) σ = some (.ref (kidAt t 2).av) := kid_addr (i := 2) h σ
theorem wait_ev (h : MA σ mid T fuel s k) (b : Bnd fuel s k) {t : AT} {e : En} (h0 : 0 < t.kids.length)
    (hk : ∀ τ T', MA τ mid T' fuel s (⟨t, e, []⟩ :: k) → Keep T σ T' τ → K (Nx.av (.node (kidAt t 0) e)) τ) : Ev PR 89 [.ptr mid 0 0, .ref t.av, envV e] σ K kp := by
  apply F89_ev; unfold F89
  obtain ⟨f0, f1, f3, f4, f5, f6, f7, f8, f18⟩ := AT.fields t
  simp [Nat.add_assoc]
  generalize hτ : (σ.new (.cells 2 [envC e])).new (.cells 9 [[.val (.pointer none), .val (.pointer none), .val (.pointer none), .val (.int .u8 0), .val (.int .i64 0), .val (.int .i64 0), .val (.int .i64 0), .val (.bool false), .val (.string ByteArray.empty)]]) = τ
  have hg : Grows σ τ := by rw [← hτ]; exact (Grows.new _ _).trans (Grows.new _ _)
  have hn : τ.next = σ.next + 2 := by rw [← hτ]; rfl
  have g0 : τ.get σ.next = some (.cells 2 [envC e]) := by rw [← hτ]; simp [get_new]
  have g1 : τ.get (σ.next + 1) = some (.cells 9 [[.val (.pointer none), .val (.pointer none), .val (.pointer none), .val (.int .u8 0), .val (.int .i64 0), .val (.int .i64 0), .val (.int .i64 0), .val (.bool false), .val (.string ByteArray.empty)]]) := by rw [← hτ]; simp [get_new]
  obtain ⟨sid, cv, fv, vv, hx⟩ := h.grows hg
  have hm : mid < τ.next := hx.lt mid (by rw [hx.tm]; omega)
  have hbk := b.k
  have z0 : T σ.next = 0 := h.zero (by omega)
  have z1 : T (σ.next + 1) = 0 := h.zero (by omega)
  have hl := frs_len hx.vals
  have hm1 : mid ≠ σ.next + 1 := by rintro e; rw [e] at hx; have := hx.tm; omega
  have hm0 : mid ≠ σ.next := by rintro e; rw [e] at hx; have := hx.tm; omega
  simp [hx.obj, g0, envC]
  refine stepK_of (hx.frames.append (by' := 48) (frC ⟨t, e, []⟩ nilSl) (by rw [hl]; omega)) ?_
  have gg : ∀ i, T i ≠ 4 → (gone fv τ).get i = τ.get i := fun i hi => hx.frames.gone_get hi
  simp [gone_next, get_new, get_set, Nat.ne_of_lt hm, gg mid (by rw [hx.tm]; omega), hx.obj, hl, kid_addr0 h0, Ne.symm hm0, Ne.symm hm1, show σ.next ≠ τ.next by omega, show σ.next + 1 ≠ τ.next by omega, gg σ.next (by omega), gg (σ.next + 1) (by omega), g0, g1]
  simp [envC]
  obtain ⟨p1, p2⟩ := hx.pushF ⟨t, e, []⟩ rfl (υ := ((gone fv τ).new (.cells 4 (frs k vv ++ [frC ⟨t, e, []⟩ nilSl]))).set mid (mobj sid fuel s.steps cv (.own τ.next (k.length + 1)))) rfl
  have l : Loc σ.next (tg T τ.next 4) _ ((((gone fv τ).new (.cells 4 (frs k vv ++ [frC ⟨t, e, []⟩ nilSl]))).set mid (mobj sid fuel s.steps cv (.own τ.next (k.length + 1)))).set (σ.next + 1) (.cells 9 [[.ref (kidAt t 0).av, namesV e.names, rhoV e.rhos, .val (.int .u8 0), .val (.int .i64 0), .val (.int .i64 0), .val (.int .i64 0), .val (.bool false), .val (.string ByteArray.empty)]])) := Loc.set (.refl _ _ _) (.inr ⟨by omega, by rw [tg_ne (by omega)]; exact z1⟩)
  exact hk _ _ ⟨_, _, _, _, p1.loc l⟩ ((Keep.of hg p2).loc l)
end Go.Abs.Mac
