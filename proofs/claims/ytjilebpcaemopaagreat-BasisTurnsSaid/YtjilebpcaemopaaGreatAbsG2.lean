/-
  clear, over a part of a row.
-/
import Derived.Test.YtjilebpcaemopaaGreatAbsG
import Derived.Lib.AppendZerosOnto
namespace Go.Abs
open Go

def aClear (sz : Nat) (zs : List AV) (x : AV) (σ : AHeap) : Option AHeap :=
  match x with
  | .win id off s len => if len = 0 then some σ else match σ.get id with
    | some (.cells sz' els) => if sz' = sz ∧ s = sz ∧ zs.length = sz ∧ off + len ≤ els.length then some (σ.set id (.cells sz (els.take off ++ List.replicate len zs ++ els.drop (off + len)))) else none
    | _ => none
  | _ => none

theorem sClear {ρ σ w} (hs : Sim ρ σ w) {P t ty e sz bytes zs} (ht : sinfo P t = some (e, sz, bytes)) (hz : zeroOf P e = some zs) {x v} (hx : VRel (ctx ρ σ w) x v) {σ'} (h : aClear sz zs x σ = some σ') :
    ∃ w', (Builtin.clear_ #[t] ty #[v]).run P w = .ok (.tuple #[]) w' ∧ Sim ρ σ' w' ∧ Ext ρ σ w ρ σ' w' := by
  obtain ⟨hu, i, z0, hi, hzz, rfl, rfl⟩ := sinfo_spec ht
  unfold aClear at h
  split at h
  · rename_i id off s len
    split at h
    · rename_i h0
      subst h0
      cases h
      rcases hx.win_inv with ⟨b, s', cap, rfl, hp, _⟩ | ⟨_, a, cap, rfl⟩
      · exact ⟨w, by simp [Builtin.clear_, run_underlying hu], hs, Ext.refl _ _ _⟩
      · cases a <;> exact ⟨w, by simp [Builtin.clear_, run_underlying hu], hs, Ext.refl _ _ _⟩
    · rename_i h0
      split at h
      · rename_i sz' els hg
        split at h
        · rename_i hc
          obtain ⟨rfl, rfl, hzl, hfit⟩ := hc
          cases h
          rcases hx.win_inv with ⟨b, s', cap, rfl, hp, _⟩ | ⟨h1, _⟩
          · obtain ⟨p, hp', hor⟩ := hs.obj id _ hg
            have hp2 : ρ id = some (some b, s') := hp
            rw [hp2] at hp'; cases hp'
            obtain ⟨rfl, cs, te, hb, hcsz, hel, hone, hr⟩ := hor.cells_inv
            have hb : w.heap[b]? = some (.cells cs te (0, 0)) := hb
            obtain ⟨z, hzr, z1, z2, z3⟩ := zeroOf_spec hz w
            have hlen : (Builtin.zeroCells z.cells len).size = len * i.size := by simp [Builtin.zeroCells, z1, hzl]
            have hgetz : ∀ j, j < len * i.size → (Builtin.zeroCells z.cells len)[j]? = z.cells[j % i.size]? := by
              intro j hj
              have hpos : 0 < i.size := by rcases Nat.eq_zero_or_pos i.size with e | e; · rw [e] at hj; simp at hj
                                           · exact e
              have hm : j % z.cells.size < z.cells.size := Nat.mod_lt _ (by omega)
              simp only [Builtin.zeroCells, Array.getElem?_map]
              rw [Array.getElem?_eq_getElem (by simp [z1, hzl]; exact hj)]
              simp only [Array.getElem_range, Option.map_some]
              rw [getElem!_pos z.cells _ hm, ← Array.getElem?_eq_getElem hm, z1, hzl]
            have hm : off * i.size + len * i.size ≤ els.length * i.size := by rw [← Nat.add_mul]; exact Nat.mul_le_mul_right _ hfit
            have h1 : ∀ u ∈ (Builtin.zeroCells z.cells len).toList, u.oneCell' = true := by
              intro u hu'
              obtain ⟨j, hj, rfl⟩ := List.getElem_of_mem hu'
              have hj' : j < len * i.size := by rw [← hlen]; simpa using hj
              have := hgetz j hj'
              rw [Array.getElem?_eq_getElem (by omega)] at this
              exact z2 _ _ (by rw [← this]; simp)
            have hst := run_storeCells_at P b (off * i.size) te (Builtin.zeroCells z.cells len).toList 0 cs w hb (by simp [hlen]; omega) h1
            simp only [Nat.add_zero] at hst
            have hsp : off * i.size + (Builtin.zeroCells z.cells len).size ≤ cs.size := by omega
            refine ⟨w.setRow b (splice cs (off * i.size) (Builtin.zeroCells z.cells len)), ?_, ?_⟩
            · cases len with
              | zero => exact absurd rfl h0
              | succ len =>
                simp only [Builtin.clear_, List.getElem?_toArray, List.getElem?_cons_zero, Sem.run_bind, run_underlying hu, Result.andThen_ok, hzr, hst, Sem.run_pure, splice]
                simp
            · have r2 := setRow_heap w b cs (splice cs (off * i.size) (Builtin.zeroCells z.cells len)) te (0, 0) hb
              refine hs.write hg hp _ _ (fun k hk => setRow_other w b k _ hk) (by simp [World.setRow]) (fun cs' t' f' h' => ?_) rfl rfl rfl (Nat.le_refl _) (fun d hle hd => ?_)
              · rw [hb] at h'; cases h'
                exact ⟨_, _, r2, splice_size hsp⟩
              · refine .cells (splice cs (off * i.size) (Builtin.zeroCells z.cells len)) te (by rw [hd]; exact r2) ?_ ?_ ?_ ?_
                · rw [splice_size hsp]
                  have : (els.take off ++ List.replicate len zs ++ els.drop (off + len)).length = els.length := by simp; omega
                  rw [this]; exact hcsz
                · intro k el hk
                  rcases List.mem_append.1 (List.mem_of_getElem? hk) with hk | hk
                  · rcases List.mem_append.1 hk with hk | hk
                    · obtain ⟨q, hq⟩ := List.getElem?_of_mem (List.mem_of_mem_take hk)
                      exact hel q el hq
                    · rw [List.mem_replicate] at hk; rw [hk.2]; exact hzl
                  · obtain ⟨q, hq⟩ := List.getElem?_of_mem (List.mem_of_mem_drop hk)
                    exact hel q el hq
                · intro j u hu'
                  rw [splice_get hsp] at hu'
                  split at hu'
                  · exact h1 u (by obtain ⟨q1, q2⟩ := Array.getElem?_eq_some_iff.1 hu'; rw [← q2]; simp)
                  · exact hone _ _ hu'
                · intro k el j y hk hy u hu'
                  rw [splice_get hsp, hlen] at hu'
                  have hke : el.length = i.size := by
                    rcases List.mem_append.1 (List.mem_of_getElem? hk) with hk | hk
                    · rcases List.mem_append.1 hk with hk | hk
                      · obtain ⟨q, hq⟩ := List.getElem?_of_mem (List.mem_of_mem_take hk)
                        exact hel q el hq
                      · rw [List.mem_replicate] at hk; rw [hk.2]; exact hzl
                    · obtain ⟨q, hq⟩ := List.getElem?_of_mem (List.mem_of_mem_drop hk)
                      exact hel q el hq
                  have hj : j < i.size := by rw [← hke]; exact (List.getElem?_eq_some_iff.1 hy).1
                  have hto : (els.take off).length = off := by simp; omega
                  by_cases c1 : k < off
                  · have hrow := mul_lt_row (sz := i.size) c1
                    rw [if_neg (by omega)] at hu'
                    rw [List.append_assoc, List.getElem?_append_left (by omega), List.getElem?_take, if_pos c1] at hk
                    exact (hr k el j y hk hy u hu').mono hle
                  · by_cases c2 : k < off + len
                    · have e1 : off * i.size ≤ k * i.size := Nat.mul_le_mul_right _ (by omega)
                      have hrow := mul_lt_row (sz := i.size) c2
                      rw [Nat.add_mul] at hrow
                      rw [if_pos ⟨by omega, by omega⟩, hgetz _ (by omega)] at hu'
                      rw [List.getElem?_append_left (by simp; omega), List.getElem?_append_right (by omega)] at hk
                      obtain ⟨_, rfl⟩ := replicate_some hk
                      have e2 : (k * i.size + j - off * i.size) % i.size = j := by
                        rw [show k * i.size + j - off * i.size = (k - off) * i.size + j by rw [Nat.sub_mul]; omega, Nat.mul_comm, Nat.mul_add_mod, Nat.mod_eq_of_lt hj]
                      rw [e2] at hu'
                      exact z3 d j y u hy hu'
                    · have e1 : (off + len) * i.size ≤ k * i.size := Nat.mul_le_mul_right _ (by omega)
                      rw [Nat.add_mul] at e1
                      rw [if_neg (by omega)] at hu'
                      have hlen2 : (els.take off ++ List.replicate len zs).length = off + len := by simp; omega
                      rw [List.getElem?_append_right (by omega), List.getElem?_drop, hlen2, show off + len + (k - (off + len)) = k by omega] at hk
                      exact (hr k el j y hk hy u hu').mono hle
          · exact absurd h1 h0
        · cases h
      · cases h
  · cases h

/-! ### append of so many zeros, onto nothing -/
def aAppendZ (sz bytes : Nat) (zs : List AV) (s x : AV) (σ : AHeap) : Option (AV × AHeap) :=
  match s, x with
  | .val (.slice none 0 0), .val (.int _ n) => if 0 < n ∧ n.toNat * bytes ≤ 140737488355328 ∧ n ≤ 140737488355328 ∧ zs.length = sz ∧ 0 < sz then some (.own σ.next n.toNat, σ.new (.cells sz (List.replicate n.toNat zs))) else none
  | _, _ => none

theorem zeroCells_get {z : Array Value} {len sz j : Nat} (hz : z.size = sz) (hj : j < len * sz) : (Builtin.zeroCells z len)[j]? = z[j % sz]? := by
  have hpos : 0 < sz := by
    rcases Nat.eq_zero_or_pos sz with e | e
    · rw [e] at hj; simp at hj
    · exact e
  have hm : j % z.size < z.size := Nat.mod_lt _ (by omega)
  simp only [Builtin.zeroCells, Array.getElem?_map]
  rw [Array.getElem?_eq_getElem (by simp [hz]; exact hj)]
  simp only [Array.getElem_range, Option.map_some]
  rw [getElem!_pos z _ hm, ← Array.getElem?_eq_getElem hm, hz]

theorem sAppendZ {ρ σ w} (hs : Sim ρ σ w) {P t ty e sz bytes zs} (ht : sinfo P t = some (e, sz, bytes)) (hz : zeroOf P e = some zs) {tn kn} (htn : P.underlying tn = some (.int kn)) {s x a v} (hx : VRel (ctx ρ σ w) s a) (hy : VRel (ctx ρ σ w) x v) {r σ'}
    (h : aAppendZ sz bytes zs s x σ = some (r, σ')) :
    ∃ u w' ρ', (Builtin.append_ #[t, tn] ty #[a, v]).run P w = .ok u w' ∧ VRel (ctx ρ' σ' w') r u ∧ Sim ρ' σ' w' ∧ Ext ρ σ w ρ' σ' w' := by
  obtain ⟨hu, i, z0, hi, hzz, rfl, rfl⟩ := sinfo_spec ht
  unfold aAppendZ at h
  split at h
  · rename_i kq n
    split at h
    · rename_i hc
      obtain ⟨h0, hb, hn, hzl, hsz⟩ := hc
      cases h
      obtain rfl := hx.val_inv
      obtain rfl := hy.val_inv
      obtain ⟨m, rfl⟩ : ∃ m : Nat, n = m := ⟨n.toNat, by omega⟩
      simp only [Int.toNat_natCast] at *
      obtain ⟨z, hzr, z1, z2, z3⟩ := zeroOf_spec hz w
      have hz' : z0 = z := by simp [zeroValue, typeInfo, hi, hzz] at hzr; exact hzr
      subst hz'
      have hrun := Go.Lib.run_append_grow_zeros (P := P) w t tn ty e i z0 kq kn hu htn hi hzz none 0 0 [] (by simp [Builtin.firstCells]) m (by omega) hsz (by omega) (by omega) (by omega) (by simpa using growslice_fits (show 0 < 0 + m by omega) (by simpa using hb))
      simp only [Nat.zero_add] at hrun
      have hge := grownCap_ge w m 0 e
      have hzs : z0.cells.size = i.size := by omega
      generalize grownCap w m 0 e = g at hrun hge
      have he : (([] : List Value).toArray ++ Builtin.zeroCells z0.cells m ++ Builtin.zeroCells z0.cells (g - m)).size = g * i.size := by
        have : m * i.size + (g - m) * i.size = g * i.size := by rw [← Nat.add_mul]; congr 1; omega
        simp [Builtin.zeroCells, hzs, this]
      obtain ⟨hd1, hd2⟩ := hs.drawn w.drew.drawn (Nat.le_succ _)
      have hgetz : ∀ j, j < m * i.size → (([] : List Value).toArray ++ Builtin.zeroCells z0.cells m ++ Builtin.zeroCells z0.cells (g - m))[j]? = z0.cells[j % i.size]? := by
        intro j hj
        rw [Array.getElem?_append_left (by simp [Builtin.zeroCells, hzs]; exact hj)]
        simp only [Array.empty_append]
        exact zeroCells_get hzs hj
      have hor : ∀ d : Ctx, d.h[w.drew.heap.size]? = some (.cells (([] : List Value).toArray ++ Builtin.zeroCells z0.cells m ++ Builtin.zeroCells z0.cells (g - m)) e (0, 0)) → ORel d (.cells i.size (List.replicate m zs)) (some w.drew.heap.size, i.size) := by
        intro d hd
        refine .cells _ e hd ?_ ?_ ?_ ?_
        · rw [he, List.length_replicate]; exact Nat.mul_le_mul_right _ hge
        · intro k el hk; obtain ⟨_, rfl⟩ := replicate_some hk; exact hzl
        · intro j v hv
          have hm : v ∈ (([] : List Value).toArray ++ Builtin.zeroCells z0.cells m ++ Builtin.zeroCells z0.cells (g - m)) := Array.mem_of_getElem? hv
          simp only [Array.mem_append] at hm
          rcases hm with (hm | hm) | hm
          · simp at hm
          · exact zeroCells_one z2 m v (by simpa using hm)
          · exact zeroCells_one z2 (g - m) v (by simpa using hm)
        · intro k el j x hk hx v hv
          obtain ⟨hk1, rfl⟩ := replicate_some hk
          have hj : j < i.size := by rw [← hzl]; exact (List.getElem?_eq_some_iff.1 hx).1
          have hrow := mul_lt_row (sz := i.size) hk1
          rw [hgetz _ (by omega), Nat.mul_comm, Nat.mul_add_mod, Nat.mod_eq_of_lt hj] at hv
          exact z3 d j x v hx hv
      have ha := hd1.alloc (.cells (([] : List Value).toArray ++ Builtin.zeroCells z0.cells m ++ Builtin.zeroCells z0.cells (g - m)) e) (.cells i.size (List.replicate m zs)) i.size (fun d hle hd => hor d hd)
      refine ⟨_, _, _, hrun, ?_, ha.1, hd2.trans ha.2⟩
      exact .own (upρ_get _ _ _ _ _) hge ⟨_, e, (0, 0), heap_alloc_new _ _, by rw [he]; exact Nat.le_refl _⟩
    · cases h
  · cases h
end Go.Abs
