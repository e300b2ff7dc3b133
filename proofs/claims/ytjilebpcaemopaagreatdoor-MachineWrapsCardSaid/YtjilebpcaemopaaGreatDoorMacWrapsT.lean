/- MachineWraps: whatever the input, the law returns true and what was handed in reads as before. Condition: the listed variables of Go's library hold what its text lays (tied). -/
import Derived.Test.YtjilebpcaemopaaGreatDoorRows
import Derived.Test.YtjilebpcaemopaaGreatDoorTie
import Derived.Test.YtjilebpcaemopaaGreatDoorCards
import Derived.LaidMore
import Derived.Lay
import Derived.SevenTiedAt
import Derived.Stop.Joined
import Derived.Test.YtjilebpcaemopaaGreatDoorAbsN
import Derived.Test.YtjilebpcaemopaaGreatDoorMacWrapsP
set_option linter.unusedVariables false
set_option linter.unusedSimpArgs false
set_option linter.deprecated false
namespace Go.Proofs.YtjilebpcaemopaaGreatDoor
open Go Go.ChangeShapes Go.WideShapes Go.ChangeAt Go.RowKit Go.Abs Go.Abs.At Go.Abs.Mac
open Go.ChangeMaps (open_string shut_string)

theorem own : ownKnob Tryz.prog.godebug = none := by kernel_rfl
theorem laidOut : laidOutB Tryz.prog = true := by kernel_rfl
theorem closed : qT Tryz.prog [31, 23, 2, 3, 5, 9, 24, 25, 94, 28, 26, 29, 33] = true := by kernel_rfl
theorem tys : Tys Tryz.prog 5 3 23 94 28 31 24 25 26 29 where
  u := by kernel_rfl
  i := by kernel_rfl
  h := by kernel_rfl
  atom := by kernel_rfl
  rt := by kernel_rfl
  at' := by kernel_rfl
  uSI := by kernel_rfl
  uSAtom := by kernel_rfl
  uSRT := by kernel_rfl
  uSAT := by kernel_rfl
  cRT := by kernel_rfl
  cAT := by kernel_rfl
  cAtom := by kernel_rfl
  cI := by kernel_rfl
noncomputable abbrev zA0 : Value := .agg #[.int .u8 0, .int .u8 0, .int .i64 0, .int .i64 0, .string ByteArray.empty, .string ByteArray.empty, .string ByteArray.empty, .int .i64 0, .slice none 0 0, .slice none 0 0, .int .u8 0, .int .i64 0, .slice none 0 0, .slice none 0 0, .int .u8 0, .int .i64 0, .slice none 0 0, .slice none 0 0, .slice none 0 0]

set_option maxRecDepth 100000 in
theorem wraps_lifted (os : Os) (started : os.Started) (H : Type) (enc : TypeId × Value → H) :
    ReturnsInHanded {} Tryz.checked os 8 .any (fun w args => (Rows.machineWrapsSpec.pre enc Tryz.prog Tryz.f8 Rows.machineWrapsRow.domain false w args ∧ laidMetH Tryz.prog Rows.machineWrapsRow.laid w) ∧ sizedMet enc Tryz.prog Tryz.f8 (OpenSpec.ofChange Rows.machineWrapsSpec) false w args)
      (Rows.machineWrapsSpec.post enc Tryz.prog Tryz.f8 false true false false) := by
  refine returnsInHanded_of_change_and (C := Tryz.checked) (X := fun w _ => laidMetH Tryz.prog Rows.machineWrapsRow.laid w) (fun _ _ _ hh h => h.of_heap hh) own started (by kernel_rfl) Tryz.func8
    (ChangeSpec.witness_shaped (enc := enc) (C := Tryz.checked) (os := os) (X := fun w _ => laidMetH Tryz.prog Rows.machineWrapsRow.laid w) false (World.laidAll Tryz.prog os Rows.machineWrapsRow.laid) #[zA0, .int .i64 0, .agg #[.int .i64 0, .int .i64 0], .int .i64 0] 8 (World.laidAll_os _ _ _)
      (World.shaped_of_ZipB (by kernel_rfl) (by kernel_rfl)) (by kernel_rfl) (by kernel_rfl) (by kernel_rfl)
      (by rw [MakeChecks.laidMetH_plain _ _ _ (by kernel_rfl)]; exact laidMet_laidAll _ (by kernel_rfl) (by kernel_rfl))) ?_
  intro W base args ds gs before hval0 hW hcnd _ _ _
  have hval : ∀ (j : Nat) t v, Tryz.f8.params[j]? = some t → args[j]? = some v → Value.okWide Tryz.prog W .any base t v := hval0
  have hW' := hW
  obtain ⟨p, q, hA0, hV, rfl, hfz, hnd⟩ := hW
  have hA : DataW.TrodAll enc Tryz.prog W 0 (fun _ => true) true Tryz.f8.params.toList args.toList ds p := hA0
  rw [Tryz.params8] at hA hval
  obtain ⟨v0, vs0, d0, ds0, p0, q0, hargs, rfl, rfl, h0, r0⟩ := trodAll_cons hA
  obtain ⟨v1, vs1, d1, ds1, p1, q1, rfl, rfl, rfl, h1, r1⟩ := trodAll_cons r0
  obtain ⟨v2, vs2, d2, ds2, p2, q2, rfl, rfl, rfl, h2, r2⟩ := trodAll_cons r1
  obtain ⟨v3, vs3, d3, ds3, p3, q3, rfl, rfl, rfl, h3, r3⟩ := trodAll_cons r2
  obtain ⟨rfl, rfl, rfl⟩ := trodAll_nil r3
  obtain rfl : args = #[v0, v1, v2, v3] := by cases args; simp_all
  obtain ⟨rfl, rfl⟩ := trodVars_none hV
  have lt0 : ∀ x ∈ p0, x.block < W.heap.size := by obtain ⟨m, hm⟩ := h0; exact DataW.trod_lt m _ _ _ hm
  have lt1 : ∀ x ∈ p1, x.block < W.heap.size := by obtain ⟨m, hm⟩ := h1; exact DataW.trod_lt m _ _ _ hm
  have lt2 : ∀ x ∈ p2, x.block < W.heap.size := by obtain ⟨m, hm⟩ := h2; exact DataW.trod_lt m _ _ _ hm
  have lt3 : ∀ x ∈ p3, x.block < W.heap.size := by obtain ⟨m, hm⟩ := h3; exact DataW.trod_lt m _ _ _ hm
  obtain ⟨cs0, rfl⟩ := gM Tryz.underlying31 (hval 0 31 v0 rfl rfl)
  obtain ⟨n1, rfl, rfl, rfl, w1⟩ := open_int Tryz.underlying2 (hval 1 2 v1 rfl rfl) h1
  obtain ⟨cs2, rfl⟩ := gM Tryz.underlying33 (hval 2 33 v2 rfl rfl)
  obtain ⟨n3, rfl, rfl, rfl, w3⟩ := open_int Tryz.underlying3 (hval 3 3 v3 rfl rfl) h3
  obtain ⟨x0, rx0, dx0⟩ := j8 closed (by decide) h0
  obtain ⟨x2, rx2, dx2⟩ := j8 closed (by decide) h2
  obtain ⟨t, rfl, hfit⟩ := tys.aterm _ _ (Nat.le_refl _) dx0
  obtain ⟨_, _, rfl, ⟨R, rfl, _⟩, _, _, rfl, ⟨C, rfl, _⟩, rfl⟩ := dC 9 33 [.i .i64, .i .i64] _ (by kernel_rfl) dx2
  clear hA0 hval0
  refine (qS (qO rx0 (.val _) rx2 (.val _)) ⟨_, Tryz.func8, by kernel_rfl, by kernel_rfl⟩ (w9 hfit (tys.kinds _ _ (Nat.le_refl _) dx0) rfl)).mono fun e W' ⟨he, bel⟩ => ?_
  subst he
  exact ⟨_, rfl, _, _, _, [], _, [], hW', trodAll_mk1 (shut_bool Tryz.underlying4 _), (trodAll_cons_mk (Below.trod laidOut (by kernel_rfl) (of_decide_eq_true (by kernel_rfl)) h0 bel lt0) (trodAll_cons_mk (Below.trod laidOut (by kernel_rfl) (of_decide_eq_true (by kernel_rfl)) h1 bel lt1) (trodAll_cons_mk (Below.trod laidOut (by kernel_rfl) (of_decide_eq_true (by kernel_rfl)) h2 bel lt2) (trodAll_cons_mk (Below.trod laidOut (by kernel_rfl) (of_decide_eq_true (by kernel_rfl)) h3 bel lt3) trodAll_mk0)))), rfl, bel.frame _, fun h => by cases h⟩

theorem wraps_row_holds : Rows.MachineWrapsSaid :=
  OpenClaim.holds_of_wide 8 Tryz.f8 rfl rfl rfl rfl rfl rfl rfl ⟨rfl, rfl, rfl, rfl, rfl⟩ rfl rfl rfl rfl rfl (by kernel_rfl) Tryz.func8 (by kernel_rfl)
    (of_decide_eq_true (by kernel_rfl)) (by unfold Func.isWrapper; first | (rw [if_pos (by decide +kernel)]; kernel_rfl) | (rw [if_neg (by decide +kernel)]; exact ⟨rfl, rfl⟩))
    (fun os started H enc _ => wraps_lifted os started H enc)
theorem wraps_holds : Rows.MachineWrapsCardSaid :=
  Claim7.holds_tied_plain_at .later [] [.data, .pinned] true (true, "e19047e29904f4a3a5895d4df61e7997278f9f98fe71f891747ba0958bfddfc8") true wraps_row_holds (fun _ h => by cases h) (by kernel_rfl) (fun _ h => by cases h) machineWraps_row_tie rfl ⟨rfl, rfl⟩ (by kernel_rfl) rfl
    (fun f fn hf hfn => by
      obtain rfl : f = 8 := Option.some.inj ((show Tryz.prog.funcNamed "enclave/enclavelaw20.MachineWraps" = some 8 by kernel_rfl).symm.trans hf) |>.symm
      obtain rfl : fn = Tryz.f8 := (Option.some.inj (Tryz.func8.symm.trans hfn)).symm
      exact ⟨by kernel_rfl, fun j t ht => by
        rw [Tryz.params8] at ht
        have hm : t ∈ [31, 2, 33, 3] := by simpa using Array.mem_of_getElem? ht
        have hall : ([31, 2, 33, 3].all fun u => !Tryz.prog.wantsStandIn u) = true := by kernel_rfl
        exact (show Tryz.prog.wantsStandIn t = false by simpa using List.all_eq_true.1 hall t hm)⟩)
    (by kernel_rfl)
#print axioms wraps_holds

end Go.Proofs.YtjilebpcaemopaaGreatDoor
