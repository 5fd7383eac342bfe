
/- RecordLines returns true for every input. Conditions: the row's own (the listed tables hold what the program's text lays). -/
import Derived.Test.YteljaomifdnkkaaGreatDoorLinesCP12
import Derived.Test.YteljaomifdnkkaaGreatDoorLinesL4
set_option linter.unusedSimpArgs false
set_option linter.unusedVariables false
namespace Go.Proofs.YteljaomifdnkkaaGreatDoor.T4
open Go.ChangeShapes Go.WideShapes Go.ChangeAt Go.RowKit Go.WK Go.WK.S
open Go.Proofs.YteljaomifdnkkaaGreatDoor.CP
set_option maxRecDepth 100000
set_option linter.unusedVariables false
set_option linter.unusedSimpArgs false

theorem lifted (os : Os) (started : os.Started) (H : Type) (enc : TypeId × Value → H) :
  ReturnsInHanded {} Tryz.checked os 4 .any (fun w args => (Rows.recordLinesSpec.pre enc Tryz.prog Tryz.f4 Rows.recordLinesRow.domain false w args ∧ laidMetH Tryz.prog Rows.recordLinesRow.laid w) ∧ sizedMet enc Tryz.prog Tryz.f4 (OpenSpec.ofChange Rows.recordLinesSpec) false w args)
   (Rows.recordLinesSpec.post enc Tryz.prog Tryz.f4 false true false false) := by
 refine returnsInHanded_of_change_and (C := Tryz.checked) (X := fun w _ => laidMetH Tryz.prog Rows.recordLinesRow.laid w) (fun _ _ _ hh h => h.of_heap hh) own started (by kernel_rfl) Tryz.func4
  (ChangeSpec.witness_shaped (enc := enc) (C := Tryz.checked) (os := os) (X := fun w _ => laidMetH Tryz.prog Rows.recordLinesRow.laid w) false (World.laidAll Tryz.prog os Rows.recordLinesRow.laid) #[.string ByteArray.empty, .string ByteArray.empty] 8 (World.laidAll_os _ _ _)
   (World.shaped_of_ZipB (by kernel_rfl) (by kernel_rfl)) (by kernel_rfl) (by kernel_rfl) (by kernel_rfl)
   (by rw [MakeChecks.laidMetH_plain _ _ _ (by kernel_rfl)]; exact laidMet_laidAll _ (by kernel_rfl) (by kernel_rfl))) ?_
 intro W base args ds gs before hval0 hW hc hsz0 hL _
 have hval : ∀ (j : Nat) t v, Tryz.f4.params[j]? = some t → args[j]? = some v → Value.okWide Tryz.prog W .any base t v := hval0
 have hsz : (DataW.weightsEach Tryz.prog (Tryz.f4.params.toList ++ Rows.recordLinesSpec.plain.varTypes Tryz.prog) (ds ++ gs)).all (· ≤ reachBytes) = true := hsz0
 have hW' := hW
 obtain ⟨p, q, hA0, hV, rfl, _, _⟩ := hW
 have hA : DataW.TrodAll enc Tryz.prog W 0 (fun _ => true) true Tryz.f4.params.toList args.toList ds p := hA0
 rw [Tryz.params4] at hA hval hsz
 obtain ⟨v0, vs0, d0, ds0, p0, q0, hargs, rfl, rfl, h0, r0⟩ := trodAll_cons hA
 obtain ⟨v1, vs1, d1, ds1, p1, q1, rfl, rfl, rfl, h1, r1⟩ := trodAll_cons r0
 obtain ⟨rfl, rfl, rfl⟩ := trodAll_nil r1
 obtain rfl : args = #[v0, v1] := by cases args; simp_all
 obtain ⟨rfl, rfl⟩ := trodVars_none hV
 obtain ⟨a0, rfl, k0⟩ := arg_str Tryz.underlying9 (by kernel_rfl) (hval 0 9 v0 rfl rfl) h0 (wt hsz 0 rfl rfl)
 obtain ⟨a1, rfl, k1⟩ := arg_str Tryz.underlying9 (by kernel_rfl) (hval 1 9 v1 rfl rfl) h1 (wt hsz 1 rfl rfl)
 have tab := tabs (show laidMetH Tryz.prog Rows.recordTextRow.laid W from hL)
 clear hA0 hval0 hsz0 hsz
 refine ((f4_spec (law4 a0 a1 )).calls W (List.forall_mem_cons.2 ⟨k0, List.forall_mem_cons.2 ⟨k1, List.forall_mem_cons.2 ⟨tab, fun _ hf => by cases hf⟩⟩⟩)).mono fun e W' ⟨v, fs', he, hp, bel⟩ => ?_
 obtain ⟨rfl, rfl⟩ := hp
 subst he
 exact ⟨_, rfl, _, _, _, [], _, [], hW', trodAll_mk1 (shut_bool Tryz.underlying4 _), trodAll_cons_mk (Below.trod laidOut (by kernel_rfl) (of_decide_eq_true (by kernel_rfl)) h0 bel (arg_lt h0)) (trodAll_cons_mk (Below.trod laidOut (by kernel_rfl) (of_decide_eq_true (by kernel_rfl)) h1 bel (arg_lt h1)) (trodAll_mk0)), rfl, bel.frame _, fun h => by cases h⟩

theorem row : Rows.RecordLinesSaid :=
 OpenClaim.holds_of_wide 4 Tryz.f4 rfl rfl rfl rfl rfl rfl rfl ⟨rfl, rfl, rfl, rfl, rfl⟩ rfl rfl rfl rfl rfl (by kernel_rfl) Tryz.func4 (by kernel_rfl)
  (of_decide_eq_true (by kernel_rfl)) (by unfold Func.isWrapper; first | (rw [if_pos (by decide +kernel)]; kernel_rfl) | (rw [if_neg (by decide +kernel)]; exact ⟨rfl, rfl⟩))
  (fun os started H enc _ => lifted os started H enc)
end Go.Proofs.YteljaomifdnkkaaGreatDoor.T4
namespace Go.Proofs.YteljaomifdnkkaaGreatDoor
theorem recordLines_card_holds : Rows.RecordLinesCardSaid :=
 Claim7.holds_tied_plain_at .later [] [.data, .data, .data, .data, .sentinel, .sentinel, .pinned] true (true, "d43a6c8994df462c311e2f9e5198f37be45320e824a7cd0403fa17790842f781") true T4.row (fun _ h => by cases h) (by kernel_rfl) (fun _ h => by cases h) recordLines_row_tie rfl ⟨rfl, rfl⟩ (by kernel_rfl) rfl
  (fun f fn hf hfn => by
   obtain rfl : f = 4 := Option.some.inj ((show Tryz.prog.funcNamed "bookplate/bookplatelaw12.RecordLines" = some 4 by kernel_rfl).symm.trans hf) |>.symm
   obtain rfl : fn = Tryz.f4 := (Option.some.inj (Tryz.func4.symm.trans hfn)).symm
   exact ⟨by kernel_rfl, fun j t ht => by
    rw [Tryz.params4] at ht
    have hm : t ∈ [9, 9] := by simpa using Array.mem_of_getElem? ht
    have hall : ([9, 9].all fun u => !Tryz.prog.wantsStandIn u) = true := by kernel_rfl
    exact (show Tryz.prog.wantsStandIn t = false by simpa using List.all_eq_true.1 hall t hm)⟩)
  (by kernel_rfl)
#print axioms recordLines_card_holds
end Go.Proofs.YteljaomifdnkkaaGreatDoor
