
/- RecordCompare returns true for every input. Conditions: the row's own (the listed tables hold what the program's text lays). -/
import Derived.Test.YteljaomifdnkkaaGreatDoorCompareCP12
import Derived.Test.YteljaomifdnkkaaGreatDoorCompareL6
set_option linter.unusedSimpArgs false
set_option linter.unusedVariables false
namespace Go.Proofs.YteljaomifdnkkaaGreatDoor.T6
open Go.ChangeShapes Go.WideShapes Go.ChangeAt Go.RowKit Go.WK Go.WK.S
open Go.Proofs.YteljaomifdnkkaaGreatDoor.CP
set_option maxRecDepth 100000
set_option linter.unusedVariables false
set_option linter.unusedSimpArgs false

theorem lifted (os : Os) (started : os.Started) (H : Type) (enc : TypeId × Value → H) :
  ReturnsInHanded {} Tryz.checked os 6 .any (fun w args => (Rows.recordCompareSpec.pre enc Tryz.prog Tryz.f6 Rows.recordCompareRow.domain false w args ∧ laidMetH Tryz.prog Rows.recordCompareRow.laid w) ∧ sizedMet enc Tryz.prog Tryz.f6 (OpenSpec.ofChange Rows.recordCompareSpec) false w args)
   (Rows.recordCompareSpec.post enc Tryz.prog Tryz.f6 false true false false) := by
 refine returnsInHanded_of_change_and (C := Tryz.checked) (X := fun w _ => laidMetH Tryz.prog Rows.recordCompareRow.laid w) (fun _ _ _ hh h => h.of_heap hh) own started (by kernel_rfl) Tryz.func6
  (ChangeSpec.witness_shaped (enc := enc) (C := Tryz.checked) (os := os) (X := fun w _ => laidMetH Tryz.prog Rows.recordCompareRow.laid w) false (World.laidAll Tryz.prog os Rows.recordCompareRow.laid) #[.agg #[.int .i64 0, .slice none 0 0], .agg #[.int .i64 0, .slice none 0 0], .agg #[.int .i64 0, .slice none 0 0]] 8 (World.laidAll_os _ _ _)
   (World.shaped_of_ZipB (by kernel_rfl) (by kernel_rfl)) (by kernel_rfl) (by kernel_rfl) (by kernel_rfl)
   (by rw [MakeChecks.laidMetH_plain _ _ _ (by kernel_rfl)]; exact laidMet_laidAll _ (by kernel_rfl) (by kernel_rfl))) ?_
 intro W base args ds gs before hval0 hW hc hsz0 hL _
 have hval : ∀ (j : Nat) t v, Tryz.f6.params[j]? = some t → args[j]? = some v → Value.okWide Tryz.prog W .any base t v := hval0
 have hsz : (DataW.weightsEach Tryz.prog (Tryz.f6.params.toList ++ Rows.recordCompareSpec.plain.varTypes Tryz.prog) (ds ++ gs)).all (· ≤ reachBytes) = true := hsz0
 have hW' := hW
 obtain ⟨p, q, hA0, hV, rfl, _, _⟩ := hW
 have hA : DataW.TrodAll enc Tryz.prog W 0 (fun _ => true) true Tryz.f6.params.toList args.toList ds p := hA0
 rw [Tryz.params6] at hA hval hsz
 obtain ⟨v0, vs0, d0, ds0, p0, q0, hargs, rfl, rfl, h0, r0⟩ := trodAll_cons hA
 obtain ⟨v1, vs1, d1, ds1, p1, q1, rfl, rfl, rfl, h1, r1⟩ := trodAll_cons r0
 obtain ⟨v2, vs2, d2, ds2, p2, q2, rfl, rfl, rfl, h2, r2⟩ := trodAll_cons r1
 obtain ⟨rfl, rfl, rfl⟩ := trodAll_nil r2
 obtain rfl : args = #[v0, v1, v2] := by cases args; simp_all
 obtain ⟨rfl, rfl⟩ := trodVars_none hV
 obtain ⟨cs0, rfl, a0, k0⟩ := arg_struct Tryz.underlying24 rd24 (hval 0 24 v0 rfl rfl) h0 (wt hsz 0 rfl rfl)
 obtain ⟨s0, rfl, _⟩ := op24 k0
 obtain ⟨cs1, rfl, a1, k1⟩ := arg_struct Tryz.underlying24 rd24 (hval 1 24 v1 rfl rfl) h1 (wt hsz 1 rfl rfl)
 obtain ⟨s1, rfl, _⟩ := op24 k1
 obtain ⟨cs2, rfl, a2, k2⟩ := arg_struct Tryz.underlying24 rd24 (hval 2 24 v2 rfl rfl) h2 (wt hsz 2 rfl rfl)
 obtain ⟨s2, rfl, _⟩ := op24 k2
 have tab := tabs (show laidMetH Tryz.prog Rows.recordTextRow.laid W from hL)
 clear hA0 hval0 hsz0 hsz
 refine ((f6_spec (law6 a0 a1 a2 )).calls W (List.forall_mem_cons.2 ⟨k0, List.forall_mem_cons.2 ⟨k1, List.forall_mem_cons.2 ⟨k2, List.forall_mem_cons.2 ⟨tab, fun _ hf => by cases hf⟩⟩⟩⟩)).mono fun e W' ⟨v, fs', he, hp, bel⟩ => ?_
 obtain ⟨rfl, rfl⟩ := hp
 subst he
 exact ⟨_, rfl, _, _, _, [], _, [], hW', trodAll_mk1 (shut_bool Tryz.underlying4 _), trodAll_cons_mk (Below.trod laidOut (by kernel_rfl) (of_decide_eq_true (by kernel_rfl)) h0 bel (arg_lt h0)) (trodAll_cons_mk (Below.trod laidOut (by kernel_rfl) (of_decide_eq_true (by kernel_rfl)) h1 bel (arg_lt h1)) (trodAll_cons_mk (Below.trod laidOut (by kernel_rfl) (of_decide_eq_true (by kernel_rfl)) h2 bel (arg_lt h2)) (trodAll_mk0))), rfl, bel.frame _, fun h => by cases h⟩

theorem row : Rows.RecordCompareSaid :=
 OpenClaim.holds_of_wide 6 Tryz.f6 rfl rfl rfl rfl rfl rfl rfl ⟨rfl, rfl, rfl, rfl, rfl⟩ rfl rfl rfl rfl rfl (by kernel_rfl) Tryz.func6 (by kernel_rfl)
  (of_decide_eq_true (by kernel_rfl)) (by unfold Func.isWrapper; first | (rw [if_pos (by decide +kernel)]; kernel_rfl) | (rw [if_neg (by decide +kernel)]; exact ⟨rfl, rfl⟩))
  (fun os started H enc _ => lifted os started H enc)
end Go.Proofs.YteljaomifdnkkaaGreatDoor.T6
namespace Go.Proofs.YteljaomifdnkkaaGreatDoor
theorem recordCompare_card_holds : Rows.RecordCompareCardSaid :=
 Claim7.holds_tied_plain_at .later [] [.data, .data, .data, .data, .sentinel, .sentinel, .pinned] true (true, "d43a6c8994df462c311e2f9e5198f37be45320e824a7cd0403fa17790842f781") true T6.row (fun _ h => by cases h) (by kernel_rfl) (fun _ h => by cases h) recordCompare_row_tie rfl ⟨rfl, rfl⟩ (by kernel_rfl) rfl
  (fun f fn hf hfn => by
   obtain rfl : f = 6 := Option.some.inj ((show Tryz.prog.funcNamed "bookplate/bookplatelaw12.RecordCompare" = some 6 by kernel_rfl).symm.trans hf) |>.symm
   obtain rfl : fn = Tryz.f6 := (Option.some.inj (Tryz.func6.symm.trans hfn)).symm
   exact ⟨by kernel_rfl, fun j t ht => by
    rw [Tryz.params6] at ht
    have hm : t ∈ [24, 24, 24] := by simpa using Array.mem_of_getElem? ht
    have hall : ([24, 24, 24].all fun u => !Tryz.prog.wantsStandIn u) = true := by kernel_rfl
    exact (show Tryz.prog.wantsStandIn t = false by simpa using List.all_eq_true.1 hall t hm)⟩)
  (by kernel_rfl)
#print axioms recordCompare_card_holds
end Go.Proofs.YteljaomifdnkkaaGreatDoor
