
/- CrosswalkMaps returns true for every input. Conditions: the row's own (the listed tables of unicode/utf8 hold what the program's text lays). -/
import Derived.Test.YtidmlhihfanglaaGreatDoorMapsCP
import Derived.Test.YtidmlhihfanglaaGreatDoorMapsPW
set_option linter.unusedSimpArgs false
set_option linter.unusedVariables false
namespace Go.Proofs.YtidmlhihfanglaaGreatDoor.T9
open Go.ChangeShapes Go.WideShapes Go.ChangeAt Go.RowKit Go.WK Go.WK.S
open Go.Proofs.YtidmlhihfanglaaGreatDoor.CP
set_option maxRecDepth 100000

theorem lifted (os : Os) (started : os.Started) (H : Type) (enc : TypeId × Value → H) :
  ReturnsInHanded {} Tryz.checked os 9 .any (fun w args => (Rows.crosswalkMapsSpec.pre enc Tryz.prog Tryz.f9 Rows.crosswalkMapsRow.domain false w args ∧ laidMetH Tryz.prog Rows.crosswalkMapsRow.laid w) ∧ sizedMet enc Tryz.prog Tryz.f9 (OpenSpec.ofChange Rows.crosswalkMapsSpec) false w args)
   (Rows.crosswalkMapsSpec.post enc Tryz.prog Tryz.f9 false true false false) := by
 refine returnsInHanded_of_change_and (C := Tryz.checked) (X := fun w _ => laidMetH Tryz.prog Rows.crosswalkMapsRow.laid w) (fun _ _ _ hh h => h.of_heap hh) own started (by kernel_rfl) Tryz.func9
  (ChangeSpec.witness_shaped (enc := enc) (C := Tryz.checked) (os := os) (X := fun w _ => laidMetH Tryz.prog Rows.crosswalkMapsRow.laid w) false (World.laidAll Tryz.prog os Rows.crosswalkMapsRow.laid) #[.slice none 0 0, .slice none 0 0] 8 (World.laidAll_os _ _ _)
   (World.shaped_of_ZipB (by kernel_rfl) (by kernel_rfl)) (by kernel_rfl) (by kernel_rfl) (by kernel_rfl)
   (by rw [MakeChecks.laidMetH_plain _ _ _ (by kernel_rfl)]; exact laidMet_laidAll _ (by kernel_rfl) (by kernel_rfl))) ?_
 intro W base args ds gs before hval0 hW hc hsz0 hL _
 have hval : ∀ (j : Nat) t v, Tryz.f9.params[j]? = some t → args[j]? = some v → Value.okWide Tryz.prog W .any base t v := hval0
 have hsz : (DataW.weightsEach Tryz.prog (Tryz.f9.params.toList ++ Rows.crosswalkMapsSpec.plain.varTypes Tryz.prog) (ds ++ gs)).all (· ≤ reachBytes) = true := hsz0
 have hW' := hW
 obtain ⟨p, q, hA0, hV, rfl, _, _⟩ := hW
 have hA : DataW.TrodAll enc Tryz.prog W 0 (fun _ => true) true Tryz.f9.params.toList args.toList ds p := hA0
 rw [Tryz.params9] at hA hval hsz
 obtain ⟨v0, vs0, d0, ds0, p0, q0, hargs, rfl, rfl, h0, r0⟩ := trodAll_cons hA
 obtain ⟨v1, vs1, d1, ds1, p1, q1, rfl, rfl, rfl, h1, r1⟩ := trodAll_cons r0
 obtain ⟨rfl, rfl, rfl⟩ := trodAll_nil r1
 obtain rfl : args = #[v0, v1] := by cases args; simp_all
 obtain ⟨rfl, rfl⟩ := trodVars_none hV
 obtain ⟨a0, k0⟩ := arg_slice Tryz.underlying22 rd22 (hval 0 22 v0 rfl rfl) h0 (wt hsz 0 rfl rfl)
 have i0 := Ty.pure _ k0
 obtain ⟨a1, k1⟩ := arg_slice Tryz.underlying22 rd22 (hval 1 22 v1 rfl rfl) h1 (wt hsz 1 rfl rfl)
 have i1 := Ty.pure _ k1
 have tab := tabs hL
 clear hA0 hval0 hsz0 hsz
 refine ((f9_spec (law9 a0 a1 (by have := i0.2.1; simp only [ty50_bytes] at this; omega) (fun x hx => by have := (i0.2.2 x hx).2.2.2.1; simp only [ty83_bytes] at this; omega) (by have := i1.2.1; simp only [ty50_bytes] at this; omega) (fun x hx => by have := (i1.2.2 x hx).2.2.2.1; simp only [ty83_bytes] at this; omega))).calls W (List.forall_mem_cons.2 ⟨k0, List.forall_mem_cons.2 ⟨k1, List.forall_mem_cons.2 ⟨tab, fun _ hf => by cases hf⟩⟩⟩)).mono fun e W' ⟨v, fs', he, hp, bel⟩ => ?_
 obtain ⟨rfl, rfl⟩ := hp
 subst he
 exact ⟨_, rfl, _, _, _, [], _, [], hW', trodAll_mk1 (shut_bool Tryz.underlying4 _), trodAll_cons_mk (Below.trod laidOut (by kernel_rfl) (of_decide_eq_true (by kernel_rfl)) h0 bel (arg_lt h0)) (trodAll_cons_mk (Below.trod laidOut (by kernel_rfl) (of_decide_eq_true (by kernel_rfl)) h1 bel (arg_lt h1)) (trodAll_mk0)), rfl, bel.frame _, fun h => by cases h⟩

theorem row : Rows.CrosswalkMapsSaid :=
 OpenClaim.holds_of_wide 9 Tryz.f9 rfl rfl rfl rfl rfl rfl rfl ⟨rfl, rfl, rfl, rfl, rfl⟩ rfl rfl rfl rfl rfl (by kernel_rfl) Tryz.func9 (by kernel_rfl)
  (of_decide_eq_true (by kernel_rfl)) (by unfold Func.isWrapper; first | (rw [if_pos (by decide +kernel)]; kernel_rfl) | (rw [if_neg (by decide +kernel)]; exact ⟨rfl, rfl⟩))
  (fun os started H enc _ => lifted os started H enc)
end Go.Proofs.YtidmlhihfanglaaGreatDoor.T9
namespace Go.Proofs.YtidmlhihfanglaaGreatDoor
theorem crosswalkMaps_card_holds : Rows.CrosswalkMapsCardSaid :=
 Claim7.holds_tied_plain_at .later [] [.data, .pinned] true (true, "b51539c91879ec4d38396b6d5a412dac17c0dbd311ff94de4a9d5724e940a2a1") false T9.row (fun _ h => by cases h) (by kernel_rfl) (fun _ h => by cases h) crosswalkMaps_row_tie rfl ⟨rfl, rfl⟩ (by kernel_rfl) rfl
  (fun f fn hf hfn => by
   obtain rfl : f = 9 := Option.some.inj ((show Tryz.prog.funcNamed "bookplate/bookplatelaw16.CrosswalkMaps" = some 9 by kernel_rfl).symm.trans hf) |>.symm
   obtain rfl : fn = Tryz.f9 := (Option.some.inj (Tryz.func9.symm.trans hfn)).symm
   exact ⟨by kernel_rfl, fun j t ht => by
    rw [Tryz.params9] at ht
    have hm : t ∈ [22, 22] := by simpa using Array.mem_of_getElem? ht
    have hall : ([22, 22].all fun u => !Tryz.prog.wantsStandIn u) = true := by kernel_rfl
    exact (show Tryz.prog.wantsStandIn t = false by simpa using List.all_eq_true.1 hall t hm)⟩)
  (by kernel_rfl)
#print axioms crosswalkMaps_card_holds
end Go.Proofs.YtidmlhihfanglaaGreatDoor
