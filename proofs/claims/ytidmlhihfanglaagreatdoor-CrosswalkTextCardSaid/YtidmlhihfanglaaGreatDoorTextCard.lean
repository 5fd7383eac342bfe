/- CrosswalkText returns true for every input: the program's map out of a text is the specified one, and the text of a map is read back. Conditions: the row's own (the listed tables of unicode/utf8 hold what the program's text lays). -/
import Derived.Test.YtidmlhihfanglaaGreatDoorRows
import Derived.Test.YtidmlhihfanglaaGreatDoorTie
import Derived.Test.YtidmlhihfanglaaGreatDoorCards
import Derived.Test.YtidmlhihfanglaaGreatDoorTextPC
import Derived.Test.YtidmlhihfanglaaGreatDoorKM
import Derived.WalkKit
import Derived.ProofKit
import Derived.OpenShut
import Derived.LaidMore
import Derived.Lay
import Derived.Below
import Derived.SevenTiedAt
import Derived.Stop.Joined
namespace Go.Proofs.YtidmlhihfanglaaGreatDoor.T4
open Go.ChangeShapes Go.WideShapes Go.ChangeAt Go.RowKit Go.WK Go.WK.S
set_option maxRecDepth 100000

theorem own : ownKnob Tryz.prog.godebug = none := by kernel_rfl
theorem laidOut : laidOutB Tryz.prog = true := by kernel_rfl
theorem rd9 : Rdr Tryz.prog 9 1 (Is Ty.str) := rdr_str Tryz.underlying9 (by kernel_rfl)
theorem rd5 : Rdr Tryz.prog 5 1 (Is Ty.u8) := rdr_u8 Tryz.underlying5 (by kernel_rfl)
theorem rd83 : Rdr Tryz.prog 83 2 (Is ty83) := (rdr_struct Tryz.underlying83 (by kernel_rfl) (.cons rfl rd5 (.cons rfl rd5 .nil))).imp fun W cs h => by
  obtain ⟨c1, r1, rfl, ⟨x1, h1⟩, c2, r2, rfl, ⟨x2, h2⟩, rfl⟩ := h
  exact ⟨⟨x1, x2⟩, c1, c2, by simp, h1, h2⟩
theorem rd48 : Rdr Tryz.prog 48 1 (Is (Ty.slice ty83)) := rdr_slice Tryz.underlying48 (by kernel_rfl) rd83 (by kernel_rfl)
theorem rd50 : Rdr Tryz.prog 50 3 (Is ty50) := (rdr_struct Tryz.underlying50 (by kernel_rfl) (.cons rfl rd9 (.cons rfl rd9 (.cons rfl rd48 .nil)))).imp fun W cs h => by
  obtain ⟨c1, r1, rfl, ⟨x1, h1⟩, c2, r2, rfl, ⟨x2, h2⟩, c3, r3, rfl, ⟨x3, h3⟩, rfl⟩ := h
  exact ⟨⟨x1, x2, x3⟩, c1, c2 ++ c3, by simp, h1, c2, c3, rfl, h2, h3⟩
theorem rd22 : Rdr Tryz.prog 22 1 (Is (Ty.slice ty50)) := rdr_slice Tryz.underlying22 (by kernel_rfl) rd50 (by kernel_rfl)

theorem lifted (os : Os) (started : os.Started) (H : Type) (enc : TypeId × Value → H) :
    ReturnsInHanded {} Tryz.checked os 4 .any (fun w args => (Rows.crosswalkTextSpec.pre enc Tryz.prog Tryz.f4 Rows.crosswalkTextRow.domain false w args ∧ laidMetH Tryz.prog Rows.crosswalkTextRow.laid w) ∧ sizedMet enc Tryz.prog Tryz.f4 (OpenSpec.ofChange Rows.crosswalkTextSpec) false w args)
      (Rows.crosswalkTextSpec.post enc Tryz.prog Tryz.f4 false true false false) := by
  refine returnsInHanded_of_change_and (C := Tryz.checked) (X := fun w _ => laidMetH Tryz.prog Rows.crosswalkTextRow.laid w) (fun _ _ _ hh h => h.of_heap hh) own started (by kernel_rfl) Tryz.func4
    (ChangeSpec.witness_shaped (enc := enc) (C := Tryz.checked) (os := os) (X := fun w _ => laidMetH Tryz.prog Rows.crosswalkTextRow.laid w) false (World.laidAll Tryz.prog os Rows.crosswalkTextRow.laid) #[.string ByteArray.empty, .slice none 0 0] 8 (World.laidAll_os _ _ _)
      (World.shaped_of_ZipB (by kernel_rfl) (by kernel_rfl)) (by kernel_rfl) (by kernel_rfl) (by kernel_rfl)
      (by rw [MakeChecks.laidMetH_plain _ _ _ (by kernel_rfl)]; exact laidMet_laidAll _ (by kernel_rfl) (by kernel_rfl))) ?_
  intro W base args ds gs before hval0 hW hc hsz0 hL _
  have hval : ∀ (j : Nat) t v, Tryz.f4.params[j]? = some t → args[j]? = some v → Value.okWide Tryz.prog W .any base t v := hval0
  have hsz : (DataW.weightsEach Tryz.prog (Tryz.f4.params.toList ++ Rows.crosswalkTextSpec.plain.varTypes Tryz.prog) (ds ++ gs)).all (· ≤ reachBytes) = true := hsz0
  have hW' := hW
  obtain ⟨p, q, hA0, hV, rfl, _, _⟩ := hW
  have hA : DataW.TrodAll enc Tryz.prog W 0 (fun _ => true) true Tryz.f4.params.toList args.toList ds p := hA0
  rw [Tryz.params4] at hA hval hsz
  obtain ⟨v0, vs0, d0, ds0, p0, q0, hargs, rfl, rfl, h0, r0⟩ := trodAll_cons hA
  obtain ⟨v1, vs1, d1, ds1, p1, q1, rfl, rfl, rfl, h1, r1⟩ := trodAll_cons r0
  obtain ⟨rfl, rfl, rfl⟩ := trodAll_nil r1
  obtain rfl : args = #[v0, v1] := by cases args; simp_all
  obtain ⟨rfl, rfl⟩ := trodVars_none hV
  obtain ⟨a0, rfl, k0⟩ := arg_str Tryz.underlying9 (by kernel_rfl) (hval 0 9 v0 rfl rfl) h0 (wt hsz 0 rfl rfl)
  obtain ⟨a1, k1⟩ := arg_slice Tryz.underlying22 rd22 (hval 1 22 v1 rfl rfl) h1 (wt hsz 1 rfl rfl)
  have i1 := Ty.pure _ k1
  clear hA0 hval0 hsz0 hsz
  refine ((f4_spec (law4 a0 a1 (by have := i1.2.1; simp only [ty50_bytes] at this; omega) (fun x hx => by have := (i1.2.2 x hx).2.2.2.1; simp only [ty83_bytes] at this; omega))).calls W (List.forall_mem_cons.2 ⟨k0, List.forall_mem_cons.2 ⟨k1, fun _ hf => by cases hf⟩⟩)).mono fun e W' ⟨v, fs', he, hp, bel⟩ => ?_
  obtain ⟨rfl, rfl⟩ := hp
  subst he
  exact ⟨_, rfl, _, _, _, [], _, [], hW', trodAll_mk1 (shut_bool Tryz.underlying4 _), trodAll_cons_mk (Below.trod laidOut (by kernel_rfl) (of_decide_eq_true (by kernel_rfl)) h0 bel (arg_lt h0)) (trodAll_cons_mk (Below.trod laidOut (by kernel_rfl) (of_decide_eq_true (by kernel_rfl)) h1 bel (arg_lt h1)) trodAll_mk0), rfl, bel.frame _, fun h => by cases h⟩

theorem row : Rows.CrosswalkTextSaid :=
  OpenClaim.holds_of_wide 4 Tryz.f4 rfl rfl rfl rfl rfl rfl rfl ⟨rfl, rfl, rfl, rfl, rfl⟩ rfl rfl rfl rfl rfl (by kernel_rfl) Tryz.func4 (by kernel_rfl)
    (of_decide_eq_true (by kernel_rfl)) (by unfold Func.isWrapper; first | (rw [if_pos (by decide +kernel)]; kernel_rfl) | (rw [if_neg (by decide +kernel)]; exact ⟨rfl, rfl⟩))
    (fun os started H enc _ => lifted os started H enc)
end Go.Proofs.YtidmlhihfanglaaGreatDoor.T4
namespace Go.Proofs.YtidmlhihfanglaaGreatDoor
theorem crosswalkText_card_holds : Rows.CrosswalkTextCardSaid :=
  Claim7.holds_tied_plain_at .later [] [.data, .pinned] true (true, "b51539c91879ec4d38396b6d5a412dac17c0dbd311ff94de4a9d5724e940a2a1") false T4.row (fun _ h => by cases h) (by kernel_rfl) (fun _ h => by cases h) crosswalkText_row_tie rfl ⟨rfl, rfl⟩ (by kernel_rfl) rfl
    (fun f fn hf hfn => by
      obtain rfl : f = 4 := Option.some.inj ((show Tryz.prog.funcNamed "bookplate/bookplatelaw16.CrosswalkText" = some 4 by kernel_rfl).symm.trans hf) |>.symm
      obtain rfl : fn = Tryz.f4 := (Option.some.inj (Tryz.func4.symm.trans hfn)).symm
      exact ⟨by kernel_rfl, fun j t ht => by
        rw [Tryz.params4] at ht
        have hm : t ∈ [9, 22] := by simpa using Array.mem_of_getElem? ht
        have hall : ([9, 22].all fun u => !Tryz.prog.wantsStandIn u) = true := by kernel_rfl
        exact (show Tryz.prog.wantsStandIn t = false by simpa using List.all_eq_true.1 hall t hm)⟩)
    (by kernel_rfl)
#print axioms crosswalkText_card_holds
end Go.Proofs.YtidmlhihfanglaaGreatDoor
